/- Sectors, records on them, and a log in one of a disk's halves, in plain Lean. No program in sight. -/
import Derived.Test.YtlpjmkkinlcbnaaGreatDoorCrcSpec
import Derived.Test.YtlpjmkkinlcbnaaGreatDoorArcSpec
namespace Go.Proofs.YtlpjmkkinlcbnaaGreatDoor
/-- What each sector has. -/
abbrev Img := Nat → List UInt8
def zeroS : List UInt8 := List.replicate 64 0
def setI (k : Img) (p : Nat) (s : List UInt8) : Img := fun q => if q = p then s else k q
/-- Writes, one behind the other. -/
def applyI : Img → List (Nat × List UInt8) → Img
  | k, [] => k
  | k, x :: r => applyI (setI k x.1 x.2) r
theorem applyI_app : ∀ (L M : List (Nat × List UInt8)) (k : Img), applyI k (L ++ M) = applyI (applyI k L) M
  | [], _, _ => rfl
  | x :: L, M, k => applyI_app L M (setI k x.1 x.2)
theorem applyI_len {n : Nat} : ∀ {L : List (Nat × List UInt8)} {k : Img}, (∀ p, p < n → (k p).length = 64) → (∀ x ∈ L, x.2.length = 64) → ∀ p, p < n → (applyI k L p).length = 64
  | [], _, h, _ => h
  | x :: L, k, h, a => applyI_len (L := L) (fun p hp => by unfold setI; split; exact a x (by simp); exact h p hp) fun y hy => a y (by simp [hy])
/-- How many sectors a record of so many bytes has; how many a half has. -/
def secN (n : Nat) : Nat := (78 + n) / 63
def halfN (n : Nat) : Nat := (n - 2) / 2
theorem secN_pos (n : Nat) : 1 ≤ secN n := by unfold secN; omega
theorem secN_room (n : Nat) : 16 + n ≤ 63 * secN n := by unfold secN; omega
theorem secN_tight (n : Nat) : 63 * (secN n - 1) < 16 + n := by unfold secN; omega
/-- A sector: its mark, and as many bytes as it has room for, filled up with noughts. -/
def padS (m : UInt8) (l : List UInt8) : List UInt8 := m :: (l.take 63 ++ List.replicate (63 - l.length) 0)
theorem padS_len (m : UInt8) (l : List UInt8) : (padS m l).length = 64 := by
  simp only [padS, List.length_cons, List.length_append, List.length_take, List.length_replicate]; omega
def sumL (seq epoch : Nat) (b : List UInt8) : Nat := (crcL (num4 seq ++ num4 epoch ++ b)).toNat
theorem sumL_lt (seq epoch : Nat) (b : List UInt8) : sumL seq epoch b < 4294967296 := (crcL _).isLt
def recAll (seq epoch : Nat) (b : List UInt8) : List UInt8 := num4 b.length ++ num4 seq ++ num4 epoch ++ num4 (sumL seq epoch b) ++ b
theorem recAll_len (seq epoch : Nat) (b : List UInt8) : (recAll seq epoch b).length = 16 + b.length := by
  simp only [recAll, List.length_append, num4_len]
def markS (i : Nat) : UInt8 := if i = 0 then 2 else 3
/-- A record's i-th sector. -/
def recS (seq epoch : Nat) (b : List UInt8) (i : Nat) : List UInt8 := padS (markS i) ((recAll seq epoch b).drop (63 * i))
theorem recS_len (seq epoch : Nat) (b : List UInt8) (i : Nat) : (recS seq epoch b i).length = 64 := padS_len _ _
/-- A record, written from a sector on. -/
def putI (k : Img) (base seq epoch : Nat) (b : List UInt8) : Img := fun p => if base ≤ p ∧ p < base + secN b.length then recS seq epoch b (p - base) else k p
def putN (k : Img) (base seq epoch : Nat) (b : List UInt8) (n : Nat) : Img := fun p => if base ≤ p ∧ p < base + n then recS seq epoch b (p - base) else k p
theorem putN_zero (k : Img) (base seq epoch : Nat) (b : List UInt8) : putN k base seq epoch b 0 = k := by
  funext p; unfold putN; rw [if_neg (by omega)]
theorem putN_succ (k : Img) (base seq epoch : Nat) (b : List UInt8) (n : Nat) : putN k base seq epoch b (n + 1) = setI (putN k base seq epoch b n) (base + n) (recS seq epoch b n) := by
  funext p; simp only [putN, setI]
  by_cases h : p = base + n
  · subst h
    rw [if_pos (by omega), if_pos rfl]; congr 1; omega
  · rw [if_neg h]
    by_cases h2 : base ≤ p ∧ p < base + n
    · rw [if_pos (by omega), if_pos h2]
    · rw [if_neg (by omega), if_neg h2]
/-- A head's sector. -/
def hdrB (epoch : Nat) : List UInt8 := 1 :: num4 epoch
def hdrS (epoch : Nat) : List UInt8 := hdrB epoch ++ num4 (crcL (hdrB epoch)).toNat ++ List.replicate 55 0
theorem hdrS_len (epoch : Nat) : (hdrS epoch).length = 64 := by simp [hdrS, hdrB, num4_len]
/-- What stands in a sector as a record's epoch. -/
def epochS (s : List UInt8) : Nat := (rNum 2147483648 ((s.drop 9).take 4, false)).1
def firstS (s : List UInt8) : Bool := decide (s.getD 0 0 = 2)
/-- The header of a record's first sector, number by number. -/
def hdS (s : List UInt8) : RSt := ((s.drop 1).take 16, false)
def hd1 (s : List UInt8) : Nat × RSt := rNum 4096 (hdS s)
def hd2 (s : List UInt8) : Nat × RSt := rNum 2147483648 (hd1 s).2
def hd3 (s : List UInt8) : Nat × RSt := rNum 2147483648 (hd2 s).2
def hd4 (s : List UInt8) : Nat × RSt := rNum 4294967295 (hd3 s).2
theorem recS_head (seq epoch : Nat) (b : List UInt8) : ((recS seq epoch b 0).drop 1).take 16 = num4 b.length ++ num4 seq ++ num4 epoch ++ num4 (sumL seq epoch b) := by
  simp only [recS, padS, Nat.mul_zero, List.drop_zero, List.drop_succ_cons]
  rw [List.take_append_of_le_length (by rw [List.length_take, recAll_len]; omega), List.take_take]
  have : min 16 63 = 16 := rfl
  rw [this]
  have e : recAll seq epoch b = (num4 b.length ++ num4 seq ++ num4 epoch ++ num4 (sumL seq epoch b)) ++ b := rfl
  rw [e, List.take_append_of_le_length (by simp [num4_len]), List.take_of_length_le (by simp [num4_len])]
theorem recS_hd {seq epoch : Nat} {b : List UInt8} (hb : b.length ≤ 4096) (hs : seq ≤ 2147483648) (he : epoch ≤ 2147483648) :
    (hd1 (recS seq epoch b 0)).1 = b.length ∧ (hd2 (recS seq epoch b 0)).1 = seq ∧ (hd3 (recS seq epoch b 0)).1 = epoch ∧ hd4 (recS seq epoch b 0) = (sumL seq epoch b, ([], false)) := by
  have h := sumL_lt seq epoch b
  have e0 : hdS (recS seq epoch b 0) = (num4 b.length ++ (num4 seq ++ (num4 epoch ++ (num4 (sumL seq epoch b) ++ []))), false) := by
    unfold hdS; rw [recS_head]; simp only [List.append_assoc, List.append_nil]
  have e1 : hd1 (recS seq epoch b 0) = (b.length, (num4 seq ++ (num4 epoch ++ (num4 (sumL seq epoch b) ++ [])), false)) := by
    unfold hd1; rw [e0]; exact rNum_back (by omega) (by omega) _
  have e2 : hd2 (recS seq epoch b 0) = (seq, (num4 epoch ++ (num4 (sumL seq epoch b) ++ []), false)) := by
    unfold hd2; rw [e1]; exact rNum_back (by omega) (by omega) _
  have e3 : hd3 (recS seq epoch b 0) = (epoch, (num4 (sumL seq epoch b) ++ [], false)) := by
    unfold hd3; rw [e2]; exact rNum_back (by omega) (by omega) _
  refine ⟨by rw [e1], by rw [e2], by rw [e3], ?_⟩
  unfold hd4; rw [e3]; exact rNum_back (by omega) (by omega) _
theorem recS_mark (seq epoch : Nat) (b : List UInt8) (i : Nat) : (recS seq epoch b i).getD 0 0 = markS i := rfl
theorem rNum_bad {most : Nat} {s : RSt} (h : s.2 = true) : (rNum most s).2.2 = true := by
  unfold rNum; split
  · rfl
  · split
    · rfl
    · exact h
theorem rNum_fine {most : Nat} {s : RSt} (h : (rNum most s).2.2 = false) : 4 ≤ s.1.length ∧ rNum most s = (le32 s.1, (s.1.drop 4, s.2)) ∧ le32 s.1 ≤ most ∧ s.2 = false := by
  unfold rNum at h ⊢
  split at h
  · cases h
  · split at h
    · cases h
    · rename_i h1 h2
      rw [if_neg h1, if_neg h2]
      exact ⟨by omega, rfl, by omega, h⟩
theorem byteAt_drop (l : List UInt8) (i j : Nat) : byteAt (l.drop i) j = byteAt l (i + j) := by
  unfold byteAt; simp only [List.getD_eq_getElem?_getD, List.getElem?_drop]
theorem byteAt_take (l : List UInt8) {i j : Nat} (h : j < i) : byteAt (l.take i) j = byteAt l j := by
  unfold byteAt; simp only [List.getD_eq_getElem?_getD, List.getElem?_take, if_pos h]
theorem le32_take (l : List UInt8) {i : Nat} (h : 4 ≤ i) : le32 (l.take i) = le32 l := by
  unfold le32; rw [byteAt_take l (by omega), byteAt_take l (by omega), byteAt_take l (by omega), byteAt_take l (by omega)]
/-- Where the header is good its epoch is what stands there. -/
theorem hd_epoch {s : List UInt8} (h : (hd4 s).2.2 = false) : (hd3 s).1 = epochS s := by
  have f4 := rNum_fine h
  have f3 := rNum_fine f4.2.2.2
  have f2 := rNum_fine f3.2.2.2
  have f1 := rNum_fine f2.2.2.2
  have e1 : (hd1 s).2 = (((s.drop 1).take 16).drop 4, false) := by unfold hd1; rw [f1.2.1]; rfl
  have e2 : (hd2 s).2 = ((((s.drop 1).take 16).drop 4).drop 4, false) := by
    unfold hd2; rw [f2.2.1, e1]
  have e3 : (hd3 s).1 = le32 ((((s.drop 1).take 16).drop 4).drop 4) := by unfold hd3; rw [f3.2.1, e2]
  have e5 : (((s.drop 1).take 16).drop 4).drop 4 = (s.drop 9).take 8 := by
    rw [List.drop_drop, List.drop_take, List.drop_drop]
  have hl := f3.1
  rw [e2, e5] at hl
  have hl : 4 ≤ (s.drop 9).length := by rw [List.length_take] at hl; omega
  have hm := f3.2.2.1
  rw [e2, e5, le32_take _ (by omega)] at hm
  rw [e3, e5, le32_take _ (by omega)]
  unfold epochS rNum
  have h1 : ¬ ((s.drop 9).take 4).length < 4 := by rw [List.length_take]; omega
  simp only [if_neg h1, le32_take (s.drop 9) (Nat.le_refl 4)]
  rw [if_neg (by omega)]
theorem recS_epoch {seq epoch : Nat} {b : List UInt8} (hb : b.length ≤ 4096) (hs : seq ≤ 2147483648) (he : epoch ≤ 2147483648) : epochS (recS seq epoch b 0) = epoch := by
  obtain ⟨_, _, h3, h4⟩ := recS_hd hb hs he
  rw [← hd_epoch (by rw [h4]), h3]
/-- The bytes of a record's sectors, behind its header. -/
def dataI (f : Nat → List UInt8) : Nat → List UInt8
  | 0 => (f 0).drop 17
  | i + 1 => dataI f i ++ (f (i + 1)).drop 1
def fillR (seq epoch : Nat) (b : List UInt8) : List UInt8 := recAll seq epoch b ++ List.replicate (63 * secN b.length - (16 + b.length)) 0
theorem fillR_len (seq epoch : Nat) (b : List UInt8) : (fillR seq epoch b).length = 63 * secN b.length := by
  have := secN_room b.length
  simp only [fillR, List.length_append, recAll_len, List.length_replicate]; omega
theorem recS_fill (seq epoch : Nat) (b : List UInt8) {i : Nat} (hi : i < secN b.length) : (recS seq epoch b i).drop 1 = ((fillR seq epoch b).drop (63 * i)).take 63 := by
  have h1 := secN_room b.length
  have h2 := secN_tight b.length
  have hl := recAll_len seq epoch b
  have h3 : 63 * (i + 1) ≤ 63 * secN b.length := Nat.mul_le_mul_left _ hi
  have h4 : 63 * i ≤ 63 * (secN b.length - 1) := Nat.mul_le_mul_left _ (by omega)
  simp only [recS, padS, List.drop_succ_cons, List.drop_zero, fillR]
  rw [List.drop_append_of_le_length (by omega)]
  by_cases h : 63 ≤ ((recAll seq epoch b).drop (63 * i)).length
  · rw [List.take_append_of_le_length h]
    have e : 63 - ((recAll seq epoch b).drop (63 * i)).length = 0 := by omega
    rw [e]; simp
  · rw [List.take_append, List.take_replicate, List.take_of_length_le (by omega)]
    congr 2
    rw [List.length_drop] at h ⊢
    omega
theorem dataI_fill (seq epoch : Nat) (b : List UInt8) : ∀ (i : Nat), i < secN b.length → dataI (recS seq epoch b) i = ((fillR seq epoch b).take (63 * (i + 1))).drop 16
  | 0, h => by
    have e := recS_fill seq epoch b h
    simp only [dataI]
    have : (recS seq epoch b 0).drop 17 = ((recS seq epoch b 0).drop 1).drop 16 := by rw [List.drop_drop]
    rw [this, e]; rfl
  | i + 1, h => by
    have h1 := fillR_len seq epoch b
    have h3 : 63 * (i + 2) ≤ 63 * secN b.length := Nat.mul_le_mul_left _ h
    rw [dataI, dataI_fill seq epoch b i (by omega), recS_fill seq epoch b h]
    have e : 63 * (i + 1 + 1) = 63 * (i + 1) + 63 := by omega
    rw [e, List.take_add, List.drop_append_of_le_length (by rw [List.length_take]; omega)]
theorem dataI_rec (seq epoch : Nat) (b : List UInt8) : (dataI (recS seq epoch b) (secN b.length - 1)).take b.length = b := by
  have h0 := secN_pos b.length
  have e0 : (fillR seq epoch b).take (63 * secN b.length) = fillR seq epoch b := List.take_of_length_le (by rw [fillR_len]; exact Nat.le_refl _)
  rw [dataI_fill seq epoch b _ (by omega), Nat.sub_add_cancel h0, e0]
  have e : fillR seq epoch b = (num4 b.length ++ num4 seq ++ num4 epoch ++ num4 (sumL seq epoch b)) ++ (b ++ List.replicate (63 * secN b.length - (16 + b.length)) 0) := by
    simp only [fillR, recAll, List.append_assoc]
  rw [e, List.drop_append_of_le_length (by simp [num4_len]), List.drop_of_length_le (by simp [num4_len]), List.nil_append, List.take_append_of_le_length (Nat.le_refl _), List.take_of_length_le (Nat.le_refl _)]
theorem dataI_congr {f g : Nat → List UInt8} : ∀ (i : Nat), (∀ j, j ≤ i → f j = g j) → dataI f i = dataI g i
  | 0, h => by rw [dataI, dataI, h 0 (Nat.le_refl _)]
  | i + 1, h => by rw [dataI, dataI, dataI_congr i (fun j hj => h j (by omega)), h (i + 1) (Nat.le_refl _)]
/-- A log: its epoch, the greatest that was begun, which half is good, how many sectors are taken, its records. -/
structure LogD where
  epoch : Nat
  top : Nat
  half : Nat
  off : Nat
  list : List (List UInt8)
def baseN (n half : Nat) : Nat := 2 + half * halfN n
/-- Records lie from a sector on. -/
def RecsAt (img : Img) (epoch : Nat) : Nat → Nat → List (List UInt8) → Prop
  | _, _, [] => True
  | base, seq, b :: r => (∀ i, i < secN b.length → img (base + i) = recS seq epoch b i) ∧ RecsAt img epoch (base + secN b.length) (seq + 1) r
def secsN (L : List (List UInt8)) : Nat := (L.map fun b => secN b.length).sum
theorem secsN_app (L M : List (List UInt8)) : secsN (L ++ M) = secsN L + secsN M := by simp [secsN]
theorem secsN_cons (b : List UInt8) (L : List (List UInt8)) : secsN (b :: L) = secN b.length + secsN L := by simp [secsN]
theorem secsN_len : ∀ (L : List (List UInt8)), L.length ≤ secsN L
  | [] => Nat.le_refl _
  | b :: L => by
    have := secsN_len L
    have := secN_pos b.length
    rw [secsN_cons, List.length_cons]; omega
theorem RecsAt.congr {img jmg : Img} {epoch : Nat} : ∀ {L : List (List UInt8)} {base seq : Nat}, RecsAt img epoch base seq L → (∀ p, base ≤ p → p < base + secsN L → jmg p = img p) → RecsAt jmg epoch base seq L
  | [], _, _, _, _ => trivial
  | b :: L, base, seq, h, k => by
    rw [secsN_cons] at k
    exact ⟨fun i hi => (k _ (by omega) (by omega)).trans (h.1 i hi), RecsAt.congr h.2 fun p h1 h2 => k p (by omega) (by omega)⟩
theorem RecsAt.app {img : Img} {epoch : Nat} {b : List UInt8} : ∀ {L : List (List UInt8)} {base seq : Nat}, RecsAt img epoch base seq L → (∀ i, i < secN b.length → img (base + secsN L + i) = recS (seq + L.length) epoch b i) → RecsAt img epoch base seq (L ++ [b])
  | [], base, seq, _, k => ⟨fun i hi => by simpa [secsN] using k i hi, trivial⟩
  | c :: L, base, seq, h, k => by
    refine ⟨h.1, RecsAt.app h.2 fun i hi => ?_⟩
    have := k i hi
    rw [secsN_cons, List.length_cons] at this
    rw [show base + secN c.length + secsN L + i = base + (secN c.length + secsN L) + i by omega, this]
    congr 1; omega
theorem RecsAt.split {img : Img} {epoch : Nat} : ∀ {L M : List (List UInt8)} {base seq : Nat}, RecsAt img epoch base seq (L ++ M) → RecsAt img epoch (base + secsN L) (seq + L.length) M
  | [], M, base, seq, h => by simpa [secsN] using h
  | c :: L, M, base, seq, h => by
    have := RecsAt.split (L := L) h.2
    rw [secsN_cons, List.length_cons]
    rw [show base + (secN c.length + secsN L) = base + secN c.length + secsN L by omega, show seq + (L.length + 1) = seq + 1 + L.length by omega]
    exact this
/-- Nothing of this epoch begins here. -/
def StaleS (epoch : Nat) (s : List UInt8) : Prop := firstS s = true → epochS s < epoch
/-- A log lies on a disk as it should. -/
structure GoodLog (n : Nat) (img : Img) (L : LogD) : Prop where
  six : 6 ≤ n ∧ n ≤ 4096
  len : ∀ p, p < n → (img p).length = 64
  half : L.half ≤ 1
  epoch : 1 ≤ L.epoch ∧ L.epoch ≤ L.top
  head : img L.half = hdrS L.epoch
  other : img (1 - L.half) = zeroS ∨ ∃ e, e < L.epoch ∧ img (1 - L.half) = hdrS e
  recs : RecsAt img L.epoch (baseN n L.half) 0 L.list
  off : L.off = secsN L.list ∧ L.off ≤ halfN n
  long : ∀ b ∈ L.list, b.length ≤ 4096
  rest : ∀ p, L.off ≤ p → p < halfN n → StaleS L.epoch (img (baseN n L.half + p))
  tops : ∀ p, 2 ≤ p → p < n → StaleS (L.top + 1) (img p)
/-- A record more. -/
def appL (L : LogD) (b : List UInt8) : LogD := { L with off := L.off + secN b.length, list := L.list ++ [b] }
theorem baseN_lt {n half : Nat} (h : half ≤ 1) (h6 : 6 ≤ n) : 2 ≤ baseN n half ∧ baseN n half + halfN n ≤ n := by
  unfold baseN halfN
  rcases (by omega : half = 0 ∨ half = 1) with rfl | rfl <;> omega
theorem GoodLog.append {n : Nat} {img : Img} {L : LogD} {b : List UInt8} (h : GoodLog n img L) (hb : b.length ≤ 4096) (hr : L.off + secN b.length ≤ halfN n) (ht : L.top ≤ 2147483647) :
    GoodLog n (putI img (baseN n L.half + L.off) L.list.length L.epoch b) (appL L b) := by
  have hb2 := baseN_lt h.half h.six.1
  have ho := h.off
  have hs := secN_pos b.length
  have hlen := secsN_len L.list
  have h6 := h.six
  have hhalf : halfN n ≤ 2047 := by unfold halfN; omega
  have hbase : baseN n (appL L b).half = baseN n L.half := rfl
  have hep : epochS (recS L.list.length L.epoch b 0) = L.epoch := recS_epoch hb (by omega) (by have := h.epoch; omega)
  have low : ∀ p, p < 2 → putI img (baseN n L.half + L.off) L.list.length L.epoch b p = img p := by
    intro p hp; unfold putI; rw [if_neg (by omega)]
  have hh := h.half
  refine ⟨h.six, fun p hp => ?_, h.half, h.epoch, ?_, ?_, ?_, ?_, ?_, ?_, ?_⟩
  · unfold putI; split
    · exact recS_len _ _ _ _
    · exact h.len p hp
  · rw [low _ (by show L.half < 2; omega)]; exact h.head
  · show putI img _ _ _ b (1 - L.half) = _ ∨ _
    rcases h.other with h1 | ⟨e, he, h1⟩
    · left; rw [low _ (by omega)]; exact h1
    · right; exact ⟨e, he, by rw [show (appL L b).half = L.half from rfl, low _ (by omega)]; exact h1⟩
  · rw [hbase]
    refine RecsAt.app (h.recs.congr fun p h1 h2 => ?_) fun i hi => ?_
    · unfold putI; rw [if_neg (by omega)]
    · rw [← ho.1]
      unfold putI
      rw [if_pos (by omega), Nat.zero_add]
      congr 1; omega
  · refine ⟨?_, hr⟩
    show L.off + secN b.length = secsN (L.list ++ [b])
    rw [secsN_app, ho.1]; simp [secsN]
  · intro c hc
    rcases List.mem_append.1 hc with hc | hc
    · exact h.long c hc
    · rw [List.mem_singleton.1 hc]; exact hb
  · intro p h1 h2
    have h1 : L.off + secN b.length ≤ p := h1
    rw [hbase]
    unfold putI; rw [if_neg (by omega)]
    exact h.rest p (by omega) h2
  · intro p h1 h2
    show StaleS (L.top + 1) _
    unfold putI; split
    · rename_i hp
      intro hf
      rcases Nat.eq_zero_or_pos (p - (baseN n L.half + L.off)) with e | e
      · rw [e, hep]; have := h.epoch; omega
      · unfold firstS at hf
        rw [recS_mark] at hf
        unfold markS at hf
        rw [if_neg (by omega)] at hf
        exact absurd hf (by decide)
    · exact h.tops p h1 h2
/-- Records, written one behind the other. -/
def putsI (k : Img) (base seq epoch : Nat) : List (List UInt8) → Img
  | [] => k
  | b :: r => putsI (putI k base seq epoch b) (base + secN b.length) (seq + 1) epoch r
theorem putsI_app (epoch : Nat) (b : List UInt8) : ∀ (L : List (List UInt8)) (k : Img) (base seq : Nat), putsI k base seq epoch (L ++ [b]) = putI (putsI k base seq epoch L) (base + secsN L) (seq + L.length) epoch b
  | [], k, base, seq => rfl
  | c :: L, k, base, seq => by
    rw [List.cons_append, putsI, putsI_app epoch b L, secsN_cons, List.length_cons, putsI]
    congr 1 <;> omega
theorem putsI_out (epoch : Nat) : ∀ (L : List (List UInt8)) (k : Img) (base seq p : Nat), p < base ∨ base + secsN L ≤ p → putsI k base seq epoch L p = k p
  | [], _, _, _, _, _ => rfl
  | c :: L, k, base, seq, p, h => by
    rw [secsN_cons] at h
    rw [putsI, putsI_out epoch L _ _ _ _ (by omega)]
    unfold putI; rw [if_neg (by omega)]
theorem putsI_recs (epoch : Nat) : ∀ (L : List (List UInt8)) (k : Img) (base seq : Nat), RecsAt (putsI k base seq epoch L) epoch base seq L
  | [], _, _, _ => trivial
  | c :: L, k, base, seq => by
    refine ⟨fun i hi => ?_, putsI_recs epoch L _ _ _⟩
    rw [putsI, putsI_out epoch L _ _ _ _ (by omega)]
    unfold putI; rw [if_pos (by omega)]; congr 1; omega
theorem putsI_in (epoch : Nat) : ∀ (L : List (List UInt8)) (k : Img) (base seq p : Nat), base ≤ p → p < base + secsN L → ∃ b ∈ L, ∃ s i, s < seq + L.length ∧ i < secN b.length ∧ putsI k base seq epoch L p = recS s epoch b i
  | [], _, base, _, p, h1, h2 => by simp [secsN] at h2; omega
  | c :: L, k, base, seq, p, h1, h2 => by
    rw [secsN_cons] at h2
    by_cases h : p < base + secN c.length
    · refine ⟨c, List.mem_cons_self, seq, p - base, by rw [List.length_cons]; omega, by omega, ?_⟩
      rw [putsI, putsI_out epoch L _ _ _ _ (by omega)]
      unfold putI; rw [if_pos (by omega)]
    · obtain ⟨b, hb, s, i, hs, hi, e⟩ := putsI_in epoch L (putI k base seq epoch c) (base + secN c.length) (seq + 1) p (by omega) (by omega)
      exact ⟨b, List.mem_cons_of_mem _ hb, s, i, by rw [List.length_cons]; omega, hi, e⟩
/-- What a log must be for a new one in its place. -/
structure WeakLog (n : Nat) (img : Img) (L : LogD) : Prop where
  six : 6 ≤ n ∧ n ≤ 4096
  len : ∀ p, p < n → (img p).length = 64
  half : L.half ≤ 1
  head : img L.half = zeroS ∨ ∃ e, e ≤ L.top ∧ img L.half = hdrS e
  tops : ∀ p, 2 ≤ p → p < n → StaleS (L.top + 1) (img p)
theorem GoodLog.weak {n : Nat} {img : Img} {L : LogD} (h : GoodLog n img L) : WeakLog n img L :=
  ⟨h.six, h.len, h.half, Or.inr ⟨_, h.epoch.2, h.head⟩, h.tops⟩
def newL (L : LogD) (rows : List (List UInt8)) : LogD := ⟨L.top + 1, L.top + 1, 1 - L.half, secsN rows, rows⟩
def rewI (n : Nat) (img : Img) (L : LogD) (rows : List (List UInt8)) : Img := setI (putsI img (baseN n (1 - L.half)) 0 (L.top + 1) rows) (1 - L.half) (hdrS (L.top + 1))
theorem WeakLog.rewrite {n : Nat} {img : Img} {L : LogD} {rows : List (List UInt8)} (h : WeakLog n img L) (hb : ∀ b ∈ rows, b.length ≤ 4096) (hr : secsN rows ≤ halfN n) (ht : L.top ≤ 2147483646) :
    GoodLog n (rewI n img L rows) (newL L rows) := by
  have hh := h.half
  have h6 := h.six
  have hb2 := baseN_lt (n := n) (half := 1 - L.half) (by omega) h.six.1
  have hlen := secsN_len rows
  have hhalf : halfN n ≤ 2047 := by unfold halfN; omega
  have out : ∀ p, p ≠ 1 - L.half → rewI n img L rows p = putsI img (baseN n (1 - L.half)) 0 (L.top + 1) rows p := by
    intro p hp; unfold rewI setI; rw [if_neg hp]
  have kind : ∀ p, rewI n img L rows p = hdrS (L.top + 1) ∧ p = 1 - L.half ∨ rewI n img L rows p = img p ∨ ∃ b ∈ rows, ∃ s i, s < rows.length ∧ i < secN b.length ∧ rewI n img L rows p = recS s (L.top + 1) b i := by
    intro p
    by_cases e : p = 1 - L.half
    · left; refine ⟨?_, e⟩; unfold rewI setI; rw [if_pos e]
    · right
      rw [out p e]
      by_cases h1 : baseN n (1 - L.half) ≤ p ∧ p < baseN n (1 - L.half) + secsN rows
      · right
        obtain ⟨b, hb, s, i, hs, hi, e⟩ := putsI_in (L.top + 1) rows img (baseN n (1 - L.half)) 0 p h1.1 h1.2
        exact ⟨b, hb, s, i, by omega, hi, e⟩
      · left; exact putsI_out _ _ _ _ _ _ (by omega)
  refine ⟨h.six, fun p hp => ?_, (by show 1 - L.half ≤ 1; omega), ⟨(by show 1 ≤ L.top + 1; omega), Nat.le_refl _⟩, ?_, ?_, ?_, ⟨rfl, hr⟩, hb, ?_, ?_⟩
  · rcases kind p with ⟨e, _⟩ | e | ⟨b, _, s, i, _, _, e⟩
    · rw [e]; exact hdrS_len _
    · rw [e]; exact h.len p hp
    · rw [e]; exact recS_len _ _ _ _
  · show rewI n img L rows (1 - L.half) = _
    unfold rewI setI; rw [if_pos rfl]; rfl
  · show rewI n img L rows (1 - (1 - L.half)) = _ ∨ _
    have e : 1 - (1 - L.half) = L.half := by omega
    have e2 : rewI n img L rows (1 - (newL L rows).half) = img L.half := by
      show rewI n img L rows (1 - (1 - L.half)) = _
      rw [e, out _ (by omega), putsI_out _ _ _ _ _ _ (by omega)]
    rcases h.head with h | ⟨e, he, h⟩
    · left; exact e2.trans h
    · right; exact ⟨e, (by show e < L.top + 1; omega), e2.trans h⟩
  · refine (putsI_recs (L.top + 1) rows img (baseN n (1 - L.half)) 0).congr fun p h1 h2 => out p ?_
    have h1 : baseN n (1 - L.half) ≤ p := h1
    omega
  · intro p h1 h2
    have h1 : secsN rows ≤ p := h1
    show StaleS (L.top + 1) (rewI n img L rows (baseN n (1 - L.half) + p))
    rw [out _ (by omega), putsI_out _ _ _ _ _ _ (by omega)]
    exact h.tops _ (by omega) (by omega)
  · intro p h1 h2
    show StaleS (L.top + 1 + 1) _
    rcases kind p with ⟨_, e⟩ | e | ⟨b, hbm, s, i, hs, hi, e⟩
    · omega
    · rw [e]; intro hf; have := h.tops p h1 h2 hf; omega
    · rw [e]
      intro hf
      rcases Nat.eq_zero_or_pos i with e | e
      · rw [e, recS_epoch (hb b hbm) (by omega) (by omega)]; omega
      · unfold firstS at hf
        rw [recS_mark] at hf
        unfold markS at hf
        rw [if_neg (by omega)] at hf
        exact absurd hf (by decide)
/-- The greatest epoch of the first sectors. -/
def topI (img : Img) (epoch : Nat) : Nat → Nat
  | 0 => epoch
  | i + 1 => if firstS (img (2 + i)) = true then max (topI img epoch i) (epochS (img (2 + i))) else topI img epoch i
theorem topI_le (img : Img) (epoch : Nat) : ∀ (i : Nat), epoch ≤ topI img epoch i
  | 0 => Nat.le_refl _
  | i + 1 => by have := topI_le img epoch i; unfold topI; split <;> omega
theorem topI_all (img : Img) (epoch : Nat) : ∀ (i p : Nat), 2 ≤ p → p < 2 + i → firstS (img p) = true → epochS (img p) ≤ topI img epoch i
  | 0, p, h1, h2, _ => by omega
  | i + 1, p, h1, h2, hf => by
    rcases (by omega : p = 2 + i ∨ p < 2 + i) with e | h
    · subst e; unfold topI; rw [if_pos hf]; omega
    · have := topI_all img epoch i p h1 h hf
      unfold topI; split <;> omega
theorem topI_most (img : Img) (epoch top : Nat) (he : epoch ≤ top) : ∀ (i : Nat), (∀ p, 2 ≤ p → p < 2 + i → StaleS (top + 1) (img p)) → topI img epoch i ≤ top
  | 0, _ => he
  | i + 1, h => by
    have h1 := topI_most img epoch top he i fun p h1 h2 => h p h1 (by omega)
    unfold topI; split
    · rename_i hf; have := h (2 + i) (by omega) (by omega) hf; omega
    · exact h1
theorem GoodLog.reopen {n : Nat} {img : Img} {L : LogD} (h : GoodLog n img L) : GoodLog n img { L with top := topI img L.epoch (n - 2) } ∧ topI img L.epoch (n - 2) ≤ L.top := by
  have h6 := h.six
  have h1 := topI_le img L.epoch (n - 2)
  refine ⟨⟨h.six, h.len, h.half, ⟨h.epoch.1, h1⟩, h.head, h.other, h.recs, h.off, h.long, h.rest, ?_⟩, topI_most _ _ _ h.epoch.2 _ fun p h2 h3 => h.tops p h2 (by omega)⟩
  intro p h2 h3 hf
  have := topI_all img L.epoch (n - 2) p h2 (by omega) hf
  show epochS (img p) < topI img L.epoch (n - 2) + 1
  omega
theorem zeroS_first : firstS zeroS = false := by decide
theorem zeroS_len : zeroS.length = 64 := List.length_replicate
theorem topI_zero {img : Img} : ∀ (i : Nat), (∀ p, p < 2 + i → img p = zeroS) → topI img 0 i = 0
  | 0, _ => rfl
  | i + 1, h => by
    unfold topI
    rw [h (2 + i) (by omega), zeroS_first]
    exact topI_zero i fun p hp => h p (by omega)
def log0 : LogD := ⟨0, 0, 0, 0, []⟩
theorem weak_zero {n : Nat} {img : Img} (h6 : 6 ≤ n ∧ n ≤ 4096) (h : ∀ p, p < n → img p = zeroS) : WeakLog n img log0 :=
  ⟨h6, fun p hp => by rw [h p hp]; exact zeroS_len, by decide, Or.inl (h _ (by show 0 < n; omega)), fun p _ h2 hf => by rw [h p h2, zeroS_first] at hf; cases hf⟩
/-- What stands behind the records that were read: the next one, or nothing of this epoch. -/
theorem GoodLog.nth {n : Nat} {img : Img} {L : LogD} (h : GoodLog n img L) {j : Nat} (hj : j < L.list.length) :
    (∀ i, i < secN (L.list.getD j []).length → img (baseN n L.half + secsN (L.list.take j) + i) = recS j L.epoch (L.list.getD j []) i) ∧ secsN (L.list.take j) + secN (L.list.getD j []).length ≤ halfN n ∧ (L.list.getD j []).length ≤ 4096 ∧ secsN (L.list.take (j + 1)) = secsN (L.list.take j) + secN (L.list.getD j []).length := by
  have e : L.list.getD j [] = L.list[j] := by simp [List.getD_eq_getElem?_getD, List.getElem?_eq_getElem hj]
  have e2 : L.list = L.list.take j ++ L.list[j] :: L.list.drop (j + 1) := by
    rw [← List.drop_eq_getElem_cons hj, List.take_append_drop]
  have hr := h.recs
  rw [e2] at hr
  have h2 := RecsAt.split hr
  have h3 : secsN (L.list.take (j + 1)) = secsN (L.list.take j) + secN (L.list.getD j []).length := by
    rw [List.take_succ_eq_append_getElem hj, secsN_app, e]; simp [secsN]
  refine ⟨fun i hi => ?_, ?_, by rw [e]; exact h.long _ (List.getElem_mem hj), h3⟩
  · rw [e] at hi ⊢
    have h4 := h2.1 i hi
    rw [h4, List.length_take_of_le (by omega), Nat.zero_add]
  · rw [← h3]
    have h5 := h.off
    have h6 : secsN L.list = secsN (L.list.take (j + 1)) + secsN (L.list.drop (j + 1)) := by rw [← secsN_app, List.take_append_drop]
    omega
end Go.Proofs.YtlpjmkkinlcbnaaGreatDoor
