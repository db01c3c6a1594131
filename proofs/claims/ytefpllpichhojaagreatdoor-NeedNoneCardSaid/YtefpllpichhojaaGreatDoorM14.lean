/- Several texts of mine, one behind the other: LogSpec, TreeSpec, TreeLaws, TreeMem, CloneY, DiskMem, OrdersK, OrdersKA, BigRow. -/
import Derived.Test.YtefpllpichhojaaGreatDoorM9
import Derived.Test.YtefpllpichhojaaGreatDoorM5
import Derived.Shelf.SlicesE.Clone
import Derived.Deep.AppendLies
import Derived.Deep.MidRow
import Derived.OrdersHeld
import Derived.Deep.RegionHeld3
import Derived.Laws.Tables
namespace Go.Proofs.YtefpllpichhojaaGreatDoor
abbrev Img := Nat → List UInt8
def zeroS : List UInt8 := List.replicate 64 0
def setI (k : Img) (p : Nat) (s : List UInt8) : Img := fun q => if q = p then s else k q
def applyI : Img → List (Nat × List UInt8) → Img
 | k, [] => k
 | k, x :: r => applyI (setI k x.1 x.2) r
theorem applyI_app : ∀ (L M : List (Nat × List UInt8)) (k : Img), applyI k (L ++ M) = applyI (applyI k L) M
 | [], _, _ => rfl
 | x :: L, M, k => applyI_app L M (setI k x.1 x.2)
theorem applyI_len {n : Nat} : ∀ {L : List (Nat × List UInt8)} {k : Img}, (∀ p, p < n → (k p).length = 64) → (∀ x ∈ L, x.2.length = 64) → ∀ p, p < n → (applyI k L p).length = 64
 | [], _, h, _ => h
 | x :: L, k, h, a => applyI_len (L := L) (fun p hp => by unfold setI; split; exact a x (by simp); exact h p hp) fun y hy => a y (by simp [hy])
def secN (n : Nat) : Nat := (78 + n) / 63
def halfN (n : Nat) : Nat := (n - 2) / 2
theorem secN_pos (n : Nat) : 1 ≤ secN n := by unfold secN; omega
theorem secN_room (n : Nat) : 16 + n ≤ 63 * secN n := by unfold secN; omega
theorem secN_tight (n : Nat) : 63 * (secN n - 1) < 16 + n := by unfold secN; omega
def padS (m : UInt8) (l : List UInt8) : List UInt8 := m :: (l.take 63 ++ List.replicate (63 - l.length) 0)
theorem padS_len (m : UInt8) (l : List UInt8) : (padS m l).length = 64 := by
 simp only [padS, List.length_cons, List.length_append, List.length_take, List.length_replicate]; omega
def sumL (seq epoch : Nat) (b : List UInt8) : Nat := (crcL (num4 seq ++ num4 epoch ++ b)).toNat
theorem sumL_lt (seq epoch : Nat) (b : List UInt8) : sumL seq epoch b < 4294967296 := (crcL _).isLt
def recAll (seq epoch : Nat) (b : List UInt8) : List UInt8 := num4 b.length ++ num4 seq ++ num4 epoch ++ num4 (sumL seq epoch b) ++ b
theorem recAll_len (seq epoch : Nat) (b : List UInt8) : (recAll seq epoch b).length = 16 + b.length := by
 simp only [recAll, List.length_append, num4_len]
def markS (i : Nat) : UInt8 := if i = 0 then 2 else 3
def recS (seq epoch : Nat) (b : List UInt8) (i : Nat) : List UInt8 := padS (markS i) ((recAll seq epoch b).drop (63 * i))
theorem recS_len (seq epoch : Nat) (b : List UInt8) (i : Nat) : (recS seq epoch b i).length = 64 := padS_len _ _
def putI (k : Img) (base seq epoch : Nat) (b : List UInt8) : Img := fun p => if base ≤ p ∧ p < base + secN b.length then recS seq epoch b (p - base) else k p
def putN (k : Img) (base seq epoch : Nat) (b : List UInt8) (n : Nat) : Img := fun p => if base ≤ p ∧ p < base + n then recS seq epoch b (p - base) else k p
theorem putN_zero (k : Img) (base seq epoch : Nat) (b : List UInt8) : putN k base seq epoch b 0 = k := by
 funext p; unfold putN; rw [if_neg (by omega)]
theorem putN_succ (k : Img) (base seq epoch : Nat) (b : List UInt8) (n : Nat) : putN k base seq epoch b (n + 1) = setI (putN k base seq epoch b n) (base + n) (recS seq epoch b n) := by
 funext p; simp only [putN, setI]
 by_cases h : p = base + n
 · subst h
   rw [if_pos (by omega), if_pos rfl]; congr 1; omega
 · rw [if_neg h]
   by_cases h2 : base ≤ p ∧ p < base + n
   · rw [if_pos (by omega), if_pos h2]
   · rw [if_neg (by omega), if_neg h2]
def hdrB (epoch : Nat) : List UInt8 := 1 :: num4 epoch
def hdrS (epoch : Nat) : List UInt8 := hdrB epoch ++ num4 (crcL (hdrB epoch)).toNat ++ List.replicate 55 0
theorem hdrS_len (epoch : Nat) : (hdrS epoch).length = 64 := by simp [hdrS, hdrB, num4_len]
def epochS (s : List UInt8) : Nat := (rNum 2147483648 ((s.drop 9).take 4, false)).1
def firstS (s : List UInt8) : Bool := decide (s.getD 0 0 = 2)
def hdS (s : List UInt8) : RSt := ((s.drop 1).take 16, false)
def hd1 (s : List UInt8) : Nat × RSt := rNum 4096 (hdS s)
def hd2 (s : List UInt8) : Nat × RSt := rNum 2147483648 (hd1 s).2
def hd3 (s : List UInt8) : Nat × RSt := rNum 2147483648 (hd2 s).2
def hd4 (s : List UInt8) : Nat × RSt := rNum 4294967295 (hd3 s).2
theorem recS_head (seq epoch : Nat) (b : List UInt8) : ((recS seq epoch b 0).drop 1).take 16 = num4 b.length ++ num4 seq ++ num4 epoch ++ num4 (sumL seq epoch b) := by
 simp only [recS, padS, Nat.mul_zero, List.drop_zero, List.drop_succ_cons]
 rw [List.take_append_of_le_length (by rw [List.length_take, recAll_len]; omega), List.take_take]
 have : min 16 63 = 16 := rfl
 rw [this]
 have e : recAll seq epoch b = (num4 b.length ++ num4 seq ++ num4 epoch ++ num4 (sumL seq epoch b)) ++ b := rfl
 rw [e, List.take_append_of_le_length (by simp [num4_len]), List.take_of_length_le (by simp [num4_len])]
theorem recS_hd {seq epoch : Nat} {b : List UInt8} (hb : b.length ≤ 4096) (hs : seq ≤ 2147483648) (he : epoch ≤ 2147483648) :
 (hd1 (recS seq epoch b 0)).1 = b.length ∧ (hd2 (recS seq epoch b 0)).1 = seq ∧ (hd3 (recS seq epoch b 0)).1 = epoch ∧ hd4 (recS seq epoch b 0) = (sumL seq epoch b, ([], false)) := by
 have h := sumL_lt seq epoch b
 have e0 : hdS (recS seq epoch b 0) = (num4 b.length ++ (num4 seq ++ (num4 epoch ++ (num4 (sumL seq epoch b) ++ []))), false) := by
  unfold hdS; rw [recS_head]; simp only [List.append_assoc, List.append_nil]
 have e1 : hd1 (recS seq epoch b 0) = (b.length, (num4 seq ++ (num4 epoch ++ (num4 (sumL seq epoch b) ++ [])), false)) := by
  unfold hd1; rw [e0]; exact rNum_back (by omega) (by omega) _
 have e2 : hd2 (recS seq epoch b 0) = (seq, (num4 epoch ++ (num4 (sumL seq epoch b) ++ []), false)) := by
  unfold hd2; rw [e1]; exact rNum_back (by omega) (by omega) _
 have e3 : hd3 (recS seq epoch b 0) = (epoch, (num4 (sumL seq epoch b) ++ [], false)) := by
  unfold hd3; rw [e2]; exact rNum_back (by omega) (by omega) _
 refine ⟨by rw [e1], by rw [e2], by rw [e3], ?_⟩
 unfold hd4; rw [e3]; exact rNum_back (by omega) (by omega) _
theorem recS_mark (seq epoch : Nat) (b : List UInt8) (i : Nat) : (recS seq epoch b i).getD 0 0 = markS i := rfl
theorem rNum_fine {most : Nat} {s : RSt} (h : (rNum most s).2.2 = false) : 4 ≤ s.1.length ∧ rNum most s = (le32 s.1, (s.1.drop 4, s.2)) ∧ le32 s.1 ≤ most ∧ s.2 = false := by
 unfold rNum at h ⊢
 split at h
 · cases h
 · split at h
   · cases h
   · rename_i h1 h2
     rw [if_neg h1, if_neg h2]
     exact ⟨by omega, rfl, by omega, h⟩
theorem byteAt_take (l : List UInt8) {i j : Nat} (h : j < i) : byteAt (l.take i) j = byteAt l j := by
 unfold byteAt; simp only [List.getD_eq_getElem?_getD, List.getElem?_take, if_pos h]
theorem le32_take (l : List UInt8) {i : Nat} (h : 4 ≤ i) : le32 (l.take i) = le32 l := by
 unfold le32; rw [byteAt_take l (by omega), byteAt_take l (by omega), byteAt_take l (by omega), byteAt_take l (by omega)]
theorem hd_epoch {s : List UInt8} (h : (hd4 s).2.2 = false) : (hd3 s).1 = epochS s := by
 have f4 := rNum_fine h
 have f3 := rNum_fine f4.2.2.2
 have f2 := rNum_fine f3.2.2.2
 have f1 := rNum_fine f2.2.2.2
 have e1 : (hd1 s).2 = (((s.drop 1).take 16).drop 4, false) := by unfold hd1; rw [f1.2.1]; rfl
 have e2 : (hd2 s).2 = ((((s.drop 1).take 16).drop 4).drop 4, false) := by
  unfold hd2; rw [f2.2.1, e1]
 have e3 : (hd3 s).1 = le32 ((((s.drop 1).take 16).drop 4).drop 4) := by unfold hd3; rw [f3.2.1, e2]
 have e5 : (((s.drop 1).take 16).drop 4).drop 4 = (s.drop 9).take 8 := by
  rw [List.drop_drop, List.drop_take, List.drop_drop]
 have hl := f3.1
 rw [e2, e5] at hl
 have hl : 4 ≤ (s.drop 9).length := by rw [List.length_take] at hl; omega
 have hm := f3.2.2.1
 rw [e2, e5, le32_take _ (by omega)] at hm
 rw [e3, e5, le32_take _ (by omega)]
 unfold epochS rNum
 have h1 : ¬ ((s.drop 9).take 4).length < 4 := by rw [List.length_take]; omega
 simp only [if_neg h1, le32_take (s.drop 9) (Nat.le_refl 4)]
 rw [if_neg (by omega)]
theorem recS_epoch {seq epoch : Nat} {b : List UInt8} (hb : b.length ≤ 4096) (hs : seq ≤ 2147483648) (he : epoch ≤ 2147483648) : epochS (recS seq epoch b 0) = epoch := by
 obtain ⟨_, _, h3, h4⟩ := recS_hd hb hs he
 rw [← hd_epoch (by rw [h4]), h3]
def dataI (f : Nat → List UInt8) : Nat → List UInt8
 | 0 => (f 0).drop 17
 | i + 1 => dataI f i ++ (f (i + 1)).drop 1
structure LogD where
 epoch : Nat
 top : Nat
 half : Nat
 off : Nat
 list : List (List UInt8)
def baseN (n half : Nat) : Nat := 2 + half * halfN n
def RecsAt (img : Img) (epoch : Nat) : Nat → Nat → List (List UInt8) → Prop
 | _, _, [] => True
 | base, seq, b :: r => (∀ i, i < secN b.length → img (base + i) = recS seq epoch b i) ∧ RecsAt img epoch (base + secN b.length) (seq + 1) r
def secsN (L : List (List UInt8)) : Nat := (L.map fun b => secN b.length).sum
theorem secsN_app (L M : List (List UInt8)) : secsN (L ++ M) = secsN L + secsN M := by simp [secsN]
theorem secsN_cons (b : List UInt8) (L : List (List UInt8)) : secsN (b :: L) = secN b.length + secsN L := by simp [secsN]
theorem secsN_len : ∀ (L : List (List UInt8)), L.length ≤ secsN L
 | [] => Nat.le_refl _
 | b :: L => by
   have := secsN_len L
   have := secN_pos b.length
   rw [secsN_cons, List.length_cons]; omega
theorem RecsAt.congr {img jmg : Img} {epoch : Nat} : ∀ {L : List (List UInt8)} {base seq : Nat}, RecsAt img epoch base seq L → (∀ p, base ≤ p → p < base + secsN L → jmg p = img p) → RecsAt jmg epoch base seq L
 | [], _, _, _, _ => trivial
 | b :: L, base, seq, h, k => by
   rw [secsN_cons] at k
   exact ⟨fun i hi => (k _ (by omega) (by omega)).trans (h.1 i hi), RecsAt.congr h.2 fun p h1 h2 => k p (by omega) (by omega)⟩
theorem RecsAt.app {img : Img} {epoch : Nat} {b : List UInt8} : ∀ {L : List (List UInt8)} {base seq : Nat}, RecsAt img epoch base seq L → (∀ i, i < secN b.length → img (base + secsN L + i) = recS (seq + L.length) epoch b i) → RecsAt img epoch base seq (L ++ [b])
 | [], base, seq, _, k => ⟨fun i hi => by simpa [secsN] using k i hi, trivial⟩
 | c :: L, base, seq, h, k => by
   refine ⟨h.1, RecsAt.app h.2 fun i hi => ?_⟩
   have := k i hi
   rw [secsN_cons, List.length_cons] at this
   rw [show base + secN c.length + secsN L + i = base + (secN c.length + secsN L) + i by omega, this]
   congr 1; omega
def StaleS (epoch : Nat) (s : List UInt8) : Prop := firstS s = true → epochS s < epoch
structure GoodLog (n : Nat) (img : Img) (L : LogD) : Prop where
 six : 6 ≤ n ∧ n ≤ 4096
 len : ∀ p, p < n → (img p).length = 64
 half : L.half ≤ 1
 epoch : 1 ≤ L.epoch ∧ L.epoch ≤ L.top
 head : img L.half = hdrS L.epoch
 other : img (1 - L.half) = zeroS ∨ ∃ e, e < L.epoch ∧ img (1 - L.half) = hdrS e
 recs : RecsAt img L.epoch (baseN n L.half) 0 L.list
 off : L.off = secsN L.list ∧ L.off ≤ halfN n
 long : ∀ b ∈ L.list, b.length ≤ 4096
 rest : ∀ p, L.off ≤ p → p < halfN n → StaleS L.epoch (img (baseN n L.half + p))
 tops : ∀ p, 2 ≤ p → p < n → StaleS (L.top + 1) (img p)
def appL (L : LogD) (b : List UInt8) : LogD := { L with off := L.off + secN b.length, list := L.list ++ [b] }
theorem baseN_lt {n half : Nat} (h : half ≤ 1) (h6 : 6 ≤ n) : 2 ≤ baseN n half ∧ baseN n half + halfN n ≤ n := by
 unfold baseN halfN
 rcases (by omega : half = 0 ∨ half = 1) with rfl | rfl <;> omega
theorem GoodLog.append {n : Nat} {img : Img} {L : LogD} {b : List UInt8} (h : GoodLog n img L) (hb : b.length ≤ 4096) (hr : L.off + secN b.length ≤ halfN n) (ht : L.top ≤ 2147483647) :
 GoodLog n (putI img (baseN n L.half + L.off) L.list.length L.epoch b) (appL L b) := by
 have hb2 := baseN_lt h.half h.six.1
 have ho := h.off
 have hs := secN_pos b.length
 have hlen := secsN_len L.list
 have h6 := h.six
 have hhalf : halfN n ≤ 2047 := by unfold halfN; omega
 have hbase : baseN n (appL L b).half = baseN n L.half := rfl
 have hep : epochS (recS L.list.length L.epoch b 0) = L.epoch := recS_epoch hb (by omega) (by have := h.epoch; omega)
 have low : ∀ p, p < 2 → putI img (baseN n L.half + L.off) L.list.length L.epoch b p = img p := by
  intro p hp; unfold putI; rw [if_neg (by omega)]
 have hh := h.half
 refine ⟨h.six, fun p hp => ?_, h.half, h.epoch, ?_, ?_, ?_, ?_, ?_, ?_, ?_⟩
 · unfold putI; split
   · exact recS_len _ _ _ _
   · exact h.len p hp
 · rw [low _ (by show L.half < 2; omega)]; exact h.head
 · show putI img _ _ _ b (1 - L.half) = _ ∨ _
   rcases h.other with h1 | ⟨e, he, h1⟩
   · left; rw [low _ (by omega)]; exact h1
   · right; exact ⟨e, he, by rw [show (appL L b).half = L.half from rfl, low _ (by omega)]; exact h1⟩
 · rw [hbase]
   refine RecsAt.app (h.recs.congr fun p h1 h2 => ?_) fun i hi => ?_
   · unfold putI; rw [if_neg (by omega)]
   · rw [← ho.1]
     unfold putI
     rw [if_pos (by omega), Nat.zero_add]
     congr 1; omega
 · refine ⟨?_, hr⟩
   show L.off + secN b.length = secsN (L.list ++ [b])
   rw [secsN_app, ho.1]; simp [secsN]
 · intro c hc
   rcases List.mem_append.1 hc with hc | hc
   · exact h.long c hc
   · rw [List.mem_singleton.1 hc]; exact hb
 · intro p h1 h2
   have h1 : L.off + secN b.length ≤ p := h1
   rw [hbase]
   unfold putI; rw [if_neg (by omega)]
   exact h.rest p (by omega) h2
 · intro p h1 h2
   show StaleS (L.top + 1) _
   unfold putI; split
   · rename_i hp
     intro hf
     rcases Nat.eq_zero_or_pos (p - (baseN n L.half + L.off)) with e | e
     · rw [e, hep]; have := h.epoch; omega
     · unfold firstS at hf
       rw [recS_mark] at hf
       unfold markS at hf
       rw [if_neg (by omega)] at hf
       exact absurd hf (by decide)
   · exact h.tops p h1 h2
def putsI (k : Img) (base seq epoch : Nat) : List (List UInt8) → Img
 | [] => k
 | b :: r => putsI (putI k base seq epoch b) (base + secN b.length) (seq + 1) epoch r
theorem putsI_app (epoch : Nat) (b : List UInt8) : ∀ (L : List (List UInt8)) (k : Img) (base seq : Nat), putsI k base seq epoch (L ++ [b]) = putI (putsI k base seq epoch L) (base + secsN L) (seq + L.length) epoch b
 | [], k, base, seq => rfl
 | c :: L, k, base, seq => by
   rw [List.cons_append, putsI, putsI_app epoch b L, secsN_cons, List.length_cons, putsI]
   congr 1 <;> omega
theorem putsI_out (epoch : Nat) : ∀ (L : List (List UInt8)) (k : Img) (base seq p : Nat), p < base ∨ base + secsN L ≤ p → putsI k base seq epoch L p = k p
 | [], _, _, _, _, _ => rfl
 | c :: L, k, base, seq, p, h => by
   rw [secsN_cons] at h
   rw [putsI, putsI_out epoch L _ _ _ _ (by omega)]
   unfold putI; rw [if_neg (by omega)]
theorem putsI_recs (epoch : Nat) : ∀ (L : List (List UInt8)) (k : Img) (base seq : Nat), RecsAt (putsI k base seq epoch L) epoch base seq L
 | [], _, _, _ => trivial
 | c :: L, k, base, seq => by
   refine ⟨fun i hi => ?_, putsI_recs epoch L _ _ _⟩
   rw [putsI, putsI_out epoch L _ _ _ _ (by omega)]
   unfold putI; rw [if_pos (by omega)]; congr 1; omega
theorem putsI_in (epoch : Nat) : ∀ (L : List (List UInt8)) (k : Img) (base seq p : Nat), base ≤ p → p < base + secsN L → ∃ b ∈ L, ∃ s i, s < seq + L.length ∧ i < secN b.length ∧ putsI k base seq epoch L p = recS s epoch b i
 | [], _, base, _, p, h1, h2 => by simp [secsN] at h2; omega
 | c :: L, k, base, seq, p, h1, h2 => by
   rw [secsN_cons] at h2
   by_cases h : p < base + secN c.length
   · refine ⟨c, List.mem_cons_self, seq, p - base, by rw [List.length_cons]; omega, by omega, ?_⟩
     rw [putsI, putsI_out epoch L _ _ _ _ (by omega)]
     unfold putI; rw [if_pos (by omega)]
   · obtain ⟨b, hb, s, i, hs, hi, e⟩ := putsI_in epoch L (putI k base seq epoch c) (base + secN c.length) (seq + 1) p (by omega) (by omega)
     exact ⟨b, List.mem_cons_of_mem _ hb, s, i, by rw [List.length_cons]; omega, hi, e⟩
structure WeakLog (n : Nat) (img : Img) (L : LogD) : Prop where
 six : 6 ≤ n ∧ n ≤ 4096
 len : ∀ p, p < n → (img p).length = 64
 half : L.half ≤ 1
 head : img L.half = zeroS ∨ ∃ e, e ≤ L.top ∧ img L.half = hdrS e
 tops : ∀ p, 2 ≤ p → p < n → StaleS (L.top + 1) (img p)
def newL (L : LogD) (rows : List (List UInt8)) : LogD := ⟨L.top + 1, L.top + 1, 1 - L.half, secsN rows, rows⟩
def rewI (n : Nat) (img : Img) (L : LogD) (rows : List (List UInt8)) : Img := setI (putsI img (baseN n (1 - L.half)) 0 (L.top + 1) rows) (1 - L.half) (hdrS (L.top + 1))
theorem WeakLog.rewrite {n : Nat} {img : Img} {L : LogD} {rows : List (List UInt8)} (h : WeakLog n img L) (hb : ∀ b ∈ rows, b.length ≤ 4096) (hr : secsN rows ≤ halfN n) (ht : L.top ≤ 2147483646) :
 GoodLog n (rewI n img L rows) (newL L rows) := by
 have hh := h.half
 have h6 := h.six
 have hb2 := baseN_lt (n := n) (half := 1 - L.half) (by omega) h.six.1
 have hlen := secsN_len rows
 have hhalf : halfN n ≤ 2047 := by unfold halfN; omega
 have out : ∀ p, p ≠ 1 - L.half → rewI n img L rows p = putsI img (baseN n (1 - L.half)) 0 (L.top + 1) rows p := by
  intro p hp; unfold rewI setI; rw [if_neg hp]
 have kind : ∀ p, rewI n img L rows p = hdrS (L.top + 1) ∧ p = 1 - L.half ∨ rewI n img L rows p = img p ∨ ∃ b ∈ rows, ∃ s i, s < rows.length ∧ i < secN b.length ∧ rewI n img L rows p = recS s (L.top + 1) b i := by
  intro p
  by_cases e : p = 1 - L.half
  · left; refine ⟨?_, e⟩; unfold rewI setI; rw [if_pos e]
  · right
    rw [out p e]
    by_cases h1 : baseN n (1 - L.half) ≤ p ∧ p < baseN n (1 - L.half) + secsN rows
    · right
      obtain ⟨b, hb, s, i, hs, hi, e⟩ := putsI_in (L.top + 1) rows img (baseN n (1 - L.half)) 0 p h1.1 h1.2
      exact ⟨b, hb, s, i, by omega, hi, e⟩
    · left; exact putsI_out _ _ _ _ _ _ (by omega)
 refine ⟨h.six, fun p hp => ?_, (by show 1 - L.half ≤ 1; omega), ⟨(by show 1 ≤ L.top + 1; omega), Nat.le_refl _⟩, ?_, ?_, ?_, ⟨rfl, hr⟩, hb, ?_, ?_⟩
 · rcases kind p with ⟨e, _⟩ | e | ⟨b, _, s, i, _, _, e⟩
   · rw [e]; exact hdrS_len _
   · rw [e]; exact h.len p hp
   · rw [e]; exact recS_len _ _ _ _
 · show rewI n img L rows (1 - L.half) = _
   unfold rewI setI; rw [if_pos rfl]; rfl
 · show rewI n img L rows (1 - (1 - L.half)) = _ ∨ _
   have e : 1 - (1 - L.half) = L.half := by omega
   have e2 : rewI n img L rows (1 - (newL L rows).half) = img L.half := by
    show rewI n img L rows (1 - (1 - L.half)) = _
    rw [e, out _ (by omega), putsI_out _ _ _ _ _ _ (by omega)]
   rcases h.head with h | ⟨e, he, h⟩
   · left; exact e2.trans h
   · right; exact ⟨e, (by show e < L.top + 1; omega), e2.trans h⟩
 · refine (putsI_recs (L.top + 1) rows img (baseN n (1 - L.half)) 0).congr fun p h1 h2 => out p ?_
   have h1 : baseN n (1 - L.half) ≤ p := h1
   omega
 · intro p h1 h2
   have h1 : secsN rows ≤ p := h1
   show StaleS (L.top + 1) (rewI n img L rows (baseN n (1 - L.half) + p))
   rw [out _ (by omega), putsI_out _ _ _ _ _ _ (by omega)]
   exact h.tops _ (by omega) (by omega)
 · intro p h1 h2
   show StaleS (L.top + 1 + 1) _
   rcases kind p with ⟨_, e⟩ | e | ⟨b, hbm, s, i, hs, hi, e⟩
   · omega
   · rw [e]; intro hf; have := h.tops p h1 h2 hf; omega
   · rw [e]
     intro hf
     rcases Nat.eq_zero_or_pos i with e | e
     · rw [e, recS_epoch (hb b hbm) (by omega) (by omega)]; omega
     · unfold firstS at hf
       rw [recS_mark] at hf
       unfold markS at hf
       rw [if_neg (by omega)] at hf
       exact absurd hf (by decide)
def topI (img : Img) (epoch : Nat) : Nat → Nat
 | 0 => epoch
 | i + 1 => if firstS (img (2 + i)) = true then max (topI img epoch i) (epochS (img (2 + i))) else topI img epoch i
theorem zeroS_first : firstS zeroS = false := by decide
theorem zeroS_len : zeroS.length = 64 := List.length_replicate
theorem topI_zero {img : Img} : ∀ (i : Nat), (∀ p, p < 2 + i → img p = zeroS) → topI img 0 i = 0
 | 0, _ => rfl
 | i + 1, h => by
   unfold topI
   rw [h (2 + i) (by omega), zeroS_first]
   exact topI_zero i fun p hp => h p (by omega)
def log0 : LogD := ⟨0, 0, 0, 0, []⟩
theorem weak_zero {n : Nat} {img : Img} (h6 : 6 ≤ n ∧ n ≤ 4096) (h : ∀ p, p < n → img p = zeroS) : WeakLog n img log0 :=
 ⟨h6, fun p hp => by rw [h p hp]; exact zeroS_len, by decide, Or.inl (h _ (by show 0 < n; omega)), fun p _ h2 hf => by rw [h p h2, zeroS_first] at hf; cases hf⟩
end Go.Proofs.YtefpllpichhojaaGreatDoor
namespace Go.Proofs.YtefpllpichhojaaGreatDoor
structure NodeD where
 dir : Bool
 links : Int
 data : By
 kids : By → Option Int
structure TreeD where
 ids : List Int
 node : Int → NodeD
 next : Int
 quota : Int
structure OpD where
 kind : Int
 path : By
 dest : By
 data : By
def noK : By → Option Int := fun _ => none
def withK (k : By → Option Int) (x : By) (i : Int) : By → Option Int := fun z => if z = x then some i else k z
def lessK (k : By → Option Int) (x : By) : By → Option Int := fun z => if z = x then none else k z
def newN : NodeD := ⟨true, 1, [], noK⟩
def fileN (d : By) : NodeD := ⟨false, 1, d, noK⟩
def setT (T : TreeD) (i : Int) (n : NodeD) : TreeD := { T with node := fun j => if j = i then n else T.node j }
def addT (T : TreeD) (n : NodeD) : TreeD := { T with ids := T.ids ++ [T.next], node := fun j => if j = T.next then n else T.node j, next := T.next + 1 }
def delT (T : TreeD) (i : Int) : TreeD := { T with ids := T.ids.filter fun j => !decide (j = i) }
def bindT (T : TreeD) (d : Int) (x : By) (i : Int) : TreeD := setT T d { T.node d with kids := withK (T.node d).kids x i }
def cutT (T : TreeD) (d : Int) (x : By) : TreeD := setT T d { T.node d with kids := lessK (T.node d).kids x }
def linkT (T : TreeD) (i : Int) (k : Int) : TreeD := setT T i { T.node i with links := (T.node i).links + k }
def newT (q : Int) : TreeD := ⟨[1], fun _ => newN, 2, max 0 q⟩
def kidT (T : TreeD) (d : Int) (x : By) : Int := ((T.node d).kids x).getD 0
def walkT (T : TreeD) : Int → List By → Int
 | at_, [] => at_
 | at_, x :: l => if kidT T at_ x = 0 then 0 else walkT T (kidT T at_ x) l
def findT (T : TreeD) (p : By) : Int := match pathL p with
 | none => 0
 | some l => walkT T 1 l
def upL (l : By) : Option (List By × By) := match pathL l with
 | some (p :: q) => some ((p :: q).take q.length, (p :: q).getD q.length [])
 | _ => none
inductive PlaceD where
 | bad (e : Int)
 | at (d : Int) (x : By)
def placeT (T : TreeD) (p : By) : PlaceD := match upL p with
 | none => .bad 14
 | some (l, x) =>
   if walkT T 1 l = 0 then .bad 8
   else if (T.node (walkT T 1 l)).dir then .at (walkT T 1 l) x else .bad 11
def emptyK (k : By → Option Int) : Prop := ∀ x, k x = none
open Classical in
noncomputable def fileT (T : TreeD) (o : OpD) (d : Int) (x : By) (i : Int) : TreeD × Int :=
 if o.kind = 3 then (setT T i ⟨false, (T.node i).links, o.data, noK⟩, 0)
 else if o.kind = 6 then (linkT (cutT T d x) i (-1), 0)
 else match placeT T o.dest with
 | .bad e => (T, e)
 | .at d2 y =>
   if o.kind = 4 ∧ kidT T d2 y ≠ 0 then (T, 9)
   else if kidT T d2 y ≠ 0 ∧ (T.node (kidT T d2 y)).dir = true then (T, 10)
   else if kidT T d2 y = i then (T, 0)
   else if o.kind = 4 then (bindT (linkT T i 1) d2 y i, 0)
   else if kidT T d2 y ≠ 0 then (bindT (cutT (linkT T (kidT T d2 y) (-1)) d x) d2 y i, 0)
   else (bindT (cutT T d x) d2 y i, 0)
open Classical in
noncomputable def stepT (T : TreeD) (o : OpD) : TreeD × Int :=
 if o.kind < 0 ∨ 6 < o.kind then (T, 1)
 else match placeT T o.path with
 | .bad e => (T, e)
 | .at d x =>
   if 3500 < o.data.length then (T, 6)
   else if o.kind = 0 ∨ o.kind = 2 then
    if kidT T d x ≠ 0 then (T, 9)
    else (bindT (addT T (if o.kind = 0 then newN else fileN o.data)) d x T.next, 0)
   else if kidT T d x = 0 then (T, 8)
   else if o.kind = 1 then
    if (T.node (kidT T d x)).dir = false then (T, 11)
    else if emptyK (T.node (kidT T d x)).kids then (delT (cutT T d x) (kidT T d x), 0)
    else (T, 12)
   else if (T.node (kidT T d x)).dir = true then (T, 10)
   else fileT T o d x (kidT T d x)
noncomputable def runT : TreeD → List OpD → TreeD × Int
 | T, [] => (T, 0)
 | T, o :: l => if (stepT T o).2 = 0 then runT (stepT T o).1 l else stepT T o
def usedT (T : TreeD) : Nat := (T.ids.map fun i => (T.node i).data.length).sum
def looseT (T : TreeD) : List Int := (T.ids.filter fun i => decide ((T.node i).links = 0)).mergeSort fun x y => decide (x ≤ y)
noncomputable def doT (T : TreeD) (l : List OpD) : TreeD × Int :=
 if (runT T l).2 ≠ 0 then (T, (runT T l).2)
 else if 128 < (runT T l).1.ids.length then (T, 7)
 else if T.quota < usedT (runT T l).1 then (T, 13)
 else ((runT T l).1, 0)
structure GoodT (T : TreeD) : Prop where
 nodup : T.ids.Nodup
 root : (1 : Int) ∈ T.ids
 rdir : (T.node 1).dir = true
 low : ∀ i ∈ T.ids, 1 ≤ i ∧ i < T.next
 kid : ∀ i ∈ T.ids, ∀ x k, (T.node i).kids x = some k → k ∈ T.ids ∧ k ≠ 1
 file : ∀ i ∈ T.ids, (T.node i).dir = false → (T.node i).kids = noK
 sole : ∀ i ∈ T.ids, ∀ j ∈ T.ids, ∀ x y k, (T.node i).kids x = some k → (T.node j).kids y = some k → (T.node k).dir = true → i = j ∧ x = y
theorem newT_good (q : Int) : GoodT (newT q) :=
 ⟨by simp [newT], by simp [newT], rfl, fun i hi => by simp only [newT, List.mem_singleton] at hi; subst hi; simp [newT], fun i _ x k h => by simp [newT, newN, noK] at h, fun _ _ _ => rfl, fun i _ j _ x y k h => by simp [newT, newN, noK] at h⟩
section
variable {T : TreeD}
theorem GoodT.kid_mem (h : GoodT T) {d : Int} (hd : d ∈ T.ids) {x : By} (hk : kidT T d x ≠ 0) : kidT T d x ∈ T.ids ∧ (T.node d).kids x = some (kidT T d x) ∧ kidT T d x ≠ 1 := by
 unfold kidT at hk ⊢
 cases hx : (T.node d).kids x with
 | none => rw [hx] at hk; exact absurd rfl hk
 | some k => have := h.kid d hd x k hx; exact ⟨this.1, rfl, this.2⟩
theorem GoodT.kid_zero (h : GoodT T) {d : Int} (hd : d ∈ T.ids) {x : By} (hk : kidT T d x = 0) : (T.node d).kids x = none := by
 unfold kidT at hk
 cases hx : (T.node d).kids x with
 | none => rfl
 | some k =>
   rw [hx] at hk
   have h1 := (h.low k (h.kid d hd x k hx).1).1
   have : k = 0 := hk
   omega
theorem GoodT.walk_mem (h : GoodT T) : ∀ (l : List By) (i : Int), i ∈ T.ids → walkT T i l ≠ 0 → walkT T i l ∈ T.ids
 | [], i, hi, _ => hi
 | x :: l, i, hi, hw => by
   unfold walkT at hw ⊢
   split at hw
   · exact absurd rfl hw
   · rename_i hk
     rw [if_neg hk]
     exact h.walk_mem l _ (h.kid_mem hi hk).1 hw
theorem GoodT.find_mem (h : GoodT T) {p : By} (hf : findT T p ≠ 0) : findT T p ∈ T.ids := by
 unfold findT at hf ⊢
 cases hp : pathL p with
 | none => rw [hp] at hf; exact absurd rfl hf
 | some l => rw [hp] at hf; exact h.walk_mem l 1 h.root hf
theorem GoodT.place_mem (h : GoodT T) {p : By} {d : Int} {x : By} (hp : placeT T p = .at d x) : d ∈ T.ids ∧ (T.node d).dir = true ∧ x.length ≤ 12 := by
 unfold placeT at hp
 split at hp
 · cases hp
 · rename_i l y hu
   split at hp
   · cases hp
   · rename_i hw
     split at hp
     · rename_i hd
       cases hp
       refine ⟨h.walk_mem l 1 h.root hw, hd, ?_⟩
       unfold upL at hu
       split at hu
       · rename_i p0 q hpl
         cases hu
         have ha := (pathL_facts hpl).2.1
         have hm : (p0 :: q).getD q.length [] ∈ p0 :: q := by
          have hlt : q.length < (p0 :: q).length := by simp
          rw [List.getD_eq_getElem?_getD, List.getElem?_eq_getElem hlt]
          exact List.getElem_mem hlt
         exact nameL_12 (List.all_eq_true.1 ha _ hm)
       · cases hu
     · cases hp
theorem setT_node (i : Int) (n : NodeD) (j : Int) : (setT T i n).node j = if j = i then n else T.node j := rfl
theorem GoodT.setF (h : GoodT T) {i : Int} (n : NodeD) (hd : n.dir = false) (hi : (T.node i).dir = false) (hk : n.kids = noK) : GoodT (setT T i n) := by
 have h1 : i ≠ 1 := fun e => by rw [e, h.rdir] at hi; cases hi
 refine ⟨h.nodup, h.root, by rw [setT_node, if_neg (fun e => h1 e.symm)]; exact h.rdir, h.low, fun j hj x k hx => ?_, fun j hj hf => ?_, fun a ha b hb x y k hx hy hkd => ?_⟩
 · rw [setT_node] at hx
   split at hx
   · rw [hk] at hx; cases hx
   · exact h.kid j hj x k hx
 · rw [setT_node] at hf ⊢
   split at hf
   · rw [if_pos (by assumption)]; exact hk
   · rw [if_neg (by assumption)]; exact h.file j hj hf
 · rw [setT_node] at hx hy hkd
   split at hx
   · rw [hk] at hx; cases hx
   · split at hy
     · rw [hk] at hy; cases hy
     · split at hkd
       · rw [hd] at hkd; cases hkd
       · exact h.sole a ha b hb x y k hx hy hkd
theorem GoodT.link (h : GoodT T) {i : Int} (k : Int) (hi : i ∈ T.ids) (hd : (T.node i).dir = false) : GoodT (linkT T i k) :=
 h.setF _ hd hd (h.file i hi hd)
theorem GoodT.cut (h : GoodT T) {d : Int} (hd : (T.node d).dir = true) (x : By) : GoodT (cutT T d x) := by
 have hn : ∀ j, ((cutT T d x).node j).dir = (T.node j).dir := by
  intro j; unfold cutT; rw [setT_node]; split
  · rename_i e; rw [e]
  · rfl
 have hk : ∀ j z k, ((cutT T d x).node j).kids z = some k → (T.node j).kids z = some k := by
  intro j z k hz
  unfold cutT at hz
  rw [setT_node] at hz
  split at hz
  · rename_i e
    subst e
    simp only [lessK] at hz
    split at hz
    · cases hz
    · exact hz
  · exact hz
 refine ⟨h.nodup, h.root, by rw [hn]; exact h.rdir, h.low, fun j hj z k hz => h.kid j hj z k (hk j z k hz), fun j hj hf => ?_, fun a ha b hb z y k hz hy hkd => h.sole a ha b hb z y k (hk _ _ _ hz) (hk _ _ _ hy) (by rw [← hn]; exact hkd)⟩
 rw [hn] at hf
 unfold cutT
 rw [setT_node, if_neg (fun e => by rw [e, hd] at hf; cases hf)]
 exact h.file j hj hf
theorem GoodT.bind (h : GoodT T) {d i : Int} (hd : (T.node d).dir = true) (x : By) (hi : i ∈ T.ids) (h1 : i ≠ 1) (hs : (T.node i).dir = true → ∀ j ∈ T.ids, ∀ y, (T.node j).kids y ≠ some i) : GoodT (bindT T d x i) := by
 have hn : ∀ j, ((bindT T d x i).node j).dir = (T.node j).dir := by
  intro j; unfold bindT; rw [setT_node]; split
  · rename_i e; rw [e]
  · rfl
 have hk : ∀ j z k, ((bindT T d x i).node j).kids z = some k → (T.node j).kids z = some k ∨ (j = d ∧ z = x ∧ k = i) := by
  intro j z k hz
  unfold bindT at hz
  rw [setT_node] at hz
  split at hz
  · rename_i e
    simp only [withK] at hz
    split at hz
    · rename_i ez
      exact Or.inr ⟨e, ez, (Option.some.inj hz).symm⟩
    · left; rw [e]; exact hz
  · exact Or.inl hz
 refine ⟨h.nodup, h.root, by rw [hn]; exact h.rdir, h.low, fun j hj z k hz => ?_, fun j hj hf => ?_, fun a ha b hb z y k hz hy hkd => ?_⟩
 · rcases hk j z k hz with hz | ⟨_, _, rfl⟩
   · exact h.kid j hj z k hz
   · exact ⟨hi, h1⟩
 · rw [hn] at hf
   unfold bindT
   rw [setT_node, if_neg (fun e => by rw [e, hd] at hf; cases hf)]
   exact h.file j hj hf
 · rw [hn] at hkd
   rcases hk a z k hz with hz' | ⟨e1, e2, e3⟩
   · rcases hk b y k hy with hy' | ⟨e4, e5, e6⟩
     · exact h.sole a ha b hb z y k hz' hy' hkd
     · rw [e6] at hkd hz'
       exact absurd hz' (hs hkd a ha z)
   · rcases hk b y k hy with hy' | ⟨e4, e5, _⟩
     · rw [e3] at hkd hy'
       exact absurd hy' (hs hkd b hb y)
     · exact ⟨e1.trans e4.symm, e2.trans e5.symm⟩
theorem addT_node (n : NodeD) (j : Int) : (addT T n).node j = if j = T.next then n else T.node j := rfl
theorem addT_old (n : NodeD) {j : Int} (h : GoodT T) (hj : j ∈ T.ids) : (addT T n).node j = T.node j := by
 rw [addT_node, if_neg]
 intro e
 have := (h.low j hj).2
 omega
theorem GoodT.add (h : GoodT T) (n : NodeD) (hk : n.kids = noK) : GoodT (addT T n) := by
 have h1 := h.low 1 h.root
 have hmem : ∀ j, j ∈ (addT T n).ids ↔ j ∈ T.ids ∨ j = T.next := by intro j; simp [addT]
 have hkid : ∀ j x k, ((addT T n).node j).kids x = some k → j ≠ T.next ∧ (T.node j).kids x = some k := by
  intro j x k hx
  rw [addT_node] at hx
  split at hx
  · rw [hk] at hx; cases hx
  · exact ⟨by assumption, hx⟩
 have hin : ∀ j x k, j ∈ (addT T n).ids → ((addT T n).node j).kids x = some k → j ∈ T.ids ∧ (T.node j).kids x = some k := by
  intro j x k hj hx
  obtain ⟨h2, h3⟩ := hkid j x k hx
  exact ⟨((hmem j).1 hj).resolve_right h2, h3⟩
 refine ⟨?_, (hmem 1).2 (Or.inl h.root), by rw [addT_old n h h.root]; exact h.rdir, fun j hj => ?_, fun j hj x k hx => ?_, fun j hj hf => ?_, fun a ha b hb x y k hx hy hkd => ?_⟩
 · show (T.ids ++ [T.next]).Nodup
   rw [List.nodup_append]
   exact ⟨h.nodup, by simp, fun a ha b hb e => by rw [List.mem_singleton.1 hb] at e; have := (h.low a ha).2; omega⟩
 · show 1 ≤ j ∧ j < T.next + 1
   rcases (hmem j).1 hj with hj | rfl
   · have := h.low j hj; omega
   · omega
 · obtain ⟨h2, h3⟩ := hin j x k hj hx
   have := h.kid j h2 x k h3
   exact ⟨(hmem k).2 (Or.inl this.1), this.2⟩
 · rw [addT_node] at hf ⊢
   split at hf
   · rw [if_pos (by assumption)]; exact hk
   · rename_i hne
     rw [if_neg hne]
     exact h.file j (((hmem j).1 hj).resolve_right hne) hf
 · obtain ⟨h2, h3⟩ := hin a x k ha hx
   obtain ⟨h4, h5⟩ := hin b y k hb hy
   rw [addT_old n h (h.kid a h2 x k h3).1] at hkd
   exact h.sole a h2 b h4 x y k h3 h5 hkd
theorem GoodT.del (h : GoodT T) {i : Int} (h1 : i ≠ 1) (hs : ∀ j ∈ T.ids, ∀ y, (T.node j).kids y ≠ some i) : GoodT (delT T i) := by
 have hmem : ∀ j, j ∈ (delT T i).ids ↔ j ∈ T.ids ∧ j ≠ i := by intro j; simp [delT]
 refine ⟨h.nodup.filter _, (hmem 1).2 ⟨h.root, fun e => h1 e.symm⟩, h.rdir, fun j hj => h.low j ((hmem j).1 hj).1, fun j hj x k hx => ?_, fun j hj => h.file j ((hmem j).1 hj).1, fun a ha b hb => h.sole a ((hmem a).1 ha).1 b ((hmem b).1 hb).1⟩
 have hj' := ((hmem j).1 hj).1
 have := h.kid j hj' x k hx
 exact ⟨(hmem k).2 ⟨this.1, fun e => hs j hj' x (e ▸ hx)⟩, this.2⟩
end
end Go.Proofs.YtefpllpichhojaaGreatDoor
namespace Go.Proofs.YtefpllpichhojaaGreatDoor
section
variable {T : TreeD}
theorem cutT_dir (d : Int) (x : By) (j : Int) : ((cutT T d x).node j).dir = (T.node j).dir := by
 unfold cutT; rw [setT_node]; split
 · rename_i e; rw [e]
 · rfl
theorem linkT_dir (i k j : Int) : ((linkT T i k).node j).dir = (T.node j).dir := by
 unfold linkT; rw [setT_node]; split
 · rename_i e; rw [e]
 · rfl
theorem bindT_dir (d : Int) (x : By) (i j : Int) : ((bindT T d x i).node j).dir = (T.node j).dir := by
 unfold bindT; rw [setT_node]; split
 · rename_i e; rw [e]
 · rfl
theorem cutT_kid (h : GoodT T) {d i : Int} {x : By} (hdi : d ∈ T.ids) (hx : (T.node d).kids x = some i) (hid : (T.node i).dir = true) : ∀ j ∈ T.ids, ∀ y, ((cutT T d x).node j).kids y ≠ some i := by
 intro j hj y hy
 unfold cutT at hy
 rw [setT_node] at hy
 split at hy
 · rename_i e
   subst e
   simp only [lessK] at hy
   split at hy
   · cases hy
   · rename_i hne
     exact hne (h.sole j hj j hj y x i hy hx hid).2
 · rename_i hne
   exact hne (h.sole j hj d hdi y x i hy hx hid).1
theorem addT_fresh (h : GoodT T) (n : NodeD) (hk : n.kids = noK) : ∀ j ∈ (addT T n).ids, ∀ y, ((addT T n).node j).kids y ≠ some T.next := by
 intro j hj y hy
 rw [addT_node] at hy
 split at hy
 · rw [hk] at hy; cases hy
 · rename_i hne
   have hj' : j ∈ T.ids := by
    have hj : j ∈ T.ids ++ [T.next] := hj
    rcases List.mem_append.1 hj with h | h
    · exact h
    · exact absurd (List.mem_singleton.1 h) hne
   have := (h.low _ (h.kid j hj' y _ hy).1).2
   omega
theorem makeT_good (h : GoodT T) {d : Int} {x : By} (hd : d ∈ T.ids) (hdd : (T.node d).dir = true) (n : NodeD) (hk : n.kids = noK) : GoodT (bindT (addT T n) d x T.next) := by
 have h1 := h.low 1 h.root
 exact (h.add n hk).bind (by rw [addT_old n h hd]; exact hdd) x (by show T.next ∈ T.ids ++ [T.next]; simp) (by omega) (fun _ => addT_fresh h n hk)
theorem bindF_good (h : GoodT T) {d i : Int} {y : By} (hd : (T.node d).dir = true) (hi : i ∈ T.ids) (hf : (T.node i).dir = false) : GoodT (bindT T d y i) :=
 h.bind hd y hi (fun e => by rw [e, h.rdir] at hf; cases hf) (fun e => by rw [hf] at e; cases e)
theorem fileT_good (h : GoodT T) (o : OpD) {d : Int} {x : By} {i : Int} (hdd : (T.node d).dir = true) (hi : i ∈ T.ids) (hf : (T.node i).dir = false) : GoodT (fileT T o d x i).1 := by
 unfold fileT
 split
 · exact h.setF _ rfl hf rfl
 · split
   · exact (h.cut hdd x).link (-1) hi (by rw [cutT_dir]; exact hf)
   · split
     · exact h
     · rename_i d2 y hp
       have hp := h.place_mem hp
       split
       · exact h
       · split
         · exact h
         · rename_i hnd
           split
           · exact h
           · split
             · exact bindF_good (h.link 1 hi hf) (by rw [linkT_dir]; exact hp.2.1) hi (by rw [linkT_dir]; exact hf)
             · split
               · rename_i hj
                 have hjm := h.kid_mem hp.1 hj
                 have hjf : (T.node (kidT T d2 y)).dir = false := by
                  rw [← Bool.not_eq_true]; exact fun e => hnd ⟨hj, e⟩
                 have h2 := (h.link (-1) hjm.1 hjf).cut (d := d) (by rw [linkT_dir]; exact hdd) x
                 exact bindF_good h2 (by rw [cutT_dir, linkT_dir]; exact hp.2.1) hi (by rw [cutT_dir, linkT_dir]; exact hf)
               · exact bindF_good (h.cut hdd x) (by rw [cutT_dir]; exact hp.2.1) hi (by rw [cutT_dir]; exact hf)
theorem stepT_good (h : GoodT T) (o : OpD) : GoodT (stepT T o).1 := by
 unfold stepT
 split
 · exact h
 · split
   · exact h
   · rename_i d x hp
     have hp := h.place_mem hp
     split
     · exact h
     · split
       · split
         · exact h
         · exact makeT_good h hp.1 hp.2.1 _ (by split <;> rfl)
       · split
         · exact h
         · rename_i hk
           have hkm := h.kid_mem hp.1 hk
           split
           · split
             · exact h
             · rename_i hid
               split
               · exact (h.cut hp.2.1 x).del hkm.2.2 (cutT_kid h hp.1 hkm.2.1 (by simpa using hid))
               · exact h
           · split
             · exact h
             · rename_i hid
               exact fileT_good h o hp.2.1 hkm.1 (by simpa using hid)
theorem runT_good : ∀ (l : List OpD) {T : TreeD}, GoodT T → GoodT (runT T l).1
 | [], _, h => h
 | o :: l, T, h => by
   unfold runT
   split
   · exact runT_good l (stepT_good h o)
   · exact stepT_good h o
theorem doT_good (h : GoodT T) (l : List OpD) : GoodT (doT T l).1 := by
 unfold doT
 split
 · exact h
 · split
   · exact h
   · split
     · exact h
     · exact runT_good l h
structure FitT (T : TreeD) (K : Nat) : Prop where
 next : T.next ≤ K
 count : T.ids.length ≤ K
 links : ∀ i ∈ T.ids, -K ≤ (T.node i).links ∧ (T.node i).links ≤ K
 data : ∀ i ∈ T.ids, (T.node i).data.length ≤ 3500
theorem FitT.mono {K L : Nat} (h : FitT T K) (k : K ≤ L) : FitT T L :=
 ⟨by have := h.next; omega, by have := h.count; omega, fun i hi => by have := h.links i hi; omega, h.data⟩
theorem newT_fit (q : Int) : FitT (newT q) 2 :=
 ⟨by simp [newT], by simp [newT], fun i _ => by simp [newT, newN], fun i _ => by simp [newT, newN]⟩
theorem FitT.set {K : Nat} (h : FitT T K) {i : Int} {n : NodeD} (hl : i ∈ T.ids → -K ≤ n.links ∧ n.links ≤ K) (hd : i ∈ T.ids → n.data.length ≤ 3500) : FitT (setT T i n) K := by
 refine ⟨h.next, h.count, fun j hj => ?_, fun j hj => ?_⟩
 · rw [setT_node]
   split
   · rename_i e; exact hl (e ▸ hj)
   · exact h.links j hj
 · rw [setT_node]
   split
   · rename_i e; exact hd (e ▸ hj)
   · exact h.data j hj
theorem FitT.bind {K : Nat} (h : FitT T K) (d : Int) (x : By) (i : Int) : FitT (bindT T d x i) K := h.set (h.links d) (h.data d)
theorem FitT.cut {K : Nat} (h : FitT T K) (d : Int) (x : By) : FitT (cutT T d x) K := h.set (h.links d) (h.data d)
theorem FitT.link {K : Nat} (h : FitT T K) (i : Int) {k : Int} (hk : -1 ≤ k ∧ k ≤ 1) : FitT (linkT T i k) (K + 1) :=
 (h.mono (Nat.le_succ K)).set (fun hi => by have := h.links i hi; show -((K + 1 : Nat) : Int) ≤ (T.node i).links + k ∧ (T.node i).links + k ≤ ((K + 1 : Nat) : Int); omega) (h.data i)
theorem FitT.add {K : Nat} (h : FitT T K) {n : NodeD} (hl : n.links = 1) (hd : n.data.length ≤ 3500) : FitT (addT T n) (K + 1) := by
 refine ⟨by have := h.next; show T.next + 1 ≤ ((K + 1 : Nat) : Int); omega, by have := h.count; show (T.ids ++ [T.next]).length ≤ K + 1; rw [List.length_append, List.length_singleton]; omega, fun j hj => ?_, fun j hj => ?_⟩
 · rw [addT_node]
   split
   · rw [hl]; omega
   · rename_i hne
     have hj : j ∈ T.ids ++ [T.next] := hj
     have := h.links j ((List.mem_append.1 hj).resolve_right (fun e => hne (List.mem_singleton.1 e)))
     omega
 · rw [addT_node]
   split
   · exact hd
   · rename_i hne
     have hj : j ∈ T.ids ++ [T.next] := hj
     exact h.data j ((List.mem_append.1 hj).resolve_right (fun e => hne (List.mem_singleton.1 e)))
theorem FitT.del {K : Nat} (h : FitT T K) (i : Int) : FitT (delT T i) K := by
 have hmem : ∀ j, j ∈ (delT T i).ids → j ∈ T.ids := by intro j hj; exact (List.mem_filter.1 hj).1
 exact ⟨h.next, Nat.le_trans (List.length_filter_le _ _) h.count, fun j hj => h.links j (hmem j hj), fun j hj => h.data j (hmem j hj)⟩
theorem fileT_fit {K : Nat} (h : FitT T K) (o : OpD) (ho : o.data.length ≤ 3500) (d : Int) (x : By) (i : Int) : FitT (fileT T o d x i).1 (K + 1) := by
 have h1 := h.mono (Nat.le_succ K)
 unfold fileT
 split
 · exact h1.set (h1.links i) (fun _ => ho)
 · split
   · exact (h.cut d x).link i (by omega)
   · split
     · exact h1
     · split
       · exact h1
       · split
         · exact h1
         · split
           · exact h1
           · split
             · exact (h.link i (by omega)).bind _ _ _
             · split
               · exact ((h.link _ (by omega)).cut _ _).bind _ _ _
               · exact (h1.cut _ _).bind _ _ _
theorem stepT_fit {K : Nat} (h : FitT T K) (o : OpD) : FitT (stepT T o).1 (K + 1) := by
 have h1 := h.mono (Nat.le_succ K)
 unfold stepT
 split
 · exact h1
 · split
   · exact h1
   · split
     · exact h1
     · rename_i hl
       split
       · split
         · exact h1
         · exact (h.add (by split <;> rfl) (by split; exact Nat.zero_le _; (show o.data.length ≤ 3500; omega))).bind _ _ _
       · split
         · exact h1
         · split
           · split
             · exact h1
             · split
               · exact (h1.cut _ _).del _
               · exact h1
           · split
             · exact h1
             · exact fileT_fit h o (by omega) _ _ _
theorem runT_fit : ∀ (l : List OpD) {T : TreeD} {K : Nat}, FitT T K → FitT (runT T l).1 (K + l.length)
 | [], _, _, h => h
 | o :: l, T, K, h => by
   unfold runT
   split
   · exact (runT_fit l (stepT_fit h o)).mono (by rw [List.length_cons]; omega)
   · exact (stepT_fit h o).mono (by rw [List.length_cons]; omega)
theorem doT_fit {K : Nat} (h : FitT T K) (l : List OpD) : FitT (doT T l).1 (K + l.length) := by
 have h1 := h.mono (Nat.le_add_right K l.length)
 unfold doT
 split
 · exact h1
 · split
   · exact h1
   · split
     · exact h1
     · exact runT_fit l h
end
end Go.Proofs.YtefpllpichhojaaGreatDoor
namespace Go.Proofs.YtefpllpichhojaaGreatDoor
open Go.RowKit
def keyI (i : Int) : Lit := .int .i64 i
theorem keyI_inj (x y : Int) (h : keyI x = keyI y) : x = y := by unfold keyI at h; injection h
theorem int_keyedA : Maps.Keyed Tryz.prog 3 := Maps.int_keyed Tryz.underlying3
theorem key_intP {P : Program} {k : TypeId} (hk : P.underlying k = some (.int .i64)) {i : Int} (h1 : -9223372036854775808 ≤ i) (h2 : i ≤ 9223372036854775807) : keyOf P k (.int .i64 i) = some (keyI i) := by
 have h : (Lit.int .i64 i).wf = true := by
  unfold Lit.wf IntKind.min IntKind.max
  have e1 : IntKind.i64.signed = true := rfl
  have e2 : IntKind.i64.bits = 64 := rfl
  simp only [e1, e2, if_true, Bool.and_eq_true, decide_eq_true_eq]
  omega
 have hm : mapKey P k (.int .i64 i) = some (keyI i) := by
  unfold mapKey
  rw [hk]
  show (if IntKind.i64 = IntKind.i64 ∧ (Lit.int .i64 i).wf = true then some (Lit.int .i64 i) else none) = some (keyI i)
  rw [if_pos ⟨rfl, h⟩]
  rfl
 unfold keyOf
 rw [hk]
 exact hm
theorem inv_intP {P : Program} {k : TypeId} (hk : P.underlying k = some (.int .i64)) : ∀ key kl, keyOf P k key = some kl → ∃ x : Int, key = .int .i64 x ∧ kl = keyI x := by
 intro key kl h
 have h' : mapKey P k key = some kl := by
  unfold keyOf at h
  rw [hk] at h
  exact h
 unfold mapKey at h'
 rw [hk] at h'
 cases key with
 | int q n =>
   simp only at h'
   split at h'
   · rename_i hq
     obtain ⟨rfl, _⟩ := hq
     exact ⟨n, rfl, (Option.some.inj h').symm⟩
   · cases h'
 | _ => simp at h'
theorem key_int {i : Int} (h1 : -9223372036854775808 ≤ i) (h2 : i ≤ 9223372036854775807) : keyOf Tryz.prog 3 (.int .i64 i) = some (keyI i) := key_intP Tryz.underlying3 h1 h2
theorem inv_int : ∀ key kl, keyOf Tryz.prog 3 key = some kl → ∃ x : Int, key = .int .i64 x ∧ kl = keyI x := inv_intP Tryz.underlying3
def DataM (w : World) (a : Option Addr) (l : By) : Prop :=
 l = [] ∨ ∃ g off cs fr, a = some ⟨g, off, none⟩ ∧ w.heap[g]? = some (.cells cs 5 fr) ∧ ∀ i u, (byteV l)[i]? = some u → w.cell? ⟨g, off + i, none⟩ = some u
def Datas (S : Nat → Prop) (w : World) : Prop := ∀ g cs fr, w.heap[g]? = some (.cells cs 5 fr) → S g
theorem DataM.keep {S : Nat → Prop} {w w' : World} {a : Option Addr} {l : By} (h : DataM w a l) (k : Keep S w w') (hS : Datas S w) : DataM w' a l := by
 rcases h with h | ⟨g, off, cs, fr, ha, hg, hc⟩
 · exact Or.inl h
 · exact Or.inr ⟨g, off, cs, fr, ha, k.heap (hS g cs fr hg) hg, fun i u hi => k.cell (hS g cs fr hg) (hc i u hi)⟩
theorem DataM.bytes {w : World} {a : Option Addr} {l : By} (h : DataM w a l) : Bytes w a l := by
 rcases h with h | ⟨g, off, cs, fr, ha, hg, hc⟩
 · exact Or.inl h
 · exact Or.inr ⟨g, off, ha, (Array.getElem?_eq_some_iff.1 hg).1, fun i hi => hc i _ (byteV_at hi)⟩
theorem datas_all (w : World) : Datas (fun _ => True) w := fun _ _ _ _ => trivial
theorem datas_map {w : World} {b : Nat} {es : Array MapEntry} {cl : Nat} (hb : w.heap[b]? = some (.map es cl)) : Datas (· ≠ b) w := by
 intro g cs fr hg e
 have e : g = b := e
 rw [e, hb] at hg; cases hg
theorem datas_cells {w : World} {b : Nat} {cur : Array Value} {t : TypeId} {fr : Nat × Nat} (hb : w.heap[b]? = some (.cells cur t fr)) (ht : t ≠ 5) : Datas (· ≠ b) w := by
 intro g cs fr' hg e
 have e : g = b := e
 rw [e, hb] at hg
 injection (Option.some.inj hg) with _ h2
 exact ht h2
structure NodeA where
 blk : Nat
 da : Option Addr
 dc : Nat
 kb : Option Nat
def nodeV (n : NodeD) (A : NodeA) : Array Value := #[.bool n.dir, .int .i64 n.links, .slice A.da n.data.length A.dc, .map A.kb]
def kidsF (k : By → Option Int) : By → Option Value := fun x => (k x).map (.int .i64 ·)
def KidsM (w : World) (K : Nat) (k : By → Option Int) (kb : Option Nat) : Prop :=
 (kb = none ∧ k = noK) ∨ ∃ b, kb = some b ∧ MapF keyS w 9 b K (kidsF k)
def NodeM (w : World) (K : Nat) (n : NodeD) (A : NodeA) : Prop :=
 w.heap[A.blk]? = some (.cells (nodeV n A) 199 (0, 0)) ∧ DataM w A.da n.data ∧ n.data.length ≤ A.dc ∧ KidsM w K n.kids A.kb
theorem KidsM.keep {S : Nat → Prop} {w w' : World} {K : Nat} {k : By → Option Int} {kb : Option Nat} (h : KidsM w K k kb) (kp : Keep S w w') (hS : ∀ b, kb = some b → S b) : KidsM w' K k kb := by
 rcases h with h | ⟨b, hb, hm⟩
 · exact Or.inl h
 · exact Or.inr ⟨b, hb, hm.keep kp (hS b hb)⟩
theorem KidsM.mono {w : World} {K L : Nat} {k : By → Option Int} {kb : Option Nat} (h : KidsM w K k kb) (hl : K ≤ L) : KidsM w L k kb := by
 rcases h with h | ⟨b, hb, hm⟩
 · exact Or.inl h
 · exact Or.inr ⟨b, hb, hm.mono hl⟩
theorem KidsM.block {w : World} {K : Nat} {k : By → Option Int} {kb : Option Nat} (h : KidsM w K k kb) {b : Nat} (hb : kb = some b) : ∃ es cl, w.heap[b]? = some (.map es cl) := by
 rcases h with ⟨h, _⟩ | ⟨b', hb', hm⟩
 · rw [h] at hb; cases hb
 · rw [hb'] at hb; cases hb; exact hm.block
theorem NodeM.keep {S : Nat → Prop} {w w' : World} {K : Nat} {n : NodeD} {A : NodeA} (h : NodeM w K n A) (k : Keep S w w') (hD : Datas S w) (hb : S A.blk) (hk : ∀ b, A.kb = some b → S b) : NodeM w' K n A :=
 ⟨k.heap hb h.1, h.2.1.keep k hD, h.2.2.1, h.2.2.2.keep k hk⟩
theorem NodeM.ext {w w' : World} {K : Nat} {n : NodeD} {A : NodeA} (h : NodeM w K n A) (k : Ext w w') : NodeM w' K n A :=
 h.keep (Keep.of_ext (S := fun _ => True) k) (datas_all w) trivial fun _ _ => trivial
theorem NodeM.mono {w : World} {K L : Nat} {n : NodeD} {A : NodeA} (h : NodeM w K n A) (hl : K ≤ L) : NodeM w L n A := ⟨h.1, h.2.1, h.2.2.1, h.2.2.2.mono hl⟩
theorem KidsM.look {w : World} {K : Nat} {k : By → Option Int} {kb : Option Nat} (h : KidsM w K k kb) {x : By} (hx : x.length ≤ 100000) :
 (Instr.lookup 65 (.map kb) (.string (bs x)) false).run Tryz.prog w = .ok (.int .i64 ((k x).getD 0)) w := by
 rcases h with ⟨rfl, rfl⟩ | ⟨b, rfl, hm⟩
 · rw [Maps.look_nil false str_keyed Tryz.underlying65 (Tryz.zeroValue3 w) (key_by hx)]
   rfl
 · rw [hm.lookup str_keyed Tryz.underlying65 (Tryz.zeroValue3 w) (key_by hx)]
   unfold kidsF
   cases k x <;> rfl
def nodeF (T : TreeD) (A : Int → NodeA) : Int → Option Value := fun i => if i ∈ T.ids then some (.pointer (some ⟨(A i).blk, 0, none⟩)) else none
structure TreeM (w : World) (base tb mb K : Nat) (T : TreeD) (A : Int → NodeA) : Prop where
 top : w.heap[tb]? = some (.cells #[.map (some mb), .int .i64 T.next, .int .i64 T.quota] 203 (0, 0))
 map : MapF keyI w 3 mb K (nodeF T A)
 node : ∀ i ∈ T.ids, NodeM w K (T.node i) (A i)
 blk : ∀ i ∈ T.ids, ∀ j ∈ T.ids, (A i).blk = (A j).blk → i = j
 kid : ∀ i ∈ T.ids, ∀ j ∈ T.ids, ∀ b, (A i).kb = some b → (A j).kb = some b → i = j
 mkb : ∀ i ∈ T.ids, (A i).kb ≠ some mb
 kbd : ∀ i ∈ T.ids, (T.node i).dir = true → ∃ b, (A i).kb = some b
 low : base ≤ tb ∧ base ≤ mb ∧ ∀ i ∈ T.ids, base ≤ (A i).blk ∧ ∀ b, (A i).kb = some b → base ≤ b
section
variable {w w' : World} {base tb mb K : Nat} {T : TreeD} {A : Int → NodeA}
theorem TreeM.ext (h : TreeM w base tb mb K T A) (k : Ext w w') : TreeM w' base tb mb K T A :=
 ⟨k.heap h.top, h.map.ext k, fun i hi => (h.node i hi).ext k, h.blk, h.kid, h.mkb, h.kbd, h.low⟩
theorem TreeM.mono (h : TreeM w base tb mb K T A) {L : Nat} (hl : K ≤ L) : TreeM w base tb mb L T A :=
 ⟨h.top, h.map.mono hl, fun i hi => (h.node i hi).mono hl, h.blk, h.kid, h.mkb, h.kbd, h.low⟩
theorem TreeM.keep {S : Nat → Prop} (h : TreeM w base tb mb K T A) (k : Keep S w w') (hD : Datas S w) (h1 : S tb) (h2 : S mb) (h3 : ∀ i ∈ T.ids, S (A i).blk ∧ ∀ b, (A i).kb = some b → S b) : TreeM w' base tb mb K T A :=
 ⟨k.heap h1 h.top, h.map.keep k h2, fun i hi => (h.node i hi).keep k hD (h3 i hi).1 (h3 i hi).2, h.blk, h.kid, h.mkb, h.kbd, h.low⟩
theorem TreeM.look (h : TreeM w base tb mb K T A) {i : Int} (hi : i ∈ T.ids) (h1 : -9223372036854775808 ≤ i) (h2 : i ≤ 9223372036854775807) :
 (Instr.lookup 201 (.map (some mb)) (.int .i64 i) false).run Tryz.prog w = .ok (.pointer (some ⟨(A i).blk, 0, none⟩)) w := by
 rw [h.map.lookup int_keyedA Tryz.underlying201 (Tryz.zeroValue200 w) (key_int h1 h2)]
 unfold nodeF
 rw [if_pos hi]
 rfl
end
end Go.Proofs.YtefpllpichhojaaGreatDoor
namespace Go.Proofs.YtefpllpichhojaaGreatDoor
open Go.RowKit
theorem info_byte1 : (Tryz.prog.info? 5).map (fun i => (i.zero, i.size, i.bytes)) = some (some (.int .u8 0), 1, 1) := by kernel_rfl
theorem DataM.of_row {w : World} {base n : Nat} {v : Value} {l : By} (h : w.ownsRow base 5 1 v n (byteV l)) : ∃ a c, v = .slice a n c ∧ n ≤ c ∧ DataM w a l ∧ Fresh base a := by
 obtain ⟨a, c, hv, hn, _, hf⟩ := run_of_row h
 refine ⟨a, c, hv, hn, ?_, hf⟩
 have hl := h.1
 rcases h.2 with ⟨h1, h2⟩ | ⟨g, c', cur, h1, _, hg, hn, hm, hs, ht⟩
 · left
   rw [h2] at hl
   simpa [byteV] using hl
 · rw [h1] at hv
   cases hv
   refine Or.inr ⟨g, 0, cur, (0, 0), rfl, hg, fun j u hj => ?_⟩
   rw [← ht, List.getElem?_take] at hj
   rw [Nat.zero_add]
   split at hj
   · exact blk_cell hg _ _ (by simpa using hj)
   · cases hj
theorem byteV_one (l : By) : ∀ u ∈ byteV l, u.oneCell' = true := by
 intro u hu
 obtain ⟨b, _, rfl⟩ := List.mem_map.1 hu
 rfl
theorem Bytes.run {w : World} {a : Option Addr} {l : By} (h : Bytes w a l) : RunM w a (byteV l) := by
 rcases h.row with h | ⟨g, off, ha, hg, _, hc⟩
 · exact Or.inl h
 · exact Or.inr ⟨g, off, ha, hg, fun j u hj => by rw [hc j (List.getElem?_eq_some_iff.1 hj).1, hj]⟩
def CloneY (l : By) (w : World) (e : Ending) (w' : World) : Prop := ∃ a c, e = .returned (.slice a l.length c) ∧ l.length ≤ c ∧ DataM w' a l ∧ Fresh w.heap.size a ∧ Ext w w'
set_option maxRecDepth 100000 in
set_option maxHeartbeats 1600000 in
theorem clone_y (a : Option Addr) (c : Nat) (l : By) (w : World) (hB : Bytes w a l) (hl : l.length ≤ 100000) :
 Calls Tryz.prog 114 #[.slice a l.length c] w (CloneY l w) := by
 have h : RunM w a (byteV l) := hB.run
 have hn : (byteV l).length = l.length * 1 := by simp [byteV]
 have h1 : ∀ u ∈ byteV l, u.oneCell' = true := byteV_one l
 obtain ⟨n, hnn⟩ : ∃ n, n = l.length := ⟨_, rfl⟩
 rw [← hnn] at hn hl ⊢
 have HNN := Lib.hid hnn; clear hnn
 obtain ⟨us, hus⟩ : ∃ us, us = byteV l := ⟨_, rfl⟩
 rw [← hus] at h hn h1
 have HUS := Lib.hid hus; clear hus hB
 obtain ⟨R, hR⟩ : ∃ R, R = CloneY l w := ⟨_, rfl⟩
 rw [← hR]
 have HR := Lib.hid hR; clear hR
 have q24 : ∀ (w : World) (a : Option Addr) (n c n' c' : Nat), (binOp .eql 50 (.slice a n c) (.slice none n' c')).run Tryz.prog w = .ok (.bool a.isNone) w := fun w a n c n' c' => Lib.run_eql_slice_nil w _ _ a n c n' c' Tryz.underlying50
 have HH := Lib.hid h; clear h
 have HN := Lib.hid hn; clear hn
 cases a with
 | none =>
   go_enter Tryz.func114, Tryz.ntmps114
   go_wp2
   rw [HR.out]
   have hn0 : us = [] := by
    rcases HH.out with h | ⟨_, _, ha, _⟩
    · exact h
    · cases ha
   have hz : n = 0 := by have := HN.out; rw [hn0] at this; simp at this; omega
   subst hz
   have hl0 : l = [] := by have := HUS.out; rw [hn0] at this; simpa [byteV] using this.symm
   subst hl0
   exact ⟨none, 0, rfl, Nat.le_refl _, Or.inl rfl, fun ad h => (by cases h), Ext.refl _⟩
 | some ad =>
   obtain ⟨i0, hi, hz, hsz, hby⟩ := info_parts info_byte1
   have HI := Lib.hid hi; clear hi
   have HZ := Lib.hid hz; clear hz
   have HS := Lib.hid hsz; clear hsz
   have HB := Lib.hid hby; clear hby
   have hpl := (HH.out.ext (Ext.alloc w (.cells #[] 5))).plain
   have HP := Lib.hid hpl; clear hpl
   go_enter Tryz.func114, Tryz.ntmps114
   go_wp2_with (at_builtin; (refine wpList_append_own _ rfl _ _ 50 rfl w.heap.size 5 i0 (.int .u8 0) 1 1 Tryz.underlying50 HI.out HZ.out HS.out HB.out rfl (by decide) (.slice (some ⟨w.heap.size, 0, none⟩) 0 0) 0 [] rfl (World.ownsRow_made w #[] 0 (Nat.le_refl _) (Nat.zero_le _) rfl) ad n c us rfl HN.out HP.out h1 (by unfold maxLen; omega) (by omega) (by simp) ?_); intro v' w1 hown hgrow hnil)
   simp only [Nat.zero_add, List.nil_append] at hown
   rw [HUS.out] at hown
   obtain ⟨a', c', rfl, hc', hrun, hfr⟩ := DataM.of_row hown
   have HX := Lib.hid (((Below.refl _ w).alloc (Nat.le_refl _) _).grown hgrow (by simp) (by intro k hk; simp [Value.ownBlock] at hk; omega))
   rw [HR.out]
   have hnn := HNN.out
   subst hnn
   exact ⟨a', c', rfl, hc', hrun, hfr, HX.out⟩
end Go.Proofs.YtefpllpichhojaaGreatDoor
namespace Go.Proofs.YtefpllpichhojaaGreatDoor
open Go.RowKit
class Low where
 low : Nat
variable [Low]
def NotTy (ts : List TypeId) (w : World) (g : Nat) : Prop := g < Low.low ∨ ∀ cs t fr, w.heap[g]? = some (.cells cs t fr) → t ∉ ts
theorem notTy_of {ts : List TypeId} {w : World} {g : Nat} {cs : Array Value} {t : TypeId} {fr : Nat × Nat} (h : w.heap[g]? = some (.cells cs t fr)) (ht : t ∉ ts) : NotTy ts w g := by
 refine Or.inr ?_
 intro cs' t' fr' h'
 rw [h] at h'
 injection (Option.some.inj h') with _ e
 rw [← e]; exact ht
theorem notTy_map {ts : List TypeId} {w : World} {g : Nat} {es : Array MapEntry} {cl : Nat} (h : w.heap[g]? = some (.map es cl)) : NotTy ts w g := by
 refine Or.inr ?_
 intro cs' t' fr' h'
 rw [h] at h'
 cases Option.some.inj h'
theorem NotTy.mono {ts us : List TypeId} {w : World} {g : Nat} (h : NotTy us w g) (hs : ts ⊆ us) : NotTy ts w g := h.imp id fun h cs t fr hg ht => h cs t fr hg (hs ht)
theorem NotTy.ne {ts : List TypeId} {w : World} {g k : Nat} {cs : Array Value} {t : TypeId} {fr : Nat × Nat} (h : NotTy ts w g) (hk : w.heap[k]? = some (.cells cs t fr)) (ht : t ∈ ts) (hl : Low.low ≤ k) : g ≠ k := by
 intro e; subst e
 rcases h with h | h
 · omega
 · exact h _ _ _ hk ht
theorem NotTy.keep {ts : List TypeId} {w w' : World} {S : Nat → Prop} {g : Nat} (h : NotTy ts w g) (k : Keep S w w') (hg : g < w.heap.size) (hS : S g) : NotTy ts w' g := by
 refine h.imp id fun h => ?_
 intro cs t fr hc
 rw [k.block g hg hS] at hc
 exact h cs t fr hc
def KeepT (ts : List TypeId) (w w' : World) : Prop := Keep (NotTy ts w) w w'
theorem KeepT.refl (ts : List TypeId) (w : World) : KeepT ts w w := Keep.refl _ _
theorem KeepT.trans {ts : List TypeId} {a b c : World} (h : KeepT ts a b) (k : KeepT ts b c) : KeepT ts a c :=
 ⟨k.os.trans h.os, k.tape.trans h.tape, k.output.trans h.output, Nat.le_trans h.size k.size, fun i hi hn => (k.block i (Nat.lt_of_lt_of_le hi h.size) (hn.keep h hi hn)).trans (h.block i hi hn)⟩
theorem KeepT.mono {ts us : List TypeId} {a b : World} (h : KeepT ts a b) (hs : ts ⊆ us) : KeepT us a b := Keep.mono h fun _ _ hk => hk.mono hs
theorem KeepT.drew {ts : List TypeId} {a b : World} (h : KeepT ts a b) : KeepT ts a b.drew := ⟨h.os, h.tape, h.output, h.size, h.block⟩
theorem KeepT.of_ext {ts : List TypeId} {a b : World} (h : Ext a b) : KeepT ts a b := Keep.of_ext h
theorem KeepT.set {ts : List TypeId} {a b : World} (h : KeepT ts a b) {R : Nat} {cs : Array Value} {t : TypeId} {fr : Nat × Nat} (hR : b.heap[R]? = some (.cells cs t fr)) (ht : t ∈ ts) (i : Nat) (v : Value) (hl : Low.low ≤ R := by first | exact Nat.le_refl _ | assumption | omega) : KeepT ts a (b.setCell ⟨R, i, none⟩ v) :=
 KeepT.trans h ⟨rfl, rfl, rfl, by simp [World.setCell], fun k _ hk => Below.heap_setCell _ _ _ _ (hk.ne hR ht hl)⟩
theorem KeepT.ne {ts : List TypeId} {a b : World} {R : Nat} (k : Keep (· ≠ R) a b) {cs : Array Value} {t : TypeId} {fr : Nat × Nat} (hR : a.heap[R]? = some (.cells cs t fr)) (ht : t ∈ ts) (hl : Low.low ≤ R := by first | exact Nat.le_refl _ | assumption | omega) : KeepT ts a b :=
 Keep.mono k fun _ _ hg => hg.ne hR ht hl
theorem KeepT.grown {ts : List TypeId} {a b : World} {base E m n : Nat} {v : Value} {us : List Value} (k : Keep (fun k => some k ≠ v.ownBlock) a b) (h : a.ownsRow base E m v n us) (ht : E ∈ ts) (hl : Low.low ≤ base := by first | exact Nat.le_refl _ | assumption | omega) : KeepT ts a b :=
 Keep.mono k fun g _ hg e => by
  rcases h.2 with ⟨h1, _⟩ | ⟨g', c, cur, h1, hbg, hg', _⟩
  · rw [h1] at e; cases e
  · rw [h1] at e
    have e : g = g' := Option.some.inj e
    subst e
    rcases hg with hg | hg
    · omega
    · exact hg _ _ _ hg' ht
theorem KeepT.heap {ts : List TypeId} {a b : World} (h : KeepT ts a b) {g : Nat} {cs : Array Value} {t : TypeId} {fr : Nat × Nat} (hg : a.heap[g]? = some (.cells cs t fr)) (ht : t ∉ ts) : b.heap[g]? = some (.cells cs t fr) :=
 Keep.heap h (notTy_of hg ht) hg
theorem KeepT.row {ts : List TypeId} {a b : World} (h : KeepT ts a b) {base E m n : Nat} {v : Value} {us : List Value} (hr : a.ownsRow base E m v n us) (ht : E ∉ ts) : b.ownsRow base E m v n us :=
 ownsRow_keep hr h fun _ _ _ _ hg => notTy_of hg ht
theorem KeepT.datas {ts : List TypeId} {w : World} (ht : 5 ∉ ts) : Datas (NotTy ts w) w := fun _ _ _ hg => notTy_of hg ht
omit [Low] in
theorem setCells_blk {R n : Nat} {t : TypeId} {fr : Nat × Nat} : ∀ (vs : List Value) (o : Nat) (w : World), (∃ cs, w.heap[R]? = some (.cells cs t fr) ∧ cs.size = n) → ∃ cs, (w.setCells R o vs).heap[R]? = some (.cells cs t fr) ∧ cs.size = n
 | [], _, _, h => h
 | v :: vs, o, w, ⟨cs, h, hs⟩ => by
   rw [World.setCells]
   exact setCells_blk vs (o + 1) _ ⟨_, setCell_row h v, by rw [Array.size_setIfInBounds]; exact hs⟩
omit [Low] in
theorem setCells_all {R : Nat} {t : TypeId} {w : World} {cs : Array Value} (h : w.heap[R]? = some (.cells cs t (0, 0))) (vs : List Value) (hl : vs.length = cs.size) : (w.setCells R 0 vs).heap[R]? = some (.cells vs.toArray t (0, 0)) := by
 obtain ⟨cs', h', hs⟩ := setCells_blk vs 0 w ⟨cs, h, rfl⟩
 have ht : w.there R 0 vs.length := fun j hj => by
  rw [Nat.zero_add]
  refine ⟨?_, blk_free h j⟩
  rw [cell_of_row _ _ _ _ _ _ h]
  simp [show j < cs.size by omega]
 have hr := World.rangeAt_setCells_same w R 0 vs ht
 have e : cs' = vs.toArray := by
  apply Array.ext_getElem?
  intro i
  by_cases hi : i < vs.length
  · have := hr i vs[i] (List.getElem?_eq_getElem hi)
    rw [Nat.zero_add, cell_of_row _ _ _ _ _ _ h'] at this
    rw [this]; simp [hi]
  · rw [Array.getElem?_eq_none (by omega), Array.getElem?_eq_none (by simp; omega)]
 rw [h', e]
omit [Low] in
theorem setCells_keep {R : Nat} : ∀ (vs : List Value) (o : Nat) (w : World), Keep (· ≠ R) w (w.setCells R o vs)
 | [], _, _ => Keep.refl _ _
 | v :: vs, o, w => by
   rw [World.setCells]
   exact ((Keep.refl _ w).setCell (fun _ hk => hk) o v).trans (setCells_keep vs (o + 1) _)
omit [Low] in
theorem ext_ne {w wa wb : World} {R : Nat} (h : Ext w wa) (hb : w.heap.size ≤ R) (k : Keep (· ≠ R) wa wb) : Ext w wb :=
 ((Keep.of_ext (S := fun j => j < w.heap.size) h).trans (k.mono fun j _ hj => by show j ≠ R; omega)).ext_lt
structure KeptM (w : World) (kb n : Nat) (img : Img) : Prop where
 blk : ∃ fr C, w.heap[kb]? = some (.cells C 234 fr)
 secs : ∀ p, p < n → w.rangeAt kb (p * 64) (byteV (img p)) ∧ w.there kb (p * 64) 64
omit [Low] in
theorem byteV_len (l : List UInt8) : (byteV l).length = l.length := by simp [byteV]
omit [Low] in
theorem rangeAt_keep {S : Nat → Prop} {w w' : World} {b o : Nat} {cs : List Value} (h : w.rangeAt b o cs) (k : Keep S w w') (hb : S b) : w'.rangeAt b o cs := fun j v hv => k.cell hb (h j v hv)
omit [Low] in
theorem there_keep {S : Nat → Prop} {w w' : World} {b o n : Nat} (h : w.there b o n) (k : Keep S w w') (hb : S b) : w'.there b o n := fun j hj => by
 obtain ⟨h1, h2⟩ := h j hj
 obtain ⟨u, hu⟩ := Option.isSome_iff_exists.1 h1
 refine ⟨by rw [k.cell hb hu]; rfl, ?_⟩
 have e := k.block b (lt_of_cell hu) hb
 unfold World.frozen? at h2 ⊢
 simp only [e]
 exact h2
omit [Low] in
theorem KeptM.keep {S : Nat → Prop} {w w' : World} {kb n : Nat} {img : Img} (h : KeptM w kb n img) (k : Keep S w w') (hS : S kb) : KeptM w' kb n img := by
 obtain ⟨⟨fr, C, hb⟩, hs⟩ := h
 exact ⟨⟨fr, C, k.heap hS hb⟩, fun p hp => ⟨rangeAt_keep (hs p hp).1 k hS, there_keep (hs p hp).2 k hS⟩⟩
omit [Low] in
theorem KeptM.set {w : World} {kb n : Nat} {img : Img} (h : KeptM w kb n img) (hl : ∀ p, p < n → (img p).length = 64) {p : Nat} {s : List UInt8} (hp : p < n) (hs : s.length = 64) : KeptM (w.setCells kb (p * 64) (byteV s)) kb n (setI img p s) := by
 obtain ⟨⟨fr, C, hb⟩, hc⟩ := h
 have ht : w.there kb (p * 64) (byteV s).length := by rw [byteV_len, hs]; exact (hc p hp).2
 obtain ⟨C', hb', _⟩ := setCells_blk (byteV s) (p * 64) w ⟨C, hb, rfl⟩
 refine ⟨⟨fr, C', hb'⟩, fun q hq => ⟨?_, World.there_setCells (hc q hq).2 _ _ _⟩⟩
 unfold setI
 by_cases e : q = p
 · subst e
   rw [if_pos rfl]
   exact World.rangeAt_setCells_same _ _ _ _ ht
 · rw [if_neg e]
   refine World.rangeAt_setCells_apart (hc q hq).1 _ _ _ (Or.inr ?_)
   rw [byteV_len, byteV_len, hs, hl q hq]
   omega
def SecAt (w : World) (g : Nat) (s : List UInt8) : Prop := s.length = 64 ∧ w.heap[g]? = some (.cells (byteV s).toArray 234 (0, 0))
omit [Low] in
theorem SecAt.range {w : World} {g : Nat} {s : List UInt8} (h : SecAt w g s) : w.rangeAt g 0 (byteV s) := fun j v hv => by
 rw [Nat.zero_add, cell_of_row _ _ _ _ _ _ h.2]
 simpa using hv
omit [Low] in
theorem SecAt.there {w : World} {g : Nat} {s : List UInt8} (h : SecAt w g s) : w.there g 0 64 := fun j hj => by
 rw [Nat.zero_add]
 refine ⟨?_, blk_free h.2 j⟩
 rw [cell_of_row _ _ _ _ _ _ h.2]
 have := h.1
 simp [byteV, show j < s.length by omega]
omit [Low] in
theorem sec_zero (w : World) : SecAt (w.alloc (.cells (byteV zeroS).toArray 234)) w.heap.size zeroS := ⟨zeroS_len, heap_alloc_new w _⟩
omit [Low] in
theorem SecAt.set {w : World} {g : Nat} {s : List UInt8} (h : SecAt w g s) {t : List UInt8} (ht : t.length = 64) : SecAt (w.setCells g 0 (byteV t)) g t ∧ Keep (· ≠ g) w (w.setCells g 0 (byteV t)) :=
 ⟨⟨ht, setCells_all h.2 _ (by rw [byteV_len, ht]; simp [byteV, h.1])⟩, setCells_keep _ _ _⟩
def writeV (x : Nat × List UInt8) : List Value := .int .i64 (x.1 : Int) :: byteV x.2
def diskV (kb n kc : Nat) (cv : Value) (st : Int) : Array Value := #[.slice (some ⟨kb, 0, none⟩) n kc, cv, .bool false, .int .i64 (-1), .int .u64 0, .int .i64 st]
structure DiskC (w : World) (db kb n : Nat) (img : Img) (L : List (Nat × List UInt8)) : Prop where
 top : ∃ kc st ca cc, n ≤ kc ∧ w.heap[db]? = some (.cells (diskV kb n kc (.slice ca L.length cc) st) 190 (0, 0)) ∧ w.ownsRow Low.low 257 65 (.slice ca L.length cc) L.length (L.flatMap writeV)
 kept : KeptM w kb n img
 size : 1 ≤ n ∧ n ≤ 4096
 len : ∀ p, p < n → (img p).length = 64
 all : ∀ x ∈ L, x.1 < n ∧ x.2.length = 64
 low : Low.low ≤ db ∧ Low.low ≤ kb
def DiskM (w : World) (db kb n : Nat) (img : Img) : Prop := DiskC w db kb n img []
def diskT : List TypeId := [190, 234, 257]
theorem DiskC.keep {S : Nat → Prop} {w w' : World} {db kb n : Nat} {img : Img} {L : List (Nat × List UInt8)} (h : DiskC w db kb n img L) (k : Keep S w w') (hS : ∀ g cs t fr, w.heap[g]? = some (.cells cs t fr) → t ∈ diskT → S g) : DiskC w' db kb n img L := by
 obtain ⟨⟨kc, st, ca, cc, hn, ht, hr⟩, hk, h1, h2, h3, h4⟩ := h
 obtain ⟨fr, C, hb⟩ := hk.blk
 refine ⟨⟨kc, st, ca, cc, hn, k.heap (hS _ _ _ _ ht (by decide)) ht, ownsRow_keep hr k fun g cur _ _ hg => hS _ _ _ _ hg (by decide)⟩, hk.keep k (hS _ _ _ _ hb (by decide)), h1, h2, h3, h4⟩
theorem DiskC.ext {w w' : World} {db kb n : Nat} {img : Img} {L : List (Nat × List UInt8)} (h : DiskC w db kb n img L) (k : Ext w w') : DiskC w' db kb n img L :=
 h.keep (Keep.of_ext (S := fun _ => True) k) fun _ _ _ _ _ _ => trivial
theorem DiskC.keepT {ts : List TypeId} {w w' : World} {db kb n : Nat} {img : Img} {L : List (Nat × List UInt8)} (h : DiskC w db kb n img L) (k : KeepT ts w w') (hd : ∀ t ∈ diskT, t ∉ ts) : DiskC w' db kb n img L :=
 h.keep k fun _ _ _ _ hg ht => notTy_of hg (hd _ ht)
end Go.Proofs.YtefpllpichhojaaGreatDoor
namespace Go.Proofs.YtefpllpichhojaaGreatDoor
open Go
section
variable {P : Program} {ops : Array Oper} {Q : Exit → Act → World → Prop} {md : Region.Mode} {S : World → Prop} {I : List Nat}
def waitsAll (md : Region.Mode) (ops : Array Oper) (I : List Nat) (j : Nat) : Bool :=
 I.all fun i => match ops[j]? with | some o => o.after.any (fun e => Region.binds md e && e.on == i) | none => false
def wpAnyK (P : Program) (md : Region.Mode) (ops : Array Oper) (Q : Exit → Act → World → Prop) (S : World → Prop) (I : List Nat) : Nat → Array Bool → Bool → Act → World → Prop
 | 0, listed, _, a, w => Region.ready md ops listed = [] ∧ Q .normal a w
 | fuel + 1, listed, b, a, w =>
   (Region.ready md ops listed = [] → Q .normal a w) ∧
   ∀ i ∈ Region.ready md ops listed, wpOp P ops Q i (fun a' w' => ∃ b' : Bool, (b' = true → S w') ∧ ((b = true ∧ waitsAll md ops I i = false) → b' = true) ∧ wpAnyK P md ops Q S I fuel (listed.setIfInBounds i true) b' a' w') a w
theorem wpAny_of_K : ∀ (fuel : Nat) (listed : Array Bool) (b : Bool) (a : Act) (w : World), wpAnyK P md ops Q S I fuel listed b a w → wpAny P md ops Q fuel listed a w
 | 0, _, _, _, _, h => h
 | fuel + 1, _, _, _, _, h => ⟨h.1, fun i hi => wpOp_mono (fun a' w' h' => by obtain ⟨b', _, _, h3⟩ := h'; exact wpAny_of_K fuel _ b' a' w' h3) (h.2 i hi)⟩
theorem waits_not {i j : Nat} {oj : Oper} (hi : i ∈ I) (hj : ops[j]? = some oj) (hno : ∀ e ∈ oj.after, Region.binds md e = true → e.on ≠ i) : waitsAll md ops I j = false := by
 cases h : waitsAll md ops I j
 · rfl
 · unfold waitsAll at h
   have := (List.all_eq_true.1 h) i hi
   rw [hj] at this
   simp only at this
   obtain ⟨e, he, hb⟩ := Array.any_eq_true'.1 this
   simp only [Bool.and_eq_true, beq_iff_eq] at hb
   exact absurd hb.2 (hno e he hb.1)
theorem wpAnyK_first {c : Bool} {i : Nat} {oi : Oper} {v : Value} (hi : ops[i]? = some oi) (hsel : ∀ (j : Nat) (o : Oper) cs b, ops[j]? = some o → o.op ≠ .select cs b)
 (hQ : ∀ c a w, Q (.panic c) (a.put oi.dst v) w → Q (.panic c) a w) (hI : c = true → i ∈ I) :
 ∀ (fuel : Nat) (listed : Array Bool) (b : Bool) (a : Act) (w : World),
   (∀ j oj, ops[j]? = some oj → j ≠ i → listed.getD j true = false → (∀ e ∈ oj.after, Region.binds md e = true → e.on ≠ i) → oi.apart ops oj = true) →
   i ∈ Region.ready md ops listed → YieldsIf P ops (fun w => c = true → S w) oi v a → (c = true → b = true) → (b = true → S w) →
   wpAnyK P md ops Q S I fuel (listed.setIfInBounds i true) b (a.put oi.dst v) w → wpAnyK P md ops Q S I (fuel + 1) listed b a w := by
 intro fuel
 induction fuel with
 | zero =>
   intro listed b a w _ hr hy hc hS H
   refine ⟨fun h => (by rw [h] at hr; cases hr), fun j hj => ?_⟩
   by_cases hji : j = i
   · subst hji; exact hy.wpOp hi (fun hcc => hS (hc hcc)) ⟨b, hS, fun h => h.1, H⟩
   · have := ready_mono hj hji
     rw [H.1] at this
     cases this
 | succ fuel ih =>
   intro listed b a w hfree hr hy hc hS H
   refine ⟨fun h => (by rw [h] at hr; cases hr), fun j hj => ?_⟩
   by_cases hji : j = i
   · subst hji; exact hy.wpOp hi (fun hcc => hS (hc hcc)) ⟨b, hS, fun h => h.1, H⟩
   · have h1 := H.2 j (ready_mono hj hji)
     obtain ⟨hjun, oj, hoj, hall⟩ := mem_ready.1 hj
     have hnot : ∀ e ∈ oj.after, Region.binds md e = true → e.on ≠ i := fun e he hb heq => by
      have h1 := hall e he hb
      have h0 := (mem_ready.1 hr).1
      rw [heq] at h1
      rcases Nat.lt_or_ge i listed.size with h' | h'
      · simp [h'] at h0 h1; rw [h0] at h1; cases h1
      · simp [Array.getElem?_eq_none h'] at h1
     have h2 := wpOp_putIf hoj (hfree j oj hoj hji hjun hnot) (fun cs b => hsel i oi cs b hi) (fun cs b => hsel j oj cs b hoj) hQ hy h1
     have hfree' : ∀ k ok, ops[k]? = some ok → k ≠ i → (listed.setIfInBounds j true).getD k true = false →
      (∀ e ∈ ok.after, Region.binds md e = true → e.on ≠ i) → oi.apart ops ok = true := fun k ok hk hki hun hno => by
      refine hfree k ok hk hki ?_ hno
      by_cases hjk : j = k
      · subst hjk; exact hjun
      · rw [getD_set_ne true hjk] at hun; exact hun
     refine wpOp_mono (fun a' w' h3 => ?_) h2
     obtain ⟨hy', b', hb1, hb2, hH⟩ := h3
     refine ⟨b', hb1, hb2, ih (listed.setIfInBounds j true) b' a' w' hfree' (ready_mono hr (Ne.symm hji)) hy' (fun hcc => hb2 ⟨hc hcc, waits_not (hI hcc) hoj hnot⟩) hb1 ?_⟩
     rw [Array.setIfInBounds_comm _ _ hji]
     exact hH
theorem wpAnyK_load {i : Nat} {oi : Oper} {v : Value} {fuel : Nat} {listed : Array Bool} {a : Act} {w : World} (hi : ops[i]? = some oi)
 (hs : Region.noSelect ops = true) (hf : Region.free md ops listed i = true) (hr : (Region.ready md ops listed).contains i = true)
 (hQ : ∀ c a w, Q (.panic c) (a.put oi.dst v) w → Q (.panic c) a w) (hI : I.contains i = true) (hw : Region.wanted oi (yielded ops a.tmps) = true) (hy : ∀ w, S w → (execOp a.eval oi).run P w = .ok (.value v) w) (hS : S w)
 (h : wpAnyK P md ops Q S I fuel (listed.setIfInBounds i true) true (a.put oi.dst v) w) : wpAnyK P md ops Q S I (fuel + 1) listed true a w :=
 wpAnyK_first (c := true) hi (Region.noSelect_spec hs) hQ (fun _ => by simpa using hI) fuel listed true a w (Region.free_spec hi hf) (by simpa using hr) (Or.inl ⟨hw, fun w' h' => hy w' (h' rfl)⟩) (fun _ => rfl) (fun _ => hS) h
theorem wpAnyK_free {i : Nat} {oi : Oper} {v : Value} {fuel : Nat} {listed : Array Bool} {b : Bool} {a : Act} {w : World} (hi : ops[i]? = some oi)
 (hs : Region.noSelect ops = true) (hf : Region.free md ops listed i = true) (hr : (Region.ready md ops listed).contains i = true)
 (hQ : ∀ c a w, Q (.panic c) (a.put oi.dst v) w → Q (.panic c) a w) (hw : Region.wanted oi (yielded ops a.tmps) = true) (hy : ∀ w, (execOp a.eval oi).run P w = .ok (.value v) w) (hS : b = true → S w)
 (h : wpAnyK P md ops Q S I fuel (listed.setIfInBounds i true) b (a.put oi.dst v) w) : wpAnyK P md ops Q S I (fuel + 1) listed b a w :=
 wpAnyK_first (c := false) hi (Region.noSelect_spec hs) hQ (fun h => by cases h) fuel listed b a w (Region.free_spec hi hf) (by simpa using hr) (Or.inl ⟨hw, fun w' _ => hy w'⟩) (fun h => by cases h) hS h
theorem wpAnyK_last {i : Nat} {o : Oper} {fuel : Nat} {listed : Array Bool} {b : Bool} {a : Act} {w : World} (hr : Region.ready md ops listed = [i]) (ho : ops[i]? = some o) (hwt : waitsAll md ops I i = true)
 (h : ∀ K' : Act → World → Prop, Shut (∀ a w, wpAnyK P md ops Q S I fuel (listed.setIfInBounds i true) false a w → K' a w) → if Region.wanted o (yielded ops a.tmps) = true then Oper.wp P o a w K' Q else K' (a.put o.dst undef) w) :
 wpAnyK P md ops Q S I (fuel + 1) listed b a w := by
 refine ⟨fun h0 => (by rw [hr] at h0; cases h0), fun j hj => ?_⟩
 rw [hr] at hj
 obtain rfl := List.mem_singleton.1 hj
 exact wpOp_step ho (fun K' hK => h K' (fun a w hW => hK a w ⟨false, fun h => (by cases h), fun h => (by rw [hwt] at h; cases h.2), hW⟩))
theorem wpAnyK_done {listed : Array Bool} {b : Bool} {a : Act} {w : World} (hr : Region.ready md ops listed = []) (h : Q .normal a w) : ∀ fuel, wpAnyK P md ops Q S I fuel listed b a w
 | 0 => ⟨hr, h⟩
 | _ + 1 => ⟨fun _ => h, by rw [hr]; simp⟩
theorem wp_region_K {id : Nat} {a : Act} {w : World} (hm : P.follows .mixedOrders = true) (hS : S w.drew)
 (h : S w.drew → wpAnyK P .any ops Q S I ops.size (Array.replicate ops.size false) true a w.drew) : (Code.region id ops true).wp P Q a w :=
 wp_region_any hm (wpAny_of_K _ _ _ _ _ (h hS))
end
end Go.Proofs.YtefpllpichhojaaGreatDoor
namespace Go.Proofs.YtefpllpichhojaaGreatDoor
open Go
section
variable {P : Program} {ops : Array Oper} {Q : Exit → Act → World → Prop} {md : Region.Mode} {S : World → Prop} {I : List Nat}
def AllReadyK (P : Program) (md : Region.Mode) (ops : Array Oper) (Q : Exit → Act → World → Prop) (S : World → Prop) (I : List Nat) (fuel : Nat) (listed : Array Bool) (a : Act) (w : World) (rs : List Nat) : Prop :=
 ∀ i ∈ rs, wpOp P ops Q i (fun a' w' => S w' ∧ wpAnyK P md ops Q S I fuel (listed.setIfInBounds i true) true a' w') a w
theorem AllReadyK.nil {fuel : Nat} {listed : Array Bool} {a : Act} {w : World} : AllReadyK P md ops Q S I fuel listed a w [] := fun _ h => by cases h
theorem AllReadyK.cons {fuel : Nat} {listed : Array Bool} {a : Act} {w : World} {i : Nat} {o : Oper} {rs : List Nat} (ho : ops[i]? = some o)
 (h : ∀ K' : Act → World → Prop, Shut (∀ a w, S w → (S w → wpAnyK P md ops Q S I fuel (listed.setIfInBounds i true) true a w) → K' a w) → if Region.wanted o (yielded ops a.tmps) = true then Oper.wp P o a w K' Q else K' (a.put o.dst undef) w)
 (hs : AllReadyK P md ops Q S I fuel listed a w rs) : AllReadyK P md ops Q S I fuel listed a w (i :: rs) := fun j hj => by
 rcases List.mem_cons.1 hj with rfl | hj
 · exact wpOp_step ho (fun K' hK => h K' (fun a w hS hW => hK a w ⟨hS, hW hS⟩))
 · exact hs j hj
theorem wpAnyK_ready {rs : List Nat} {fuel : Nat} {listed : Array Bool} {a : Act} {w : World} (hr : Region.ready md ops listed = rs) (hne : rs ≠ [])
 (h : AllReadyK P md ops Q S I fuel listed a w rs) : wpAnyK P md ops Q S I (fuel + 1) listed true a w := by
 refine ⟨fun h0 => absurd (hr.symm.trans h0) hne, fun j hj => ?_⟩
 rw [hr] at hj
 exact wpOp_mono (fun a' w' h' => ⟨true, fun _ => h'.1, fun _ => rfl, h'.2⟩) (h j hj)
end
end Go.Proofs.YtefpllpichhojaaGreatDoor
namespace Go.Proofs.YtefpllpichhojaaGreatDoor
open Go.RowKit
variable [Low]
omit [Low] in
theorem size_sector : (Tryz.prog.info? 234).map (·.size) = some 64 := by kernel_rfl
omit [Low] in
theorem size_write : (Tryz.prog.info? 257).map (·.size) = some 65 := by kernel_rfl
omit [Low] in
theorem foldl_set : ∀ (l : List Value) (k off : Nat) (cs : Array Value), ((l.zipIdx k).foldl (fun cs (x : Value × Nat) => cs.setIfInBounds (off + x.2) x.1) cs).size = cs.size ∧
 ∀ i, ((l.zipIdx k).foldl (fun cs (x : Value × Nat) => cs.setIfInBounds (off + x.2) x.1) cs)[i]? = if off + k ≤ i ∧ i < off + k + l.length ∧ i < cs.size then l[i - (off + k)]? else cs[i]?
 | [], k, off, cs => ⟨rfl, fun i => by rw [if_neg (by simp only [List.length_nil]; omega)]; rfl⟩
 | v :: l, k, off, cs => by
   rw [List.zipIdx_cons, List.foldl_cons]
   obtain ⟨h1, h2⟩ := foldl_set l (k + 1) off (cs.setIfInBounds (off + k) v)
   refine ⟨by rw [h1, Array.size_setIfInBounds], fun i => ?_⟩
   rw [h2, Array.size_setIfInBounds, List.length_cons]
   by_cases hi : i < cs.size
   · by_cases ha : i = off + k
     · subst ha
       rw [if_neg (by omega), if_pos (by omega), Nat.sub_self]
       simp [hi]
     · by_cases hb : off + k < i ∧ i < off + k + (l.length + 1)
       · rw [if_pos (by omega), if_pos (by omega)]
         have e : i - (off + k) = (i - (off + (k + 1))) + 1 := by omega
         rw [e, List.getElem?_cons_succ]
       · rw [if_neg (by omega), if_neg (by omega), Array.getElem?_setIfInBounds_ne (by omega)]
   · rw [if_neg (by omega), if_neg (by omega), Array.getElem?_eq_none (by simp; omega), Array.getElem?_eq_none (by omega)]
omit [Low] in
theorem fill_part (off : Nat) (V cs : Array Value) (h : off + V.size ≤ cs.size) :
 V.zipIdx.foldl (fun cs (x : Value × Nat) => cs.setIfInBounds (off + x.2) x.1) cs = (cs.toList.take off ++ (V.toList ++ cs.toList.drop (off + V.size))).toArray := by
 have e : V.zipIdx.foldl (fun cs (x : Value × Nat) => cs.setIfInBounds (off + x.2) x.1) cs = (V.toList.zipIdx 0).foldl (fun cs (x : Value × Nat) => cs.setIfInBounds (off + x.2) x.1) cs := by
  rw [← Array.foldl_toList, Array.toList_zipIdx]
 rw [e]
 obtain ⟨h1, h2⟩ := foldl_set V.toList 0 off cs
 apply Array.ext_getElem?
 intro i
 rw [h2, Nat.add_zero, Array.length_toList]
 by_cases ha : i < off
 · rw [if_neg (by omega)]
   simp only [List.getElem?_toArray]
   rw [List.getElem?_append_left (by simp; omega)]
   simp [ha]
 · by_cases hb : i < off + V.size
   · rw [if_pos (by omega)]
     simp only [List.getElem?_toArray]
     rw [List.getElem?_append_right (by simp; omega), List.getElem?_append_left (by simp; omega)]
     congr 1; simp; omega
   · rw [if_neg (by omega)]
     simp only [List.getElem?_toArray]
     rw [List.getElem?_append_right (by simp; omega), List.getElem?_append_right (by simp; omega)]
     simp only [List.length_take, Array.length_toList, List.getElem?_drop, Array.getElem?_toList]
     congr 1; omega
omit [Low] in
theorem fill_cons {place : Nat → Option (Nat × Nat)} {cells : Array Value} {i off size : Nat} {v : Value} {rest : List (Nat × Value)} (hp : place i = some (off, size)) (h1 : v.cells.size = size) (h2 : off + size ≤ cells.size) :
 Instr.fill place cells ((i, v) :: rest) = Instr.fill place (cells.toList.take off ++ (v.cells.toList ++ cells.toList.drop (off + size))).toArray rest := by
 have e := fill_part off v.cells cells (by omega)
 rw [h1] at e
 simp only [Instr.fill, hp]
 rw [if_neg (by simp [h1]; omega), ← e]
def zWrite : Value := .agg (.int .i64 0 :: List.replicate 64 (.int .u8 0)).toArray
omit [Low] in
theorem info_write : (Tryz.prog.info? 257).map (fun i => (i.zero, i.size, i.bytes)) = some (some zWrite, 65, 72) := by kernel_rfl
omit [Low] in
theorem zWrite_size : zWrite.cells.size = 65 := by simp [zWrite, Value.cells]
omit [Low] in
theorem agg_cells (C : Array Value) : (Value.agg C).cells = C := rfl
omit [Low] in
theorem int_cells (k : IntKind) (n : Int) : (Value.int k n).cells = #[.int k n] := rfl
omit [Low] in
set_option maxRecDepth 100000 in
theorem built_write (at_ : Int) {V : List Value} (hV : V.length = 64) : Tryz.prog.built 257 [(0, .int .i64 at_), (1, .agg V.toArray)] = some (.int .i64 at_ :: V).toArray := by
 obtain ⟨i0, hi, hz, hs, hb⟩ := info_parts info_write
 have hpl : (match Tryz.prog.underlying 257 with | some (.struct fs) => fs.toList.mapM (fun f => (Tryz.prog.info? f.type).map fun i => (f.offset, i.size)) | _ => none) = some [(0, 1), (1, 64)] := by kernel_rfl
 have hu := Tryz.underlying257
 unfold Program.built
 rw [hu] at hpl ⊢
 simp only [hi, hz]
 simp only at hpl
 rw [hpl]
 simp only
 have hz := zWrite_size
 rw [fill_cons (off := 0) (size := 1) rfl rfl (by omega), fill_cons (off := 1) (size := 64) rfl (by rw [agg_cells, List.size_toArray, hV]) (by simp [int_cells, hz])]
 simp [Instr.fill, int_cells, agg_cells, hz]
omit [Low] in
theorem run_build_write (at_ : Int) {V : List Value} (hV : V.length = 64) (w : World) : (Instr.build 257 #[(0, .int .i64 at_), (1, .agg V.toArray)]).run Tryz.prog w = .ok (.agg (.int .i64 at_ :: V).toArray) w :=
 run_build w _ _ _ (built_write at_ hV)
omit [Low] in
theorem run_buildSlice_write {C : Array Value} (hC : C.size = 65) (w : World) : (Instr.buildSlice 187 1 #[(0, .agg C)]).run Tryz.prog w = .ok (.slice (some ⟨w.heap.size, 0, none⟩) 1 1) (w.alloc (.cells C 257)) := by
 obtain ⟨i0, hi, hz, hs, hb⟩ := info_parts info_write
 have hu := Tryz.underlying187
 have hzs := zWrite_size
 have hz65 : ((Array.range (1 * 65)).map (fun x => zWrite.cells[x % zWrite.cells.size]!)).size = 65 := by simp
 have hf : Instr.fill (fun i => some (i * 65, 65)) ((Array.range (1 * 65)).map (fun x => zWrite.cells[x % zWrite.cells.size]!)) [(0, .agg C)] = some C := by
  rw [fill_cons (off := 0) (size := 65) rfl (by rw [agg_cells]; exact hC) (by rw [hz65]; omega)]
  simp only [Instr.fill, agg_cells]
  rw [List.take_zero, List.nil_append, List.drop_of_length_le (by rw [Array.length_toList, hz65]; omega), List.append_nil]
 simp only [Nat.one_mul] at hf
 simp [Instr.buildSlice, run_underlying hu, sizeOf, typeInfo, zeroValue, hi, hz, hs, hf, newRow]
section
variable {P : Program} {ops : Array Oper} {o : Oper} {a : Act} {Q : Exit → Act → World → Prop} {W : World} {K : Act → World → Prop} {E' : Prop}
omit [Low] in
theorem exec_load_mid {ev : Operand → Value} (ty : TypeId) (x : Operand) (ho : o.op = .load ty x) (b off : Nat) (hx : ev x = .pointer (some ⟨b, off, none⟩)) (cs : List Value) (d : TypeDesc) (hc : W.rangeAt b off cs)
 (hu : P.underlying ty = some d) (hd : d.isRow = true) (hi : (P.info? ty).map (·.size) = some cs.length) : (execOp ev o).run P W = .ok (.value (.agg cs.toArray)) W := by
 unfold execOp
 simp only [ho, hx, Instr.loadAt, Instr.sureAddr, Sem.run_bind, Sem.run_pure, Result.andThen_ok, run_loadVar_mid W b off ty cs d hc hu hd hi]
omit [Low] in
theorem exec_build_write {ev : Operand → Value} (x y : Operand) (ho : o.op = .build 257 #[(0, x), (1, y)]) (at_ : Int) (hx : ev x = .int .i64 at_) (V : List Value) (hy : ev y = .agg V.toArray) (hV : V.length = 64) :
 (execOp ev o).run Tryz.prog W = .ok (.value (.agg (.int .i64 at_ :: V).toArray)) W := by
 unfold execOp
 simp only [ho, List.map_toArray, List.map_cons, List.map_nil, hx, hy, Sem.run_bind, Sem.run_pure, Result.andThen_ok, run_build_write at_ hV W]
omit [Low] in
theorem step_buildSlice_write (hgd : o.guard = none) (x : Operand) (ho : o.op = .buildSlice 187 1 #[(0, x)]) (C : Array Value) (hx : a.eval x = .agg C) (hC : C.size = 65)
 (h : K (a.put o.dst (.slice (some ⟨W.heap.size, 0, none⟩) 1 1)) (W.alloc (.cells C 257))) : if Region.wanted o (yielded ops a.tmps) = true then Oper.wp Tryz.prog o a W K Q else E' := by
 have hw : Region.wanted o (yielded ops a.tmps) = true := by simp [Region.wanted, hgd]
 rw [if_pos hw]
 unfold Oper.wp execOp
 simp only [ho, List.map_toArray, List.map_cons, List.map_nil, hx, Sem.run_bind, Sem.run_pure, Result.andThen_ok, run_buildSlice_write hC W]
 exact h
omit [Low] in
theorem step_store_mid (hgd : o.guard = none) (ty : TypeId) (x y : Operand) (ho : o.op = .store ty x y) (b off : Nat) (cells : Array Value) (hx : a.eval x = .pointer (some ⟨b, off, none⟩)) (hy : a.eval y = .agg cells)
 (ht : W.there b off cells.size) (hi : (P.info? ty).map (·.size) = some cells.size) (h1 : cells.all (·.oneCell') = true) (h : K (a.put o.dst undef) (W.setCells b off cells.toList)) :
 if Region.wanted o (yielded ops a.tmps) = true then Oper.wp P o a W K Q else E' := by
 have hw : Region.wanted o (yielded ops a.tmps) = true := by simp [Region.wanted, hgd]
 rw [if_pos hw]
 exact wp_store_mid ty x y ho b off cells hx hy ht hi h1 h
end
omit [Low] in
theorem flat_atm {α : Type} {F : α → List Value} {m : Nat} : ∀ (L : List α) (_ : ∀ x ∈ L, (F x).length = m) (i r : Nat) (hi : i < L.length), r < m → (L.flatMap F)[i * m + r]? = (F L[i])[r]?
 | x :: L, hm, 0, r, _, hr => by
   rw [List.flatMap_cons, Nat.zero_mul, Nat.zero_add, List.getElem?_append_left (by rw [hm x (by simp)]; exact hr)]; rfl
 | x :: L, hm, i + 1, r, hi, hr => by
   rw [List.flatMap_cons, List.getElem?_append_right (by rw [hm x (by simp)]; exact Nat.le_trans (Nat.le_mul_of_pos_left m (Nat.succ_pos i)) (Nat.le_add_right _ _)), hm x (by simp)]
   rw [show (i + 1) * m + r - m = i * m + r by rw [Nat.succ_mul]; omega]
   exact flat_atm L (fun y hy => hm y (by simp [hy])) i r (by simpa using hi) hr
omit [Low] in
theorem writeV_len {x : Nat × List UInt8} (h : x.2.length = 64) : (writeV x).length = 65 := by simp [writeV, byteV, h]
omit [Low] in
theorem write_at {w : World} {base cc : Nat} {ca : Option Addr} {L : List (Nat × List UInt8)} (h : w.ownsRow base 257 65 (.slice ca L.length cc) L.length (L.flatMap writeV)) (hl : ∀ x ∈ L, x.2.length = 64) {k : Nat} (hk : k < L.length) :
 ∃ g, ca = some ⟨g, 0, none⟩ ∧ w.rangeAt g (k * 65) (writeV L[k]) ∧ ∃ cur, w.heap[g]? = some (.cells cur 257 (0, 0)) := by
 obtain ⟨_, h | ⟨g, c, cur, hv, _, hg, _, _, hsz, ht⟩⟩ := h
 · rw [h.2] at hk; cases hk
 · cases hv
   refine ⟨g, rfl, fun j v hv => ?_, cur, hg⟩
   have hj : j < 65 := by
    have := (List.getElem?_eq_some_iff.1 hv).1
    rw [writeV_len (hl _ (List.getElem_mem hk))] at this; exact this
   have e := flat_atm (F := writeV) (m := 65) L (fun x hx => writeV_len (hl x hx)) k j hk hj
   rw [cell_of_row _ _ _ _ _ _ hg, ← Array.getElem?_toList, ← hv, ← e, ← ht, List.getElem?_take_of_lt]
   have : (k + 1) * 65 ≤ L.length * 65 := Nat.mul_le_mul_right _ hk
   omega
end Go.Proofs.YtefpllpichhojaaGreatDoor
