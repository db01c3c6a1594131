/- Plain words on packages: which may be, how they are packed, and read back. No program in sight. -/
import Derived.Test.YtlpjmkkinlcbnaaGreatDoorM1
import Derived.Test.YtlpjmkkinlcbnaaGreatDoorVerSpec
import Derived.Test.YtlpjmkkinlcbnaaGreatDoorCrcSpec
namespace Go.Proofs.YtlpjmkkinlcbnaaGreatDoor
abbrev By := List UInt8
structure NeedD where
  name : By
  way : Int
  ver : By
structure FileD where
  path : By
  config : Bool
  data : By
structure PkgD where
  name : By
  ver : By
  needs : List NeedD
  conf : List By
  files : List FileD
  units : List By
def pz : PkgD := ⟨[], [], [], [], [], []⟩
/-! ### May it be? -/
def verR (l : By) : Bool := (verL l).isSome
def needR (n : NeedD) : Bool := nameL n.name && (decide (n.way = 0 ∧ n.ver = []) || (decide (1 ≤ n.way ∧ n.way ≤ 3) && verR n.ver))
def varL : By := [47, 118, 97, 114]
def fileR (f : FileD) : Bool := rightL f.path && (decide (f.data.length ≤ 512) && (!withinL f.path varL && !decide (f.path = varL)))
/-- Is a text less than another one? -/
def ltL : By → By → Bool
  | [], [] => false
  | [], _ :: _ => true
  | _ :: _, [] => false
  | a :: l, b :: m => decide (a.toNat < b.toNat) || (decide (a.toNat = b.toNat) && ltL l m)
theorem ltL_trans : ∀ {a b c : By}, ltL a b = true → ltL b c = true → ltL a c = true
  | [], b, [], h, k => by cases b <;> simp [ltL] at h k
  | [], _, _ :: _, _, _ => rfl
  | _ :: _, [], _, h, _ => by simp [ltL] at h
  | _ :: _, _ :: _, [], _, k => by simp [ltL] at k
  | x :: a, y :: b, z :: c, h, k => by
    simp only [ltL, Bool.or_eq_true, Bool.and_eq_true, decide_eq_true_eq] at h k ⊢
    rcases h with h | ⟨h1, h2⟩ <;> rcases k with k | ⟨k1, k2⟩
    · left; omega
    · left; omega
    · left; omega
    · right; exact ⟨by omega, ltL_trans h2 k2⟩
/-- The file of a number, behind those ahead of it. -/
def fileAt (L : List FileD) (k : Nat) : Bool :=
  fileR (L.getD k ⟨[], false, []⟩) && ((decide (k = 0) || ltL (L.getD (k - 1) ⟨[], false, []⟩).path (L.getD k ⟨[], false, []⟩).path) && !((L.take k).any fun g => withinL (L.getD k ⟨[], false, []⟩).path g.path))
def filesTo (L : List FileD) (k : Nat) : Bool := (List.range k).all fun j => fileAt L j
theorem filesTo_succ (L : List FileD) (k : Nat) : filesTo L (k + 1) = (filesTo L k && fileAt L k) := by simp [filesTo, List.range_succ, List.all_append]
def headP (p : PkgD) : Bool := nameL p.name && (verR p.ver && (decide (p.needs.length ≤ 8) && (decide (p.conf.length ≤ 8) && (decide (p.files.length ≤ 12) && decide (p.units.length ≤ 4)))))
def confR (p : PkgD) (s : By) : Bool := nameL s && !decide (s = p.name)
def rightP (p : PkgD) : Bool := headP p && (p.needs.all needR && (p.conf.all (confR p) && (p.units.all (fun s => decide (s.length ≤ 300)) && filesTo p.files p.files.length)))
/-! ### Its bytes -/
def needB (n : NeedD) : By := raw4 n.name ++ (numI n.way ++ raw4 n.ver)
def boolN (b : Bool) : Nat := if b then 1 else 0
def fileB (f : FileD) : By := raw4 f.path ++ (num4 (boolN f.config) ++ raw4 f.data)
def packP (p : PkgD) : By := [raw4 p.name, raw4 p.ver, raw4 (p.needs.flatMap needB), raw4 (p.conf.flatMap raw4), raw4 (p.files.flatMap fileB), raw4 (p.units.flatMap raw4)].flatten
def sumB (l : By) : By := num4 (crcL l).toNat
def writeP (p : PkgD) : By := packP p ++ sumB (packP p)
/-! ### Read back -/
def oneNeed (s : RSt) : NeedD × RSt := (⟨(rRaw 12 s).1, ((rNum 3 (rRaw 12 s).2).1 : Nat), (rRaw 30 (rNum 3 (rRaw 12 s).2).2).1⟩, (rRaw 30 (rNum 3 (rRaw 12 s).2).2).2)
def oneFile (s : RSt) : FileD × RSt := (⟨(rRaw 40 s).1, decide ((rNum 1 (rRaw 40 s).2).1 = 1), (rRaw 512 (rNum 1 (rRaw 40 s).2).2).1⟩, (rRaw 512 (rNum 1 (rRaw 40 s).2).2).2)
theorem oneNeed_takes : Takes oneNeed := fun _ h => Nat.lt_of_le_of_lt (rRaw_len 30 _).1 (Nat.lt_of_le_of_lt (rNum_len 3 _) (rRaw_less h))
theorem oneFile_takes : Takes oneFile := fun _ h => Nat.lt_of_le_of_lt (rRaw_len 512 _).1 (Nat.lt_of_le_of_lt (rNum_len 1 _) (rRaw_less h))
theorem oneNeed_good (s : RSt) (x : NeedD) (l : By) (h : oneNeed s = (x, (l, false))) : s.2 = false ∧ s.1 = needB x ++ l := by
  unfold oneNeed at h
  simp only [Prod.mk.injEq] at h
  obtain ⟨rfl, h⟩ := h
  have h3 : rRaw 30 (rNum 3 (rRaw 12 s).2).2 = ((rRaw 30 (rNum 3 (rRaw 12 s).2).2).1, (l, false)) := by rw [← h]
  obtain ⟨g1, g2, _⟩ := rRaw_good h3
  have h2 : rNum 3 (rRaw 12 s).2 = ((rNum 3 (rRaw 12 s).2).1, ((rNum 3 (rRaw 12 s).2).2.1, false)) := by rw [← g1]
  obtain ⟨g3, g4, g5, g6⟩ := rNum_good h2
  have h1 : rRaw 12 s = ((rRaw 12 s).1, ((rRaw 12 s).2.1, false)) := by rw [← g3]
  obtain ⟨g7, g8, _⟩ := rRaw_good h1
  refine ⟨g7, ?_⟩
  simp only [needB, numI, u32_of g6, List.append_assoc]
  rw [← g2, ← g4]; exact g8
theorem oneFile_good (s : RSt) (x : FileD) (l : By) (h : oneFile s = (x, (l, false))) : s.2 = false ∧ s.1 = fileB x ++ l := by
  unfold oneFile at h
  simp only [Prod.mk.injEq] at h
  obtain ⟨rfl, h⟩ := h
  have h3 : rRaw 512 (rNum 1 (rRaw 40 s).2).2 = ((rRaw 512 (rNum 1 (rRaw 40 s).2).2).1, (l, false)) := by rw [← h]
  obtain ⟨g1, g2, _⟩ := rRaw_good h3
  have h2 : rNum 1 (rRaw 40 s).2 = ((rNum 1 (rRaw 40 s).2).1, ((rNum 1 (rRaw 40 s).2).2.1, false)) := by rw [← g1]
  obtain ⟨g3, g4, g5, g6⟩ := rNum_good h2
  have h1 : rRaw 40 s = ((rRaw 40 s).1, ((rRaw 40 s).2.1, false)) := by rw [← g3]
  obtain ⟨g7, g8, _⟩ := rRaw_good h1
  refine ⟨g7, ?_⟩
  have hb : boolN (decide ((rNum 1 (rRaw 40 s).2).1 = 1)) = (rNum 1 (rRaw 40 s).2).1 := by
    unfold boolN
    by_cases e : (rNum 1 (rRaw 40 s).2).1 = 1
    · rw [e]; rfl
    · have : (rNum 1 (rRaw 40 s).2).1 = 0 := by omega
      rw [this]; rfl
  simp only [fileB, hb, List.append_assoc]
  rw [← g2, ← g4]; exact g8
/-! And the other way: what was packed is read. -/
theorem le32_num4 {n : Nat} (h : n < 4294967296) (l : By) : le32 (num4 n ++ l) = n := by
  simp only [le32, byteAt, num4, List.cons_append, List.nil_append, List.getD_cons_zero, List.getD_cons_succ, UInt8.toNat_ofNat']
  omega
theorem rNum_back {most n : Nat} (h : n ≤ most) (hn : n < 4294967296) (l : By) : rNum most (num4 n ++ l, false) = (n, (l, false)) := by
  have hl : ¬ (num4 n ++ l).length < 4 := by simp [num4_len]
  unfold rNum
  simp only [if_neg hl, le32_num4 hn, if_neg (show ¬ most < n by omega)]
  rfl
theorem rRaw_back {most : Nat} {p : By} (h : p.length ≤ most) (hp : p.length < 4294967296) (l : By) : rRaw most (raw4 p ++ l, false) = (p, (l, false)) := by
  have e := rNum_back h hp (p ++ l)
  unfold raw4
  rw [List.append_assoc]
  unfold rRaw
  rw [e]
  simp
theorem rList_back {p : By} (h : p.length ≤ 16777216) (l : By) : rList (raw4 p ++ l, false) = ((p, false), (l, false)) := by
  unfold rList
  rw [rRaw_back h (by omega) l]
theorem rEach_back {α : Type} {one : RSt → α × RSt} {enc : α → By} (less : Takes one) : ∀ (L : List α), (∀ x ∈ L, 0 < (enc x).length ∧ ∀ l, one (enc x ++ l, false) = (x, (l, false))) → rEach one (L.flatMap enc, false) = (L, ([], false))
  | [], _ => rEach_nil one rfl
  | x :: L, h => by
    obtain ⟨h1, h2⟩ := h x (by simp)
    rw [List.flatMap_cons]
    rw [rEach_cons less (by simp only [List.length_append]; omega), h2]
    simp only [rEach_back less L (fun y hy => h y (by simp [hy]))]
theorem nameL_12 {l : By} (h : nameL l = true) : l.length ≤ 12 := by
  unfold nameL at h
  simp only [Bool.and_eq_true, decide_eq_true_eq] at h
  omega
theorem rightL_40 {l : By} (h : rightL l = true) : l.length ≤ 40 := by
  unfold rightL at h
  split at h
  · rename_i L hL
    exact (pathL_facts hL).2.2.1
  · cases h
structure RdPk where
  p : PkgD
  ok : Bool
def unP (b : By) : RdPk :=
  let s1 := rRaw 12 (b, false)
  let s2 := rRaw 30 s1.2
  let n := rList s2.2
  let c := rList n.2
  let f := rList c.2
  let u := rList f.2
  let N := rEach oneNeed n.1
  let C := rEach (oneText 12) c.1
  let F := rEach oneFile f.1
  let U := rEach (oneText 300) u.1
  ⟨⟨s1.1, s2.1, N.1, C.1, F.1, U.1⟩, rDone u.2 && (rDone N.2 && (rDone C.2 && (rDone F.2 && rDone U.2)))⟩
/-- What bytes are: a package, or an error's number. -/
def readP (b : By) : PkgD × Nat :=
  if b.length < 4 then (pz, 5)
  else if le32 (b.drop (b.length - 4)) ≠ (crcL (b.take (b.length - 4))).toNat then (pz, 5)
  else if (unP (b.take (b.length - 4))).ok && rightP (unP (b.take (b.length - 4))).p then ((unP (b.take (b.length - 4))).p, 0) else (pz, 4)
theorem unP_good {b : By} (h : (unP b).ok = true) : packP (unP b).p = b := by
  simp only [unP, Bool.and_eq_true] at h
  obtain ⟨k1, k2, k3, k4, k5⟩ := h
  simp only [unP]
  generalize h1 : rRaw 12 (b, false) = s1 at *
  generalize h2 : rRaw 30 s1.2 = s2 at *
  generalize h3 : rList s2.2 = n at *
  generalize h4 : rList n.2 = c at *
  generalize h5 : rList c.2 = f at *
  generalize h6 : rList f.2 = u at *
  generalize h7 : rEach oneNeed n.1 = N at *
  generalize h8 : rEach (oneText 12) c.1 = C at *
  generalize h9 : rEach oneFile f.1 = F at *
  generalize h0 : rEach (oneText 300) u.1 = U at *
  have k1 := rDone_of k1
  have k2 := rDone_of k2
  have k3 := rDone_of k3
  have k4 := rDone_of k4
  have k5 := rDone_of k5
  have a7 := rEach_good oneNeed_takes oneNeed_good _ n.1 N.1 [] (Nat.le_refl _) (by rw [h7, ← k2])
  have a8 := rEach_good (oneText_takes 12) (fun _ _ _ => oneText_good) _ c.1 C.1 [] (Nat.le_refl _) (by rw [h8, ← k3])
  have a9 := rEach_good oneFile_takes oneFile_good _ f.1 F.1 [] (Nat.le_refl _) (by rw [h9, ← k4])
  have a0 := rEach_good (oneText_takes 300) (fun _ _ _ => oneText_good) _ u.1 U.1 [] (Nat.le_refl _) (by rw [h0, ← k5])
  have b6 := rList_good (s := f.2) (a := u.1) (b := u.2) h6 a0.1
  have b5 := rList_good (s := c.2) (a := f.1) (b := f.2) h5 a9.1
  have b4 := rList_good (s := n.2) (a := c.1) (b := c.2) h4 a8.1
  have b3 := rList_good (s := s2.2) (a := n.1) (b := n.2) h3 a7.1
  have c2 : rRaw 30 s1.2 = (s2.1, (s2.2.1, false)) := by rw [h2, ← b3.1]
  obtain ⟨q1, q2, _⟩ := rRaw_good c2
  have c1 : rRaw 12 (b, false) = (s1.1, (s1.2.1, false)) := by rw [h1, ← q1]
  obtain ⟨_, p2, _⟩ := rRaw_good c1
  have v7 := a7.2.1
  have v8 := a8.2.1
  have v9 := a9.2.1
  have v0 := a0.2.1
  rw [List.append_nil] at v7 v8 v9 v0
  have e8 : C.1.flatMap raw4 = c.1.1 := v8.symm
  have e0 : U.1.flatMap raw4 = u.1.1 := v0.symm
  have z : u.2.1 = [] := by rw [k1]
  have w6 := b6.2.1
  rw [z, List.append_nil] at w6
  simp only [packP, List.flatten_cons, List.flatten_nil, List.append_nil]
  rw [← v7, e8, ← v9, e0, ← w6, ← b5.2.1, ← b4.2.1, ← b3.2.1, ← q2]
  exact p2.symm
theorem drop_num4 {b : By} (h : 4 ≤ b.length) : b = b.take (b.length - 4) ++ num4 (le32 (b.drop (b.length - 4))) := by
  have h4 : (b.drop (b.length - 4)).length = 4 := by simp; omega
  have e := num4_le32 (l := b.drop (b.length - 4)) (by omega)
  have e2 : (b.drop (b.length - 4)).drop 4 = [] := List.drop_of_length_le (by omega)
  rw [e2, List.append_nil] at e
  rw [e, List.take_append_drop]
/-- What was read is written as the same bytes. -/
theorem readP_good {b : By} {p : PkgD} (h : readP b = (p, 0)) : rightP p = true ∧ writeP p = b := by
  unfold readP at h
  split at h
  · simp at h
  · rename_i hl
    split at h
    · simp at h
    · rename_i hs
      split at h
      · rename_i hk
        rw [Bool.and_eq_true] at hk
        simp only [Prod.mk.injEq, and_true] at h
        subst h
        refine ⟨hk.2, ?_⟩
        unfold writeP sumB
        rw [unP_good hk.1]
        have hs : le32 (b.drop (b.length - 4)) = (crcL (b.take (b.length - 4))).toNat := Classical.byContradiction hs
        rw [← hs]
        exact (drop_num4 (by omega)).symm
      · simp at h
theorem num4_len2 (n : Nat) : (num4 n).length = 4 := rfl
theorem needR_back {n : NeedD} (h : needR n = true) (hv : n.ver.length ≤ 30) (l : By) : oneNeed (needB n ++ l, false) = (n, (l, false)) := by
  unfold needR at h
  simp only [Bool.and_eq_true, Bool.or_eq_true, decide_eq_true_eq] at h
  have h12 := nameL_12 h.1
  have hw : 0 ≤ n.way ∧ n.way ≤ 3 := by rcases h.2 with h | h <;> omega
  have hu : u32 n.way = n.way.toNat := by unfold u32; omega
  unfold oneNeed needB numI
  simp only [List.append_assoc]
  rw [rRaw_back (by omega) (by omega)]
  simp only
  rw [rNum_back (by rw [hu]; omega) (u32_lt _)]
  simp only
  rw [rRaw_back hv (by omega)]
  simp only [hu]
  have : ((n.way.toNat : Nat) : Int) = n.way := by omega
  rw [this]
theorem fileR_back {f : FileD} (h : fileR f = true) (l : By) : oneFile (fileB f ++ l, false) = (f, (l, false)) := by
  unfold fileR at h
  simp only [Bool.and_eq_true, decide_eq_true_eq] at h
  have h40 := rightL_40 h.1
  have hb : boolN f.config ≤ 1 := by unfold boolN; split <;> omega
  unfold oneFile fileB
  simp only [List.append_assoc]
  rw [rRaw_back (by omega) (by omega)]
  simp only
  rw [rNum_back hb (by omega)]
  simp only
  rw [rRaw_back (by omega) (by omega)]
  have : decide (boolN f.config = 1) = f.config := by cases f.config <;> rfl
  rw [this]
theorem needB_len (n : NeedD) : (needB n).length = 12 + n.name.length + n.ver.length := by simp [needB, raw4_len, numI_len]; omega
theorem fileB_len (f : FileD) : (fileB f).length = 12 + f.path.length + f.data.length := by simp [fileB, raw4_len, num4_len]; omega
theorem flat_len_le {α : Type} {enc : α → By} {m : Nat} : ∀ (L : List α), (∀ x ∈ L, (enc x).length ≤ m) → (L.flatMap enc).length ≤ m * L.length
  | [], _ => by simp
  | x :: L, h => by
    have := flat_len_le L (fun y hy => h y (by simp [hy]))
    have := h x (by simp)
    rw [List.flatMap_cons, List.length_append, List.length_cons, Nat.mul_succ]; omega
/-! ### How long versions are -/
theorem digits_le : ∀ (k n : Nat), n < 10 ^ (k + 1) → (Lib.decDigits n).length ≤ k + 1
  | 0, n, h => by rw [Lib.decDigits, dif_pos (by omega)]; simp
  | k + 1, n, h => by
    rw [Lib.decDigits]
    split
    · simp
    · have := digits_le k (n / 10) (by rw [Nat.pow_succ] at h; omega)
      simp only [List.length_append, List.length_cons, List.length_nil]
      omega
theorem numV_4 {l : By} {n : Nat} (h : numV l = some n) : l.length ≤ 4 := by
  obtain ⟨h1, h2⟩ := numV_some h
  have e := (canon_iff l n).1 h1
  rw [← e]
  exact digits_le 3 n (by omega)
theorem numsV_4 : ∀ {L : List By} {X : List Nat}, numsV L = some X → ∀ p ∈ L, p.length ≤ 4
  | [], _, _, p, hp => by simp at hp
  | q :: L, X, h, p, hp => by
    cases hq : numV q with
    | none => rw [numsV_bad (by simp) hq] at h; cases h
    | some n =>
      rcases List.mem_cons.1 hp with rfl | hp
      · exact numV_4 hq
      · cases hl : numsV L with
        | none => simp [numsV, hq, hl] at h
        | some Y => exact numsV_4 hl p hp
theorem glue_len_le (c : UInt8) (m : Nat) : ∀ (L : List By), (∀ p ∈ L, p.length ≤ m) → (glue c L).length ≤ (m + 1) * L.length
  | [], _ => by simp [glue]
  | p :: L, h => by
    have h1 := glue_len_le c m L (fun q hq => h q (by simp [hq]))
    have h2 := h p (by simp)
    rw [glue_cons, List.length_cons, Nat.mul_succ]
    simp only [List.length_append, List.length_cons]
    omega
theorem verL_parts {l h t : By} {m : Bool} {v : List Nat × Nat} (hc : Lib.cut l [45] = (h, t, m)) (hv : verL l = some v) : h.length ≤ 19 ∧ (m = true → t.length ≤ 4) := by
  cases hr : revV m t with
  | none => rw [verL_rev hc hr] at hv; cases hv
  | some r =>
    cases hn : numsV (splitOn 46 h) with
    | none => rw [verL_nums hc hn] at hv; cases hv
    | some X =>
      by_cases hX : X.length ≤ 4
      · refine ⟨?_, ?_⟩
        · have h1 := glue_len_le 46 4 (splitOn 46 h) (numsV_4 hn)
          rw [glue_splitOn, List.length_cons] at h1
          have := numsV_len hn
          omega
        · intro hm
          subst hm
          cases ht : numV t with
          | none => rw [revV_bad ht] at hr; cases hr
          | some n => exact numV_4 ht
      · rw [verL_many hc hn (by omega)] at hv; cases hv
theorem verR_30 {l : By} (h : verR l = true) : l.length ≤ 30 := by
  unfold verR at h
  obtain ⟨v, hv⟩ := Option.isSome_iff_exists.1 h
  by_cases hm : (45 : UInt8) ∈ l
  · obtain ⟨a, r, rfl, ha⟩ := split_mem hm
    have := verL_parts (cut_some r ha) hv
    have h2 := this.2 rfl
    simp only [List.length_append, List.length_cons]
    omega
  · have := (verL_parts (cut_none hm) hv).1
    omega
/-! ### What is written is read -/
theorem filesTo_all {L : List FileD} {k : Nat} (h : filesTo L k = true) : ∀ f ∈ L.take k, fileR f = true := by
  intro f hf
  obtain ⟨j, hj, e⟩ := List.mem_take_iff_getElem.1 hf
  unfold filesTo at h
  have := (List.all_eq_true.1 h) j (by simp; omega)
  unfold fileAt at this
  simp only [Bool.and_eq_true] at this
  have h1 := this.1
  rw [List.getD_eq_getElem?_getD, List.getElem?_eq_getElem (by omega)] at h1
  rw [← e]; exact h1
theorem packP_len {p : PkgD} (h : rightP p = true) : (packP p).length ≤ 16000 ∧ (p.needs.flatMap needB).length ≤ 16000 ∧ (p.conf.flatMap raw4).length ≤ 16000 ∧ (p.files.flatMap fileB).length ≤ 16000 ∧ (p.units.flatMap raw4).length ≤ 16000 := by
  unfold rightP headP at h
  simp only [Bool.and_eq_true, decide_eq_true_eq] at h
  obtain ⟨⟨h1, h2, h3, h4, h5, h6⟩, h7, h8, h9, h0⟩ := h
  have n1 := nameL_12 h1
  have n2 := verR_30 h2
  have hf := filesTo_all h0
  rw [List.take_length] at hf
  have a1 := flat_len_le (enc := needB) (m := 54) p.needs (fun x hx => by
    have := (List.all_eq_true.1 h7) x hx
    unfold needR at this
    simp only [Bool.and_eq_true, Bool.or_eq_true, decide_eq_true_eq] at this
    have i1 := nameL_12 this.1
    have i2 : x.ver.length ≤ 30 := by
      rcases this.2 with e | e
      · rw [e.2]; simp
      · exact verR_30 e.2
    rw [needB_len]; omega)
  have a2 := flat_len_le (enc := raw4) (m := 16) p.conf (fun x hx => by
    have := (List.all_eq_true.1 h8) x hx
    unfold confR at this
    simp only [Bool.and_eq_true] at this
    have i1 := nameL_12 this.1
    rw [raw4_len]; omega)
  have a3 := flat_len_le (enc := fileB) (m := 564) p.files (fun x hx => by
    have := hf x hx
    unfold fileR at this
    simp only [Bool.and_eq_true, decide_eq_true_eq] at this
    have i1 := rightL_40 this.1
    rw [fileB_len]; omega)
  have a4 := flat_len_le (enc := raw4) (m := 304) p.units (fun x hx => by
    have := (List.all_eq_true.1 h9) x hx
    simp only [decide_eq_true_eq] at this
    rw [raw4_len]; omega)
  have e : (packP p).length = 24 + p.name.length + p.ver.length + (p.needs.flatMap needB).length + (p.conf.flatMap raw4).length + (p.files.flatMap fileB).length + (p.units.flatMap raw4).length := by
    simp [packP, raw4_len]; omega
  omega
theorem unP_back {p : PkgD} (h : rightP p = true) : unP (packP p) = ⟨p, true⟩ := by
  obtain ⟨_, l1, l2, l3, l4⟩ := packP_len h
  unfold rightP headP at h
  simp only [Bool.and_eq_true, decide_eq_true_eq] at h
  obtain ⟨⟨h1, h2, h3, h4, h5, h6⟩, h7, h8, h9, h0⟩ := h
  have n1 := nameL_12 h1
  have n2 := verR_30 h2
  have hf := filesTo_all h0
  rw [List.take_length] at hf
  have e1 : rEach oneNeed (p.needs.flatMap needB, false) = (p.needs, ([], false)) := rEach_back oneNeed_takes p.needs (fun x hx => by
    have hr := (List.all_eq_true.1 h7) x hx
    refine ⟨by rw [needB_len]; omega, fun l => needR_back hr ?_ l⟩
    unfold needR at hr
    simp only [Bool.and_eq_true, Bool.or_eq_true, decide_eq_true_eq] at hr
    rcases hr.2 with e | e
    · rw [e.2]; simp
    · exact verR_30 e.2)
  have e2 : rEach (oneText 12) (p.conf.flatMap raw4, false) = (p.conf, ([], false)) := rEach_back (oneText_takes 12) p.conf (fun x hx => by
    have hr := (List.all_eq_true.1 h8) x hx
    unfold confR at hr
    simp only [Bool.and_eq_true] at hr
    have i1 := nameL_12 hr.1
    exact ⟨by rw [raw4_len]; omega, fun l => rRaw_back (by omega) (by omega) l⟩)
  have e3 : rEach oneFile (p.files.flatMap fileB, false) = (p.files, ([], false)) := rEach_back oneFile_takes p.files (fun x hx => ⟨by rw [fileB_len]; omega, fun l => fileR_back (hf x hx) l⟩)
  have e4 : rEach (oneText 300) (p.units.flatMap raw4, false) = (p.units, ([], false)) := rEach_back (oneText_takes 300) p.units (fun x hx => by
    have hr := (List.all_eq_true.1 h9) x hx
    simp only [decide_eq_true_eq] at hr
    exact ⟨by rw [raw4_len]; omega, fun l => rRaw_back (by omega) (by omega) l⟩)
  have hp : packP p = raw4 p.name ++ (raw4 p.ver ++ (raw4 (p.needs.flatMap needB) ++ (raw4 (p.conf.flatMap raw4) ++ (raw4 (p.files.flatMap fileB) ++ (raw4 (p.units.flatMap raw4) ++ []))))) := by simp [packP]
  rw [hp]
  unfold unP
  simp only [rRaw_back (show p.name.length ≤ 12 by omega) (by omega), rRaw_back (show p.ver.length ≤ 30 by omega) (by omega), rList_back (show (p.needs.flatMap needB).length ≤ 16777216 by omega), rList_back (show (p.conf.flatMap raw4).length ≤ 16777216 by omega), rList_back (show (p.files.flatMap fileB).length ≤ 16777216 by omega), rList_back (show (p.units.flatMap raw4).length ≤ 16777216 by omega), e1, e2, e3, e4]
  rfl
theorem readP_back {p : PkgD} (h : rightP p = true) : readP (writeP p) = (p, 0) := by
  have hl : (writeP p).length = (packP p).length + 4 := by simp [writeP, sumB, num4_len]
  have ht : (writeP p).take ((writeP p).length - 4) = packP p := by rw [hl]; simp [writeP]
  have hd : (writeP p).drop ((writeP p).length - 4) = sumB (packP p) := by rw [hl]; simp [writeP]
  have hs : le32 (sumB (packP p)) = (crcL (packP p)).toNat := by
    have := le32_num4 (n := (crcL (packP p)).toNat) (crcL (packP p)).isLt []
    rwa [List.append_nil] at this
  unfold readP
  rw [if_neg (by omega), ht, hd, hs, if_neg (by simp), unP_back h]
  simp [h]
/-! ### What is spoilt is refused -/
/-- Do bytes bear their sum? -/
def sumR (b : By) : Prop := 4 ≤ b.length ∧ le32 (b.drop (b.length - 4)) = (crcL (b.take (b.length - 4))).toNat
theorem sumR_key {b : By} (h : 4 ≤ b.length) : sumR b ↔ crcF crc0 b = crcKey := by
  obtain ⟨a, c, d, e, he⟩ : ∃ a c d e, b.drop (b.length - 4) = [a, c, d, e] := by
    have h4 : (b.drop (b.length - 4)).length = 4 := by simp; omega
    match b.drop (b.length - 4), h4 with
    | [a, c, d, e], _ => exact ⟨a, c, d, e, rfl⟩
  have hb : b = b.take (b.length - 4) ++ [a, c, d, e] := by rw [← he, List.take_append_drop]
  have hk := sum_key (b.take (b.length - 4)) a c d e
  rw [← hb] at hk
  rw [hk]
  unfold sumR
  rw [he]
  exact ⟨fun h => h.2, fun h2 => ⟨h, h2⟩⟩
theorem readP_sum {b : By} : (readP b).2 = 5 ↔ ¬ sumR b := by
  unfold readP sumR
  by_cases h : b.length < 4
  · rw [if_pos h]; simp; omega
  · rw [if_neg h]
    by_cases hs : le32 (b.drop (b.length - 4)) ≠ (crcL (b.take (b.length - 4))).toNat
    · rw [if_pos hs]; simp only [true_iff]; exact fun k => hs k.2
    · rw [if_neg hs]
      split <;> simp <;> exact ⟨by omega, Classical.byContradiction hs⟩
/-- Four bytes in a row, turned. -/
theorem spoil {p : PkgD} (h : rightP p = true) {at_ : Nat} (a b c d : UInt8) (hat : at_ + 4 ≤ (writeP p).length) :
    ((readP (xorL (writeP p) (List.replicate at_ 0 ++ ([a, b, c, d] ++ List.replicate ((writeP p).length - at_ - 4) 0)))).2 = 0 ↔ a = 0 ∧ b = 0 ∧ c = 0 ∧ d = 0) ∧
    ((readP (xorL (writeP p) (List.replicate at_ 0 ++ ([a, b, c, d] ++ List.replicate ((writeP p).length - at_ - 4) 0)))).2 = 0 ∨ (readP (xorL (writeP p) (List.replicate at_ 0 ++ ([a, b, c, d] ++ List.replicate ((writeP p).length - at_ - 4) 0)))).2 = 5) := by
  have hr := readP_back h
  have hs : sumR (writeP p) := by
    apply Classical.byContradiction
    intro k
    have := readP_sum.2 k
    rw [hr] at this
    cases this
  have hk := (sumR_key hs.1).1 hs
  have hlen : (writeP p).length = at_ + 4 + ((writeP p).length - at_ - 4) := by omega
  have hsp := spoil_key a b c d hlen hk
  have hxl : ∀ (l m : By), l.length = m.length → (xorL l m).length = l.length := by
    intro l
    induction l with
    | nil => intro m hm; cases m <;> simp [xorL] at hm ⊢
    | cons x l ih =>
      intro m hm
      cases m with
      | nil => simp at hm
      | cons y m => simp only [xorL, List.length_cons]; rw [ih m (by simpa using hm)]
  have hll := hxl (writeP p) (List.replicate at_ 0 ++ ([a, b, c, d] ++ List.replicate ((writeP p).length - at_ - 4) 0)) (by simp; omega)
  by_cases hz : a = 0 ∧ b = 0 ∧ c = 0 ∧ d = 0
  · obtain ⟨rfl, rfl, rfl, rfl⟩ := hz
    have hid : ∀ (l : By) (n : Nat), l.length = n → xorL l (List.replicate n 0) = l := by
      intro l
      induction l with
      | nil => intro n _; cases n <;> rfl
      | cons x l ih =>
        intro n hn
        cases n with
        | zero => simp at hn
        | succ n => rw [List.replicate_succ]; simp only [xorL]; rw [ih n (by simpa using hn)]; simp
    have e : (List.replicate at_ (0 : UInt8) ++ ([0, 0, 0, 0] ++ List.replicate ((writeP p).length - at_ - 4) 0)) = List.replicate (writeP p).length 0 := by
      have : ([0, 0, 0, 0] : By) = List.replicate 4 0 := rfl
      rw [this, List.replicate_append_replicate, List.replicate_append_replicate]
      congr 1; omega
    rw [e, hid _ _ rfl, hr]
    simp
  · have hn : ¬ sumR (xorL (writeP p) (List.replicate at_ 0 ++ ([a, b, c, d] ++ List.replicate ((writeP p).length - at_ - 4) 0))) := fun k => hz (hsp.1 ((sumR_key (by rw [hll]; exact hs.1)).1 k))
    have h5 := readP_sum.2 hn
    rw [h5]
    simp [hz]
end Go.Proofs.YtlpjmkkinlcbnaaGreatDoor
