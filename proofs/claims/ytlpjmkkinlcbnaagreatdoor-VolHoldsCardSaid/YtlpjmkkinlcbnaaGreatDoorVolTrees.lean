/- The trees that come and go where a file is replaced, in plain Lean; operations that were packed are read as they were. -/
import Derived.Test.YtlpjmkkinlcbnaaGreatDoorM6
import Derived.Test.YtlpjmkkinlcbnaaGreatDoorM3
import Derived.Test.YtlpjmkkinlcbnaaGreatDoorArcSpec
namespace Go.Proofs.YtlpjmkkinlcbnaaGreatDoor
/-! ### Operations, packed and read -/
def FitOp (o : OpD) : Prop := (0 ≤ o.kind ∧ o.kind ≤ 6) ∧ o.path.length ≤ 40 ∧ o.dest.length ≤ 40 ∧ o.data.length ≤ 3500
theorem opB_size (o : OpD) : (opB o).length = 16 + o.path.length + o.dest.length + o.data.length := by
  simp only [opB, List.length_append, numI_len, raw4_len]; omega
theorem packOps_cons (o : OpD) (L : List OpD) : packOps (o :: L) = opB o ++ packOps L := List.flatMap_cons ..
theorem oneOp_back {o : OpD} (h : FitOp o) (l : By) : oneOp (opB o ++ l, false) = (o, (l, false)) := by
  obtain ⟨⟨h1, h2⟩, h3, h4, h5⟩ := h
  obtain ⟨k, p, q, d⟩ := o
  simp only at h1 h2 h3 h4 h5
  obtain ⟨n, rfl⟩ := Int.eq_ofNat_of_zero_le h1
  have e : opB ⟨(n : Int), p, q, d⟩ ++ l = num4 n ++ (raw4 p ++ (raw4 q ++ (raw4 d ++ l))) := by
    simp only [opB, numI, u32_of (show n < 4294967296 by omega), List.append_assoc]
  have e1 := rNum_back (most := 6) (n := n) (by omega) (by omega) (raw4 p ++ (raw4 q ++ (raw4 d ++ l)))
  have e2 := rRaw_back (most := 40) h3 (by omega) (raw4 q ++ (raw4 d ++ l))
  have e3 := rRaw_back (most := 40) h4 (by omega) (raw4 d ++ l)
  have e4 := rRaw_back (most := 3500) h5 (by omega) l
  unfold oneOp
  rw [e, e1]
  simp only
  rw [e2]
  simp only
  rw [e3]
  simp only
  rw [e4]
theorem unpack_back {L : List OpD} (h : ∀ o ∈ L, FitOp o) : unpackL (packOps L) = (L, ([], false)) :=
  rEach_back oneOp_takes L fun o ho => ⟨by rw [opB_size]; omega, oneOp_back (h o ho)⟩
/-! ### The trees -/
def pF : By := [47, 102]
def pG : By := [47, 103]
theorem upL_F : upL pF = some ([], [102]) := by decide +kernel
theorem upL_G : upL pG = some ([], [103]) := by decide +kernel
theorem pathL_F : pathL pF = some [[102]] := by decide +kernel
theorem placeF {T : TreeD} (h : (T.node 1).dir = true) : placeT T pF = .at 1 [102] := by
  unfold placeT; rw [upL_F]; simp [walkT, h]
theorem placeG {T : TreeD} (h : (T.node 1).dir = true) : placeT T pG = .at 1 [103] := by
  unfold placeT; rw [upL_G]; simp [walkT, h]
theorem findF {T : TreeD} (k : Int) (hk : kidT T 1 [102] = k) : findT T pF = k := by
  unfold findT; rw [pathL_F]
  show (if kidT T 1 [102] = 0 then 0 else kidT T 1 [102]) = k
  rw [hk]; split <;> simp_all
/-- A root and a file; a root and two files. -/
structure TwoT (T : TreeD) (q : Int) (k : By → Option Int) (n : Int) (d : By) : Prop where
  ids : T.ids = [1, 2]
  root : T.node 1 = ⟨true, 1, [], k⟩
  file : T.node 2 = ⟨false, n, d, noK⟩
  next : T.next = 3
  quota : T.quota = q
structure ThreeT (T : TreeD) (q : Int) (k : By → Option Int) (n m : Int) (a b : By) : Prop where
  ids : T.ids = [1, 2, 3]
  root : T.node 1 = ⟨true, 1, [], k⟩
  file : T.node 2 = ⟨false, n, a, noK⟩
  other : T.node 3 = ⟨false, m, b, noK⟩
  quota : T.quota = q
def kF : By → Option Int := withK noK [102] 2
def kFG : By → Option Int := withK kF [103] 3
def kG : By → Option Int := withK (lessK kFG [103]) [102] 3
theorem kF_f : (kF [102]).getD 0 = 2 := by decide +kernel
theorem kF_g : (kF [103]).getD 0 = 0 := by decide +kernel
theorem kFG_f : (kFG [102]).getD 0 = 2 := by decide +kernel
theorem kFG_g : (kFG [103]).getD 0 = 3 := by decide +kernel
section
variable {T : TreeD} {q : Int} {k : By → Option Int} {n m : Int} {a b d : By}
theorem TwoT.used (h : TwoT T q k n d) : usedT T = d.length := by
  unfold usedT; rw [h.ids]; simp [h.root, h.file]
theorem TwoT.kid (h : TwoT T q k n d) (x : By) : kidT T 1 x = (k x).getD 0 := by unfold kidT; rw [h.root]
theorem TwoT.dir (h : TwoT T q k n d) : (T.node 1).dir = true := by rw [h.root]
theorem TwoT.fdir (h : TwoT T q k n d) : (T.node 2).dir = false := by rw [h.file]
theorem TwoT.loose (h : TwoT T q k n d) : looseT T = if n = 0 then [2] else [] := by
  unfold looseT
  rw [h.ids]
  by_cases hn : n = 0
  · subst hn; simp [h.root, h.file]
  · simp [h.root, h.file, hn]
theorem ThreeT.used (h : ThreeT T q k n m a b) : usedT T = a.length + b.length := by
  unfold usedT; rw [h.ids]; simp [h.root, h.file, h.other]
theorem ThreeT.loose (h : ThreeT T q k 0 1 a b) : looseT T = [2] := by
  unfold looseT
  rw [h.ids]
  simp [h.root, h.file, h.other]
theorem doT_one' {o : OpD} {T' : TreeD} (h : stepT T o = (T', 0)) (h1 : T'.ids.length ≤ 128) (h2 : (usedT T' : Int) ≤ T.quota) : doT T [o] = (T', 0) := by
  have hr : runT T [o] = (T', 0) := by
    unfold runT
    rw [h]
    rfl
  unfold doT
  rw [hr]
  simp only
  rw [if_neg (by simp), if_neg (by omega), if_neg (by omega)]
/-- A file is made. -/
theorem two_made (q : Int) (ha : a.length ≤ 3500) (hq : (a.length : Int) ≤ q) : (doT (newT q) [⟨2, pF, [], a⟩]).2 = 0 ∧ TwoT (doT (newT q) [⟨2, pF, [], a⟩]).1 q kF 1 a := by
  obtain ⟨T1, e1⟩ : ∃ T1, T1 = bindT (addT (newT q) (fileN a)) 1 [102] 2 := ⟨_, rfl⟩
  have hT1 : TwoT T1 q kF 1 a := by subst e1; exact ⟨rfl, rfl, rfl, rfl, (by show max 0 q = q; omega)⟩
  have s1 : stepT (newT q) ⟨2, pF, [], a⟩ = (T1, 0) := by
    unfold stepT
    rw [placeF rfl]
    have hk : kidT (newT q) 1 [102] = 0 := rfl
    simp only [hk]
    rw [if_neg (by omega), if_neg (by omega), if_pos (Or.inr trivial), if_neg (by simp), if_neg (by omega), e1]
    rfl
  rw [doT_one' s1 (by rw [hT1.ids]; decide) (by rw [hT1.used]; show (a.length : Int) ≤ max 0 q; omega)]
  exact ⟨rfl, hT1⟩
/-- A file is written. -/
theorem TwoT.write (h : TwoT T q kF 1 d) (ha : a.length ≤ 3500) (hq : (a.length : Int) ≤ q) : (doT T [⟨3, pF, [], a⟩]).2 = 0 ∧ TwoT (doT T [⟨3, pF, [], a⟩]).1 q kF 1 a := by
  obtain ⟨T1, e1⟩ : ∃ T1, T1 = setT T 2 ⟨false, (T.node 2).links, a, noK⟩ := ⟨_, rfl⟩
  have hT1 : TwoT T1 q kF 1 a := by
    subst e1
    refine ⟨h.ids, ?_, ?_, h.next, h.quota⟩
    · rw [setT_node, if_neg (by omega), h.root]
    · rw [setT_node, if_pos rfl, h.file]
  have s1 : stepT T ⟨3, pF, [], a⟩ = (T1, 0) := by
    have k2 : kidT T 1 [102] = 2 := by rw [h.kid]; exact kF_f
    unfold stepT
    rw [placeF h.dir]
    simp only [k2, h.fdir]
    rw [if_neg (by omega), if_neg (by omega), if_neg (by omega), if_neg (by omega), if_neg (by omega), if_neg (by simp)]
    unfold fileT
    rw [if_pos rfl, e1]
  rw [doT_one' s1 (by rw [hT1.ids]; decide) (by rw [hT1.used, h.quota]; omega)]
  exact ⟨rfl, hT1⟩
/-- A file is unlinked. -/
theorem TwoT.unlink (h : TwoT T q kF 1 d) (hq : (d.length : Int) ≤ q) : (doT T [⟨6, pF, [], []⟩]).2 = 0 ∧ TwoT (doT T [⟨6, pF, [], []⟩]).1 q (lessK kF [102]) 0 d := by
  obtain ⟨T1, e1⟩ : ∃ T1, T1 = linkT (cutT T 1 [102]) 2 (-1) := ⟨_, rfl⟩
  have hT1 : TwoT T1 q (lessK kF [102]) 0 d := by
    subst e1
    refine ⟨h.ids, ?_, ?_, h.next, h.quota⟩
    · unfold linkT
      rw [setT_node, if_neg (by omega)]
      unfold cutT
      rw [setT_node, if_pos rfl, h.root]
    · unfold linkT
      rw [setT_node, if_pos rfl]
      unfold cutT
      rw [setT_node, if_neg (by omega), h.file]
      rfl
  have s1 : stepT T ⟨6, pF, [], []⟩ = (T1, 0) := by
    have k2 : kidT T 1 [102] = 2 := by rw [h.kid]; exact kF_f
    unfold stepT
    rw [placeF h.dir]
    simp only [k2, h.fdir]
    rw [if_neg (by omega), if_neg (by simp), if_neg (by omega), if_neg (by omega), if_neg (by omega), if_neg (by simp)]
    unfold fileT
    rw [if_neg (by decide), if_pos rfl, e1]
  rw [doT_one' s1 (by rw [hT1.ids]; decide) (by rw [hT1.used, h.quota]; omega)]
  exact ⟨rfl, hT1⟩
/-- Another file is made, and takes its place. -/
theorem TwoT.swap (h : TwoT T q kF 1 a) (hb : b.length ≤ 3500) (hq : (a.length : Int) + b.length ≤ q) :
    (doT T [⟨2, pG, [], b⟩, ⟨5, pG, pF, []⟩]).2 = 0 ∧ ThreeT (doT T [⟨2, pG, [], b⟩, ⟨5, pG, pF, []⟩]).1 q kG 0 1 a b := by
  obtain ⟨T1, e1⟩ : ∃ T1, T1 = bindT (addT T (fileN b)) 1 [103] 3 := ⟨_, rfl⟩
  have hT1 : ThreeT T1 q kFG 1 1 a b := by
    subst e1
    refine ⟨?_, ?_, ?_, ?_, h.quota⟩
    · show T.ids ++ [T.next] = _
      rw [h.ids, h.next]; rfl
    · unfold bindT
      rw [setT_node, if_pos rfl, addT_node, h.next, if_neg (by omega), h.root]
      rfl
    · unfold bindT
      rw [setT_node, if_neg (by omega), addT_node, h.next, if_neg (by omega), h.file]
    · unfold bindT
      rw [setT_node, if_neg (by omega), addT_node, h.next, if_pos rfl]
      rfl
  have s1 : stepT T ⟨2, pG, [], b⟩ = (T1, 0) := by
    have k2 : kidT T 1 [103] = 0 := by rw [h.kid]; exact kF_g
    unfold stepT
    rw [placeG h.dir]
    simp only [k2]
    rw [if_neg (by omega), if_neg (by omega), if_pos (Or.inr trivial), if_neg (by simp), if_neg (by omega), e1, h.next]
  have d1 : (T1.node 1).dir = true := by rw [hT1.root]
  obtain ⟨T2, e2⟩ : ∃ T2, T2 = bindT (cutT (linkT T1 2 (-1)) 1 [103]) 1 [102] 3 := ⟨_, rfl⟩
  have hT2 : ThreeT T2 q kG 0 1 a b := by
    subst e2
    refine ⟨hT1.ids, ?_, ?_, ?_, hT1.quota⟩
    · unfold bindT
      rw [setT_node, if_pos rfl]
      unfold cutT
      rw [setT_node, if_pos rfl]
      unfold linkT
      rw [setT_node, if_neg (by omega), hT1.root]
      rfl
    · unfold bindT
      rw [setT_node, if_neg (by omega)]
      unfold cutT
      rw [setT_node, if_neg (by omega)]
      unfold linkT
      rw [setT_node, if_pos rfl, hT1.file]
      rfl
    · unfold bindT
      rw [setT_node, if_neg (by omega)]
      unfold cutT
      rw [setT_node, if_neg (by omega)]
      unfold linkT
      rw [setT_node, if_neg (by omega), hT1.other]
  have s2 : stepT T1 ⟨5, pG, pF, []⟩ = (T2, 0) := by
    have k2 : kidT T1 1 [103] = 3 := by unfold kidT; rw [hT1.root]; exact kFG_g
    have k3 : kidT T1 1 [102] = 2 := by unfold kidT; rw [hT1.root]; exact kFG_f
    have d3 : (T1.node 3).dir = false := by rw [hT1.other]
    have d2 : (T1.node 2).dir = false := by rw [hT1.file]
    unfold stepT
    rw [placeG d1]
    simp only [k2, d3]
    rw [if_neg (by omega), if_neg (by simp), if_neg (by omega), if_neg (by omega), if_neg (by omega), if_neg (by simp)]
    unfold fileT
    simp only
    rw [if_neg (by omega), if_neg (by omega), placeF d1]
    simp only [k3, d2]
    rw [if_neg (by omega), if_neg (by simp), if_neg (by omega), if_neg (by omega), if_pos (by omega), e2]
  have hr : runT T [⟨2, pG, [], b⟩, ⟨5, pG, pF, []⟩] = (T2, 0) := by
    unfold runT
    rw [s1]
    simp only [if_true]
    unfold runT
    rw [s2]
    rfl
  have hd : doT T [⟨2, pG, [], b⟩, ⟨5, pG, pF, []⟩] = (T2, 0) := by
    unfold doT
    rw [hr]
    simp only
    rw [if_neg (by simp), if_neg (by rw [hT2.ids]; decide), if_neg (by rw [hT2.used, h.quota]; omega)]
  rw [hd]
  exact ⟨rfl, hT2⟩
end
end Go.Proofs.YtlpjmkkinlcbnaaGreatDoor
