/- Trees, in plain Lean: a file at two paths. -/
import Derived.Test.YtldgpcmnmegioaaDoorTreeLaws
namespace Go.Proofs.YtldgpcmnmegioaaDoor
def pA : By := [47, 97]
def pB : By := [47, 98]
theorem upL_A : upL pA = some ([], [97]) := by decide +kernel
theorem upL_B : upL pB = some ([], [98]) := by decide +kernel
theorem pathL_A : pathL pA = some [[97]] := by decide +kernel
theorem pathL_B : pathL pB = some [[98]] := by decide +kernel
theorem placeA {T : TreeD} (h : (T.node 1).dir = true) : placeT T pA = .at 1 [97] := by
  unfold placeT; rw [upL_A]; simp [walkT, h]
theorem placeB {T : TreeD} (h : (T.node 1).dir = true) : placeT T pB = .at 1 [98] := by
  unfold placeT; rw [upL_B]; simp [walkT, h]
theorem findA {T : TreeD} (k : Int) (hk : kidT T 1 [97] = k) : findT T pA = k := by
  unfold findT; rw [pathL_A]
  show (if kidT T 1 [97] = 0 then 0 else kidT T 1 [97]) = k
  rw [hk]; split <;> simp_all
theorem findB {T : TreeD} (k : Int) (hk : kidT T 1 [98] = k) : findT T pB = k := by
  unfold findT; rw [pathL_B]
  show (if kidT T 1 [98] = 0 then 0 else kidT T 1 [98]) = k
  rw [hk]; split <;> simp_all
theorem findR {T : TreeD} : findT T [47] = 1 := by
  unfold findT; rw [pathL_root]; rfl
/-- The tree with one file: what its root has, its links, its bytes. -/
structure One (T : TreeD) (k : By → Option Int) (n : Int) (d : By) : Prop where
  ids : T.ids = [1, 2]
  root : T.node 1 = ⟨true, 1, [], k⟩
  file : T.node 2 = ⟨false, n, d, noK⟩
  quota : T.quota = 8000
def kA : By → Option Int := withK noK [97] 2
def kAB : By → Option Int := withK kA [98] 2
def kB : By → Option Int := lessK kAB [97]
def k0 : By → Option Int := lessK kB [98]
section
variable {T : TreeD} {k : By → Option Int} {n : Int} {d : By}
theorem One.used (h : One T k n d) : usedT T = d.length := by
  unfold usedT; rw [h.ids]; simp [h.root, h.file]
theorem One.kid (h : One T k n d) (x : By) : kidT T 1 x = (k x).getD 0 := by unfold kidT; rw [h.root]
theorem One.dir (h : One T k n d) : (T.node 1).dir = true := by rw [h.root]
theorem One.fdir (h : One T k n d) : (T.node 2).dir = false := by rw [h.file]
theorem kAB_a : (kAB [97]).getD 0 = 2 := by decide +kernel
theorem kAB_b : (kAB [98]).getD 0 = 2 := by decide +kernel
theorem kA_a : (kA [97]).getD 0 = 2 := by decide +kernel
theorem kA_b : (kA [98]).getD 0 = 0 := by decide +kernel
theorem kB_b : (kB [98]).getD 0 = 2 := by decide +kernel
/-- A step, alone. -/
theorem doT_one {o : OpD} {T' : TreeD} (h : stepT T o = (T', 0)) (h1 : T'.ids.length ≤ 128) (h2 : (usedT T' : Int) ≤ T.quota) : doT T [o] = (T', 0) := by
  have hr : runT T [o] = (T', 0) := by
    unfold runT
    rw [h]
    rfl
  unfold doT
  rw [hr]
  simp only
  rw [if_neg (by simp), if_neg (by omega), if_neg (by omega)]
theorem step_unlink {x : By} {o : OpD} (hk : o.kind = 6) (hl : o.data.length ≤ 3500) (hp : placeT T o.path = .at 1 x) (hx : kidT T 1 x = 2) (hf : (T.node 2).dir = false) : stepT T o = (linkT (cutT T 1 x) 2 (-1), 0) := by
  unfold stepT
  rw [hp]
  simp only [hk, hx, hf]
  rw [if_neg (by omega), if_neg (by omega), if_neg (by omega), if_neg (by omega), if_neg (by omega), if_neg (by simp)]
  unfold fileT
  rw [if_neg (by omega), if_pos hk]
theorem One.unlink (h : One T k n d) (x : By) : One (linkT (cutT T 1 x) 2 (-1)) (lessK k x) (n - 1) d := by
  refine ⟨h.ids, ?_, ?_, h.quota⟩
  · unfold linkT
    rw [setT_node, if_neg (by omega)]
    unfold cutT
    rw [setT_node, if_pos rfl, h.root]
  · unfold linkT
    rw [setT_node, if_pos rfl]
    unfold cutT
    rw [setT_node, if_neg (by omega), h.file]
    rfl
theorem one_unlink (h : One T k n d) (hd : d.length ≤ 3500) {x : By} {o : OpD} (hk : o.kind = 6) (hl : o.data.length ≤ 3500) (hp : placeT T o.path = .at 1 x) (hx : (k x).getD 0 = 2) :
    (doT T [o]).2 = 0 ∧ One (doT T [o]).1 (lessK k x) (n - 1) d := by
  have hs := step_unlink hk hl hp (by rw [h.kid]; exact hx) h.fdir
  have hn := h.unlink x
  rw [doT_one hs (by rw [hn.ids]; decide) (by rw [hn.used, h.quota]; omega)]
  exact ⟨rfl, hn⟩
theorem one_rename (h : One T kAB n d) (hd : d.length ≤ 3500) {o : OpD} (hk : o.kind = 5) (hl : o.data.length ≤ 3500) (hp : o.path = pA) (hq : o.dest = pB) : doT T [o] = (T, 0) := by
  have h2 : kidT T 1 [97] = 2 := by rw [h.kid]; exact kAB_a
  have h3 : kidT T 1 [98] = 2 := by rw [h.kid]; exact kAB_b
  have hs : stepT T o = (T, 0) := by
    unfold stepT
    rw [hp, placeA h.dir]
    simp only [hk, h2, h.fdir]
    rw [if_neg (by omega), if_neg (by omega), if_neg (by omega), if_neg (by omega), if_neg (by omega), if_neg (by simp)]
    unfold fileT
    rw [if_neg (by omega), if_neg (by omega), hq, placeB h.dir]
    simp only [h3, h.fdir]
    rw [if_neg (by omega), if_neg (by simp), if_pos trivial]
  exact doT_one hs (by rw [h.ids]; decide) (by rw [h.used, h.quota]; omega)
end
theorem one_made (a b : By) (ha : a.length ≤ 3500) (hb : b.length ≤ 3500) {o1 o2 o3 : OpD} (h1 : o1 = ⟨2, pA, [], a⟩) (h2 : o2 = ⟨4, pA, pB, []⟩) (h3 : o3 = ⟨3, pA, [], b⟩) :
    (doT (newT 8000) [o1, o2, o3]).2 = 0 ∧ One (doT (newT 8000) [o1, o2, o3]).1 kAB 2 b := by
  obtain ⟨T1, e1⟩ : ∃ T1, T1 = bindT (addT (newT 8000) (fileN a)) 1 [97] 2 := ⟨_, rfl⟩
  have hT1 : One T1 kA 1 a := by subst e1; exact ⟨rfl, rfl, rfl, rfl⟩
  have s1 : stepT (newT 8000) o1 = (T1, 0) := by
    unfold stepT
    rw [h1, placeA rfl]
    have hk : kidT (newT 8000) 1 [97] = 0 := rfl
    simp only [hk]
    rw [if_neg (by omega), if_neg (by omega), if_pos (Or.inr trivial), if_neg (by simp), if_neg (by omega), e1]
    rfl
  obtain ⟨T2, e2⟩ : ∃ T2, T2 = bindT (linkT T1 2 1) 1 [98] 2 := ⟨_, rfl⟩
  have hT2 : One T2 kAB 2 a := by
    subst e2
    refine ⟨hT1.ids, ?_, ?_, hT1.quota⟩
    · unfold bindT
      rw [setT_node, if_pos rfl]
      unfold linkT
      rw [setT_node, if_neg (by omega), hT1.root]
      rfl
    · unfold bindT
      rw [setT_node, if_neg (by omega)]
      unfold linkT
      rw [setT_node, if_pos rfl, hT1.file]
      rfl
  have s2 : stepT T1 o2 = (T2, 0) := by
    have k2 : kidT T1 1 [97] = 2 := by rw [hT1.kid]; exact kA_a
    have k3 : kidT T1 1 [98] = 0 := by rw [hT1.kid]; exact kA_b
    unfold stepT
    rw [h2, placeA hT1.dir]
    simp only [k2, hT1.fdir]
    rw [if_neg (by omega), if_neg (by simp), if_neg (by omega), if_neg (by omega), if_neg (by omega), if_neg (by simp)]
    unfold fileT
    simp only
    rw [if_neg (by omega), if_neg (by omega), placeB hT1.dir]
    simp only [k3]
    rw [if_neg (by simp), if_neg (by simp), if_neg (by omega), if_pos trivial, e2]
  obtain ⟨T3, e3⟩ : ∃ T3, T3 = setT T2 2 ⟨false, (T2.node 2).links, b, noK⟩ := ⟨_, rfl⟩
  have hT3 : One T3 kAB 2 b := by
    subst e3
    refine ⟨hT2.ids, ?_, ?_, hT2.quota⟩
    · rw [setT_node, if_neg (by omega), hT2.root]
    · rw [setT_node, if_pos rfl, hT2.file]
  have s3 : stepT T2 o3 = (T3, 0) := by
    have k2 : kidT T2 1 [97] = 2 := by rw [hT2.kid]; exact kAB_a
    unfold stepT
    rw [h3, placeA hT2.dir]
    simp only [k2, hT2.fdir]
    rw [if_neg (by omega), if_neg (by omega), if_neg (by omega), if_neg (by omega), if_neg (by omega), if_neg (by simp)]
    unfold fileT
    rw [if_pos rfl, e3]
  have hr : runT (newT 8000) [o1, o2, o3] = (T3, 0) := by
    unfold runT
    rw [s1]
    simp only [if_true]
    unfold runT
    rw [s2]
    simp only [if_true]
    unfold runT
    rw [s3]
    rfl
  have hd : doT (newT 8000) [o1, o2, o3] = (T3, 0) := by
    unfold doT
    rw [hr]
    simp only
    rw [if_neg (by simp), if_neg (by rw [hT3.ids]; decide), if_neg (by rw [hT3.used]; show ¬ (8000 : Int) < _; omega)]
  rw [hd]
  exact ⟨rfl, hT3⟩
theorem One.loose {T : TreeD} {k : By → Option Int} {n : Int} {d : By} (h : One T k n d) : looseT T = if n = 0 then [2] else [] := by
  unfold looseT
  rw [h.ids]
  by_cases hn : n = 0
  · subst hn; simp [h.root, h.file]
  · simp [h.root, h.file, hn]
end Go.Proofs.YtldgpcmnmegioaaDoor
