/- What single operations make of the document's tree, path by path. In plain Lean. -/
import Derived.Test.YtlpjmkkinlcbnaaGreatDoorVolLaw
namespace Go.Proofs.YtlpjmkkinlcbnaaGreatDoor
variable [Low]
def placeL (l : List EntD) (p : By) : Int := placeM ⟨l, [], 0, 0⟩ p
def entL (l : List EntD) (p : By) : Option EntD := l.find? (isP p)
omit [Low] in
theorem placeM_L (m : RefD) (p : By) : placeM m p = placeL m.list p := rfl
omit [Low] in
theorem entM_L (m : RefD) (p : By) : entM m p = entL m.list p := rfl
section
variable {m : RefD} {p d b : By} {x y : EntD}
omit [Low] in
theorem step_mkdir (hp : placeL m.list p = 0) (hb : b.length ≤ 3500) (hn : entL m.list p = none) : stepM m ⟨0, p, d, b⟩ = (⟨m.list ++ [⟨p, m.next, true⟩], m.files, m.next + 1, m.quota⟩, 0) := by
  unfold stepM
  have hb' : ¬ 3500 < b.length := by omega
  simp [placeM_L, entM_L, hb', hp, hn]
omit [Low] in
theorem step_create (hp : placeL m.list p = 0) (hb : b.length ≤ 3500) (hn : entL m.list p = none) : stepM m ⟨2, p, d, b⟩ = (⟨m.list ++ [⟨p, m.next, false⟩], m.files ++ [⟨m.next, b⟩], m.next + 1, m.quota⟩, 0) := by
  unfold stepM
  have hb' : ¬ 3500 < b.length := by omega
  simp [placeM_L, entM_L, hb', hp, hn]
omit [Low] in
theorem step_write (hp : placeL m.list p = 0) (hb : b.length ≤ 3500) (hx : entL m.list p = some x) (hd : x.dir = false) : stepM m ⟨3, p, d, b⟩ = ({ m with files := m.files.map (wroteF x.id b) }, 0) := by
  unfold stepM
  have hb' : ¬ 3500 < b.length := by omega
  simp [placeM_L, entM_L, hb', hp, hx, hd]
omit [Low] in
theorem step_unlink (hp : placeL m.list p = 0) (hb : b.length ≤ 3500) (hx : entL m.list p = some x) (hd : x.dir = false) : stepM m ⟨6, p, d, b⟩ = (lessM m p, 0) := by
  unfold stepM
  have hb' : ¬ 3500 < b.length := by omega
  simp [placeM_L, entM_L, hb', hp, hx, hd]
omit [Low] in
theorem step_link (hp : placeL m.list p = 0) (hb : b.length ≤ 3500) (hx : entL m.list p = some x) (hd : x.dir = false) (hq : placeL m.list d = 0) (hn : entL m.list d = none) : stepM m ⟨4, p, d, b⟩ = (moreM m ⟨d, x.id, false⟩, 0) := by
  unfold stepM
  have hb' : ¬ 3500 < b.length := by omega
  simp [placeM_L, entM_L, hb', hp, hx, hq, hn, hd]
omit [Low] in
theorem step_ren_new (hp : placeL m.list p = 0) (hb : b.length ≤ 3500) (hx : entL m.list p = some x) (hd : x.dir = false) (hq : placeL m.list d = 0) (hn : entL m.list d = none) : stepM m ⟨5, p, d, b⟩ = (moreM (lessM m p) ⟨d, x.id, false⟩, 0) := by
  unfold stepM
  have hb' : ¬ 3500 < b.length := by omega
  simp [placeM_L, entM_L, hb', hp, hx, hq, hn, hd]
omit [Low] in
theorem step_ren_over (hp : placeL m.list p = 0) (hb : b.length ≤ 3500) (hx : entL m.list p = some x) (hd : x.dir = false) (hq : placeL m.list d = 0) (hy : entL m.list d = some y) (hyd : y.dir = false) (hne : y.id ≠ x.id) : stepM m ⟨5, p, d, b⟩ = (moreM (lessM (lessM m d) p) ⟨d, x.id, false⟩, 0) := by
  unfold stepM
  have hb' : ¬ 3500 < b.length := by omega
  simp [placeM_L, entM_L, hb', hp, hx, hq, hy, hd, hyd, hne]
omit [Low] in
theorem run_cons {o : OpD} {L : List OpD} {m1 : RefD} (h : stepM m o = (m1, 0)) : runM m (o :: L) = runM m1 L := by
  show (if (stepM m o).2 = 0 then runM (stepM m o).1 L else stepM m o) = _
  rw [h, if_pos rfl]
omit [Low] in
theorem run_nil : runM m [] = (m, 0) := rfl
omit [Low] in
theorem doM_run {L : List OpD} {m1 : RefD} (h : runM m L = (m1, 0)) (h2 : nodesM m1 ≤ 128) (h3 : (usedM m1 : Int) ≤ m.quota) : doM m L = (m1, 0) := by
  have := doM_of (m := m) (L := L) (by rw [h]) (by rw [h]; exact h2) (by rw [h]; exact h3)
  rw [this, h]
end
omit [Low] in
theorem sweepM_eq (m : RefD) (hd : Int → Nat) : sweepM m hd = { m with files := m.files.filter fun f => decide (0 < countM m f.id) || decide (0 < hd f.id) } := by
  have h := reapsM_facts ((looseM m).filter fun i => !decide (0 < hd i)) m
  have hn : ∀ (X : List Int) (m : RefD), (reapsM m X).next = m.next := by
    intro X
    induction X with
    | nil => intro m; rfl
    | cons i X ih =>
      intro m
      show (reapsM (reapM m i) X).next = _
      rw [ih]
      unfold reapM
      split <;> rfl
  have hf := reapsM_files ((looseM m).filter fun i => !decide (0 < hd i)) m
  have e : (m.files.filter fun f => decide (0 < countM m f.id) || !decide (f.id ∈ (looseM m).filter fun i => !decide (0 < hd i))) = m.files.filter fun f => decide (0 < countM m f.id) || decide (0 < hd f.id) := by
    apply List.filter_congr
    intro f hf
    by_cases h0 : 0 < countM m f.id
    · simp [h0]
    · have h1 : f.id ∈ looseM m := by
        unfold looseM
        rw [List.mem_mergeSort, List.mem_filter]
        exact ⟨List.mem_map_of_mem hf, by simp; omega⟩
      by_cases h2 : 0 < hd f.id
      · simp [h0, h1, h2]
      · simp [h0, h1, h2]
  rw [e] at hf
  have hx : ∀ a b : RefD, a.list = b.list → a.files = b.files → a.next = b.next → a.quota = b.quota → a = b := by
    rintro ⟨_, _, _, _⟩ ⟨_, _, _, _⟩ h1 h2 h3 h4
    simp only at h1 h2 h3 h4
    subst h1; subst h2; subst h3; subst h4; rfl
  exact hx _ _ h.1 hf (hn _ m) h.2.2
omit [Low] in
theorem doneB_len (L : List OpD) : (doneB L).length = (packOps L).length + 1 := rfl
omit [Low] in
theorem packOps_nil : packOps [] = [] := rfl
def fitB (o : OpD) : Bool := decide (0 ≤ o.kind) && decide (o.kind ≤ 6) && decide (o.path.length ≤ 40) && decide (o.dest.length ≤ 40) && decide (o.data.length ≤ 3500)
omit [Low] in
theorem fit_all {L : List OpD} (h : L.all fitB = true) : ∀ o ∈ L, FitOp o := fun o ho => by
  have h1 := List.all_eq_true.1 h o ho
  unfold fitB at h1
  simp only [Bool.and_eq_true, decide_eq_true_eq] at h1
  exact ⟨⟨h1.1.1.1.1, h1.1.1.1.2⟩, h1.1.1.2, h1.1.2, h1.2⟩
omit [Low] in
theorem fit_cons {o : OpD} {L : List OpD} (h1 : FitOp o) (h2 : ∀ o ∈ L, FitOp o) : ∀ z ∈ o :: L, FitOp z := fun z hz => by
  rcases List.mem_cons.1 hz with rfl | hz
  · exact h1
  · exact h2 z hz
omit [Low] in
theorem fit_op {k : Int} {p d b : By} (h1 : (decide (0 ≤ k) && decide (k ≤ 6) && decide (p.length ≤ 40) && decide (d.length ≤ 40)) = true) (h2 : b.length ≤ 3500) : FitOp ⟨k, p, d, b⟩ := by
  simp only [Bool.and_eq_true, decide_eq_true_eq] at h1
  exact ⟨⟨h1.1.1.1, h1.1.1.2⟩, h1.1.2, h1.2, h2⟩
omit [Low] in
theorem fit_nil : ∀ o ∈ ([] : List OpD), FitOp o := fun _ h => by cases h
/-! ### The trees of VolHolds -/
def rootE : EntD := ⟨[47], 1, true⟩
/-- A file /f, of a number. -/
def listF (i : Int) : List EntD := [rootE, ⟨pF, i, false⟩]
omit [Low] in
theorem placeF0 : placeL [rootE] pF = 0 := by decide +kernel
omit [Low] in
theorem entF0 : entL [rootE] pF = none := rfl
omit [Low] in
theorem placeF1 (i : Int) : placeL (listF i) pF = 0 := by
  have : placeL (listF 0) pF = 0 := by decide +kernel
  exact this
omit [Low] in
theorem entF1 (i : Int) : entL (listF i) pF = some ⟨pF, i, false⟩ := rfl
omit [Low] in
theorem made_f (q : Int) {a : By} (ha : a.length ≤ 3500) (hq : (a.length : Int) ≤ max 0 q) : doM (newM q) [⟨2, pF, [], a⟩] = (⟨listF 2, [⟨2, a⟩], 3, max 0 q⟩, 0) := by
  refine doM_run (m1 := ⟨listF 2, [⟨2, a⟩], 3, max 0 q⟩) ?_ (by show 1 + 1 ≤ 128; decide) (by show ((a.length + 0 : Nat) : Int) ≤ max 0 q; omega)
  refine (run_cons (step_create (m := newM q) placeF0 ha entF0)).trans ?_
  rfl
omit [Low] in
theorem gone_f (q : Int) {a : By} (hq : (a.length : Int) ≤ q) : doM ⟨listF 2, [⟨2, a⟩], 3, q⟩ [⟨6, pF, [], []⟩] = (⟨[rootE], [⟨2, a⟩], 3, q⟩, 0) := by
  refine doM_run (m1 := ⟨[rootE], [⟨2, a⟩], 3, q⟩) ?_ (by show 1 + 1 ≤ 128; decide) (by show ((a.length + 0 : Nat) : Int) ≤ q; omega)
  refine (run_cons (step_unlink (m := ⟨listF 2, [⟨2, a⟩], 3, q⟩) (placeF1 2) (by decide) (entF1 2) rfl)).trans ?_
  rfl
omit [Low] in
theorem over_f (q : Int) {a b : By} (hb : b.length ≤ 3500) (hq : (a.length : Int) + b.length ≤ q) : doM ⟨listF 2, [⟨2, a⟩], 3, q⟩ [⟨2, pG, [], b⟩, ⟨5, pG, pF, []⟩] = (⟨listF 3, [⟨2, a⟩, ⟨3, b⟩], 4, q⟩, 0) := by
  refine doM_run (m1 := ⟨listF 3, [⟨2, a⟩, ⟨3, b⟩], 4, q⟩) ?_ (by show 2 + 1 ≤ 128; decide) (by show ((a.length + (b.length + 0) : Nat) : Int) ≤ q; omega)
  have e1 : placeL (listF 2) pG = 0 := by decide +kernel
  have e2 : entL (listF 2) pG = none := rfl
  refine (run_cons (step_create (m := ⟨listF 2, [⟨2, a⟩], 3, q⟩) e1 hb e2)).trans ?_
  have e3 : placeL (listF 2 ++ [⟨pG, 3, false⟩]) pG = 0 := by decide +kernel
  have e4 : placeL (listF 2 ++ [⟨pG, 3, false⟩]) pF = 0 := by decide +kernel
  refine (run_cons (step_ren_over (m := ⟨listF 2 ++ [⟨pG, 3, false⟩], [⟨2, a⟩] ++ [⟨3, b⟩], 3 + 1, q⟩) (b := []) e3 (by decide) (x := ⟨pG, 3, false⟩) rfl rfl e4 (y := ⟨pF, 2, false⟩) rfl rfl (by decide))).trans ?_
  rfl
end Go.Proofs.YtlpjmkkinlcbnaaGreatDoor
