/- The document's tree without some loose files: what operations make of it; what a volume's log keeps. In plain Lean. -/
import Derived.Test.YtlpjmkkinlcbnaaGreatDoorVolRep
import Derived.Test.YtlpjmkkinlcbnaaGreatDoorM9
namespace Go.Proofs.YtlpjmkkinlcbnaaGreatDoor
variable [Low]
/-- The same tree, but for files whose numbers are left out. -/
structure SubM (P : Int → Bool) (m m' : RefD) : Prop where
  list : m'.list = m.list
  next : m'.next = m.next
  quota : m'.quota = m.quota
  files : m'.files = m.files.filter fun f => P f.id
  high : ∀ i, m.next ≤ i → P i = true
  ents : ∀ e ∈ m.list, P e.id = true
omit [Low] in
theorem wrote_filter (P : Int → Bool) (i : Int) (d : By) (F : List FilD) : (F.filter fun f => P f.id).map (wroteF i d) = (F.map (wroteF i d)).filter fun f => P f.id := by
  induction F with
  | nil => rfl
  | cons f F ih =>
    have e : (wroteF i d f).id = f.id := by
      unfold wroteF
      by_cases h : f.id = i
      · rw [if_pos h, h]
      · rw [if_neg h]
    rw [List.map_cons, List.filter_cons, List.filter_cons, e]
    split
    · rw [List.map_cons, ih]
    · exact ih
omit [Low] in
theorem SubM.step {P : Int → Bool} {m m' : RefD} (h : SubM P m m') (o : OpD) : (stepM m' o).2 = (stepM m o).2 ∧ SubM P (stepM m o).1 (stepM m' o).1 := by
  obtain ⟨l, f, n, q⟩ := m
  obtain ⟨l', f', n', q'⟩ := m'
  obtain ⟨h1, h2, h3, h4, h5, h6⟩ := h
  simp only at h1 h2 h3 h4 h5 h6
  subst h1; subst h2; subst h3; subst h4
  have e1 : ∀ p, placeM ⟨l', f.filter fun f => P f.id, n', q'⟩ p = placeM ⟨l', f, n', q'⟩ p := fun _ => rfl
  have e2 : ∀ p, entM ⟨l', f.filter fun f => P f.id, n', q'⟩ p = entM ⟨l', f, n', q'⟩ p := fun _ => rfl
  have base : SubM P ⟨l', f, n', q'⟩ ⟨l', f.filter fun f => P f.id, n', q'⟩ := ⟨rfl, rfl, rfl, rfl, h5, h6⟩
  have lst : ∀ L : List EntD, (∀ e ∈ L, P e.id = true) → SubM P ⟨L, f, n', q'⟩ ⟨L, f.filter fun f => P f.id, n', q'⟩ := fun _ h => ⟨rfl, rfl, rfl, rfl, h5, h⟩
  have less : ∀ (L : List EntD) p, (∀ e ∈ L, P e.id = true) → ∀ e ∈ L.eraseP (isP p), P e.id = true := fun L p h e he => h e (List.mem_of_mem_eraseP he)
  have more : ∀ (L : List EntD) (x : EntD), P x.id = true → (∀ e ∈ L, P e.id = true) → ∀ e ∈ L ++ [x], P e.id = true := fun L x hx h e he => by
    rcases List.mem_append.1 he with he | he
    · exact h e he
    · rw [List.mem_singleton.1 he]; exact hx
  have found : ∀ p x, entM ⟨l', f, n', q'⟩ p = some x → P x.id = true := fun p x hx => h6 x (List.mem_of_find?_eq_some hx)
  unfold stepM
  simp only [e1, e2]
  by_cases c1 : o.kind < 0 ∨ 6 < o.kind
  · simp only [if_pos c1]; exact ⟨by first | rfl | trivial, base⟩
  simp only [if_neg c1]
  by_cases c2 : placeM ⟨l', f, n', q'⟩ o.path ≠ 0
  · simp only [if_pos c2]; exact ⟨by first | rfl | trivial, base⟩
  simp only [if_neg c2]
  by_cases c3 : 3500 < o.data.length
  · simp only [if_pos c3]; exact ⟨by first | rfl | trivial, base⟩
  simp only [if_neg c3]
  by_cases c4 : o.kind = 0 ∨ o.kind = 2
  · simp only [if_pos c4]
    cases hx : entM ⟨l', f, n', q'⟩ o.path with
    | some x => exact ⟨by first | rfl | trivial, base⟩
    | none =>
      refine ⟨rfl, rfl, rfl, rfl, ?_, fun i hi => h5 i (by have hi : n' + 1 ≤ i := hi; omega), more _ _ (h5 _ (Int.le_refl _)) h6⟩
      simp only
      by_cases c5 : o.kind = 2
      · simp only [if_pos c5, List.filter_append]
        congr 1
        simp [h5 n' (Int.le_refl _)]
      · simp only [if_neg c5]
  simp only [if_neg c4]
  cases hx : entM ⟨l', f, n', q'⟩ o.path with
  | none => exact ⟨by first | rfl | trivial, base⟩
  | some x =>
    simp only
    by_cases c5 : o.kind = 1
    · simp only [if_pos c5]
      by_cases c6 : x.dir = false
      · simp only [if_pos c6]; exact ⟨by first | rfl | trivial, base⟩
      simp only [if_neg c6]
      by_cases c7 : l'.any (fun e => belowP o.path e.path) = true
      · simp only [if_pos c7]; exact ⟨by first | rfl | trivial, base⟩
      simp only [if_neg c7]
      exact ⟨by first | rfl | trivial, lst _ (less _ _ h6)⟩
    simp only [if_neg c5]
    by_cases c6 : x.dir = true
    · simp only [if_pos c6]; exact ⟨by first | rfl | trivial, base⟩
    simp only [if_neg c6]
    by_cases c7 : o.kind = 3
    · simp only [if_pos c7]; exact ⟨by first | rfl | trivial, rfl, rfl, rfl, wrote_filter P _ _ _, h5, h6⟩
    simp only [if_neg c7]
    by_cases c8 : o.kind = 6
    · simp only [if_pos c8]; exact ⟨by first | rfl | trivial, lst _ (less _ _ h6)⟩
    simp only [if_neg c8]
    by_cases c9 : placeM ⟨l', f, n', q'⟩ o.dest ≠ 0
    · simp only [if_pos c9]; exact ⟨by first | rfl | trivial, base⟩
    simp only [if_neg c9]
    cases hy : entM ⟨l', f, n', q'⟩ o.dest with
    | some y =>
      simp only
      by_cases d1 : o.kind = 4
      · simp only [if_pos d1]; exact ⟨by first | rfl | trivial, base⟩
      simp only [if_neg d1]
      by_cases d2 : y.dir = true
      · simp only [if_pos d2]; exact ⟨by first | rfl | trivial, base⟩
      simp only [if_neg d2]
      by_cases d3 : y.id = x.id
      · simp only [if_pos d3]; exact ⟨by first | rfl | trivial, base⟩
      simp only [if_neg d3]
      exact ⟨by first | rfl | trivial, lst _ (more _ ⟨_, _, _⟩ (show P x.id = true from found _ _ hx) (less _ _ (less _ _ h6)))⟩
    | none =>
      simp only
      by_cases d1 : o.kind = 4
      · simp only [if_pos d1]; exact ⟨by first | rfl | trivial, lst _ (more _ ⟨_, _, _⟩ (show P x.id = true from found _ _ hx) h6)⟩
      simp only [if_neg d1]
      exact ⟨by first | rfl | trivial, lst _ (more _ ⟨_, _, _⟩ (show P x.id = true from found _ _ hx) (less _ _ h6))⟩
omit [Low] in
theorem SubM.run {P : Int → Bool} : ∀ (L : List OpD) {m m' : RefD}, SubM P m m' → (runM m' L).2 = (runM m L).2 ∧ SubM P (runM m L).1 (runM m' L).1
  | [], _, _, h => ⟨rfl, h⟩
  | o :: L, m, m', h => by
    have hs := h.step o
    unfold runM
    rw [hs.1]
    split
    · exact SubM.run L hs.2
    · exact ⟨hs.1, hs.2⟩
omit [Low] in
theorem SubM.nodes {P : Int → Bool} {m m' : RefD} (h : SubM P m m') : nodesM m' ≤ nodesM m := by
  unfold nodesM
  rw [h.list, h.files]
  have := List.length_filter_le (fun f : FilD => P f.id) m.files
  omega
omit [Low] in
theorem sum_filter_le {α : Type} (P : α → Bool) (f : α → Nat) (L : List α) : ((L.filter P).map f).sum ≤ (L.map f).sum := by
  induction L with
  | nil => exact Nat.le_refl _
  | cons x L ih =>
    rw [List.filter_cons]
    split <;> simp only [List.map_cons, List.sum_cons] <;> omega
omit [Low] in
theorem SubM.used {P : Int → Bool} {m m' : RefD} (h : SubM P m m') : usedM m' ≤ usedM m := by
  unfold usedM
  rw [h.files]
  exact sum_filter_le _ _ _
omit [Low] in
theorem doM_ok {m : RefD} {L : List OpD} (h : (doM m L).2 = 0) : (runM m L).2 = 0 ∧ nodesM (runM m L).1 ≤ 128 ∧ (usedM (runM m L).1 : Int) ≤ m.quota ∧ (doM m L).1 = (runM m L).1 := by
  unfold doM at h ⊢
  split at h
  · rename_i h1; exact absurd h h1
  rename_i h1
  split at h
  · exact absurd h (fun e => by have e : (7 : Int) = 0 := e; omega)
  rename_i h2
  split at h
  · exact absurd h (fun e => by have e : (13 : Int) = 0 := e; omega)
  rename_i h3
  rw [if_neg h1, if_neg h2, if_neg h3]
  exact ⟨by simpa using h1, by omega, by omega, rfl⟩
omit [Low] in
theorem doM_of {m : RefD} {L : List OpD} (h1 : (runM m L).2 = 0) (h2 : nodesM (runM m L).1 ≤ 128) (h3 : (usedM (runM m L).1 : Int) ≤ m.quota) : doM m L = ((runM m L).1, 0) := by
  unfold doM
  rw [if_neg (by simpa using h1), if_neg (by omega), if_neg (by omega)]
omit [Low] in
theorem SubM.do {P : Int → Bool} {m m' : RefD} (h : SubM P m m') {L : List OpD} (hok : (doM m L).2 = 0) : (doM m' L).2 = 0 ∧ SubM P (doM m L).1 (doM m' L).1 := by
  obtain ⟨h1, h2, h3, h4⟩ := doM_ok hok
  have hr := h.run L
  have hn := hr.2.nodes
  have hu := hr.2.used
  have e := doM_of (m := m') (L := L) (by rw [hr.1]; exact h1) (by omega) (by rw [h.quota]; omega)
  rw [e, h4]
  exact ⟨rfl, hr.2⟩
/-- A tree without loose files. -/
def bareM (m : RefD) : RefD := { m with files := m.files.filter fun f => decide (0 < countM m f.id) }
omit [Low] in
theorem SubM.bare {P : Int → Bool} {m m' : RefD} (h : SubM P m m') : bareM m' = bareM m := by
  have hP : ∀ i, 0 < countM m i → P i = true := fun i hi => by
    unfold countM at hi
    obtain ⟨e, he, hi⟩ := List.countP_pos_iff.1 hi
    rw [← of_decide_eq_true hi]
    exact h.ents e he
  have hc : ∀ i, countM m' i = countM m i := fun i => by unfold countM; rw [h.list]
  have e : m'.files.filter (fun f => decide (0 < countM m' f.id)) = m.files.filter fun f => decide (0 < countM m f.id) := by
    rw [h.files, List.filter_filter]
    congr 1
    funext f
    rw [hc]
    by_cases h0 : 0 < countM m f.id
    · simp [h0, hP _ h0]
    · simp [h0]
  unfold bareM
  rw [e, h.list, h.next, h.quota]
omit [Low] in
theorem reapM_count (m : RefD) (i j : Int) : countM (reapM m i) j = countM m j := by
  unfold countM; rw [reapM_list]
omit [Low] in
theorem bare_reap (m : RefD) (i : Int) : bareM (reapM m i) = bareM m := by
  have hc := reapM_count m i
  unfold bareM
  simp only [hc]
  unfold reapM
  split
  · rfl
  · rename_i h0
    simp only [List.filter_filter]
    congr 1
    congr 1
    funext f
    by_cases h1 : f.id = i
    · rw [h1]; simp [h0]
    · simp [h1]
omit [Low] in
theorem bare_reaps : ∀ (X : List Int) (m : RefD), bareM (reapsM m X) = bareM m
  | [], _ => rfl
  | i :: X, m => (bare_reaps X (reapM m i)).trans (bare_reap m i)
omit [Low] in
theorem reapsM_files : ∀ (X : List Int) (m : RefD), (reapsM m X).files = m.files.filter fun f => decide (0 < countM m f.id) || !decide (f.id ∈ X)
  | [], m => by
    show m.files = _
    rw [List.filter_eq_self.2]
    intro f _
    simp
  | i :: X, m => by
    show (reapsM (reapM m i) X).files = _
    rw [reapsM_files X (reapM m i)]
    have hc := reapM_count m i
    simp only [hc]
    unfold reapM
    split
    · rename_i h0
      congr 1
      funext f
      by_cases h1 : f.id = i
      · rw [h1]; simp [h0]
      · simp [h1]
    · rename_i h0
      simp only [List.filter_filter]
      congr 1
      funext f
      by_cases h1 : f.id = i
      · rw [h1]; simp [h0]
      · simp [h1]
omit [Low] in
theorem reapsM_bare (m : RefD) : reapsM m (looseM m) = bareM m := by
  have h := reapsM_facts (looseM m) m
  have hn : ∀ (X : List Int) (m : RefD), (reapsM m X).next = m.next := by
    intro X
    induction X with
    | nil => intro m; rfl
    | cons i X ih =>
      intro m
      show (reapsM (reapM m i) X).next = _
      rw [ih]
      unfold reapM
      split <;> rfl
  have hf := reapsM_files (looseM m) m
  have e : (m.files.filter fun f => decide (0 < countM m f.id) || !decide (f.id ∈ looseM m)) = m.files.filter fun f => decide (0 < countM m f.id) := by
    apply List.filter_congr
    intro f hf
    by_cases h0 : 0 < countM m f.id
    · simp [h0]
    · have h1 : f.id ∈ looseM m := by
        unfold looseM
        rw [List.mem_mergeSort, List.mem_filter]
        exact ⟨List.mem_map_of_mem hf, by simp; omega⟩
      simp [h0, h1]
  rw [e] at hf
  have hx : ∀ a b : RefD, a.list = b.list → a.files = b.files → a.next = b.next → a.quota = b.quota → a = b := by
    rintro ⟨_, _, _, _⟩ ⟨_, _, _, _⟩ h1 h2 h3 h4
    simp only at h1 h2 h3 h4
    subst h1; subst h2; subst h3; subst h4; rfl
  exact hx _ _ h.1 hf (hn _ m) h.2.2
/-- Loose files that nobody holds are taken away. -/
def sweepM (m : RefD) (hd : Int → Nat) : RefD := reapsM m ((looseM m).filter fun i => !decide (0 < hd i))
omit [Low] in
theorem bare_sweep (m : RefD) (hd : Int → Nat) : bareM (sweepM m hd) = bareM m := bare_reaps _ _
omit [Low] in
/-- What is done to a tree without loose files. -/
theorem bare_do {m : RefD} {L : List OpD} (hlow : ∀ f ∈ m.files, f.id < m.next) (h : (doM m L).2 = 0) : (doM (bareM m) L).2 = 0 ∧ bareM (doM (bareM m) L).1 = bareM (doM m L).1 := by
  have hs : SubM (fun i => decide (0 < countM m i) || decide (m.next ≤ i)) m (bareM m) := by
    refine ⟨rfl, rfl, rfl, ?_, fun i hi => by simp [hi], fun e he => ?_⟩
    rotate_left
    · have : 0 < countM m e.id := List.countP_pos_iff.2 ⟨e, he, by simp⟩
      simp [this]
    show m.files.filter _ = _
    apply List.filter_congr
    intro f hf
    have := hlow f hf
    have : ¬ m.next ≤ f.id := by omega
    simp [this]
  have hd := hs.do h
  exact ⟨hd.1, hd.2.bare⟩
/-! ### What a volume's log keeps -/
/-- What lies in a log makes a tree without loose files. -/
def KeptL (q : Int) (rows : List By) (mb : RefD) : Prop :=
  ∃ S opss U, rows = S.map snapB ++ opss.map doneB ∧ BaseT q S U ∧ GoodT U ∧ FitT U 200000 ∧ ChainR U opss ∧ Like (finR U opss) mb
omit [Low] in
theorem KeptL.new (q : Int) : KeptL q [] (newM q) :=
  ⟨[], [], newT q, rfl, Or.inl ⟨rfl, rfl⟩, newT_good q, (newT_fit q).mono (by omega), ChainR.nil _, new_like q⟩
omit [Low] in
theorem Like.low {T : TreeD} {m : RefD} (h : Like T m) : ∀ f ∈ m.files, f.id < m.next := fun f hf => by
  rw [h.next]
  exact (h.good.low _ ((h.fil f).1 hf).1).2
omit [Low] in
theorem Like.again {T : TreeD} {m : RefD} (h : Like T m) (L : List OpD) : Like (againT T L) (bareM (doM m L).1) := by
  have h1 := (h.do L).2
  have h2 := h1.reaps (looseT (doT T L).1)
  rw [h1.loose, reapsM_bare] at h2
  have e : againT T L = reapsT (doT T L).1 (looseM (doM m L).1) := by rw [← h1.loose]; rfl
  rw [e]
  exact h2
omit [Low] in
theorem KeptL.do {q : Int} {rows : List By} {m : RefD} (h : KeptL q rows (bareM m)) (hlow : ∀ f ∈ m.files, f.id < m.next) {L : List OpD} (hok : (doM m L).2 = 0) (hfo : ∀ o ∈ L, FitOp o) (hpk : (packOps L).length ≤ 4095) :
    KeptL q (rows ++ [doneB L]) (bareM (doM m L).1) := by
  obtain ⟨S, opss, U, h1, h2, h3, h4, h5, h6⟩ := h
  obtain ⟨h7, h8⟩ := bare_do hlow hok
  have h9 := h6.again L
  have h10 := (h6.do L).1
  refine ⟨S, opss ++ [L], U, by rw [h1]; simp, h2, h3, h4, h5.snoc ⟨hfo, by rw [← h10]; exact h7, hpk, h9.good⟩, ?_⟩
  rw [finR_snoc, ← h8]
  exact h9
omit [Low] in
theorem packOps_len : ∀ (L : List OpD), 16 * L.length ≤ (packOps L).length
  | [] => Nat.zero_le _
  | o :: L => by
    have h := packOps_len L
    rw [packOps_cons, List.length_append, opB_size, List.length_cons]
    omega
omit [Low] in
/-- How many operations may lie in a log. -/
theorem cntR_secs : ∀ (l : List (List OpD)), 16 * cntR l ≤ 63 * secsN (l.map doneB)
  | [] => Nat.zero_le _
  | x :: l => by
    have h := cntR_secs l
    have h2 := packOps_len x
    have h3 := secN_room (doneB x).length
    have h4 : (doneB x).length = (packOps x).length + 1 := rfl
    have e1 : cntR (x :: l) = x.length + cntR l := by simp [cntR]
    rw [e1, List.map_cons, secsN_cons]
    omega
omit [Low] in
theorem GoodLog.cnt {n : Nat} {img : Img} {L : LogD} (h : GoodLog n img L) {S : List By} {l : List (List OpD)} (hl : L.list = S.map snapB ++ l.map doneB) : cntR l ≤ 8100 := by
  have h1 := cntR_secs l
  have h2 := h.off
  have h3 := h.six
  have : halfN n ≤ 2047 := by unfold halfN; omega
  rw [hl, secsN_app] at h2
  omega
end Go.Proofs.YtlpjmkkinlcbnaaGreatDoor
