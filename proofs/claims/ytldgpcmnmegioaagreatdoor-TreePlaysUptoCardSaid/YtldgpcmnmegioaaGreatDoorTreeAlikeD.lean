/- A tree and the document's list of paths that are alike: what is asked of them is told the same. -/
import Derived.Test.YtldgpcmnmegioaaGreatDoorTreeAlikeS
namespace Go.Proofs.YtldgpcmnmegioaaGreatDoor
section
variable {T : TreeD} {m : RefD}
theorem Like.perm (h : Like T m) : T.ids.Perm (m.files.map FilD.id ++ (m.list.filter fun e => e.dir).map EntD.id) := by
  have hpw : m.list.Pairwise fun a b => a.path ≠ b.path := List.pairwise_map.1 h.flat.pnd
  have hB : ((m.list.filter fun e => e.dir).map EntD.id).Nodup := by
    refine List.pairwise_map.2 ((hpw.filter _).imp_of_mem ?_)
    intro a b ha hb hab e
    have ha := List.mem_filter.1 ha
    have hb := List.mem_filter.1 hb
    obtain ⟨l, h1, h2⟩ := (h.flat.ent a).1 ha.1
    obtain ⟨l', h3, h4⟩ := (h.flat.ent b).1 hb.1
    have ha2 := ha.2
    rw [h2] at e ha2
    rw [h4] at e
    have := h.good.walk_inj l l' h1 ha2 e
    rw [h2, h4, this] at hab
    exact hab rfl
  have hdir : ∀ i, i ∈ ((m.list.filter fun e => e.dir).map EntD.id) ↔ i ∈ T.ids ∧ (T.node i).dir = true := by
    intro i
    rw [List.mem_map]
    constructor
    · rintro ⟨e, he, rfl⟩
      obtain ⟨he, hd⟩ := List.mem_filter.1 he
      obtain ⟨l, h1, h2⟩ := (h.flat.ent e).1 he
      rw [h2] at hd ⊢
      exact ⟨h.good.walk_mem l 1 h.good.root h1, hd⟩
    · rintro ⟨hi, hd⟩
      obtain ⟨_, _, l, hl⟩ := h.dirs i hi hd
      have h0 := h.good.low i hi
      refine ⟨⟨joinP l, walkT T 1 l, (T.node (walkT T 1 l)).dir⟩, List.mem_filter.2 ⟨(h.flat.ent _).2 ⟨l, by omega, rfl⟩, by rw [hl]; exact hd⟩, hl⟩
  have hfil : ∀ i, i ∈ m.files.map FilD.id ↔ i ∈ T.ids ∧ (T.node i).dir = false := by
    intro i
    rw [List.mem_map]
    constructor
    · rintro ⟨f, hf, rfl⟩
      have := (h.fil f).1 hf
      exact ⟨this.1, this.2.1⟩
    · rintro ⟨hi, hd⟩
      exact ⟨⟨i, (T.node i).data⟩, (h.fil _).2 ⟨hi, hd, rfl⟩, rfl⟩
  refine (List.perm_ext_iff_of_nodup h.good.nodup (List.nodup_append.2 ⟨h.fnd, hB, fun a ha b hb e => ?_⟩)).2 fun i => ?_
  · have h1 := ((hfil a).1 ha).2
    have h2 := ((hdir b).1 hb).2
    rw [e, h2] at h1; cases h1
  · rw [List.mem_append, hfil, hdir]
    cases (T.node i).dir <;> simp
theorem Like.nodes (h : Like T m) : T.ids.length = nodesM m := by
  rw [h.perm.length_eq, List.length_append, List.length_map, List.length_map, nodesM, List.countP_eq_length_filter]
theorem Like.file_data (h : Like T m) {f : FilD} (hf : f ∈ m.files) : (T.node f.id).data = f.data := ((h.fil f).1 hf).2.2.symm
theorem Like.dir_facts (h : Like T m) {i : Int} (hi : i ∈ (m.list.filter fun e => e.dir).map EntD.id) : (T.node i).links = 1 ∧ (T.node i).data = [] := by
  obtain ⟨e, he, rfl⟩ := List.mem_map.1 hi
  obtain ⟨he, hd⟩ := List.mem_filter.1 he
  obtain ⟨l, h1, h2⟩ := (h.flat.ent e).1 he
  rw [h2] at hd ⊢
  have := h.dirs _ (h.good.walk_mem l 1 h.good.root h1) hd
  exact ⟨this.1, this.2.1⟩
theorem sum_none (L : List Int) (f : Int → Nat) (h : ∀ i ∈ L, f i = 0) : (L.map f).sum = 0 := by
  induction L with
  | nil => rfl
  | cons a L ih => rw [List.map_cons, List.sum_cons, h a List.mem_cons_self, ih fun i hi => h i (List.mem_cons_of_mem _ hi)]
theorem Like.used (h : Like T m) : usedT T = usedM m := by
  unfold usedT usedM
  have e0 : (((m.list.filter fun e => e.dir).map EntD.id).map fun i => (T.node i).data.length).sum = 0 := sum_none _ _ fun i hi => by rw [(h.dir_facts hi).2]; rfl
  rw [(h.perm.map _).sum_nat, List.map_append, List.sum_append, e0, List.map_map, Nat.add_zero]
  congr 1
  refine List.map_congr_left fun f hf => ?_
  simp only [Function.comp]
  rw [h.file_data hf]
theorem sort_perm {X Y : List Int} (h : X.Perm Y) : (X.mergeSort fun x y => decide (x ≤ y)) = Y.mergeSort fun x y => decide (x ≤ y) := by
  have h1 : ∀ a b c : Int, decide (a ≤ b) = true → decide (b ≤ c) = true → decide (a ≤ c) = true := fun a b c h1 h2 => by simp only [decide_eq_true_eq] at *; omega
  have h2 : ∀ a b : Int, (decide (a ≤ b) || decide (b ≤ a)) = true := fun a b => by simp only [Bool.or_eq_true, decide_eq_true_eq]; omega
  have s1 := List.pairwise_mergeSort h1 h2 X
  have s2 := List.pairwise_mergeSort h1 h2 Y
  exact ((List.mergeSort_perm X _).trans (h.trans (List.mergeSort_perm _ _).symm)).eq_of_pairwise (fun a b _ _ k1 k2 => by simp only [decide_eq_true_eq] at k1 k2; omega) s1 s2
theorem Like.loose (h : Like T m) : looseT T = looseM m := by
  unfold looseT looseM
  refine sort_perm ?_
  refine (h.perm.filter _).trans ?_
  rw [List.filter_append]
  have e1 : ((m.list.filter fun e => e.dir).map EntD.id).filter (fun i => decide ((T.node i).links = 0)) = [] := by
    rw [List.filter_eq_nil_iff]
    intro i hi
    rw [(h.dir_facts hi).1]
    simp
  rw [e1, List.append_nil]
  have e2 : (m.files.map FilD.id).filter (fun i => decide ((T.node i).links = 0)) = (m.files.map FilD.id).filter fun i => decide (countM m i = 0) := by
    refine List.filter_congr fun i hi => ?_
    obtain ⟨f, hf, rfl⟩ := List.mem_map.1 hi
    obtain ⟨h1, h2, _⟩ := (h.fil f).1 hf
    rw [h.links _ h1 h2]
    congr 1
    exact propext (by omega)
  rw [e2]
theorem Like.data (h : Like T m) {i : Int} (hi : i ∈ T.ids) (hd : (T.node i).dir = false) : dataM m i = (T.node i).data := by
  unfold dataM
  have hmem : (⟨i, (T.node i).data⟩ : FilD) ∈ m.files := (h.fil _).2 ⟨hi, hd, rfl⟩
  cases hf : m.files.find? fun f => decide (f.id = i) with
  | none => exact absurd (List.find?_eq_none.1 hf _ hmem) (by simp)
  | some f =>
    have h1 := List.find?_some hf
    have h2 := List.mem_of_find?_eq_some hf
    have h1 : f.id = i := by simpa using h1
    show f.data = _
    rw [← h.file_data h2, h1]
theorem nameM_some {q s n : By} (h : nameM q s = some n) : s = q ++ 47 :: n ∧ n ≠ [] ∧ 47 ∉ n := by
  unfold nameM at h
  split at h
  · rename_i hc
    cases h
    refine ⟨take_split hc.2.1, fun e => ?_, hc.2.2⟩
    have := congrArg List.length e
    rw [List.length_drop] at this
    have := hc.1
    simp at *
    omega
  · cases h
theorem nameM_of {q n : By} (hn : n ≠ []) (h47 : 47 ∉ n) : nameM q (q ++ 47 :: n) = some n := by
  have e1 : (q ++ 47 :: n).drop (q.length + 1) = n := by
    rw [List.drop_append]
    simp
  unfold nameM
  rw [e1, if_pos]
  refine ⟨?_, ?_, h47⟩
  · have : 0 < n.length := List.length_pos_iff.2 hn
    simp; omega
  · rw [List.take_append, List.take_of_length_le (by omega)]
    have : q.length + 1 - q.length = 1 := by omega
    rw [this]
    rfl
theorem Like.names (h : Like T m) {p : By} {l : List By} {k : Int} (hp : pathL p = some l) (hk : walkT T 1 l = k) (hk0 : k ≠ 0) :
    (namesM m p).Nodup ∧ ∀ x, x ∈ namesM m p ↔ ((T.node k).kids x).isSome = true := by
  have hkm : k ∈ T.ids := by rw [← hk]; exact h.good.walk_mem l 1 h.good.root (by rw [hk]; exact hk0)
  have hq := stem_glue hp
  unfold namesM
  refine ⟨?_, fun x => ?_⟩
  · have hpw : m.list.Pairwise fun a b => a.path ≠ b.path := List.pairwise_map.1 h.flat.pnd
    refine List.pairwise_filterMap.2 (hpw.imp ?_)
    intro a b hab x hx y hy e
    rw [(nameM_some hx).1, (nameM_some hy).1, e] at hab
    exact hab rfl
  · rw [List.mem_filterMap]
    constructor
    · rintro ⟨e, he, hx⟩
      obtain ⟨l', h1, h2⟩ := (h.flat.ent e).1 he
      obtain ⟨h3, h4, h5⟩ := nameM_some hx
      have hd := h.flat.deep l' h1
      have hep : e.path = joinP l' := by rw [h2]
      rw [← hep] at hd
      have hne : e.path ≠ [47] := by
        rw [h3]
        intro e1
        have := congrArg List.length e1
        have h0 : 0 < x.length := List.length_pos_iff.2 h4
        simp at this
        omega
      have hl := names_below hd hne hq (path_no47 hp) h3
      rw [splitOn_none 47 x h5] at hl
      rw [hl, walk_snoc T x l 1 GoodT.one_ne, hk, if_neg hk0] at h1
      have := h.good.kid_mem hkm h1
      rw [this.2.1]; rfl
    · intro hx
      cases hkx : (T.node k).kids x with
      | none => rw [hkx] at hx; cases hx
      | some c =>
        have hcm := h.good.kid k hkm x c hkx
        have hc0 := h.good.low c hcm.1
        have hw : walkT T 1 (l ++ [x]) = c := by
          rw [walk_snoc T x l 1 GoodT.one_ne, hk, if_neg hk0]
          show ((T.node k).kids x).getD 0 = c
          rw [hkx]; rfl
        have hd := h.flat.deep (l ++ [x]) (by omega)
        refine ⟨⟨joinP (l ++ [x]), walkT T 1 (l ++ [x]), (T.node (walkT T 1 (l ++ [x]))).dir⟩, (h.flat.ent _).2 ⟨_, by omega, rfl⟩, ?_⟩
        have hx47 := path_no47 hd x (by simp)
        have hxn : x ≠ [] := nameL_ne (List.all_eq_true.1 (pathL_facts hd).2.1 x (by simp))
        show nameM (stemM p) (joinP (l ++ [x])) = some x
        have e1 : joinP (l ++ [x]) = stemM p ++ 47 :: x := by
          rw [path_glue hd (by simp), glue_append, ← hq]
          simp [glue]
        rw [e1]
        exact nameM_of hxn hx47
theorem Like.run (L : List OpD) : ∀ {T : TreeD} {m : RefD}, Like T m → (runM m L).2 = (runT T L).2 ∧ Like (runT T L).1 (runM m L).1 := by
  induction L with
  | nil => intro T m h; exact ⟨rfl, h⟩
  | cons o L ih =>
    intro T m h
    obtain ⟨h1, h2⟩ := h.step o
    unfold runT runM
    by_cases hz : (stepT T o).2 = 0
    · rw [if_pos hz, if_pos (by rw [h1]; exact hz)]
      exact ih h2
    · rw [if_neg hz, if_neg (by rw [h1]; exact hz)]
      exact ⟨h1, h2⟩
theorem Like.do (h : Like T m) (L : List OpD) : (doM m L).2 = (doT T L).2 ∧ Like (doT T L).1 (doM m L).1 := by
  obtain ⟨h1, h2⟩ := h.run L
  unfold doT doM
  by_cases c1 : (runT T L).2 ≠ 0
  · rw [if_pos c1, if_pos (by rw [h1]; exact c1), h1]; exact ⟨rfl, h⟩
  rw [if_neg c1, if_neg (by rw [h1]; exact c1)]
  by_cases c2 : 128 < (runT T L).1.ids.length
  · rw [if_pos c2, if_pos (by rw [← h2.nodes]; exact c2)]; exact ⟨rfl, h⟩
  rw [if_neg c2, if_neg (by rw [← h2.nodes]; exact c2)]
  by_cases c3 : T.quota < usedT (runT T L).1
  · rw [if_pos c3, if_pos (by rw [← h2.used, h.quota]; exact c3)]; exact ⟨rfl, h⟩
  rw [if_neg c3, if_neg (by rw [← h2.used, h.quota]; exact c3)]
  exact ⟨rfl, h2⟩
theorem new_like (q : Int) : Like (newT q) (newM q) := by
  have hw : ∀ l, walkT (newT q) 1 l = if l = [] then 1 else 0 := by
    intro l
    cases l with
    | nil => rfl
    | cons x r =>
      have e : kidT (newT q) 1 x = 0 := rfl
      unfold walkT
      rw [if_pos e]
      simp
  refine ⟨newT_good q, ⟨fun l hl => ?_, by simp [newM], fun e => ?_⟩, rfl, rfl, by simp [newM], fun f => ?_, fun i hi hd => ?_, fun i hi hd => ⟨rfl, rfl, [], ?_⟩⟩
  · rw [hw] at hl
    split at hl
    · rename_i e; rw [e]; exact pathL_root
    · exact absurd rfl hl
  · simp only [newM, List.mem_singleton]
    constructor
    · rintro rfl; exact ⟨[], by rw [hw]; decide, rfl⟩
    · rintro ⟨l, h1, rfl⟩
      rw [hw] at h1
      split at h1
      · rename_i e; rw [e]; rfl
      · exact absurd rfl h1
  · constructor
    · intro hf; simp [newM] at hf
    · rintro ⟨_, h2, _⟩; cases h2
  · cases hd
  · simp only [newT, List.mem_singleton] at hi; rw [hi]; rfl
end
end Go.Proofs.YtldgpcmnmegioaaGreatDoor
