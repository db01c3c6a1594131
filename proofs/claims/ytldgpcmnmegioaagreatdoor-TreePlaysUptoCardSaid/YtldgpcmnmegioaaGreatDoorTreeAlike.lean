/- A tree and the document's list of paths stay alike whatever is done. -/
import Derived.Test.YtldgpcmnmegioaaGreatDoorM5
import Derived.Test.YtldgpcmnmegioaaGreatDoorM2
namespace Go.Proofs.YtldgpcmnmegioaaGreatDoor
structure Like (T : TreeD) (m : RefD) : Prop where
  good : GoodT T
  flat : Flat (walkT T 1) (fun i => (T.node i).dir) m.list
  next : m.next = T.next
  quota : m.quota = T.quota
  fnd : (m.files.map FilD.id).Nodup
  fil : ∀ f, f ∈ m.files ↔ f.id ∈ T.ids ∧ (T.node f.id).dir = false ∧ f.data = (T.node f.id).data
  links : ∀ i ∈ T.ids, (T.node i).dir = false → (T.node i).links = (countM m i : Int)
  dirs : ∀ i ∈ T.ids, (T.node i).dir = true → (T.node i).links = 1 ∧ (T.node i).data = [] ∧ ∃ l, walkT T 1 l = i
theorem nameL_ne {x : By} (h : nameL x = true) : x ≠ [] := by rintro rfl; exact absurd h (by decide)
theorem pathL_pre {p : By} {l : List By} {x : By} (h : pathL p = some (l ++ [x])) : pathL (joinP l) = some l := by
  obtain ⟨h1, h2, h3, h4⟩ := pathL_facts h
  rcases h4 with ⟨_, h5⟩ | ⟨_, _, h5, _⟩
  · simp at h5
  · cases l with
    | nil => exact pathL_root
    | cons a r =>
      rw [List.all_append, Bool.and_eq_true] at h2
      have ha : nameL a = true := by have := h2.1; rw [List.all_cons, Bool.and_eq_true] at this; exact this.1
      have hne : joinP (a :: r) ≠ [47] := by
        rw [joinP_cons, glue_cons]
        intro e
        have e := (List.cons.inj e).2
        have : a = [] := List.eq_nil_of_length_eq_zero (by have := congrArg List.length e; simp at this; simp [this.1])
        exact nameL_ne ha this
      rw [pathL_join hne (fun q hq => nameL_no47 (List.all_eq_true.1 h2.1 q hq)), if_pos]
      rw [Bool.and_eq_true, decide_eq_true_eq]
      refine ⟨?_, ?_⟩
      · unfold joinOk
        rw [Bool.and_eq_true, Bool.and_eq_true, decide_eq_true_eq, decide_eq_true_eq]
        refine ⟨⟨by simp, by rw [List.length_append] at h1; simp only [List.length_cons, List.length_nil] at *; omega⟩, h2.1⟩
      · rw [← h5, glue_append, List.length_append] at h3; omega
section
variable {T : TreeD} {m : RefD}
theorem Like.ent_some (h : Like T m) {p : By} {l : List By} (hp : pathL p = some l) (hw : walkT T 1 l ≠ 0) : entM m p = some ⟨p, walkT T 1 l, (T.node (walkT T 1 l)).dir⟩ := h.flat.find hp hw
theorem Like.ent_none (h : Like T m) {p : By} {l : List By} (hp : pathL p = some l) (hw : walkT T 1 l = 0) : entM m p = none :=
  h.flat.find_none fun l' hl => by rw [hp] at hl; cases hl; exact hw
theorem Like.ent_find (h : Like T m) (p : By) : entM m p = if findT T p = 0 then none else some ⟨p, findT T p, (T.node (findT T p)).dir⟩ := by
  unfold findT
  cases hp : pathL p with
  | none =>
    rw [if_pos rfl]
    exact h.flat.find_none fun l hl => by rw [hp] at hl; cases hl
  | some l =>
    show entM m p = if walkT T 1 l = 0 then none else _
    split
    · rename_i hw; exact h.ent_none hp hw
    · rename_i hw; exact h.ent_some hp hw
theorem placeT_none {p : By} (h : upL p = none) : placeT T p = .bad 14 := by unfold placeT; rw [h]
theorem placeT_some {p : By} {l : List By} {x : By} (h : upL p = some (l, x)) : placeT T p = if walkT T 1 l = 0 then .bad 8 else if (T.node (walkT T 1 l)).dir then .at (walkT T 1 l) x else .bad 11 := by unfold placeT; rw [h]
theorem placeM_none {p : By} (h : upL p = none) : placeM m p = 14 := by unfold placeM; rw [h]
theorem placeM_some {p : By} {l : List By} {x : By} (h : upL p = some (l, x)) : placeM m p = match entM m (joinP l) with | none => 8 | some e => if e.dir = true then 0 else 11 := by unfold placeM; rw [h]; rfl
theorem Like.place_bad (h : Like T m) {p : By} {e : Int} (hp : placeT T p = .bad e) : placeM m p = e ∧ e ≠ 0 := by
  cases hu : upL p with
  | none =>
    rw [placeT_none hu] at hp
    cases hp
    exact ⟨placeM_none hu, by decide⟩
  | some lx =>
    obtain ⟨l, x⟩ := lx
    rw [placeT_some hu] at hp
    rw [placeM_some hu]
    have hl := pathL_pre (upL_iff.1 hu)
    by_cases hw : walkT T 1 l = 0
    · rw [if_pos hw] at hp
      cases hp
      rw [h.ent_none hl hw]; exact ⟨rfl, by decide⟩
    · rw [if_neg hw] at hp
      rw [h.ent_some hl hw]
      cases hd : (T.node (walkT T 1 l)).dir with
      | true => rw [hd] at hp; simp at hp
      | false =>
        rw [hd] at hp
        simp at hp
        subst hp
        exact ⟨rfl, by decide⟩
theorem Like.place_at (h : Like T m) {p : By} {d : Int} {x : By} (hp : placeT T p = .at d x) :
    placeM m p = 0 ∧ ∃ l, pathL p = some (l ++ [x]) ∧ walkT T 1 l = d ∧ d ≠ 0 ∧ (T.node d).dir = true ∧ d ∈ T.ids ∧ walkT T 1 (l ++ [x]) = kidT T d x := by
  have hm := h.good.place_mem hp
  cases hu : upL p with
  | none => rw [placeT_none hu] at hp; cases hp
  | some lx =>
    obtain ⟨l, y⟩ := lx
    rw [placeT_some hu] at hp
    rw [placeM_some hu]
    have hl := pathL_pre (upL_iff.1 hu)
    by_cases hw : walkT T 1 l = 0
    · rw [if_pos hw] at hp; cases hp
    · rw [if_neg hw] at hp
      rw [h.ent_some hl hw]
      cases hd : (T.node (walkT T 1 l)).dir with
      | false => rw [hd] at hp; simp at hp
      | true =>
        rw [hd] at hp
        simp at hp
        obtain ⟨rfl, rfl⟩ := hp
        exact ⟨rfl, l, upL_iff.1 hu, rfl, hw, hd, hm.1, by rw [walk_snoc T _ l 1 GoodT.one_ne, if_neg hw]⟩
theorem find_at {p : By} {l : List By} (hp : pathL p = some l) : findT T p = walkT T 1 l := by unfold findT; rw [hp]
theorem Like.count_zero (h : Like T m) {i : Int} (hi : ∀ l, walkT T 1 l = i → i = 0) : countM m i = 0 := by
  unfold countM
  rw [List.countP_eq_zero]
  intro e he hc
  obtain ⟨l, h1, h2⟩ := (h.flat.ent e).1 he
  rw [h2] at hc
  have : walkT T 1 l = i := by simpa using hc
  exact h1 (by rw [this]; exact hi l this)
theorem Like.count_pos (h : Like T m) {l : List By} (hl : walkT T 1 l ≠ 0) : 0 < countM m (walkT T 1 l) := by
  unfold countM
  rw [List.countP_pos_iff]
  exact ⟨_, (h.flat.ent _).2 ⟨l, hl, rfl⟩, by simp⟩
/-! ### Names after a change -/
theorem kid_set (i : Int) (n : NodeD) (c : Int) (z : By) : kidT (setT T i n) c z = if c = i then (n.kids z).getD 0 else kidT T c z := by
  unfold kidT; rw [setT_node]; split <;> rfl
theorem kid_bind (d : Int) (x : By) (i c : Int) (z : By) : kidT (bindT T d x i) c z = if c = d ∧ z = x then i else kidT T c z := by
  unfold bindT; rw [kid_set]
  by_cases hc : c = d
  · rw [if_pos hc]
    simp only [withK]
    by_cases hz : z = x
    · rw [if_pos hz, if_pos ⟨hc, hz⟩]; rfl
    · rw [if_neg hz, if_neg (fun e => hz e.2)]; unfold kidT; rw [hc]
  · rw [if_neg hc, if_neg (fun e => hc e.1)]
theorem kid_cut (d : Int) (x : By) (c : Int) (z : By) : kidT (cutT T d x) c z = if c = d ∧ z = x then 0 else kidT T c z := by
  unfold cutT; rw [kid_set]
  by_cases hc : c = d
  · rw [if_pos hc]
    simp only [lessK]
    by_cases hz : z = x
    · rw [if_pos hz, if_pos ⟨hc, hz⟩]; rfl
    · rw [if_neg hz, if_neg (fun e => hz e.2)]; unfold kidT; rw [hc]
  · rw [if_neg hc, if_neg (fun e => hc e.1)]
theorem kid_link (i k c : Int) (z : By) : kidT (linkT T i k) c z = kidT T c z := by
  unfold linkT; rw [kid_set]; split
  · rename_i e; unfold kidT; rw [e]
  · rfl
theorem cutT_links (d : Int) (x : By) (j : Int) : ((cutT T d x).node j).links = (T.node j).links := by
  unfold cutT; rw [setT_node]; split
  · rename_i e; rw [e]
  · rfl
theorem bindT_links (d : Int) (x : By) (i j : Int) : ((bindT T d x i).node j).links = (T.node j).links := by
  unfold bindT; rw [setT_node]; split
  · rename_i e; rw [e]
  · rfl
theorem cutT_data (d : Int) (x : By) (j : Int) : ((cutT T d x).node j).data = (T.node j).data := by
  unfold cutT; rw [setT_node]; split
  · rename_i e; rw [e]
  · rfl
theorem bindT_data (d : Int) (x : By) (i j : Int) : ((bindT T d x i).node j).data = (T.node j).data := by
  unfold bindT; rw [setT_node]; split
  · rename_i e; rw [e]
  · rfl
theorem linkT_data (i k j : Int) : ((linkT T i k).node j).data = (T.node j).data := by
  unfold linkT; rw [setT_node]; split
  · rename_i e; rw [e]
  · rfl
theorem linkT_links (i k j : Int) : ((linkT T i k).node j).links = (T.node j).links + if j = i then k else 0 := by
  unfold linkT; rw [setT_node]; split
  · rename_i e; rw [e]
  · omega
theorem GoodT.file_kid (h : GoodT T) {i : Int} (hi : i ∈ T.ids) (hf : (T.node i).dir = false) (z : By) : kidT T i z = 0 := by
  unfold kidT; rw [h.file i hi hf]; rfl
/-! ### A name more, a name less -/
/-- What a change in a directory makes of what stands where. -/
theorem Like.cut_walk (h : Like T m) {l : List By} {x : By} {d : Int} (hl : walkT T 1 l = d) (hd0 : d ≠ 0) (hdd : (T.node d).dir = true) (hleaf : kidT T d x ≠ 0 → ∀ z, kidT T (kidT T d x) z = 0) (l' : List By) :
    walkT (cutT T d x) 1 l' = if l' = l ++ [x] then 0 else walkT T 1 l' :=
  walk_update h.good hl hd0 hdd (fun c _ z => kid_cut d x c z) (fun hv => absurd rfl hv) hleaf l'
theorem Like.make (h : Like T m) {p : By} {l : List By} {x : By} {d : Int} (hp : pathL p = some (l ++ [x])) (hl : walkT T 1 l = d) (hd0 : d ≠ 0) (hdd : (T.node d).dir = true) (hdm : d ∈ T.ids) (h0 : kidT T d x = 0)
    (n : NodeD) (hn : n.kids = noK) (hl1 : n.links = 1) (hdir : n.dir = true → n.data = []) :
    Like (bindT (addT T n) d x T.next) ⟨m.list ++ [⟨p, m.next, n.dir⟩], if n.dir = true then m.files else m.files ++ [⟨m.next, n.data⟩], m.next + 1, m.quota⟩ := by
  have hg := makeT_good h.good (x := x) hdm hdd n hn
  have hlow := h.good.low
  have h1 := hlow 1 h.good.root
  have hn0 : T.next ≠ 0 := by omega
  have hnd : T.next ≠ d := fun e => by have := (hlow d hdm).2; omega
  have hold : ∀ j ∈ T.ids, j ≠ T.next := fun j hj e => by have := (hlow j hj).2; omega
  have hmem : ∀ j, j ∈ (bindT (addT T n) d x T.next).ids ↔ j ∈ T.ids ∨ j = T.next := by
    intro j; show j ∈ T.ids ++ [T.next] ↔ _; simp
  have hkid : ∀ c ∈ T.ids, ∀ z, kidT (bindT (addT T n) d x T.next) c z = if c = d ∧ z = x then T.next else kidT T c z := by
    intro c hc z
    rw [kid_bind]
    split
    · rfl
    · unfold kidT; rw [addT_old n h.good hc]
  have hnk : ∀ z, kidT (bindT (addT T n) d x T.next) T.next z = 0 := by
    intro z
    rw [kid_bind, if_neg (fun e => hnd e.1)]
    unfold kidT
    rw [addT_node, if_pos rfl, hn]; rfl
  have hw := walk_update h.good hl hd0 hdd hkid (fun _ => hnk) (fun e => absurd h0 e)
  have hnode : ∀ j, j ≠ T.next → ((bindT (addT T n) d x T.next).node j).dir = (T.node j).dir ∧ ((bindT (addT T n) d x T.next).node j).links = (T.node j).links ∧ ((bindT (addT T n) d x T.next).node j).data = (T.node j).data := by
    intro j hj
    rw [bindT_dir, bindT_links, bindT_data, addT_node, if_neg hj]
    exact ⟨rfl, rfl, rfl⟩
  have hnew : ((bindT (addT T n) d x T.next).node T.next).dir = n.dir ∧ ((bindT (addT T n) d x T.next).node T.next).links = n.links ∧ ((bindT (addT T n) d x T.next).node T.next).data = n.data := by
    rw [bindT_dir, bindT_links, bindT_data, addT_node, if_pos rfl]
    exact ⟨rfl, rfl, rfl⟩
  have hwm : ∀ l', walkT T 1 l' ≠ 0 → walkT T 1 l' ≠ T.next := fun l' hl' => hold _ (h.good.walk_mem l' 1 h.good.root hl')
  have hwlx : walkT T 1 (l ++ [x]) = 0 := by rw [walk_snoc T x l 1 GoodT.one_ne, hl, if_neg hd0]; exact h0
  have hcn : countM m T.next = 0 := h.count_zero fun l' e => by
    by_cases h2 : walkT T 1 l' = 0
    · rw [← e]; exact h2
    · exact absurd e (hwm l' h2)
  refine ⟨hg, ?_, by show m.next + 1 = T.next + 1; rw [h.next], h.quota, ?_, fun f => ?_, fun i hi hf => ?_, fun i hi hd => ?_⟩
  · have h2 := (h.flat.congr (W' := walkT T 1) (D' := fun i => ((bindT (addT T n) d x T.next).node i).dir) (fun _ => rfl) (fun l' hl' => (hnode _ (hwm l' hl')).1)).more hp hwlx hn0
    simp only [hnew.1] at h2
    rw [h.next]
    exact h2.congr hw (fun _ _ => rfl)
  · show ((if n.dir = true then m.files else m.files ++ [⟨m.next, n.data⟩]).map FilD.id).Nodup
    split
    · exact h.fnd
    · rw [List.map_append, List.nodup_append]
      refine ⟨h.fnd, by simp, fun a ha b hb e => ?_⟩
      obtain ⟨f, hf, rfl⟩ := List.mem_map.1 ha
      simp only [List.map_cons, List.map_nil, List.mem_singleton] at hb
      exact hold _ ((h.fil f).1 hf).1 (by rw [e, hb, h.next])
  · rw [hmem]
    show f ∈ (if n.dir = true then m.files else m.files ++ [⟨m.next, n.data⟩]) ↔ _
    by_cases hfn : f.id = T.next
    · have hno : f ∉ m.files := fun hf => hold _ ((h.fil f).1 hf).1 hfn
      rw [hfn, hnew.1, hnew.2.2]
      split
      · rename_i hd
        rw [hd]
        exact ⟨fun hf => absurd hf hno, fun e => by cases e.2.1⟩
      · rename_i hd
        rw [List.mem_append, List.mem_singleton, h.next]
        constructor
        · rintro (hf | rfl)
          · exact absurd hf hno
          · exact ⟨Or.inr rfl, by simpa using hd, rfl⟩
        · rintro ⟨_, _, h3⟩
          right
          cases f
          cases hfn
          cases h3
          rfl
    · have hn2 := hnode f.id hfn
      rw [hn2.1, hn2.2.2]
      have e : (f ∈ (if n.dir = true then m.files else m.files ++ [⟨m.next, n.data⟩])) ↔ f ∈ m.files := by
        split
        · exact Iff.rfl
        · rw [List.mem_append, List.mem_singleton]
          constructor
          · rintro (hf | rfl)
            · exact hf
            · exact absurd h.next hfn
          · exact Or.inl
      rw [e, h.fil]
      constructor
      · rintro ⟨h2, h3⟩; exact ⟨Or.inl h2, h3⟩
      · rintro ⟨h2 | h2, h3⟩
        · exact ⟨h2, h3⟩
        · exact absurd h2 hfn
  · have hc : countM ⟨m.list ++ [⟨p, m.next, n.dir⟩], if n.dir = true then m.files else m.files ++ [⟨m.next, n.data⟩], m.next + 1, m.quota⟩ i = countM m i + if i = T.next then 1 else 0 := by
      unfold countM
      rw [List.countP_append, List.countP_cons, List.countP_nil, h.next]
      simp only [decide_eq_true_eq, Nat.zero_add]
      by_cases e : i = T.next
      · rw [if_pos e, if_pos e.symm]
      · rw [if_neg e, if_neg (fun e1 => e e1.symm)]
    rw [hc]
    by_cases e : i = T.next
    · rw [if_pos e, e, hnew.2.1, hcn, hl1]; rfl
    · rw [if_neg e, (hnode i e).2.1]
      rw [(hnode i e).1] at hf
      exact h.links i (((hmem i).1 hi).resolve_right e) hf
  · by_cases e : i = T.next
    · rw [e, hnew.1] at hd
      rw [e, hnew.2.1, hnew.2.2]
      exact ⟨hl1, hdir hd, l ++ [x], by rw [hw, if_pos rfl]⟩
    · rw [(hnode i e).1] at hd
      rw [(hnode i e).2.1, (hnode i e).2.2]
      obtain ⟨h2, h3, l', h4⟩ := h.dirs i (((hmem i).1 hi).resolve_right e) hd
      refine ⟨h2, h3, l', ?_⟩
      rw [hw, if_neg, h4]
      intro e2
      rw [e2, hwlx] at h4
      rw [← h4] at hi
      have := hg.low 0 hi
      omega
end
end Go.Proofs.YtldgpcmnmegioaaGreatDoor
