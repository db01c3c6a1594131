/- Several texts of mine, one behind the other: TreeAlike, TreeAlikeF, TreeAlikeS, TreeAlikeD, PlaysReap. -/
import Derived.Test.YtlpjmkkinlcbnaaGreatDoorM8
import Derived.Test.YtlpjmkkinlcbnaaGreatDoorM3
import Derived.Test.YtlpjmkkinlcbnaaGreatDoorM4
namespace Go.Proofs.YtlpjmkkinlcbnaaGreatDoor
structure Like (T : TreeD) (m : RefD) : Prop where
  good : GoodT T
  flat : Flat (walkT T 1) (fun i => (T.node i).dir) m.list
  next : m.next = T.next
  quota : m.quota = T.quota
  fnd : (m.files.map FilD.id).Nodup
  fil : ∀ f, f ∈ m.files ↔ f.id ∈ T.ids ∧ (T.node f.id).dir = false ∧ f.data = (T.node f.id).data
  links : ∀ i ∈ T.ids, (T.node i).dir = false → (T.node i).links = (countM m i : Int)
  dirs : ∀ i ∈ T.ids, (T.node i).dir = true → (T.node i).links = 1 ∧ (T.node i).data = [] ∧ ∃ l, walkT T 1 l = i
theorem nameL_ne {x : By} (h : nameL x = true) : x ≠ [] := by rintro rfl; exact absurd h (by decide)
theorem pathL_pre {p : By} {l : List By} {x : By} (h : pathL p = some (l ++ [x])) : pathL (joinP l) = some l := by
  obtain ⟨h1, h2, h3, h4⟩ := pathL_facts h
  rcases h4 with ⟨_, h5⟩ | ⟨_, _, h5, _⟩
  · simp at h5
  · cases l with
    | nil => exact pathL_root
    | cons a r =>
      rw [List.all_append, Bool.and_eq_true] at h2
      have ha : nameL a = true := by have := h2.1; rw [List.all_cons, Bool.and_eq_true] at this; exact this.1
      have hne : joinP (a :: r) ≠ [47] := by
        rw [joinP_cons, glue_cons]
        intro e
        have e := (List.cons.inj e).2
        have : a = [] := List.eq_nil_of_length_eq_zero (by have := congrArg List.length e; simp at this; simp [this.1])
        exact nameL_ne ha this
      rw [pathL_join hne (fun q hq => nameL_no47 (List.all_eq_true.1 h2.1 q hq)), if_pos]
      rw [Bool.and_eq_true, decide_eq_true_eq]
      refine ⟨?_, ?_⟩
      · unfold joinOk
        rw [Bool.and_eq_true, Bool.and_eq_true, decide_eq_true_eq, decide_eq_true_eq]
        refine ⟨⟨by simp, by rw [List.length_append] at h1; simp only [List.length_cons, List.length_nil] at *; omega⟩, h2.1⟩
      · rw [← h5, glue_append, List.length_append] at h3; omega
section
variable {T : TreeD} {m : RefD}
theorem Like.ent_some (h : Like T m) {p : By} {l : List By} (hp : pathL p = some l) (hw : walkT T 1 l ≠ 0) : entM m p = some ⟨p, walkT T 1 l, (T.node (walkT T 1 l)).dir⟩ := h.flat.find hp hw
theorem Like.ent_none (h : Like T m) {p : By} {l : List By} (hp : pathL p = some l) (hw : walkT T 1 l = 0) : entM m p = none :=
  h.flat.find_none fun l' hl => by rw [hp] at hl; cases hl; exact hw
theorem Like.ent_find (h : Like T m) (p : By) : entM m p = if findT T p = 0 then none else some ⟨p, findT T p, (T.node (findT T p)).dir⟩ := by
  unfold findT
  cases hp : pathL p with
  | none =>
    rw [if_pos rfl]
    exact h.flat.find_none fun l hl => by rw [hp] at hl; cases hl
  | some l =>
    show entM m p = if walkT T 1 l = 0 then none else _
    split
    · rename_i hw; exact h.ent_none hp hw
    · rename_i hw; exact h.ent_some hp hw
theorem placeT_none {p : By} (h : upL p = none) : placeT T p = .bad 14 := by unfold placeT; rw [h]
theorem placeT_some {p : By} {l : List By} {x : By} (h : upL p = some (l, x)) : placeT T p = if walkT T 1 l = 0 then .bad 8 else if (T.node (walkT T 1 l)).dir then .at (walkT T 1 l) x else .bad 11 := by unfold placeT; rw [h]
theorem placeM_none {p : By} (h : upL p = none) : placeM m p = 14 := by unfold placeM; rw [h]
theorem placeM_some {p : By} {l : List By} {x : By} (h : upL p = some (l, x)) : placeM m p = match entM m (joinP l) with | none => 8 | some e => if e.dir = true then 0 else 11 := by unfold placeM; rw [h]; rfl
theorem Like.place_bad (h : Like T m) {p : By} {e : Int} (hp : placeT T p = .bad e) : placeM m p = e ∧ e ≠ 0 := by
  cases hu : upL p with
  | none =>
    rw [placeT_none hu] at hp
    cases hp
    exact ⟨placeM_none hu, by decide⟩
  | some lx =>
    obtain ⟨l, x⟩ := lx
    rw [placeT_some hu] at hp
    rw [placeM_some hu]
    have hl := pathL_pre (upL_iff.1 hu)
    by_cases hw : walkT T 1 l = 0
    · rw [if_pos hw] at hp
      cases hp
      rw [h.ent_none hl hw]; exact ⟨rfl, by decide⟩
    · rw [if_neg hw] at hp
      rw [h.ent_some hl hw]
      cases hd : (T.node (walkT T 1 l)).dir with
      | true => rw [hd] at hp; simp at hp
      | false =>
        rw [hd] at hp
        simp at hp
        subst hp
        exact ⟨rfl, by decide⟩
theorem Like.place_at (h : Like T m) {p : By} {d : Int} {x : By} (hp : placeT T p = .at d x) :
    placeM m p = 0 ∧ ∃ l, pathL p = some (l ++ [x]) ∧ walkT T 1 l = d ∧ d ≠ 0 ∧ (T.node d).dir = true ∧ d ∈ T.ids ∧ walkT T 1 (l ++ [x]) = kidT T d x := by
  have hm := h.good.place_mem hp
  cases hu : upL p with
  | none => rw [placeT_none hu] at hp; cases hp
  | some lx =>
    obtain ⟨l, y⟩ := lx
    rw [placeT_some hu] at hp
    rw [placeM_some hu]
    have hl := pathL_pre (upL_iff.1 hu)
    by_cases hw : walkT T 1 l = 0
    · rw [if_pos hw] at hp; cases hp
    · rw [if_neg hw] at hp
      rw [h.ent_some hl hw]
      cases hd : (T.node (walkT T 1 l)).dir with
      | false => rw [hd] at hp; simp at hp
      | true =>
        rw [hd] at hp
        simp at hp
        obtain ⟨rfl, rfl⟩ := hp
        exact ⟨rfl, l, upL_iff.1 hu, rfl, hw, hd, hm.1, by rw [walk_snoc T _ l 1 GoodT.one_ne, if_neg hw]⟩
theorem find_at {p : By} {l : List By} (hp : pathL p = some l) : findT T p = walkT T 1 l := by unfold findT; rw [hp]
theorem Like.count_zero (h : Like T m) {i : Int} (hi : ∀ l, walkT T 1 l = i → i = 0) : countM m i = 0 := by
  unfold countM
  rw [List.countP_eq_zero]
  intro e he hc
  obtain ⟨l, h1, h2⟩ := (h.flat.ent e).1 he
  rw [h2] at hc
  have : walkT T 1 l = i := by simpa using hc
  exact h1 (by rw [this]; exact hi l this)
theorem Like.count_pos (h : Like T m) {l : List By} (hl : walkT T 1 l ≠ 0) : 0 < countM m (walkT T 1 l) := by
  unfold countM
  rw [List.countP_pos_iff]
  exact ⟨_, (h.flat.ent _).2 ⟨l, hl, rfl⟩, by simp⟩
/-! ### Names after a change -/
theorem kid_set (i : Int) (n : NodeD) (c : Int) (z : By) : kidT (setT T i n) c z = if c = i then (n.kids z).getD 0 else kidT T c z := by
  unfold kidT; rw [setT_node]; split <;> rfl
theorem kid_bind (d : Int) (x : By) (i c : Int) (z : By) : kidT (bindT T d x i) c z = if c = d ∧ z = x then i else kidT T c z := by
  unfold bindT; rw [kid_set]
  by_cases hc : c = d
  · rw [if_pos hc]
    simp only [withK]
    by_cases hz : z = x
    · rw [if_pos hz, if_pos ⟨hc, hz⟩]; rfl
    · rw [if_neg hz, if_neg (fun e => hz e.2)]; unfold kidT; rw [hc]
  · rw [if_neg hc, if_neg (fun e => hc e.1)]
theorem kid_cut (d : Int) (x : By) (c : Int) (z : By) : kidT (cutT T d x) c z = if c = d ∧ z = x then 0 else kidT T c z := by
  unfold cutT; rw [kid_set]
  by_cases hc : c = d
  · rw [if_pos hc]
    simp only [lessK]
    by_cases hz : z = x
    · rw [if_pos hz, if_pos ⟨hc, hz⟩]; rfl
    · rw [if_neg hz, if_neg (fun e => hz e.2)]; unfold kidT; rw [hc]
  · rw [if_neg hc, if_neg (fun e => hc e.1)]
theorem kid_link (i k c : Int) (z : By) : kidT (linkT T i k) c z = kidT T c z := by
  unfold linkT; rw [kid_set]; split
  · rename_i e; unfold kidT; rw [e]
  · rfl
theorem cutT_links (d : Int) (x : By) (j : Int) : ((cutT T d x).node j).links = (T.node j).links := by
  unfold cutT; rw [setT_node]; split
  · rename_i e; rw [e]
  · rfl
theorem bindT_links (d : Int) (x : By) (i j : Int) : ((bindT T d x i).node j).links = (T.node j).links := by
  unfold bindT; rw [setT_node]; split
  · rename_i e; rw [e]
  · rfl
theorem cutT_data (d : Int) (x : By) (j : Int) : ((cutT T d x).node j).data = (T.node j).data := by
  unfold cutT; rw [setT_node]; split
  · rename_i e; rw [e]
  · rfl
theorem bindT_data (d : Int) (x : By) (i j : Int) : ((bindT T d x i).node j).data = (T.node j).data := by
  unfold bindT; rw [setT_node]; split
  · rename_i e; rw [e]
  · rfl
theorem linkT_data (i k j : Int) : ((linkT T i k).node j).data = (T.node j).data := by
  unfold linkT; rw [setT_node]; split
  · rename_i e; rw [e]
  · rfl
theorem linkT_links (i k j : Int) : ((linkT T i k).node j).links = (T.node j).links + if j = i then k else 0 := by
  unfold linkT; rw [setT_node]; split
  · rename_i e; rw [e]
  · omega
theorem GoodT.file_kid (h : GoodT T) {i : Int} (hi : i ∈ T.ids) (hf : (T.node i).dir = false) (z : By) : kidT T i z = 0 := by
  unfold kidT; rw [h.file i hi hf]; rfl
/-! ### A name more, a name less -/
/-- What a change in a directory makes of what stands where. -/
theorem Like.cut_walk (h : Like T m) {l : List By} {x : By} {d : Int} (hl : walkT T 1 l = d) (hd0 : d ≠ 0) (hdd : (T.node d).dir = true) (hleaf : kidT T d x ≠ 0 → ∀ z, kidT T (kidT T d x) z = 0) (l' : List By) :
    walkT (cutT T d x) 1 l' = if l' = l ++ [x] then 0 else walkT T 1 l' :=
  walk_update h.good hl hd0 hdd (fun c _ z => kid_cut d x c z) (fun hv => absurd rfl hv) hleaf l'
theorem Like.make (h : Like T m) {p : By} {l : List By} {x : By} {d : Int} (hp : pathL p = some (l ++ [x])) (hl : walkT T 1 l = d) (hd0 : d ≠ 0) (hdd : (T.node d).dir = true) (hdm : d ∈ T.ids) (h0 : kidT T d x = 0)
    (n : NodeD) (hn : n.kids = noK) (hl1 : n.links = 1) (hdir : n.dir = true → n.data = []) :
    Like (bindT (addT T n) d x T.next) ⟨m.list ++ [⟨p, m.next, n.dir⟩], if n.dir = true then m.files else m.files ++ [⟨m.next, n.data⟩], m.next + 1, m.quota⟩ := by
  have hg := makeT_good h.good (x := x) hdm hdd n hn
  have hlow := h.good.low
  have h1 := hlow 1 h.good.root
  have hn0 : T.next ≠ 0 := by omega
  have hnd : T.next ≠ d := fun e => by have := (hlow d hdm).2; omega
  have hold : ∀ j ∈ T.ids, j ≠ T.next := fun j hj e => by have := (hlow j hj).2; omega
  have hmem : ∀ j, j ∈ (bindT (addT T n) d x T.next).ids ↔ j ∈ T.ids ∨ j = T.next := by
    intro j; show j ∈ T.ids ++ [T.next] ↔ _; simp
  have hkid : ∀ c ∈ T.ids, ∀ z, kidT (bindT (addT T n) d x T.next) c z = if c = d ∧ z = x then T.next else kidT T c z := by
    intro c hc z
    rw [kid_bind]
    split
    · rfl
    · unfold kidT; rw [addT_old n h.good hc]
  have hnk : ∀ z, kidT (bindT (addT T n) d x T.next) T.next z = 0 := by
    intro z
    rw [kid_bind, if_neg (fun e => hnd e.1)]
    unfold kidT
    rw [addT_node, if_pos rfl, hn]; rfl
  have hw := walk_update h.good hl hd0 hdd hkid (fun _ => hnk) (fun e => absurd h0 e)
  have hnode : ∀ j, j ≠ T.next → ((bindT (addT T n) d x T.next).node j).dir = (T.node j).dir ∧ ((bindT (addT T n) d x T.next).node j).links = (T.node j).links ∧ ((bindT (addT T n) d x T.next).node j).data = (T.node j).data := by
    intro j hj
    rw [bindT_dir, bindT_links, bindT_data, addT_node, if_neg hj]
    exact ⟨rfl, rfl, rfl⟩
  have hnew : ((bindT (addT T n) d x T.next).node T.next).dir = n.dir ∧ ((bindT (addT T n) d x T.next).node T.next).links = n.links ∧ ((bindT (addT T n) d x T.next).node T.next).data = n.data := by
    rw [bindT_dir, bindT_links, bindT_data, addT_node, if_pos rfl]
    exact ⟨rfl, rfl, rfl⟩
  have hwm : ∀ l', walkT T 1 l' ≠ 0 → walkT T 1 l' ≠ T.next := fun l' hl' => hold _ (h.good.walk_mem l' 1 h.good.root hl')
  have hwlx : walkT T 1 (l ++ [x]) = 0 := by rw [walk_snoc T x l 1 GoodT.one_ne, hl, if_neg hd0]; exact h0
  have hcn : countM m T.next = 0 := h.count_zero fun l' e => by
    by_cases h2 : walkT T 1 l' = 0
    · rw [← e]; exact h2
    · exact absurd e (hwm l' h2)
  refine ⟨hg, ?_, by show m.next + 1 = T.next + 1; rw [h.next], h.quota, ?_, fun f => ?_, fun i hi hf => ?_, fun i hi hd => ?_⟩
  · have h2 := (h.flat.congr (W' := walkT T 1) (D' := fun i => ((bindT (addT T n) d x T.next).node i).dir) (fun _ => rfl) (fun l' hl' => (hnode _ (hwm l' hl')).1)).more hp hwlx hn0
    simp only [hnew.1] at h2
    rw [h.next]
    exact h2.congr hw (fun _ _ => rfl)
  · show ((if n.dir = true then m.files else m.files ++ [⟨m.next, n.data⟩]).map FilD.id).Nodup
    split
    · exact h.fnd
    · rw [List.map_append, List.nodup_append]
      refine ⟨h.fnd, by simp, fun a ha b hb e => ?_⟩
      obtain ⟨f, hf, rfl⟩ := List.mem_map.1 ha
      simp only [List.map_cons, List.map_nil, List.mem_singleton] at hb
      exact hold _ ((h.fil f).1 hf).1 (by rw [e, hb, h.next])
  · rw [hmem]
    show f ∈ (if n.dir = true then m.files else m.files ++ [⟨m.next, n.data⟩]) ↔ _
    by_cases hfn : f.id = T.next
    · have hno : f ∉ m.files := fun hf => hold _ ((h.fil f).1 hf).1 hfn
      rw [hfn, hnew.1, hnew.2.2]
      split
      · rename_i hd
        rw [hd]
        exact ⟨fun hf => absurd hf hno, fun e => by cases e.2.1⟩
      · rename_i hd
        rw [List.mem_append, List.mem_singleton, h.next]
        constructor
        · rintro (hf | rfl)
          · exact absurd hf hno
          · exact ⟨Or.inr rfl, by simpa using hd, rfl⟩
        · rintro ⟨_, _, h3⟩
          right
          cases f
          cases hfn
          cases h3
          rfl
    · have hn2 := hnode f.id hfn
      rw [hn2.1, hn2.2.2]
      have e : (f ∈ (if n.dir = true then m.files else m.files ++ [⟨m.next, n.data⟩])) ↔ f ∈ m.files := by
        split
        · exact Iff.rfl
        · rw [List.mem_append, List.mem_singleton]
          constructor
          · rintro (hf | rfl)
            · exact hf
            · exact absurd h.next hfn
          · exact Or.inl
      rw [e, h.fil]
      constructor
      · rintro ⟨h2, h3⟩; exact ⟨Or.inl h2, h3⟩
      · rintro ⟨h2 | h2, h3⟩
        · exact ⟨h2, h3⟩
        · exact absurd h2 hfn
  · have hc : countM ⟨m.list ++ [⟨p, m.next, n.dir⟩], if n.dir = true then m.files else m.files ++ [⟨m.next, n.data⟩], m.next + 1, m.quota⟩ i = countM m i + if i = T.next then 1 else 0 := by
      unfold countM
      rw [List.countP_append, List.countP_cons, List.countP_nil, h.next]
      simp only [decide_eq_true_eq, Nat.zero_add]
      by_cases e : i = T.next
      · rw [if_pos e, if_pos e.symm]
      · rw [if_neg e, if_neg (fun e1 => e e1.symm)]
    rw [hc]
    by_cases e : i = T.next
    · rw [if_pos e, e, hnew.2.1, hcn, hl1]; rfl
    · rw [if_neg e, (hnode i e).2.1]
      rw [(hnode i e).1] at hf
      exact h.links i (((hmem i).1 hi).resolve_right e) hf
  · by_cases e : i = T.next
    · rw [e, hnew.1] at hd
      rw [e, hnew.2.1, hnew.2.2]
      exact ⟨hl1, hdir hd, l ++ [x], by rw [hw, if_pos rfl]⟩
    · rw [(hnode i e).1] at hd
      rw [(hnode i e).2.1, (hnode i e).2.2]
      obtain ⟨h2, h3, l', h4⟩ := h.dirs i (((hmem i).1 hi).resolve_right e) hd
      refine ⟨h2, h3, l', ?_⟩
      rw [hw, if_neg, h4]
      intro e2
      rw [e2, hwlx] at h4
      rw [← h4] at hi
      have := hg.low 0 hi
      omega
end
end Go.Proofs.YtlpjmkkinlcbnaaGreatDoor
namespace Go.Proofs.YtlpjmkkinlcbnaaGreatDoor
section
variable {T : TreeD} {m : RefD}
theorem count_lessM {p : By} {e : EntD} (h : entM m p = some e) (i : Int) : countM (lessM m p) i + (if e.id = i then 1 else 0) = countM m i := by
  have := count_less (L := m.list) h fun e => decide (e.id = i)
  simpa [countM, lessM] using this
theorem count_moreM (e : EntD) (i : Int) : countM (moreM m e) i = countM m i + (if e.id = i then 1 else 0) := by
  simp [countM, moreM, List.countP_append, List.countP_cons]
/-- A file's name less. -/
theorem Like.unlink (h : Like T m) {p : By} {l : List By} {x : By} {d : Int} (hp : pathL p = some (l ++ [x])) (hl : walkT T 1 l = d) (hd0 : d ≠ 0) (hdd : (T.node d).dir = true) (hdm : d ∈ T.ids) (h0 : kidT T d x ≠ 0) (hf : (T.node (kidT T d x)).dir = false) :
    Like (linkT (cutT T d x) (kidT T d x) (-1)) (lessM m p) ∧ ∀ l', walkT (linkT (cutT T d x) (kidT T d x) (-1)) 1 l' = if l' = l ++ [x] then 0 else walkT T 1 l' := by
  have hkm := h.good.kid_mem hdm h0
  have hleaf : kidT T d x ≠ 0 → ∀ z, kidT T (kidT T d x) z = 0 := fun _ z => h.good.file_kid hkm.1 hf z
  have hw : ∀ l', walkT (linkT (cutT T d x) (kidT T d x) (-1)) 1 l' = if l' = l ++ [x] then 0 else walkT T 1 l' :=
    walk_update h.good hl hd0 hdd (fun c _ z => by rw [kid_link, kid_cut]) (fun hv => absurd rfl hv) hleaf
  have hlx : walkT T 1 (l ++ [x]) = kidT T d x := by rw [walk_snoc T x l 1 GoodT.one_ne, hl, if_neg hd0]
  have he := h.ent_some hp (by rw [hlx]; exact h0)
  rw [hlx] at he
  have hdir : ∀ j, ((linkT (cutT T d x) (kidT T d x) (-1)).node j).dir = (T.node j).dir := fun j => by rw [linkT_dir, cutT_dir]
  have hdat : ∀ j, ((linkT (cutT T d x) (kidT T d x) (-1)).node j).data = (T.node j).data := fun j => by rw [linkT_data, cutT_data]
  have hlnk : ∀ j, ((linkT (cutT T d x) (kidT T d x) (-1)).node j).links = (T.node j).links + if j = kidT T d x then -1 else 0 := fun j => by rw [linkT_links, cutT_links]
  refine ⟨⟨(h.good.cut hdd x).link (-1) hkm.1 (by rw [cutT_dir]; exact hf), ?_, h.next, h.quota, h.fnd, fun f => ?_, fun i hi hfi => ?_, fun i hi hdi => ?_⟩, hw⟩
  · exact (h.flat.less hp).congr hw (fun _ _ => hdir _)
  · rw [hdir, hdat]; exact h.fil f
  · rw [hdir] at hfi
    have hi : i ∈ T.ids := hi
    rw [hlnk, h.links i hi hfi, ← count_lessM he i]
    by_cases e : i = kidT T d x
    · rw [if_pos e, if_pos e.symm]; omega
    · rw [if_neg e, if_neg (fun e1 => e e1.symm)]; omega
  · rw [hdir] at hdi
    have hi : i ∈ T.ids := hi
    obtain ⟨h2, h3, l', h4⟩ := h.dirs i hi hdi
    have hne : i ≠ kidT T d x := fun e => by rw [e, hf] at hdi; cases hdi
    rw [hlnk, hdat, if_neg hne]
    refine ⟨by omega, h3, l', ?_⟩
    rw [hw, if_neg, h4]
    intro e
    rw [e, hlx] at h4
    exact hne h4.symm
/-- A file's name more. -/
theorem Like.link (h : Like T m) {p : By} {l : List By} {x : By} {d i : Int} (hp : pathL p = some (l ++ [x])) (hl : walkT T 1 l = d) (hd0 : d ≠ 0) (hdd : (T.node d).dir = true) (_hdm : d ∈ T.ids) (h0 : kidT T d x = 0) (him : i ∈ T.ids) (hf : (T.node i).dir = false) :
    Like (bindT (linkT T i 1) d x i) (moreM m ⟨p, i, false⟩) := by
  have hlow := h.good.low i him
  have hi0 : i ≠ 0 := by omega
  have hlx : walkT T 1 (l ++ [x]) = 0 := by rw [walk_snoc T x l 1 GoodT.one_ne, hl, if_neg hd0]; exact h0
  have hw : ∀ l', walkT (bindT (linkT T i 1) d x i) 1 l' = if l' = l ++ [x] then i else walkT T 1 l' :=
    walk_update h.good hl hd0 hdd (fun c _ z => by rw [kid_bind, kid_link]) (fun _ z => by
      rw [kid_bind, kid_link, if_neg (fun e => by rw [← e.1, hf] at hdd; cases hdd)]
      exact h.good.file_kid him hf z) (fun e => absurd h0 e)
  have hdir : ∀ j, ((bindT (linkT T i 1) d x i).node j).dir = (T.node j).dir := fun j => by rw [bindT_dir, linkT_dir]
  have hdat : ∀ j, ((bindT (linkT T i 1) d x i).node j).data = (T.node j).data := fun j => by rw [bindT_data, linkT_data]
  have hlnk : ∀ j, ((bindT (linkT T i 1) d x i).node j).links = (T.node j).links + if j = i then 1 else 0 := fun j => by rw [bindT_links, linkT_links]
  refine ⟨bindF_good (h.good.link 1 him hf) (by rw [linkT_dir]; exact hdd) him (by rw [linkT_dir]; exact hf), ?_, h.next, h.quota, h.fnd, fun f => ?_, fun j hj hfj => ?_, fun j hj hdj => ?_⟩
  · have h2 := h.flat.more hp hlx hi0
    rw [hf] at h2
    exact h2.congr hw (fun _ _ => hdir _)
  · rw [hdir, hdat]; exact h.fil f
  · rw [hdir] at hfj
    have hj : j ∈ T.ids := hj
    rw [hlnk, h.links j hj hfj, count_moreM]
    by_cases e : j = i
    · rw [if_pos e, if_pos e.symm]; omega
    · rw [if_neg e, if_neg (fun e1 => e e1.symm)]; omega
  · rw [hdir] at hdj
    have hj : j ∈ T.ids := hj
    obtain ⟨h2, h3, l', h4⟩ := h.dirs j hj hdj
    have hne : j ≠ i := fun e => by rw [e, hf] at hdj; cases hdj
    rw [hlnk, hdat, if_neg hne]
    refine ⟨by omega, h3, l', ?_⟩
    have hj0 := h.good.low j hj
    rw [hw, if_neg, h4]
    intro e
    rw [e, hlx] at h4
    omega
/-- A file's bytes. -/
theorem Like.write (h : Like T m) {i : Int} (him : i ∈ T.ids) (hf : (T.node i).dir = false) (b : By) :
    Like (setT T i ⟨false, (T.node i).links, b, noK⟩) { m with files := m.files.map (wroteF i b) } := by
  have hdir : ∀ j, ((setT T i ⟨false, (T.node i).links, b, noK⟩).node j).dir = (T.node j).dir := fun j => by
    rw [setT_node]; split
    · rename_i e; rw [e, hf]
    · rfl
  have hlnk : ∀ j, ((setT T i ⟨false, (T.node i).links, b, noK⟩).node j).links = (T.node j).links := fun j => by
    rw [setT_node]; split
    · rename_i e; rw [e]
    · rfl
  have hdat : ∀ j, ((setT T i ⟨false, (T.node i).links, b, noK⟩).node j).data = if j = i then b else (T.node j).data := fun j => by
    rw [setT_node]; split <;> rfl
  have hw := walk_same (T' := setT T i ⟨false, (T.node i).links, b, noK⟩) h.good (fun c hc z => by
    rw [kid_set]; split
    · rename_i e; rw [e, h.good.file_kid him hf]; rfl
    · rfl)
  have hids : (m.files.map (wroteF i b)).map FilD.id = m.files.map FilD.id := by
    rw [List.map_map]
    refine List.map_congr_left fun f _ => ?_
    simp only [Function.comp, wroteF]
    split
    · rename_i e; exact e.symm
    · rfl
  refine ⟨h.good.setF _ rfl hf rfl, h.flat.congr hw (fun _ _ => hdir _), h.next, h.quota, by rw [hids]; exact h.fnd, fun f => ?_, fun j hj hfj => ?_, fun j hj hdj => ?_⟩
  · rw [hdir, hdat]
    show f ∈ m.files.map (wroteF i b) ↔ f.id ∈ T.ids ∧ _
    rw [List.mem_map]
    constructor
    · rintro ⟨g, hg, rfl⟩
      have h2 := (h.fil g).1 hg
      unfold wroteF
      split
      · rename_i e; rw [if_pos rfl]; exact ⟨him, hf, rfl⟩
      · exact h2
    · rintro ⟨h2, h3, h4⟩
      split at h4
      · rename_i e
        refine ⟨⟨i, (T.node i).data⟩, (h.fil _).2 ⟨him, hf, rfl⟩, ?_⟩
        unfold wroteF
        rw [if_pos rfl]
        cases f; cases e; cases h4; rfl
      · rename_i e
        exact ⟨f, (h.fil f).2 ⟨h2, h3, h4⟩, by unfold wroteF; rw [if_neg e]⟩
  · rw [hdir] at hfj
    rw [hlnk]; exact h.links j hj hfj
  · rw [hdir] at hdj
    obtain ⟨h2, h3, l', h4⟩ := h.dirs j hj hdj
    rw [hlnk, hdat, if_neg (fun e => by rw [e, hf] at hdj; cases hdj)]
    exact ⟨h2, h3, l', by rw [hw, h4]⟩
/-- A directory less. -/
theorem Like.rmdir (h : Like T m) {p : By} {l : List By} {x : By} {d : Int} (hp : pathL p = some (l ++ [x])) (hl : walkT T 1 l = d) (hd0 : d ≠ 0) (hdd : (T.node d).dir = true) (hdm : d ∈ T.ids) (h0 : kidT T d x ≠ 0) (hf : (T.node (kidT T d x)).dir = true) (he : emptyK (T.node (kidT T d x)).kids) :
    Like (delT (cutT T d x) (kidT T d x)) (lessM m p) := by
  have hkm := h.good.kid_mem hdm h0
  have hleaf : kidT T d x ≠ 0 → ∀ z, kidT T (kidT T d x) z = 0 := fun _ z => by
    show ((T.node (kidT T d x)).kids z).getD 0 = 0
    rw [he z]; rfl
  have hw : ∀ l', walkT (delT (cutT T d x) (kidT T d x)) 1 l' = if l' = l ++ [x] then 0 else walkT T 1 l' :=
    walk_update h.good hl hd0 hdd (fun c _ z => kid_cut d x c z) (fun hv => absurd rfl hv) hleaf
  have hlx : walkT T 1 (l ++ [x]) = kidT T d x := by rw [walk_snoc T x l 1 GoodT.one_ne, hl, if_neg hd0]
  have hen := h.ent_some hp (by rw [hlx]; exact h0)
  rw [hlx] at hen
  have hmem : ∀ j, j ∈ (delT (cutT T d x) (kidT T d x)).ids ↔ j ∈ T.ids ∧ j ≠ kidT T d x := by
    intro j; show j ∈ T.ids.filter _ ↔ _; simp
  have hdir : ∀ j, ((delT (cutT T d x) (kidT T d x)).node j).dir = (T.node j).dir := fun j => cutT_dir d x j
  have hdat : ∀ j, ((delT (cutT T d x) (kidT T d x)).node j).data = (T.node j).data := fun j => cutT_data d x j
  have hlnk : ∀ j, ((delT (cutT T d x) (kidT T d x)).node j).links = (T.node j).links := fun j => cutT_links d x j
  refine ⟨(h.good.cut hdd x).del hkm.2.2 (cutT_kid h.good hdm hkm.2.1 hf), (h.flat.less hp).congr hw (fun _ _ => hdir _), h.next, h.quota, h.fnd, fun f => ?_, fun i hi hfi => ?_, fun i hi hdi => ?_⟩
  · rw [hdir, hdat, hmem]
    show f ∈ m.files ↔ _
    rw [h.fil]
    constructor
    · rintro ⟨h2, h3, h4⟩; exact ⟨⟨h2, fun e => by rw [e, hf] at h3; cases h3⟩, h3, h4⟩
    · rintro ⟨⟨h2, _⟩, h3⟩; exact ⟨h2, h3⟩
  · rw [hdir] at hfi
    have hi := (hmem i).1 hi
    rw [hlnk, h.links i hi.1 hfi, ← count_lessM hen i, if_neg (fun e1 => hi.2 e1.symm)]; rfl
  · rw [hdir] at hdi
    have hi := (hmem i).1 hi
    obtain ⟨h2, h3, l', h4⟩ := h.dirs i hi.1 hdi
    rw [hlnk, hdat]
    refine ⟨h2, h3, l', ?_⟩
    rw [hw, if_neg, h4]
    intro e
    rw [e, hlx] at h4
    exact hi.2 h4.symm
/-- A file that stands nowhere is taken away. -/
theorem Like.reap (h : Like T m) (i : Int) : Like (if i ∈ T.ids ∧ (T.node i).links = 0 then delT T i else T) (reapM m i) := by
  by_cases hc : 0 < countM m i
  · have hr : reapM m i = m := if_pos hc
    rw [hr]
    split
    · rename_i hi
      cases hd : (T.node i).dir with
      | false => have := h.links i hi.1 hd; omega
      | true => have := (h.dirs i hi.1 hd).1; omega
    · exact h
  · have hc0 : countM m i = 0 := by omega
    have hr : reapM m i = { m with files := m.files.filter fun f => !decide (f.id = i) } := if_neg hc
    rw [hr]
    have hfil : ∀ f, f ∈ (m.files.filter fun f => !decide (f.id = i)) ↔ f ∈ m.files ∧ f.id ≠ i := by intro f; simp
    by_cases hi : i ∈ T.ids ∧ (T.node i).links = 0
    · rw [if_pos hi]
      have hd : (T.node i).dir = false := by
        cases hd : (T.node i).dir with
        | false => rfl
        | true => have := (h.dirs i hi.1 hd).1; omega
      have hno : ∀ l, walkT T 1 l ≠ i := by
        intro l e
        have h1 := h.good.low i hi.1
        have := h.count_pos (l := l) (by omega)
        rw [e, hc0] at this
        omega
      have hmem : ∀ j, j ∈ (delT T i).ids ↔ j ∈ T.ids ∧ j ≠ i := by intro j; simp [delT]
      have hkids : ∀ j ∈ T.ids, ∀ y, (T.node j).kids y ≠ some i := by
        intro j hj y e
        have hjd : (T.node j).dir = true := by
          cases hjd : (T.node j).dir with
          | true => rfl
          | false => rw [h.good.file j hj hjd] at e; cases e
        obtain ⟨_, _, l, hl⟩ := h.dirs j hj hjd
        have hj0 := h.good.low j hj
        refine hno (l ++ [y]) ?_
        rw [walk_snoc T y l 1 GoodT.one_ne, hl, if_neg (by omega)]
        unfold kidT; rw [e]; rfl
      have h1 : i ≠ 1 := fun e => by rw [e, h.good.rdir] at hd; cases hd
      refine ⟨h.good.del h1 hkids, h.flat.congr (walk_same h.good fun _ _ _ => rfl) (fun _ _ => rfl), h.next, h.quota, ?_, fun f => ?_, fun j hj hf => ?_, fun j hj hdj => ?_⟩
      · exact h.fnd.sublist (List.filter_sublist.map _)
      · rw [hmem, hfil, h.fil]
        constructor
        · rintro ⟨⟨h2, h3⟩, h4⟩; exact ⟨⟨h2, h4⟩, h3⟩
        · rintro ⟨⟨h2, h4⟩, h3⟩; exact ⟨⟨h2, h3⟩, h4⟩
      · exact h.links j ((hmem j).1 hj).1 hf
      · obtain ⟨h2, h3, l, h4⟩ := h.dirs j ((hmem j).1 hj).1 hdj
        exact ⟨h2, h3, l, by rw [walk_same (T' := delT T i) h.good fun _ _ _ => rfl]; exact h4⟩
    · rw [if_neg hi]
      have hno : ∀ f ∈ m.files, f.id ≠ i := by
        intro f hf e
        obtain ⟨h2, h3, _⟩ := (h.fil f).1 hf
        rw [e] at h2 h3
        exact hi ⟨h2, by rw [h.links i h2 h3, hc0]; rfl⟩
      have hid : (m.files.filter fun f => !decide (f.id = i)) = m.files := by
        rw [List.filter_eq_self]
        intro f hf
        simp [hno f hf]
      rw [hid]
      exact h
end
end Go.Proofs.YtlpjmkkinlcbnaaGreatDoor
namespace Go.Proofs.YtlpjmkkinlcbnaaGreatDoor
theorem TreeD.same {S T : TreeD} (h1 : S.ids = T.ids) (h2 : S.next = T.next) (h3 : S.quota = T.quota) (h4 : ∀ j, (S.node j).dir = (T.node j).dir) (h5 : ∀ j, (S.node j).links = (T.node j).links) (h6 : ∀ j, (S.node j).data = (T.node j).data) (h7 : ∀ j z, (S.node j).kids z = (T.node j).kids z) : S = T := by
  have h : S.node = T.node := by
    funext j
    have a := h4 j; have b := h5 j; have c := h6 j; have d := h7 j
    revert a b c d
    cases S.node j; cases T.node j
    intro a b c d
    cases a; cases b; cases c
    have d := funext d
    cases d
    rfl
  cases S; cases T
  cases h1; cases h2; cases h3; cases h
  rfl
section
variable {T : TreeD} {m : RefD}
theorem kids_set (i : Int) (n : NodeD) (c : Int) (z : By) : ((setT T i n).node c).kids z = if c = i then n.kids z else (T.node c).kids z := by
  rw [setT_node]; split <;> rfl
theorem kids_bind (d : Int) (x : By) (i c : Int) (z : By) : ((bindT T d x i).node c).kids z = if c = d ∧ z = x then some i else (T.node c).kids z := by
  unfold bindT; rw [kids_set]
  by_cases hc : c = d
  · rw [if_pos hc]
    simp only [withK]
    by_cases hz : z = x
    · rw [if_pos hz, if_pos ⟨hc, hz⟩]
    · rw [if_neg hz, if_neg (fun e => hz e.2), hc]
  · rw [if_neg hc, if_neg (fun e => hc e.1)]
theorem kids_cut (d : Int) (x : By) (c : Int) (z : By) : ((cutT T d x).node c).kids z = if c = d ∧ z = x then none else (T.node c).kids z := by
  unfold cutT; rw [kids_set]
  by_cases hc : c = d
  · rw [if_pos hc]
    simp only [lessK]
    by_cases hz : z = x
    · rw [if_pos hz, if_pos ⟨hc, hz⟩]
    · rw [if_neg hz, if_neg (fun e => hz e.2), hc]
  · rw [if_neg hc, if_neg (fun e => hc e.1)]
theorem kids_link (i k c : Int) (z : By) : ((linkT T i k).node c).kids z = (T.node c).kids z := by
  unfold linkT; rw [kids_set]; split
  · rename_i e; rw [e]
  · rfl
theorem ren_free (d : Int) (x : By) (d2 : Int) (y : By) (i : Int) : bindT (cutT T d x) d2 y i = bindT (linkT (linkT (cutT T d x) i (-1)) i 1) d2 y i := by
  refine TreeD.same rfl rfl rfl (fun j => ?_) (fun j => ?_) (fun j => ?_) (fun j z => ?_)
  · rw [bindT_dir, bindT_dir, linkT_dir, linkT_dir]
  · rw [bindT_links, bindT_links, linkT_links, linkT_links]
    split <;> omega
  · rw [bindT_data, bindT_data, linkT_data, linkT_data]
  · rw [kids_bind, kids_bind, kids_link, kids_link]
theorem ren_over (d : Int) (x : By) (d2 : Int) (y : By) (i j : Int) : bindT (cutT (linkT T j (-1)) d x) d2 y i = bindT (cutT (linkT (cutT T d2 y) j (-1)) d x) d2 y i := by
  refine TreeD.same rfl rfl rfl (fun j => ?_) (fun j => ?_) (fun j => ?_) (fun j z => ?_)
  · rw [bindT_dir, bindT_dir, cutT_dir, cutT_dir, linkT_dir, linkT_dir, cutT_dir]
  · rw [bindT_links, bindT_links, cutT_links, cutT_links, linkT_links, linkT_links, cutT_links]
  · rw [bindT_data, bindT_data, cutT_data, cutT_data, linkT_data, linkT_data, cutT_data]
  · rw [kids_bind, kids_bind, kids_cut, kids_cut, kids_link, kids_link, kids_cut]
    by_cases h1 : j = d2 ∧ z = y
    · rw [if_pos h1, if_pos h1]
    · rw [if_neg h1, if_neg h1, if_neg h1]
/-! ### What stands below -/
theorem names_below {s q r : By} {lp l' : List By} (hs : pathL s = some l') (hne : s ≠ [47]) (hq : q = glue 47 lp) (hlp : ∀ p ∈ lp, (47 : UInt8) ∉ p) (he : s = q ++ 47 :: r) : l' = lp ++ splitOn 47 r := by
  obtain ⟨_, _, _, h4⟩ := pathL_facts hs
  rcases h4 with ⟨h5, _⟩ | ⟨_, _, _, h5⟩
  · exact absurd h5 hne
  · have hr : 47 :: r = glue 47 (splitOn 47 r) := (glue_splitOn 47 r).symm
    rw [h5, he, hq]
    cases lp with
    | nil => rfl
    | cons a lp =>
      rw [hr, glue_cons]
      show splitOn 47 (a ++ glue 47 lp ++ glue 47 (splitOn 47 r)) = _
      rw [List.append_assoc, ← glue_append, splitOn_glue 47 a _ (hlp a List.mem_cons_self)]
      · rfl
      · intro p hp
        rcases List.mem_append.1 hp with hp | hp
        · exact hlp p (List.mem_cons_of_mem _ hp)
        · exact splitOn_mem 47 r p hp
theorem path_no47 {p : By} {l : List By} (hp : pathL p = some l) : ∀ q ∈ l, (47 : UInt8) ∉ q := fun q hq => nameL_no47 (List.all_eq_true.1 (pathL_facts hp).2.1 q hq)
theorem path_glue {p : By} {l : List By} (hp : pathL p = some l) (hl : l ≠ []) : p = glue 47 l := by
  rcases (pathL_facts hp).2.2.2 with ⟨_, h2⟩ | ⟨_, _, h2, _⟩
  · exact absurd h2 hl
  · exact h2.symm
theorem stem_glue {p : By} {l : List By} (hp : pathL p = some l) : stemM p = glue 47 l := by
  unfold stemM
  rcases (pathL_facts hp).2.2.2 with ⟨h1, h2⟩ | ⟨h1, _, h2, _⟩
  · rw [if_pos h1, h2]; rfl
  · rw [if_neg h1, h2]
theorem take_split {s q : By} (h : s.take (q.length + 1) = q ++ [47]) : s = q ++ 47 :: s.drop (q.length + 1) := by
  conv => lhs; rw [← List.take_append_drop (q.length + 1) s, h]
  simp
theorem Like.busy (h : Like T m) {p : By} {l : List By} {x : By} {k : Int} (hp : pathL p = some (l ++ [x])) (hk : walkT T 1 (l ++ [x]) = k) (hk0 : k ≠ 0) (hkm : k ∈ T.ids) :
    m.list.any (fun e => belowP p e.path) = true ↔ ¬ emptyK (T.node k).kids := by
  have hg := path_glue hp (by simp)
  rw [List.any_eq_true]
  constructor
  · rintro ⟨e, he, hb⟩ hem
    unfold belowP at hb
    rw [decide_eq_true_eq] at hb
    obtain ⟨l', h1, h2⟩ := (h.flat.ent e).1 he
    have hs := take_split hb.2
    have hne : e.path ≠ [47] := by
      intro e1
      rw [e1] at hb
      have := hb.1
      have hp1 := congrArg List.length hg
      cases p with
      | nil =>
        have : pathL [] = none := by decide +kernel
        rw [this] at hp; cases hp
      | cons a r => simp at this
    have hd := h.flat.deep l' h1
    have hep : e.path = joinP l' := by rw [h2]
    rw [← hep] at hd
    have hn := names_below hd hne hg (path_no47 hp) hs
    cases hsp : splitOn 47 (e.path.drop (p.length + 1)) with
    | nil => exact splitOn_ne _ _ hsp
    | cons z rest =>
      rw [hsp] at hn
      have hw0 : walkT T 1 (l ++ [x] ++ [z]) = 0 := by
        rw [walk_snoc T z _ 1 GoodT.one_ne, hk, if_neg hk0]
        show ((T.node k).kids z).getD 0 = 0
        rw [hem z]; rfl
      have hpre : ∀ r, walkT T 1 (l ++ [x] ++ z :: r) = 0 := by
        refine snoc_ind hw0 ?_
        intro r y ih
        have e2 : l ++ [x] ++ z :: (r ++ [y]) = (l ++ [x] ++ z :: r) ++ [y] := by simp
        rw [e2, walk_snoc T y _ 1 GoodT.one_ne, if_pos ih]
      rw [hn] at h1
      exact h1 (hpre rest)
  · intro hem
    have : ∃ z, (T.node k).kids z ≠ none := by
      refine Classical.byContradiction fun hc => hem fun z => ?_
      refine Classical.byContradiction fun hz => hc ⟨z, hz⟩
    obtain ⟨z, hz⟩ := this
    cases hkz : (T.node k).kids z with
    | none => exact absurd hkz hz
    | some c =>
      have hcm := h.good.kid k hkm z c hkz
      have hc0 := h.good.low c hcm.1
      have hw : walkT T 1 (l ++ [x] ++ [z]) = c := by
        rw [walk_snoc T z _ 1 GoodT.one_ne, hk, if_neg hk0]
        show ((T.node k).kids z).getD 0 = c
        rw [hkz]; rfl
      have hd := h.flat.deep (l ++ [x] ++ [z]) (by omega)
      refine ⟨⟨joinP (l ++ [x] ++ [z]), walkT T 1 (l ++ [x] ++ [z]), (T.node (walkT T 1 (l ++ [x] ++ [z]))).dir⟩, (h.flat.ent _).2 ⟨_, by omega, rfl⟩, ?_⟩
      unfold belowP
      rw [decide_eq_true_eq]
      have hj : joinP (l ++ [x] ++ [z]) = p ++ 47 :: z := by
        have e1 := path_glue hd (by simp)
        rw [e1, glue_append, ← hg]
        simp [glue]
      show p.length < (joinP (l ++ [x] ++ [z])).length ∧ (joinP (l ++ [x] ++ [z])).take (p.length + 1) = p ++ [47]
      rw [hj]
      refine ⟨by simp, ?_⟩
      rw [List.take_append, List.take_of_length_le (by omega)]
      have : p.length + 1 - p.length = 1 := by omega
      rw [this]
      rfl
/-! ### An operation -/
theorem Like.find_kid (h : Like T m) {p : By} {l : List By} {x : By} {d : Int} (hp : pathL p = some (l ++ [x])) (hlx : walkT T 1 (l ++ [x]) = kidT T d x) : entM m p = if kidT T d x = 0 then none else some ⟨p, kidT T d x, (T.node (kidT T d x)).dir⟩ := by
  rw [h.ent_find p, find_at hp, hlx]
theorem Like.fileS (h : Like T m) (o : OpD) {l : List By} {x : By} {d : Int} (h1 : placeM m o.path = 0) (hlen : ¬ 3500 < o.data.length) (hk3 : 3 ≤ o.kind) (hk6 : o.kind ≤ 6) (hpl : pathL o.path = some (l ++ [x])) (hl : walkT T 1 l = d) (hd0 : d ≠ 0) (hdd : (T.node d).dir = true) (hdm : d ∈ T.ids) (hlx : walkT T 1 (l ++ [x]) = kidT T d x)
    (hk : kidT T d x ≠ 0) (hf : (T.node (kidT T d x)).dir = false) : (stepM m o).2 = (fileT T o d x (kidT T d x)).2 ∧ Like (fileT T o d x (kidT T d x)).1 (stepM m o).1 := by
  have hent := h.find_kid hpl hlx
  rw [if_neg hk, hf] at hent
  have hkm := h.good.kid_mem hdm hk
  have c1 : ¬ (o.kind < 0 ∨ 6 < o.kind) := by omega
  have c2 : ¬ placeM m o.path ≠ 0 := by omega
  have c3 : ¬ (o.kind = 0 ∨ o.kind = 2) := by omega
  have c4 : ¬ o.kind = 1 := by omega
  have eM := show stepM m o = _ by
    simp only [stepM, if_neg c1, if_neg c2, if_neg hlen, if_neg c3, hent, if_neg c4]
    rfl
  have c5 : ¬ (false = true) := by simp
  rw [if_neg c5] at eM
  by_cases k3 : o.kind = 3
  · rw [if_pos k3] at eM
    have eT : fileT T o d x (kidT T d x) = (setT T (kidT T d x) ⟨false, (T.node (kidT T d x)).links, o.data, noK⟩, 0) := by unfold fileT; rw [if_pos k3]
    rw [eM, eT]
    exact ⟨rfl, h.write hkm.1 hf o.data⟩
  rw [if_neg k3] at eM
  by_cases k6 : o.kind = 6
  · rw [if_pos k6] at eM
    have eT : fileT T o d x (kidT T d x) = (linkT (cutT T d x) (kidT T d x) (-1), 0) := by unfold fileT; rw [if_neg k3, if_pos k6]
    rw [eM, eT]
    exact ⟨rfl, (h.unlink hpl hl hd0 hdd hdm hk hf).1⟩
  rw [if_neg k6] at eM
  cases hp2 : placeT T o.dest with
  | bad e =>
    obtain ⟨p1, p2⟩ := h.place_bad hp2
    have eT : fileT T o d x (kidT T d x) = (T, e) := by unfold fileT; rw [if_neg k3, if_neg k6, hp2]
    rw [if_pos (by rw [p1]; exact p2), p1] at eM
    rw [eM, eT]
    exact ⟨rfl, h⟩
  | «at» d2 y =>
    obtain ⟨p1, l2, hpl2, hl2, hd20, hdd2, hdm2, hlx2⟩ := h.place_at hp2
    rw [if_neg (by omega)] at eM
    have hent2 := h.find_kid hpl2 hlx2
    by_cases hj : kidT T d2 y = 0
    · rw [if_pos hj] at hent2
      rw [hent2] at eM
      have d1 : ¬ (o.kind = 4 ∧ kidT T d2 y ≠ 0) := fun e => e.2 hj
      have d2' : ¬ (kidT T d2 y ≠ 0 ∧ (T.node (kidT T d2 y)).dir = true) := fun e => e.1 hj
      have d3 : ¬ kidT T d2 y = kidT T d x := by rw [hj]; exact fun e => hk e.symm
      by_cases k4 : o.kind = 4
      · have eT : fileT T o d x (kidT T d x) = (bindT (linkT T (kidT T d x) 1) d2 y (kidT T d x), 0) := by
          unfold fileT; rw [if_neg k3, if_neg k6, hp2]
          simp only [if_neg d1, if_neg d2', if_neg d3, if_pos k4]
        simp only [if_pos k4] at eM
        rw [eM, eT]
        exact ⟨rfl, h.link hpl2 hl2 hd20 hdd2 hdm2 hj hkm.1 hf⟩
      · have eT : fileT T o d x (kidT T d x) = (bindT (cutT T d x) d2 y (kidT T d x), 0) := by
          unfold fileT; rw [if_neg k3, if_neg k6, hp2]
          simp only [if_neg d1, if_neg d2', if_neg d3, if_neg k4, if_neg (show ¬ kidT T d2 y ≠ 0 from fun e => e hj)]
        simp only [if_neg k4] at eM
        rw [eM, eT]
        refine ⟨rfl, ?_⟩
        obtain ⟨hL, hW⟩ := h.unlink hpl hl hd0 hdd hdm hk hf
        have hne : l2 ≠ l ++ [x] := fun e => by rw [e, hlx] at hl2; rw [hl2, hdd2] at hf; cases hf
        show Like (bindT (cutT T d x) d2 y (kidT T d x)) _
        rw [ren_free]
        refine hL.link hpl2 (by rw [hW, if_neg hne, hl2]) hd20 (by rw [linkT_dir, cutT_dir]; exact hdd2) hdm2 ?_ hkm.1 (by rw [linkT_dir, cutT_dir]; exact hf)
        rw [kid_link, kid_cut]
        split
        · rfl
        · exact hj
    · rw [if_neg hj] at hent2
      rw [hent2] at eM
      by_cases k4 : o.kind = 4
      · have eT : fileT T o d x (kidT T d x) = (T, 9) := by
          unfold fileT; rw [if_neg k3, if_neg k6, hp2]
          simp only [if_pos (And.intro k4 hj)]
        simp only [if_pos k4] at eM
        rw [eM, eT]
        exact ⟨rfl, h⟩
      have d1 : ¬ (o.kind = 4 ∧ kidT T d2 y ≠ 0) := fun e => k4 e.1
      simp only [if_neg k4] at eM
      cases hjd : (T.node (kidT T d2 y)).dir with
      | true =>
        have eT : fileT T o d x (kidT T d x) = (T, 10) := by
          unfold fileT; rw [if_neg k3, if_neg k6, hp2]
          simp only [if_neg d1, if_pos (And.intro hj hjd)]
        rw [hjd] at eM
        simp only [if_true] at eM
        rw [eM, eT]
        exact ⟨rfl, h⟩
      | false =>
        have d2' : ¬ (kidT T d2 y ≠ 0 ∧ (T.node (kidT T d2 y)).dir = true) := fun e => by rw [hjd] at e; cases e.2
        rw [hjd] at eM
        simp only [Bool.false_eq_true, if_false] at eM
        by_cases hji : kidT T d2 y = kidT T d x
        · have eT : fileT T o d x (kidT T d x) = (T, 0) := by
            unfold fileT; rw [if_neg k3, if_neg k6, hp2]
            simp only [if_neg d1, if_neg d2', if_pos hji]
          simp only [if_pos hji] at eM
          rw [eM, eT]
          exact ⟨rfl, h⟩
        · have eT : fileT T o d x (kidT T d x) = (bindT (cutT (linkT T (kidT T d2 y) (-1)) d x) d2 y (kidT T d x), 0) := by
            unfold fileT; rw [if_neg k3, if_neg k6, hp2]
            simp only [if_neg d1, if_neg d2', if_neg hji, if_neg k4, if_pos (show kidT T d2 y ≠ 0 from hj)]
          simp only [if_neg hji] at eM
          rw [eM, eT]
          refine ⟨rfl, ?_⟩
          obtain ⟨hL, hW⟩ := h.unlink hpl2 hl2 hd20 hdd2 hdm2 hj hjd
          have n1 : l ≠ l2 ++ [y] := fun e => by rw [e, hlx2] at hl; rw [hl, hdd] at hjd; cases hjd
          have n2 : l ++ [x] ≠ l2 ++ [y] := fun e => by rw [← hlx, ← hlx2, e] at hji; exact hji rfl
          have n3 : l2 ≠ l ++ [x] := fun e => by rw [e, hlx] at hl2; rw [hl2, hdd2] at hf; cases hf
          have n4 : l2 ≠ l2 ++ [y] := fun e => by have := congrArg List.length e; simp at this
          have hW1 : walkT (linkT (cutT T d2 y) (kidT T d2 y) (-1)) 1 l = d := by rw [hW, if_neg n1, hl]
          have hK1 : kidT (linkT (cutT T d2 y) (kidT T d2 y) (-1)) d x = kidT T d x := by
            have := hW (l ++ [x])
            rw [walk_snoc _ x l 1 GoodT.one_ne, hW1, if_neg hd0, if_neg n2, hlx] at this
            exact this
          obtain ⟨hL2, hW2⟩ := hL.unlink hpl hW1 hd0 (by rw [linkT_dir, cutT_dir]; exact hdd) hdm (by rw [hK1]; exact hk) (by rw [hK1, linkT_dir, cutT_dir]; exact hf)
          rw [hK1] at hL2 hW2
          show Like (bindT (cutT (linkT T (kidT T d2 y) (-1)) d x) d2 y (kidT T d x)) _
          rw [ren_over, ren_free]
          refine hL2.link hpl2 (by rw [hW2, if_neg n3, hW, if_neg n4, hl2]) hd20 (by rw [linkT_dir, cutT_dir, linkT_dir, cutT_dir]; exact hdd2) hdm2 ?_ hkm.1 (by rw [linkT_dir, cutT_dir, linkT_dir, cutT_dir]; exact hf)
          rw [kid_link, kid_cut, kid_link, kid_cut, if_pos (⟨rfl, rfl⟩ : d2 = d2 ∧ y = y)]
          split <;> rfl
theorem Like.step (h : Like T m) (o : OpD) : (stepM m o).2 = (stepT T o).2 ∧ Like (stepT T o).1 (stepM m o).1 := by
  by_cases c1 : o.kind < 0 ∨ 6 < o.kind
  · have eT : stepT T o = (T, 1) := by unfold stepT; rw [if_pos c1]
    have eM : stepM m o = (m, 1) := by unfold stepM; rw [if_pos c1]
    rw [eT, eM]; exact ⟨rfl, h⟩
  cases hp : placeT T o.path with
  | bad e =>
    obtain ⟨p1, p2⟩ := h.place_bad hp
    have eT : stepT T o = (T, e) := by unfold stepT; rw [if_neg c1, hp]
    have eM : stepM m o = (m, e) := by unfold stepM; rw [if_neg c1, if_pos (by rw [p1]; exact p2), p1]
    rw [eT, eM]; exact ⟨rfl, h⟩
  | «at» d x =>
    obtain ⟨p1, l, hpl, hl, hd0, hdd, hdm, hlx⟩ := h.place_at hp
    have c2 : ¬ placeM m o.path ≠ 0 := by omega
    have hent := h.find_kid hpl hlx
    by_cases c3 : 3500 < o.data.length
    · have eT : stepT T o = (T, 6) := by unfold stepT; rw [if_neg c1, hp]; simp only [if_pos c3]
      have eM : stepM m o = (m, 6) := by unfold stepM; rw [if_neg c1, if_neg c2, if_pos c3]
      rw [eT, eM]; exact ⟨rfl, h⟩
    by_cases c4 : o.kind = 0 ∨ o.kind = 2
    · by_cases hk : kidT T d x = 0
      · rw [if_pos hk] at hent
        have eT : stepT T o = (bindT (addT T (if o.kind = 0 then newN else fileN o.data)) d x T.next, 0) := by
          unfold stepT; rw [if_neg c1, hp]; simp only [if_neg c3, if_pos c4, if_neg (show ¬ kidT T d x ≠ 0 from fun e => e hk)]
        have eM : stepM m o = (⟨m.list ++ [⟨o.path, m.next, decide (o.kind = 0)⟩], if o.kind = 2 then m.files ++ [⟨m.next, o.data⟩] else m.files, m.next + 1, m.quota⟩, 0) := by
          unfold stepM; rw [if_neg c1, if_neg c2, if_neg c3, if_pos c4, hent]
        rw [eT, eM]
        refine ⟨rfl, ?_⟩
        rcases c4 with k | k
        · have := h.make hpl hl hd0 hdd hdm hk newN rfl rfl (fun _ => rfl)
          rw [k]
          exact this
        · have := h.make hpl hl hd0 hdd hdm hk (fileN o.data) rfl rfl (fun e => by cases e)
          rw [k]
          exact this
      · rw [if_neg hk] at hent
        have eT : stepT T o = (T, 9) := by unfold stepT; rw [if_neg c1, hp]; simp only [if_neg c3, if_pos c4, if_pos (show kidT T d x ≠ 0 from hk)]
        have eM : stepM m o = (m, 9) := by unfold stepM; rw [if_neg c1, if_neg c2, if_neg c3, if_pos c4, hent]
        rw [eT, eM]; exact ⟨rfl, h⟩
    by_cases hk : kidT T d x = 0
    · rw [if_pos hk] at hent
      have eT : stepT T o = (T, 8) := by unfold stepT; rw [if_neg c1, hp]; simp only [if_neg c3, if_neg c4, if_pos hk]
      have eM : stepM m o = (m, 8) := by unfold stepM; rw [if_neg c1, if_neg c2, if_neg c3, if_neg c4, hent]
      rw [eT, eM]; exact ⟨rfl, h⟩
    rw [if_neg hk] at hent
    have hkm := h.good.kid_mem hdm hk
    by_cases k1 : o.kind = 1
    · cases hd : (T.node (kidT T d x)).dir with
      | false =>
        rw [hd] at hent
        have eT : stepT T o = (T, 11) := by unfold stepT; rw [if_neg c1, hp]; simp only [if_neg c3, if_neg c4, if_neg hk, if_pos k1, if_pos hd]
        have eM : stepM m o = (m, 11) := by unfold stepM; rw [if_neg c1, if_neg c2, if_neg c3, if_neg c4, hent]; simp only [if_pos k1, if_true]
        rw [eT, eM]; exact ⟨rfl, h⟩
      | true =>
        rw [hd] at hent
        have hnd : ¬ (T.node (kidT T d x)).dir = false := by rw [hd]; simp
        have hbusy := h.busy hpl hlx hk hkm.1
        by_cases hem : emptyK (T.node (kidT T d x)).kids
        · have eT : stepT T o = (delT (cutT T d x) (kidT T d x), 0) := by unfold stepT; rw [if_neg c1, hp]; simp only [if_neg c3, if_neg c4, if_neg hk, if_pos k1, if_neg hnd, if_pos hem]
          have eM : stepM m o = (lessM m o.path, 0) := by
            unfold stepM; rw [if_neg c1, if_neg c2, if_neg c3, if_neg c4, hent]; simp only [if_pos k1, Bool.true_eq_false, if_false, if_neg (fun e => (hbusy.1 e) hem)]
          rw [eT, eM]; exact ⟨rfl, h.rmdir hpl hl hd0 hdd hdm hk hd hem⟩
        · have eT : stepT T o = (T, 12) := by unfold stepT; rw [if_neg c1, hp]; simp only [if_neg c3, if_neg c4, if_neg hk, if_pos k1, if_neg hnd, if_neg hem]
          have eM : stepM m o = (m, 12) := by
            unfold stepM; rw [if_neg c1, if_neg c2, if_neg c3, if_neg c4, hent]; simp only [if_pos k1, Bool.true_eq_false, if_false, if_pos (hbusy.2 hem)]
          rw [eT, eM]; exact ⟨rfl, h⟩
    cases hd : (T.node (kidT T d x)).dir with
    | true =>
      rw [hd] at hent
      have eT : stepT T o = (T, 10) := by unfold stepT; rw [if_neg c1, hp]; simp only [if_neg c3, if_neg c4, if_neg hk, if_neg k1, if_pos hd]
      have eM : stepM m o = (m, 10) := by unfold stepM; rw [if_neg c1, if_neg c2, if_neg c3, if_neg c4, hent]; simp only [if_neg k1, if_true]
      rw [eT, eM]; exact ⟨rfl, h⟩
    | false =>
      have eT : stepT T o = fileT T o d x (kidT T d x) := by unfold stepT; rw [if_neg c1, hp]; simp only [if_neg c3, if_neg c4, if_neg hk, if_neg k1, if_neg (show ¬ (T.node (kidT T d x)).dir = true by rw [hd]; simp)]
      rw [eT]
      exact h.fileS o p1 c3 (by omega) (by omega) hpl hl hd0 hdd hdm hlx hk hd
end
end Go.Proofs.YtlpjmkkinlcbnaaGreatDoor
namespace Go.Proofs.YtlpjmkkinlcbnaaGreatDoor
section
variable {T : TreeD} {m : RefD}
theorem Like.perm (h : Like T m) : T.ids.Perm (m.files.map FilD.id ++ (m.list.filter fun e => e.dir).map EntD.id) := by
  have hpw : m.list.Pairwise fun a b => a.path ≠ b.path := List.pairwise_map.1 h.flat.pnd
  have hB : ((m.list.filter fun e => e.dir).map EntD.id).Nodup := by
    refine List.pairwise_map.2 ((hpw.filter _).imp_of_mem ?_)
    intro a b ha hb hab e
    have ha := List.mem_filter.1 ha
    have hb := List.mem_filter.1 hb
    obtain ⟨l, h1, h2⟩ := (h.flat.ent a).1 ha.1
    obtain ⟨l', h3, h4⟩ := (h.flat.ent b).1 hb.1
    have ha2 := ha.2
    rw [h2] at e ha2
    rw [h4] at e
    have := h.good.walk_inj l l' h1 ha2 e
    rw [h2, h4, this] at hab
    exact hab rfl
  have hdir : ∀ i, i ∈ ((m.list.filter fun e => e.dir).map EntD.id) ↔ i ∈ T.ids ∧ (T.node i).dir = true := by
    intro i
    rw [List.mem_map]
    constructor
    · rintro ⟨e, he, rfl⟩
      obtain ⟨he, hd⟩ := List.mem_filter.1 he
      obtain ⟨l, h1, h2⟩ := (h.flat.ent e).1 he
      rw [h2] at hd ⊢
      exact ⟨h.good.walk_mem l 1 h.good.root h1, hd⟩
    · rintro ⟨hi, hd⟩
      obtain ⟨_, _, l, hl⟩ := h.dirs i hi hd
      have h0 := h.good.low i hi
      refine ⟨⟨joinP l, walkT T 1 l, (T.node (walkT T 1 l)).dir⟩, List.mem_filter.2 ⟨(h.flat.ent _).2 ⟨l, by omega, rfl⟩, by rw [hl]; exact hd⟩, hl⟩
  have hfil : ∀ i, i ∈ m.files.map FilD.id ↔ i ∈ T.ids ∧ (T.node i).dir = false := by
    intro i
    rw [List.mem_map]
    constructor
    · rintro ⟨f, hf, rfl⟩
      have := (h.fil f).1 hf
      exact ⟨this.1, this.2.1⟩
    · rintro ⟨hi, hd⟩
      exact ⟨⟨i, (T.node i).data⟩, (h.fil _).2 ⟨hi, hd, rfl⟩, rfl⟩
  refine (List.perm_ext_iff_of_nodup h.good.nodup (List.nodup_append.2 ⟨h.fnd, hB, fun a ha b hb e => ?_⟩)).2 fun i => ?_
  · have h1 := ((hfil a).1 ha).2
    have h2 := ((hdir b).1 hb).2
    rw [e, h2] at h1; cases h1
  · rw [List.mem_append, hfil, hdir]
    cases (T.node i).dir <;> simp
theorem Like.nodes (h : Like T m) : T.ids.length = nodesM m := by
  rw [h.perm.length_eq, List.length_append, List.length_map, List.length_map, nodesM, List.countP_eq_length_filter]
theorem Like.file_data (h : Like T m) {f : FilD} (hf : f ∈ m.files) : (T.node f.id).data = f.data := ((h.fil f).1 hf).2.2.symm
theorem Like.dir_facts (h : Like T m) {i : Int} (hi : i ∈ (m.list.filter fun e => e.dir).map EntD.id) : (T.node i).links = 1 ∧ (T.node i).data = [] := by
  obtain ⟨e, he, rfl⟩ := List.mem_map.1 hi
  obtain ⟨he, hd⟩ := List.mem_filter.1 he
  obtain ⟨l, h1, h2⟩ := (h.flat.ent e).1 he
  rw [h2] at hd ⊢
  have := h.dirs _ (h.good.walk_mem l 1 h.good.root h1) hd
  exact ⟨this.1, this.2.1⟩
theorem sum_none (L : List Int) (f : Int → Nat) (h : ∀ i ∈ L, f i = 0) : (L.map f).sum = 0 := by
  induction L with
  | nil => rfl
  | cons a L ih => rw [List.map_cons, List.sum_cons, h a List.mem_cons_self, ih fun i hi => h i (List.mem_cons_of_mem _ hi)]
theorem Like.used (h : Like T m) : usedT T = usedM m := by
  unfold usedT usedM
  have e0 : (((m.list.filter fun e => e.dir).map EntD.id).map fun i => (T.node i).data.length).sum = 0 := sum_none _ _ fun i hi => by rw [(h.dir_facts hi).2]; rfl
  rw [(h.perm.map _).sum_nat, List.map_append, List.sum_append, e0, List.map_map, Nat.add_zero]
  congr 1
  refine List.map_congr_left fun f hf => ?_
  simp only [Function.comp]
  rw [h.file_data hf]
theorem sort_perm {X Y : List Int} (h : X.Perm Y) : (X.mergeSort fun x y => decide (x ≤ y)) = Y.mergeSort fun x y => decide (x ≤ y) := by
  have h1 : ∀ a b c : Int, decide (a ≤ b) = true → decide (b ≤ c) = true → decide (a ≤ c) = true := fun a b c h1 h2 => by simp only [decide_eq_true_eq] at *; omega
  have h2 : ∀ a b : Int, (decide (a ≤ b) || decide (b ≤ a)) = true := fun a b => by simp only [Bool.or_eq_true, decide_eq_true_eq]; omega
  have s1 := List.pairwise_mergeSort h1 h2 X
  have s2 := List.pairwise_mergeSort h1 h2 Y
  exact ((List.mergeSort_perm X _).trans (h.trans (List.mergeSort_perm _ _).symm)).eq_of_pairwise (fun a b _ _ k1 k2 => by simp only [decide_eq_true_eq] at k1 k2; omega) s1 s2
theorem Like.loose (h : Like T m) : looseT T = looseM m := by
  unfold looseT looseM
  refine sort_perm ?_
  refine (h.perm.filter _).trans ?_
  rw [List.filter_append]
  have e1 : ((m.list.filter fun e => e.dir).map EntD.id).filter (fun i => decide ((T.node i).links = 0)) = [] := by
    rw [List.filter_eq_nil_iff]
    intro i hi
    rw [(h.dir_facts hi).1]
    simp
  rw [e1, List.append_nil]
  have e2 : (m.files.map FilD.id).filter (fun i => decide ((T.node i).links = 0)) = (m.files.map FilD.id).filter fun i => decide (countM m i = 0) := by
    refine List.filter_congr fun i hi => ?_
    obtain ⟨f, hf, rfl⟩ := List.mem_map.1 hi
    obtain ⟨h1, h2, _⟩ := (h.fil f).1 hf
    rw [h.links _ h1 h2]
    congr 1
    exact propext (by omega)
  rw [e2]
theorem Like.data (h : Like T m) {i : Int} (hi : i ∈ T.ids) (hd : (T.node i).dir = false) : dataM m i = (T.node i).data := by
  unfold dataM
  have hmem : (⟨i, (T.node i).data⟩ : FilD) ∈ m.files := (h.fil _).2 ⟨hi, hd, rfl⟩
  cases hf : m.files.find? fun f => decide (f.id = i) with
  | none => exact absurd (List.find?_eq_none.1 hf _ hmem) (by simp)
  | some f =>
    have h1 := List.find?_some hf
    have h2 := List.mem_of_find?_eq_some hf
    have h1 : f.id = i := by simpa using h1
    show f.data = _
    rw [← h.file_data h2, h1]
theorem nameM_some {q s n : By} (h : nameM q s = some n) : s = q ++ 47 :: n ∧ n ≠ [] ∧ 47 ∉ n := by
  unfold nameM at h
  split at h
  · rename_i hc
    cases h
    refine ⟨take_split hc.2.1, fun e => ?_, hc.2.2⟩
    have := congrArg List.length e
    rw [List.length_drop] at this
    have := hc.1
    simp at *
    omega
  · cases h
theorem nameM_of {q n : By} (hn : n ≠ []) (h47 : 47 ∉ n) : nameM q (q ++ 47 :: n) = some n := by
  have e1 : (q ++ 47 :: n).drop (q.length + 1) = n := by
    rw [List.drop_append]
    simp
  unfold nameM
  rw [e1, if_pos]
  refine ⟨?_, ?_, h47⟩
  · have : 0 < n.length := List.length_pos_iff.2 hn
    simp; omega
  · rw [List.take_append, List.take_of_length_le (by omega)]
    have : q.length + 1 - q.length = 1 := by omega
    rw [this]
    rfl
theorem Like.names (h : Like T m) {p : By} {l : List By} {k : Int} (hp : pathL p = some l) (hk : walkT T 1 l = k) (hk0 : k ≠ 0) :
    (namesM m p).Nodup ∧ ∀ x, x ∈ namesM m p ↔ ((T.node k).kids x).isSome = true := by
  have hkm : k ∈ T.ids := by rw [← hk]; exact h.good.walk_mem l 1 h.good.root (by rw [hk]; exact hk0)
  have hq := stem_glue hp
  unfold namesM
  refine ⟨?_, fun x => ?_⟩
  · have hpw : m.list.Pairwise fun a b => a.path ≠ b.path := List.pairwise_map.1 h.flat.pnd
    refine List.pairwise_filterMap.2 (hpw.imp ?_)
    intro a b hab x hx y hy e
    rw [(nameM_some hx).1, (nameM_some hy).1, e] at hab
    exact hab rfl
  · rw [List.mem_filterMap]
    constructor
    · rintro ⟨e, he, hx⟩
      obtain ⟨l', h1, h2⟩ := (h.flat.ent e).1 he
      obtain ⟨h3, h4, h5⟩ := nameM_some hx
      have hd := h.flat.deep l' h1
      have hep : e.path = joinP l' := by rw [h2]
      rw [← hep] at hd
      have hne : e.path ≠ [47] := by
        rw [h3]
        intro e1
        have := congrArg List.length e1
        have h0 : 0 < x.length := List.length_pos_iff.2 h4
        simp at this
        omega
      have hl := names_below hd hne hq (path_no47 hp) h3
      rw [splitOn_none 47 x h5] at hl
      rw [hl, walk_snoc T x l 1 GoodT.one_ne, hk, if_neg hk0] at h1
      have := h.good.kid_mem hkm h1
      rw [this.2.1]; rfl
    · intro hx
      cases hkx : (T.node k).kids x with
      | none => rw [hkx] at hx; cases hx
      | some c =>
        have hcm := h.good.kid k hkm x c hkx
        have hc0 := h.good.low c hcm.1
        have hw : walkT T 1 (l ++ [x]) = c := by
          rw [walk_snoc T x l 1 GoodT.one_ne, hk, if_neg hk0]
          show ((T.node k).kids x).getD 0 = c
          rw [hkx]; rfl
        have hd := h.flat.deep (l ++ [x]) (by omega)
        refine ⟨⟨joinP (l ++ [x]), walkT T 1 (l ++ [x]), (T.node (walkT T 1 (l ++ [x]))).dir⟩, (h.flat.ent _).2 ⟨_, by omega, rfl⟩, ?_⟩
        have hx47 := path_no47 hd x (by simp)
        have hxn : x ≠ [] := nameL_ne (List.all_eq_true.1 (pathL_facts hd).2.1 x (by simp))
        show nameM (stemM p) (joinP (l ++ [x])) = some x
        have e1 : joinP (l ++ [x]) = stemM p ++ 47 :: x := by
          rw [path_glue hd (by simp), glue_append, ← hq]
          simp [glue]
        rw [e1]
        exact nameM_of hxn hx47
theorem Like.run (L : List OpD) : ∀ {T : TreeD} {m : RefD}, Like T m → (runM m L).2 = (runT T L).2 ∧ Like (runT T L).1 (runM m L).1 := by
  induction L with
  | nil => intro T m h; exact ⟨rfl, h⟩
  | cons o L ih =>
    intro T m h
    obtain ⟨h1, h2⟩ := h.step o
    unfold runT runM
    by_cases hz : (stepT T o).2 = 0
    · rw [if_pos hz, if_pos (by rw [h1]; exact hz)]
      exact ih h2
    · rw [if_neg hz, if_neg (by rw [h1]; exact hz)]
      exact ⟨h1, h2⟩
theorem Like.do (h : Like T m) (L : List OpD) : (doM m L).2 = (doT T L).2 ∧ Like (doT T L).1 (doM m L).1 := by
  obtain ⟨h1, h2⟩ := h.run L
  unfold doT doM
  by_cases c1 : (runT T L).2 ≠ 0
  · rw [if_pos c1, if_pos (by rw [h1]; exact c1), h1]; exact ⟨rfl, h⟩
  rw [if_neg c1, if_neg (by rw [h1]; exact c1)]
  by_cases c2 : 128 < (runT T L).1.ids.length
  · rw [if_pos c2, if_pos (by rw [← h2.nodes]; exact c2)]; exact ⟨rfl, h⟩
  rw [if_neg c2, if_neg (by rw [← h2.nodes]; exact c2)]
  by_cases c3 : T.quota < usedT (runT T L).1
  · rw [if_pos c3, if_pos (by rw [← h2.used, h.quota]; exact c3)]; exact ⟨rfl, h⟩
  rw [if_neg c3, if_neg (by rw [← h2.used, h.quota]; exact c3)]
  exact ⟨rfl, h2⟩
theorem new_like (q : Int) : Like (newT q) (newM q) := by
  have hw : ∀ l, walkT (newT q) 1 l = if l = [] then 1 else 0 := by
    intro l
    cases l with
    | nil => rfl
    | cons x r =>
      have e : kidT (newT q) 1 x = 0 := rfl
      unfold walkT
      rw [if_pos e]
      simp
  refine ⟨newT_good q, ⟨fun l hl => ?_, by simp [newM], fun e => ?_⟩, rfl, rfl, by simp [newM], fun f => ?_, fun i hi hd => ?_, fun i hi hd => ⟨rfl, rfl, [], ?_⟩⟩
  · rw [hw] at hl
    split at hl
    · rename_i e; rw [e]; exact pathL_root
    · exact absurd rfl hl
  · simp only [newM, List.mem_singleton]
    constructor
    · rintro rfl; exact ⟨[], by rw [hw]; decide, rfl⟩
    · rintro ⟨l, h1, rfl⟩
      rw [hw] at h1
      split at h1
      · rename_i e; rw [e]; rfl
      · exact absurd rfl h1
  · constructor
    · intro hf; simp [newM] at hf
    · rintro ⟨_, h2, _⟩; cases h2
  · cases hd
  · simp only [newT, List.mem_singleton] at hi; rw [hi]; rfl
end
end Go.Proofs.YtlpjmkkinlcbnaaGreatDoor
namespace Go.Proofs.YtlpjmkkinlcbnaaGreatDoor
/-! ### Loose files -/
def reapsM (m : RefD) (X : List Int) : RefD := X.foldl reapM m
theorem reapsM_take (m : RefD) {X : List Int} {k : Nat} (hk : k < X.length) : reapsM m (X.take (k + 1)) = reapM (reapsM m (X.take k)) (X.getD k 0) := by
  unfold reapsM
  rw [List.take_succ_eq_append_getElem hk, List.foldl_append]
  simp [List.getD_eq_getElem?_getD, List.getElem?_eq_getElem hk]
theorem Like.reap' {T : TreeD} {m : RefD} (h : Like T m) (i : Int) : Like (reapT T i) (reapM m i) := by
  have e : reapT T i = if i ∈ T.ids ∧ (T.node i).links = 0 then delT T i else T := by
    unfold reapT
    by_cases hc : i ∈ T.ids ∧ (T.node i).links = 0
    · simp only [if_pos hc]
    · simp only [if_neg hc]
  rw [e]
  exact h.reap i
theorem Like.reaps : ∀ (X : List Int) {T : TreeD} {m : RefD}, Like T m → Like (reapsT T X) (reapsM m X)
  | [], _, _, h => h
  | i :: X, _, _, h => Like.reaps X (h.reap' i)
theorem reapT_fit {T : TreeD} {K : Nat} (h : FitT T K) (i : Int) : FitT (reapT T i) K := by
  unfold reapT; split
  · exact h.del i
  · exact h
theorem reapsT_fit : ∀ (X : List Int) {T : TreeD} {K : Nat}, FitT T K → FitT (reapsT T X) K
  | [], _, _, h => h
  | i :: X, _, _, h => reapsT_fit X (reapT_fit h i)
theorem reapT_count (T : TreeD) (i : Int) : (reapT T i).ids.length ≤ T.ids.length := by
  unfold reapT; split
  · exact List.length_filter_le _ _
  · exact Nat.le_refl _
theorem reapsT_count : ∀ (X : List Int) (T : TreeD), (reapsT T X).ids.length ≤ T.ids.length
  | [], _ => Nat.le_refl _
  | i :: X, T => Nat.le_trans (reapsT_count X (reapT T i)) (reapT_count T i)
theorem reapM_list (m : RefD) (i : Int) : (reapM m i).list = m.list := by unfold reapM; split <;> rfl
theorem reapM_files (m : RefD) (i : Int) : (reapM m i).files.length ≤ m.files.length := by
  unfold reapM; split
  · exact Nat.le_refl _
  · exact List.length_filter_le _ _
theorem reapM_quota (m : RefD) (i : Int) : (reapM m i).quota = m.quota := by unfold reapM; split <;> rfl
theorem reapsM_facts : ∀ (X : List Int) (m : RefD), (reapsM m X).list = m.list ∧ (reapsM m X).files.length ≤ m.files.length ∧ (reapsM m X).quota = m.quota
  | [], _ => ⟨rfl, Nat.le_refl _, rfl⟩
  | i :: X, m => by
    obtain ⟨h1, h2, h3⟩ := reapsM_facts X (reapM m i)
    exact ⟨h1.trans (reapM_list m i), Nat.le_trans h2 (reapM_files m i), h3.trans (reapM_quota m i)⟩
end Go.Proofs.YtlpjmkkinlcbnaaGreatDoor
