/- Several texts of mine, one behind the other: TreeAlike, TreeAlikeF, TreeAlikeS, TreeAlikeD, PlaysReap, VolLaw, VolAt, RefLaw, ProcSpec, ProcMem. -/
import Derived.Test.YtefpllpichhojaaGreatDoorM12
import Derived.Test.YtefpllpichhojaaGreatDoorM4
import Derived.Test.YtefpllpichhojaaGreatDoorM7
import Derived.Test.YtefpllpichhojaaGreatDoorVolRep
import Derived.Test.YtefpllpichhojaaGreatDoorVolOpen
namespace Go.Proofs.YtefpllpichhojaaGreatDoor
structure Like (T : TreeD) (m : RefD) : Prop where
 good : GoodT T
 flat : Flat (walkT T 1) (fun i => (T.node i).dir) m.list
 next : m.next = T.next
 quota : m.quota = T.quota
 fnd : (m.files.map FilD.id).Nodup
 fil : ∀ f, f ∈ m.files ↔ f.id ∈ T.ids ∧ (T.node f.id).dir = false ∧ f.data = (T.node f.id).data
 links : ∀ i ∈ T.ids, (T.node i).dir = false → (T.node i).links = (countM m i : Int)
 dirs : ∀ i ∈ T.ids, (T.node i).dir = true → (T.node i).links = 1 ∧ (T.node i).data = [] ∧ ∃ l, walkT T 1 l = i
theorem nameL_ne {x : By} (h : nameL x = true) : x ≠ [] := by rintro rfl; exact absurd h (by decide)
theorem pathL_pre {p : By} {l : List By} {x : By} (h : pathL p = some (l ++ [x])) : pathL (joinP l) = some l := by
 obtain ⟨h1, h2, h3, h4⟩ := pathL_facts h
 rcases h4 with ⟨_, h5⟩ | ⟨_, _, h5, _⟩
 · simp at h5
 · cases l with
   | nil => exact pathL_root
   | cons a r =>
     rw [List.all_append, Bool.and_eq_true] at h2
     have ha : nameL a = true := by have := h2.1; rw [List.all_cons, Bool.and_eq_true] at this; exact this.1
     have hne : joinP (a :: r) ≠ [47] := by
      rw [joinP_cons, glue_cons]
      intro e
      have e := (List.cons.inj e).2
      have : a = [] := List.eq_nil_of_length_eq_zero (by have := congrArg List.length e; simp at this; simp [this.1])
      exact nameL_ne ha this
     rw [pathL_join hne (fun q hq => nameL_no47 (List.all_eq_true.1 h2.1 q hq)), if_pos]
     rw [Bool.and_eq_true, decide_eq_true_eq]
     refine ⟨?_, ?_⟩
     · unfold joinOk
       rw [Bool.and_eq_true, Bool.and_eq_true, decide_eq_true_eq, decide_eq_true_eq]
       refine ⟨⟨by simp, by rw [List.length_append] at h1; simp only [List.length_cons, List.length_nil] at *; omega⟩, h2.1⟩
     · rw [← h5, glue_append, List.length_append] at h3; omega
section
variable {T : TreeD} {m : RefD}
theorem Like.ent_some (h : Like T m) {p : By} {l : List By} (hp : pathL p = some l) (hw : walkT T 1 l ≠ 0) : entM m p = some ⟨p, walkT T 1 l, (T.node (walkT T 1 l)).dir⟩ := h.flat.find hp hw
theorem Like.ent_none (h : Like T m) {p : By} {l : List By} (hp : pathL p = some l) (hw : walkT T 1 l = 0) : entM m p = none :=
 h.flat.find_none fun l' hl => by rw [hp] at hl; cases hl; exact hw
theorem Like.ent_find (h : Like T m) (p : By) : entM m p = if findT T p = 0 then none else some ⟨p, findT T p, (T.node (findT T p)).dir⟩ := by
 unfold findT
 cases hp : pathL p with
 | none =>
   rw [if_pos rfl]
   exact h.flat.find_none fun l hl => by rw [hp] at hl; cases hl
 | some l =>
   show entM m p = if walkT T 1 l = 0 then none else _
   split
   · rename_i hw; exact h.ent_none hp hw
   · rename_i hw; exact h.ent_some hp hw
theorem placeT_none {p : By} (h : upL p = none) : placeT T p = .bad 14 := by unfold placeT; rw [h]
theorem placeT_some {p : By} {l : List By} {x : By} (h : upL p = some (l, x)) : placeT T p = if walkT T 1 l = 0 then .bad 8 else if (T.node (walkT T 1 l)).dir then .at (walkT T 1 l) x else .bad 11 := by unfold placeT; rw [h]
theorem placeM_none {p : By} (h : upL p = none) : placeM m p = 14 := by unfold placeM; rw [h]
theorem placeM_some {p : By} {l : List By} {x : By} (h : upL p = some (l, x)) : placeM m p = match entM m (joinP l) with | none => 8 | some e => if e.dir = true then 0 else 11 := by unfold placeM; rw [h]; rfl
theorem Like.place_bad (h : Like T m) {p : By} {e : Int} (hp : placeT T p = .bad e) : placeM m p = e ∧ e ≠ 0 := by
 cases hu : upL p with
 | none =>
   rw [placeT_none hu] at hp
   cases hp
   exact ⟨placeM_none hu, by decide⟩
 | some lx =>
   obtain ⟨l, x⟩ := lx
   rw [placeT_some hu] at hp
   rw [placeM_some hu]
   have hl := pathL_pre (upL_iff.1 hu)
   by_cases hw : walkT T 1 l = 0
   · rw [if_pos hw] at hp
     cases hp
     rw [h.ent_none hl hw]; exact ⟨rfl, by decide⟩
   · rw [if_neg hw] at hp
     rw [h.ent_some hl hw]
     cases hd : (T.node (walkT T 1 l)).dir with
     | true => rw [hd] at hp; simp at hp
     | false =>
       rw [hd] at hp
       simp at hp
       subst hp
       exact ⟨rfl, by decide⟩
theorem Like.place_at (h : Like T m) {p : By} {d : Int} {x : By} (hp : placeT T p = .at d x) :
 placeM m p = 0 ∧ ∃ l, pathL p = some (l ++ [x]) ∧ walkT T 1 l = d ∧ d ≠ 0 ∧ (T.node d).dir = true ∧ d ∈ T.ids ∧ walkT T 1 (l ++ [x]) = kidT T d x := by
 have hm := h.good.place_mem hp
 cases hu : upL p with
 | none => rw [placeT_none hu] at hp; cases hp
 | some lx =>
   obtain ⟨l, y⟩ := lx
   rw [placeT_some hu] at hp
   rw [placeM_some hu]
   have hl := pathL_pre (upL_iff.1 hu)
   by_cases hw : walkT T 1 l = 0
   · rw [if_pos hw] at hp; cases hp
   · rw [if_neg hw] at hp
     rw [h.ent_some hl hw]
     cases hd : (T.node (walkT T 1 l)).dir with
     | false => rw [hd] at hp; simp at hp
     | true =>
       rw [hd] at hp
       simp at hp
       obtain ⟨rfl, rfl⟩ := hp
       exact ⟨rfl, l, upL_iff.1 hu, rfl, hw, hd, hm.1, by rw [walk_snoc T _ l 1 GoodT.one_ne, if_neg hw]⟩
theorem find_at {p : By} {l : List By} (hp : pathL p = some l) : findT T p = walkT T 1 l := by unfold findT; rw [hp]
theorem Like.count_zero (h : Like T m) {i : Int} (hi : ∀ l, walkT T 1 l = i → i = 0) : countM m i = 0 := by
 unfold countM
 rw [List.countP_eq_zero]
 intro e he hc
 obtain ⟨l, h1, h2⟩ := (h.flat.ent e).1 he
 rw [h2] at hc
 have : walkT T 1 l = i := by simpa using hc
 exact h1 (by rw [this]; exact hi l this)
theorem Like.count_pos (h : Like T m) {l : List By} (hl : walkT T 1 l ≠ 0) : 0 < countM m (walkT T 1 l) := by
 unfold countM
 rw [List.countP_pos_iff]
 exact ⟨_, (h.flat.ent _).2 ⟨l, hl, rfl⟩, by simp⟩
theorem kid_set (i : Int) (n : NodeD) (c : Int) (z : By) : kidT (setT T i n) c z = if c = i then (n.kids z).getD 0 else kidT T c z := by
 unfold kidT; rw [setT_node]; split <;> rfl
theorem kid_bind (d : Int) (x : By) (i c : Int) (z : By) : kidT (bindT T d x i) c z = if c = d ∧ z = x then i else kidT T c z := by
 unfold bindT; rw [kid_set]
 by_cases hc : c = d
 · rw [if_pos hc]
   simp only [withK]
   by_cases hz : z = x
   · rw [if_pos hz, if_pos ⟨hc, hz⟩]; rfl
   · rw [if_neg hz, if_neg (fun e => hz e.2)]; unfold kidT; rw [hc]
 · rw [if_neg hc, if_neg (fun e => hc e.1)]
theorem kid_cut (d : Int) (x : By) (c : Int) (z : By) : kidT (cutT T d x) c z = if c = d ∧ z = x then 0 else kidT T c z := by
 unfold cutT; rw [kid_set]
 by_cases hc : c = d
 · rw [if_pos hc]
   simp only [lessK]
   by_cases hz : z = x
   · rw [if_pos hz, if_pos ⟨hc, hz⟩]; rfl
   · rw [if_neg hz, if_neg (fun e => hz e.2)]; unfold kidT; rw [hc]
 · rw [if_neg hc, if_neg (fun e => hc e.1)]
theorem kid_link (i k c : Int) (z : By) : kidT (linkT T i k) c z = kidT T c z := by
 unfold linkT; rw [kid_set]; split
 · rename_i e; unfold kidT; rw [e]
 · rfl
theorem cutT_links (d : Int) (x : By) (j : Int) : ((cutT T d x).node j).links = (T.node j).links := by
 unfold cutT; rw [setT_node]; split
 · rename_i e; rw [e]
 · rfl
theorem bindT_links (d : Int) (x : By) (i j : Int) : ((bindT T d x i).node j).links = (T.node j).links := by
 unfold bindT; rw [setT_node]; split
 · rename_i e; rw [e]
 · rfl
theorem cutT_data (d : Int) (x : By) (j : Int) : ((cutT T d x).node j).data = (T.node j).data := by
 unfold cutT; rw [setT_node]; split
 · rename_i e; rw [e]
 · rfl
theorem bindT_data (d : Int) (x : By) (i j : Int) : ((bindT T d x i).node j).data = (T.node j).data := by
 unfold bindT; rw [setT_node]; split
 · rename_i e; rw [e]
 · rfl
theorem linkT_data (i k j : Int) : ((linkT T i k).node j).data = (T.node j).data := by
 unfold linkT; rw [setT_node]; split
 · rename_i e; rw [e]
 · rfl
theorem linkT_links (i k j : Int) : ((linkT T i k).node j).links = (T.node j).links + if j = i then k else 0 := by
 unfold linkT; rw [setT_node]; split
 · rename_i e; rw [e]
 · omega
theorem GoodT.file_kid (h : GoodT T) {i : Int} (hi : i ∈ T.ids) (hf : (T.node i).dir = false) (z : By) : kidT T i z = 0 := by
 unfold kidT; rw [h.file i hi hf]; rfl
theorem Like.make (h : Like T m) {p : By} {l : List By} {x : By} {d : Int} (hp : pathL p = some (l ++ [x])) (hl : walkT T 1 l = d) (hd0 : d ≠ 0) (hdd : (T.node d).dir = true) (hdm : d ∈ T.ids) (h0 : kidT T d x = 0)
 (n : NodeD) (hn : n.kids = noK) (hl1 : n.links = 1) (hdir : n.dir = true → n.data = []) :
 Like (bindT (addT T n) d x T.next) ⟨m.list ++ [⟨p, m.next, n.dir⟩], if n.dir = true then m.files else m.files ++ [⟨m.next, n.data⟩], m.next + 1, m.quota⟩ := by
 have hg := makeT_good h.good (x := x) hdm hdd n hn
 have hlow := h.good.low
 have h1 := hlow 1 h.good.root
 have hn0 : T.next ≠ 0 := by omega
 have hnd : T.next ≠ d := fun e => by have := (hlow d hdm).2; omega
 have hold : ∀ j ∈ T.ids, j ≠ T.next := fun j hj e => by have := (hlow j hj).2; omega
 have hmem : ∀ j, j ∈ (bindT (addT T n) d x T.next).ids ↔ j ∈ T.ids ∨ j = T.next := by
  intro j; show j ∈ T.ids ++ [T.next] ↔ _; simp
 have hkid : ∀ c ∈ T.ids, ∀ z, kidT (bindT (addT T n) d x T.next) c z = if c = d ∧ z = x then T.next else kidT T c z := by
  intro c hc z
  rw [kid_bind]
  split
  · rfl
  · unfold kidT; rw [addT_old n h.good hc]
 have hnk : ∀ z, kidT (bindT (addT T n) d x T.next) T.next z = 0 := by
  intro z
  rw [kid_bind, if_neg (fun e => hnd e.1)]
  unfold kidT
  rw [addT_node, if_pos rfl, hn]; rfl
 have hw := walk_update h.good hl hd0 hdd hkid (fun _ => hnk) (fun e => absurd h0 e)
 have hnode : ∀ j, j ≠ T.next → ((bindT (addT T n) d x T.next).node j).dir = (T.node j).dir ∧ ((bindT (addT T n) d x T.next).node j).links = (T.node j).links ∧ ((bindT (addT T n) d x T.next).node j).data = (T.node j).data := by
  intro j hj
  rw [bindT_dir, bindT_links, bindT_data, addT_node, if_neg hj]
  exact ⟨rfl, rfl, rfl⟩
 have hnew : ((bindT (addT T n) d x T.next).node T.next).dir = n.dir ∧ ((bindT (addT T n) d x T.next).node T.next).links = n.links ∧ ((bindT (addT T n) d x T.next).node T.next).data = n.data := by
  rw [bindT_dir, bindT_links, bindT_data, addT_node, if_pos rfl]
  exact ⟨rfl, rfl, rfl⟩
 have hwm : ∀ l', walkT T 1 l' ≠ 0 → walkT T 1 l' ≠ T.next := fun l' hl' => hold _ (h.good.walk_mem l' 1 h.good.root hl')
 have hwlx : walkT T 1 (l ++ [x]) = 0 := by rw [walk_snoc T x l 1 GoodT.one_ne, hl, if_neg hd0]; exact h0
 have hcn : countM m T.next = 0 := h.count_zero fun l' e => by
  by_cases h2 : walkT T 1 l' = 0
  · rw [← e]; exact h2
  · exact absurd e (hwm l' h2)
 refine ⟨hg, ?_, by show m.next + 1 = T.next + 1; rw [h.next], h.quota, ?_, fun f => ?_, fun i hi hf => ?_, fun i hi hd => ?_⟩
 · have h2 := (h.flat.congr (W' := walkT T 1) (D' := fun i => ((bindT (addT T n) d x T.next).node i).dir) (fun _ => rfl) (fun l' hl' => (hnode _ (hwm l' hl')).1)).more hp hwlx hn0
   simp only [hnew.1] at h2
   rw [h.next]
   exact h2.congr hw (fun _ _ => rfl)
 · show ((if n.dir = true then m.files else m.files ++ [⟨m.next, n.data⟩]).map FilD.id).Nodup
   split
   · exact h.fnd
   · rw [List.map_append, List.nodup_append]
     refine ⟨h.fnd, by simp, fun a ha b hb e => ?_⟩
     obtain ⟨f, hf, rfl⟩ := List.mem_map.1 ha
     simp only [List.map_cons, List.map_nil, List.mem_singleton] at hb
     exact hold _ ((h.fil f).1 hf).1 (by rw [e, hb, h.next])
 · rw [hmem]
   show f ∈ (if n.dir = true then m.files else m.files ++ [⟨m.next, n.data⟩]) ↔ _
   by_cases hfn : f.id = T.next
   · have hno : f ∉ m.files := fun hf => hold _ ((h.fil f).1 hf).1 hfn
     rw [hfn, hnew.1, hnew.2.2]
     split
     · rename_i hd
       rw [hd]
       exact ⟨fun hf => absurd hf hno, fun e => by cases e.2.1⟩
     · rename_i hd
       rw [List.mem_append, List.mem_singleton, h.next]
       constructor
       · rintro (hf | rfl)
         · exact absurd hf hno
         · exact ⟨Or.inr rfl, by simpa using hd, rfl⟩
       · rintro ⟨_, _, h3⟩
         right
         cases f
         cases hfn
         cases h3
         rfl
   · have hn2 := hnode f.id hfn
     rw [hn2.1, hn2.2.2]
     have e : (f ∈ (if n.dir = true then m.files else m.files ++ [⟨m.next, n.data⟩])) ↔ f ∈ m.files := by
      split
      · exact Iff.rfl
      · rw [List.mem_append, List.mem_singleton]
        constructor
        · rintro (hf | rfl)
          · exact hf
          · exact absurd h.next hfn
        · exact Or.inl
     rw [e, h.fil]
     constructor
     · rintro ⟨h2, h3⟩; exact ⟨Or.inl h2, h3⟩
     · rintro ⟨h2 | h2, h3⟩
       · exact ⟨h2, h3⟩
       · exact absurd h2 hfn
 · have hc : countM ⟨m.list ++ [⟨p, m.next, n.dir⟩], if n.dir = true then m.files else m.files ++ [⟨m.next, n.data⟩], m.next + 1, m.quota⟩ i = countM m i + if i = T.next then 1 else 0 := by
    unfold countM
    rw [List.countP_append, List.countP_cons, List.countP_nil, h.next]
    simp only [decide_eq_true_eq, Nat.zero_add]
    by_cases e : i = T.next
    · rw [if_pos e, if_pos e.symm]
    · rw [if_neg e, if_neg (fun e1 => e e1.symm)]
   rw [hc]
   by_cases e : i = T.next
   · rw [if_pos e, e, hnew.2.1, hcn, hl1]; rfl
   · rw [if_neg e, (hnode i e).2.1]
     rw [(hnode i e).1] at hf
     exact h.links i (((hmem i).1 hi).resolve_right e) hf
 · by_cases e : i = T.next
   · rw [e, hnew.1] at hd
     rw [e, hnew.2.1, hnew.2.2]
     exact ⟨hl1, hdir hd, l ++ [x], by rw [hw, if_pos rfl]⟩
   · rw [(hnode i e).1] at hd
     rw [(hnode i e).2.1, (hnode i e).2.2]
     obtain ⟨h2, h3, l', h4⟩ := h.dirs i (((hmem i).1 hi).resolve_right e) hd
     refine ⟨h2, h3, l', ?_⟩
     rw [hw, if_neg, h4]
     intro e2
     rw [e2, hwlx] at h4
     rw [← h4] at hi
     have := hg.low 0 hi
     omega
end
end Go.Proofs.YtefpllpichhojaaGreatDoor
namespace Go.Proofs.YtefpllpichhojaaGreatDoor
section
variable {T : TreeD} {m : RefD}
theorem count_lessM {p : By} {e : EntD} (h : entM m p = some e) (i : Int) : countM (lessM m p) i + (if e.id = i then 1 else 0) = countM m i := by
 have := count_less (L := m.list) h fun e => decide (e.id = i)
 simpa [countM, lessM] using this
theorem count_moreM (e : EntD) (i : Int) : countM (moreM m e) i = countM m i + (if e.id = i then 1 else 0) := by
 simp [countM, moreM, List.countP_append, List.countP_cons]
theorem Like.unlink (h : Like T m) {p : By} {l : List By} {x : By} {d : Int} (hp : pathL p = some (l ++ [x])) (hl : walkT T 1 l = d) (hd0 : d ≠ 0) (hdd : (T.node d).dir = true) (hdm : d ∈ T.ids) (h0 : kidT T d x ≠ 0) (hf : (T.node (kidT T d x)).dir = false) :
 Like (linkT (cutT T d x) (kidT T d x) (-1)) (lessM m p) ∧ ∀ l', walkT (linkT (cutT T d x) (kidT T d x) (-1)) 1 l' = if l' = l ++ [x] then 0 else walkT T 1 l' := by
 have hkm := h.good.kid_mem hdm h0
 have hleaf : kidT T d x ≠ 0 → ∀ z, kidT T (kidT T d x) z = 0 := fun _ z => h.good.file_kid hkm.1 hf z
 have hw : ∀ l', walkT (linkT (cutT T d x) (kidT T d x) (-1)) 1 l' = if l' = l ++ [x] then 0 else walkT T 1 l' :=
  walk_update h.good hl hd0 hdd (fun c _ z => by rw [kid_link, kid_cut]) (fun hv => absurd rfl hv) hleaf
 have hlx : walkT T 1 (l ++ [x]) = kidT T d x := by rw [walk_snoc T x l 1 GoodT.one_ne, hl, if_neg hd0]
 have he := h.ent_some hp (by rw [hlx]; exact h0)
 rw [hlx] at he
 have hdir : ∀ j, ((linkT (cutT T d x) (kidT T d x) (-1)).node j).dir = (T.node j).dir := fun j => by rw [linkT_dir, cutT_dir]
 have hdat : ∀ j, ((linkT (cutT T d x) (kidT T d x) (-1)).node j).data = (T.node j).data := fun j => by rw [linkT_data, cutT_data]
 have hlnk : ∀ j, ((linkT (cutT T d x) (kidT T d x) (-1)).node j).links = (T.node j).links + if j = kidT T d x then -1 else 0 := fun j => by rw [linkT_links, cutT_links]
 refine ⟨⟨(h.good.cut hdd x).link (-1) hkm.1 (by rw [cutT_dir]; exact hf), ?_, h.next, h.quota, h.fnd, fun f => ?_, fun i hi hfi => ?_, fun i hi hdi => ?_⟩, hw⟩
 · exact (h.flat.less hp).congr hw (fun _ _ => hdir _)
 · rw [hdir, hdat]; exact h.fil f
 · rw [hdir] at hfi
   have hi : i ∈ T.ids := hi
   rw [hlnk, h.links i hi hfi, ← count_lessM he i]
   by_cases e : i = kidT T d x
   · rw [if_pos e, if_pos e.symm]; omega
   · rw [if_neg e, if_neg (fun e1 => e e1.symm)]; omega
 · rw [hdir] at hdi
   have hi : i ∈ T.ids := hi
   obtain ⟨h2, h3, l', h4⟩ := h.dirs i hi hdi
   have hne : i ≠ kidT T d x := fun e => by rw [e, hf] at hdi; cases hdi
   rw [hlnk, hdat, if_neg hne]
   refine ⟨by omega, h3, l', ?_⟩
   rw [hw, if_neg, h4]
   intro e
   rw [e, hlx] at h4
   exact hne h4.symm
theorem Like.link (h : Like T m) {p : By} {l : List By} {x : By} {d i : Int} (hp : pathL p = some (l ++ [x])) (hl : walkT T 1 l = d) (hd0 : d ≠ 0) (hdd : (T.node d).dir = true) (_hdm : d ∈ T.ids) (h0 : kidT T d x = 0) (him : i ∈ T.ids) (hf : (T.node i).dir = false) :
 Like (bindT (linkT T i 1) d x i) (moreM m ⟨p, i, false⟩) := by
 have hlow := h.good.low i him
 have hi0 : i ≠ 0 := by omega
 have hlx : walkT T 1 (l ++ [x]) = 0 := by rw [walk_snoc T x l 1 GoodT.one_ne, hl, if_neg hd0]; exact h0
 have hw : ∀ l', walkT (bindT (linkT T i 1) d x i) 1 l' = if l' = l ++ [x] then i else walkT T 1 l' :=
  walk_update h.good hl hd0 hdd (fun c _ z => by rw [kid_bind, kid_link]) (fun _ z => by
   rw [kid_bind, kid_link, if_neg (fun e => by rw [← e.1, hf] at hdd; cases hdd)]
   exact h.good.file_kid him hf z) (fun e => absurd h0 e)
 have hdir : ∀ j, ((bindT (linkT T i 1) d x i).node j).dir = (T.node j).dir := fun j => by rw [bindT_dir, linkT_dir]
 have hdat : ∀ j, ((bindT (linkT T i 1) d x i).node j).data = (T.node j).data := fun j => by rw [bindT_data, linkT_data]
 have hlnk : ∀ j, ((bindT (linkT T i 1) d x i).node j).links = (T.node j).links + if j = i then 1 else 0 := fun j => by rw [bindT_links, linkT_links]
 refine ⟨bindF_good (h.good.link 1 him hf) (by rw [linkT_dir]; exact hdd) him (by rw [linkT_dir]; exact hf), ?_, h.next, h.quota, h.fnd, fun f => ?_, fun j hj hfj => ?_, fun j hj hdj => ?_⟩
 · have h2 := h.flat.more hp hlx hi0
   rw [hf] at h2
   exact h2.congr hw (fun _ _ => hdir _)
 · rw [hdir, hdat]; exact h.fil f
 · rw [hdir] at hfj
   have hj : j ∈ T.ids := hj
   rw [hlnk, h.links j hj hfj, count_moreM]
   by_cases e : j = i
   · rw [if_pos e, if_pos e.symm]; omega
   · rw [if_neg e, if_neg (fun e1 => e e1.symm)]; omega
 · rw [hdir] at hdj
   have hj : j ∈ T.ids := hj
   obtain ⟨h2, h3, l', h4⟩ := h.dirs j hj hdj
   have hne : j ≠ i := fun e => by rw [e, hf] at hdj; cases hdj
   rw [hlnk, hdat, if_neg hne]
   refine ⟨by omega, h3, l', ?_⟩
   have hj0 := h.good.low j hj
   rw [hw, if_neg, h4]
   intro e
   rw [e, hlx] at h4
   omega
theorem Like.write (h : Like T m) {i : Int} (him : i ∈ T.ids) (hf : (T.node i).dir = false) (b : By) :
 Like (setT T i ⟨false, (T.node i).links, b, noK⟩) { m with files := m.files.map (wroteF i b) } := by
 have hdir : ∀ j, ((setT T i ⟨false, (T.node i).links, b, noK⟩).node j).dir = (T.node j).dir := fun j => by
  rw [setT_node]; split
  · rename_i e; rw [e, hf]
  · rfl
 have hlnk : ∀ j, ((setT T i ⟨false, (T.node i).links, b, noK⟩).node j).links = (T.node j).links := fun j => by
  rw [setT_node]; split
  · rename_i e; rw [e]
  · rfl
 have hdat : ∀ j, ((setT T i ⟨false, (T.node i).links, b, noK⟩).node j).data = if j = i then b else (T.node j).data := fun j => by
  rw [setT_node]; split <;> rfl
 have hw := walk_same (T' := setT T i ⟨false, (T.node i).links, b, noK⟩) h.good (fun c hc z => by
  rw [kid_set]; split
  · rename_i e; rw [e, h.good.file_kid him hf]; rfl
  · rfl)
 have hids : (m.files.map (wroteF i b)).map FilD.id = m.files.map FilD.id := by
  rw [List.map_map]
  refine List.map_congr_left fun f _ => ?_
  simp only [Function.comp, wroteF]
  split
  · rename_i e; exact e.symm
  · rfl
 refine ⟨h.good.setF _ rfl hf rfl, h.flat.congr hw (fun _ _ => hdir _), h.next, h.quota, by rw [hids]; exact h.fnd, fun f => ?_, fun j hj hfj => ?_, fun j hj hdj => ?_⟩
 · rw [hdir, hdat]
   show f ∈ m.files.map (wroteF i b) ↔ f.id ∈ T.ids ∧ _
   rw [List.mem_map]
   constructor
   · rintro ⟨g, hg, rfl⟩
     have h2 := (h.fil g).1 hg
     unfold wroteF
     split
     · rename_i e; rw [if_pos rfl]; exact ⟨him, hf, rfl⟩
     · exact h2
   · rintro ⟨h2, h3, h4⟩
     split at h4
     · rename_i e
       refine ⟨⟨i, (T.node i).data⟩, (h.fil _).2 ⟨him, hf, rfl⟩, ?_⟩
       unfold wroteF
       rw [if_pos rfl]
       cases f; cases e; cases h4; rfl
     · rename_i e
       exact ⟨f, (h.fil f).2 ⟨h2, h3, h4⟩, by unfold wroteF; rw [if_neg e]⟩
 · rw [hdir] at hfj
   rw [hlnk]; exact h.links j hj hfj
 · rw [hdir] at hdj
   obtain ⟨h2, h3, l', h4⟩ := h.dirs j hj hdj
   rw [hlnk, hdat, if_neg (fun e => by rw [e, hf] at hdj; cases hdj)]
   exact ⟨h2, h3, l', by rw [hw, h4]⟩
theorem Like.rmdir (h : Like T m) {p : By} {l : List By} {x : By} {d : Int} (hp : pathL p = some (l ++ [x])) (hl : walkT T 1 l = d) (hd0 : d ≠ 0) (hdd : (T.node d).dir = true) (hdm : d ∈ T.ids) (h0 : kidT T d x ≠ 0) (hf : (T.node (kidT T d x)).dir = true) (he : emptyK (T.node (kidT T d x)).kids) :
 Like (delT (cutT T d x) (kidT T d x)) (lessM m p) := by
 have hkm := h.good.kid_mem hdm h0
 have hleaf : kidT T d x ≠ 0 → ∀ z, kidT T (kidT T d x) z = 0 := fun _ z => by
  show ((T.node (kidT T d x)).kids z).getD 0 = 0
  rw [he z]; rfl
 have hw : ∀ l', walkT (delT (cutT T d x) (kidT T d x)) 1 l' = if l' = l ++ [x] then 0 else walkT T 1 l' :=
  walk_update h.good hl hd0 hdd (fun c _ z => kid_cut d x c z) (fun hv => absurd rfl hv) hleaf
 have hlx : walkT T 1 (l ++ [x]) = kidT T d x := by rw [walk_snoc T x l 1 GoodT.one_ne, hl, if_neg hd0]
 have hen := h.ent_some hp (by rw [hlx]; exact h0)
 rw [hlx] at hen
 have hmem : ∀ j, j ∈ (delT (cutT T d x) (kidT T d x)).ids ↔ j ∈ T.ids ∧ j ≠ kidT T d x := by
  intro j; show j ∈ T.ids.filter _ ↔ _; simp
 have hdir : ∀ j, ((delT (cutT T d x) (kidT T d x)).node j).dir = (T.node j).dir := fun j => cutT_dir d x j
 have hdat : ∀ j, ((delT (cutT T d x) (kidT T d x)).node j).data = (T.node j).data := fun j => cutT_data d x j
 have hlnk : ∀ j, ((delT (cutT T d x) (kidT T d x)).node j).links = (T.node j).links := fun j => cutT_links d x j
 refine ⟨(h.good.cut hdd x).del hkm.2.2 (cutT_kid h.good hdm hkm.2.1 hf), (h.flat.less hp).congr hw (fun _ _ => hdir _), h.next, h.quota, h.fnd, fun f => ?_, fun i hi hfi => ?_, fun i hi hdi => ?_⟩
 · rw [hdir, hdat, hmem]
   show f ∈ m.files ↔ _
   rw [h.fil]
   constructor
   · rintro ⟨h2, h3, h4⟩; exact ⟨⟨h2, fun e => by rw [e, hf] at h3; cases h3⟩, h3, h4⟩
   · rintro ⟨⟨h2, _⟩, h3⟩; exact ⟨h2, h3⟩
 · rw [hdir] at hfi
   have hi := (hmem i).1 hi
   rw [hlnk, h.links i hi.1 hfi, ← count_lessM hen i, if_neg (fun e1 => hi.2 e1.symm)]; rfl
 · rw [hdir] at hdi
   have hi := (hmem i).1 hi
   obtain ⟨h2, h3, l', h4⟩ := h.dirs i hi.1 hdi
   rw [hlnk, hdat]
   refine ⟨h2, h3, l', ?_⟩
   rw [hw, if_neg, h4]
   intro e
   rw [e, hlx] at h4
   exact hi.2 h4.symm
theorem Like.reap (h : Like T m) (i : Int) : Like (if i ∈ T.ids ∧ (T.node i).links = 0 then delT T i else T) (reapM m i) := by
 by_cases hc : 0 < countM m i
 · have hr : reapM m i = m := if_pos hc
   rw [hr]
   split
   · rename_i hi
     cases hd : (T.node i).dir with
     | false => have := h.links i hi.1 hd; omega
     | true => have := (h.dirs i hi.1 hd).1; omega
   · exact h
 · have hc0 : countM m i = 0 := by omega
   have hr : reapM m i = { m with files := m.files.filter fun f => !decide (f.id = i) } := if_neg hc
   rw [hr]
   have hfil : ∀ f, f ∈ (m.files.filter fun f => !decide (f.id = i)) ↔ f ∈ m.files ∧ f.id ≠ i := by intro f; simp
   by_cases hi : i ∈ T.ids ∧ (T.node i).links = 0
   · rw [if_pos hi]
     have hd : (T.node i).dir = false := by
      cases hd : (T.node i).dir with
      | false => rfl
      | true => have := (h.dirs i hi.1 hd).1; omega
     have hno : ∀ l, walkT T 1 l ≠ i := by
      intro l e
      have h1 := h.good.low i hi.1
      have := h.count_pos (l := l) (by omega)
      rw [e, hc0] at this
      omega
     have hmem : ∀ j, j ∈ (delT T i).ids ↔ j ∈ T.ids ∧ j ≠ i := by intro j; simp [delT]
     have hkids : ∀ j ∈ T.ids, ∀ y, (T.node j).kids y ≠ some i := by
      intro j hj y e
      have hjd : (T.node j).dir = true := by
       cases hjd : (T.node j).dir with
       | true => rfl
       | false => rw [h.good.file j hj hjd] at e; cases e
      obtain ⟨_, _, l, hl⟩ := h.dirs j hj hjd
      have hj0 := h.good.low j hj
      refine hno (l ++ [y]) ?_
      rw [walk_snoc T y l 1 GoodT.one_ne, hl, if_neg (by omega)]
      unfold kidT; rw [e]; rfl
     have h1 : i ≠ 1 := fun e => by rw [e, h.good.rdir] at hd; cases hd
     refine ⟨h.good.del h1 hkids, h.flat.congr (walk_same h.good fun _ _ _ => rfl) (fun _ _ => rfl), h.next, h.quota, ?_, fun f => ?_, fun j hj hf => ?_, fun j hj hdj => ?_⟩
     · exact h.fnd.sublist (List.filter_sublist.map _)
     · rw [hmem, hfil, h.fil]
       constructor
       · rintro ⟨⟨h2, h3⟩, h4⟩; exact ⟨⟨h2, h4⟩, h3⟩
       · rintro ⟨⟨h2, h4⟩, h3⟩; exact ⟨⟨h2, h3⟩, h4⟩
     · exact h.links j ((hmem j).1 hj).1 hf
     · obtain ⟨h2, h3, l, h4⟩ := h.dirs j ((hmem j).1 hj).1 hdj
       exact ⟨h2, h3, l, by rw [walk_same (T' := delT T i) h.good fun _ _ _ => rfl]; exact h4⟩
   · rw [if_neg hi]
     have hno : ∀ f ∈ m.files, f.id ≠ i := by
      intro f hf e
      obtain ⟨h2, h3, _⟩ := (h.fil f).1 hf
      rw [e] at h2 h3
      exact hi ⟨h2, by rw [h.links i h2 h3, hc0]; rfl⟩
     have hid : (m.files.filter fun f => !decide (f.id = i)) = m.files := by
      rw [List.filter_eq_self]
      intro f hf
      simp [hno f hf]
     rw [hid]
     exact h
end
end Go.Proofs.YtefpllpichhojaaGreatDoor
namespace Go.Proofs.YtefpllpichhojaaGreatDoor
theorem TreeD.same {S T : TreeD} (h1 : S.ids = T.ids) (h2 : S.next = T.next) (h3 : S.quota = T.quota) (h4 : ∀ j, (S.node j).dir = (T.node j).dir) (h5 : ∀ j, (S.node j).links = (T.node j).links) (h6 : ∀ j, (S.node j).data = (T.node j).data) (h7 : ∀ j z, (S.node j).kids z = (T.node j).kids z) : S = T := by
 have h : S.node = T.node := by
  funext j
  have a := h4 j; have b := h5 j; have c := h6 j; have d := h7 j
  revert a b c d
  cases S.node j; cases T.node j
  intro a b c d
  cases a; cases b; cases c
  have d := funext d
  cases d
  rfl
 cases S; cases T
 cases h1; cases h2; cases h3; cases h
 rfl
section
variable {T : TreeD} {m : RefD}
theorem kids_set (i : Int) (n : NodeD) (c : Int) (z : By) : ((setT T i n).node c).kids z = if c = i then n.kids z else (T.node c).kids z := by
 rw [setT_node]; split <;> rfl
theorem kids_bind (d : Int) (x : By) (i c : Int) (z : By) : ((bindT T d x i).node c).kids z = if c = d ∧ z = x then some i else (T.node c).kids z := by
 unfold bindT; rw [kids_set]
 by_cases hc : c = d
 · rw [if_pos hc]
   simp only [withK]
   by_cases hz : z = x
   · rw [if_pos hz, if_pos ⟨hc, hz⟩]
   · rw [if_neg hz, if_neg (fun e => hz e.2), hc]
 · rw [if_neg hc, if_neg (fun e => hc e.1)]
theorem kids_cut (d : Int) (x : By) (c : Int) (z : By) : ((cutT T d x).node c).kids z = if c = d ∧ z = x then none else (T.node c).kids z := by
 unfold cutT; rw [kids_set]
 by_cases hc : c = d
 · rw [if_pos hc]
   simp only [lessK]
   by_cases hz : z = x
   · rw [if_pos hz, if_pos ⟨hc, hz⟩]
   · rw [if_neg hz, if_neg (fun e => hz e.2), hc]
 · rw [if_neg hc, if_neg (fun e => hc e.1)]
theorem kids_link (i k c : Int) (z : By) : ((linkT T i k).node c).kids z = (T.node c).kids z := by
 unfold linkT; rw [kids_set]; split
 · rename_i e; rw [e]
 · rfl
theorem ren_free (d : Int) (x : By) (d2 : Int) (y : By) (i : Int) : bindT (cutT T d x) d2 y i = bindT (linkT (linkT (cutT T d x) i (-1)) i 1) d2 y i := by
 refine TreeD.same rfl rfl rfl (fun j => ?_) (fun j => ?_) (fun j => ?_) (fun j z => ?_)
 · rw [bindT_dir, bindT_dir, linkT_dir, linkT_dir]
 · rw [bindT_links, bindT_links, linkT_links, linkT_links]
   split <;> omega
 · rw [bindT_data, bindT_data, linkT_data, linkT_data]
 · rw [kids_bind, kids_bind, kids_link, kids_link]
theorem ren_over (d : Int) (x : By) (d2 : Int) (y : By) (i j : Int) : bindT (cutT (linkT T j (-1)) d x) d2 y i = bindT (cutT (linkT (cutT T d2 y) j (-1)) d x) d2 y i := by
 refine TreeD.same rfl rfl rfl (fun j => ?_) (fun j => ?_) (fun j => ?_) (fun j z => ?_)
 · rw [bindT_dir, bindT_dir, cutT_dir, cutT_dir, linkT_dir, linkT_dir, cutT_dir]
 · rw [bindT_links, bindT_links, cutT_links, cutT_links, linkT_links, linkT_links, cutT_links]
 · rw [bindT_data, bindT_data, cutT_data, cutT_data, linkT_data, linkT_data, cutT_data]
 · rw [kids_bind, kids_bind, kids_cut, kids_cut, kids_link, kids_link, kids_cut]
   by_cases h1 : j = d2 ∧ z = y
   · rw [if_pos h1, if_pos h1]
   · rw [if_neg h1, if_neg h1, if_neg h1]
theorem names_below {s q r : By} {lp l' : List By} (hs : pathL s = some l') (hne : s ≠ [47]) (hq : q = glue 47 lp) (hlp : ∀ p ∈ lp, (47 : UInt8) ∉ p) (he : s = q ++ 47 :: r) : l' = lp ++ splitOn 47 r := by
 obtain ⟨_, _, _, h4⟩ := pathL_facts hs
 rcases h4 with ⟨h5, _⟩ | ⟨_, _, _, h5⟩
 · exact absurd h5 hne
 · have hr : 47 :: r = glue 47 (splitOn 47 r) := (glue_splitOn 47 r).symm
   rw [h5, he, hq]
   cases lp with
   | nil => rfl
   | cons a lp =>
     rw [hr, glue_cons]
     show splitOn 47 (a ++ glue 47 lp ++ glue 47 (splitOn 47 r)) = _
     rw [List.append_assoc, ← glue_append, splitOn_glue 47 a _ (hlp a List.mem_cons_self)]
     · rfl
     · intro p hp
       rcases List.mem_append.1 hp with hp | hp
       · exact hlp p (List.mem_cons_of_mem _ hp)
       · exact splitOn_mem 47 r p hp
theorem path_no47 {p : By} {l : List By} (hp : pathL p = some l) : ∀ q ∈ l, (47 : UInt8) ∉ q := fun q hq => nameL_no47 (List.all_eq_true.1 (pathL_facts hp).2.1 q hq)
theorem path_glue {p : By} {l : List By} (hp : pathL p = some l) (hl : l ≠ []) : p = glue 47 l := by
 rcases (pathL_facts hp).2.2.2 with ⟨_, h2⟩ | ⟨_, _, h2, _⟩
 · exact absurd h2 hl
 · exact h2.symm
theorem take_split {s q : By} (h : s.take (q.length + 1) = q ++ [47]) : s = q ++ 47 :: s.drop (q.length + 1) := by
 conv => lhs; rw [← List.take_append_drop (q.length + 1) s, h]
 simp
theorem Like.busy (h : Like T m) {p : By} {l : List By} {x : By} {k : Int} (hp : pathL p = some (l ++ [x])) (hk : walkT T 1 (l ++ [x]) = k) (hk0 : k ≠ 0) (hkm : k ∈ T.ids) :
 m.list.any (fun e => belowP p e.path) = true ↔ ¬ emptyK (T.node k).kids := by
 have hg := path_glue hp (by simp)
 rw [List.any_eq_true]
 constructor
 · rintro ⟨e, he, hb⟩ hem
   unfold belowP at hb
   rw [decide_eq_true_eq] at hb
   obtain ⟨l', h1, h2⟩ := (h.flat.ent e).1 he
   have hs := take_split hb.2
   have hne : e.path ≠ [47] := by
    intro e1
    rw [e1] at hb
    have := hb.1
    have hp1 := congrArg List.length hg
    cases p with
    | nil =>
      have : pathL [] = none := by decide +kernel
      rw [this] at hp; cases hp
    | cons a r => simp at this
   have hd := h.flat.deep l' h1
   have hep : e.path = joinP l' := by rw [h2]
   rw [← hep] at hd
   have hn := names_below hd hne hg (path_no47 hp) hs
   cases hsp : splitOn 47 (e.path.drop (p.length + 1)) with
   | nil => exact splitOn_ne _ _ hsp
   | cons z rest =>
     rw [hsp] at hn
     have hw0 : walkT T 1 (l ++ [x] ++ [z]) = 0 := by
      rw [walk_snoc T z _ 1 GoodT.one_ne, hk, if_neg hk0]
      show ((T.node k).kids z).getD 0 = 0
      rw [hem z]; rfl
     have hpre : ∀ r, walkT T 1 (l ++ [x] ++ z :: r) = 0 := by
      refine snoc_ind hw0 ?_
      intro r y ih
      have e2 : l ++ [x] ++ z :: (r ++ [y]) = (l ++ [x] ++ z :: r) ++ [y] := by simp
      rw [e2, walk_snoc T y _ 1 GoodT.one_ne, if_pos ih]
     rw [hn] at h1
     exact h1 (hpre rest)
 · intro hem
   have : ∃ z, (T.node k).kids z ≠ none := by
    refine Classical.byContradiction fun hc => hem fun z => ?_
    refine Classical.byContradiction fun hz => hc ⟨z, hz⟩
   obtain ⟨z, hz⟩ := this
   cases hkz : (T.node k).kids z with
   | none => exact absurd hkz hz
   | some c =>
     have hcm := h.good.kid k hkm z c hkz
     have hc0 := h.good.low c hcm.1
     have hw : walkT T 1 (l ++ [x] ++ [z]) = c := by
      rw [walk_snoc T z _ 1 GoodT.one_ne, hk, if_neg hk0]
      show ((T.node k).kids z).getD 0 = c
      rw [hkz]; rfl
     have hd := h.flat.deep (l ++ [x] ++ [z]) (by omega)
     refine ⟨⟨joinP (l ++ [x] ++ [z]), walkT T 1 (l ++ [x] ++ [z]), (T.node (walkT T 1 (l ++ [x] ++ [z]))).dir⟩, (h.flat.ent _).2 ⟨_, by omega, rfl⟩, ?_⟩
     unfold belowP
     rw [decide_eq_true_eq]
     have hj : joinP (l ++ [x] ++ [z]) = p ++ 47 :: z := by
      have e1 := path_glue hd (by simp)
      rw [e1, glue_append, ← hg]
      simp [glue]
     show p.length < (joinP (l ++ [x] ++ [z])).length ∧ (joinP (l ++ [x] ++ [z])).take (p.length + 1) = p ++ [47]
     rw [hj]
     refine ⟨by simp, ?_⟩
     rw [List.take_append, List.take_of_length_le (by omega)]
     have : p.length + 1 - p.length = 1 := by omega
     rw [this]
     rfl
theorem Like.find_kid (h : Like T m) {p : By} {l : List By} {x : By} {d : Int} (hp : pathL p = some (l ++ [x])) (hlx : walkT T 1 (l ++ [x]) = kidT T d x) : entM m p = if kidT T d x = 0 then none else some ⟨p, kidT T d x, (T.node (kidT T d x)).dir⟩ := by
 rw [h.ent_find p, find_at hp, hlx]
theorem Like.fileS (h : Like T m) (o : OpD) {l : List By} {x : By} {d : Int} (h1 : placeM m o.path = 0) (hlen : ¬ 3500 < o.data.length) (hk3 : 3 ≤ o.kind) (hk6 : o.kind ≤ 6) (hpl : pathL o.path = some (l ++ [x])) (hl : walkT T 1 l = d) (hd0 : d ≠ 0) (hdd : (T.node d).dir = true) (hdm : d ∈ T.ids) (hlx : walkT T 1 (l ++ [x]) = kidT T d x)
 (hk : kidT T d x ≠ 0) (hf : (T.node (kidT T d x)).dir = false) : (stepM m o).2 = (fileT T o d x (kidT T d x)).2 ∧ Like (fileT T o d x (kidT T d x)).1 (stepM m o).1 := by
 have hent := h.find_kid hpl hlx
 rw [if_neg hk, hf] at hent
 have hkm := h.good.kid_mem hdm hk
 have c1 : ¬ (o.kind < 0 ∨ 6 < o.kind) := by omega
 have c2 : ¬ placeM m o.path ≠ 0 := by omega
 have c3 : ¬ (o.kind = 0 ∨ o.kind = 2) := by omega
 have c4 : ¬ o.kind = 1 := by omega
 have eM := show stepM m o = _ by
  simp only [stepM, if_neg c1, if_neg c2, if_neg hlen, if_neg c3, hent, if_neg c4]
  rfl
 have c5 : ¬ (false = true) := by simp
 rw [if_neg c5] at eM
 by_cases k3 : o.kind = 3
 · rw [if_pos k3] at eM
   have eT : fileT T o d x (kidT T d x) = (setT T (kidT T d x) ⟨false, (T.node (kidT T d x)).links, o.data, noK⟩, 0) := by unfold fileT; rw [if_pos k3]
   rw [eM, eT]
   exact ⟨rfl, h.write hkm.1 hf o.data⟩
 rw [if_neg k3] at eM
 by_cases k6 : o.kind = 6
 · rw [if_pos k6] at eM
   have eT : fileT T o d x (kidT T d x) = (linkT (cutT T d x) (kidT T d x) (-1), 0) := by unfold fileT; rw [if_neg k3, if_pos k6]
   rw [eM, eT]
   exact ⟨rfl, (h.unlink hpl hl hd0 hdd hdm hk hf).1⟩
 rw [if_neg k6] at eM
 cases hp2 : placeT T o.dest with
 | bad e =>
   obtain ⟨p1, p2⟩ := h.place_bad hp2
   have eT : fileT T o d x (kidT T d x) = (T, e) := by unfold fileT; rw [if_neg k3, if_neg k6, hp2]
   rw [if_pos (by rw [p1]; exact p2), p1] at eM
   rw [eM, eT]
   exact ⟨rfl, h⟩
 | «at» d2 y =>
   obtain ⟨p1, l2, hpl2, hl2, hd20, hdd2, hdm2, hlx2⟩ := h.place_at hp2
   rw [if_neg (by omega)] at eM
   have hent2 := h.find_kid hpl2 hlx2
   by_cases hj : kidT T d2 y = 0
   · rw [if_pos hj] at hent2
     rw [hent2] at eM
     have d1 : ¬ (o.kind = 4 ∧ kidT T d2 y ≠ 0) := fun e => e.2 hj
     have d2' : ¬ (kidT T d2 y ≠ 0 ∧ (T.node (kidT T d2 y)).dir = true) := fun e => e.1 hj
     have d3 : ¬ kidT T d2 y = kidT T d x := by rw [hj]; exact fun e => hk e.symm
     by_cases k4 : o.kind = 4
     · have eT : fileT T o d x (kidT T d x) = (bindT (linkT T (kidT T d x) 1) d2 y (kidT T d x), 0) := by
         unfold fileT; rw [if_neg k3, if_neg k6, hp2]
         simp only [if_neg d1, if_neg d2', if_neg d3, if_pos k4]
       simp only [if_pos k4] at eM
       rw [eM, eT]
       exact ⟨rfl, h.link hpl2 hl2 hd20 hdd2 hdm2 hj hkm.1 hf⟩
     · have eT : fileT T o d x (kidT T d x) = (bindT (cutT T d x) d2 y (kidT T d x), 0) := by
         unfold fileT; rw [if_neg k3, if_neg k6, hp2]
         simp only [if_neg d1, if_neg d2', if_neg d3, if_neg k4, if_neg (show ¬ kidT T d2 y ≠ 0 from fun e => e hj)]
       simp only [if_neg k4] at eM
       rw [eM, eT]
       refine ⟨rfl, ?_⟩
       obtain ⟨hL, hW⟩ := h.unlink hpl hl hd0 hdd hdm hk hf
       have hne : l2 ≠ l ++ [x] := fun e => by rw [e, hlx] at hl2; rw [hl2, hdd2] at hf; cases hf
       show Like (bindT (cutT T d x) d2 y (kidT T d x)) _
       rw [ren_free]
       refine hL.link hpl2 (by rw [hW, if_neg hne, hl2]) hd20 (by rw [linkT_dir, cutT_dir]; exact hdd2) hdm2 ?_ hkm.1 (by rw [linkT_dir, cutT_dir]; exact hf)
       rw [kid_link, kid_cut]
       split
       · rfl
       · exact hj
   · rw [if_neg hj] at hent2
     rw [hent2] at eM
     by_cases k4 : o.kind = 4
     · have eT : fileT T o d x (kidT T d x) = (T, 9) := by
         unfold fileT; rw [if_neg k3, if_neg k6, hp2]
         simp only [if_pos (And.intro k4 hj)]
       simp only [if_pos k4] at eM
       rw [eM, eT]
       exact ⟨rfl, h⟩
     have d1 : ¬ (o.kind = 4 ∧ kidT T d2 y ≠ 0) := fun e => k4 e.1
     simp only [if_neg k4] at eM
     cases hjd : (T.node (kidT T d2 y)).dir with
     | true =>
       have eT : fileT T o d x (kidT T d x) = (T, 10) := by
        unfold fileT; rw [if_neg k3, if_neg k6, hp2]
        simp only [if_neg d1, if_pos (And.intro hj hjd)]
       rw [hjd] at eM
       simp only [if_true] at eM
       rw [eM, eT]
       exact ⟨rfl, h⟩
     | false =>
       have d2' : ¬ (kidT T d2 y ≠ 0 ∧ (T.node (kidT T d2 y)).dir = true) := fun e => by rw [hjd] at e; cases e.2
       rw [hjd] at eM
       simp only [Bool.false_eq_true, if_false] at eM
       by_cases hji : kidT T d2 y = kidT T d x
       · have eT : fileT T o d x (kidT T d x) = (T, 0) := by
           unfold fileT; rw [if_neg k3, if_neg k6, hp2]
           simp only [if_neg d1, if_neg d2', if_pos hji]
         simp only [if_pos hji] at eM
         rw [eM, eT]
         exact ⟨rfl, h⟩
       · have eT : fileT T o d x (kidT T d x) = (bindT (cutT (linkT T (kidT T d2 y) (-1)) d x) d2 y (kidT T d x), 0) := by
           unfold fileT; rw [if_neg k3, if_neg k6, hp2]
           simp only [if_neg d1, if_neg d2', if_neg hji, if_neg k4, if_pos (show kidT T d2 y ≠ 0 from hj)]
         simp only [if_neg hji] at eM
         rw [eM, eT]
         refine ⟨rfl, ?_⟩
         obtain ⟨hL, hW⟩ := h.unlink hpl2 hl2 hd20 hdd2 hdm2 hj hjd
         have n1 : l ≠ l2 ++ [y] := fun e => by rw [e, hlx2] at hl; rw [hl, hdd] at hjd; cases hjd
         have n2 : l ++ [x] ≠ l2 ++ [y] := fun e => by rw [← hlx, ← hlx2, e] at hji; exact hji rfl
         have n3 : l2 ≠ l ++ [x] := fun e => by rw [e, hlx] at hl2; rw [hl2, hdd2] at hf; cases hf
         have n4 : l2 ≠ l2 ++ [y] := fun e => by have := congrArg List.length e; simp at this
         have hW1 : walkT (linkT (cutT T d2 y) (kidT T d2 y) (-1)) 1 l = d := by rw [hW, if_neg n1, hl]
         have hK1 : kidT (linkT (cutT T d2 y) (kidT T d2 y) (-1)) d x = kidT T d x := by
          have := hW (l ++ [x])
          rw [walk_snoc _ x l 1 GoodT.one_ne, hW1, if_neg hd0, if_neg n2, hlx] at this
          exact this
         obtain ⟨hL2, hW2⟩ := hL.unlink hpl hW1 hd0 (by rw [linkT_dir, cutT_dir]; exact hdd) hdm (by rw [hK1]; exact hk) (by rw [hK1, linkT_dir, cutT_dir]; exact hf)
         rw [hK1] at hL2 hW2
         show Like (bindT (cutT (linkT T (kidT T d2 y) (-1)) d x) d2 y (kidT T d x)) _
         rw [ren_over, ren_free]
         refine hL2.link hpl2 (by rw [hW2, if_neg n3, hW, if_neg n4, hl2]) hd20 (by rw [linkT_dir, cutT_dir, linkT_dir, cutT_dir]; exact hdd2) hdm2 ?_ hkm.1 (by rw [linkT_dir, cutT_dir, linkT_dir, cutT_dir]; exact hf)
         rw [kid_link, kid_cut, kid_link, kid_cut, if_pos (⟨rfl, rfl⟩ : d2 = d2 ∧ y = y)]
         split <;> rfl
theorem Like.step (h : Like T m) (o : OpD) : (stepM m o).2 = (stepT T o).2 ∧ Like (stepT T o).1 (stepM m o).1 := by
 by_cases c1 : o.kind < 0 ∨ 6 < o.kind
 · have eT : stepT T o = (T, 1) := by unfold stepT; rw [if_pos c1]
   have eM : stepM m o = (m, 1) := by unfold stepM; rw [if_pos c1]
   rw [eT, eM]; exact ⟨rfl, h⟩
 cases hp : placeT T o.path with
 | bad e =>
   obtain ⟨p1, p2⟩ := h.place_bad hp
   have eT : stepT T o = (T, e) := by unfold stepT; rw [if_neg c1, hp]
   have eM : stepM m o = (m, e) := by unfold stepM; rw [if_neg c1, if_pos (by rw [p1]; exact p2), p1]
   rw [eT, eM]; exact ⟨rfl, h⟩
 | «at» d x =>
   obtain ⟨p1, l, hpl, hl, hd0, hdd, hdm, hlx⟩ := h.place_at hp
   have c2 : ¬ placeM m o.path ≠ 0 := by omega
   have hent := h.find_kid hpl hlx
   by_cases c3 : 3500 < o.data.length
   · have eT : stepT T o = (T, 6) := by unfold stepT; rw [if_neg c1, hp]; simp only [if_pos c3]
     have eM : stepM m o = (m, 6) := by unfold stepM; rw [if_neg c1, if_neg c2, if_pos c3]
     rw [eT, eM]; exact ⟨rfl, h⟩
   by_cases c4 : o.kind = 0 ∨ o.kind = 2
   · by_cases hk : kidT T d x = 0
     · rw [if_pos hk] at hent
       have eT : stepT T o = (bindT (addT T (if o.kind = 0 then newN else fileN o.data)) d x T.next, 0) := by
        unfold stepT; rw [if_neg c1, hp]; simp only [if_neg c3, if_pos c4, if_neg (show ¬ kidT T d x ≠ 0 from fun e => e hk)]
       have eM : stepM m o = (⟨m.list ++ [⟨o.path, m.next, decide (o.kind = 0)⟩], if o.kind = 2 then m.files ++ [⟨m.next, o.data⟩] else m.files, m.next + 1, m.quota⟩, 0) := by
        unfold stepM; rw [if_neg c1, if_neg c2, if_neg c3, if_pos c4, hent]
       rw [eT, eM]
       refine ⟨rfl, ?_⟩
       rcases c4 with k | k
       · have := h.make hpl hl hd0 hdd hdm hk newN rfl rfl (fun _ => rfl)
         rw [k]
         exact this
       · have := h.make hpl hl hd0 hdd hdm hk (fileN o.data) rfl rfl (fun e => by cases e)
         rw [k]
         exact this
     · rw [if_neg hk] at hent
       have eT : stepT T o = (T, 9) := by unfold stepT; rw [if_neg c1, hp]; simp only [if_neg c3, if_pos c4, if_pos (show kidT T d x ≠ 0 from hk)]
       have eM : stepM m o = (m, 9) := by unfold stepM; rw [if_neg c1, if_neg c2, if_neg c3, if_pos c4, hent]
       rw [eT, eM]; exact ⟨rfl, h⟩
   by_cases hk : kidT T d x = 0
   · rw [if_pos hk] at hent
     have eT : stepT T o = (T, 8) := by unfold stepT; rw [if_neg c1, hp]; simp only [if_neg c3, if_neg c4, if_pos hk]
     have eM : stepM m o = (m, 8) := by unfold stepM; rw [if_neg c1, if_neg c2, if_neg c3, if_neg c4, hent]
     rw [eT, eM]; exact ⟨rfl, h⟩
   rw [if_neg hk] at hent
   have hkm := h.good.kid_mem hdm hk
   by_cases k1 : o.kind = 1
   · cases hd : (T.node (kidT T d x)).dir with
     | false =>
       rw [hd] at hent
       have eT : stepT T o = (T, 11) := by unfold stepT; rw [if_neg c1, hp]; simp only [if_neg c3, if_neg c4, if_neg hk, if_pos k1, if_pos hd]
       have eM : stepM m o = (m, 11) := by unfold stepM; rw [if_neg c1, if_neg c2, if_neg c3, if_neg c4, hent]; simp only [if_pos k1, if_true]
       rw [eT, eM]; exact ⟨rfl, h⟩
     | true =>
       rw [hd] at hent
       have hnd : ¬ (T.node (kidT T d x)).dir = false := by rw [hd]; simp
       have hbusy := h.busy hpl hlx hk hkm.1
       by_cases hem : emptyK (T.node (kidT T d x)).kids
       · have eT : stepT T o = (delT (cutT T d x) (kidT T d x), 0) := by unfold stepT; rw [if_neg c1, hp]; simp only [if_neg c3, if_neg c4, if_neg hk, if_pos k1, if_neg hnd, if_pos hem]
         have eM : stepM m o = (lessM m o.path, 0) := by
          unfold stepM; rw [if_neg c1, if_neg c2, if_neg c3, if_neg c4, hent]; simp only [if_pos k1, Bool.true_eq_false, if_false, if_neg (fun e => (hbusy.1 e) hem)]
         rw [eT, eM]; exact ⟨rfl, h.rmdir hpl hl hd0 hdd hdm hk hd hem⟩
       · have eT : stepT T o = (T, 12) := by unfold stepT; rw [if_neg c1, hp]; simp only [if_neg c3, if_neg c4, if_neg hk, if_pos k1, if_neg hnd, if_neg hem]
         have eM : stepM m o = (m, 12) := by
          unfold stepM; rw [if_neg c1, if_neg c2, if_neg c3, if_neg c4, hent]; simp only [if_pos k1, Bool.true_eq_false, if_false, if_pos (hbusy.2 hem)]
         rw [eT, eM]; exact ⟨rfl, h⟩
   cases hd : (T.node (kidT T d x)).dir with
   | true =>
     rw [hd] at hent
     have eT : stepT T o = (T, 10) := by unfold stepT; rw [if_neg c1, hp]; simp only [if_neg c3, if_neg c4, if_neg hk, if_neg k1, if_pos hd]
     have eM : stepM m o = (m, 10) := by unfold stepM; rw [if_neg c1, if_neg c2, if_neg c3, if_neg c4, hent]; simp only [if_neg k1, if_true]
     rw [eT, eM]; exact ⟨rfl, h⟩
   | false =>
     have eT : stepT T o = fileT T o d x (kidT T d x) := by unfold stepT; rw [if_neg c1, hp]; simp only [if_neg c3, if_neg c4, if_neg hk, if_neg k1, if_neg (show ¬ (T.node (kidT T d x)).dir = true by rw [hd]; simp)]
     rw [eT]
     exact h.fileS o p1 c3 (by omega) (by omega) hpl hl hd0 hdd hdm hlx hk hd
end
end Go.Proofs.YtefpllpichhojaaGreatDoor
namespace Go.Proofs.YtefpllpichhojaaGreatDoor
section
variable {T : TreeD} {m : RefD}
theorem Like.perm (h : Like T m) : T.ids.Perm (m.files.map FilD.id ++ (m.list.filter fun e => e.dir).map EntD.id) := by
 have hpw : m.list.Pairwise fun a b => a.path ≠ b.path := List.pairwise_map.1 h.flat.pnd
 have hB : ((m.list.filter fun e => e.dir).map EntD.id).Nodup := by
  refine List.pairwise_map.2 ((hpw.filter _).imp_of_mem ?_)
  intro a b ha hb hab e
  have ha := List.mem_filter.1 ha
  have hb := List.mem_filter.1 hb
  obtain ⟨l, h1, h2⟩ := (h.flat.ent a).1 ha.1
  obtain ⟨l', h3, h4⟩ := (h.flat.ent b).1 hb.1
  have ha2 := ha.2
  rw [h2] at e ha2
  rw [h4] at e
  have := h.good.walk_inj l l' h1 ha2 e
  rw [h2, h4, this] at hab
  exact hab rfl
 have hdir : ∀ i, i ∈ ((m.list.filter fun e => e.dir).map EntD.id) ↔ i ∈ T.ids ∧ (T.node i).dir = true := by
  intro i
  rw [List.mem_map]
  constructor
  · rintro ⟨e, he, rfl⟩
    obtain ⟨he, hd⟩ := List.mem_filter.1 he
    obtain ⟨l, h1, h2⟩ := (h.flat.ent e).1 he
    rw [h2] at hd ⊢
    exact ⟨h.good.walk_mem l 1 h.good.root h1, hd⟩
  · rintro ⟨hi, hd⟩
    obtain ⟨_, _, l, hl⟩ := h.dirs i hi hd
    have h0 := h.good.low i hi
    refine ⟨⟨joinP l, walkT T 1 l, (T.node (walkT T 1 l)).dir⟩, List.mem_filter.2 ⟨(h.flat.ent _).2 ⟨l, by omega, rfl⟩, by rw [hl]; exact hd⟩, hl⟩
 have hfil : ∀ i, i ∈ m.files.map FilD.id ↔ i ∈ T.ids ∧ (T.node i).dir = false := by
  intro i
  rw [List.mem_map]
  constructor
  · rintro ⟨f, hf, rfl⟩
    have := (h.fil f).1 hf
    exact ⟨this.1, this.2.1⟩
  · rintro ⟨hi, hd⟩
    exact ⟨⟨i, (T.node i).data⟩, (h.fil _).2 ⟨hi, hd, rfl⟩, rfl⟩
 refine (List.perm_ext_iff_of_nodup h.good.nodup (List.nodup_append.2 ⟨h.fnd, hB, fun a ha b hb e => ?_⟩)).2 fun i => ?_
 · have h1 := ((hfil a).1 ha).2
   have h2 := ((hdir b).1 hb).2
   rw [e, h2] at h1; cases h1
 · rw [List.mem_append, hfil, hdir]
   cases (T.node i).dir <;> simp
theorem Like.nodes (h : Like T m) : T.ids.length = nodesM m := by
 rw [h.perm.length_eq, List.length_append, List.length_map, List.length_map, nodesM, List.countP_eq_length_filter]
theorem Like.file_data (h : Like T m) {f : FilD} (hf : f ∈ m.files) : (T.node f.id).data = f.data := ((h.fil f).1 hf).2.2.symm
theorem Like.dir_facts (h : Like T m) {i : Int} (hi : i ∈ (m.list.filter fun e => e.dir).map EntD.id) : (T.node i).links = 1 ∧ (T.node i).data = [] := by
 obtain ⟨e, he, rfl⟩ := List.mem_map.1 hi
 obtain ⟨he, hd⟩ := List.mem_filter.1 he
 obtain ⟨l, h1, h2⟩ := (h.flat.ent e).1 he
 rw [h2] at hd ⊢
 have := h.dirs _ (h.good.walk_mem l 1 h.good.root h1) hd
 exact ⟨this.1, this.2.1⟩
theorem sum_none (L : List Int) (f : Int → Nat) (h : ∀ i ∈ L, f i = 0) : (L.map f).sum = 0 := by
 induction L with
 | nil => rfl
 | cons a L ih => rw [List.map_cons, List.sum_cons, h a List.mem_cons_self, ih fun i hi => h i (List.mem_cons_of_mem _ hi)]
theorem Like.used (h : Like T m) : usedT T = usedM m := by
 unfold usedT usedM
 have e0 : (((m.list.filter fun e => e.dir).map EntD.id).map fun i => (T.node i).data.length).sum = 0 := sum_none _ _ fun i hi => by rw [(h.dir_facts hi).2]; rfl
 rw [(h.perm.map _).sum_nat, List.map_append, List.sum_append, e0, List.map_map, Nat.add_zero]
 congr 1
 refine List.map_congr_left fun f hf => ?_
 simp only [Function.comp]
 rw [h.file_data hf]
theorem sort_perm {X Y : List Int} (h : X.Perm Y) : (X.mergeSort fun x y => decide (x ≤ y)) = Y.mergeSort fun x y => decide (x ≤ y) := by
 have h1 : ∀ a b c : Int, decide (a ≤ b) = true → decide (b ≤ c) = true → decide (a ≤ c) = true := fun a b c h1 h2 => by simp only [decide_eq_true_eq] at *; omega
 have h2 : ∀ a b : Int, (decide (a ≤ b) || decide (b ≤ a)) = true := fun a b => by simp only [Bool.or_eq_true, decide_eq_true_eq]; omega
 have s1 := List.pairwise_mergeSort h1 h2 X
 have s2 := List.pairwise_mergeSort h1 h2 Y
 exact ((List.mergeSort_perm X _).trans (h.trans (List.mergeSort_perm _ _).symm)).eq_of_pairwise (fun a b _ _ k1 k2 => by simp only [decide_eq_true_eq] at k1 k2; omega) s1 s2
theorem Like.loose (h : Like T m) : looseT T = looseM m := by
 unfold looseT looseM
 refine sort_perm ?_
 refine (h.perm.filter _).trans ?_
 rw [List.filter_append]
 have e1 : ((m.list.filter fun e => e.dir).map EntD.id).filter (fun i => decide ((T.node i).links = 0)) = [] := by
  rw [List.filter_eq_nil_iff]
  intro i hi
  rw [(h.dir_facts hi).1]
  simp
 rw [e1, List.append_nil]
 have e2 : (m.files.map FilD.id).filter (fun i => decide ((T.node i).links = 0)) = (m.files.map FilD.id).filter fun i => decide (countM m i = 0) := by
  refine List.filter_congr fun i hi => ?_
  obtain ⟨f, hf, rfl⟩ := List.mem_map.1 hi
  obtain ⟨h1, h2, _⟩ := (h.fil f).1 hf
  rw [h.links _ h1 h2]
  congr 1
  exact propext (by omega)
 rw [e2]
theorem Like.run (L : List OpD) : ∀ {T : TreeD} {m : RefD}, Like T m → (runM m L).2 = (runT T L).2 ∧ Like (runT T L).1 (runM m L).1 := by
 induction L with
 | nil => intro T m h; exact ⟨rfl, h⟩
 | cons o L ih =>
   intro T m h
   obtain ⟨h1, h2⟩ := h.step o
   unfold runT runM
   by_cases hz : (stepT T o).2 = 0
   · rw [if_pos hz, if_pos (by rw [h1]; exact hz)]
     exact ih h2
   · rw [if_neg hz, if_neg (by rw [h1]; exact hz)]
     exact ⟨h1, h2⟩
theorem Like.do (h : Like T m) (L : List OpD) : (doM m L).2 = (doT T L).2 ∧ Like (doT T L).1 (doM m L).1 := by
 obtain ⟨h1, h2⟩ := h.run L
 unfold doT doM
 by_cases c1 : (runT T L).2 ≠ 0
 · rw [if_pos c1, if_pos (by rw [h1]; exact c1), h1]; exact ⟨rfl, h⟩
 rw [if_neg c1, if_neg (by rw [h1]; exact c1)]
 by_cases c2 : 128 < (runT T L).1.ids.length
 · rw [if_pos c2, if_pos (by rw [← h2.nodes]; exact c2)]; exact ⟨rfl, h⟩
 rw [if_neg c2, if_neg (by rw [← h2.nodes]; exact c2)]
 by_cases c3 : T.quota < usedT (runT T L).1
 · rw [if_pos c3, if_pos (by rw [← h2.used, h.quota]; exact c3)]; exact ⟨rfl, h⟩
 rw [if_neg c3, if_neg (by rw [← h2.used, h.quota]; exact c3)]
 exact ⟨rfl, h2⟩
theorem new_like (q : Int) : Like (newT q) (newM q) := by
 have hw : ∀ l, walkT (newT q) 1 l = if l = [] then 1 else 0 := by
  intro l
  cases l with
  | nil => rfl
  | cons x r =>
    have e : kidT (newT q) 1 x = 0 := rfl
    unfold walkT
    rw [if_pos e]
    simp
 refine ⟨newT_good q, ⟨fun l hl => ?_, by simp [newM], fun e => ?_⟩, rfl, rfl, by simp [newM], fun f => ?_, fun i hi hd => ?_, fun i hi hd => ⟨rfl, rfl, [], ?_⟩⟩
 · rw [hw] at hl
   split at hl
   · rename_i e; rw [e]; exact pathL_root
   · exact absurd rfl hl
 · simp only [newM, List.mem_singleton]
   constructor
   · rintro rfl; exact ⟨[], by rw [hw]; decide, rfl⟩
   · rintro ⟨l, h1, rfl⟩
     rw [hw] at h1
     split at h1
     · rename_i e; rw [e]; rfl
     · exact absurd rfl h1
 · constructor
   · intro hf; simp [newM] at hf
   · rintro ⟨_, h2, _⟩; cases h2
 · cases hd
 · simp only [newT, List.mem_singleton] at hi; rw [hi]; rfl
end
end Go.Proofs.YtefpllpichhojaaGreatDoor
namespace Go.Proofs.YtefpllpichhojaaGreatDoor
def reapsM (m : RefD) (X : List Int) : RefD := X.foldl reapM m
theorem Like.reap' {T : TreeD} {m : RefD} (h : Like T m) (i : Int) : Like (reapT T i) (reapM m i) := by
 have e : reapT T i = if i ∈ T.ids ∧ (T.node i).links = 0 then delT T i else T := by
  unfold reapT
  by_cases hc : i ∈ T.ids ∧ (T.node i).links = 0
  · simp only [if_pos hc]
  · simp only [if_neg hc]
 rw [e]
 exact h.reap i
theorem Like.reaps : ∀ (X : List Int) {T : TreeD} {m : RefD}, Like T m → Like (reapsT T X) (reapsM m X)
 | [], _, _, h => h
 | i :: X, _, _, h => Like.reaps X (h.reap' i)
theorem reapM_list (m : RefD) (i : Int) : (reapM m i).list = m.list := by unfold reapM; split <;> rfl
theorem reapM_files (m : RefD) (i : Int) : (reapM m i).files.length ≤ m.files.length := by
 unfold reapM; split
 · exact Nat.le_refl _
 · exact List.length_filter_le _ _
theorem reapM_quota (m : RefD) (i : Int) : (reapM m i).quota = m.quota := by unfold reapM; split <;> rfl
theorem reapsM_facts : ∀ (X : List Int) (m : RefD), (reapsM m X).list = m.list ∧ (reapsM m X).files.length ≤ m.files.length ∧ (reapsM m X).quota = m.quota
 | [], _ => ⟨rfl, Nat.le_refl _, rfl⟩
 | i :: X, m => by
   obtain ⟨h1, h2, h3⟩ := reapsM_facts X (reapM m i)
   exact ⟨h1.trans (reapM_list m i), Nat.le_trans h2 (reapM_files m i), h3.trans (reapM_quota m i)⟩
end Go.Proofs.YtefpllpichhojaaGreatDoor
namespace Go.Proofs.YtefpllpichhojaaGreatDoor
variable [Low]
structure SubM (P : Int → Bool) (m m' : RefD) : Prop where
 list : m'.list = m.list
 next : m'.next = m.next
 quota : m'.quota = m.quota
 files : m'.files = m.files.filter fun f => P f.id
 high : ∀ i, m.next ≤ i → P i = true
 ents : ∀ e ∈ m.list, P e.id = true
omit [Low] in
theorem wrote_filter (P : Int → Bool) (i : Int) (d : By) (F : List FilD) : (F.filter fun f => P f.id).map (wroteF i d) = (F.map (wroteF i d)).filter fun f => P f.id := by
 induction F with
 | nil => rfl
 | cons f F ih =>
   have e : (wroteF i d f).id = f.id := by
    unfold wroteF
    by_cases h : f.id = i
    · rw [if_pos h, h]
    · rw [if_neg h]
   rw [List.map_cons, List.filter_cons, List.filter_cons, e]
   split
   · rw [List.map_cons, ih]
   · exact ih
omit [Low] in
theorem SubM.step {P : Int → Bool} {m m' : RefD} (h : SubM P m m') (o : OpD) : (stepM m' o).2 = (stepM m o).2 ∧ SubM P (stepM m o).1 (stepM m' o).1 := by
 obtain ⟨l, f, n, q⟩ := m
 obtain ⟨l', f', n', q'⟩ := m'
 obtain ⟨h1, h2, h3, h4, h5, h6⟩ := h
 simp only at h1 h2 h3 h4 h5 h6
 subst h1; subst h2; subst h3; subst h4
 have e1 : ∀ p, placeM ⟨l', f.filter fun f => P f.id, n', q'⟩ p = placeM ⟨l', f, n', q'⟩ p := fun _ => rfl
 have e2 : ∀ p, entM ⟨l', f.filter fun f => P f.id, n', q'⟩ p = entM ⟨l', f, n', q'⟩ p := fun _ => rfl
 have base : SubM P ⟨l', f, n', q'⟩ ⟨l', f.filter fun f => P f.id, n', q'⟩ := ⟨rfl, rfl, rfl, rfl, h5, h6⟩
 have lst : ∀ L : List EntD, (∀ e ∈ L, P e.id = true) → SubM P ⟨L, f, n', q'⟩ ⟨L, f.filter fun f => P f.id, n', q'⟩ := fun _ h => ⟨rfl, rfl, rfl, rfl, h5, h⟩
 have less : ∀ (L : List EntD) p, (∀ e ∈ L, P e.id = true) → ∀ e ∈ L.eraseP (isP p), P e.id = true := fun L p h e he => h e (List.mem_of_mem_eraseP he)
 have more : ∀ (L : List EntD) (x : EntD), P x.id = true → (∀ e ∈ L, P e.id = true) → ∀ e ∈ L ++ [x], P e.id = true := fun L x hx h e he => by
  rcases List.mem_append.1 he with he | he
  · exact h e he
  · rw [List.mem_singleton.1 he]; exact hx
 have found : ∀ p x, entM ⟨l', f, n', q'⟩ p = some x → P x.id = true := fun p x hx => h6 x (List.mem_of_find?_eq_some hx)
 unfold stepM
 simp only [e1, e2]
 by_cases c1 : o.kind < 0 ∨ 6 < o.kind
 · simp only [if_pos c1]; exact ⟨by first | rfl | trivial, base⟩
 simp only [if_neg c1]
 by_cases c2 : placeM ⟨l', f, n', q'⟩ o.path ≠ 0
 · simp only [if_pos c2]; exact ⟨by first | rfl | trivial, base⟩
 simp only [if_neg c2]
 by_cases c3 : 3500 < o.data.length
 · simp only [if_pos c3]; exact ⟨by first | rfl | trivial, base⟩
 simp only [if_neg c3]
 by_cases c4 : o.kind = 0 ∨ o.kind = 2
 · simp only [if_pos c4]
   cases hx : entM ⟨l', f, n', q'⟩ o.path with
   | some x => exact ⟨by first | rfl | trivial, base⟩
   | none =>
     refine ⟨rfl, rfl, rfl, rfl, ?_, fun i hi => h5 i (by have hi : n' + 1 ≤ i := hi; omega), more _ _ (h5 _ (Int.le_refl _)) h6⟩
     simp only
     by_cases c5 : o.kind = 2
     · simp only [if_pos c5, List.filter_append]
       congr 1
       simp [h5 n' (Int.le_refl _)]
     · simp only [if_neg c5]
 simp only [if_neg c4]
 cases hx : entM ⟨l', f, n', q'⟩ o.path with
 | none => exact ⟨by first | rfl | trivial, base⟩
 | some x =>
   simp only
   by_cases c5 : o.kind = 1
   · simp only [if_pos c5]
     by_cases c6 : x.dir = false
     · simp only [if_pos c6]; exact ⟨by first | rfl | trivial, base⟩
     simp only [if_neg c6]
     by_cases c7 : l'.any (fun e => belowP o.path e.path) = true
     · simp only [if_pos c7]; exact ⟨by first | rfl | trivial, base⟩
     simp only [if_neg c7]
     exact ⟨by first | rfl | trivial, lst _ (less _ _ h6)⟩
   simp only [if_neg c5]
   by_cases c6 : x.dir = true
   · simp only [if_pos c6]; exact ⟨by first | rfl | trivial, base⟩
   simp only [if_neg c6]
   by_cases c7 : o.kind = 3
   · simp only [if_pos c7]; exact ⟨by first | rfl | trivial, rfl, rfl, rfl, wrote_filter P _ _ _, h5, h6⟩
   simp only [if_neg c7]
   by_cases c8 : o.kind = 6
   · simp only [if_pos c8]; exact ⟨by first | rfl | trivial, lst _ (less _ _ h6)⟩
   simp only [if_neg c8]
   by_cases c9 : placeM ⟨l', f, n', q'⟩ o.dest ≠ 0
   · simp only [if_pos c9]; exact ⟨by first | rfl | trivial, base⟩
   simp only [if_neg c9]
   cases hy : entM ⟨l', f, n', q'⟩ o.dest with
   | some y =>
     simp only
     by_cases d1 : o.kind = 4
     · simp only [if_pos d1]; exact ⟨by first | rfl | trivial, base⟩
     simp only [if_neg d1]
     by_cases d2 : y.dir = true
     · simp only [if_pos d2]; exact ⟨by first | rfl | trivial, base⟩
     simp only [if_neg d2]
     by_cases d3 : y.id = x.id
     · simp only [if_pos d3]; exact ⟨by first | rfl | trivial, base⟩
     simp only [if_neg d3]
     exact ⟨by first | rfl | trivial, lst _ (more _ ⟨_, _, _⟩ (show P x.id = true from found _ _ hx) (less _ _ (less _ _ h6)))⟩
   | none =>
     simp only
     by_cases d1 : o.kind = 4
     · simp only [if_pos d1]; exact ⟨by first | rfl | trivial, lst _ (more _ ⟨_, _, _⟩ (show P x.id = true from found _ _ hx) h6)⟩
     simp only [if_neg d1]
     exact ⟨by first | rfl | trivial, lst _ (more _ ⟨_, _, _⟩ (show P x.id = true from found _ _ hx) (less _ _ h6))⟩
omit [Low] in
theorem SubM.run {P : Int → Bool} : ∀ (L : List OpD) {m m' : RefD}, SubM P m m' → (runM m' L).2 = (runM m L).2 ∧ SubM P (runM m L).1 (runM m' L).1
 | [], _, _, h => ⟨rfl, h⟩
 | o :: L, m, m', h => by
   have hs := h.step o
   unfold runM
   rw [hs.1]
   split
   · exact SubM.run L hs.2
   · exact ⟨hs.1, hs.2⟩
omit [Low] in
theorem SubM.nodes {P : Int → Bool} {m m' : RefD} (h : SubM P m m') : nodesM m' ≤ nodesM m := by
 unfold nodesM
 rw [h.list, h.files]
 have := List.length_filter_le (fun f : FilD => P f.id) m.files
 omega
omit [Low] in
theorem sum_filter_le {α : Type} (P : α → Bool) (f : α → Nat) (L : List α) : ((L.filter P).map f).sum ≤ (L.map f).sum := by
 induction L with
 | nil => exact Nat.le_refl _
 | cons x L ih =>
   rw [List.filter_cons]
   split <;> simp only [List.map_cons, List.sum_cons] <;> omega
omit [Low] in
theorem SubM.used {P : Int → Bool} {m m' : RefD} (h : SubM P m m') : usedM m' ≤ usedM m := by
 unfold usedM
 rw [h.files]
 exact sum_filter_le _ _ _
omit [Low] in
theorem doM_ok {m : RefD} {L : List OpD} (h : (doM m L).2 = 0) : (runM m L).2 = 0 ∧ nodesM (runM m L).1 ≤ 128 ∧ (usedM (runM m L).1 : Int) ≤ m.quota ∧ (doM m L).1 = (runM m L).1 := by
 unfold doM at h ⊢
 split at h
 · rename_i h1; exact absurd h h1
 rename_i h1
 split at h
 · exact absurd h (fun e => by have e : (7 : Int) = 0 := e; omega)
 rename_i h2
 split at h
 · exact absurd h (fun e => by have e : (13 : Int) = 0 := e; omega)
 rename_i h3
 rw [if_neg h1, if_neg h2, if_neg h3]
 exact ⟨by simpa using h1, by omega, by omega, rfl⟩
omit [Low] in
theorem doM_of {m : RefD} {L : List OpD} (h1 : (runM m L).2 = 0) (h2 : nodesM (runM m L).1 ≤ 128) (h3 : (usedM (runM m L).1 : Int) ≤ m.quota) : doM m L = ((runM m L).1, 0) := by
 unfold doM
 rw [if_neg (by simpa using h1), if_neg (by omega), if_neg (by omega)]
omit [Low] in
theorem SubM.do {P : Int → Bool} {m m' : RefD} (h : SubM P m m') {L : List OpD} (hok : (doM m L).2 = 0) : (doM m' L).2 = 0 ∧ SubM P (doM m L).1 (doM m' L).1 := by
 obtain ⟨h1, h2, h3, h4⟩ := doM_ok hok
 have hr := h.run L
 have hn := hr.2.nodes
 have hu := hr.2.used
 have e := doM_of (m := m') (L := L) (by rw [hr.1]; exact h1) (by omega) (by rw [h.quota]; omega)
 rw [e, h4]
 exact ⟨rfl, hr.2⟩
def bareM (m : RefD) : RefD := { m with files := m.files.filter fun f => decide (0 < countM m f.id) }
omit [Low] in
theorem SubM.bare {P : Int → Bool} {m m' : RefD} (h : SubM P m m') : bareM m' = bareM m := by
 have hP : ∀ i, 0 < countM m i → P i = true := fun i hi => by
  unfold countM at hi
  obtain ⟨e, he, hi⟩ := List.countP_pos_iff.1 hi
  rw [← of_decide_eq_true hi]
  exact h.ents e he
 have hc : ∀ i, countM m' i = countM m i := fun i => by unfold countM; rw [h.list]
 have e : m'.files.filter (fun f => decide (0 < countM m' f.id)) = m.files.filter fun f => decide (0 < countM m f.id) := by
  rw [h.files, List.filter_filter]
  congr 1
  funext f
  rw [hc]
  by_cases h0 : 0 < countM m f.id
  · simp [h0, hP _ h0]
  · simp [h0]
 unfold bareM
 rw [e, h.list, h.next, h.quota]
omit [Low] in
theorem reapM_count (m : RefD) (i j : Int) : countM (reapM m i) j = countM m j := by
 unfold countM; rw [reapM_list]
omit [Low] in
theorem bare_reap (m : RefD) (i : Int) : bareM (reapM m i) = bareM m := by
 have hc := reapM_count m i
 unfold bareM
 simp only [hc]
 unfold reapM
 split
 · rfl
 · rename_i h0
   simp only [List.filter_filter]
   congr 1
   congr 1
   funext f
   by_cases h1 : f.id = i
   · rw [h1]; simp [h0]
   · simp [h1]
omit [Low] in
theorem bare_reaps : ∀ (X : List Int) (m : RefD), bareM (reapsM m X) = bareM m
 | [], _ => rfl
 | i :: X, m => (bare_reaps X (reapM m i)).trans (bare_reap m i)
omit [Low] in
theorem reapsM_files : ∀ (X : List Int) (m : RefD), (reapsM m X).files = m.files.filter fun f => decide (0 < countM m f.id) || !decide (f.id ∈ X)
 | [], m => by
   show m.files = _
   rw [List.filter_eq_self.2]
   intro f _
   simp
 | i :: X, m => by
   show (reapsM (reapM m i) X).files = _
   rw [reapsM_files X (reapM m i)]
   have hc := reapM_count m i
   simp only [hc]
   unfold reapM
   split
   · rename_i h0
     congr 1
     funext f
     by_cases h1 : f.id = i
     · rw [h1]; simp [h0]
     · simp [h1]
   · rename_i h0
     simp only [List.filter_filter]
     congr 1
     funext f
     by_cases h1 : f.id = i
     · rw [h1]; simp [h0]
     · simp [h1]
omit [Low] in
theorem reapsM_bare (m : RefD) : reapsM m (looseM m) = bareM m := by
 have h := reapsM_facts (looseM m) m
 have hn : ∀ (X : List Int) (m : RefD), (reapsM m X).next = m.next := by
  intro X
  induction X with
  | nil => intro m; rfl
  | cons i X ih =>
    intro m
    show (reapsM (reapM m i) X).next = _
    rw [ih]
    unfold reapM
    split <;> rfl
 have hf := reapsM_files (looseM m) m
 have e : (m.files.filter fun f => decide (0 < countM m f.id) || !decide (f.id ∈ looseM m)) = m.files.filter fun f => decide (0 < countM m f.id) := by
  apply List.filter_congr
  intro f hf
  by_cases h0 : 0 < countM m f.id
  · simp [h0]
  · have h1 : f.id ∈ looseM m := by
        unfold looseM
        rw [List.mem_mergeSort, List.mem_filter]
        exact ⟨List.mem_map_of_mem hf, by simp; omega⟩
    simp [h0, h1]
 rw [e] at hf
 have hx : ∀ a b : RefD, a.list = b.list → a.files = b.files → a.next = b.next → a.quota = b.quota → a = b := by
  rintro ⟨_, _, _, _⟩ ⟨_, _, _, _⟩ h1 h2 h3 h4
  simp only at h1 h2 h3 h4
  subst h1; subst h2; subst h3; subst h4; rfl
 exact hx _ _ h.1 hf (hn _ m) h.2.2
def sweepM (m : RefD) (hd : Int → Nat) : RefD := reapsM m ((looseM m).filter fun i => !decide (0 < hd i))
omit [Low] in
theorem bare_sweep (m : RefD) (hd : Int → Nat) : bareM (sweepM m hd) = bareM m := bare_reaps _ _
omit [Low] in
theorem bare_do {m : RefD} {L : List OpD} (hlow : ∀ f ∈ m.files, f.id < m.next) (h : (doM m L).2 = 0) : (doM (bareM m) L).2 = 0 ∧ bareM (doM (bareM m) L).1 = bareM (doM m L).1 := by
 have hs : SubM (fun i => decide (0 < countM m i) || decide (m.next ≤ i)) m (bareM m) := by
  refine ⟨rfl, rfl, rfl, ?_, fun i hi => by simp [hi], fun e he => ?_⟩
  rotate_left
  · have : 0 < countM m e.id := List.countP_pos_iff.2 ⟨e, he, by simp⟩
    simp [this]
  show m.files.filter _ = _
  apply List.filter_congr
  intro f hf
  have := hlow f hf
  have : ¬ m.next ≤ f.id := by omega
  simp [this]
 have hd := hs.do h
 exact ⟨hd.1, hd.2.bare⟩
def KeptL (q : Int) (rows : List By) (mb : RefD) : Prop :=
 ∃ S opss U, rows = S.map snapB ++ opss.map doneB ∧ BaseT q S U ∧ GoodT U ∧ FitT U 200000 ∧ ChainR U opss ∧ Like (finR U opss) mb
omit [Low] in
theorem KeptL.new (q : Int) : KeptL q [] (newM q) :=
 ⟨[], [], newT q, rfl, Or.inl ⟨rfl, rfl⟩, newT_good q, (newT_fit q).mono (by omega), ChainR.nil _, new_like q⟩
omit [Low] in
theorem Like.low {T : TreeD} {m : RefD} (h : Like T m) : ∀ f ∈ m.files, f.id < m.next := fun f hf => by
 rw [h.next]
 exact (h.good.low _ ((h.fil f).1 hf).1).2
omit [Low] in
theorem Like.again {T : TreeD} {m : RefD} (h : Like T m) (L : List OpD) : Like (againT T L) (bareM (doM m L).1) := by
 have h1 := (h.do L).2
 have h2 := h1.reaps (looseT (doT T L).1)
 rw [h1.loose, reapsM_bare] at h2
 have e : againT T L = reapsT (doT T L).1 (looseM (doM m L).1) := by rw [← h1.loose]; rfl
 rw [e]
 exact h2
omit [Low] in
theorem KeptL.do {q : Int} {rows : List By} {m : RefD} (h : KeptL q rows (bareM m)) (hlow : ∀ f ∈ m.files, f.id < m.next) {L : List OpD} (hok : (doM m L).2 = 0) (hfo : ∀ o ∈ L, FitOp o) (hpk : (packOps L).length ≤ 4095) :
 KeptL q (rows ++ [doneB L]) (bareM (doM m L).1) := by
 obtain ⟨S, opss, U, h1, h2, h3, h4, h5, h6⟩ := h
 obtain ⟨h7, h8⟩ := bare_do hlow hok
 have h9 := h6.again L
 have h10 := (h6.do L).1
 refine ⟨S, opss ++ [L], U, by rw [h1]; simp, h2, h3, h4, h5.snoc ⟨hfo, by rw [← h10]; exact h7, hpk, h9.good⟩, ?_⟩
 rw [finR_snoc, ← h8]
 exact h9
end Go.Proofs.YtefpllpichhojaaGreatDoor
namespace Go.Proofs.YtefpllpichhojaaGreatDoor
open Go.RowKit
variable [Low]
section
variable {X : Nat → Prop} {w w' : World} {vb db kb n N tb lb hb mb : Nat} {A : Int → NodeA} {V : VolD}
set_option maxRecDepth 100000 in
set_option maxHeartbeats 3200000 in
theorem vol_Hold_none (hE : Env w) (h : VolM X w vb db kb n N V) (p : By) (hi : findT V.T p = 0) (hN : N ≤ 1000000000) :
 Calls Tryz.prog 104 #[.pointer (some ⟨vb, 0, none⟩), .string (bs p)] w fun e w' => e = .returned (.tuple #[.int .i64 0, .int .i64 8]) ∧ Ext w w' := by
 obtain ⟨Q, hQ⟩ : ∃ Q : Ending → World → Prop, Q = fun e w' => e = .returned (.tuple #[.int .i64 0, .int .i64 8]) ∧ Ext w w' := ⟨_, rfl⟩
 rw [← hQ]
 have HQ := Lib.hid hQ; clear hQ
 obtain ⟨tb, lb, hb, mb, A, h⟩ := h
 have hfd := tree_Find p w hE h.tree h.good (by have := h.fit.next; omega)
 rw [hi] at hfd
 have c0 := blk_cell h.top 0 (.pointer (some ⟨tb, 0, none⟩)) rfl
 have HFD := Lib.hid hfd
 clear hfd h
 have ed : decide ((0 : Int) ≠ 0) = false := rfl
 rw [ed] at HFD
 go_enter Tryz.func104, Tryz.ntmps104
 go_wp2_with (go_at_call 69; refine HFD.out.mono ?_; rintro e w1 ⟨rfl, hx1⟩; have HX1 := Lib.hid hx1; clear hx1)
 rw [HQ.out]
 exact ⟨rfl, HX1.out⟩
set_option maxRecDepth 100000 in
set_option maxHeartbeats 3200000 in
theorem vol_Hold_dir (hE : Env w) (h : VolM X w vb db kb n N V) (p : By) (i : Int) (hi : findT V.T p = i) (h0 : i ≠ 0) (hdir : (V.T.node i).dir = true) (hN : N ≤ 1000000000) :
 Calls Tryz.prog 104 #[.pointer (some ⟨vb, 0, none⟩), .string (bs p)] w fun e w' => e = .returned (.tuple #[.int .i64 0, .int .i64 10]) ∧ Ext w w' := by
 obtain ⟨Q, hQ⟩ : ∃ Q : Ending → World → Prop, Q = fun e w' => e = .returned (.tuple #[.int .i64 0, .int .i64 10]) ∧ Ext w w' := ⟨_, rfl⟩
 rw [← hQ]
 have HQ := Lib.hid hQ; clear hQ
 obtain ⟨tb, lb, hb, mb, A, h⟩ := h
 have hfd := tree_Find p w hE h.tree h.good (by have := h.fit.next; omega)
 have hdr := fun W hx => tree_Dir p W (hE.ext hx) (h.tree.ext hx) h.good (by have := h.fit.next; omega)
 rw [hi] at hfd hdr
 have c0 := blk_cell h.top 0 (.pointer (some ⟨tb, 0, none⟩)) rfl
 have HFD := Lib.hid hfd; have HDR := Lib.hid hdr
 clear hfd hdr h
 have ed : decide (i ≠ 0) = true := decide_eq_true h0
 rw [ed] at HFD
 rw [ed, hdir] at HDR
 clear ed hdir
 go_enter Tryz.func104, Tryz.ntmps104
 go_wp2_with (first
  | (go_at_call 69; refine HFD.out.mono ?_; rintro e w1 ⟨rfl, hx1⟩; have c0 := hx1.cell c0; have HX1 := Lib.hid hx1; clear hx1)
  | (go_at_call 70; refine (HDR.out _ HX1.out).mono ?_; rintro e w2 ⟨rfl, hx2⟩; have HX2 := Lib.hid hx2; clear hx2))
 rw [HQ.out]
 exact ⟨rfl, HX1.out.trans HX2.out⟩
end
def VolK (X : Nat → Prop) (w : World) (vb db kb n N off top : Nat) (q : Int) (m : RefD) (hd : Int → Nat) : Prop :=
 ∃ V, VolM X w vb db kb n N V ∧ Like V.T m ∧ heldN V.hd = hd ∧ V.L.off = off ∧ V.L.top = top ∧ V.q = q ∧ KeptL q V.L.list (bareM m)
section
variable {X : Nat → Prop} {w w' : World} {vb db kb n N off top : Nat} {q : Int} {m : RefD} {hd : Int → Nat}
theorem VolK.ext (h : VolK X w vb db kb n N off top q m hd) (k : Ext w w') : VolK X w' vb db kb n N off top q m hd := by
 obtain ⟨V, h1, h2⟩ := h
 exact ⟨V, h1.ext k, h2⟩
theorem VolK.mono (h : VolK X w vb db kb n N off top q m hd) {M : Nat} (hM : N ≤ M) : VolK X w vb db kb n M off top q m hd := by
 obtain ⟨V, h1, h2⟩ := h
 exact ⟨V, h1.mono hM, h2⟩
theorem VolK.more (h : VolK X w vb db kb n N off top q m hd) (k : Ext w w') {Y : Nat → Prop} (hY : ∀ g, Y g → X g ∨ (w.heap.size ≤ g ∧ g < w'.heap.size)) : VolK Y w' vb db kb n N off top q m hd := by
 obtain ⟨V, h1, h2⟩ := h
 exact ⟨V, h1.more k hY, h2⟩
theorem VolK.keepT {ts : List TypeId} (h : VolK X w vb db kb n N off top q m hd) (k : KeepT ts w w') (ht : ∀ t ∈ ts, t ∉ 199 :: 5 :: volT) : VolK X w' vb db kb n N off top q m hd := by
 obtain ⟨V, h1, h2⟩ := h
 exact ⟨V, h1.keepT k ht, h2⟩
theorem VolK.keepM (h : VolK X w vb db kb n N off top q m hd) {g : Nat} (hx : X g) {es : Array MapEntry} {cl : Nat} (hm : w.heap[g]? = some (.map es cl)) (k : Keep (· ≠ g) w w') : VolK X w' vb db kb n N off top q m hd := by
 obtain ⟨V, h1, h2⟩ := h
 exact ⟨V, h1.keepM hx hm k, h2⟩
theorem VolK.tree (h : VolK X w vb db kb n N off top q m hd) : ∃ tb T, w.cell? ⟨vb, 0, none⟩ = some (.pointer (some ⟨tb, 0, none⟩)) ∧ TreeAt w Low.low tb N T ∧ Like T m := by
 obtain ⟨V, ⟨tb, lb, hb, mb, A, h⟩, h2, _⟩ := h
 exact ⟨tb, V.T, blk_cell h.top 0 _ rfl, ⟨h.good, h.fit, mb, A, h.tree⟩, h2⟩
theorem at_vDo (hE : Env w) (h : VolK X w vb db kb n N off top q m hd) {a : Option Addr} {c : Nat} {L : List (OpD × OpA)} (hL : OpsL w a L) (hok : (doM m (L.map Prod.fst)).2 = 0) (hfo : ∀ o ∈ L.map Prod.fst, FitOp o) (hpk : (packOps (L.map Prod.fst)).length ≤ 4095) (hroom : off + secN (doneB (L.map Prod.fst)).length ≤ halfN n) (htop : top ≤ 2147483000) (hN : N + 2 * L.length ≤ 1000000000) :
 Calls Tryz.prog 24 #[.pointer (some ⟨vb, 0, none⟩), .slice a L.length c] w fun e w' => e = .returned (.int .i64 0) ∧ VolK X w' vb db kb n (N + 2 * L.length) (off + secN (doneB (L.map Prod.fst)).length) top q (sweepM (doM m (L.map Prod.fst)).1 hd) hd ∧ KeepY X w w' := by
 obtain ⟨V, h1, h2, rfl, rfl, rfl, rfl, h7⟩ := h
 have h3 := (h2.do (L.map Prod.fst))
 have h4 : Like (doV n V (L.map Prod.fst)).T (sweepM (doM m (L.map Prod.fst)).1 (heldN V.hd)) := by
  have h5 := h3.2.reaps (freeX (putV n V (L.map Prod.fst)))
  have e : freeX (putV n V (L.map Prod.fst)) = (looseM (doM m (L.map Prod.fst)).1).filter fun i => !decide (0 < heldN V.hd i) := by
   rw [← h3.2.loose]; rfl
  unfold sweepM
  rw [← e]
  exact h5
 refine (vol_Do hE h1 hL (by rw [← h3.1]; exact hok) hpk hroom htop hN h4.good).mono ?_
 rintro e w' ⟨he, hv, hk⟩
 refine ⟨he, ⟨_, hv, h4, rfl, rfl, rfl, rfl, ?_⟩, hk⟩
 rw [bare_sweep]
 exact h7.do h2.low hok hfo hpk
theorem at_vDoL (hE : Env w) (h : VolK X w vb db kb n N off top q m hd) {a : Option Addr} {c : Nat} {L : List (OpD × OpA)} (hL : OpsL w a L) {ops : List OpD} (hm : L.map Prod.fst = ops) {k : Nat} (hk : L.length = k) {m' m2 : RefD} (hok : doM m ops = (m', 0)) (hsw : sweepM m' hd = m2) (hfo : ∀ o ∈ ops, FitOp o) (hpk : (packOps ops).length ≤ 4095) {off' : Nat} (hoff : off + secN ((packOps ops).length + 1) = off') (hroom : off' ≤ halfN n) (htop : top ≤ 2147483000) {N' : Nat} (hN' : N + 2 * k ≤ N') (hN : N' ≤ 1000000000) :
 Calls Tryz.prog 24 #[.pointer (some ⟨vb, 0, none⟩), .slice a k c] w fun e w' => e = .returned (.int .i64 0) ∧ VolK X w' vb db kb n N' off' top q m2 hd ∧ KeepY X w w' := by
 subst hm; subst hk; subst hsw; subst hoff
 have := at_vDo hE h (c := c) hL (by rw [hok]) hfo hpk hroom htop (by omega)
 rw [hok] at this
 refine this.mono ?_
 rintro e w' ⟨h1, h2, h3⟩
 exact ⟨h1, h2.mono hN', h3⟩
theorem at_vHold (hE : Env w) (h : VolK X w vb db kb n N off top q m hd) (p : By) {i : Int} (hi : entM m p = some ⟨p, i, false⟩) (hN : N + 1 ≤ 1000000000) (hk : hd i ≤ 1000000) :
 Calls Tryz.prog 104 #[.pointer (some ⟨vb, 0, none⟩), .string (bs p)] w fun e w' => e = .returned (.tuple #[.int .i64 i, .int .i64 0]) ∧ VolK X w' vb db kb n (N + 1) off top q m (fun z => if z = i then hd i + 1 else hd z) ∧ KeepY X w w' := by
 obtain ⟨V, h1, h2, rfl, rfl, rfl, rfl, h7⟩ := h
 have h3 := h2.ent_find p
 rw [hi] at h3
 by_cases h0 : findT V.T p = 0
 · rw [if_pos h0] at h3; cases h3
 rw [if_neg h0] at h3
 injection (Option.some.inj h3) with _ h4 h5
 refine (vol_Hold hE h1 p i h4.symm (h4 ▸ h0) (by rw [h4]; exact h5.symm) hN hk).mono ?_
 rintro e w' ⟨he, hv, hk⟩
 refine ⟨he, ⟨_, hv, h2, ?_, rfl, rfl, rfl, h7⟩, hk⟩
 funext z
 unfold heldN holdV
 by_cases hz : z = i
 · subst hz; simp [heldN]
 · simp [hz]
theorem at_vHold_none (hE : Env w) (h : VolK X w vb db kb n N off top q m hd) (p : By) (hi : entM m p = none) (hN : N ≤ 1000000000) :
 Calls Tryz.prog 104 #[.pointer (some ⟨vb, 0, none⟩), .string (bs p)] w fun e w' => e = .returned (.tuple #[.int .i64 0, .int .i64 8]) ∧ Ext w w' := by
 obtain ⟨V, h1, h2, _⟩ := h
 have h3 := h2.ent_find p
 rw [hi] at h3
 by_cases h0 : findT V.T p = 0
 · exact vol_Hold_none hE h1 p h0 hN
 · rw [if_neg h0] at h3; cases h3
theorem at_vHold_dir (hE : Env w) (h : VolK X w vb db kb n N off top q m hd) (p : By) {i : Int} (hi : entM m p = some ⟨p, i, true⟩) (hN : N ≤ 1000000000) :
 Calls Tryz.prog 104 #[.pointer (some ⟨vb, 0, none⟩), .string (bs p)] w fun e w' => e = .returned (.tuple #[.int .i64 0, .int .i64 10]) ∧ Ext w w' := by
 obtain ⟨V, h1, h2, _⟩ := h
 have h3 := h2.ent_find p
 rw [hi] at h3
 by_cases h0 : findT V.T p = 0
 · rw [if_pos h0] at h3; cases h3
 rw [if_neg h0] at h3
 injection (Option.some.inj h3) with _ h4 h5
 exact vol_Hold_dir hE h1 p i h4.symm (h4 ▸ h0) (by rw [h4]; exact h5.symm) hN
theorem at_vLet (h : VolK X w vb db kb n N off top q m hd) (i : Int) (h1 : -9223372036854775808 ≤ i) (h2 : i ≤ 9223372036854775807) (h0 : hd i ≠ 0) (hk : hd i ≤ 1000000) (hN : N + 1 ≤ 1000000000) :
 Calls Tryz.prog 106 #[.pointer (some ⟨vb, 0, none⟩), .int .i64 i] w fun e w' => e = .returned (.int .i64 0) ∧ VolK X w' vb db kb n (N + 1) off top q (sweepM m (fun z => if z = i then hd i - 1 else hd z)) (fun z => if z = i then hd i - 1 else hd z) ∧ KeepY X w w' := by
 obtain ⟨V, h3, h4, rfl, rfl, rfl, rfl, h7⟩ := h
 have e1 : heldN (lessV V i).hd = fun z => if z = i then heldN V.hd i - 1 else heldN V.hd z := by
  funext z
  by_cases hz : z = i
  · subst hz; rw [lessV_held]; simp
  · rw [if_neg hz]; unfold heldN lessV; simp [hz]
 have h5 : Like (letV V i).T (sweepM m (fun z => if z = i then heldN V.hd i - 1 else heldN V.hd z)) := by
  have h6 := h4.reaps (freeX (lessV V i))
  have e : freeX (lessV V i) = (looseM m).filter fun j => !decide (0 < (fun z => if z = i then heldN V.hd i - 1 else heldN V.hd z) j) := by
   rw [← h4.loose, ← e1]; rfl
  unfold sweepM
  rw [← e]
  exact h6
 refine (vol_Let h3 i h1 h2 h0 hk hN h5.good).mono ?_
 rintro e w' ⟨he, hv, hk⟩
 refine ⟨he, ⟨_, hv, h5, e1, rfl, rfl, rfl, ?_⟩, hk⟩
 rw [bare_sweep]
 exact h7
theorem at_vNew (hX : ∀ g, X g → g < w.heap.size) (hd : DiskM w db kb n (fun _ => zeroS)) (h6 : 6 ≤ n ∧ n ≤ 4096) (q : Int) :
 Calls Tryz.prog 64 #[.pointer (some ⟨db, 0, none⟩), .int .i64 q] w fun e w' => ∃ vb, e = .returned (.tuple #[.pointer (some ⟨vb, 0, none⟩), .int .i64 0]) ∧ VolK X w' vb db kb n 200000 0 1 q (newM q) (fun _ => 0) ∧ KeepY X w w' := by
 have hop := log_Open_new hd h6.1 (fun _ _ => rfl)
 have hgl : GoodLog n (rewI n (fun _ => zeroS) log0 []) (newL log0 []) := (weak_zero h6 (fun _ _ => rfl)).rewrite (fun _ h => by cases h) (Nat.zero_le _) (by decide)
 have := vol_OpenN (X := X) (q := q) hX (by have := hd.low.1; obtain ⟨⟨_, _, _, _, _, ht, _⟩, _⟩ := hd; have := (Array.getElem?_eq_some_iff.1 ht).1; omega) (hop.mono (fun e w' ⟨lb, h1, h2, h3⟩ => ⟨lb, h1, h2, h3.mono (by decide)⟩)) hgl rfl
 refine this.mono ?_
 rintro e w' ⟨vb, he, hv, hk⟩
 exact ⟨vb, he, ⟨_, hv.mono (by omega), new_like q, rfl, rfl, rfl, rfl, KeptL.new q⟩, hk⟩
end
end Go.Proofs.YtefpllpichhojaaGreatDoor
namespace Go.Proofs.YtefpllpichhojaaGreatDoor
variable [Low]
section
variable {m : RefD} {p d b : By} {x y : EntD}
end
omit [Low] in
theorem sweepM_eq (m : RefD) (hd : Int → Nat) : sweepM m hd = { m with files := m.files.filter fun f => decide (0 < countM m f.id) || decide (0 < hd f.id) } := by
 have h := reapsM_facts ((looseM m).filter fun i => !decide (0 < hd i)) m
 have hn : ∀ (X : List Int) (m : RefD), (reapsM m X).next = m.next := by
  intro X
  induction X with
  | nil => intro m; rfl
  | cons i X ih =>
    intro m
    show (reapsM (reapM m i) X).next = _
    rw [ih]
    unfold reapM
    split <;> rfl
 have hf := reapsM_files ((looseM m).filter fun i => !decide (0 < hd i)) m
 have e : (m.files.filter fun f => decide (0 < countM m f.id) || !decide (f.id ∈ (looseM m).filter fun i => !decide (0 < hd i))) = m.files.filter fun f => decide (0 < countM m f.id) || decide (0 < hd f.id) := by
  apply List.filter_congr
  intro f hf
  by_cases h0 : 0 < countM m f.id
  · simp [h0]
  · have h1 : f.id ∈ looseM m := by
        unfold looseM
        rw [List.mem_mergeSort, List.mem_filter]
        exact ⟨List.mem_map_of_mem hf, by simp; omega⟩
    by_cases h2 : 0 < hd f.id
    · simp [h0, h1, h2]
    · simp [h0, h1, h2]
 rw [e] at hf
 have hx : ∀ a b : RefD, a.list = b.list → a.files = b.files → a.next = b.next → a.quota = b.quota → a = b := by
  rintro ⟨_, _, _, _⟩ ⟨_, _, _, _⟩ h1 h2 h3 h4
  simp only at h1 h2 h3 h4
  subst h1; subst h2; subst h3; subst h4; rfl
 exact hx _ _ h.1 hf (hn _ m) h.2.2
def fitB (o : OpD) : Bool := decide (0 ≤ o.kind) && decide (o.kind ≤ 6) && decide (o.path.length ≤ 40) && decide (o.dest.length ≤ 40) && decide (o.data.length ≤ 3500)
omit [Low] in
theorem fit_all {L : List OpD} (h : L.all fitB = true) : ∀ o ∈ L, FitOp o := fun o ho => by
 have h1 := List.all_eq_true.1 h o ho
 unfold fitB at h1
 simp only [Bool.and_eq_true, decide_eq_true_eq] at h1
 exact ⟨⟨h1.1.1.1.1, h1.1.1.1.2⟩, h1.1.1.2, h1.1.2, h1.2⟩
def rootE : EntD := ⟨[47], 1, true⟩
end Go.Proofs.YtefpllpichhojaaGreatDoor
namespace Go.Proofs.YtefpllpichhojaaGreatDoor
structure ProcD where
 pid : Int
 unit : By
 maps : List Int
 ending : Bool
structure TabD where
 list : List ProcD
 next : Int
def getP (P : TabD) (i : Int) : Option ProcD := P.list.find? fun p => decide (p.pid = i)
def addP (P : TabD) (p : ProcD) : TabD := ⟨P.list ++ [p], P.next + 1⟩
def noneP : TabD := ⟨[], 1⟩
structure GoodP (P : TabD) : Prop where
 sorted : P.list.Pairwise fun a b => a.pid < b.pid
 low : ∀ p ∈ P.list, 1 ≤ p.pid ∧ p.pid < P.next
 next : 1 ≤ P.next
 few : P.list.length ≤ 32
 maps : ∀ p ∈ P.list, p.maps.length ≤ 8
section
variable {P : TabD}
theorem noneP_good : GoodP noneP := ⟨List.Pairwise.nil, fun _ h => absurd h List.not_mem_nil, Int.le_refl _, Nat.zero_le _, fun _ h => absurd h List.not_mem_nil⟩
theorem getP_some {i : Int} {p : ProcD} (h : getP P i = some p) : p ∈ P.list ∧ p.pid = i :=
 ⟨List.mem_of_find?_eq_some h, by have := List.find?_some h; exact of_decide_eq_true this⟩
theorem getP_none {i : Int} (h : getP P i = none) : ∀ p ∈ P.list, p.pid ≠ i := fun p hp e => by
 have := List.find?_eq_none.1 h p hp
 simp [e] at this
theorem GoodP.add (h : GoodP P) {p : ProcD} (hp : p.pid = P.next) (hm : p.maps.length ≤ 8) (hl : P.list.length < 32) : GoodP (addP P p) := by
 refine ⟨?_, fun q hq => ?_, ?_, ?_, fun q hq => ?_⟩
 · show (P.list ++ [p]).Pairwise _
   rw [List.pairwise_append]
   refine ⟨h.sorted, List.pairwise_singleton _ _, fun a ha b hb => ?_⟩
   rw [List.mem_singleton.1 hb, hp]
   exact (h.low a ha).2
 · show 1 ≤ q.pid ∧ q.pid < P.next + 1
   rcases List.mem_append.1 hq with hq | hq
   · have := h.low q hq; omega
   · rw [List.mem_singleton.1 hq, hp]; have := h.next; omega
 · show 1 ≤ P.next + 1
   have := h.next; omega
 · show (P.list ++ [p]).length ≤ 32
   rw [List.length_append, List.length_singleton]; omega
 · rcases List.mem_append.1 hq with hq | hq
   · exact h.maps q hq
   · rw [List.mem_singleton.1 hq]; exact hm
end
structure FileS where
 m : RefD
 hd : Int → Nat
def holdF (m : RefD) (p : By) : Int × Int := match entM m p with
 | none => (0, 8)
 | some e => if e.dir = true then (0, 10) else (e.id, 0)
def incF (F : FileS) (i : Int) : FileS := ⟨F.m, fun z => if z = i then F.hd i + 1 else F.hd z⟩
def decH (hd : Int → Nat) (i : Int) : Int → Nat := fun z => if z = i then hd i - 1 else hd z
def letF (F : FileS) (i : Int) : FileS := ⟨sweepM F.m (decH F.hd i), decH F.hd i⟩
def letsF (F : FileS) (X : List Int) : FileS := X.foldl letF F
theorem letsF_snoc (F : FileS) (X : List Int) (i : Int) : letsF F (X ++ [i]) = letF (letsF F X) i := by simp [letsF]
theorem letsF_hd : ∀ (X : List Int) (F : FileS) (i : Int), (letsF F X).hd i = F.hd i - X.countP fun x => decide (x = i)
 | [], F, i => by simp [letsF]
 | x :: X, F, i => by
   show (letsF (letF F x) X).hd i = _
   rw [letsF_hd X (letF F x) i, List.countP_cons]
   show decH F.hd x i - _ = _
   unfold decH
   by_cases h : i = x
   · subst h; simp; omega
   · have : ¬ x = i := fun e => h e.symm
     simp [h, this]
def holdsF : FileS → List Int → List By → (FileS × List Int) × Int
 | F, M, [] => ((F, M), 0)
 | F, M, s :: l => if (holdF F.m s).2 = 0 then holdsF (incF F (holdF F.m s).1) (M ++ [(holdF F.m s).1]) l else ((F, M), (holdF F.m s).2)
def spawnF (F : FileS) (P : TabD) (u : By) (paths : List By) : (FileS × TabD) × (Int × Int) :=
 if 8 < paths.length then ((F, P), (0, 22))
 else if 32 ≤ P.list.length then ((F, P), (0, 7))
 else if (holdsF F [] paths).2 = 0 then (((holdsF F [] paths).1.1, addP P ⟨P.next, u, (holdsF F [] paths).1.2, false⟩), (P.next, 0))
 else ((letsF (holdsF F [] paths).1.1 (holdsF F [] paths).1.2, P), (0, (holdsF F [] paths).2))
def cntM (X : List Int) (i : Int) : Nat := X.countP fun x => decide (x = i)
def cntP (P : TabD) (i : Int) : Nat := (P.list.map fun p => cntM p.maps i).sum
def HeldBy (F : FileS) (P : TabD) : Prop := ∀ i, F.hd i = cntP P i
theorem cntM_app (X Y : List Int) (i : Int) : cntM (X ++ Y) i = cntM X i + cntM Y i := List.countP_append ..
theorem cntM_le (X : List Int) (i : Int) : cntM X i ≤ X.length := List.countP_le_length
theorem cntP_add (P : TabD) (p : ProcD) (j : Int) : cntP (addP P p) j = cntP P j + cntM p.maps j := by
 unfold cntP addP; simp
theorem holdsF_hd : ∀ (l : List By) (F : FileS) (M : List Int) (i : Int), (holdsF F M l).1.1.hd i + cntM M i = F.hd i + cntM (holdsF F M l).1.2 i
 | [], F, M, i => rfl
 | s :: l, F, M, i => by
   unfold holdsF
   by_cases h : (holdF F.m s).2 = 0
   · rw [if_pos h]
     have ih := holdsF_hd l (incF F (holdF F.m s).1) (M ++ [(holdF F.m s).1]) i
     rw [cntM_app] at ih
     have e : (incF F (holdF F.m s).1).hd i = F.hd i + cntM [(holdF F.m s).1] i := by
      unfold incF cntM
      by_cases hi : i = (holdF F.m s).1
      · simp [hi]
      · have : ¬ (holdF F.m s).1 = i := fun e => hi e.symm
        simp [hi, this]
     rw [e] at ih
     omega
   · rw [if_neg h]
theorem holdsF_m : ∀ (l : List By) (F : FileS) (M : List Int), (holdsF F M l).1.1.m = F.m
 | [], _, _ => rfl
 | s :: l, F, M => by
   unfold holdsF
   by_cases h : (holdF F.m s).2 = 0
   · rw [if_pos h]; exact holdsF_m l _ _
   · rw [if_neg h]
theorem holdsF_len : ∀ (l : List By) (F : FileS) (M : List Int), (holdsF F M l).1.2.length ≤ M.length + l.length
 | [], _, _ => Nat.le_refl _
 | s :: l, F, M => by
   unfold holdsF
   by_cases h : (holdF F.m s).2 = 0
   · rw [if_pos h]
     have := holdsF_len l (incF F (holdF F.m s).1) (M ++ [(holdF F.m s).1])
     rw [List.length_append, List.length_singleton] at this
     rw [List.length_cons]; omega
   · rw [if_neg h]
     have h2 : ((F, M), (holdF F.m s).2).1.2.length = M.length := rfl
     rw [h2, List.length_cons]; omega
theorem HeldBy.spawn {F : FileS} {P : TabD} (h : HeldBy F P) (u : By) (paths : List By) : HeldBy (spawnF F P u paths).1.1 (spawnF F P u paths).1.2 := by
 unfold spawnF
 split
 · exact h
 split
 · exact h
 have hh := holdsF_hd paths F []
 split
 · intro i
   have := hh i
   rw [show cntM [] i = 0 from rfl] at this
   show (holdsF F [] paths).1.1.hd i = cntP (addP P _) i
   rw [cntP_add, ← h i]
   show _ = F.hd i + cntM (holdsF F [] paths).1.2 i
   omega
 · intro i
   have := hh i
   rw [show cntM [] i = 0 from rfl] at this
   show (letsF _ _).hd i = cntP P i
   rw [letsF_hd, ← h i]
   have e : ((holdsF F [] paths).1.2.countP fun x => decide (x = i)) = cntM (holdsF F [] paths).1.2 i := rfl
   omega
end Go.Proofs.YtefpllpichhojaaGreatDoor
namespace Go.Proofs.YtefpllpichhojaaGreatDoor
open Go.RowKit
variable [Low]
structure EnvL (w : World) : Prop where
 env : Env w
 low : 0 < Low.low
theorem EnvL.keep {S : Nat → Prop} {w w' : World} (h : EnvL w) (k : Keep S w w') (hS : ∀ g, g < Low.low → S g) : EnvL w' := by
 obtain ⟨m, cs, hh, hc⟩ := h.env.word
 exact ⟨⟨m, cs, k.heap (hS _ h.low) hh, hc⟩, h.low⟩
theorem EnvL.ext {w w' : World} (h : EnvL w) (k : Ext w w') : EnvL w' := ⟨h.env.ext k, h.low⟩
theorem EnvL.keepX {ts : List TypeId} {X : Nat → Prop} {w w' : World} (h : EnvL w) (k : KeepX ts X w w') : EnvL w' := h.keep k fun _ hg => Or.inl hg
theorem EnvL.keepY {X : Nat → Prop} {w w' : World} (h : EnvL w) (k : KeepY X w w') : EnvL w' := h.keepX k
def procT : List TypeId := 135 :: 128 :: 3 :: volT
def CellP (X : Nat → Prop) (w : World) (g : Nat) : Prop := g < Low.low ∨ (X g ∧ ((∃ es cl, w.heap[g]? = some (.map es cl)) ∨ ∃ cs t fr, w.heap[g]? = some (.cells cs t fr) ∧ t ∉ volT)) ∨ ∃ cs t fr, w.heap[g]? = some (.cells cs t fr) ∧ t ∉ procT
def KeepP (X : Nat → Prop) (w w' : World) : Prop := Keep (CellP X w) w w'
theorem CellP.keep {X : Nat → Prop} {a b : World} {g : Nat} (h : CellP X a g) (k : KeepP X a b) : CellP X b g := by
 have hh := h
 rcases h with hl | ⟨hx, ⟨es, cl, hg⟩ | ⟨cs, t, fr, hg, ht⟩⟩ | ⟨cs, t, fr, hg, ht⟩
 · exact Or.inl hl
 · exact Or.inr (Or.inl ⟨hx, Or.inl ⟨es, cl, Keep.heap k hh hg⟩⟩)
 · exact Or.inr (Or.inl ⟨hx, Or.inr ⟨cs, t, fr, Keep.heap k hh hg, ht⟩⟩)
 · exact Or.inr (Or.inr ⟨cs, t, fr, Keep.heap k hh hg, ht⟩)
theorem KeepP.refl (X : Nat → Prop) (w : World) : KeepP X w w := Keep.refl _ _
theorem KeepP.trans {X : Nat → Prop} {a b c : World} (h : KeepP X a b) (k : KeepP X b c) : KeepP X a c :=
 ⟨k.os.trans h.os, k.tape.trans h.tape, k.output.trans h.output, Nat.le_trans h.size k.size, fun i hi hn => (k.block i (Nat.lt_of_lt_of_le hi h.size) (hn.keep h)).trans (h.block i hi hn)⟩
theorem KeepP.of_ext {X : Nat → Prop} {a b : World} (h : Ext a b) : KeepP X a b := Keep.of_ext h
theorem KeepP.of_keepY {X Y : Nat → Prop} {a b : World} (h : KeepY Y a b) (hx : ∀ g, X g → Y g) : KeepP X a b :=
 Keep.mono h fun g _ hg => by
  rcases hg with hl | ⟨h1, ⟨es, cl, hg⟩ | ⟨cs, t, fr, hg, ht⟩⟩ | ⟨cs, t, fr, hg, ht⟩
  · exact Or.inl hl
  · exact Or.inr (Or.inl ⟨hx g h1, es, cl, hg⟩)
  · exact Or.inr (Or.inr ⟨cs, t, fr, hg, ht⟩)
  · exact Or.inr (Or.inr ⟨cs, t, fr, hg, fun e => ht (List.mem_cons_of_mem _ (List.mem_cons_of_mem _ (List.mem_cons_of_mem _ e)))⟩)
theorem KeepP.of_map {X : Nat → Prop} {a b : World} {m : Nat} {es : Array MapEntry} {cl : Nat} (h : Keep (· ≠ m) a b) (hl : Low.low ≤ m) (hx : ¬ X m) (hm : a.heap[m]? = some (.map es cl)) : KeepP X a b :=
 Keep.mono h fun g _ hg e => by
  have e : g = m := e
  subst e
  rcases hg with hg | ⟨hg, _⟩ | ⟨cs, t, fr, hg, _⟩
  · omega
  · exact hx hg
  · rw [hm] at hg; cases hg
theorem KeepP.of_cells {X : Nat → Prop} {a b : World} {m : Nat} {cs : Array Value} {t : TypeId} {fr : Nat × Nat} (h : Keep (· ≠ m) a b) (hm : a.heap[m]? = some (.cells cs t fr)) (ht : t ∈ procT) (hx : ¬ X m) (hl : Low.low ≤ m) : KeepP X a b :=
 Keep.mono h fun g _ hg e => by
  have e : g = m := e
  subst e
  rcases hg with hg | ⟨hg, _⟩ | ⟨cs', t', fr', hg, ht'⟩
  · omega
  · exact hx hg
  · rw [hm] at hg
    injection (Option.some.inj hg) with _ h3
    exact ht' (h3 ▸ ht)
def AndM (X : Nat → Prop) (pm : Nat) : Nat → Prop := fun g => X g ∨ g = pm
structure ProcA where
 blk : Nat
 ma : Option Addr
 mc : Nat
def tabV (vb pm : Nat) (next : Int) : Array Value := #[.iface 24 (.pointer (some ⟨vb, 0, none⟩)), .map (some pm), .int .i64 next]
def procV (p : ProcD) (A : ProcA) : Array Value := #[.int .i64 p.pid, .string (bs p.unit), .slice A.ma p.maps.length A.mc, .bool p.ending]
def procF (P : TabD) (A : Int → ProcA) : Int → Option Value := fun i => (getP P i).map fun _ => .pointer (some ⟨(A i).blk, 0, none⟩)
structure ProcB (X : Nat → Prop) (w : World) (tb pm vb N : Nat) (P : TabD) (A : Int → ProcA) : Prop where
 top : w.heap[tb]? = some (.cells (tabV vb pm P.next) 135 (0, 0))
 map : MapF keyI w 3 pm N (procF P A)
 proc : ∀ p ∈ P.list, w.heap[(A p.pid).blk]? = some (.cells (procV p (A p.pid)) 128 (0, 0)) ∧ OwnIs w Low.low (A p.pid).ma (A p.pid).mc p.maps
 blk : ∀ p ∈ P.list, ∀ q ∈ P.list, (A p.pid).blk = (A q.pid).blk → p.pid = q.pid
 row : ∀ p ∈ P.list, ∀ q ∈ P.list, ∀ a b, (A p.pid).ma = some a → (A q.pid).ma = some b → a.block = b.block → p.pid = q.pid
 good : GoodP P
 out : ¬ X pm ∧ (∀ p ∈ P.list, ∀ a, (A p.pid).ma = some a → ¬ X a.block) ∧ ∀ g, X g → g < w.heap.size
 lows : Low.low ≤ tb ∧ Low.low ≤ pm ∧ ∀ p ∈ P.list, Low.low ≤ (A p.pid).blk
 ids : ∀ p ∈ P.list, ∀ i ∈ p.maps, 0 ≤ i ∧ i ≤ 1000000000
 next : P.next ≤ (N : Int)
 apart : ¬ X tb ∧ ∀ p ∈ P.list, ¬ X (A p.pid).blk
def SysP (X : Nat → Prop) (w : World) (tb vb db kb n N off top : Nat) (q : Int) (F : FileS) (P : TabD) : Prop :=
 ∃ pm A, ProcB X w tb pm vb N P A ∧ VolK (AndM X pm) w vb db kb n N off top q F.m F.hd ∧ HeldBy F P
end Go.Proofs.YtefpllpichhojaaGreatDoor
