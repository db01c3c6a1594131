/- A tree and the document's list of paths stay alike: names less, files more, files' bytes, directories less. -/
import Derived.Test.YtldgpcmnmegioaaGreatDoorTreeAlike
namespace Go.Proofs.YtldgpcmnmegioaaGreatDoor
section
variable {T : TreeD} {m : RefD}
theorem count_lessM {p : By} {e : EntD} (h : entM m p = some e) (i : Int) : countM (lessM m p) i + (if e.id = i then 1 else 0) = countM m i := by
  have := count_less (L := m.list) h fun e => decide (e.id = i)
  simpa [countM, lessM] using this
theorem count_moreM (e : EntD) (i : Int) : countM (moreM m e) i = countM m i + (if e.id = i then 1 else 0) := by
  simp [countM, moreM, List.countP_append, List.countP_cons]
/-- A file's name less. -/
theorem Like.unlink (h : Like T m) {p : By} {l : List By} {x : By} {d : Int} (hp : pathL p = some (l ++ [x])) (hl : walkT T 1 l = d) (hd0 : d ≠ 0) (hdd : (T.node d).dir = true) (hdm : d ∈ T.ids) (h0 : kidT T d x ≠ 0) (hf : (T.node (kidT T d x)).dir = false) :
    Like (linkT (cutT T d x) (kidT T d x) (-1)) (lessM m p) ∧ ∀ l', walkT (linkT (cutT T d x) (kidT T d x) (-1)) 1 l' = if l' = l ++ [x] then 0 else walkT T 1 l' := by
  have hkm := h.good.kid_mem hdm h0
  have hleaf : kidT T d x ≠ 0 → ∀ z, kidT T (kidT T d x) z = 0 := fun _ z => h.good.file_kid hkm.1 hf z
  have hw : ∀ l', walkT (linkT (cutT T d x) (kidT T d x) (-1)) 1 l' = if l' = l ++ [x] then 0 else walkT T 1 l' :=
    walk_update h.good hl hd0 hdd (fun c _ z => by rw [kid_link, kid_cut]) (fun hv => absurd rfl hv) hleaf
  have hlx : walkT T 1 (l ++ [x]) = kidT T d x := by rw [walk_snoc T x l 1 GoodT.one_ne, hl, if_neg hd0]
  have he := h.ent_some hp (by rw [hlx]; exact h0)
  rw [hlx] at he
  have hdir : ∀ j, ((linkT (cutT T d x) (kidT T d x) (-1)).node j).dir = (T.node j).dir := fun j => by rw [linkT_dir, cutT_dir]
  have hdat : ∀ j, ((linkT (cutT T d x) (kidT T d x) (-1)).node j).data = (T.node j).data := fun j => by rw [linkT_data, cutT_data]
  have hlnk : ∀ j, ((linkT (cutT T d x) (kidT T d x) (-1)).node j).links = (T.node j).links + if j = kidT T d x then -1 else 0 := fun j => by rw [linkT_links, cutT_links]
  refine ⟨⟨(h.good.cut hdd x).link (-1) hkm.1 (by rw [cutT_dir]; exact hf), ?_, h.next, h.quota, h.fnd, fun f => ?_, fun i hi hfi => ?_, fun i hi hdi => ?_⟩, hw⟩
  · exact (h.flat.less hp).congr hw (fun _ _ => hdir _)
  · rw [hdir, hdat]; exact h.fil f
  · rw [hdir] at hfi
    have hi : i ∈ T.ids := hi
    rw [hlnk, h.links i hi hfi, ← count_lessM he i]
    by_cases e : i = kidT T d x
    · rw [if_pos e, if_pos e.symm]; omega
    · rw [if_neg e, if_neg (fun e1 => e e1.symm)]; omega
  · rw [hdir] at hdi
    have hi : i ∈ T.ids := hi
    obtain ⟨h2, h3, l', h4⟩ := h.dirs i hi hdi
    have hne : i ≠ kidT T d x := fun e => by rw [e, hf] at hdi; cases hdi
    rw [hlnk, hdat, if_neg hne]
    refine ⟨by omega, h3, l', ?_⟩
    rw [hw, if_neg, h4]
    intro e
    rw [e, hlx] at h4
    exact hne h4.symm
/-- A file's name more. -/
theorem Like.link (h : Like T m) {p : By} {l : List By} {x : By} {d i : Int} (hp : pathL p = some (l ++ [x])) (hl : walkT T 1 l = d) (hd0 : d ≠ 0) (hdd : (T.node d).dir = true) (_hdm : d ∈ T.ids) (h0 : kidT T d x = 0) (him : i ∈ T.ids) (hf : (T.node i).dir = false) :
    Like (bindT (linkT T i 1) d x i) (moreM m ⟨p, i, false⟩) := by
  have hlow := h.good.low i him
  have hi0 : i ≠ 0 := by omega
  have hlx : walkT T 1 (l ++ [x]) = 0 := by rw [walk_snoc T x l 1 GoodT.one_ne, hl, if_neg hd0]; exact h0
  have hw : ∀ l', walkT (bindT (linkT T i 1) d x i) 1 l' = if l' = l ++ [x] then i else walkT T 1 l' :=
    walk_update h.good hl hd0 hdd (fun c _ z => by rw [kid_bind, kid_link]) (fun _ z => by
      rw [kid_bind, kid_link, if_neg (fun e => by rw [← e.1, hf] at hdd; cases hdd)]
      exact h.good.file_kid him hf z) (fun e => absurd h0 e)
  have hdir : ∀ j, ((bindT (linkT T i 1) d x i).node j).dir = (T.node j).dir := fun j => by rw [bindT_dir, linkT_dir]
  have hdat : ∀ j, ((bindT (linkT T i 1) d x i).node j).data = (T.node j).data := fun j => by rw [bindT_data, linkT_data]
  have hlnk : ∀ j, ((bindT (linkT T i 1) d x i).node j).links = (T.node j).links + if j = i then 1 else 0 := fun j => by rw [bindT_links, linkT_links]
  refine ⟨bindF_good (h.good.link 1 him hf) (by rw [linkT_dir]; exact hdd) him (by rw [linkT_dir]; exact hf), ?_, h.next, h.quota, h.fnd, fun f => ?_, fun j hj hfj => ?_, fun j hj hdj => ?_⟩
  · have h2 := h.flat.more hp hlx hi0
    rw [hf] at h2
    exact h2.congr hw (fun _ _ => hdir _)
  · rw [hdir, hdat]; exact h.fil f
  · rw [hdir] at hfj
    have hj : j ∈ T.ids := hj
    rw [hlnk, h.links j hj hfj, count_moreM]
    by_cases e : j = i
    · rw [if_pos e, if_pos e.symm]; omega
    · rw [if_neg e, if_neg (fun e1 => e e1.symm)]; omega
  · rw [hdir] at hdj
    have hj : j ∈ T.ids := hj
    obtain ⟨h2, h3, l', h4⟩ := h.dirs j hj hdj
    have hne : j ≠ i := fun e => by rw [e, hf] at hdj; cases hdj
    rw [hlnk, hdat, if_neg hne]
    refine ⟨by omega, h3, l', ?_⟩
    have hj0 := h.good.low j hj
    rw [hw, if_neg, h4]
    intro e
    rw [e, hlx] at h4
    omega
/-- A file's bytes. -/
theorem Like.write (h : Like T m) {i : Int} (him : i ∈ T.ids) (hf : (T.node i).dir = false) (b : By) :
    Like (setT T i ⟨false, (T.node i).links, b, noK⟩) { m with files := m.files.map (wroteF i b) } := by
  have hdir : ∀ j, ((setT T i ⟨false, (T.node i).links, b, noK⟩).node j).dir = (T.node j).dir := fun j => by
    rw [setT_node]; split
    · rename_i e; rw [e, hf]
    · rfl
  have hlnk : ∀ j, ((setT T i ⟨false, (T.node i).links, b, noK⟩).node j).links = (T.node j).links := fun j => by
    rw [setT_node]; split
    · rename_i e; rw [e]
    · rfl
  have hdat : ∀ j, ((setT T i ⟨false, (T.node i).links, b, noK⟩).node j).data = if j = i then b else (T.node j).data := fun j => by
    rw [setT_node]; split <;> rfl
  have hw := walk_same (T' := setT T i ⟨false, (T.node i).links, b, noK⟩) h.good (fun c hc z => by
    rw [kid_set]; split
    · rename_i e; rw [e, h.good.file_kid him hf]; rfl
    · rfl)
  have hids : (m.files.map (wroteF i b)).map FilD.id = m.files.map FilD.id := by
    rw [List.map_map]
    refine List.map_congr_left fun f _ => ?_
    simp only [Function.comp, wroteF]
    split
    · rename_i e; exact e.symm
    · rfl
  refine ⟨h.good.setF _ rfl hf rfl, h.flat.congr hw (fun _ _ => hdir _), h.next, h.quota, by rw [hids]; exact h.fnd, fun f => ?_, fun j hj hfj => ?_, fun j hj hdj => ?_⟩
  · rw [hdir, hdat]
    show f ∈ m.files.map (wroteF i b) ↔ f.id ∈ T.ids ∧ _
    rw [List.mem_map]
    constructor
    · rintro ⟨g, hg, rfl⟩
      have h2 := (h.fil g).1 hg
      unfold wroteF
      split
      · rename_i e; rw [if_pos rfl]; exact ⟨him, hf, rfl⟩
      · exact h2
    · rintro ⟨h2, h3, h4⟩
      split at h4
      · rename_i e
        refine ⟨⟨i, (T.node i).data⟩, (h.fil _).2 ⟨him, hf, rfl⟩, ?_⟩
        unfold wroteF
        rw [if_pos rfl]
        cases f; cases e; cases h4; rfl
      · rename_i e
        exact ⟨f, (h.fil f).2 ⟨h2, h3, h4⟩, by unfold wroteF; rw [if_neg e]⟩
  · rw [hdir] at hfj
    rw [hlnk]; exact h.links j hj hfj
  · rw [hdir] at hdj
    obtain ⟨h2, h3, l', h4⟩ := h.dirs j hj hdj
    rw [hlnk, hdat, if_neg (fun e => by rw [e, hf] at hdj; cases hdj)]
    exact ⟨h2, h3, l', by rw [hw, h4]⟩
/-- A directory less. -/
theorem Like.rmdir (h : Like T m) {p : By} {l : List By} {x : By} {d : Int} (hp : pathL p = some (l ++ [x])) (hl : walkT T 1 l = d) (hd0 : d ≠ 0) (hdd : (T.node d).dir = true) (hdm : d ∈ T.ids) (h0 : kidT T d x ≠ 0) (hf : (T.node (kidT T d x)).dir = true) (he : emptyK (T.node (kidT T d x)).kids) :
    Like (delT (cutT T d x) (kidT T d x)) (lessM m p) := by
  have hkm := h.good.kid_mem hdm h0
  have hleaf : kidT T d x ≠ 0 → ∀ z, kidT T (kidT T d x) z = 0 := fun _ z => by
    show ((T.node (kidT T d x)).kids z).getD 0 = 0
    rw [he z]; rfl
  have hw : ∀ l', walkT (delT (cutT T d x) (kidT T d x)) 1 l' = if l' = l ++ [x] then 0 else walkT T 1 l' :=
    walk_update h.good hl hd0 hdd (fun c _ z => kid_cut d x c z) (fun hv => absurd rfl hv) hleaf
  have hlx : walkT T 1 (l ++ [x]) = kidT T d x := by rw [walk_snoc T x l 1 GoodT.one_ne, hl, if_neg hd0]
  have hen := h.ent_some hp (by rw [hlx]; exact h0)
  rw [hlx] at hen
  have hmem : ∀ j, j ∈ (delT (cutT T d x) (kidT T d x)).ids ↔ j ∈ T.ids ∧ j ≠ kidT T d x := by
    intro j; show j ∈ T.ids.filter _ ↔ _; simp
  have hdir : ∀ j, ((delT (cutT T d x) (kidT T d x)).node j).dir = (T.node j).dir := fun j => cutT_dir d x j
  have hdat : ∀ j, ((delT (cutT T d x) (kidT T d x)).node j).data = (T.node j).data := fun j => cutT_data d x j
  have hlnk : ∀ j, ((delT (cutT T d x) (kidT T d x)).node j).links = (T.node j).links := fun j => cutT_links d x j
  refine ⟨(h.good.cut hdd x).del hkm.2.2 (cutT_kid h.good hdm hkm.2.1 hf), (h.flat.less hp).congr hw (fun _ _ => hdir _), h.next, h.quota, h.fnd, fun f => ?_, fun i hi hfi => ?_, fun i hi hdi => ?_⟩
  · rw [hdir, hdat, hmem]
    show f ∈ m.files ↔ _
    rw [h.fil]
    constructor
    · rintro ⟨h2, h3, h4⟩; exact ⟨⟨h2, fun e => by rw [e, hf] at h3; cases h3⟩, h3, h4⟩
    · rintro ⟨⟨h2, _⟩, h3⟩; exact ⟨h2, h3⟩
  · rw [hdir] at hfi
    have hi := (hmem i).1 hi
    rw [hlnk, h.links i hi.1 hfi, ← count_lessM hen i, if_neg (fun e1 => hi.2 e1.symm)]; rfl
  · rw [hdir] at hdi
    have hi := (hmem i).1 hi
    obtain ⟨h2, h3, l', h4⟩ := h.dirs i hi.1 hdi
    rw [hlnk, hdat]
    refine ⟨h2, h3, l', ?_⟩
    rw [hw, if_neg, h4]
    intro e
    rw [e, hlx] at h4
    exact hi.2 h4.symm
/-- A file that stands nowhere is taken away. -/
theorem Like.reap (h : Like T m) (i : Int) : Like (if i ∈ T.ids ∧ (T.node i).links = 0 then delT T i else T) (reapM m i) := by
  by_cases hc : 0 < countM m i
  · have hr : reapM m i = m := if_pos hc
    rw [hr]
    split
    · rename_i hi
      cases hd : (T.node i).dir with
      | false => have := h.links i hi.1 hd; omega
      | true => have := (h.dirs i hi.1 hd).1; omega
    · exact h
  · have hc0 : countM m i = 0 := by omega
    have hr : reapM m i = { m with files := m.files.filter fun f => !decide (f.id = i) } := if_neg hc
    rw [hr]
    have hfil : ∀ f, f ∈ (m.files.filter fun f => !decide (f.id = i)) ↔ f ∈ m.files ∧ f.id ≠ i := by intro f; simp
    by_cases hi : i ∈ T.ids ∧ (T.node i).links = 0
    · rw [if_pos hi]
      have hd : (T.node i).dir = false := by
        cases hd : (T.node i).dir with
        | false => rfl
        | true => have := (h.dirs i hi.1 hd).1; omega
      have hno : ∀ l, walkT T 1 l ≠ i := by
        intro l e
        have h1 := h.good.low i hi.1
        have := h.count_pos (l := l) (by omega)
        rw [e, hc0] at this
        omega
      have hmem : ∀ j, j ∈ (delT T i).ids ↔ j ∈ T.ids ∧ j ≠ i := by intro j; simp [delT]
      have hkids : ∀ j ∈ T.ids, ∀ y, (T.node j).kids y ≠ some i := by
        intro j hj y e
        have hjd : (T.node j).dir = true := by
          cases hjd : (T.node j).dir with
          | true => rfl
          | false => rw [h.good.file j hj hjd] at e; cases e
        obtain ⟨_, _, l, hl⟩ := h.dirs j hj hjd
        have hj0 := h.good.low j hj
        refine hno (l ++ [y]) ?_
        rw [walk_snoc T y l 1 GoodT.one_ne, hl, if_neg (by omega)]
        unfold kidT; rw [e]; rfl
      have h1 : i ≠ 1 := fun e => by rw [e, h.good.rdir] at hd; cases hd
      refine ⟨h.good.del h1 hkids, h.flat.congr (walk_same h.good fun _ _ _ => rfl) (fun _ _ => rfl), h.next, h.quota, ?_, fun f => ?_, fun j hj hf => ?_, fun j hj hdj => ?_⟩
      · exact h.fnd.sublist (List.filter_sublist.map _)
      · rw [hmem, hfil, h.fil]
        constructor
        · rintro ⟨⟨h2, h3⟩, h4⟩; exact ⟨⟨h2, h4⟩, h3⟩
        · rintro ⟨⟨h2, h4⟩, h3⟩; exact ⟨⟨h2, h3⟩, h4⟩
      · exact h.links j ((hmem j).1 hj).1 hf
      · obtain ⟨h2, h3, l, h4⟩ := h.dirs j ((hmem j).1 hj).1 hdj
        exact ⟨h2, h3, l, by rw [walk_same (T' := delT T i) h.good fun _ _ _ => rfl]; exact h4⟩
    · rw [if_neg hi]
      have hno : ∀ f ∈ m.files, f.id ≠ i := by
        intro f hf e
        obtain ⟨h2, h3, _⟩ := (h.fil f).1 hf
        rw [e] at h2 h3
        exact hi ⟨h2, by rw [h.links i h2 h3, hc0]; rfl⟩
      have hid : (m.files.filter fun f => !decide (f.id = i)) = m.files := by
        rw [List.filter_eq_self]
        intro f hf
        simp [hno f hf]
      rw [hid]
      exact h
end
end Go.Proofs.YtldgpcmnmegioaaGreatDoor
