/- A tree and the document's list of paths: each operation answers the same, and makes the same. -/
import Derived.Test.YtldgpcmnmegioaaGreatDoorTreeAlikeF
namespace Go.Proofs.YtldgpcmnmegioaaGreatDoor
theorem TreeD.same {S T : TreeD} (h1 : S.ids = T.ids) (h2 : S.next = T.next) (h3 : S.quota = T.quota) (h4 : ∀ j, (S.node j).dir = (T.node j).dir) (h5 : ∀ j, (S.node j).links = (T.node j).links) (h6 : ∀ j, (S.node j).data = (T.node j).data) (h7 : ∀ j z, (S.node j).kids z = (T.node j).kids z) : S = T := by
  have h : S.node = T.node := by
    funext j
    have a := h4 j; have b := h5 j; have c := h6 j; have d := h7 j
    revert a b c d
    cases S.node j; cases T.node j
    intro a b c d
    cases a; cases b; cases c
    have d := funext d
    cases d
    rfl
  cases S; cases T
  cases h1; cases h2; cases h3; cases h
  rfl
section
variable {T : TreeD} {m : RefD}
theorem kids_set (i : Int) (n : NodeD) (c : Int) (z : By) : ((setT T i n).node c).kids z = if c = i then n.kids z else (T.node c).kids z := by
  rw [setT_node]; split <;> rfl
theorem kids_bind (d : Int) (x : By) (i c : Int) (z : By) : ((bindT T d x i).node c).kids z = if c = d ∧ z = x then some i else (T.node c).kids z := by
  unfold bindT; rw [kids_set]
  by_cases hc : c = d
  · rw [if_pos hc]
    simp only [withK]
    by_cases hz : z = x
    · rw [if_pos hz, if_pos ⟨hc, hz⟩]
    · rw [if_neg hz, if_neg (fun e => hz e.2), hc]
  · rw [if_neg hc, if_neg (fun e => hc e.1)]
theorem kids_cut (d : Int) (x : By) (c : Int) (z : By) : ((cutT T d x).node c).kids z = if c = d ∧ z = x then none else (T.node c).kids z := by
  unfold cutT; rw [kids_set]
  by_cases hc : c = d
  · rw [if_pos hc]
    simp only [lessK]
    by_cases hz : z = x
    · rw [if_pos hz, if_pos ⟨hc, hz⟩]
    · rw [if_neg hz, if_neg (fun e => hz e.2), hc]
  · rw [if_neg hc, if_neg (fun e => hc e.1)]
theorem kids_link (i k c : Int) (z : By) : ((linkT T i k).node c).kids z = (T.node c).kids z := by
  unfold linkT; rw [kids_set]; split
  · rename_i e; rw [e]
  · rfl
theorem ren_free (d : Int) (x : By) (d2 : Int) (y : By) (i : Int) : bindT (cutT T d x) d2 y i = bindT (linkT (linkT (cutT T d x) i (-1)) i 1) d2 y i := by
  refine TreeD.same rfl rfl rfl (fun j => ?_) (fun j => ?_) (fun j => ?_) (fun j z => ?_)
  · rw [bindT_dir, bindT_dir, linkT_dir, linkT_dir]
  · rw [bindT_links, bindT_links, linkT_links, linkT_links]
    split <;> omega
  · rw [bindT_data, bindT_data, linkT_data, linkT_data]
  · rw [kids_bind, kids_bind, kids_link, kids_link]
theorem ren_over (d : Int) (x : By) (d2 : Int) (y : By) (i j : Int) : bindT (cutT (linkT T j (-1)) d x) d2 y i = bindT (cutT (linkT (cutT T d2 y) j (-1)) d x) d2 y i := by
  refine TreeD.same rfl rfl rfl (fun j => ?_) (fun j => ?_) (fun j => ?_) (fun j z => ?_)
  · rw [bindT_dir, bindT_dir, cutT_dir, cutT_dir, linkT_dir, linkT_dir, cutT_dir]
  · rw [bindT_links, bindT_links, cutT_links, cutT_links, linkT_links, linkT_links, cutT_links]
  · rw [bindT_data, bindT_data, cutT_data, cutT_data, linkT_data, linkT_data, cutT_data]
  · rw [kids_bind, kids_bind, kids_cut, kids_cut, kids_link, kids_link, kids_cut]
    by_cases h1 : j = d2 ∧ z = y
    · rw [if_pos h1, if_pos h1]
    · rw [if_neg h1, if_neg h1, if_neg h1]
/-! ### What stands below -/
theorem names_below {s q r : By} {lp l' : List By} (hs : pathL s = some l') (hne : s ≠ [47]) (hq : q = glue 47 lp) (hlp : ∀ p ∈ lp, (47 : UInt8) ∉ p) (he : s = q ++ 47 :: r) : l' = lp ++ splitOn 47 r := by
  obtain ⟨_, _, _, h4⟩ := pathL_facts hs
  rcases h4 with ⟨h5, _⟩ | ⟨_, _, _, h5⟩
  · exact absurd h5 hne
  · have hr : 47 :: r = glue 47 (splitOn 47 r) := (glue_splitOn 47 r).symm
    rw [h5, he, hq]
    cases lp with
    | nil => rfl
    | cons a lp =>
      rw [hr, glue_cons]
      show splitOn 47 (a ++ glue 47 lp ++ glue 47 (splitOn 47 r)) = _
      rw [List.append_assoc, ← glue_append, splitOn_glue 47 a _ (hlp a List.mem_cons_self)]
      · rfl
      · intro p hp
        rcases List.mem_append.1 hp with hp | hp
        · exact hlp p (List.mem_cons_of_mem _ hp)
        · exact splitOn_mem 47 r p hp
theorem path_no47 {p : By} {l : List By} (hp : pathL p = some l) : ∀ q ∈ l, (47 : UInt8) ∉ q := fun q hq => nameL_no47 (List.all_eq_true.1 (pathL_facts hp).2.1 q hq)
theorem path_glue {p : By} {l : List By} (hp : pathL p = some l) (hl : l ≠ []) : p = glue 47 l := by
  rcases (pathL_facts hp).2.2.2 with ⟨_, h2⟩ | ⟨_, _, h2, _⟩
  · exact absurd h2 hl
  · exact h2.symm
theorem stem_glue {p : By} {l : List By} (hp : pathL p = some l) : stemM p = glue 47 l := by
  unfold stemM
  rcases (pathL_facts hp).2.2.2 with ⟨h1, h2⟩ | ⟨h1, _, h2, _⟩
  · rw [if_pos h1, h2]; rfl
  · rw [if_neg h1, h2]
theorem take_split {s q : By} (h : s.take (q.length + 1) = q ++ [47]) : s = q ++ 47 :: s.drop (q.length + 1) := by
  conv => lhs; rw [← List.take_append_drop (q.length + 1) s, h]
  simp
theorem Like.busy (h : Like T m) {p : By} {l : List By} {x : By} {k : Int} (hp : pathL p = some (l ++ [x])) (hk : walkT T 1 (l ++ [x]) = k) (hk0 : k ≠ 0) (hkm : k ∈ T.ids) :
    m.list.any (fun e => belowP p e.path) = true ↔ ¬ emptyK (T.node k).kids := by
  have hg := path_glue hp (by simp)
  rw [List.any_eq_true]
  constructor
  · rintro ⟨e, he, hb⟩ hem
    unfold belowP at hb
    rw [decide_eq_true_eq] at hb
    obtain ⟨l', h1, h2⟩ := (h.flat.ent e).1 he
    have hs := take_split hb.2
    have hne : e.path ≠ [47] := by
      intro e1
      rw [e1] at hb
      have := hb.1
      have hp1 := congrArg List.length hg
      cases p with
      | nil =>
        have : pathL [] = none := by decide +kernel
        rw [this] at hp; cases hp
      | cons a r => simp at this
    have hd := h.flat.deep l' h1
    have hep : e.path = joinP l' := by rw [h2]
    rw [← hep] at hd
    have hn := names_below hd hne hg (path_no47 hp) hs
    cases hsp : splitOn 47 (e.path.drop (p.length + 1)) with
    | nil => exact splitOn_ne _ _ hsp
    | cons z rest =>
      rw [hsp] at hn
      have hw0 : walkT T 1 (l ++ [x] ++ [z]) = 0 := by
        rw [walk_snoc T z _ 1 GoodT.one_ne, hk, if_neg hk0]
        show ((T.node k).kids z).getD 0 = 0
        rw [hem z]; rfl
      have hpre : ∀ r, walkT T 1 (l ++ [x] ++ z :: r) = 0 := by
        refine snoc_ind hw0 ?_
        intro r y ih
        have e2 : l ++ [x] ++ z :: (r ++ [y]) = (l ++ [x] ++ z :: r) ++ [y] := by simp
        rw [e2, walk_snoc T y _ 1 GoodT.one_ne, if_pos ih]
      rw [hn] at h1
      exact h1 (hpre rest)
  · intro hem
    have : ∃ z, (T.node k).kids z ≠ none := by
      refine Classical.byContradiction fun hc => hem fun z => ?_
      refine Classical.byContradiction fun hz => hc ⟨z, hz⟩
    obtain ⟨z, hz⟩ := this
    cases hkz : (T.node k).kids z with
    | none => exact absurd hkz hz
    | some c =>
      have hcm := h.good.kid k hkm z c hkz
      have hc0 := h.good.low c hcm.1
      have hw : walkT T 1 (l ++ [x] ++ [z]) = c := by
        rw [walk_snoc T z _ 1 GoodT.one_ne, hk, if_neg hk0]
        show ((T.node k).kids z).getD 0 = c
        rw [hkz]; rfl
      have hd := h.flat.deep (l ++ [x] ++ [z]) (by omega)
      refine ⟨⟨joinP (l ++ [x] ++ [z]), walkT T 1 (l ++ [x] ++ [z]), (T.node (walkT T 1 (l ++ [x] ++ [z]))).dir⟩, (h.flat.ent _).2 ⟨_, by omega, rfl⟩, ?_⟩
      unfold belowP
      rw [decide_eq_true_eq]
      have hj : joinP (l ++ [x] ++ [z]) = p ++ 47 :: z := by
        have e1 := path_glue hd (by simp)
        rw [e1, glue_append, ← hg]
        simp [glue]
      show p.length < (joinP (l ++ [x] ++ [z])).length ∧ (joinP (l ++ [x] ++ [z])).take (p.length + 1) = p ++ [47]
      rw [hj]
      refine ⟨by simp, ?_⟩
      rw [List.take_append, List.take_of_length_le (by omega)]
      have : p.length + 1 - p.length = 1 := by omega
      rw [this]
      rfl
/-! ### An operation -/
theorem Like.find_kid (h : Like T m) {p : By} {l : List By} {x : By} {d : Int} (hp : pathL p = some (l ++ [x])) (hlx : walkT T 1 (l ++ [x]) = kidT T d x) : entM m p = if kidT T d x = 0 then none else some ⟨p, kidT T d x, (T.node (kidT T d x)).dir⟩ := by
  rw [h.ent_find p, find_at hp, hlx]
theorem Like.fileS (h : Like T m) (o : OpD) {l : List By} {x : By} {d : Int} (h1 : placeM m o.path = 0) (hlen : ¬ 3500 < o.data.length) (hk3 : 3 ≤ o.kind) (hk6 : o.kind ≤ 6) (hpl : pathL o.path = some (l ++ [x])) (hl : walkT T 1 l = d) (hd0 : d ≠ 0) (hdd : (T.node d).dir = true) (hdm : d ∈ T.ids) (hlx : walkT T 1 (l ++ [x]) = kidT T d x)
    (hk : kidT T d x ≠ 0) (hf : (T.node (kidT T d x)).dir = false) : (stepM m o).2 = (fileT T o d x (kidT T d x)).2 ∧ Like (fileT T o d x (kidT T d x)).1 (stepM m o).1 := by
  have hent := h.find_kid hpl hlx
  rw [if_neg hk, hf] at hent
  have hkm := h.good.kid_mem hdm hk
  have c1 : ¬ (o.kind < 0 ∨ 6 < o.kind) := by omega
  have c2 : ¬ placeM m o.path ≠ 0 := by omega
  have c3 : ¬ (o.kind = 0 ∨ o.kind = 2) := by omega
  have c4 : ¬ o.kind = 1 := by omega
  have eM := show stepM m o = _ by
    simp only [stepM, if_neg c1, if_neg c2, if_neg hlen, if_neg c3, hent, if_neg c4]
    rfl
  have c5 : ¬ (false = true) := by simp
  rw [if_neg c5] at eM
  by_cases k3 : o.kind = 3
  · rw [if_pos k3] at eM
    have eT : fileT T o d x (kidT T d x) = (setT T (kidT T d x) ⟨false, (T.node (kidT T d x)).links, o.data, noK⟩, 0) := by unfold fileT; rw [if_pos k3]
    rw [eM, eT]
    exact ⟨rfl, h.write hkm.1 hf o.data⟩
  rw [if_neg k3] at eM
  by_cases k6 : o.kind = 6
  · rw [if_pos k6] at eM
    have eT : fileT T o d x (kidT T d x) = (linkT (cutT T d x) (kidT T d x) (-1), 0) := by unfold fileT; rw [if_neg k3, if_pos k6]
    rw [eM, eT]
    exact ⟨rfl, (h.unlink hpl hl hd0 hdd hdm hk hf).1⟩
  rw [if_neg k6] at eM
  cases hp2 : placeT T o.dest with
  | bad e =>
    obtain ⟨p1, p2⟩ := h.place_bad hp2
    have eT : fileT T o d x (kidT T d x) = (T, e) := by unfold fileT; rw [if_neg k3, if_neg k6, hp2]
    rw [if_pos (by rw [p1]; exact p2), p1] at eM
    rw [eM, eT]
    exact ⟨rfl, h⟩
  | «at» d2 y =>
    obtain ⟨p1, l2, hpl2, hl2, hd20, hdd2, hdm2, hlx2⟩ := h.place_at hp2
    rw [if_neg (by omega)] at eM
    have hent2 := h.find_kid hpl2 hlx2
    by_cases hj : kidT T d2 y = 0
    · rw [if_pos hj] at hent2
      rw [hent2] at eM
      have d1 : ¬ (o.kind = 4 ∧ kidT T d2 y ≠ 0) := fun e => e.2 hj
      have d2' : ¬ (kidT T d2 y ≠ 0 ∧ (T.node (kidT T d2 y)).dir = true) := fun e => e.1 hj
      have d3 : ¬ kidT T d2 y = kidT T d x := by rw [hj]; exact fun e => hk e.symm
      by_cases k4 : o.kind = 4
      · have eT : fileT T o d x (kidT T d x) = (bindT (linkT T (kidT T d x) 1) d2 y (kidT T d x), 0) := by
          unfold fileT; rw [if_neg k3, if_neg k6, hp2]
          simp only [if_neg d1, if_neg d2', if_neg d3, if_pos k4]
        simp only [if_pos k4] at eM
        rw [eM, eT]
        exact ⟨rfl, h.link hpl2 hl2 hd20 hdd2 hdm2 hj hkm.1 hf⟩
      · have eT : fileT T o d x (kidT T d x) = (bindT (cutT T d x) d2 y (kidT T d x), 0) := by
          unfold fileT; rw [if_neg k3, if_neg k6, hp2]
          simp only [if_neg d1, if_neg d2', if_neg d3, if_neg k4, if_neg (show ¬ kidT T d2 y ≠ 0 from fun e => e hj)]
        simp only [if_neg k4] at eM
        rw [eM, eT]
        refine ⟨rfl, ?_⟩
        obtain ⟨hL, hW⟩ := h.unlink hpl hl hd0 hdd hdm hk hf
        have hne : l2 ≠ l ++ [x] := fun e => by rw [e, hlx] at hl2; rw [hl2, hdd2] at hf; cases hf
        show Like (bindT (cutT T d x) d2 y (kidT T d x)) _
        rw [ren_free]
        refine hL.link hpl2 (by rw [hW, if_neg hne, hl2]) hd20 (by rw [linkT_dir, cutT_dir]; exact hdd2) hdm2 ?_ hkm.1 (by rw [linkT_dir, cutT_dir]; exact hf)
        rw [kid_link, kid_cut]
        split
        · rfl
        · exact hj
    · rw [if_neg hj] at hent2
      rw [hent2] at eM
      by_cases k4 : o.kind = 4
      · have eT : fileT T o d x (kidT T d x) = (T, 9) := by
          unfold fileT; rw [if_neg k3, if_neg k6, hp2]
          simp only [if_pos (And.intro k4 hj)]
        simp only [if_pos k4] at eM
        rw [eM, eT]
        exact ⟨rfl, h⟩
      have d1 : ¬ (o.kind = 4 ∧ kidT T d2 y ≠ 0) := fun e => k4 e.1
      simp only [if_neg k4] at eM
      cases hjd : (T.node (kidT T d2 y)).dir with
      | true =>
        have eT : fileT T o d x (kidT T d x) = (T, 10) := by
          unfold fileT; rw [if_neg k3, if_neg k6, hp2]
          simp only [if_neg d1, if_pos (And.intro hj hjd)]
        rw [hjd] at eM
        simp only [if_true] at eM
        rw [eM, eT]
        exact ⟨rfl, h⟩
      | false =>
        have d2' : ¬ (kidT T d2 y ≠ 0 ∧ (T.node (kidT T d2 y)).dir = true) := fun e => by rw [hjd] at e; cases e.2
        rw [hjd] at eM
        simp only [Bool.false_eq_true, if_false] at eM
        by_cases hji : kidT T d2 y = kidT T d x
        · have eT : fileT T o d x (kidT T d x) = (T, 0) := by
            unfold fileT; rw [if_neg k3, if_neg k6, hp2]
            simp only [if_neg d1, if_neg d2', if_pos hji]
          simp only [if_pos hji] at eM
          rw [eM, eT]
          exact ⟨rfl, h⟩
        · have eT : fileT T o d x (kidT T d x) = (bindT (cutT (linkT T (kidT T d2 y) (-1)) d x) d2 y (kidT T d x), 0) := by
            unfold fileT; rw [if_neg k3, if_neg k6, hp2]
            simp only [if_neg d1, if_neg d2', if_neg hji, if_neg k4, if_pos (show kidT T d2 y ≠ 0 from hj)]
          simp only [if_neg hji] at eM
          rw [eM, eT]
          refine ⟨rfl, ?_⟩
          obtain ⟨hL, hW⟩ := h.unlink hpl2 hl2 hd20 hdd2 hdm2 hj hjd
          have n1 : l ≠ l2 ++ [y] := fun e => by rw [e, hlx2] at hl; rw [hl, hdd] at hjd; cases hjd
          have n2 : l ++ [x] ≠ l2 ++ [y] := fun e => by rw [← hlx, ← hlx2, e] at hji; exact hji rfl
          have n3 : l2 ≠ l ++ [x] := fun e => by rw [e, hlx] at hl2; rw [hl2, hdd2] at hf; cases hf
          have n4 : l2 ≠ l2 ++ [y] := fun e => by have := congrArg List.length e; simp at this
          have hW1 : walkT (linkT (cutT T d2 y) (kidT T d2 y) (-1)) 1 l = d := by rw [hW, if_neg n1, hl]
          have hK1 : kidT (linkT (cutT T d2 y) (kidT T d2 y) (-1)) d x = kidT T d x := by
            have := hW (l ++ [x])
            rw [walk_snoc _ x l 1 GoodT.one_ne, hW1, if_neg hd0, if_neg n2, hlx] at this
            exact this
          obtain ⟨hL2, hW2⟩ := hL.unlink hpl hW1 hd0 (by rw [linkT_dir, cutT_dir]; exact hdd) hdm (by rw [hK1]; exact hk) (by rw [hK1, linkT_dir, cutT_dir]; exact hf)
          rw [hK1] at hL2 hW2
          show Like (bindT (cutT (linkT T (kidT T d2 y) (-1)) d x) d2 y (kidT T d x)) _
          rw [ren_over, ren_free]
          refine hL2.link hpl2 (by rw [hW2, if_neg n3, hW, if_neg n4, hl2]) hd20 (by rw [linkT_dir, cutT_dir, linkT_dir, cutT_dir]; exact hdd2) hdm2 ?_ hkm.1 (by rw [linkT_dir, cutT_dir, linkT_dir, cutT_dir]; exact hf)
          rw [kid_link, kid_cut, kid_link, kid_cut, if_pos (⟨rfl, rfl⟩ : d2 = d2 ∧ y = y)]
          split <;> rfl
theorem Like.step (h : Like T m) (o : OpD) : (stepM m o).2 = (stepT T o).2 ∧ Like (stepT T o).1 (stepM m o).1 := by
  by_cases c1 : o.kind < 0 ∨ 6 < o.kind
  · have eT : stepT T o = (T, 1) := by unfold stepT; rw [if_pos c1]
    have eM : stepM m o = (m, 1) := by unfold stepM; rw [if_pos c1]
    rw [eT, eM]; exact ⟨rfl, h⟩
  cases hp : placeT T o.path with
  | bad e =>
    obtain ⟨p1, p2⟩ := h.place_bad hp
    have eT : stepT T o = (T, e) := by unfold stepT; rw [if_neg c1, hp]
    have eM : stepM m o = (m, e) := by unfold stepM; rw [if_neg c1, if_pos (by rw [p1]; exact p2), p1]
    rw [eT, eM]; exact ⟨rfl, h⟩
  | «at» d x =>
    obtain ⟨p1, l, hpl, hl, hd0, hdd, hdm, hlx⟩ := h.place_at hp
    have c2 : ¬ placeM m o.path ≠ 0 := by omega
    have hent := h.find_kid hpl hlx
    by_cases c3 : 3500 < o.data.length
    · have eT : stepT T o = (T, 6) := by unfold stepT; rw [if_neg c1, hp]; simp only [if_pos c3]
      have eM : stepM m o = (m, 6) := by unfold stepM; rw [if_neg c1, if_neg c2, if_pos c3]
      rw [eT, eM]; exact ⟨rfl, h⟩
    by_cases c4 : o.kind = 0 ∨ o.kind = 2
    · by_cases hk : kidT T d x = 0
      · rw [if_pos hk] at hent
        have eT : stepT T o = (bindT (addT T (if o.kind = 0 then newN else fileN o.data)) d x T.next, 0) := by
          unfold stepT; rw [if_neg c1, hp]; simp only [if_neg c3, if_pos c4, if_neg (show ¬ kidT T d x ≠ 0 from fun e => e hk)]
        have eM : stepM m o = (⟨m.list ++ [⟨o.path, m.next, decide (o.kind = 0)⟩], if o.kind = 2 then m.files ++ [⟨m.next, o.data⟩] else m.files, m.next + 1, m.quota⟩, 0) := by
          unfold stepM; rw [if_neg c1, if_neg c2, if_neg c3, if_pos c4, hent]
        rw [eT, eM]
        refine ⟨rfl, ?_⟩
        rcases c4 with k | k
        · have := h.make hpl hl hd0 hdd hdm hk newN rfl rfl (fun _ => rfl)
          rw [k]
          exact this
        · have := h.make hpl hl hd0 hdd hdm hk (fileN o.data) rfl rfl (fun e => by cases e)
          rw [k]
          exact this
      · rw [if_neg hk] at hent
        have eT : stepT T o = (T, 9) := by unfold stepT; rw [if_neg c1, hp]; simp only [if_neg c3, if_pos c4, if_pos (show kidT T d x ≠ 0 from hk)]
        have eM : stepM m o = (m, 9) := by unfold stepM; rw [if_neg c1, if_neg c2, if_neg c3, if_pos c4, hent]
        rw [eT, eM]; exact ⟨rfl, h⟩
    by_cases hk : kidT T d x = 0
    · rw [if_pos hk] at hent
      have eT : stepT T o = (T, 8) := by unfold stepT; rw [if_neg c1, hp]; simp only [if_neg c3, if_neg c4, if_pos hk]
      have eM : stepM m o = (m, 8) := by unfold stepM; rw [if_neg c1, if_neg c2, if_neg c3, if_neg c4, hent]
      rw [eT, eM]; exact ⟨rfl, h⟩
    rw [if_neg hk] at hent
    have hkm := h.good.kid_mem hdm hk
    by_cases k1 : o.kind = 1
    · cases hd : (T.node (kidT T d x)).dir with
      | false =>
        rw [hd] at hent
        have eT : stepT T o = (T, 11) := by unfold stepT; rw [if_neg c1, hp]; simp only [if_neg c3, if_neg c4, if_neg hk, if_pos k1, if_pos hd]
        have eM : stepM m o = (m, 11) := by unfold stepM; rw [if_neg c1, if_neg c2, if_neg c3, if_neg c4, hent]; simp only [if_pos k1, if_true]
        rw [eT, eM]; exact ⟨rfl, h⟩
      | true =>
        rw [hd] at hent
        have hnd : ¬ (T.node (kidT T d x)).dir = false := by rw [hd]; simp
        have hbusy := h.busy hpl hlx hk hkm.1
        by_cases hem : emptyK (T.node (kidT T d x)).kids
        · have eT : stepT T o = (delT (cutT T d x) (kidT T d x), 0) := by unfold stepT; rw [if_neg c1, hp]; simp only [if_neg c3, if_neg c4, if_neg hk, if_pos k1, if_neg hnd, if_pos hem]
          have eM : stepM m o = (lessM m o.path, 0) := by
            unfold stepM; rw [if_neg c1, if_neg c2, if_neg c3, if_neg c4, hent]; simp only [if_pos k1, Bool.true_eq_false, if_false, if_neg (fun e => (hbusy.1 e) hem)]
          rw [eT, eM]; exact ⟨rfl, h.rmdir hpl hl hd0 hdd hdm hk hd hem⟩
        · have eT : stepT T o = (T, 12) := by unfold stepT; rw [if_neg c1, hp]; simp only [if_neg c3, if_neg c4, if_neg hk, if_pos k1, if_neg hnd, if_neg hem]
          have eM : stepM m o = (m, 12) := by
            unfold stepM; rw [if_neg c1, if_neg c2, if_neg c3, if_neg c4, hent]; simp only [if_pos k1, Bool.true_eq_false, if_false, if_pos (hbusy.2 hem)]
          rw [eT, eM]; exact ⟨rfl, h⟩
    cases hd : (T.node (kidT T d x)).dir with
    | true =>
      rw [hd] at hent
      have eT : stepT T o = (T, 10) := by unfold stepT; rw [if_neg c1, hp]; simp only [if_neg c3, if_neg c4, if_neg hk, if_neg k1, if_pos hd]
      have eM : stepM m o = (m, 10) := by unfold stepM; rw [if_neg c1, if_neg c2, if_neg c3, if_neg c4, hent]; simp only [if_neg k1, if_true]
      rw [eT, eM]; exact ⟨rfl, h⟩
    | false =>
      have eT : stepT T o = fileT T o d x (kidT T d x) := by unfold stepT; rw [if_neg c1, hp]; simp only [if_neg c3, if_neg c4, if_neg hk, if_neg k1, if_neg (show ¬ (T.node (kidT T d x)).dir = true by rw [hd]; simp)]
      rw [eT]
      exact h.fileS o p1 c3 (by omega) (by omega) hpl hl hd0 hdd hdm hlx hk hd
end
end Go.Proofs.YtldgpcmnmegioaaGreatDoor
