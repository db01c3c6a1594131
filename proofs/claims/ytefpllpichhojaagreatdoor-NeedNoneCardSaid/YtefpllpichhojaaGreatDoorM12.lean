/- Several texts of mine, one behind the other: InsSort, TreeRef, TreeLike. -/
import Derived.Test.YtefpllpichhojaaGreatDoorM9
import Derived.Test.YtefpllpichhojaaGreatDoorM7
namespace Go.Proofs.YtefpllpichhojaaGreatDoor
open Go.RowKit
section
variable {α : Type} {R : α → α → Prop} {d : α}
end
end Go.Proofs.YtefpllpichhojaaGreatDoor
namespace Go.Proofs.YtefpllpichhojaaGreatDoor
structure EntD where
 path : By
 id : Int
 dir : Bool
structure FilD where
 id : Int
 data : By
structure RefD where
 list : List EntD
 files : List FilD
 next : Int
 quota : Int
def isP (p : By) (e : EntD) : Bool := decide (e.path = p)
def newM (q : Int) : RefD := ⟨[⟨[47], 1, true⟩], [], 2, max 0 q⟩
def entM (m : RefD) (p : By) : Option EntD := m.list.find? (isP p)
def placeM (m : RefD) (p : By) : Int := match upL p with
 | none => 14
 | some (l, _) => match entM m (joinP l) with
   | none => 8
   | some e => if e.dir = true then 0 else 11
def lessM (m : RefD) (p : By) : RefD := { m with list := m.list.eraseP (isP p) }
def moreM (m : RefD) (e : EntD) : RefD := { m with list := m.list ++ [e] }
def belowP (p s : By) : Bool := decide (p.length < s.length ∧ s.take (p.length + 1) = p ++ [47])
def wroteF (i : Int) (d : By) (f : FilD) : FilD := if f.id = i then ⟨i, d⟩ else f
def stepM (m : RefD) (o : OpD) : RefD × Int :=
 if o.kind < 0 ∨ 6 < o.kind then (m, 1)
 else if placeM m o.path ≠ 0 then (m, placeM m o.path)
 else if 3500 < o.data.length then (m, 6)
 else if o.kind = 0 ∨ o.kind = 2 then
  match entM m o.path with
  | some _ => (m, 9)
  | none => (⟨m.list ++ [⟨o.path, m.next, decide (o.kind = 0)⟩], if o.kind = 2 then m.files ++ [⟨m.next, o.data⟩] else m.files, m.next + 1, m.quota⟩, 0)
 else match entM m o.path with
 | none => (m, 8)
 | some x =>
   if o.kind = 1 then
    if x.dir = false then (m, 11)
    else if m.list.any (fun e => belowP o.path e.path) = true then (m, 12)
    else (lessM m o.path, 0)
   else if x.dir = true then (m, 10)
   else if o.kind = 3 then ({ m with files := m.files.map (wroteF x.id o.data) }, 0)
   else if o.kind = 6 then (lessM m o.path, 0)
   else if placeM m o.dest ≠ 0 then (m, placeM m o.dest)
   else match entM m o.dest with
    | some j =>
      if o.kind = 4 then (m, 9)
      else if j.dir = true then (m, 10)
      else if j.id = x.id then (m, 0)
      else (moreM (lessM (lessM m o.dest) o.path) ⟨o.dest, x.id, false⟩, 0)
    | none =>
      if o.kind = 4 then (moreM m ⟨o.dest, x.id, false⟩, 0)
      else (moreM (lessM m o.path) ⟨o.dest, x.id, false⟩, 0)
def countM (m : RefD) (i : Int) : Nat := m.list.countP fun e => decide (e.id = i)
def usedM (m : RefD) : Nat := (m.files.map fun f => f.data.length).sum
def nodesM (m : RefD) : Nat := m.files.length + m.list.countP fun e => e.dir
def looseM (m : RefD) : List Int := ((m.files.map FilD.id).filter fun i => decide (countM m i = 0)).mergeSort fun x y => decide (x ≤ y)
def reapM (m : RefD) (i : Int) : RefD := if 0 < countM m i then m else { m with files := m.files.filter fun f => !decide (f.id = i) }
def runM : RefD → List OpD → RefD × Int
 | m, [] => (m, 0)
 | m, o :: l => if (stepM m o).2 = 0 then runM (stepM m o).1 l else stepM m o
def doM (m : RefD) (l : List OpD) : RefD × Int :=
 if (runM m l).2 ≠ 0 then (m, (runM m l).2)
 else if 128 < nodesM (runM m l).1 then (m, 7)
 else if m.quota < usedM (runM m l).1 then (m, 13)
 else ((runM m l).1, 0)
end Go.Proofs.YtefpllpichhojaaGreatDoor
namespace Go.Proofs.YtefpllpichhojaaGreatDoor
theorem walk_snoc (T : TreeD) (z : By) : ∀ (l : List By) (i : Int), i ≠ 0 → walkT T i (l ++ [z]) = if walkT T i l = 0 then 0 else kidT T (walkT T i l) z
 | [], i, hi => by
   rw [List.nil_append]
   have e : walkT T i [] = i := by unfold walkT; rfl
   rw [e, if_neg hi]
   unfold walkT
   split
   · rename_i h; exact h.symm
   · unfold walkT; rfl
 | x :: l, i, hi => by
   rw [List.cons_append]
   unfold walkT
   split
   · simp
   · rename_i h; exact walk_snoc T z l _ h
theorem snoc_ind {α : Type} {P : List α → Prop} (h0 : P []) (h1 : ∀ l x, P l → P (l ++ [x])) (l : List α) : P l := by
 have : ∀ n, ∀ l : List α, l.length = n → P l := by
  intro n
  induction n with
  | zero => intro l h; rw [List.eq_nil_of_length_eq_zero h]; exact h0
  | succ n ih =>
    intro l h
    have hne : l ≠ [] := fun e => by rw [e] at h; simp at h
    rw [← List.dropLast_concat_getLast hne]
    exact h1 _ _ (ih _ (by rw [List.length_dropLast, h]; rfl))
 exact this _ l rfl
theorem snoc_ne {α : Type} {l : List α} {x z : α} : l ++ [x] ++ [z] ≠ l ++ [x] := fun e => by
 have := congrArg List.length e; simp at this
theorem snoc_inj {α : Type} {l m : List α} {x z : α} : l ++ [x] = m ++ [z] ↔ l = m ∧ x = z := by
 constructor
 · intro h
   have h1 := List.append_inj' h rfl
   exact ⟨h1.1, by simpa using h1.2⟩
 · rintro ⟨rfl, rfl⟩; rfl
theorem upL_iff {p : By} {l : List By} {x : By} : upL p = some (l, x) ↔ pathL p = some (l ++ [x]) := by
 unfold upL
 split
 · rename_i a q hp
   rw [hp]
   have e : (a :: q) = (a :: q).take q.length ++ [(a :: q).getD q.length []] := by
    have hlt : q.length < (a :: q).length := by simp
    have h1 := List.take_succ_eq_append_getElem hlt
    have h2 : (a :: q).getD q.length [] = (a :: q)[q.length] := by simp [List.getD_eq_getElem?_getD]
    rw [h2, ← h1]
    simp
   constructor
   · intro h; cases h; rw [← e]
   · intro h
     have h := Option.some.inj h
     rw [e] at h
     obtain ⟨h1, h2⟩ := snoc_inj.1 h
     rw [h1, h2]
 · rename_i hne
   constructor
   · intro h; cases h
   · intro h
     cases hs : l ++ [x] with
     | nil => simp at hs
     | cons a q => rw [hs] at h; exact absurd h (hne a q)
section
variable {T : TreeD}
theorem GoodT.one_ne : (1 : Int) ≠ 0 := by decide
theorem GoodT.walk_inj (h : GoodT T) (l m : List By) (hw : walkT T 1 l ≠ 0) (hd : (T.node (walkT T 1 l)).dir = true) (he : walkT T 1 l = walkT T 1 m) : l = m := by
 revert m
 refine snoc_ind (P := fun l => walkT T 1 l ≠ 0 → (T.node (walkT T 1 l)).dir = true → ∀ m, walkT T 1 l = walkT T 1 m → l = m) ?_ ?_ l hw hd
 · intro _ _ m he
   refine snoc_ind (P := fun m => walkT T 1 [] = walkT T 1 m → [] = m) (fun _ => rfl) ?_ m he
   intro m z _ he
   rw [walk_snoc T z m 1 GoodT.one_ne] at he
   split at he
   · cases he
   · rename_i hm
     have := (h.kid_mem (h.walk_mem m 1 h.root hm) (x := z) (by rw [← he]; exact GoodT.one_ne)).2.2
     exact absurd he.symm this
 · intro l x ih hw hd m he
   rw [walk_snoc T x l 1 GoodT.one_ne] at hw hd he
   split at hw
   · exact absurd rfl hw
   · rename_i hl
     rw [if_neg hl] at hd he
     have hlm := h.walk_mem l 1 h.root hl
     have hk := h.kid_mem hlm hw
     refine snoc_ind (P := fun m => kidT T (walkT T 1 l) x = walkT T 1 m → l ++ [x] = m) ?_ ?_ m he
     · intro he; exact absurd he hk.2.2
     · intro m z _ he
       rw [walk_snoc T z m 1 GoodT.one_ne] at he
       split at he
       · exact absurd he hw
       · rename_i hm
         have hmm := h.walk_mem m 1 h.root hm
         have hk2 := h.kid_mem hmm (x := z) (by rw [← he]; exact hw)
         rw [← he] at hk2
         have hs := h.sole _ hlm _ hmm x z _ hk.2.1 hk2.2.1 hd
         have hld : (T.node (walkT T 1 l)).dir = true := by
          cases hd' : (T.node (walkT T 1 l)).dir with
          | true => rfl
          | false =>
            have := h.file _ hlm hd'
            have h3 := hk.2.1
            rw [this] at h3; cases h3
         rw [ih hl hld m hs.1, hs.2]
theorem walk_same {T' : TreeD} (h : GoodT T) (hk : ∀ c ∈ T.ids, ∀ z, kidT T' c z = kidT T c z) (l : List By) : walkT T' 1 l = walkT T 1 l := by
 refine snoc_ind (P := fun l => walkT T' 1 l = walkT T 1 l) rfl ?_ l
 intro l z ih
 rw [walk_snoc T' z l 1 GoodT.one_ne, walk_snoc T z l 1 GoodT.one_ne, ih]
 split
 · rfl
 · rename_i hl
   exact hk _ (h.walk_mem l 1 h.root hl) z
theorem walk_update {T' : TreeD} (h : GoodT T) {l : List By} {x : By} {d v : Int} (hl : walkT T 1 l = d) (hd0 : d ≠ 0) (hdd : (T.node d).dir = true)
 (hk : ∀ c ∈ T.ids, ∀ z, kidT T' c z = if c = d ∧ z = x then v else kidT T c z) (hv : v ≠ 0 → ∀ z, kidT T' v z = 0) (h0 : kidT T d x ≠ 0 → ∀ z, kidT T (kidT T d x) z = 0) (l' : List By) :
 walkT T' 1 l' = if l' = l ++ [x] then v else walkT T 1 l' := by
 have hlx : walkT T 1 (l ++ [x]) = kidT T d x := by rw [walk_snoc T x l 1 GoodT.one_ne, hl, if_neg hd0]
 refine snoc_ind (P := fun l' => walkT T' 1 l' = if l' = l ++ [x] then v else walkT T 1 l') ?_ ?_ l'
 · rw [if_neg (by simp)]; rfl
 · intro m z ih
   rw [walk_snoc T' z m 1 GoodT.one_ne, ih]
   by_cases hm : m = l ++ [x]
   · subst hm
     rw [if_pos rfl, if_neg snoc_ne, walk_snoc T z _ 1 GoodT.one_ne, hlx]
     have e1 : (if v = 0 then (0 : Int) else kidT T' v z) = 0 := by
      split
      · rfl
      · rename_i hv'; exact hv hv' z
     rw [e1]
     split
     · rfl
     · rename_i hx; exact (h0 hx z).symm
   · rw [if_neg hm, walk_snoc T z m 1 GoodT.one_ne]
     by_cases hc : walkT T 1 m = 0
     · rw [if_pos hc, if_pos hc, if_neg]
       intro e
       obtain ⟨rfl, rfl⟩ := snoc_inj.1 e
       exact hd0 (by rw [← hl]; exact hc)
     · rw [if_neg hc, if_neg hc, hk _ (h.walk_mem m 1 h.root hc)]
       by_cases hmd : walkT T 1 m = d
       · have hml : m = l := h.walk_inj m l hc (by rw [hmd]; exact hdd) (by rw [hmd, hl])
         subst hml
         by_cases hz : z = x
         · rw [if_pos ⟨hmd, hz⟩, if_pos (by rw [hz])]
         · rw [if_neg (fun e => hz e.2), if_neg (fun e => hz (snoc_inj.1 e).2)]
       · rw [if_neg (fun e => hmd e.1), if_neg]
         intro e
         obtain ⟨rfl, rfl⟩ := snoc_inj.1 e
         exact hmd hl
end
structure Flat (W : List By → Int) (D : Int → Bool) (L : List EntD) : Prop where
 deep : ∀ l, W l ≠ 0 → pathL (joinP l) = some l
 pnd : (L.map EntD.path).Nodup
 ent : ∀ e, e ∈ L ↔ ∃ l, W l ≠ 0 ∧ e = ⟨joinP l, W l, D (W l)⟩
theorem mem_eraseP {L : List EntD} (h : (L.map EntD.path).Nodup) (p : By) (e : EntD) : e ∈ L.eraseP (isP p) ↔ e ∈ L ∧ e.path ≠ p := by
 induction L with
 | nil => simp
 | cons a L ih =>
   rw [List.map_cons, List.nodup_cons] at h
   by_cases ha : a.path = p
   · rw [List.eraseP_cons_of_pos (by simp [isP, ha])]
     constructor
     · intro he
       refine ⟨List.mem_cons_of_mem _ he, fun e1 => h.1 ?_⟩
       rw [ha, ← e1]
       exact List.mem_map_of_mem he
     · rintro ⟨he, hp⟩
       rcases List.mem_cons.1 he with rfl | he
       · exact absurd ha hp
       · exact he
   · rw [List.eraseP_cons_of_neg (by simp [isP, ha]), List.mem_cons, ih h.2, List.mem_cons]
     constructor
     · rintro (rfl | ⟨h1, h2⟩)
       · exact ⟨Or.inl rfl, ha⟩
       · exact ⟨Or.inr h1, h2⟩
     · rintro ⟨rfl | h1, h2⟩
       · exact Or.inl rfl
       · exact Or.inr ⟨h1, h2⟩
theorem find_ent {L : List EntD} (h : (L.map EntD.path).Nodup) {p : By} {e : EntD} : L.find? (isP p) = some e ↔ e ∈ L ∧ e.path = p := by
 induction L with
 | nil => simp
 | cons a L ih =>
   rw [List.map_cons, List.nodup_cons] at h
   rw [List.find?_cons]
   by_cases ha : a.path = p
   · have : isP p a = true := by simp [isP, ha]
     rw [this]
     constructor
     · intro h1; cases h1; exact ⟨List.mem_cons_self, ha⟩
     · rintro ⟨h1, h2⟩
       rcases List.mem_cons.1 h1 with rfl | h1
       · rfl
       · exact absurd (by rw [ha, ← h2]; exact List.mem_map_of_mem h1) h.1
   · have : isP p a = false := by simp [isP, ha]
     rw [this, ih h.2]
     constructor
     · rintro ⟨h1, h2⟩; exact ⟨List.mem_cons_of_mem _ h1, h2⟩
     · rintro ⟨h1, h2⟩
       rcases List.mem_cons.1 h1 with rfl | h1
       · exact absurd h2 ha
       · exact ⟨h1, h2⟩
theorem count_less {L : List EntD} {p : By} {e : EntD} (h : L.find? (isP p) = some e) (q : EntD → Bool) : (L.eraseP (isP p)).countP q + (if q e = true then 1 else 0) = L.countP q := by
 induction L with
 | nil => simp at h
 | cons a L ih =>
   rw [List.find?_cons] at h
   cases ha : isP p a with
   | true =>
     rw [ha] at h
     cases h
     rw [List.eraseP_cons_of_pos ha, List.countP_cons]
   | false =>
     rw [ha] at h
     rw [List.eraseP_cons_of_neg (by simp [ha]), List.countP_cons, List.countP_cons, ← ih h]
     omega
section
variable {W : List By → Int} {D : Int → Bool} {L : List EntD}
theorem Flat.find (h : Flat W D L) {p : By} {l : List By} (hp : pathL p = some l) (hw : W l ≠ 0) : L.find? (isP p) = some ⟨p, W l, D (W l)⟩ :=
 (find_ent h.pnd).2 ⟨(h.ent _).2 ⟨l, hw, by rw [joinP_pathL hp]⟩, rfl⟩
theorem Flat.find_none (h : Flat W D L) {p : By} (hw : ∀ l, pathL p = some l → W l = 0) : L.find? (isP p) = none := by
 cases hf : L.find? (isP p) with
 | none => rfl
 | some e =>
   obtain ⟨h1, h2⟩ := (find_ent h.pnd).1 hf
   obtain ⟨l, h3, h4⟩ := (h.ent e).1 h1
   rw [h4] at h2
   exact absurd (hw l (by rw [← h2]; exact h.deep l h3)) h3
theorem Flat.less (h : Flat W D L) {p : By} {l : List By} (hp : pathL p = some l) : Flat (fun m => if m = l then 0 else W m) D (L.eraseP (isP p)) := by
 refine ⟨fun m hm => ?_, ?_, fun e => ?_⟩
 · split at hm
   · exact absurd rfl hm
   · exact h.deep m hm
 · exact h.pnd.sublist (List.eraseP_sublist.map _)
 · rw [mem_eraseP h.pnd, h.ent]
   constructor
   · rintro ⟨⟨m, h1, rfl⟩, h2⟩
     have hne : m ≠ l := fun e => by subst e; exact h2 (joinP_pathL hp)
     exact ⟨m, by rw [if_neg hne]; exact h1, by rw [if_neg hne]⟩
   · rintro ⟨m, h1, h2⟩
     by_cases hm : m = l
     · rw [if_pos hm] at h1; exact absurd rfl h1
     · rw [if_neg hm] at h1 h2
       refine ⟨⟨m, h1, h2⟩, fun e1 => hm ?_⟩
       rw [h2] at e1
       have e1 : joinP m = p := e1
       have h3 := h.deep m h1
       rw [e1, hp] at h3
       exact (Option.some.inj h3).symm
theorem Flat.more (h : Flat W D L) {p : By} {l : List By} (hp : pathL p = some l) (h0 : W l = 0) {v : Int} (hv : v ≠ 0) : Flat (fun m => if m = l then v else W m) D (L ++ [⟨p, v, D v⟩]) := by
 have hj := joinP_pathL hp
 have hnot : ∀ e ∈ L, e.path ≠ p := by
  intro e he hep
  obtain ⟨m, h1, h2⟩ := (h.ent e).1 he
  rw [h2] at hep
  have hep : joinP m = p := hep
  have h3 := h.deep m h1
  rw [hep, hp] at h3
  rw [← Option.some.inj h3] at h1
  exact h1 h0
 refine ⟨fun m hm => ?_, ?_, fun e => ?_⟩
 · split at hm
   · rename_i e; rw [e, hj]; exact hp
   · exact h.deep m hm
 · rw [List.map_append, List.nodup_append]
   refine ⟨h.pnd, by simp, fun a ha b hb e => ?_⟩
   obtain ⟨e1, he1, rfl⟩ := List.mem_map.1 ha
   simp only [List.map_cons, List.map_nil, List.mem_singleton] at hb
   exact hnot e1 he1 (by rw [e, hb])
 · rw [List.mem_append, h.ent, List.mem_singleton]
   constructor
   · rintro (⟨m, h1, rfl⟩ | rfl)
     · have hne : m ≠ l := fun e => by subst e; exact h1 h0
       exact ⟨m, by rw [if_neg hne]; exact h1, by rw [if_neg hne]⟩
     · exact ⟨l, by rw [if_pos rfl]; exact hv, by rw [if_pos rfl, hj]⟩
   · rintro ⟨m, h1, h2⟩
     by_cases hm : m = l
     · rw [if_pos hm, hm, hj] at h2; exact Or.inr h2
     · rw [if_neg hm] at h1 h2; exact Or.inl ⟨m, h1, h2⟩
theorem Flat.congr (h : Flat W D L) {W' : List By → Int} {D' : Int → Bool} (hW : ∀ l, W' l = W l) (hD : ∀ l, W l ≠ 0 → D' (W l) = D (W l)) : Flat W' D' L := by
 refine ⟨fun l hl => h.deep l (by rw [← hW]; exact hl), h.pnd, fun e => ?_⟩
 rw [h.ent]
 constructor
 · rintro ⟨l, h1, h2⟩; exact ⟨l, by rw [hW]; exact h1, by rw [hW, hD l h1]; exact h2⟩
 · rintro ⟨l, h1, h2⟩; rw [hW] at h1 h2; exact ⟨l, h1, by rw [h2, hD l h1]⟩
end
end Go.Proofs.YtefpllpichhojaaGreatDoor
