/- Trees, in plain Lean: nodes by their numbers; what operations make of them. -/
import Derived.Test.YtldgpcmnmegioaaGreatDoorArcSpec
namespace Go.Proofs.YtldgpcmnmegioaaGreatDoor
/-- A directory, or a file. -/
structure NodeD where
  dir : Bool
  links : Int
  data : By
  kids : By → Option Int
/-- Nodes, the next number, for how many bytes there is room. -/
structure TreeD where
  ids : List Int
  node : Int → NodeD
  next : Int
  quota : Int
/-- An operation. -/
structure OpD where
  kind : Int
  path : By
  dest : By
  data : By
def noK : By → Option Int := fun _ => none
def withK (k : By → Option Int) (x : By) (i : Int) : By → Option Int := fun z => if z = x then some i else k z
def lessK (k : By → Option Int) (x : By) : By → Option Int := fun z => if z = x then none else k z
def newN : NodeD := ⟨true, 1, [], noK⟩
def fileN (d : By) : NodeD := ⟨false, 1, d, noK⟩
def setT (T : TreeD) (i : Int) (n : NodeD) : TreeD := { T with node := fun j => if j = i then n else T.node j }
def addT (T : TreeD) (n : NodeD) : TreeD := { T with ids := T.ids ++ [T.next], node := fun j => if j = T.next then n else T.node j, next := T.next + 1 }
def delT (T : TreeD) (i : Int) : TreeD := { T with ids := T.ids.filter fun j => !decide (j = i) }
/-- A name more, a name less, in a directory; another count of links. -/
def bindT (T : TreeD) (d : Int) (x : By) (i : Int) : TreeD := setT T d { T.node d with kids := withK (T.node d).kids x i }
def cutT (T : TreeD) (d : Int) (x : By) : TreeD := setT T d { T.node d with kids := lessK (T.node d).kids x }
def linkT (T : TreeD) (i : Int) (k : Int) : TreeD := setT T i { T.node i with links := (T.node i).links + k }
def newT (q : Int) : TreeD := ⟨[1], fun _ => newN, 2, max 0 q⟩
/-- What has a name in a directory; 0: nothing. -/
def kidT (T : TreeD) (d : Int) (x : By) : Int := ((T.node d).kids x).getD 0
def walkT (T : TreeD) : Int → List By → Int
  | at_, [] => at_
  | at_, x :: l => if kidT T at_ x = 0 then 0 else walkT T (kidT T at_ x) l
def findT (T : TreeD) (p : By) : Int := match pathL p with
  | none => 0
  | some l => walkT T 1 l
/-- The directory of a path, and its last name. -/
def upL (l : By) : Option (List By × By) := match pathL l with
  | some (p :: q) => some ((p :: q).take q.length, (p :: q).getD q.length [])
  | _ => none
inductive PlaceD where
  | bad (e : Int)
  | at (d : Int) (x : By)
def placeT (T : TreeD) (p : By) : PlaceD := match upL p with
  | none => .bad 14
  | some (l, x) =>
    if walkT T 1 l = 0 then .bad 8
    else if (T.node (walkT T 1 l)).dir then .at (walkT T 1 l) x else .bad 11
def emptyK (k : By → Option Int) : Prop := ∀ x, k x = none
open Classical in
noncomputable def fileT (T : TreeD) (o : OpD) (d : Int) (x : By) (i : Int) : TreeD × Int :=
  if o.kind = 3 then (setT T i ⟨false, (T.node i).links, o.data, noK⟩, 0)
  else if o.kind = 6 then (linkT (cutT T d x) i (-1), 0)
  else match placeT T o.dest with
  | .bad e => (T, e)
  | .at d2 y =>
    if o.kind = 4 ∧ kidT T d2 y ≠ 0 then (T, 9)
    else if kidT T d2 y ≠ 0 ∧ (T.node (kidT T d2 y)).dir = true then (T, 10)
    else if kidT T d2 y = i then (T, 0)
    else if o.kind = 4 then (bindT (linkT T i 1) d2 y i, 0)
    else if kidT T d2 y ≠ 0 then (bindT (cutT (linkT T (kidT T d2 y) (-1)) d x) d2 y i, 0)
    else (bindT (cutT T d x) d2 y i, 0)
open Classical in
noncomputable def stepT (T : TreeD) (o : OpD) : TreeD × Int :=
  if o.kind < 0 ∨ 6 < o.kind then (T, 1)
  else match placeT T o.path with
  | .bad e => (T, e)
  | .at d x =>
    if 3500 < o.data.length then (T, 6)
    else if o.kind = 0 ∨ o.kind = 2 then
      if kidT T d x ≠ 0 then (T, 9)
      else (bindT (addT T (if o.kind = 0 then newN else fileN o.data)) d x T.next, 0)
    else if kidT T d x = 0 then (T, 8)
    else if o.kind = 1 then
      if (T.node (kidT T d x)).dir = false then (T, 11)
      else if emptyK (T.node (kidT T d x)).kids then (delT (cutT T d x) (kidT T d x), 0)
      else (T, 12)
    else if (T.node (kidT T d x)).dir = true then (T, 10)
    else fileT T o d x (kidT T d x)
/-- Operations one by one, up to the first that is refused. -/
noncomputable def runT : TreeD → List OpD → TreeD × Int
  | T, [] => (T, 0)
  | T, o :: l => if (stepT T o).2 = 0 then runT (stepT T o).1 l else stepT T o
def usedT (T : TreeD) : Nat := (T.ids.map fun i => (T.node i).data.length).sum
/-- The numbers of files that stand nowhere, in order. -/
def looseT (T : TreeD) : List Int := (T.ids.filter fun i => decide ((T.node i).links = 0)).mergeSort fun x y => decide (x ≤ y)
/-- All of them, or none. -/
noncomputable def doT (T : TreeD) (l : List OpD) : TreeD × Int :=
  if (runT T l).2 ≠ 0 then (T, (runT T l).2)
  else if 128 < (runT T l).1.ids.length then (T, 7)
  else if T.quota < usedT (runT T l).1 then (T, 13)
  else ((runT T l).1, 0)
/-! ### What is so with each tree that comes of a new one -/
structure GoodT (T : TreeD) : Prop where
  nodup : T.ids.Nodup
  root : (1 : Int) ∈ T.ids
  rdir : (T.node 1).dir = true
  low : ∀ i ∈ T.ids, 1 ≤ i ∧ i < T.next
  kid : ∀ i ∈ T.ids, ∀ x k, (T.node i).kids x = some k → k ∈ T.ids ∧ k ≠ 1
  file : ∀ i ∈ T.ids, (T.node i).dir = false → (T.node i).kids = noK
  sole : ∀ i ∈ T.ids, ∀ j ∈ T.ids, ∀ x y k, (T.node i).kids x = some k → (T.node j).kids y = some k → (T.node k).dir = true → i = j ∧ x = y
theorem newT_good (q : Int) : GoodT (newT q) :=
  ⟨by simp [newT], by simp [newT], rfl, fun i hi => by simp only [newT, List.mem_singleton] at hi; subst hi; simp [newT], fun i _ x k h => by simp [newT, newN, noK] at h, fun _ _ _ => rfl, fun i _ j _ x y k h => by simp [newT, newN, noK] at h⟩
section
variable {T : TreeD}
theorem GoodT.kid_mem (h : GoodT T) {d : Int} (hd : d ∈ T.ids) {x : By} (hk : kidT T d x ≠ 0) : kidT T d x ∈ T.ids ∧ (T.node d).kids x = some (kidT T d x) ∧ kidT T d x ≠ 1 := by
  unfold kidT at hk ⊢
  cases hx : (T.node d).kids x with
  | none => rw [hx] at hk; exact absurd rfl hk
  | some k => have := h.kid d hd x k hx; exact ⟨this.1, rfl, this.2⟩
theorem GoodT.kid_zero (h : GoodT T) {d : Int} (hd : d ∈ T.ids) {x : By} (hk : kidT T d x = 0) : (T.node d).kids x = none := by
  unfold kidT at hk
  cases hx : (T.node d).kids x with
  | none => rfl
  | some k =>
    rw [hx] at hk
    have h1 := (h.low k (h.kid d hd x k hx).1).1
    have : k = 0 := hk
    omega
theorem GoodT.walk_mem (h : GoodT T) : ∀ (l : List By) (i : Int), i ∈ T.ids → walkT T i l ≠ 0 → walkT T i l ∈ T.ids
  | [], i, hi, _ => hi
  | x :: l, i, hi, hw => by
    unfold walkT at hw ⊢
    split at hw
    · exact absurd rfl hw
    · rename_i hk
      rw [if_neg hk]
      exact h.walk_mem l _ (h.kid_mem hi hk).1 hw
theorem GoodT.find_mem (h : GoodT T) {p : By} (hf : findT T p ≠ 0) : findT T p ∈ T.ids := by
  unfold findT at hf ⊢
  cases hp : pathL p with
  | none => rw [hp] at hf; exact absurd rfl hf
  | some l => rw [hp] at hf; exact h.walk_mem l 1 h.root hf
theorem GoodT.place_mem (h : GoodT T) {p : By} {d : Int} {x : By} (hp : placeT T p = .at d x) : d ∈ T.ids ∧ (T.node d).dir = true ∧ x.length ≤ 12 := by
  unfold placeT at hp
  split at hp
  · cases hp
  · rename_i l y hu
    split at hp
    · cases hp
    · rename_i hw
      split at hp
      · rename_i hd
        cases hp
        refine ⟨h.walk_mem l 1 h.root hw, hd, ?_⟩
        unfold upL at hu
        split at hu
        · rename_i p0 q hpl
          cases hu
          have ha := (pathL_facts hpl).2.1
          have hm : (p0 :: q).getD q.length [] ∈ p0 :: q := by
            have hlt : q.length < (p0 :: q).length := by simp
            rw [List.getD_eq_getElem?_getD, List.getElem?_eq_getElem hlt]
            exact List.getElem_mem hlt
          exact nameL_12 (List.all_eq_true.1 ha _ hm)
        · cases hu
      · cases hp
/-! ### Turned in one place -/
theorem setT_node (i : Int) (n : NodeD) (j : Int) : (setT T i n).node j = if j = i then n else T.node j := rfl
theorem GoodT.setF (h : GoodT T) {i : Int} (n : NodeD) (hd : n.dir = false) (hi : (T.node i).dir = false) (hk : n.kids = noK) : GoodT (setT T i n) := by
  have h1 : i ≠ 1 := fun e => by rw [e, h.rdir] at hi; cases hi
  refine ⟨h.nodup, h.root, by rw [setT_node, if_neg (fun e => h1 e.symm)]; exact h.rdir, h.low, fun j hj x k hx => ?_, fun j hj hf => ?_, fun a ha b hb x y k hx hy hkd => ?_⟩
  · rw [setT_node] at hx
    split at hx
    · rw [hk] at hx; cases hx
    · exact h.kid j hj x k hx
  · rw [setT_node] at hf ⊢
    split at hf
    · rw [if_pos (by assumption)]; exact hk
    · rw [if_neg (by assumption)]; exact h.file j hj hf
  · rw [setT_node] at hx hy hkd
    split at hx
    · rw [hk] at hx; cases hx
    · split at hy
      · rw [hk] at hy; cases hy
      · split at hkd
        · rw [hd] at hkd; cases hkd
        · exact h.sole a ha b hb x y k hx hy hkd
theorem GoodT.link (h : GoodT T) {i : Int} (k : Int) (hi : i ∈ T.ids) (hd : (T.node i).dir = false) : GoodT (linkT T i k) :=
  h.setF _ hd hd (h.file i hi hd)
theorem GoodT.cut (h : GoodT T) {d : Int} (hd : (T.node d).dir = true) (x : By) : GoodT (cutT T d x) := by
  have hn : ∀ j, ((cutT T d x).node j).dir = (T.node j).dir := by
    intro j; unfold cutT; rw [setT_node]; split
    · rename_i e; rw [e]
    · rfl
  have hk : ∀ j z k, ((cutT T d x).node j).kids z = some k → (T.node j).kids z = some k := by
    intro j z k hz
    unfold cutT at hz
    rw [setT_node] at hz
    split at hz
    · rename_i e
      subst e
      simp only [lessK] at hz
      split at hz
      · cases hz
      · exact hz
    · exact hz
  refine ⟨h.nodup, h.root, by rw [hn]; exact h.rdir, h.low, fun j hj z k hz => h.kid j hj z k (hk j z k hz), fun j hj hf => ?_, fun a ha b hb z y k hz hy hkd => h.sole a ha b hb z y k (hk _ _ _ hz) (hk _ _ _ hy) (by rw [← hn]; exact hkd)⟩
  rw [hn] at hf
  unfold cutT
  rw [setT_node, if_neg (fun e => by rw [e, hd] at hf; cases hf)]
  exact h.file j hj hf
theorem GoodT.bind (h : GoodT T) {d i : Int} (hd : (T.node d).dir = true) (x : By) (hi : i ∈ T.ids) (h1 : i ≠ 1) (hs : (T.node i).dir = true → ∀ j ∈ T.ids, ∀ y, (T.node j).kids y ≠ some i) : GoodT (bindT T d x i) := by
  have hn : ∀ j, ((bindT T d x i).node j).dir = (T.node j).dir := by
    intro j; unfold bindT; rw [setT_node]; split
    · rename_i e; rw [e]
    · rfl
  have hk : ∀ j z k, ((bindT T d x i).node j).kids z = some k → (T.node j).kids z = some k ∨ (j = d ∧ z = x ∧ k = i) := by
    intro j z k hz
    unfold bindT at hz
    rw [setT_node] at hz
    split at hz
    · rename_i e
      simp only [withK] at hz
      split at hz
      · rename_i ez
        exact Or.inr ⟨e, ez, (Option.some.inj hz).symm⟩
      · left; rw [e]; exact hz
    · exact Or.inl hz
  refine ⟨h.nodup, h.root, by rw [hn]; exact h.rdir, h.low, fun j hj z k hz => ?_, fun j hj hf => ?_, fun a ha b hb z y k hz hy hkd => ?_⟩
  · rcases hk j z k hz with hz | ⟨_, _, rfl⟩
    · exact h.kid j hj z k hz
    · exact ⟨hi, h1⟩
  · rw [hn] at hf
    unfold bindT
    rw [setT_node, if_neg (fun e => by rw [e, hd] at hf; cases hf)]
    exact h.file j hj hf
  · rw [hn] at hkd
    rcases hk a z k hz with hz' | ⟨e1, e2, e3⟩
    · rcases hk b y k hy with hy' | ⟨e4, e5, e6⟩
      · exact h.sole a ha b hb z y k hz' hy' hkd
      · rw [e6] at hkd hz'
        exact absurd hz' (hs hkd a ha z)
    · rcases hk b y k hy with hy' | ⟨e4, e5, _⟩
      · rw [e3] at hkd hy'
        exact absurd hy' (hs hkd b hb y)
      · exact ⟨e1.trans e4.symm, e2.trans e5.symm⟩
theorem addT_node (n : NodeD) (j : Int) : (addT T n).node j = if j = T.next then n else T.node j := rfl
theorem addT_old (n : NodeD) {j : Int} (h : GoodT T) (hj : j ∈ T.ids) : (addT T n).node j = T.node j := by
  rw [addT_node, if_neg]
  intro e
  have := (h.low j hj).2
  omega
theorem GoodT.add (h : GoodT T) (n : NodeD) (hk : n.kids = noK) : GoodT (addT T n) := by
  have h1 := h.low 1 h.root
  have hmem : ∀ j, j ∈ (addT T n).ids ↔ j ∈ T.ids ∨ j = T.next := by intro j; simp [addT]
  have hkid : ∀ j x k, ((addT T n).node j).kids x = some k → j ≠ T.next ∧ (T.node j).kids x = some k := by
    intro j x k hx
    rw [addT_node] at hx
    split at hx
    · rw [hk] at hx; cases hx
    · exact ⟨by assumption, hx⟩
  have hin : ∀ j x k, j ∈ (addT T n).ids → ((addT T n).node j).kids x = some k → j ∈ T.ids ∧ (T.node j).kids x = some k := by
    intro j x k hj hx
    obtain ⟨h2, h3⟩ := hkid j x k hx
    exact ⟨((hmem j).1 hj).resolve_right h2, h3⟩
  refine ⟨?_, (hmem 1).2 (Or.inl h.root), by rw [addT_old n h h.root]; exact h.rdir, fun j hj => ?_, fun j hj x k hx => ?_, fun j hj hf => ?_, fun a ha b hb x y k hx hy hkd => ?_⟩
  · show (T.ids ++ [T.next]).Nodup
    rw [List.nodup_append]
    exact ⟨h.nodup, by simp, fun a ha b hb e => by rw [List.mem_singleton.1 hb] at e; have := (h.low a ha).2; omega⟩
  · show 1 ≤ j ∧ j < T.next + 1
    rcases (hmem j).1 hj with hj | rfl
    · have := h.low j hj; omega
    · omega
  · obtain ⟨h2, h3⟩ := hin j x k hj hx
    have := h.kid j h2 x k h3
    exact ⟨(hmem k).2 (Or.inl this.1), this.2⟩
  · rw [addT_node] at hf ⊢
    split at hf
    · rw [if_pos (by assumption)]; exact hk
    · rename_i hne
      rw [if_neg hne]
      exact h.file j (((hmem j).1 hj).resolve_right hne) hf
  · obtain ⟨h2, h3⟩ := hin a x k ha hx
    obtain ⟨h4, h5⟩ := hin b y k hb hy
    rw [addT_old n h (h.kid a h2 x k h3).1] at hkd
    exact h.sole a h2 b h4 x y k h3 h5 hkd
theorem GoodT.del (h : GoodT T) {i : Int} (h1 : i ≠ 1) (hs : ∀ j ∈ T.ids, ∀ y, (T.node j).kids y ≠ some i) : GoodT (delT T i) := by
  have hmem : ∀ j, j ∈ (delT T i).ids ↔ j ∈ T.ids ∧ j ≠ i := by intro j; simp [delT]
  refine ⟨h.nodup.filter _, (hmem 1).2 ⟨h.root, fun e => h1 e.symm⟩, h.rdir, fun j hj => h.low j ((hmem j).1 hj).1, fun j hj x k hx => ?_, fun j hj => h.file j ((hmem j).1 hj).1, fun a ha b hb => h.sole a ((hmem a).1 ha).1 b ((hmem b).1 hb).1⟩
  have hj' := ((hmem j).1 hj).1
  have := h.kid j hj' x k hx
  exact ⟨(hmem k).2 ⟨this.1, fun e => hs j hj' x (e ▸ hx)⟩, this.2⟩
end
end Go.Proofs.YtldgpcmnmegioaaGreatDoor
