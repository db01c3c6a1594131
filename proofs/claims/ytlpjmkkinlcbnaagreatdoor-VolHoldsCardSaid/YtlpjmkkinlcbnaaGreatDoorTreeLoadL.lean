/- Trees that rows of bytes are, in plain Lean. -/
import Derived.Test.YtlpjmkkinlcbnaaGreatDoorM3
namespace Go.Proofs.YtlpjmkkinlcbnaaGreatDoor
def oneKid (s : RSt) : (By × Int) × RSt := (((rRaw 12 s).1, ((rNum 1073741824 (rRaw 12 s).2).1 : Nat)), (rNum 1073741824 (rRaw 12 s).2).2)
theorem oneKid_takes : Takes oneKid := fun s h => by
  unfold oneKid
  have h1 := (oneText_takes 12) s h
  have h1 : (rRaw 12 s).2.1.length < s.1.length := h1
  have h2 := rNum_len 1073741824 (rRaw 12 s).2
  show (rNum 1073741824 (rRaw 12 s).2).2.1.length < s.1.length
  omega
def kidsK (L : List (By × Int)) : By → Option Int := L.foldl (fun k x => withK k x.1 x.2) noK
theorem kidsK_app (L : List (By × Int)) (x : By) (i : Int) : kidsK (L ++ [(x, i)]) = withK (kidsK L) x i := by
  unfold kidsK
  rw [List.foldl_append]
  rfl
/-- A node that a row is, and its number. -/
def rowA (l : By) : Int × RSt := (((rNum 1073741824 (l, false)).1 : Nat), (rNum 1073741824 (l, false)).2)
def rowB (s : RSt) : (Int × By) × RSt := ((((rNum 1048576 s).1 : Nat), (rRaw 3500 (rNum 1048576 s).2).1), (rRaw 3500 (rNum 1048576 s).2).2)
def rowC (s : RSt) : (Bool × (By → Option Int)) × RSt :=
  if 0 < s.1.length then ((decide ((rNum 1 s).1 = 1), kidsK (rEach oneKid (rNum 1 s).2).1), (rEach oneKid (rNum 1 s).2).2) else ((false, noK), s)
def rowN (l : By) : (Int × NodeD) × RSt :=
  (((rowA l).1, ⟨(rowC (rowB (rowA l).2).2).1.1, (rowB (rowA l).2).1.1, (rowB (rowA l).2).1.2, (rowC (rowB (rowA l).2).2).1.2⟩), (rowC (rowB (rowA l).2).2).2)
def putT (T : TreeD) (i : Int) (n : NodeD) : TreeD := { T with ids := if i ∈ T.ids then T.ids else T.ids ++ [i], node := fun j => if j = i then n else T.node j }
theorem putT_ids (T : TreeD) (i : Int) (n : NodeD) (j : Int) : j ∈ (putT T i n).ids ↔ j = i ∨ j ∈ T.ids := by
  unfold putT
  show j ∈ (if i ∈ T.ids then T.ids else T.ids ++ [i]) ↔ _
  split
  · rename_i h; exact ⟨Or.inr, fun e => e.elim (fun e => e ▸ h) id⟩
  · rw [List.mem_append, List.mem_singleton]; exact Or.comm
def emptyT (q : Int) : TreeD := ⟨[], fun _ => newN, 0, max 0 q⟩
def rowsT : TreeD → List By → Option TreeD
  | T, [] => some T
  | T, l :: L => if (rowN l).2.2 = true then none else rowsT (putT T (rowN l).1.1 (rowN l).1.2) L
def loadsT (q : Int) : List By → Option TreeD
  | [] => some (emptyT q)
  | l :: L => if rDone (rowA l).2 = true then rowsT { emptyT q with next := (rowA l).1 } L else none
/-- A root is there, and what directories have. -/
def OkN (T : TreeD) (i : Int) : Prop := i < T.next ∧ ∀ x k, (T.node i).kids x = some k → k ∈ T.ids ∧ k ≠ 1
def SoundT (T : TreeD) : Prop := ((1 : Int) ∈ T.ids ∧ (T.node 1).dir = true) ∧ ∀ i ∈ T.ids, OkN T i
/-- All numbers, and names, are small. -/
structure SmallT (T : TreeD) : Prop where
  nodup : T.ids.Nodup
  next : 0 ≤ T.next ∧ T.next ≤ 1073741824
  ids : ∀ i ∈ T.ids, 0 ≤ i ∧ i ≤ 1073741824
  kids : ∀ i ∈ T.ids, ∀ x k, (T.node i).kids x = some k → x.length ≤ 12 ∧ 0 ≤ k ∧ k ≤ 1073741824
theorem kidsK_small (L : List (By × Int)) (h : ∀ y ∈ L, y.1.length ≤ 12 ∧ 0 ≤ y.2 ∧ y.2 ≤ 1073741824) : ∀ x k, kidsK L x = some k → x.length ≤ 12 ∧ 0 ≤ k ∧ k ≤ 1073741824 := by
  unfold kidsK
  have key : ∀ (L : List (By × Int)) (K0 : By → Option Int), (∀ x k, K0 x = some k → x.length ≤ 12 ∧ 0 ≤ k ∧ k ≤ 1073741824) → (∀ y ∈ L, y.1.length ≤ 12 ∧ 0 ≤ y.2 ∧ y.2 ≤ 1073741824) →
      ∀ x k, L.foldl (fun k x => withK k x.1 x.2) K0 x = some k → x.length ≤ 12 ∧ 0 ≤ k ∧ k ≤ 1073741824 := by
    intro L
    induction L with
    | nil => intro K0 h0 _ x k h; exact h0 x k h
    | cons y L ih =>
      intro K0 h0 hL x k h
      refine ih (withK K0 y.1 y.2) (fun x k h => ?_) (fun z hz => hL z (List.mem_cons_of_mem _ hz)) x k h
      unfold withK at h
      split at h
      · rename_i e
        have := hL y List.mem_cons_self
        rw [e, ← Option.some.inj h]
        exact this
      · exact h0 x k h
  exact key L noK (fun x k h => by cases h) h
theorem rRaw_most (most : Nat) (s : RSt) : (rRaw most s).1.length ≤ most := by
  have := rNum_le most s
  unfold rRaw; split
  · simp
  · rw [List.length_take]; omega
theorem oneKid_small (s : RSt) : (oneKid s).1.1.length ≤ 12 ∧ 0 ≤ (oneKid s).1.2 ∧ (oneKid s).1.2 ≤ 1073741824 := by
  have h1 := rRaw_most 12 s
  have h2 := rNum_le 1073741824 (rRaw 12 s).2
  exact ⟨h1, by show (0 : Int) ≤ ((rNum 1073741824 (rRaw 12 s).2).1 : Nat); omega, by show (((rNum 1073741824 (rRaw 12 s).2).1 : Nat) : Int) ≤ 1073741824; omega⟩
theorem rEach_all {α : Type} {one : RSt → α × RSt} (less : Takes one) {P : α → Prop} (h : ∀ s, P (one s).1) : ∀ (n : Nat) (s : RSt), s.1.length ≤ n → ∀ y ∈ (rEach one s).1, P y
  | 0, s, hs, y, hy => by rw [rEach_nil one (by omega)] at hy; cases hy
  | n + 1, s, hs, y, hy => by
    by_cases h0 : s.1.length = 0
    · rw [rEach_nil one h0] at hy; cases hy
    · rw [rEach_cons less (by omega)] at hy
      rcases List.mem_cons.1 hy with rfl | hy
      · exact h s
      · have := less s (by omega)
        exact rEach_all less h n _ (by omega) y hy
theorem rowC_small (s : RSt) : ∀ x k, (rowC s).1.2 x = some k → x.length ≤ 12 ∧ 0 ≤ k ∧ k ≤ 1073741824 := by
  unfold rowC
  split
  · exact kidsK_small _ fun y hy => rEach_all oneKid_takes (P := fun y => y.1.length ≤ 12 ∧ 0 ≤ y.2 ∧ y.2 ≤ 1073741824) oneKid_small _ _ (Nat.le_refl _) y hy
  · intro x k h; cases h
theorem rowA_small (l : By) : 0 ≤ (rowA l).1 ∧ (rowA l).1 ≤ 1073741824 := by
  have h2 := rNum_le 1073741824 (l, false)
  exact ⟨by show (0 : Int) ≤ ((rNum 1073741824 (l, false)).1 : Nat); omega, by show (((rNum 1073741824 (l, false)).1 : Nat) : Int) ≤ 1073741824; omega⟩
theorem SmallT.put {T : TreeD} (h : SmallT T) (l : By) : SmallT (putT T (rowN l).1.1 (rowN l).1.2) := by
  have hi := rowA_small l
  have hk := rowC_small (rowB (rowA l).2).2
  refine ⟨?_, h.next, fun i hm => ?_, fun i hm x k hx => ?_⟩
  · unfold putT
    show (if (rowN l).1.1 ∈ T.ids then T.ids else T.ids ++ [(rowN l).1.1]).Nodup
    split
    · exact h.nodup
    · rename_i hn
      rw [List.nodup_append]
      exact ⟨h.nodup, by simp, fun a ha b hb e => hn (by rw [List.mem_singleton] at hb; rw [← hb, ← e]; exact ha)⟩
  · rcases (putT_ids _ _ _ _).1 hm with rfl | hm
    · exact hi
    · exact h.ids i hm
  · have hx : (if i = (rowN l).1.1 then (rowN l).1.2 else T.node i).kids x = some k := hx
    by_cases e : i = (rowN l).1.1
    · rw [if_pos e] at hx; exact hk x k hx
    · rw [if_neg e] at hx
      exact h.kids i (((putT_ids _ _ _ _).1 hm).resolve_left e) x k hx
theorem SmallT.empty (q n : Int) (h : 0 ≤ n ∧ n ≤ 1073741824) : SmallT { emptyT q with next := n } :=
  ⟨List.nodup_nil, h, fun i (hi : i ∈ ([] : List Int)) => absurd hi List.not_mem_nil, fun i (hi : i ∈ ([] : List Int)) => absurd hi List.not_mem_nil⟩
end Go.Proofs.YtlpjmkkinlcbnaaGreatDoor
