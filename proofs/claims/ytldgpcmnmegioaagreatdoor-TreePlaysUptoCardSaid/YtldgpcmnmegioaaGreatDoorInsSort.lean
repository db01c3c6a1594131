/- Sorting by putting in, in plain Lean; a cell of a row that a call made is written. -/
import Derived.Test.YtldgpcmnmegioaaGreatDoorM5
namespace Go.Proofs.YtldgpcmnmegioaaGreatDoor
open Go.RowKit
section
variable {α : Type} {R : α → α → Prop} {d : α}
def swapL (d : α) (X : List α) (j : Nat) : List α := (X.set j (X.getD (j - 1) d)).set (j - 1) (X.getD j d)
theorem swapL_len (X : List α) (j : Nat) : (swapL d X j).length = X.length := by simp [swapL]
theorem swapL_perm {X : List α} {j : Nat} (h : j < X.length) : (swapL d X j).Perm X := by
  have h1 : j - 1 < X.length := by omega
  have e1 : X.getD (j - 1) d = X[j - 1] := by simp [List.getD_eq_getElem?_getD, List.getElem?_eq_getElem h1]
  have e2 : X.getD j d = X[j] := by simp [List.getD_eq_getElem?_getD, List.getElem?_eq_getElem h]
  unfold swapL
  rw [e1, e2]
  exact List.set_set_perm h h1
theorem swapL_at {X : List α} {j : Nat} (h : j < X.length) (i : Nat) : (swapL d X j).getD i d = if i = j - 1 then X.getD j d else if i = j then X.getD (j - 1) d else X.getD i d := by
  unfold swapL
  rw [List.getD_eq_getElem?_getD, List.getElem?_set]
  by_cases h1 : i = j - 1
  · rw [if_pos h1.symm, if_pos h1, if_pos (by rw [List.length_set]; omega)]; rfl
  · rw [if_neg (fun e => h1 e.symm), if_neg h1, List.getElem?_set]
    by_cases h2 : i = j
    · rw [if_pos h2.symm, if_pos h2, if_pos (by omega)]; rfl
    · rw [if_neg (fun e => h2 e.symm), if_neg h2, List.getD_eq_getElem?_getD]
/-- All but what is being put in stands in order. -/
def InsInv (R : α → α → Prop) (d : α) (X : List α) (k j : Nat) : Prop := ∀ a b, a < b → b ≤ k → b ≠ j → R (X.getD a d) (X.getD b d)
def SortTo (R : α → α → Prop) (d : α) (X : List α) (k : Nat) : Prop := ∀ a b, a < b → b < k → R (X.getD a d) (X.getD b d)
theorem SortTo.ins {X : List α} {k : Nat} (h : SortTo R d X k) : InsInv R d X k k := fun a b h1 h2 h3 => h a b h1 (by omega)
theorem InsInv.done {X : List α} {k j : Nat} (h : InsInv R d X k j) (tr : ∀ x y z, R x y → R y z → R x z) (hj : j = 0 ∨ R (X.getD (j - 1) d) (X.getD j d)) : SortTo R d X (k + 1) := by
  intro a b h1 h2
  by_cases hb : b = j
  · subst hb
    rcases hj with hj | hj
    · omega
    · by_cases ha : a = b - 1
      · rw [ha]; exact hj
      · exact tr _ _ _ (h a (b - 1) (by omega) (by omega) (by omega)) hj
  · exact h a b h1 (by omega) hb
theorem InsInv.swap {X : List α} {k j : Nat} (h : InsInv R d X k j) (hj : 0 < j) (hjk : j ≤ k) (hk : k < X.length) (hr : R (X.getD j d) (X.getD (j - 1) d)) : InsInv R d (swapL d X j) k (j - 1) := by
  intro a b h1 h2 h3
  rw [swapL_at (by omega), swapL_at (by omega), if_neg h3]
  by_cases hb : b = j
  · rw [if_pos hb]
    by_cases ha : a = j - 1
    · rw [if_pos ha]; exact hr
    · rw [if_neg ha, if_neg (by omega)]
      exact h a (j - 1) (by omega) (by omega) (by omega)
  · rw [if_neg hb]
    by_cases ha : a = j - 1
    · rw [if_pos ha]; exact h j b (by omega) h2 hb
    · rw [if_neg ha]
      by_cases ha2 : a = j
      · rw [if_pos ha2]; exact h (j - 1) b (by omega) h2 hb
      · rw [if_neg ha2]; exact h a b h1 h2 hb
theorem SortTo.pairwise {X : List α} (h : SortTo R d X X.length) : X.Pairwise R := by
  rw [List.pairwise_iff_getElem]
  intro i j hi hj hij
  have := h i j hij hj
  simpa [List.getD_eq_getElem?_getD, List.getElem?_eq_getElem hi, List.getElem?_eq_getElem hj] using this
theorem SortTo.of_pairwise {X : List α} (h : X.Pairwise R) : SortTo R d X X.length := by
  intro i j hij hj
  have := (List.pairwise_iff_getElem.1 h) i j (by omega) hj hij
  simpa [List.getD_eq_getElem?_getD, List.getElem?_eq_getElem hj, List.getElem?_eq_getElem (show i < X.length by omega)] using this
theorem SortTo.snoc {X : List α} {x : α} (h : SortTo R d X X.length) : SortTo R d (X ++ [x]) X.length := by
  intro a b h1 h2
  have := h a b h1 h2
  have e : ∀ i, i < X.length → (X ++ [x]).getD i d = X.getD i d := fun i hi => by simp [List.getD_eq_getElem?_getD, List.getElem?_append_left hi]
  rw [e a (by omega), e b h2]
  exact this
end
/-- A cell of a row of the call's own is written. -/
theorem own_set {w : World} {base : Nat} {E : TypeId} {a : Option Addr} {n c : Nat} {xs : List Value} (h : w.ownsRow base E 1 (.slice a n c) n xs) {i : Nat} (hi : i < n) :
    ∃ g, a = some ⟨g, 0, none⟩ ∧ base ≤ g ∧ g < w.heap.size ∧ w.frozen? ⟨g, i, none⟩ = false ∧ (∀ j u, xs[j]? = some u → w.cell? ⟨g, j, none⟩ = some u) ∧ ∀ u, (w.setCell ⟨g, i, none⟩ u).ownsRow base E 1 (.slice a n c) n (xs.set i u) ∧ But g w (w.setCell ⟨g, i, none⟩ u) := by
  have hl := h.1
  rcases h.2 with ⟨h1, h2⟩ | ⟨g, c', cur, h1, hbg, hg, hn, hm, hs, ht⟩
  · omega
  · obtain ⟨rfl, rfl⟩ : a = some ⟨g, 0, none⟩ ∧ c = c' := by cases h1; exact ⟨rfl, rfl⟩
    refine ⟨g, rfl, hbg, (Array.getElem?_eq_some_iff.1 hg).1, blk_free hg i, fun j u hj => ?_, fun u => ⟨⟨by rw [List.length_set]; exact hl, Or.inr ⟨g, c, cur.setIfInBounds i u, rfl, hbg, setCell_row hg u, hn, hm, by simpa using hs, ?_⟩⟩, (But.refl g w).setCell i u⟩⟩
    · rw [← ht, List.getElem?_take] at hj
      split at hj
      · exact blk_cell hg j u (by simpa using hj)
      · cases hj
    · rw [← ht, Array.toList_setIfInBounds, List.take_set]
end Go.Proofs.YtldgpcmnmegioaaGreatDoor
