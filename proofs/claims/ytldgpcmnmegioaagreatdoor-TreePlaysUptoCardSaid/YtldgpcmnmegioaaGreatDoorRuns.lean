/- Cells one behind the other. -/
import Derived.Test.YtldgpcmnmegioaaGreatDoorM3
namespace Go.Proofs.YtldgpcmnmegioaaGreatDoor
open Go.RowKit
theorem flat_at {α : Type} {F : α → List Value} {m : Nat} (hm : ∀ x, (F x).length = m) : ∀ (L : List α) (i r : Nat) (hi : i < L.length), r < m → (L.flatMap F)[i * m + r]? = (F L[i])[r]?
  | [], i, r, hi, _ => by simp at hi
  | x :: L, 0, r, _, hr => by
    rw [List.flatMap_cons, List.getElem?_append_left (by rw [hm]; omega)]
    simp
  | x :: L, i + 1, r, hi, hr => by
    have ih := flat_at hm L i r (by simpa using hi) hr
    rw [List.flatMap_cons, List.getElem?_append_right (by rw [hm, Nat.succ_mul]; omega), hm]
    have e : (i + 1) * m + r - m = i * m + r := by rw [Nat.succ_mul]; omega
    rw [e, ih]
    simp
theorem flat_lenm {α : Type} {F : α → List Value} {m : Nat} (hm : ∀ x, (F x).length = m) : ∀ (L : List α), (L.flatMap F).length = L.length * m
  | [] => by simp
  | x :: L => by rw [List.flatMap_cons, List.length_append, hm, flat_lenm hm L, List.length_cons, Nat.succ_mul]; omega
/-- Cells one behind the other. -/
def RunM (w : World) (a : Option Addr) (us : List Value) : Prop := us = [] ∨ ∃ g off, a = some ⟨g, off, none⟩ ∧ g < w.heap.size ∧ ∀ j u, us[j]? = some u → w.cell? ⟨g, off + j, none⟩ = some u
/-- A slice's block, if it has one, is none of those that were there. -/
def Fresh (base : Nat) (a : Option Addr) : Prop := ∀ ad, a = some ad → base ≤ ad.block
theorem run_of_row {w : World} {base E m n : Nat} {v : Value} {us : List Value} (h : w.ownsRow base E m v n us) : ∃ a c, v = .slice a n c ∧ n ≤ c ∧ RunM w a us ∧ Fresh base a := by
  have hl := h.1
  rcases h.2 with ⟨h1, h2⟩ | ⟨g, c, cur, h1, hbg, hg, hn, hm, hs, ht⟩
  · exact ⟨none, 0, by rw [h1, h2], by omega, Or.inl (List.eq_nil_of_length_eq_zero (by rw [hl, h2]; simp)), fun ad h => by cases h⟩
  · refine ⟨_, c, h1, hn, Or.inr ⟨g, 0, rfl, (Array.getElem?_eq_some_iff.1 hg).1, fun j u hj => ?_⟩, fun ad h => by cases h; exact hbg⟩
    rw [← ht, List.getElem?_take] at hj
    rw [Nat.zero_add]
    split at hj
    · exact blk_cell hg _ _ (by simpa using hj)
    · cases hj
/-- What a clone is. -/
def CloneR (n : Nat) (us : List Value) (w : World) (e : Ending) (w' : World) : Prop := ∃ a c, e = .returned (.slice a n c) ∧ n ≤ c ∧ RunM w' a us ∧ Fresh w.heap.size a ∧ Ext w w'
theorem RunM.ext {w w' : World} {a : Option Addr} {us : List Value} (h : RunM w a us) (k : Ext w w') : RunM w' a us := by
  rcases h with h | ⟨g, off, ha, hg, hc⟩
  · exact Or.inl h
  · exact Or.inr ⟨g, off, ha, Nat.lt_of_lt_of_le hg k.size, fun j u hj => k.cell (hc j u hj)⟩
theorem RunM.plain {w : World} {ad : Addr} {us : List Value} (h : RunM w (some ad) us) : ∀ j u, us[j]? = some u → w.cell? (ad.add j) = some u := by
  intro j u hj
  rcases h with h | ⟨g, off, ha, _, hc⟩
  · rw [h] at hj; simp at hj
  · have ha := Option.some.inj ha
    subst ha
    have e : (⟨g, off, none⟩ : Addr).add j = ⟨g, off + j, none⟩ := by
      unfold Addr.add; split
      · rename_i h0; subst h0; rfl
      · rfl
    rw [e]; exact hc j u hj
end Go.Proofs.YtldgpcmnmegioaaGreatDoor
