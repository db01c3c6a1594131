/- What the document says of paths, in plain Lean: names, a path's names, a path's text. -/
import Derived.Test.YtldgpcmnmegioaaDoorName
import Derived.Test.YtldgpcmnmegioaaDoorM1
namespace Go.Proofs.YtldgpcmnmegioaaDoor
/-- A path's names. -/
def pathL (l : List UInt8) : Option (List (List UInt8)) :=
  if l = [47] then some []
  else if 40 < l.length ∨ l.head? ≠ some 47 then none
  else if 5 < (splitOn 47 l.tail).length then none
  else if (splitOn 47 l.tail).all nameL then some (splitOn 47 l.tail) else none
theorem pathL_root : pathL [47] = some [] := by simp [pathL]
theorem pathL_long {l : List UInt8} (h : 40 < l.length) : pathL l = none := by
  have h1 : l ≠ [47] := fun e => by rw [e] at h; simp at h
  simp [pathL, h1, h]
theorem pathL_head {l : List UInt8} (h1 : l ≠ [47]) (h : l.head? ≠ some 47) : pathL l = none := by
  simp [pathL, h1, h]
theorem pathL_many {l : List UInt8} (h1 : l ≠ [47]) (h : 5 < (splitOn 47 l.tail).length) : pathL l = none := by
  simp only [pathL, if_neg h1, if_pos h]; split <;> rfl
theorem pathL_bad {l : List UInt8} (h1 : l ≠ [47]) (h : (splitOn 47 l.tail).all nameL = false) : pathL l = none := by
  simp only [pathL, if_neg h1, h]; split
  · rfl
  · split <;> rfl
theorem pathL_good {l : List UInt8} (h1 : l ≠ [47]) (h2 : l.length ≤ 40) (h3 : l.head? = some 47) (h4 : (splitOn 47 l.tail).length ≤ 5) (h5 : (splitOn 47 l.tail).all nameL = true) :
    pathL l = some (splitOn 47 l.tail) := by
  unfold pathL; rw [if_neg h1, if_neg (by simp [h3]; omega), if_neg (by omega), if_pos h5]
theorem all_getD {L : List (List UInt8)} {k : Nat} (hk : k < L.length) (h : nameL (L.getD k []) = false) : L.all nameL = false := by
  rw [List.all_eq_false]
  exact ⟨L.getD k [], by simp [hk], by rw [h]; simp⟩
theorem all_take_step {L : List (List UInt8)} {k : Nat} (hk : k < L.length) (h0 : (L.take k).all nameL = true) (h : nameL (L.getD k []) = true) : (L.take (k + 1)).all nameL = true := by
  rw [List.take_succ_eq_append_getElem hk, List.all_append, h0]
  simp at h ⊢
  simpa [hk] using h

theorem signs_no47 {l : List UInt8} (h : signs l = true) : (47 : UInt8) ∉ l := by
  intro hm
  have := (List.all_eq_true.1 h) 47 hm
  exact absurd this (by decide)
theorem nameL_no47 {l : List UInt8} (h : nameL l = true) : (47 : UInt8) ∉ l := by
  unfold nameL at h; simp only [Bool.and_eq_true] at h; exact signs_no47 h.2
/-- What is known of a path's names. -/
theorem pathL_facts {l : List UInt8} {L : List (List UInt8)} (h : pathL l = some L) :
    L.length ≤ 5 ∧ L.all nameL = true ∧ l.length ≤ 40 ∧ (l = [47] ∧ L = [] ∨ l ≠ [47] ∧ L ≠ [] ∧ glue 47 L = l ∧ L = splitOn 47 l.tail) := by
  unfold pathL at h
  split at h
  · rename_i h1; cases h; subst h1; exact ⟨by simp, by simp, by simp, Or.inl ⟨rfl, rfl⟩⟩
  · rename_i h1
    split at h
    · cases h
    · rename_i h2
      split at h
      · cases h
      · rename_i h3
        split at h
        · rename_i h4
          have h := Option.some.inj h
          subst h
          have h2' := not_or.1 h2
          refine ⟨by omega, h4, by omega, Or.inr ⟨h1, splitOn_ne _ _, ?_, rfl⟩⟩
          rw [glue_splitOn]
          have h5 : l.head? = some 47 := by simpa using h2'.2
          cases l with
          | nil => cases h5
          | cons x r => simp at h5; subst h5; rfl
        · cases h
theorem glue_take_len (c : UInt8) (L : List (List UInt8)) (k : Nat) : (glue c (L.take k)).length ≤ (glue c L).length := by
  conv => rhs; rw [← List.take_append_drop k L]
  rw [glue_append, List.length_append]; omega
/-- The path of names. -/
def joinP (L : List (List UInt8)) : List UInt8 := if L = [] then [47] else glue 47 L
theorem joinP_nil : joinP [] = [47] := rfl
theorem joinP_cons (p : List UInt8) (L) : joinP (p :: L) = glue 47 (p :: L) := by simp [joinP]
theorem joinP_len (L : List (List UInt8)) : (joinP L).length ≤ (glue 47 L).length + 1 := by
  unfold joinP; split
  · simp
  · omega
theorem joinP_pathL {l : List UInt8} {L : List (List UInt8)} (h : pathL l = some L) : joinP L = l := by
  rcases (pathL_facts h).2.2.2 with ⟨h1, h2⟩ | ⟨_, h2, h3, _⟩
  · rw [h1, h2]; rfl
  · unfold joinP; rw [if_neg h2]; exact h3
end Go.Proofs.YtldgpcmnmegioaaDoor
