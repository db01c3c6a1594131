/- Plain words on joining: the path of names that hold no separator has just those names, if it is one. -/
import Derived.Test.YtldgpcmnmegioaaGreatDoorM3
namespace Go.Proofs.YtldgpcmnmegioaaGreatDoor
theorem glue_len_cons (p : List UInt8) (L) : (glue 47 (p :: L)).length = 1 + p.length + (glue 47 L).length := by simp [glue_cons]; omega
theorem glue_ge (L : List (List UInt8)) : L.length ≤ (glue 47 L).length := by
  induction L with
  | nil => simp
  | cons p r ih => rw [glue_len_cons]; simp; omega
theorem mem_glue {p : List UInt8} {L : List (List UInt8)} (h : p ∈ L) : p.length + 1 ≤ (glue 47 L).length := by
  induction L with
  | nil => cases h
  | cons q r ih =>
    rw [glue_len_cons]
    rcases List.mem_cons.1 h with rfl | h
    · omega
    · have := ih h; omega
theorem joinP_root {L : List (List UInt8)} (h : joinP L = [47]) : L.length ≤ 1 := by
  unfold joinP at h
  split at h
  · rename_i h1; simp [h1]
  · have := glue_ge L; rw [h] at this; simpa using this
theorem joinP_ne {L : List (List UInt8)} (h : joinP L ≠ [47]) : ∃ p r, L = p :: r ∧ joinP L = 47 :: (p ++ glue 47 r) := by
  cases L with
  | nil => exact absurd rfl h
  | cons p r => exact ⟨p, r, rfl, by rw [joinP_cons, glue_cons]; rfl⟩
def joinOk (L : List (List UInt8)) : Bool := (decide (0 < L.length) && decide (L.length ≤ 5)) && L.all nameL
theorem pathL_join {L : List (List UInt8)} (h : joinP L ≠ [47]) (h47 : ∀ p ∈ L, (47 : UInt8) ∉ p) :
    pathL (joinP L) = if (joinOk L && decide ((glue 47 L).length ≤ 40)) = true then some L else none := by
  obtain ⟨p, r, rfl, hj⟩ := joinP_ne h
  have hg : glue 47 (p :: r) = joinP (p :: r) := (joinP_cons p r).symm
  have ht : splitOn 47 (joinP (p :: r)).tail = p :: r := by
    rw [hj]; exact splitOn_glue 47 p r (h47 p (by simp)) (fun q hq => h47 q (by simp [hq]))
  have hh : (joinP (p :: r)).head? = some 47 := by rw [hj]; rfl
  rw [hg]
  by_cases h1 : (joinP (p :: r)).length ≤ 40
  · by_cases h2 : (p :: r).length ≤ 5
    · cases h3 : (p :: r).all nameL with
      | true =>
        rw [if_pos (by simp only [joinOk, h3]; simp at h2 ⊢; omega), pathL_good h h1 hh (by rw [ht]; exact h2) (by rw [ht]; exact h3), ht]
      | false =>
        rw [if_neg (by simp only [joinOk, h3]; simp), pathL_bad h (by rw [ht]; exact h3)]
    · rw [if_neg (by
        have : decide ((p :: r).length ≤ 5) = false := by simp at h2 ⊢; omega
        simp only [joinOk, this]; simp), pathL_many h (by rw [ht]; omega)]
  · rw [if_neg (by
      have : decide ((joinP (p :: r)).length ≤ 40) = false := by simp at h1 ⊢; omega
      simp only [this]; simp), pathL_long (by omega)]
end Go.Proofs.YtldgpcmnmegioaaGreatDoor
