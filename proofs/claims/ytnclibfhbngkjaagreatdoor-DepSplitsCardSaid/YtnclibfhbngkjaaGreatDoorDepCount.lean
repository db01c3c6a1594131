/- How often each text stands in a list, as a map has it. -/
import Derived.Test.YtnclibfhbngkjaaGreatDoorDepHeld
namespace Go.Proofs.YtnclibfhbngkjaaGreatDoor
open Go.RowKit
/-- How often each path was counted. -/
def cntF (P : List By) : By → Option Value := fun x => if P.count x = 0 then none else some (.int .i64 (P.count x : Nat))
theorem cntF_get (P : List By) (x : By) : (cntF P x).getD (.int .i64 0) = .int .i64 (P.count x : Nat) := by
  unfold cntF
  split
  · rename_i h; rw [h]; rfl
  · rfl
theorem cntF_step (P : List By) (x : By) : (fun z => if z = x then some (Value.int .i64 ((P.count x : Nat) + 1 : Int)) else cntF P z) = cntF (P ++ [x]) := by
  funext z
  unfold cntF
  rw [List.count_append]
  by_cases h : z = x
  · subst h; simp
  · have : List.count z [x] = 0 := List.count_eq_zero.2 (by simpa using h)
    rw [if_neg h, this]; simp
theorem cntF_one {P : List By} (h : P.Nodup) {x : By} {v : Value} (e : cntF P x = some v) : x ∈ P ∧ v = .int .i64 1 := by
  unfold cntF at e
  split at e
  · cases e
  · rename_i hc
    have hm : x ∈ P := List.count_pos_iff.1 (by omega)
    rw [List.nodup_iff_count] at h
    have := h x
    have h1 : P.count x = 1 := by omega
    rw [h1] at e
    exact ⟨hm, (Option.some.inj e).symm⟩
theorem cntF_some {P : List By} {x : By} {v : Value} (e : cntF P x = some v) : x ∈ P ∧ v = .int .i64 (P.count x : Nat) := by
  unfold cntF at e
  split at e
  · cases e
  · rename_i hc
    exact ⟨List.count_pos_iff.1 (by omega), (Option.some.inj e).symm⟩
theorem cntF_none {P : List By} {x : By} (e : (cntF P x).isSome = false) : P.count x = 0 := by
  unfold cntF at e
  split at e
  · assumption
  · cases e
end Go.Proofs.YtnclibfhbngkjaaGreatDoor
