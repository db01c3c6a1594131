/- path.sign -/
import Derived.Test.YtldgpcmnmegioaaDoorProg
import Derived.WalkKit
import Derived.WalkSpells
import Derived.WalkLawsBesides
import Derived.BigGuardPart
import Derived.Handy
namespace Go.Proofs.YtldgpcmnmegioaaDoor
open Go.RowKit
def signB (c : Int) : Bool := decide ((97 ≤ c ∧ c ≤ 122) ∨ (48 ≤ c ∧ c ≤ 57) ∨ c = 45 ∨ c = 46 ∨ c = 95)
theorem signB_t {c : Int} (h : (97 ≤ c ∧ c ≤ 122) ∨ (48 ≤ c ∧ c ≤ 57) ∨ c = 45 ∨ c = 46 ∨ c = 95) : signB c = true := decide_eq_true h
theorem signB_f {c : Int} (h : ¬((97 ≤ c ∧ c ≤ 122) ∨ (48 ≤ c ∧ c ≤ 57) ∨ c = 45 ∨ c = 46 ∨ c = 95)) : signB c = false := decide_eq_false h
theorem ret_bool {a b : Bool} (h : a = b) : Ending.returned (.bool a) = .returned (.bool b) := by rw [h]
theorem sign_any (c : Int) (w : World) :
    Calls Tryd.prog 54 #[.int .i32 c] w fun e w' => e = .returned (.bool (signB c)) ∧ w = w' := by
  go_enter Tryd.func54, Tryd.ntmps54
  go_wp2
  all_goals go_ret
  all_goals refine ⟨ret_bool ?_, rfl⟩
  all_goals first
    | exact (signB_t (by omega)).symm
    | (show (c == 95) = signB c; by_cases h : c = 95
       · rw [signB_t (by omega)]; simpa using h
       · rw [signB_f (by omega)]; simpa using h)
end Go.Proofs.YtldgpcmnmegioaaDoor
