/- What lies in a volume's log, done anew, in plain Lean; rows of bytes that are turned. -/
import Derived.Test.YtefpllpichhojaaGreatDoorVolAgain
import Derived.Test.YtefpllpichhojaaGreatDoorTreeLoad
import Derived.Test.YtefpllpichhojaaGreatDoorM12
import Derived.Test.YtefpllpichhojaaGreatDoorLogRew
import Derived.Test.YtefpllpichhojaaGreatDoorLogOpenG
import Derived.Test.YtefpllpichhojaaGreatDoorLogOpen
namespace Go.Proofs.YtefpllpichhojaaGreatDoor
open Go.RowKit
variable [Low]
def snapB (b : By) : By := 1 :: b
def BaseT (q : Int) (S : List By) (U : TreeD) : Prop := (S = [] ∧ U = newT q) ∨ (S ≠ [] ∧ loadsT q S = some U ∧ SoundT U)
noncomputable def finR (U : TreeD) (l : List (List OpD)) : TreeD := l.foldl againT U
omit [Low] in
theorem finR_snoc (U : TreeD) (l : List (List OpD)) (x : List OpD) : finR U (l ++ [x]) = againT (finR U l) x := by simp [finR]
def AgainOk (U : TreeD) (x : List OpD) : Prop := (∀ o ∈ x, FitOp o) ∧ (doT U x).2 = 0 ∧ (packOps x).length ≤ 4095 ∧ GoodT (againT U x)
def ChainR (U : TreeD) (l : List (List OpD)) : Prop := ∀ k, k < l.length → AgainOk (finR U (l.take k)) (l.getD k [])
omit [Low] in
theorem ChainR.nil (U : TreeD) : ChainR U [] := fun _k hk => absurd hk (Nat.not_lt_zero _)
omit [Low] in
theorem ChainR.snoc {U : TreeD} {l : List (List OpD)} {x : List OpD} (h : ChainR U l) (hx : AgainOk (finR U l) x) : ChainR U (l ++ [x]) := by
 intro k hk
 rw [List.length_append, List.length_singleton] at hk
 by_cases e : k < l.length
 · have := h k e
   rw [List.take_append_of_le_length (by omega)]
   have e2 : (l ++ [x]).getD k [] = l.getD k [] := by simp [List.getD_eq_getElem?_getD, List.getElem?_append_left e]
   rw [e2]; exact this
 · have e3 : k = l.length := by omega
   subst e3
   rw [List.take_left']
   · have e2 : (l ++ [x]).getD l.length [] = x := by simp [List.getD_eq_getElem?_getD]
     rw [e2]; exact hx
   · rfl
end Go.Proofs.YtefpllpichhojaaGreatDoor
