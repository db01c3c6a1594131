/- path.Within: what it gives. -/
import Derived.Test.YtldgpcmnmegioaaGreatDoorPathMore
namespace Go.Proofs.YtldgpcmnmegioaaGreatDoor
open Go.RowKit
/-- Does a path stand within another one? -/
def withinL (s d : List UInt8) : Bool := match pathL s, pathL d with
  | some L, some U => decide (U.length < L.length) && decide (L.take U.length = U)
  | _, _ => false
theorem take_step_eq {A B : List (List UInt8)} {k : Nat} (ha : k < A.length) (hb : k < B.length) (h : A.take k = B.take k) (he : A.getD k [] = B.getD k []) : A.take (k + 1) = B.take (k + 1) := by
  rw [List.take_succ_eq_append_getElem ha, List.take_succ_eq_append_getElem hb, h]
  simp [ha, hb] at he
  rw [he]
theorem take_ne {A B : List (List UInt8)} {k : Nat} (_ha : k < A.length) (hb : k < B.length) (he : A.getD k [] ≠ B.getD k []) : A.take B.length ≠ B := by
  intro h
  apply he
  have h1 : (A.take B.length).getD k [] = B.getD k [] := by rw [h]
  rw [← h1]
  simp [List.getD, hb]























































































end Go.Proofs.YtldgpcmnmegioaaGreatDoor
