/- path.Right, path.Join, path.Parent, path.Within: what they give. -/
import Derived.Test.YtnclibfhbngkjaaGreatDoorPathSplit
import Derived.Deep.RegionHeld3
import Derived.StillTailTactics
import Derived.BigQuiet
import Derived.Deep.QuietTactic
namespace Go.Proofs.YtnclibfhbngkjaaGreatDoor
open Go.RowKit
theorem split_none {s : ByteArray} (w : World) (hE : Env w) (h : pathL s.data.toList = none) :
    Calls Tryz.prog 73 #[.string s] w fun e w' => e = .returned (.tuple #[.slice none 0 0, .bool false]) ∧ Ext w w' := by
  have := path_split s w hE; rw [h] at this; exact this
theorem split_some {s : ByteArray} {L : List (List UInt8)} (w : World) (hE : Env w) (h : pathL s.data.toList = some L) :
    Calls Tryz.prog 73 #[.string s] w fun e w' => ∃ a cap, e = .returned (.tuple #[.slice a L.length cap, .bool true]) ∧ L.length ≤ cap ∧ Strs w' a L ∧ Ext w w' := by
  have := path_split s w hE; rw [h] at this; exact this

/-- A path of something below the root? -/
def rightL (l : List UInt8) : Bool := match pathL l with
  | some L => decide (0 < L.length)
  | none => false
theorem rightL_none {l} (h : pathL l = none) : rightL l = false := by simp [rightL, h]
theorem rightL_some {l L} (h : pathL l = some L) : rightL l = decide (0 < L.length) := by simp [rightL, h]
theorem path_right (s : ByteArray) (w : World) (hE : Env w) :
    Calls Tryz.prog 71 #[.string s] w fun e w' => e = .returned (.bool (rightL s.data.toList)) ∧ Ext w w' := by
  go_enter Tryz.func71, Tryz.ntmps71
  go_wp2_with fail
  cases hp : pathL s.data.toList with
  | none =>
    have HP := Lib.hid hp; clear hp
    refine (split_none _ hE HP.out).mono ?_
    rintro e w1 ⟨rfl, hx⟩
    go_wp2_with fail
    go_ret; exact ⟨ret_bool (rightL_none HP.out).symm, hx⟩
  | some L =>
    have HP := Lib.hid hp; clear hp
    refine (split_some _ hE HP.out).mono ?_
    rintro e w1 ⟨a, cap, rfl, hcap, hS, hx⟩
    go_wp2_with fail
    go_ret; exact ⟨ret_bool (by rw [rightL_some HP.out]; first | done | simp), hx⟩








































theorem keepS {a b : World} {p : Addr} {v : Value} (h : Ext a b) (hc : a.cell? p = some v) : Ext a b ∧ b.cell? p = some v := ⟨h, h.cell hc⟩
/-- The directory of a path, and its last name. -/
def parentL (l : List UInt8) : Option (List UInt8 × List UInt8) := match pathL l with
  | some (p :: q) => some (joinP ((p :: q).take q.length), (p :: q).getD q.length [])
  | _ => none
def ParentR (o : Option (List UInt8 × List UInt8)) (w : World) (e : Ending) (w' : World) : Prop :=
  match o with
  | none => e = .returned (.tuple #[.string (bs []), .string (bs []), .bool false]) ∧ Ext w w'
  | some (d, n) => e = .returned (.tuple #[.string (bs d), .string (bs n), .bool true]) ∧ Ext w w'
































































end Go.Proofs.YtnclibfhbngkjaaGreatDoor
