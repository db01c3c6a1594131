/- The walk of farrierlaw08.ProcNumbers. -/
import Derived.Test.YtachelbodpfckaaGreatDoorAlive08
import Derived.Test.YtachelbodpfckaaGreatDoorReadAct08
namespace Go.Proofs.YtachelbodpfckaaGreatDoor
open Go.RowKit
variable [Low]
theorem KeepP.low {X : Nat → Prop} {a b : World} (h : KeepP X a b) (hl : Low.low = a.heap.size) : Ext a b := (Keep.mono h (T := fun j => j < a.heap.size) fun g _ hg => Or.inl (by have hg : g < a.heap.size := hg; omega)).ext_lt
theorem SysP.heldBy {X : Nat → Prop} {w : World} {tb vb db kb n N off top : Nat} {q : Int} {F : FileS} {P : TabD} (h : SysP X w tb vb db kb n N off top q F P) : HeldBy F P ∧ GoodP P ∧ P.next ≤ (N : Int) := by
 obtain ⟨pm, A, hb, _, hh⟩ := h
 exact ⟨hh, hb.good, hb.next⟩
section
end
end Go.Proofs.YtachelbodpfckaaGreatDoor
