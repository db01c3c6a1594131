/- tree.Load: trees that rows of bytes are. -/
import Derived.Test.YtefpllpichhojaaGreatDoorM17
import Derived.Test.YtefpllpichhojaaGreatDoorM7
import Derived.Test.YtefpllpichhojaaGreatDoorM1
import Derived.Deep.RegionHeld3
namespace Go.Proofs.YtefpllpichhojaaGreatDoor
open Go.RowKit
theorem TreeM.blk_lt {w : World} {base tb mb K : Nat} {T : TreeD} {A : Int → NodeA} (h : TreeM w base tb mb K T A) {i : Int} (hi : i ∈ T.ids) : (A i).blk < w.heap.size ∧ ∀ b, (A i).kb = some b → b < w.heap.size := by
 refine ⟨(Array.getElem?_eq_some_iff.1 (h.node i hi).1).1, fun b hb => ?_⟩
 obtain ⟨es, cl, hg⟩ := (h.node i hi).2.2.2.block hb
 exact (Array.getElem?_eq_some_iff.1 hg).1
