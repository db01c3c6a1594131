/- vol's again: the operations of a record are done. -/
import Derived.Test.YtefpllpichhojaaGreatDoorVolDo
import Derived.Test.YtefpllpichhojaaGreatDoorLogPut
import Derived.Test.YtefpllpichhojaaGreatDoorM7
import Derived.Test.YtefpllpichhojaaGreatDoorVolTrees
namespace Go.Proofs.YtefpllpichhojaaGreatDoor
open Go.RowKit
variable [Low]
noncomputable def againT (T : TreeD) (l : List OpD) : TreeD := reapsT (doT T l).1 (looseT (doT T l).1)
section
variable {X : Nat → Prop} {w w' : World} {vb db kb n N : Nat} {V : VolD}
end
end Go.Proofs.YtefpllpichhojaaGreatDoor
