/- The log's Open, where a log lies on the disk. -/
import Derived.Test.YtefpllpichhojaaGreatDoorLogOpen
namespace Go.Proofs.YtefpllpichhojaaGreatDoor
open Go.RowKit
variable [Low]
section
variable {w : World} {db kb n : Nat} {img : Img}
end
end Go.Proofs.YtefpllpichhojaaGreatDoor
