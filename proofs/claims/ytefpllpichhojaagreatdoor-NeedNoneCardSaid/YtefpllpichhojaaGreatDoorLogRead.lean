/- The log's read. -/
import Derived.Test.YtefpllpichhojaaGreatDoorM10
namespace Go.Proofs.YtefpllpichhojaaGreatDoor
open Go.RowKit
variable [Low]
section
variable {w : World} {lb db kb n : Nat} {img : Img} {L : LogD}
end
end Go.Proofs.YtefpllpichhojaaGreatDoor
