/- The log's next, where a record stands behind those that are known. -/
import Derived.Test.YtefpllpichhojaaGreatDoorLogNext
namespace Go.Proofs.YtefpllpichhojaaGreatDoor
open Go.RowKit
variable [Low]
section
variable {w : World} {lb db kb n : Nat} {img : Img} {L : LogD}
end
end Go.Proofs.YtefpllpichhojaaGreatDoor
