/- The log's next, where nothing of the epoch stands behind the records. -/
import Derived.Test.YtefpllpichhojaaGreatDoorLogLook
import Derived.Test.YtefpllpichhojaaGreatDoorTreeLoad
namespace Go.Proofs.YtefpllpichhojaaGreatDoor
open Go.RowKit
variable [Low]
section
variable {w : World} {lb db kb n : Nat} {img : Img} {L : LogD}
end
section
variable {w : World} {lb db kb n : Nat} {img : Img} {L : LogD}
end
end Go.Proofs.YtefpllpichhojaaGreatDoor
