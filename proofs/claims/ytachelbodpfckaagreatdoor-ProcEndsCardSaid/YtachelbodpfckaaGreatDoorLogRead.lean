/- The log's read. -/
import Derived.Test.YtachelbodpfckaaGreatDoorM7
namespace Go.Proofs.YtachelbodpfckaaGreatDoor
open Go.RowKit
variable [Low]
section
variable {w : World} {lb db kb n : Nat} {img : Img} {L : LogD}
end
end Go.Proofs.YtachelbodpfckaaGreatDoor
