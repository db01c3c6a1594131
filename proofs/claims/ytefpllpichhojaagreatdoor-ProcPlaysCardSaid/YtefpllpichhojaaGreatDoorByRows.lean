/- Lists of rows of bytes that a call gathers itself, by append. -/
import Derived.Test.YtefpllpichhojaaGreatDoorParts
namespace Go.Proofs.YtefpllpichhojaaGreatDoor
open Go.RowKit
theorem info_row : (Tryz.prog.info? 50).map (fun i => (i.zero, i.size, i.bytes)) = some (some (.slice none 0 0), 1, 24) := by kernel_rfl
section
variable {ops : Array Oper} {o : Oper} {a : Act} {Q : Exit → Act → World → Prop} {W : World}
end
end Go.Proofs.YtefpllpichhojaaGreatDoor
