/-
  DERIVED. GIVEN WITH THE SEED: THE CARDS: each row of YtldgpcmnmegioaaGreatDoorRows.lean that lists a variable, with what it lists TIED to the program's text (the seventh form; the later family's looks); each row that meets fmt, with fmt's text TOLD by the authors' own Lean function (tested against real Go, not proved from fmt's source: count such statements apart). THE CARD IS WHAT COUNTS. Prove the row's statement (the work); the ties are given (YtldgpcmnmegioaaGreatDoorTie.lean); close each card by the builder's one call (the guide's Derived/Test/ToyasCard.lean, 'card_holds'). Laid BY PROGRAM, IN A SANDBOX (cutbox-door.mjs). By AI agents, Wed Nov 11 2026. No macro, syntax, notation, axiom, sorry.
-/
import Derived.Test.YtldgpcmnmegioaaGreatDoorRows
import GoSem.ClaimSeven
namespace Go.Proofs.YtldgpcmnmegioaaGreatDoor
namespace Rows

/-- THE TIED CARD OF 'farrierlaw06.TreePlays'. -/
def treePlaysCard : Claim7 := { stood := { row := treePlaysRow, standIns := [], harness := (true, "7f6eb789f266cea7006acc9009ce3272349354fcc616d9f1ad3f17d589fed55b"), looks := true }, kinds := [], alts := [], laidByText := true, laidKinds := [.data, .pinned], laidTests := true, laidLooks := .later }
def TreePlaysCardSaid : Prop := Claim7.holds Tryz.pinned (.plain (OpenSpec.ofChange treePlaysSpec)) treePlaysCard

/-- THE TIED CARD OF 'farrierlaw06.TreeBad'. -/
def treeBadCard : Claim7 := { stood := { row := treeBadRow, standIns := [], harness := (true, "7f6eb789f266cea7006acc9009ce3272349354fcc616d9f1ad3f17d589fed55b"), looks := true }, kinds := [], alts := [], laidByText := true, laidKinds := [.data, .pinned], laidTests := true, laidLooks := .later }
def TreeBadCardSaid : Prop := Claim7.holds Tryz.pinned (.plain (OpenSpec.ofChange treeBadSpec)) treeBadCard

/-- THE SECOND FORM's CARD OF 'farrierlaw06.TreePlays'. -/
def treePlaysUptoCard : Claim7 := { stood := { row := treePlaysUptoRow, standIns := [], harness := (true, "7f6eb789f266cea7006acc9009ce3272349354fcc616d9f1ad3f17d589fed55b"), looks := true }, kinds := [], alts := [], laidByText := true, laidKinds := [.data, .pinned], laidTests := true, laidLooks := .later }
def TreePlaysUptoCardSaid : Prop := Claim7.holds Tryz.pinned (.plain (OpenSpec.upto treePlaysSpec)) treePlaysUptoCard

/-- THE SECOND FORM's CARD OF 'farrierlaw06.TreeBad'. -/
def treeBadUptoCard : Claim7 := { stood := { row := treeBadUptoRow, standIns := [], harness := (true, "7f6eb789f266cea7006acc9009ce3272349354fcc616d9f1ad3f17d589fed55b"), looks := true }, kinds := [], alts := [], laidByText := true, laidKinds := [.data, .pinned], laidTests := true, laidLooks := .later }
def TreeBadUptoCardSaid : Prop := Claim7.holds Tryz.pinned (.plain (OpenSpec.upto treeBadSpec)) treeBadUptoCard
end Rows
end Go.Proofs.YtldgpcmnmegioaaGreatDoor
