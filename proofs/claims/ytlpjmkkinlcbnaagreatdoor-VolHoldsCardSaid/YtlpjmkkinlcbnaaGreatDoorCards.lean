/-
  DERIVED. GIVEN WITH THE SEED: THE CARDS: each row of YtlpjmkkinlcbnaaGreatDoorRows.lean that lists a variable, with what it lists TIED to the program's text (the seventh form; the later family's looks); each row that meets fmt, with fmt's text TOLD by the authors' own Lean function (tested against real Go, not proved from fmt's source: count such statements apart). THE CARD IS WHAT COUNTS. Prove the row's statement (the work); the ties are given (YtlpjmkkinlcbnaaGreatDoorTie.lean); close each card by the builder's one call (the guide's Derived/Test/ToyasCard.lean, 'card_holds'). Laid BY PROGRAM, IN A SANDBOX (cutbox-door.mjs). By AI agents, Wed Nov 11 2026. No macro, syntax, notation, axiom, sorry.
-/
import Derived.Test.YtlpjmkkinlcbnaaGreatDoorRows
import GoSem.ClaimSeven
namespace Go.Proofs.YtlpjmkkinlcbnaaGreatDoor
namespace Rows

/-- THE TIED CARD OF 'farrierlaw07.VolHolds'. -/
def volHoldsCard : Claim7 := { stood := { row := volHoldsRow, standIns := [], harness := (true, "629f75a85e2fda7fda636e9585772df52ddd10f636772007584860a467ccd2a8"), looks := true }, kinds := [], alts := [], laidByText := true, laidKinds := [.data, .pinned], laidTests := true, laidLooks := .later }
def VolHoldsCardSaid : Prop := Claim7.holds Tryz.pinned (.plain (OpenSpec.ofChange volHoldsSpec)) volHoldsCard

/-- THE TIED CARD OF 'farrierlaw07.VolLong'. -/
def volLongCard : Claim7 := { stood := { row := volLongRow, standIns := [], harness := (true, "629f75a85e2fda7fda636e9585772df52ddd10f636772007584860a467ccd2a8"), looks := true }, kinds := [], alts := [], laidByText := true, laidKinds := [.data, .pinned], laidTests := true, laidLooks := .later }
def VolLongCardSaid : Prop := Claim7.holds Tryz.pinned (.plain (OpenSpec.ofChange volLongSpec)) volLongCard

/-- THE SECOND FORM's CARD OF 'farrierlaw07.VolHolds'. -/
def volHoldsUptoCard : Claim7 := { stood := { row := volHoldsUptoRow, standIns := [], harness := (true, "629f75a85e2fda7fda636e9585772df52ddd10f636772007584860a467ccd2a8"), looks := true }, kinds := [], alts := [], laidByText := true, laidKinds := [.data, .pinned], laidTests := true, laidLooks := .later }
def VolHoldsUptoCardSaid : Prop := Claim7.holds Tryz.pinned (.plain (OpenSpec.upto volHoldsSpec)) volHoldsUptoCard

/-- THE SECOND FORM's CARD OF 'farrierlaw07.VolLong'. -/
def volLongUptoCard : Claim7 := { stood := { row := volLongUptoRow, standIns := [], harness := (true, "629f75a85e2fda7fda636e9585772df52ddd10f636772007584860a467ccd2a8"), looks := true }, kinds := [], alts := [], laidByText := true, laidKinds := [.data, .pinned], laidTests := true, laidLooks := .later }
def VolLongUptoCardSaid : Prop := Claim7.holds Tryz.pinned (.plain (OpenSpec.upto volLongSpec)) volLongUptoCard
end Rows
end Go.Proofs.YtlpjmkkinlcbnaaGreatDoor
