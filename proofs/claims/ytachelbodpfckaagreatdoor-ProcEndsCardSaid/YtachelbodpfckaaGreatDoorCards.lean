/-
  DERIVED. GIVEN WITH THE SEED: THE CARDS: each row of YtachelbodpfckaaGreatDoorRows.lean that lists a variable, with what it lists TIED to the program's text (the seventh form; the later family's looks); each row that meets fmt, with fmt's text TOLD by the authors' own Lean function (tested against real Go, not proved from fmt's source: count such statements apart). THE CARD IS WHAT COUNTS. Prove the row's statement (the work); the ties are given (YtachelbodpfckaaGreatDoorTie.lean); close each card by the builder's one call (the guide's Derived/Test/ToyasCard.lean, 'card_holds'). Laid BY PROGRAM, IN A SANDBOX (cutbox-door.mjs). By AI agents, Wed Nov 11 2026. No macro, syntax, notation, axiom, sorry.
-/
import Derived.Test.YtachelbodpfckaaGreatDoorRows
import GoSem.ClaimSeven
namespace Go.Proofs.YtachelbodpfckaaGreatDoor
namespace Rows

/-- THE TIED CARD OF 'farrierlaw08.ProcEnds'. -/
def procEndsCard : Claim7 := { stood := { row := procEndsRow, standIns := [], harness := (true, "5a7b319c116c39908468e8e01f4f32bb79231b2ac5a72265c1e3415e4090be4b"), looks := true }, kinds := [], alts := [], laidByText := true, laidKinds := [.data, .pinned], laidTests := true, laidLooks := .later }
def ProcEndsCardSaid : Prop := Claim7.holds Tryz.pinned (.plain (OpenSpec.ofChange procEndsSpec)) procEndsCard

/-- THE TIED CARD OF 'farrierlaw08.ProcNumbers'. -/
def procNumbersCard : Claim7 := { stood := { row := procNumbersRow, standIns := [], harness := (true, "5a7b319c116c39908468e8e01f4f32bb79231b2ac5a72265c1e3415e4090be4b"), looks := true }, kinds := [], alts := [], laidByText := true, laidKinds := [.data, .pinned], laidTests := true, laidLooks := .later }
def ProcNumbersCardSaid : Prop := Claim7.holds Tryz.pinned (.plain (OpenSpec.ofChange procNumbersSpec)) procNumbersCard

/-- THE TIED CARD OF 'farrierlaw08.ProcPlays'. -/
def procPlaysCard : Claim7 := { stood := { row := procPlaysRow, standIns := [], harness := (true, "5a7b319c116c39908468e8e01f4f32bb79231b2ac5a72265c1e3415e4090be4b"), looks := true }, kinds := [], alts := [], laidByText := true, laidKinds := [.data, .pinned], laidTests := true, laidLooks := .later }
def ProcPlaysCardSaid : Prop := Claim7.holds Tryz.pinned (.plain (OpenSpec.ofChange procPlaysSpec)) procPlaysCard

/-- THE SECOND FORM's CARD OF 'farrierlaw08.ProcEnds'. -/
def procEndsUptoCard : Claim7 := { stood := { row := procEndsUptoRow, standIns := [], harness := (true, "5a7b319c116c39908468e8e01f4f32bb79231b2ac5a72265c1e3415e4090be4b"), looks := true }, kinds := [], alts := [], laidByText := true, laidKinds := [.data, .pinned], laidTests := true, laidLooks := .later }
def ProcEndsUptoCardSaid : Prop := Claim7.holds Tryz.pinned (.plain (OpenSpec.upto procEndsSpec)) procEndsUptoCard

/-- THE SECOND FORM's CARD OF 'farrierlaw08.ProcNumbers'. -/
def procNumbersUptoCard : Claim7 := { stood := { row := procNumbersUptoRow, standIns := [], harness := (true, "5a7b319c116c39908468e8e01f4f32bb79231b2ac5a72265c1e3415e4090be4b"), looks := true }, kinds := [], alts := [], laidByText := true, laidKinds := [.data, .pinned], laidTests := true, laidLooks := .later }
def ProcNumbersUptoCardSaid : Prop := Claim7.holds Tryz.pinned (.plain (OpenSpec.upto procNumbersSpec)) procNumbersUptoCard

/-- THE SECOND FORM's CARD OF 'farrierlaw08.ProcPlays'. -/
def procPlaysUptoCard : Claim7 := { stood := { row := procPlaysUptoRow, standIns := [], harness := (true, "5a7b319c116c39908468e8e01f4f32bb79231b2ac5a72265c1e3415e4090be4b"), looks := true }, kinds := [], alts := [], laidByText := true, laidKinds := [.data, .pinned], laidTests := true, laidLooks := .later }
def ProcPlaysUptoCardSaid : Prop := Claim7.holds Tryz.pinned (.plain (OpenSpec.upto procPlaysSpec)) procPlaysUptoCard
end Rows
end Go.Proofs.YtachelbodpfckaaGreatDoor
