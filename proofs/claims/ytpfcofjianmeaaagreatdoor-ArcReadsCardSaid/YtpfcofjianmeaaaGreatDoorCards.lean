/-
  DERIVED. GIVEN WITH THE SEED: THE CARDS: each row of YtpfcofjianmeaaaGreatDoorRows.lean that lists a variable, with what it lists TIED to the program's text (the seventh form; the later family's looks); each row that meets fmt, with fmt's text TOLD by the authors' own Lean function (tested against real Go, not proved from fmt's source: count such statements apart). THE CARD IS WHAT COUNTS. Prove the row's statement (the work); the ties are given (YtpfcofjianmeaaaGreatDoorTie.lean); close each card by the builder's one call (the guide's Derived/Test/ToyasCard.lean, 'card_holds'). Laid BY PROGRAM, IN A SANDBOX (cutbox-door.mjs). By AI agents, Wed Nov 11 2026. No macro, syntax, notation, axiom, sorry.
-/
import Derived.Test.YtpfcofjianmeaaaGreatDoorRows
import GoSem.ClaimSeven
namespace Go.Proofs.YtpfcofjianmeaaaGreatDoor
namespace Rows

/-- THE TIED CARD OF 'farrierlaw10.ArcWrites'. -/
def arcWritesCard : Claim7 := { stood := { row := arcWritesRow, standIns := [], harness := (true, "b7ea1477fa6daf5e0f8e74e2dfb9fb3653e785854035823fd75af0a54aad7bf5"), looks := true }, kinds := [], alts := [], laidByText := true, laidKinds := [.data, .data, .data, .data, .sentinel, .sentinel, .pinned], laidTests := true, laidLooks := .later }
def ArcWritesCardSaid : Prop := Claim7.holds Tryz.pinned (.plain (OpenSpec.ofChange arcWritesSpec)) arcWritesCard

/-- THE TIED CARD OF 'farrierlaw10.ArcReads'. -/
def arcReadsCard : Claim7 := { stood := { row := arcReadsRow, standIns := [], harness := (true, "b7ea1477fa6daf5e0f8e74e2dfb9fb3653e785854035823fd75af0a54aad7bf5"), looks := true }, kinds := [], alts := [], laidByText := true, laidKinds := [.data, .data, .data, .data, .sentinel, .sentinel, .pinned], laidTests := true, laidLooks := .later }
def ArcReadsCardSaid : Prop := Claim7.holds Tryz.pinned (.plain (OpenSpec.ofChange arcReadsSpec)) arcReadsCard

/-- THE SECOND FORM's CARD OF 'farrierlaw10.ArcWrites'. -/
def arcWritesUptoCard : Claim7 := { stood := { row := arcWritesUptoRow, standIns := [], harness := (true, "b7ea1477fa6daf5e0f8e74e2dfb9fb3653e785854035823fd75af0a54aad7bf5"), looks := true }, kinds := [], alts := [], laidByText := true, laidKinds := [.data, .data, .data, .data, .sentinel, .sentinel, .pinned], laidTests := true, laidLooks := .later }
def ArcWritesUptoCardSaid : Prop := Claim7.holds Tryz.pinned (.plain (OpenSpec.upto arcWritesSpec)) arcWritesUptoCard

/-- THE SECOND FORM's CARD OF 'farrierlaw10.ArcReads'. -/
def arcReadsUptoCard : Claim7 := { stood := { row := arcReadsUptoRow, standIns := [], harness := (true, "b7ea1477fa6daf5e0f8e74e2dfb9fb3653e785854035823fd75af0a54aad7bf5"), looks := true }, kinds := [], alts := [], laidByText := true, laidKinds := [.data, .data, .data, .data, .sentinel, .sentinel, .pinned], laidTests := true, laidLooks := .later }
def ArcReadsUptoCardSaid : Prop := Claim7.holds Tryz.pinned (.plain (OpenSpec.upto arcReadsSpec)) arcReadsUptoCard
end Rows
end Go.Proofs.YtpfcofjianmeaaaGreatDoor
