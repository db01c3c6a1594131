/-
  DERIVED. GIVEN WITH THE SEED: THE CARDS: each row of YtpfcofjianmeaaaDoorRows.lean that lists a variable, with what it lists TIED to the program's text (the seventh form; the later family's looks); each row that meets fmt, with fmt's text TOLD by the authors' own Lean function (tested against real Go, not proved from fmt's source: count such statements apart). THE CARD IS WHAT COUNTS. Prove the row's statement (the work); the ties are given (YtpfcofjianmeaaaDoorTie.lean); close each card by the builder's one call (the guide's Derived/Test/ToyasCard.lean, 'card_holds'). Laid BY PROGRAM, IN A SANDBOX (cutbox-door.mjs). By AI agents, Wed Nov 11 2026. No macro, syntax, notation, axiom, sorry.
-/
import Derived.Test.YtpfcofjianmeaaaDoorRows
import GoSem.ClaimSeven
namespace Go.Proofs.YtpfcofjianmeaaaDoor
namespace Rows

/-- THE TIED CARD OF 'farrierlaw10.ArcSpoils'. -/
def arcSpoilsCard : Claim7 := { stood := { row := arcSpoilsRow, standIns := [], harness := (true, "112c8550bdc699fb1b6bafb0c7685c649223749146b8abdc223234ecbcc88a0d"), looks := true }, kinds := [], alts := [], laidByText := true, laidKinds := [.data, .data, .data, .data, .sentinel, .sentinel, .pinned], laidTests := true, laidLooks := .later }
def ArcSpoilsCardSaid : Prop := Claim7.holds Tryd.pinned (.plain (OpenSpec.ofChange arcSpoilsSpec)) arcSpoilsCard

/-- THE SECOND FORM's CARD OF 'farrierlaw10.ArcSpoils'. -/
def arcSpoilsUptoCard : Claim7 := { stood := { row := arcSpoilsUptoRow, standIns := [], harness := (true, "112c8550bdc699fb1b6bafb0c7685c649223749146b8abdc223234ecbcc88a0d"), looks := true }, kinds := [], alts := [], laidByText := true, laidKinds := [.data, .data, .data, .data, .sentinel, .sentinel, .pinned], laidTests := true, laidLooks := .later }
def ArcSpoilsUptoCardSaid : Prop := Claim7.holds Tryd.pinned (.plain (OpenSpec.upto arcSpoilsSpec)) arcSpoilsUptoCard
end Rows
end Go.Proofs.YtpfcofjianmeaaaDoor
