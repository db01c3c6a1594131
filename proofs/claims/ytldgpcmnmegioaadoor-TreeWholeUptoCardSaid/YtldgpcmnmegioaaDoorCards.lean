/-
  DERIVED. GIVEN WITH THE SEED: THE CARDS: each row of YtldgpcmnmegioaaDoorRows.lean that lists a variable, with what it lists TIED to the program's text (the seventh form; the later family's looks); each row that meets fmt, with fmt's text TOLD by the authors' own Lean function (tested against real Go, not proved from fmt's source: count such statements apart). THE CARD IS WHAT COUNTS. Prove the row's statement (the work); the ties are given (YtldgpcmnmegioaaDoorTie.lean); close each card by the builder's one call (the guide's Derived/Test/ToyasCard.lean, 'card_holds'). Laid BY PROGRAM, IN A SANDBOX (cutbox-door.mjs). By AI agents, Wed Nov 11 2026. No macro, syntax, notation, axiom, sorry.
-/
import Derived.Test.YtldgpcmnmegioaaDoorRows
import GoSem.ClaimSeven
namespace Go.Proofs.YtldgpcmnmegioaaDoor
namespace Rows

/-- THE TIED CARD OF 'farrierlaw06.TreeWhole'. -/
def treeWholeCard : Claim7 := { stood := { row := treeWholeRow, standIns := [], harness := (true, "4bf9218e103e73d9a43e21f89c20375f199104425e2154e052b38d8e94bb92d4"), looks := true }, kinds := [], alts := [], laidByText := true, laidKinds := [.data, .pinned], laidTests := true, laidLooks := .later }
def TreeWholeCardSaid : Prop := Claim7.holds Tryd.pinned (.plain (OpenSpec.ofChange treeWholeSpec)) treeWholeCard

/-- THE TIED CARD OF 'farrierlaw06.TreeLinks'. -/
def treeLinksCard : Claim7 := { stood := { row := treeLinksRow, standIns := [], harness := (true, "4bf9218e103e73d9a43e21f89c20375f199104425e2154e052b38d8e94bb92d4"), looks := true }, kinds := [], alts := [], laidByText := true, laidKinds := [.data, .pinned], laidTests := true, laidLooks := .later }
def TreeLinksCardSaid : Prop := Claim7.holds Tryd.pinned (.plain (OpenSpec.ofChange treeLinksSpec)) treeLinksCard

/-- THE SECOND FORM's CARD OF 'farrierlaw06.TreeWhole'. -/
def treeWholeUptoCard : Claim7 := { stood := { row := treeWholeUptoRow, standIns := [], harness := (true, "4bf9218e103e73d9a43e21f89c20375f199104425e2154e052b38d8e94bb92d4"), looks := true }, kinds := [], alts := [], laidByText := true, laidKinds := [.data, .pinned], laidTests := true, laidLooks := .later }
def TreeWholeUptoCardSaid : Prop := Claim7.holds Tryd.pinned (.plain (OpenSpec.upto treeWholeSpec)) treeWholeUptoCard

/-- THE SECOND FORM's CARD OF 'farrierlaw06.TreeLinks'. -/
def treeLinksUptoCard : Claim7 := { stood := { row := treeLinksUptoRow, standIns := [], harness := (true, "4bf9218e103e73d9a43e21f89c20375f199104425e2154e052b38d8e94bb92d4"), looks := true }, kinds := [], alts := [], laidByText := true, laidKinds := [.data, .pinned], laidTests := true, laidLooks := .later }
def TreeLinksUptoCardSaid : Prop := Claim7.holds Tryd.pinned (.plain (OpenSpec.upto treeLinksSpec)) treeLinksUptoCard
end Rows
end Go.Proofs.YtldgpcmnmegioaaDoor
