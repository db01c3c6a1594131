/-
  DERIVED. GIVEN WITH THE SEED: THE CARDS: each row of YtedfpoidggpkdaaDoorRows.lean that lists a variable, with what it lists TIED to the program's text (the seventh form; the later family's looks); each row that meets fmt, with fmt's text TOLD by the authors' own Lean function (tested against real Go, not proved from fmt's source: count such statements apart). THE CARD IS WHAT COUNTS. Prove the row's statement (the work); the ties are given (YtedfpoidggpkdaaDoorTie.lean); close each card by the builder's one call (the guide's Derived/Test/ToyasCard.lean, 'card_holds'). Laid BY PROGRAM, IN A SANDBOX (cutbox-door.mjs). By AI agents, Wed Nov 11 2026. No macro, syntax, notation, axiom, sorry.
-/
import Derived.Test.YtedfpoidggpkdaaDoorRows
import GoSem.ClaimSeven
namespace Go.Proofs.YtedfpoidggpkdaaDoor
namespace Rows

/-- THE TIED CARD OF 'farrierlaw05.PathSplits'. -/
def pathSplitsCard : Claim7 := { stood := { row := pathSplitsRow, standIns := [], harness := (true, "3f941f85df1ee9a68dc726fe901b1d369f8df52fb6963a52ccb04ec51d9fe8ed"), looks := true }, kinds := [], alts := [], laidByText := true, laidKinds := [.data, .pinned], laidTests := true, laidLooks := .later }
def PathSplitsCardSaid : Prop := Claim7.holds Tryd.pinned (.plain (OpenSpec.ofChange pathSplitsSpec)) pathSplitsCard

/-- THE TIED CARD OF 'farrierlaw05.PathWithin'. -/
def pathWithinCard : Claim7 := { stood := { row := pathWithinRow, standIns := [], harness := (true, "3f941f85df1ee9a68dc726fe901b1d369f8df52fb6963a52ccb04ec51d9fe8ed"), looks := true }, kinds := [], alts := [], laidByText := true, laidKinds := [.data, .pinned], laidTests := true, laidLooks := .later }
def PathWithinCardSaid : Prop := Claim7.holds Tryd.pinned (.plain (OpenSpec.ofChange pathWithinSpec)) pathWithinCard

/-- THE TIED CARD OF 'farrierlaw05.PathJoins'. -/
def pathJoinsCard : Claim7 := { stood := { row := pathJoinsRow, standIns := [], harness := (true, "3f941f85df1ee9a68dc726fe901b1d369f8df52fb6963a52ccb04ec51d9fe8ed"), looks := true }, kinds := [], alts := [], laidByText := true, laidKinds := [.data, .pinned], laidTests := true, laidLooks := .later }
def PathJoinsCardSaid : Prop := Claim7.holds Tryd.pinned (.plain (OpenSpec.ofChange pathJoinsSpec)) pathJoinsCard

/-- THE TIED CARD OF 'farrierlaw18.TxnReads'. -/
def txnReadsCard : Claim7 := { stood := { row := txnReadsRow, standIns := [], harness := (true, "3f941f85df1ee9a68dc726fe901b1d369f8df52fb6963a52ccb04ec51d9fe8ed"), looks := true }, kinds := [], alts := [], laidByText := true, laidKinds := [.data, .pinned], laidTests := true, laidLooks := .later }
def TxnReadsCardSaid : Prop := Claim7.holds Tryd.pinned (.plain (OpenSpec.ofChange txnReadsSpec)) txnReadsCard

/-- THE TIED CARD OF 'farrierlaw18.TxnLong'. -/
def txnLongCard : Claim7 := { stood := { row := txnLongRow, standIns := [], harness := (true, "3f941f85df1ee9a68dc726fe901b1d369f8df52fb6963a52ccb04ec51d9fe8ed"), looks := true }, kinds := [], alts := [], laidByText := true, laidKinds := [.data, .pinned], laidTests := true, laidLooks := .later }
def TxnLongCardSaid : Prop := Claim7.holds Tryd.pinned (.plain (OpenSpec.ofChange txnLongSpec)) txnLongCard

/-- THE TIED CARD OF 'farrierlaw09.VerTells'. -/
def verTellsCard : Claim7 := { stood := { row := verTellsRow, standIns := [], harness := (true, "3f941f85df1ee9a68dc726fe901b1d369f8df52fb6963a52ccb04ec51d9fe8ed"), looks := true }, kinds := [], alts := [], laidByText := true, laidKinds := [.data, .data, .data, .data, .sentinel, .sentinel, .pinned], laidTests := true, laidLooks := .later }
def VerTellsCardSaid : Prop := Claim7.holds Tryd.pinned (.plain (OpenSpec.ofChange verTellsSpec)) verTellsCard

/-- THE TIED CARD OF 'farrierlaw09.VerOrders'. -/
def verOrdersCard : Claim7 := { stood := { row := verOrdersRow, standIns := [], harness := (true, "3f941f85df1ee9a68dc726fe901b1d369f8df52fb6963a52ccb04ec51d9fe8ed"), looks := true }, kinds := [], alts := [], laidByText := true, laidKinds := [.data, .data, .data, .data, .sentinel, .sentinel, .pinned], laidTests := true, laidLooks := .later }
def VerOrdersCardSaid : Prop := Claim7.holds Tryd.pinned (.plain (OpenSpec.ofChange verOrdersSpec)) verOrdersCard

/-- THE TIED CARD OF 'farrierlaw09.VerFits'. -/
def verFitsCard : Claim7 := { stood := { row := verFitsRow, standIns := [], harness := (true, "3f941f85df1ee9a68dc726fe901b1d369f8df52fb6963a52ccb04ec51d9fe8ed"), looks := true }, kinds := [], alts := [], laidByText := true, laidKinds := [.data, .data, .data, .data, .sentinel, .sentinel, .pinned], laidTests := true, laidLooks := .later }
def VerFitsCardSaid : Prop := Claim7.holds Tryd.pinned (.plain (OpenSpec.ofChange verFitsSpec)) verFitsCard

/-- THE TIED CARD OF 'farrierlaw13.UnitParses'. -/
def unitParsesCard : Claim7 := { stood := { row := unitParsesRow, standIns := [], harness := (true, "3f941f85df1ee9a68dc726fe901b1d369f8df52fb6963a52ccb04ec51d9fe8ed"), looks := true }, kinds := [], alts := [], laidByText := true, laidKinds := [.data, .data, .data, .data, .sentinel, .sentinel, .pinned], laidTests := true, laidLooks := .later }
def UnitParsesCardSaid : Prop := Claim7.holds Tryd.pinned (.plain (OpenSpec.ofChange unitParsesSpec)) unitParsesCard

/-- THE TIED CARD OF 'farrierlaw13.UnitLines'. -/
def unitLinesCard : Claim7 := { stood := { row := unitLinesRow, standIns := [], harness := (true, "3f941f85df1ee9a68dc726fe901b1d369f8df52fb6963a52ccb04ec51d9fe8ed"), looks := true }, kinds := [], alts := [], laidByText := true, laidKinds := [.data, .data, .data, .data, .sentinel, .sentinel, .pinned], laidTests := true, laidLooks := .later }
def UnitLinesCardSaid : Prop := Claim7.holds Tryd.pinned (.plain (OpenSpec.ofChange unitLinesSpec)) unitLinesCard

/-- THE TIED CARD OF 'farrierlaw13.UnitTells'. -/
def unitTellsCard : Claim7 := { stood := { row := unitTellsRow, standIns := [], harness := (true, "3f941f85df1ee9a68dc726fe901b1d369f8df52fb6963a52ccb04ec51d9fe8ed"), looks := true }, kinds := [], alts := [], laidByText := true, laidKinds := [.data, .data, .data, .data, .sentinel, .sentinel, .pinned], laidTests := true, laidLooks := .later }
def UnitTellsCardSaid : Prop := Claim7.holds Tryd.pinned (.plain (OpenSpec.ofChange unitTellsSpec)) unitTellsCard

/-- THE SECOND FORM's CARD OF 'farrierlaw05.PathSplits'. -/
def pathSplitsUptoCard : Claim7 := { stood := { row := pathSplitsUptoRow, standIns := [], harness := (true, "3f941f85df1ee9a68dc726fe901b1d369f8df52fb6963a52ccb04ec51d9fe8ed"), looks := true }, kinds := [], alts := [], laidByText := true, laidKinds := [.data, .pinned], laidTests := true, laidLooks := .later }
def PathSplitsUptoCardSaid : Prop := Claim7.holds Tryd.pinned (.plain (OpenSpec.upto pathSplitsSpec)) pathSplitsUptoCard

/-- THE SECOND FORM's CARD OF 'farrierlaw05.PathWithin'. -/
def pathWithinUptoCard : Claim7 := { stood := { row := pathWithinUptoRow, standIns := [], harness := (true, "3f941f85df1ee9a68dc726fe901b1d369f8df52fb6963a52ccb04ec51d9fe8ed"), looks := true }, kinds := [], alts := [], laidByText := true, laidKinds := [.data, .pinned], laidTests := true, laidLooks := .later }
def PathWithinUptoCardSaid : Prop := Claim7.holds Tryd.pinned (.plain (OpenSpec.upto pathWithinSpec)) pathWithinUptoCard

/-- THE SECOND FORM's CARD OF 'farrierlaw05.PathJoins'. -/
def pathJoinsUptoCard : Claim7 := { stood := { row := pathJoinsUptoRow, standIns := [], harness := (true, "3f941f85df1ee9a68dc726fe901b1d369f8df52fb6963a52ccb04ec51d9fe8ed"), looks := true }, kinds := [], alts := [], laidByText := true, laidKinds := [.data, .pinned], laidTests := true, laidLooks := .later }
def PathJoinsUptoCardSaid : Prop := Claim7.holds Tryd.pinned (.plain (OpenSpec.upto pathJoinsSpec)) pathJoinsUptoCard

/-- THE SECOND FORM's CARD OF 'farrierlaw18.TxnReads'. -/
def txnReadsUptoCard : Claim7 := { stood := { row := txnReadsUptoRow, standIns := [], harness := (true, "3f941f85df1ee9a68dc726fe901b1d369f8df52fb6963a52ccb04ec51d9fe8ed"), looks := true }, kinds := [], alts := [], laidByText := true, laidKinds := [.data, .pinned], laidTests := true, laidLooks := .later }
def TxnReadsUptoCardSaid : Prop := Claim7.holds Tryd.pinned (.plain (OpenSpec.upto txnReadsSpec)) txnReadsUptoCard

/-- THE SECOND FORM's CARD OF 'farrierlaw18.TxnLong'. -/
def txnLongUptoCard : Claim7 := { stood := { row := txnLongUptoRow, standIns := [], harness := (true, "3f941f85df1ee9a68dc726fe901b1d369f8df52fb6963a52ccb04ec51d9fe8ed"), looks := true }, kinds := [], alts := [], laidByText := true, laidKinds := [.data, .pinned], laidTests := true, laidLooks := .later }
def TxnLongUptoCardSaid : Prop := Claim7.holds Tryd.pinned (.plain (OpenSpec.upto txnLongSpec)) txnLongUptoCard

/-- THE SECOND FORM's CARD OF 'farrierlaw09.VerTells'. -/
def verTellsUptoCard : Claim7 := { stood := { row := verTellsUptoRow, standIns := [], harness := (true, "3f941f85df1ee9a68dc726fe901b1d369f8df52fb6963a52ccb04ec51d9fe8ed"), looks := true }, kinds := [], alts := [], laidByText := true, laidKinds := [.data, .data, .data, .data, .sentinel, .sentinel, .pinned], laidTests := true, laidLooks := .later }
def VerTellsUptoCardSaid : Prop := Claim7.holds Tryd.pinned (.plain (OpenSpec.upto verTellsSpec)) verTellsUptoCard

/-- THE SECOND FORM's CARD OF 'farrierlaw09.VerOrders'. -/
def verOrdersUptoCard : Claim7 := { stood := { row := verOrdersUptoRow, standIns := [], harness := (true, "3f941f85df1ee9a68dc726fe901b1d369f8df52fb6963a52ccb04ec51d9fe8ed"), looks := true }, kinds := [], alts := [], laidByText := true, laidKinds := [.data, .data, .data, .data, .sentinel, .sentinel, .pinned], laidTests := true, laidLooks := .later }
def VerOrdersUptoCardSaid : Prop := Claim7.holds Tryd.pinned (.plain (OpenSpec.upto verOrdersSpec)) verOrdersUptoCard

/-- THE SECOND FORM's CARD OF 'farrierlaw09.VerFits'. -/
def verFitsUptoCard : Claim7 := { stood := { row := verFitsUptoRow, standIns := [], harness := (true, "3f941f85df1ee9a68dc726fe901b1d369f8df52fb6963a52ccb04ec51d9fe8ed"), looks := true }, kinds := [], alts := [], laidByText := true, laidKinds := [.data, .data, .data, .data, .sentinel, .sentinel, .pinned], laidTests := true, laidLooks := .later }
def VerFitsUptoCardSaid : Prop := Claim7.holds Tryd.pinned (.plain (OpenSpec.upto verFitsSpec)) verFitsUptoCard

/-- THE SECOND FORM's CARD OF 'farrierlaw13.UnitParses'. -/
def unitParsesUptoCard : Claim7 := { stood := { row := unitParsesUptoRow, standIns := [], harness := (true, "3f941f85df1ee9a68dc726fe901b1d369f8df52fb6963a52ccb04ec51d9fe8ed"), looks := true }, kinds := [], alts := [], laidByText := true, laidKinds := [.data, .data, .data, .data, .sentinel, .sentinel, .pinned], laidTests := true, laidLooks := .later }
def UnitParsesUptoCardSaid : Prop := Claim7.holds Tryd.pinned (.plain (OpenSpec.upto unitParsesSpec)) unitParsesUptoCard

/-- THE SECOND FORM's CARD OF 'farrierlaw13.UnitLines'. -/
def unitLinesUptoCard : Claim7 := { stood := { row := unitLinesUptoRow, standIns := [], harness := (true, "3f941f85df1ee9a68dc726fe901b1d369f8df52fb6963a52ccb04ec51d9fe8ed"), looks := true }, kinds := [], alts := [], laidByText := true, laidKinds := [.data, .data, .data, .data, .sentinel, .sentinel, .pinned], laidTests := true, laidLooks := .later }
def UnitLinesUptoCardSaid : Prop := Claim7.holds Tryd.pinned (.plain (OpenSpec.upto unitLinesSpec)) unitLinesUptoCard

/-- THE SECOND FORM's CARD OF 'farrierlaw13.UnitTells'. -/
def unitTellsUptoCard : Claim7 := { stood := { row := unitTellsUptoRow, standIns := [], harness := (true, "3f941f85df1ee9a68dc726fe901b1d369f8df52fb6963a52ccb04ec51d9fe8ed"), looks := true }, kinds := [], alts := [], laidByText := true, laidKinds := [.data, .data, .data, .data, .sentinel, .sentinel, .pinned], laidTests := true, laidLooks := .later }
def UnitTellsUptoCardSaid : Prop := Claim7.holds Tryd.pinned (.plain (OpenSpec.upto unitTellsSpec)) unitTellsUptoCard
end Rows
end Go.Proofs.YtedfpoidggpkdaaDoor
