/-
  DERIVED. GIVEN WITH THE SEED: THE CARDS: each row of YtefpllpichhojaaGreatDoorRows.lean that lists a variable, with what it lists TIED to the program's text (the seventh form; the later family's looks); each row that meets fmt, with fmt's text TOLD by the authors' own Lean function (tested against real Go, not proved from fmt's source: count such statements apart). THE CARD IS WHAT COUNTS. Prove the row's statement (the work); the ties are given (YtefpllpichhojaaGreatDoorTie.lean); close each card by the builder's one call (the guide's Derived/Test/ToyasCard.lean, 'card_holds'). Laid BY PROGRAM, IN A SANDBOX (cutbox-door.mjs). By AI agents, Wed Nov 11 2026. No macro, syntax, notation, axiom, sorry.
-/
import Derived.Test.YtefpllpichhojaaGreatDoorRows
import GoSem.ClaimSeven
namespace Go.Proofs.YtefpllpichhojaaGreatDoor
namespace Rows

/-- THE TIED CARD OF 'farrierlaw08.ProcPlays'. -/
def procPlaysCard : Claim7 := { stood := { row := procPlaysRow, standIns := [], harness := (true, "62bccd663bbc65426eb8f829cbd8389ecb08c57adb05a15bd39306c94fdd7e2e"), looks := true }, kinds := [], alts := [], laidByText := true, laidKinds := [.data, .pinned], laidTests := true, laidLooks := .later }
def ProcPlaysCardSaid : Prop := Claim7.holds Tryz.pinned (.plain (OpenSpec.ofChange procPlaysSpec)) procPlaysCard

/-- THE TIED CARD OF 'farrierlaw17.NeedNone'. -/
def needNoneCard : Claim7 := { stood := { row := needNoneRow, standIns := [], harness := (true, "62bccd663bbc65426eb8f829cbd8389ecb08c57adb05a15bd39306c94fdd7e2e"), looks := true }, kinds := [], alts := [], laidByText := true, laidKinds := [.data, .pinned], laidTests := true, laidLooks := .later }
def NeedNoneCardSaid : Prop := Claim7.holds Tryz.pinned (.plain (OpenSpec.ofChange needNoneSpec)) needNoneCard

/-- THE TIED CARD OF 'farrierlaw17.NeedHits'. -/
def needHitsCard : Claim7 := { stood := { row := needHitsRow, standIns := [], harness := (true, "62bccd663bbc65426eb8f829cbd8389ecb08c57adb05a15bd39306c94fdd7e2e"), looks := true }, kinds := [], alts := [], laidByText := true, laidKinds := [.data, .pinned], laidTests := true, laidLooks := .later }
def NeedHitsCardSaid : Prop := Claim7.holds Tryz.pinned (.plain (OpenSpec.ofChange needHitsSpec)) needHitsCard

/-- THE TIED CARD OF 'farrierlaw16.MgrPlays'. -/
def mgrPlaysCard : Claim7 := { stood := { row := mgrPlaysRow, standIns := [], harness := (true, "62bccd663bbc65426eb8f829cbd8389ecb08c57adb05a15bd39306c94fdd7e2e"), looks := true }, kinds := [], alts := [], laidByText := true, laidKinds := [.data, .pinned], laidTests := true, laidLooks := .later }
def MgrPlaysCardSaid : Prop := Claim7.holds Tryz.pinned (.plain (OpenSpec.ofChange mgrPlaysSpec)) mgrPlaysCard

/-- THE TIED CARD OF 'farrierlaw16.MgrRetries'. -/
def mgrRetriesCard : Claim7 := { stood := { row := mgrRetriesRow, standIns := [], harness := (true, "62bccd663bbc65426eb8f829cbd8389ecb08c57adb05a15bd39306c94fdd7e2e"), looks := true }, kinds := [], alts := [], laidByText := true, laidKinds := [.data, .pinned], laidTests := true, laidLooks := .later }
def MgrRetriesCardSaid : Prop := Claim7.holds Tryz.pinned (.plain (OpenSpec.ofChange mgrRetriesSpec)) mgrRetriesCard

/-- THE TIED CARD OF 'farrierlaw16.MgrLoses'. -/
def mgrLosesCard : Claim7 := { stood := { row := mgrLosesRow, standIns := [], harness := (true, "62bccd663bbc65426eb8f829cbd8389ecb08c57adb05a15bd39306c94fdd7e2e"), looks := true }, kinds := [], alts := [], laidByText := true, laidKinds := [.data, .pinned], laidTests := true, laidLooks := .later }
def MgrLosesCardSaid : Prop := Claim7.holds Tryz.pinned (.plain (OpenSpec.ofChange mgrLosesSpec)) mgrLosesCard

/-- THE TIED CARD OF 'farrierlaw07.VolLong'. -/
def volLongCard : Claim7 := { stood := { row := volLongRow, standIns := [], harness := (true, "62bccd663bbc65426eb8f829cbd8389ecb08c57adb05a15bd39306c94fdd7e2e"), looks := true }, kinds := [], alts := [], laidByText := true, laidKinds := [.data, .pinned], laidTests := true, laidLooks := .later }
def VolLongCardSaid : Prop := Claim7.holds Tryz.pinned (.plain (OpenSpec.ofChange volLongSpec)) volLongCard

/-- THE SECOND FORM's CARD OF 'farrierlaw08.ProcPlays'. -/
def procPlaysUptoCard : Claim7 := { stood := { row := procPlaysUptoRow, standIns := [], harness := (true, "62bccd663bbc65426eb8f829cbd8389ecb08c57adb05a15bd39306c94fdd7e2e"), looks := true }, kinds := [], alts := [], laidByText := true, laidKinds := [.data, .pinned], laidTests := true, laidLooks := .later }
def ProcPlaysUptoCardSaid : Prop := Claim7.holds Tryz.pinned (.plain (OpenSpec.upto procPlaysSpec)) procPlaysUptoCard

/-- THE SECOND FORM's CARD OF 'farrierlaw17.NeedNone'. -/
def needNoneUptoCard : Claim7 := { stood := { row := needNoneUptoRow, standIns := [], harness := (true, "62bccd663bbc65426eb8f829cbd8389ecb08c57adb05a15bd39306c94fdd7e2e"), looks := true }, kinds := [], alts := [], laidByText := true, laidKinds := [.data, .pinned], laidTests := true, laidLooks := .later }
def NeedNoneUptoCardSaid : Prop := Claim7.holds Tryz.pinned (.plain (OpenSpec.upto needNoneSpec)) needNoneUptoCard

/-- THE SECOND FORM's CARD OF 'farrierlaw17.NeedHits'. -/
def needHitsUptoCard : Claim7 := { stood := { row := needHitsUptoRow, standIns := [], harness := (true, "62bccd663bbc65426eb8f829cbd8389ecb08c57adb05a15bd39306c94fdd7e2e"), looks := true }, kinds := [], alts := [], laidByText := true, laidKinds := [.data, .pinned], laidTests := true, laidLooks := .later }
def NeedHitsUptoCardSaid : Prop := Claim7.holds Tryz.pinned (.plain (OpenSpec.upto needHitsSpec)) needHitsUptoCard

/-- THE SECOND FORM's CARD OF 'farrierlaw16.MgrPlays'. -/
def mgrPlaysUptoCard : Claim7 := { stood := { row := mgrPlaysUptoRow, standIns := [], harness := (true, "62bccd663bbc65426eb8f829cbd8389ecb08c57adb05a15bd39306c94fdd7e2e"), looks := true }, kinds := [], alts := [], laidByText := true, laidKinds := [.data, .pinned], laidTests := true, laidLooks := .later }
def MgrPlaysUptoCardSaid : Prop := Claim7.holds Tryz.pinned (.plain (OpenSpec.upto mgrPlaysSpec)) mgrPlaysUptoCard

/-- THE SECOND FORM's CARD OF 'farrierlaw16.MgrRetries'. -/
def mgrRetriesUptoCard : Claim7 := { stood := { row := mgrRetriesUptoRow, standIns := [], harness := (true, "62bccd663bbc65426eb8f829cbd8389ecb08c57adb05a15bd39306c94fdd7e2e"), looks := true }, kinds := [], alts := [], laidByText := true, laidKinds := [.data, .pinned], laidTests := true, laidLooks := .later }
def MgrRetriesUptoCardSaid : Prop := Claim7.holds Tryz.pinned (.plain (OpenSpec.upto mgrRetriesSpec)) mgrRetriesUptoCard

/-- THE SECOND FORM's CARD OF 'farrierlaw16.MgrLoses'. -/
def mgrLosesUptoCard : Claim7 := { stood := { row := mgrLosesUptoRow, standIns := [], harness := (true, "62bccd663bbc65426eb8f829cbd8389ecb08c57adb05a15bd39306c94fdd7e2e"), looks := true }, kinds := [], alts := [], laidByText := true, laidKinds := [.data, .pinned], laidTests := true, laidLooks := .later }
def MgrLosesUptoCardSaid : Prop := Claim7.holds Tryz.pinned (.plain (OpenSpec.upto mgrLosesSpec)) mgrLosesUptoCard

/-- THE SECOND FORM's CARD OF 'farrierlaw07.VolLong'. -/
def volLongUptoCard : Claim7 := { stood := { row := volLongUptoRow, standIns := [], harness := (true, "62bccd663bbc65426eb8f829cbd8389ecb08c57adb05a15bd39306c94fdd7e2e"), looks := true }, kinds := [], alts := [], laidByText := true, laidKinds := [.data, .pinned], laidTests := true, laidLooks := .later }
def VolLongUptoCardSaid : Prop := Claim7.holds Tryz.pinned (.plain (OpenSpec.upto volLongSpec)) volLongUptoCard
end Rows
end Go.Proofs.YtefpllpichhojaaGreatDoor
