/-
  DERIVED. GIVEN WITH THE SEED: THE CARDS: each row of YtnclibfhbngkjaaGreatDoorRows.lean that lists a variable, with what it lists TIED to the program's text (the seventh form; the later family's looks); each row that meets fmt, with fmt's text TOLD by the authors' own Lean function (tested against real Go, not proved from fmt's source: count such statements apart). THE CARD IS WHAT COUNTS. Prove the row's statement (the work); the ties are given (YtnclibfhbngkjaaGreatDoorTie.lean); close each card by the builder's one call (the guide's Derived/Test/ToyasCard.lean, 'card_holds'). Laid BY PROGRAM, IN A SANDBOX (cutbox-door.mjs). By AI agents, Wed Nov 11 2026. No macro, syntax, notation, axiom, sorry.
-/
import Derived.Test.YtnclibfhbngkjaaGreatDoorRows
import GoSem.ClaimSeven
namespace Go.Proofs.YtnclibfhbngkjaaGreatDoor
namespace Rows

/-- THE TIED CARD OF 'farrierlaw11.BaseBack'. -/
def baseBackCard : Claim7 := { stood := { row := baseBackRow, standIns := [], harness := (true, "fd1e03c76beceb64e6f02e5cf0e93b9520804c2a4689c719bf0714199dd4e26a"), looks := true }, kinds := [], alts := [], laidByText := true, laidKinds := [.data, .data, .data, .data, .sentinel, .sentinel, .pinned], laidTests := true, laidLooks := .later }
def BaseBackCardSaid : Prop := Claim7.holds Tryz.pinned (.plain (OpenSpec.ofChange baseBackSpec)) baseBackCard

/-- THE TIED CARD OF 'farrierlaw11.BaseApart'. -/
def baseApartCard : Claim7 := { stood := { row := baseApartRow, standIns := [], harness := (true, "fd1e03c76beceb64e6f02e5cf0e93b9520804c2a4689c719bf0714199dd4e26a"), looks := true }, kinds := [], alts := [], laidByText := true, laidKinds := [.data, .data, .data, .data, .sentinel, .sentinel, .pinned], laidTests := true, laidLooks := .later }
def BaseApartCardSaid : Prop := Claim7.holds Tryz.pinned (.plain (OpenSpec.ofChange baseApartSpec)) baseApartCard

/-- THE TIED CARD OF 'farrierlaw12.DepHolds'. -/
def depHoldsCard : Claim7 := { stood := { row := depHoldsRow, standIns := [], harness := (true, "fd1e03c76beceb64e6f02e5cf0e93b9520804c2a4689c719bf0714199dd4e26a"), looks := true }, kinds := [], alts := [], laidByText := true, laidKinds := [.data, .data, .data, .data, .sentinel, .sentinel, .pinned], laidTests := true, laidLooks := .later }
def DepHoldsCardSaid : Prop := Claim7.holds Tryz.pinned (.plain (OpenSpec.ofChange depHoldsSpec)) depHoldsCard

/-- THE TIED CARD OF 'farrierlaw12.DepAgain'. -/
def depAgainCard : Claim7 := { stood := { row := depAgainRow, standIns := [], harness := (true, "fd1e03c76beceb64e6f02e5cf0e93b9520804c2a4689c719bf0714199dd4e26a"), looks := true }, kinds := [], alts := [], laidByText := true, laidKinds := [.data, .data, .data, .data, .sentinel, .sentinel, .pinned], laidTests := true, laidLooks := .later }
def DepAgainCardSaid : Prop := Claim7.holds Tryz.pinned (.plain (OpenSpec.ofChange depAgainSpec)) depAgainCard

/-- THE TIED CARD OF 'farrierlaw12.DepSplits'. -/
def depSplitsCard : Claim7 := { stood := { row := depSplitsRow, standIns := [], harness := (true, "fd1e03c76beceb64e6f02e5cf0e93b9520804c2a4689c719bf0714199dd4e26a"), looks := true }, kinds := [], alts := [], laidByText := true, laidKinds := [.data, .data, .data, .data, .sentinel, .sentinel, .pinned], laidTests := true, laidLooks := .later }
def DepSplitsCardSaid : Prop := Claim7.holds Tryz.pinned (.plain (OpenSpec.ofChange depSplitsSpec)) depSplitsCard

/-- THE SECOND FORM's CARD OF 'farrierlaw11.BaseBack'. -/
def baseBackUptoCard : Claim7 := { stood := { row := baseBackUptoRow, standIns := [], harness := (true, "fd1e03c76beceb64e6f02e5cf0e93b9520804c2a4689c719bf0714199dd4e26a"), looks := true }, kinds := [], alts := [], laidByText := true, laidKinds := [.data, .data, .data, .data, .sentinel, .sentinel, .pinned], laidTests := true, laidLooks := .later }
def BaseBackUptoCardSaid : Prop := Claim7.holds Tryz.pinned (.plain (OpenSpec.upto baseBackSpec)) baseBackUptoCard

/-- THE SECOND FORM's CARD OF 'farrierlaw11.BaseApart'. -/
def baseApartUptoCard : Claim7 := { stood := { row := baseApartUptoRow, standIns := [], harness := (true, "fd1e03c76beceb64e6f02e5cf0e93b9520804c2a4689c719bf0714199dd4e26a"), looks := true }, kinds := [], alts := [], laidByText := true, laidKinds := [.data, .data, .data, .data, .sentinel, .sentinel, .pinned], laidTests := true, laidLooks := .later }
def BaseApartUptoCardSaid : Prop := Claim7.holds Tryz.pinned (.plain (OpenSpec.upto baseApartSpec)) baseApartUptoCard

/-- THE SECOND FORM's CARD OF 'farrierlaw12.DepHolds'. -/
def depHoldsUptoCard : Claim7 := { stood := { row := depHoldsUptoRow, standIns := [], harness := (true, "fd1e03c76beceb64e6f02e5cf0e93b9520804c2a4689c719bf0714199dd4e26a"), looks := true }, kinds := [], alts := [], laidByText := true, laidKinds := [.data, .data, .data, .data, .sentinel, .sentinel, .pinned], laidTests := true, laidLooks := .later }
def DepHoldsUptoCardSaid : Prop := Claim7.holds Tryz.pinned (.plain (OpenSpec.upto depHoldsSpec)) depHoldsUptoCard

/-- THE SECOND FORM's CARD OF 'farrierlaw12.DepAgain'. -/
def depAgainUptoCard : Claim7 := { stood := { row := depAgainUptoRow, standIns := [], harness := (true, "fd1e03c76beceb64e6f02e5cf0e93b9520804c2a4689c719bf0714199dd4e26a"), looks := true }, kinds := [], alts := [], laidByText := true, laidKinds := [.data, .data, .data, .data, .sentinel, .sentinel, .pinned], laidTests := true, laidLooks := .later }
def DepAgainUptoCardSaid : Prop := Claim7.holds Tryz.pinned (.plain (OpenSpec.upto depAgainSpec)) depAgainUptoCard

/-- THE SECOND FORM's CARD OF 'farrierlaw12.DepSplits'. -/
def depSplitsUptoCard : Claim7 := { stood := { row := depSplitsUptoRow, standIns := [], harness := (true, "fd1e03c76beceb64e6f02e5cf0e93b9520804c2a4689c719bf0714199dd4e26a"), looks := true }, kinds := [], alts := [], laidByText := true, laidKinds := [.data, .data, .data, .data, .sentinel, .sentinel, .pinned], laidTests := true, laidLooks := .later }
def DepSplitsUptoCardSaid : Prop := Claim7.holds Tryz.pinned (.plain (OpenSpec.upto depSplitsSpec)) depSplitsUptoCard
end Rows
end Go.Proofs.YtnclibfhbngkjaaGreatDoor
