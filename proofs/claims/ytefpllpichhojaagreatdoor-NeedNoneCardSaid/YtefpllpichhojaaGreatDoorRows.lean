/-
  NARROWER THAN 'FOR EVERY INPUT', by the rows' own cells (each row's printed sentence says how): ProcPlays: laid · NeedNone: laid · NeedHits: laid · MgrPlays: laid · MgrRetries: laid · MgrLoses: laid · VolLong: laid.
  DERIVED. THE GIVEN ROWS OF THIS SEAT. 7 by the template 'for every input the law returns true; each argument reads behind the call as it read before'; 0 by the template 'total and deterministic' (their statements: YtefpllpichhojaaGreatDoorTotals.lean).
  GIVEN WITH THE SEED: the statements are not yours to turn. If you find one false, say at which input.
  Laid BY PROGRAM, IN A SANDBOX (cutbox-rows.mjs): the forced cells as the released guide's own fill.sh prints them over the translation 0fad0fd1f0ffd598… (all of the seat's roots in one cut). By AI agents, Wed Nov 11 2026. No macro, syntax, notation, axiom, sorry.
-/
import Derived.Test.YtefpllpichhojaaGreatDoorChecked
import GoSem.PinnedTables
import GoSem.Claim
import GoSem.ClaimJoined
import GoSem.ClaimMapViews
import Derived.JoinedTies
import Derived.KernelRfl
namespace Go.Proofs.YtefpllpichhojaaGreatDoor
/- THE CELL 'sum', in the pinned program and in every row, IS THE sha256 OF THE DUMP (.gsa) THAT YtefpllpichhojaaGreatDoorProg.lean LOADS. Nothing in Lean hashes anything: it is a label: what it is worth is what the hold of that sum in a sandbox is worth. -/
noncomputable def Tryz.pinned : Pinned := { name := "ytefpllpichhojaagreatdoor", sum := "0fad0fd1f0ffd598279df1ae1da75f189c24933eeb155e2e5f8ba2614eca2489", checked := Tryz.checked }
namespace Rows
def none {H : Type} : Left H := { results := [], args := [] }

/- WHAT THE LISTED PACKAGE-LEVEL VARIABLES READ AS WHEN THE CALL BEGINS. Each datum BY PROGRAM (the guide's laid-datum.mjs) off the statement by which the dump's own 'gosem.cut.vars' lays the variable. In a bare row this is a premise. The card (YtefpllpichhojaaGreatDoorCards.lean) ties it to the program's text. -/
def laid_unicode_utf8_acceptRanges {H : Type} : DataW H := .agg [.agg [.lit (.int .u8 128), .lit (.int .u8 191)], .agg [.lit (.int .u8 160), .lit (.int .u8 191)], .agg [.lit (.int .u8 128), .lit (.int .u8 159)], .agg [.lit (.int .u8 144), .lit (.int .u8 191)], .agg [.lit (.int .u8 128), .lit (.int .u8 143)], .agg [.lit (.int .u8 0), .lit (.int .u8 0)], .agg [.lit (.int .u8 0), .lit (.int .u8 0)], .agg [.lit (.int .u8 0), .lit (.int .u8 0)], .agg [.lit (.int .u8 0), .lit (.int .u8 0)], .agg [.lit (.int .u8 0), .lit (.int .u8 0)], .agg [.lit (.int .u8 0), .lit (.int .u8 0)], .agg [.lit (.int .u8 0), .lit (.int .u8 0)], .agg [.lit (.int .u8 0), .lit (.int .u8 0)], .agg [.lit (.int .u8 0), .lit (.int .u8 0)], .agg [.lit (.int .u8 0), .lit (.int .u8 0)], .agg [.lit (.int .u8 0), .lit (.int .u8 0)]]
/-- One of Go's own tables, pinned by name: the form's constant. -/
def laid_unicode_utf8_first : DataW Unit := Go.Pinned.utf8First

/-- 'farrierlaw08.ProcPlays': WHATEVER THE INPUT: true; the input reads as it did. -/
def procPlaysSpec : ChangeSpec := { name := "procPlays", fn := fun _ => fun
  | [d] => { results := [.lit (.bool true)], args := [d] }
  | _ => none }
def procPlaysRow : OpenClaim := { program := "ytefpllpichhojaagreatdoor", sum := "0fad0fd1f0ffd598279df1ae1da75f189c24933eeb155e2e5f8ba2614eca2489", func := "farrier/farrierlaw08.ProcPlays", spec := "procPlays", inPlace := ["maps.clone", "internal/bytealg.CountString", "internal/bytealg.IndexByteString", "internal/bytealg.IndexString", "internal/abi.NoEscape", "internal/bytealg.MakeNoZero"], unfollowed := true, recurses := true, named := ["unicode/utf8.first", "unicode/utf8.acceptRanges", "internal/bytealg.MaxLen"], apart := false, laid := [("unicode/utf8.acceptRanges", laid_unicode_utf8_acceptRanges), ("unicode/utf8.first", laid_unicode_utf8_first)] }
def ProcPlaysSaid : Prop := procPlaysRow.holds Tryz.pinned (OpenSpec.ofChange procPlaysSpec)

/-- ITS FALSE NEIGHBOUR: 'it returns false'. Refute it at one input. -/
def procPlaysWrong : ChangeSpec := { name := "procPlays", fn := fun _ => fun
  | [d] => { results := [.lit (.bool false)], args := [d] }
  | _ => none }
def ProcPlaysWrongFalsely : Prop := procPlaysRow.holds Tryz.pinned (OpenSpec.ofChange procPlaysWrong)

/-- 'farrierlaw17.NeedNone': WHATEVER THE INPUT: true; the input reads as it did. -/
def needNoneSpec : ChangeSpec := { name := "needNone", fn := fun _ => fun
  | [d1, d2] => { results := [.lit (.bool true)], args := [d1, d2] }
  | _ => none }
def needNoneRow : OpenClaim := { program := "ytefpllpichhojaagreatdoor", sum := "0fad0fd1f0ffd598279df1ae1da75f189c24933eeb155e2e5f8ba2614eca2489", func := "farrier/farrierlaw17.NeedNone", spec := "needNone", inPlace := ["maps.clone", "internal/bytealg.CountString", "internal/bytealg.IndexByteString", "internal/bytealg.IndexString", "internal/abi.NoEscape", "internal/bytealg.MakeNoZero"], unfollowed := true, recurses := true, named := ["unicode/utf8.first", "unicode/utf8.acceptRanges", "internal/bytealg.MaxLen"], apart := false, laid := [("unicode/utf8.acceptRanges", laid_unicode_utf8_acceptRanges), ("unicode/utf8.first", laid_unicode_utf8_first)] }
def NeedNoneSaid : Prop := needNoneRow.holds Tryz.pinned (OpenSpec.ofChange needNoneSpec)

/-- ITS FALSE NEIGHBOUR: 'it returns false'. Refute it at one input. -/
def needNoneWrong : ChangeSpec := { name := "needNone", fn := fun _ => fun
  | [d1, d2] => { results := [.lit (.bool false)], args := [d1, d2] }
  | _ => none }
def NeedNoneWrongFalsely : Prop := needNoneRow.holds Tryz.pinned (OpenSpec.ofChange needNoneWrong)

/-- 'farrierlaw17.NeedHits': WHATEVER THE INPUT: true; the input reads as it did. -/
def needHitsSpec : ChangeSpec := { name := "needHits", fn := fun _ => fun
  | [d] => { results := [.lit (.bool true)], args := [d] }
  | _ => none }
def needHitsRow : OpenClaim := { program := "ytefpllpichhojaagreatdoor", sum := "0fad0fd1f0ffd598279df1ae1da75f189c24933eeb155e2e5f8ba2614eca2489", func := "farrier/farrierlaw17.NeedHits", spec := "needHits", inPlace := ["maps.clone", "internal/bytealg.CountString", "internal/bytealg.IndexByteString", "internal/bytealg.IndexString", "internal/abi.NoEscape", "internal/bytealg.MakeNoZero"], unfollowed := true, recurses := true, named := ["unicode/utf8.first", "unicode/utf8.acceptRanges", "internal/bytealg.MaxLen"], apart := false, laid := [("unicode/utf8.acceptRanges", laid_unicode_utf8_acceptRanges), ("unicode/utf8.first", laid_unicode_utf8_first)] }
def NeedHitsSaid : Prop := needHitsRow.holds Tryz.pinned (OpenSpec.ofChange needHitsSpec)

/-- ITS FALSE NEIGHBOUR: 'it returns false'. Refute it at one input. -/
def needHitsWrong : ChangeSpec := { name := "needHits", fn := fun _ => fun
  | [d] => { results := [.lit (.bool false)], args := [d] }
  | _ => none }
def NeedHitsWrongFalsely : Prop := needHitsRow.holds Tryz.pinned (OpenSpec.ofChange needHitsWrong)

/-- 'farrierlaw16.MgrPlays': WHATEVER THE INPUT: true; the input reads as it did. -/
def mgrPlaysSpec : ChangeSpec := { name := "mgrPlays", fn := fun _ => fun
  | [d1, d2, d3] => { results := [.lit (.bool true)], args := [d1, d2, d3] }
  | _ => none }
def mgrPlaysRow : OpenClaim := { program := "ytefpllpichhojaagreatdoor", sum := "0fad0fd1f0ffd598279df1ae1da75f189c24933eeb155e2e5f8ba2614eca2489", func := "farrier/farrierlaw16.MgrPlays", spec := "mgrPlays", inPlace := ["maps.clone", "internal/bytealg.CountString", "internal/bytealg.IndexByteString", "internal/bytealg.IndexString", "internal/abi.NoEscape", "internal/bytealg.MakeNoZero"], unfollowed := true, recurses := true, named := ["unicode/utf8.first", "unicode/utf8.acceptRanges", "internal/bytealg.MaxLen"], apart := false, laid := [("unicode/utf8.acceptRanges", laid_unicode_utf8_acceptRanges), ("unicode/utf8.first", laid_unicode_utf8_first)] }
def MgrPlaysSaid : Prop := mgrPlaysRow.holds Tryz.pinned (OpenSpec.ofChange mgrPlaysSpec)

/-- ITS FALSE NEIGHBOUR: 'it returns false'. Refute it at one input. -/
def mgrPlaysWrong : ChangeSpec := { name := "mgrPlays", fn := fun _ => fun
  | [d1, d2, d3] => { results := [.lit (.bool false)], args := [d1, d2, d3] }
  | _ => none }
def MgrPlaysWrongFalsely : Prop := mgrPlaysRow.holds Tryz.pinned (OpenSpec.ofChange mgrPlaysWrong)

/-- 'farrierlaw16.MgrRetries': WHATEVER THE INPUT: true; the input reads as it did. -/
def mgrRetriesSpec : ChangeSpec := { name := "mgrRetries", fn := fun _ => fun
  | [d1, d2] => { results := [.lit (.bool true)], args := [d1, d2] }
  | _ => none }
def mgrRetriesRow : OpenClaim := { program := "ytefpllpichhojaagreatdoor", sum := "0fad0fd1f0ffd598279df1ae1da75f189c24933eeb155e2e5f8ba2614eca2489", func := "farrier/farrierlaw16.MgrRetries", spec := "mgrRetries", inPlace := ["maps.clone", "internal/bytealg.CountString", "internal/bytealg.IndexByteString", "internal/bytealg.IndexString", "internal/abi.NoEscape", "internal/bytealg.MakeNoZero"], unfollowed := true, recurses := true, named := ["unicode/utf8.first", "unicode/utf8.acceptRanges", "internal/bytealg.MaxLen"], apart := false, laid := [("unicode/utf8.acceptRanges", laid_unicode_utf8_acceptRanges), ("unicode/utf8.first", laid_unicode_utf8_first)] }
def MgrRetriesSaid : Prop := mgrRetriesRow.holds Tryz.pinned (OpenSpec.ofChange mgrRetriesSpec)

/-- ITS FALSE NEIGHBOUR: 'it returns false'. Refute it at one input. -/
def mgrRetriesWrong : ChangeSpec := { name := "mgrRetries", fn := fun _ => fun
  | [d1, d2] => { results := [.lit (.bool false)], args := [d1, d2] }
  | _ => none }
def MgrRetriesWrongFalsely : Prop := mgrRetriesRow.holds Tryz.pinned (OpenSpec.ofChange mgrRetriesWrong)

/-- 'farrierlaw16.MgrLoses': WHATEVER THE INPUT: true; the input reads as it did. -/
def mgrLosesSpec : ChangeSpec := { name := "mgrLoses", fn := fun _ => fun
  | [d1, d2] => { results := [.lit (.bool true)], args := [d1, d2] }
  | _ => none }
def mgrLosesRow : OpenClaim := { program := "ytefpllpichhojaagreatdoor", sum := "0fad0fd1f0ffd598279df1ae1da75f189c24933eeb155e2e5f8ba2614eca2489", func := "farrier/farrierlaw16.MgrLoses", spec := "mgrLoses", inPlace := ["maps.clone", "internal/bytealg.CountString", "internal/bytealg.IndexByteString", "internal/bytealg.IndexString", "internal/abi.NoEscape", "internal/bytealg.MakeNoZero"], unfollowed := true, recurses := true, named := ["unicode/utf8.first", "unicode/utf8.acceptRanges", "internal/bytealg.MaxLen"], apart := false, laid := [("unicode/utf8.acceptRanges", laid_unicode_utf8_acceptRanges), ("unicode/utf8.first", laid_unicode_utf8_first)] }
def MgrLosesSaid : Prop := mgrLosesRow.holds Tryz.pinned (OpenSpec.ofChange mgrLosesSpec)

/-- ITS FALSE NEIGHBOUR: 'it returns false'. Refute it at one input. -/
def mgrLosesWrong : ChangeSpec := { name := "mgrLoses", fn := fun _ => fun
  | [d1, d2] => { results := [.lit (.bool false)], args := [d1, d2] }
  | _ => none }
def MgrLosesWrongFalsely : Prop := mgrLosesRow.holds Tryz.pinned (OpenSpec.ofChange mgrLosesWrong)

/-- 'farrierlaw07.VolLong': WHATEVER THE INPUT: true; the input reads as it did. -/
def volLongSpec : ChangeSpec := { name := "volLong", fn := fun _ => fun
  | [d1, d2] => { results := [.lit (.bool true)], args := [d1, d2] }
  | _ => none }
def volLongRow : OpenClaim := { program := "ytefpllpichhojaagreatdoor", sum := "0fad0fd1f0ffd598279df1ae1da75f189c24933eeb155e2e5f8ba2614eca2489", func := "farrier/farrierlaw07.VolLong", spec := "volLong", inPlace := ["maps.clone", "internal/bytealg.CountString", "internal/bytealg.IndexByteString", "internal/bytealg.IndexString", "internal/abi.NoEscape", "internal/bytealg.MakeNoZero"], unfollowed := true, recurses := true, named := ["unicode/utf8.first", "unicode/utf8.acceptRanges", "internal/bytealg.MaxLen"], apart := false, laid := [("unicode/utf8.acceptRanges", laid_unicode_utf8_acceptRanges), ("unicode/utf8.first", laid_unicode_utf8_first)] }
def VolLongSaid : Prop := volLongRow.holds Tryz.pinned (OpenSpec.ofChange volLongSpec)

/-- ITS FALSE NEIGHBOUR: 'it returns false'. Refute it at one input. -/
def volLongWrong : ChangeSpec := { name := "volLong", fn := fun _ => fun
  | [d1, d2] => { results := [.lit (.bool false)], args := [d1, d2] }
  | _ => none }
def VolLongWrongFalsely : Prop := volLongRow.holds Tryz.pinned (OpenSpec.ofChange volLongWrong)

/- THE SECOND FORM. 'bulk': how many values and letters a reading holds, each counted each time it is reached (what is shared counts as often as it is met; a slice's spare places count too). A statement '..UptoSaid' is the law's where the arguments, and the package variables that the reading takes, are together of bulk at most 1048576: NARROWER than '..Said'. Prove '..Said' where nothing that the law and all that it calls make is longer than what came in: it says more and counts as full. Else prove '..UptoSaid'. A law counts once. -/
mutual
def uptoBulk {H : Type} : DataW H → Nat
  | .lit (.string bytes) => bytes.length + 1
  | .lit _ => 1
  | .nil => 1
  | .ptr d => uptoBulk d + 1
  | .slice elems spare => uptoBulkAll elems + uptoBulkAll spare + 1
  | .agg parts => uptoBulkAll parts + 1
  | .iface _ d => uptoBulk d + 1
  | .map entries => uptoBulkEntries entries + 1
  | .held _ => 1
def uptoBulkAll {H : Type} : List (DataW H) → Nat
  | [] => 0
  | d :: r => uptoBulk d + uptoBulkAll r
def uptoBulkEntries {H : Type} : List (Lit × DataW H) → Nat
  | [] => 0
  | x :: r => uptoBulkEntry x + uptoBulkEntries r
def uptoBulkEntry {H : Type} : Lit × DataW H → Nat
  | (.string bytes, d) => bytes.length + uptoBulk d + 1
  | (_, d) => uptoBulk d + 1
 end
def uptoSmall : (H : Type) → List (DataW H) → Bool := fun _ ds => decide (uptoBulkAll ds ≤ 1048576)
def OpenSpec.upto (s : _root_.Go.ChangeSpec) : _root_.Go.OpenSpec := { _root_.Go.OpenSpec.ofChange s with cond := some uptoSmall }

/-- 'farrierlaw08.ProcPlays', WHERE WHAT IT READS IS OF BULK AT MOST 1048576: true; the input reads as it did. -/
def procPlaysUptoRow : OpenClaim := { program := "ytefpllpichhojaagreatdoor", sum := "0fad0fd1f0ffd598279df1ae1da75f189c24933eeb155e2e5f8ba2614eca2489", func := "farrier/farrierlaw08.ProcPlays", spec := "procPlays", inPlace := ["maps.clone", "internal/bytealg.CountString", "internal/bytealg.IndexByteString", "internal/bytealg.IndexString", "internal/abi.NoEscape", "internal/bytealg.MakeNoZero"], unfollowed := true, recurses := true, named := ["unicode/utf8.first", "unicode/utf8.acceptRanges", "internal/bytealg.MaxLen"], apart := false, laid := [("unicode/utf8.acceptRanges", laid_unicode_utf8_acceptRanges), ("unicode/utf8.first", laid_unicode_utf8_first)], narrowed := true }
def ProcPlaysUptoSaid : Prop := procPlaysUptoRow.holds Tryz.pinned (OpenSpec.upto procPlaysSpec)

/-- 'farrierlaw17.NeedNone', WHERE WHAT IT READS IS OF BULK AT MOST 1048576: true; the input reads as it did. -/
def needNoneUptoRow : OpenClaim := { program := "ytefpllpichhojaagreatdoor", sum := "0fad0fd1f0ffd598279df1ae1da75f189c24933eeb155e2e5f8ba2614eca2489", func := "farrier/farrierlaw17.NeedNone", spec := "needNone", inPlace := ["maps.clone", "internal/bytealg.CountString", "internal/bytealg.IndexByteString", "internal/bytealg.IndexString", "internal/abi.NoEscape", "internal/bytealg.MakeNoZero"], unfollowed := true, recurses := true, named := ["unicode/utf8.first", "unicode/utf8.acceptRanges", "internal/bytealg.MaxLen"], apart := false, laid := [("unicode/utf8.acceptRanges", laid_unicode_utf8_acceptRanges), ("unicode/utf8.first", laid_unicode_utf8_first)], narrowed := true }
def NeedNoneUptoSaid : Prop := needNoneUptoRow.holds Tryz.pinned (OpenSpec.upto needNoneSpec)

/-- 'farrierlaw17.NeedHits', WHERE WHAT IT READS IS OF BULK AT MOST 1048576: true; the input reads as it did. -/
def needHitsUptoRow : OpenClaim := { program := "ytefpllpichhojaagreatdoor", sum := "0fad0fd1f0ffd598279df1ae1da75f189c24933eeb155e2e5f8ba2614eca2489", func := "farrier/farrierlaw17.NeedHits", spec := "needHits", inPlace := ["maps.clone", "internal/bytealg.CountString", "internal/bytealg.IndexByteString", "internal/bytealg.IndexString", "internal/abi.NoEscape", "internal/bytealg.MakeNoZero"], unfollowed := true, recurses := true, named := ["unicode/utf8.first", "unicode/utf8.acceptRanges", "internal/bytealg.MaxLen"], apart := false, laid := [("unicode/utf8.acceptRanges", laid_unicode_utf8_acceptRanges), ("unicode/utf8.first", laid_unicode_utf8_first)], narrowed := true }
def NeedHitsUptoSaid : Prop := needHitsUptoRow.holds Tryz.pinned (OpenSpec.upto needHitsSpec)

/-- 'farrierlaw16.MgrPlays', WHERE WHAT IT READS IS OF BULK AT MOST 1048576: true; the input reads as it did. -/
def mgrPlaysUptoRow : OpenClaim := { program := "ytefpllpichhojaagreatdoor", sum := "0fad0fd1f0ffd598279df1ae1da75f189c24933eeb155e2e5f8ba2614eca2489", func := "farrier/farrierlaw16.MgrPlays", spec := "mgrPlays", inPlace := ["maps.clone", "internal/bytealg.CountString", "internal/bytealg.IndexByteString", "internal/bytealg.IndexString", "internal/abi.NoEscape", "internal/bytealg.MakeNoZero"], unfollowed := true, recurses := true, named := ["unicode/utf8.first", "unicode/utf8.acceptRanges", "internal/bytealg.MaxLen"], apart := false, laid := [("unicode/utf8.acceptRanges", laid_unicode_utf8_acceptRanges), ("unicode/utf8.first", laid_unicode_utf8_first)], narrowed := true }
def MgrPlaysUptoSaid : Prop := mgrPlaysUptoRow.holds Tryz.pinned (OpenSpec.upto mgrPlaysSpec)

/-- 'farrierlaw16.MgrRetries', WHERE WHAT IT READS IS OF BULK AT MOST 1048576: true; the input reads as it did. -/
def mgrRetriesUptoRow : OpenClaim := { program := "ytefpllpichhojaagreatdoor", sum := "0fad0fd1f0ffd598279df1ae1da75f189c24933eeb155e2e5f8ba2614eca2489", func := "farrier/farrierlaw16.MgrRetries", spec := "mgrRetries", inPlace := ["maps.clone", "internal/bytealg.CountString", "internal/bytealg.IndexByteString", "internal/bytealg.IndexString", "internal/abi.NoEscape", "internal/bytealg.MakeNoZero"], unfollowed := true, recurses := true, named := ["unicode/utf8.first", "unicode/utf8.acceptRanges", "internal/bytealg.MaxLen"], apart := false, laid := [("unicode/utf8.acceptRanges", laid_unicode_utf8_acceptRanges), ("unicode/utf8.first", laid_unicode_utf8_first)], narrowed := true }
def MgrRetriesUptoSaid : Prop := mgrRetriesUptoRow.holds Tryz.pinned (OpenSpec.upto mgrRetriesSpec)

/-- 'farrierlaw16.MgrLoses', WHERE WHAT IT READS IS OF BULK AT MOST 1048576: true; the input reads as it did. -/
def mgrLosesUptoRow : OpenClaim := { program := "ytefpllpichhojaagreatdoor", sum := "0fad0fd1f0ffd598279df1ae1da75f189c24933eeb155e2e5f8ba2614eca2489", func := "farrier/farrierlaw16.MgrLoses", spec := "mgrLoses", inPlace := ["maps.clone", "internal/bytealg.CountString", "internal/bytealg.IndexByteString", "internal/bytealg.IndexString", "internal/abi.NoEscape", "internal/bytealg.MakeNoZero"], unfollowed := true, recurses := true, named := ["unicode/utf8.first", "unicode/utf8.acceptRanges", "internal/bytealg.MaxLen"], apart := false, laid := [("unicode/utf8.acceptRanges", laid_unicode_utf8_acceptRanges), ("unicode/utf8.first", laid_unicode_utf8_first)], narrowed := true }
def MgrLosesUptoSaid : Prop := mgrLosesUptoRow.holds Tryz.pinned (OpenSpec.upto mgrLosesSpec)

/-- 'farrierlaw07.VolLong', WHERE WHAT IT READS IS OF BULK AT MOST 1048576: true; the input reads as it did. -/
def volLongUptoRow : OpenClaim := { program := "ytefpllpichhojaagreatdoor", sum := "0fad0fd1f0ffd598279df1ae1da75f189c24933eeb155e2e5f8ba2614eca2489", func := "farrier/farrierlaw07.VolLong", spec := "volLong", inPlace := ["maps.clone", "internal/bytealg.CountString", "internal/bytealg.IndexByteString", "internal/bytealg.IndexString", "internal/abi.NoEscape", "internal/bytealg.MakeNoZero"], unfollowed := true, recurses := true, named := ["unicode/utf8.first", "unicode/utf8.acceptRanges", "internal/bytealg.MaxLen"], apart := false, laid := [("unicode/utf8.acceptRanges", laid_unicode_utf8_acceptRanges), ("unicode/utf8.first", laid_unicode_utf8_first)], narrowed := true }
def VolLongUptoSaid : Prop := volLongUptoRow.holds Tryz.pinned (OpenSpec.upto volLongSpec)

end Rows
end Go.Proofs.YtefpllpichhojaaGreatDoor
