/-
  NARROWER THAN 'FOR EVERY INPUT', by the rows' own cells (each row's printed sentence says how): MvsExplains: loops, laid · MvsCauses: loops, laid · MvsSelects: loops, laid · MvsMerges: loops, laid · MvsMonotone: loops, laid · MvsSatisfies: loops, laid · MvsReduces: loops, laid · MvsLeast: loops, laid.
  DERIVED. THE GIVEN ROWS OF THIS SEAT. 8 by the template 'for every input the law returns true; each argument reads behind the call as it read before'; 0 by the template 'total and deterministic' (their statements: YtenfkejbndifdaaGreatDoorTotals.lean).
  GIVEN WITH THE SEED: the statements are not yours to turn. If you find one false, say at which input.
  Laid BY PROGRAM, IN A SANDBOX (cutbox-rows.mjs): the forced cells as the released guide's own fill.sh prints them over the translation ea3aacb4e3e5adc2… (all of the seat's roots in one cut). By AI agents, Wed Nov 11 2026. No macro, syntax, notation, axiom, sorry.
-/
import Derived.Test.YtenfkejbndifdaaGreatDoorChecked
import GoSem.PinnedTables
import GoSem.Claim
import GoSem.ClaimJoined
import GoSem.ClaimMapViews
import Derived.JoinedTies
import Derived.KernelRfl
namespace Go.Proofs.YtenfkejbndifdaaGreatDoor
/- THE CELL 'sum', in the pinned program and in every row, IS THE sha256 OF THE DUMP (.gsa) THAT YtenfkejbndifdaaGreatDoorProg.lean LOADS. Nothing in Lean hashes anything: it is a label: what it is worth is what the hold of that sum in a sandbox is worth. -/
noncomputable def Tryz.pinned : Pinned := { name := "ytenfkejbndifdaagreatdoor", sum := "ea3aacb4e3e5adc2d1f6966bbbb449cf0f435f76a8cabcd7a6e0d097babfbfe9", checked := Tryz.checked }
namespace Rows
def none {H : Type} : Left H := { results := [], args := [] }

/- WHAT THE LISTED PACKAGE-LEVEL VARIABLES READ AS WHEN THE CALL BEGINS. Each datum BY PROGRAM (the guide's laid-datum.mjs) off the statement by which the dump's own 'gosem.cut.vars' lays the variable. In a bare row this is a premise. The card (YtenfkejbndifdaaGreatDoorCards.lean) ties it to the program's text. -/
def laid_unicode_utf8_acceptRanges {H : Type} : DataW H := .agg [.agg [.lit (.int .u8 128), .lit (.int .u8 191)], .agg [.lit (.int .u8 160), .lit (.int .u8 191)], .agg [.lit (.int .u8 128), .lit (.int .u8 159)], .agg [.lit (.int .u8 144), .lit (.int .u8 191)], .agg [.lit (.int .u8 128), .lit (.int .u8 143)], .agg [.lit (.int .u8 0), .lit (.int .u8 0)], .agg [.lit (.int .u8 0), .lit (.int .u8 0)], .agg [.lit (.int .u8 0), .lit (.int .u8 0)], .agg [.lit (.int .u8 0), .lit (.int .u8 0)], .agg [.lit (.int .u8 0), .lit (.int .u8 0)], .agg [.lit (.int .u8 0), .lit (.int .u8 0)], .agg [.lit (.int .u8 0), .lit (.int .u8 0)], .agg [.lit (.int .u8 0), .lit (.int .u8 0)], .agg [.lit (.int .u8 0), .lit (.int .u8 0)], .agg [.lit (.int .u8 0), .lit (.int .u8 0)], .agg [.lit (.int .u8 0), .lit (.int .u8 0)]]
/-- One of Go's own tables, pinned by name: the form's constant. -/
def laid_unicode_utf8_first : DataW Unit := Go.Pinned.utf8First

/-- 'modcertlaw34.MvsExplains': WHATEVER THE INPUT: true; the input reads as it did. -/
def mvsExplainsSpec : ChangeSpec := { name := "mvsExplains", fn := fun _ => fun
  | [d1, d2, d3, d4] => { results := [.lit (.bool true)], args := [d1, d2, d3, d4] }
  | _ => none }
def mvsExplainsRow : OpenClaim := { program := "ytenfkejbndifdaagreatdoor", sum := "ea3aacb4e3e5adc2d1f6966bbbb449cf0f435f76a8cabcd7a6e0d097babfbfe9", func := "modcert/modcertlaw34.MvsExplains", spec := "mvsExplains", inPlace := ["internal/bytealg.CountString", "internal/bytealg.IndexByteString", "internal/bytealg.IndexString"], unfollowed := true, recurses := true, named := ["unicode/utf8.first", "unicode/utf8.acceptRanges", "internal/bytealg.MaxLen"], loops := true, plainKeys := false, apart := false, laid := [("unicode/utf8.acceptRanges", laid_unicode_utf8_acceptRanges), ("unicode/utf8.first", laid_unicode_utf8_first)] }
def MvsExplainsSaid : Prop := mvsExplainsRow.holds Tryz.pinned (OpenSpec.ofChange mvsExplainsSpec)

/-- ITS FALSE NEIGHBOUR: 'it returns false'. Refute it at one input. -/
def mvsExplainsWrong : ChangeSpec := { name := "mvsExplains", fn := fun _ => fun
  | [d1, d2, d3, d4] => { results := [.lit (.bool false)], args := [d1, d2, d3, d4] }
  | _ => none }
def MvsExplainsWrongFalsely : Prop := mvsExplainsRow.holds Tryz.pinned (OpenSpec.ofChange mvsExplainsWrong)

/-- 'modcertlaw34.MvsCauses': WHATEVER THE INPUT: true; the input reads as it did. -/
def mvsCausesSpec : ChangeSpec := { name := "mvsCauses", fn := fun _ => fun
  | [d1, d2] => { results := [.lit (.bool true)], args := [d1, d2] }
  | _ => none }
def mvsCausesRow : OpenClaim := { program := "ytenfkejbndifdaagreatdoor", sum := "ea3aacb4e3e5adc2d1f6966bbbb449cf0f435f76a8cabcd7a6e0d097babfbfe9", func := "modcert/modcertlaw34.MvsCauses", spec := "mvsCauses", inPlace := ["internal/bytealg.CountString", "internal/bytealg.IndexByteString", "internal/bytealg.IndexString"], unfollowed := true, recurses := true, named := ["unicode/utf8.first", "unicode/utf8.acceptRanges", "internal/bytealg.MaxLen"], loops := true, plainKeys := false, apart := false, laid := [("unicode/utf8.acceptRanges", laid_unicode_utf8_acceptRanges), ("unicode/utf8.first", laid_unicode_utf8_first)] }
def MvsCausesSaid : Prop := mvsCausesRow.holds Tryz.pinned (OpenSpec.ofChange mvsCausesSpec)

/-- ITS FALSE NEIGHBOUR: 'it returns false'. Refute it at one input. -/
def mvsCausesWrong : ChangeSpec := { name := "mvsCauses", fn := fun _ => fun
  | [d1, d2] => { results := [.lit (.bool false)], args := [d1, d2] }
  | _ => none }
def MvsCausesWrongFalsely : Prop := mvsCausesRow.holds Tryz.pinned (OpenSpec.ofChange mvsCausesWrong)

/-- 'modcertlaw34.MvsSelects': WHATEVER THE INPUT: true; the input reads as it did. -/
def mvsSelectsSpec : ChangeSpec := { name := "mvsSelects", fn := fun _ => fun
  | [d1, d2] => { results := [.lit (.bool true)], args := [d1, d2] }
  | _ => none }
def mvsSelectsRow : OpenClaim := { program := "ytenfkejbndifdaagreatdoor", sum := "ea3aacb4e3e5adc2d1f6966bbbb449cf0f435f76a8cabcd7a6e0d097babfbfe9", func := "modcert/modcertlaw34.MvsSelects", spec := "mvsSelects", inPlace := ["internal/bytealg.CountString", "internal/bytealg.IndexByteString", "internal/bytealg.IndexString"], unfollowed := true, recurses := true, named := ["unicode/utf8.first", "unicode/utf8.acceptRanges", "internal/bytealg.MaxLen"], loops := true, plainKeys := false, apart := false, laid := [("unicode/utf8.acceptRanges", laid_unicode_utf8_acceptRanges), ("unicode/utf8.first", laid_unicode_utf8_first)] }
def MvsSelectsSaid : Prop := mvsSelectsRow.holds Tryz.pinned (OpenSpec.ofChange mvsSelectsSpec)

/-- ITS FALSE NEIGHBOUR: 'it returns false'. Refute it at one input. -/
def mvsSelectsWrong : ChangeSpec := { name := "mvsSelects", fn := fun _ => fun
  | [d1, d2] => { results := [.lit (.bool false)], args := [d1, d2] }
  | _ => none }
def MvsSelectsWrongFalsely : Prop := mvsSelectsRow.holds Tryz.pinned (OpenSpec.ofChange mvsSelectsWrong)

/-- 'modcertlaw34.MvsMerges': WHATEVER THE INPUT: true; the input reads as it did. -/
def mvsMergesSpec : ChangeSpec := { name := "mvsMerges", fn := fun _ => fun
  | [d1, d2, d3] => { results := [.lit (.bool true)], args := [d1, d2, d3] }
  | _ => none }
def mvsMergesRow : OpenClaim := { program := "ytenfkejbndifdaagreatdoor", sum := "ea3aacb4e3e5adc2d1f6966bbbb449cf0f435f76a8cabcd7a6e0d097babfbfe9", func := "modcert/modcertlaw34.MvsMerges", spec := "mvsMerges", inPlace := ["internal/bytealg.CountString", "internal/bytealg.IndexByteString", "internal/bytealg.IndexString"], unfollowed := true, recurses := true, named := ["unicode/utf8.first", "unicode/utf8.acceptRanges", "internal/bytealg.MaxLen"], loops := true, plainKeys := false, apart := false, laid := [("unicode/utf8.acceptRanges", laid_unicode_utf8_acceptRanges), ("unicode/utf8.first", laid_unicode_utf8_first)] }
def MvsMergesSaid : Prop := mvsMergesRow.holds Tryz.pinned (OpenSpec.ofChange mvsMergesSpec)

/-- ITS FALSE NEIGHBOUR: 'it returns false'. Refute it at one input. -/
def mvsMergesWrong : ChangeSpec := { name := "mvsMerges", fn := fun _ => fun
  | [d1, d2, d3] => { results := [.lit (.bool false)], args := [d1, d2, d3] }
  | _ => none }
def MvsMergesWrongFalsely : Prop := mvsMergesRow.holds Tryz.pinned (OpenSpec.ofChange mvsMergesWrong)

/-- 'modcertlaw34.MvsMonotone': WHATEVER THE INPUT: true; the input reads as it did. -/
def mvsMonotoneSpec : ChangeSpec := { name := "mvsMonotone", fn := fun _ => fun
  | [d1, d2, d3] => { results := [.lit (.bool true)], args := [d1, d2, d3] }
  | _ => none }
def mvsMonotoneRow : OpenClaim := { program := "ytenfkejbndifdaagreatdoor", sum := "ea3aacb4e3e5adc2d1f6966bbbb449cf0f435f76a8cabcd7a6e0d097babfbfe9", func := "modcert/modcertlaw34.MvsMonotone", spec := "mvsMonotone", inPlace := ["internal/bytealg.CountString", "internal/bytealg.IndexByteString", "internal/bytealg.IndexString"], unfollowed := true, recurses := true, named := ["unicode/utf8.first", "unicode/utf8.acceptRanges", "internal/bytealg.MaxLen"], loops := true, plainKeys := false, apart := false, laid := [("unicode/utf8.acceptRanges", laid_unicode_utf8_acceptRanges), ("unicode/utf8.first", laid_unicode_utf8_first)] }
def MvsMonotoneSaid : Prop := mvsMonotoneRow.holds Tryz.pinned (OpenSpec.ofChange mvsMonotoneSpec)

/-- ITS FALSE NEIGHBOUR: 'it returns false'. Refute it at one input. -/
def mvsMonotoneWrong : ChangeSpec := { name := "mvsMonotone", fn := fun _ => fun
  | [d1, d2, d3] => { results := [.lit (.bool false)], args := [d1, d2, d3] }
  | _ => none }
def MvsMonotoneWrongFalsely : Prop := mvsMonotoneRow.holds Tryz.pinned (OpenSpec.ofChange mvsMonotoneWrong)

/-- 'modcertlaw34.MvsSatisfies': WHATEVER THE INPUT: true; the input reads as it did. -/
def mvsSatisfiesSpec : ChangeSpec := { name := "mvsSatisfies", fn := fun _ => fun
  | [d1, d2] => { results := [.lit (.bool true)], args := [d1, d2] }
  | _ => none }
def mvsSatisfiesRow : OpenClaim := { program := "ytenfkejbndifdaagreatdoor", sum := "ea3aacb4e3e5adc2d1f6966bbbb449cf0f435f76a8cabcd7a6e0d097babfbfe9", func := "modcert/modcertlaw34.MvsSatisfies", spec := "mvsSatisfies", inPlace := ["internal/bytealg.CountString", "internal/bytealg.IndexByteString", "internal/bytealg.IndexString"], unfollowed := true, recurses := true, named := ["unicode/utf8.first", "unicode/utf8.acceptRanges", "internal/bytealg.MaxLen"], loops := true, plainKeys := false, apart := false, laid := [("unicode/utf8.acceptRanges", laid_unicode_utf8_acceptRanges), ("unicode/utf8.first", laid_unicode_utf8_first)] }
def MvsSatisfiesSaid : Prop := mvsSatisfiesRow.holds Tryz.pinned (OpenSpec.ofChange mvsSatisfiesSpec)

/-- ITS FALSE NEIGHBOUR: 'it returns false'. Refute it at one input. -/
def mvsSatisfiesWrong : ChangeSpec := { name := "mvsSatisfies", fn := fun _ => fun
  | [d1, d2] => { results := [.lit (.bool false)], args := [d1, d2] }
  | _ => none }
def MvsSatisfiesWrongFalsely : Prop := mvsSatisfiesRow.holds Tryz.pinned (OpenSpec.ofChange mvsSatisfiesWrong)

/-- 'modcertlaw34.MvsReduces': WHATEVER THE INPUT: true; the input reads as it did. -/
def mvsReducesSpec : ChangeSpec := { name := "mvsReduces", fn := fun _ => fun
  | [d1, d2] => { results := [.lit (.bool true)], args := [d1, d2] }
  | _ => none }
def mvsReducesRow : OpenClaim := { program := "ytenfkejbndifdaagreatdoor", sum := "ea3aacb4e3e5adc2d1f6966bbbb449cf0f435f76a8cabcd7a6e0d097babfbfe9", func := "modcert/modcertlaw34.MvsReduces", spec := "mvsReduces", inPlace := ["internal/bytealg.CountString", "internal/bytealg.IndexByteString", "internal/bytealg.IndexString"], unfollowed := true, recurses := true, named := ["unicode/utf8.first", "unicode/utf8.acceptRanges", "internal/bytealg.MaxLen"], loops := true, plainKeys := false, apart := false, laid := [("unicode/utf8.acceptRanges", laid_unicode_utf8_acceptRanges), ("unicode/utf8.first", laid_unicode_utf8_first)] }
def MvsReducesSaid : Prop := mvsReducesRow.holds Tryz.pinned (OpenSpec.ofChange mvsReducesSpec)

/-- ITS FALSE NEIGHBOUR: 'it returns false'. Refute it at one input. -/
def mvsReducesWrong : ChangeSpec := { name := "mvsReduces", fn := fun _ => fun
  | [d1, d2] => { results := [.lit (.bool false)], args := [d1, d2] }
  | _ => none }
def MvsReducesWrongFalsely : Prop := mvsReducesRow.holds Tryz.pinned (OpenSpec.ofChange mvsReducesWrong)

/-- 'modcertlaw34.MvsLeast': WHATEVER THE INPUT: true; the input reads as it did. -/
def mvsLeastSpec : ChangeSpec := { name := "mvsLeast", fn := fun _ => fun
  | [d1, d2, d3] => { results := [.lit (.bool true)], args := [d1, d2, d3] }
  | _ => none }
def mvsLeastRow : OpenClaim := { program := "ytenfkejbndifdaagreatdoor", sum := "ea3aacb4e3e5adc2d1f6966bbbb449cf0f435f76a8cabcd7a6e0d097babfbfe9", func := "modcert/modcertlaw34.MvsLeast", spec := "mvsLeast", inPlace := ["internal/bytealg.CountString", "internal/bytealg.IndexByteString", "internal/bytealg.IndexString"], unfollowed := true, recurses := true, named := ["unicode/utf8.first", "unicode/utf8.acceptRanges", "internal/bytealg.MaxLen"], loops := true, plainKeys := false, apart := false, laid := [("unicode/utf8.acceptRanges", laid_unicode_utf8_acceptRanges), ("unicode/utf8.first", laid_unicode_utf8_first)] }
def MvsLeastSaid : Prop := mvsLeastRow.holds Tryz.pinned (OpenSpec.ofChange mvsLeastSpec)

/-- ITS FALSE NEIGHBOUR: 'it returns false'. Refute it at one input. -/
def mvsLeastWrong : ChangeSpec := { name := "mvsLeast", fn := fun _ => fun
  | [d1, d2, d3] => { results := [.lit (.bool false)], args := [d1, d2, d3] }
  | _ => none }
def MvsLeastWrongFalsely : Prop := mvsLeastRow.holds Tryz.pinned (OpenSpec.ofChange mvsLeastWrong)

/- THE SECOND FORM. 'bulk': how many values and letters a reading holds, each counted each time it is reached (what is shared counts as often as it is met; a slice's spare places count too). A statement '..UptoSaid' is the law's where the arguments, and the package variables that the reading takes, are together of bulk at most 1048576: NARROWER than '..Said'. Prove '..Said' where nothing that the law and all that it calls make is longer than what came in: it says more and counts as full. Else prove '..UptoSaid'. A law counts once. -/
mutual
def uptoBulk {H : Type} : DataW H → Nat
  | .lit (.string bytes) => bytes.length + 1
  | .lit _ => 1
  | .nil => 1
  | .ptr d => uptoBulk d + 1
  | .slice elems spare => uptoBulkAll elems + uptoBulkAll spare + 1
  | .agg parts => uptoBulkAll parts + 1
  | .iface _ d => uptoBulk d + 1
  | .map entries => uptoBulkEntries entries + 1
  | .held _ => 1
def uptoBulkAll {H : Type} : List (DataW H) → Nat
  | [] => 0
  | d :: r => uptoBulk d + uptoBulkAll r
def uptoBulkEntries {H : Type} : List (Lit × DataW H) → Nat
  | [] => 0
  | x :: r => uptoBulkEntry x + uptoBulkEntries r
def uptoBulkEntry {H : Type} : Lit × DataW H → Nat
  | (.string bytes, d) => bytes.length + uptoBulk d + 1
  | (_, d) => uptoBulk d + 1
 end
def uptoSmall : (H : Type) → List (DataW H) → Bool := fun _ ds => decide (uptoBulkAll ds ≤ 1048576)
def OpenSpec.upto (s : _root_.Go.ChangeSpec) : _root_.Go.OpenSpec := { _root_.Go.OpenSpec.ofChange s with cond := some uptoSmall }

/-- 'modcertlaw34.MvsExplains', WHERE WHAT IT READS IS OF BULK AT MOST 1048576: true; the input reads as it did. -/
def mvsExplainsUptoRow : OpenClaim := { program := "ytenfkejbndifdaagreatdoor", sum := "ea3aacb4e3e5adc2d1f6966bbbb449cf0f435f76a8cabcd7a6e0d097babfbfe9", func := "modcert/modcertlaw34.MvsExplains", spec := "mvsExplains", inPlace := ["internal/bytealg.CountString", "internal/bytealg.IndexByteString", "internal/bytealg.IndexString"], unfollowed := true, recurses := true, named := ["unicode/utf8.first", "unicode/utf8.acceptRanges", "internal/bytealg.MaxLen"], loops := true, plainKeys := false, apart := false, laid := [("unicode/utf8.acceptRanges", laid_unicode_utf8_acceptRanges), ("unicode/utf8.first", laid_unicode_utf8_first)], narrowed := true }
def MvsExplainsUptoSaid : Prop := mvsExplainsUptoRow.holds Tryz.pinned (OpenSpec.upto mvsExplainsSpec)

/-- 'modcertlaw34.MvsCauses', WHERE WHAT IT READS IS OF BULK AT MOST 1048576: true; the input reads as it did. -/
def mvsCausesUptoRow : OpenClaim := { program := "ytenfkejbndifdaagreatdoor", sum := "ea3aacb4e3e5adc2d1f6966bbbb449cf0f435f76a8cabcd7a6e0d097babfbfe9", func := "modcert/modcertlaw34.MvsCauses", spec := "mvsCauses", inPlace := ["internal/bytealg.CountString", "internal/bytealg.IndexByteString", "internal/bytealg.IndexString"], unfollowed := true, recurses := true, named := ["unicode/utf8.first", "unicode/utf8.acceptRanges", "internal/bytealg.MaxLen"], loops := true, plainKeys := false, apart := false, laid := [("unicode/utf8.acceptRanges", laid_unicode_utf8_acceptRanges), ("unicode/utf8.first", laid_unicode_utf8_first)], narrowed := true }
def MvsCausesUptoSaid : Prop := mvsCausesUptoRow.holds Tryz.pinned (OpenSpec.upto mvsCausesSpec)

/-- 'modcertlaw34.MvsSelects', WHERE WHAT IT READS IS OF BULK AT MOST 1048576: true; the input reads as it did. -/
def mvsSelectsUptoRow : OpenClaim := { program := "ytenfkejbndifdaagreatdoor", sum := "ea3aacb4e3e5adc2d1f6966bbbb449cf0f435f76a8cabcd7a6e0d097babfbfe9", func := "modcert/modcertlaw34.MvsSelects", spec := "mvsSelects", inPlace := ["internal/bytealg.CountString", "internal/bytealg.IndexByteString", "internal/bytealg.IndexString"], unfollowed := true, recurses := true, named := ["unicode/utf8.first", "unicode/utf8.acceptRanges", "internal/bytealg.MaxLen"], loops := true, plainKeys := false, apart := false, laid := [("unicode/utf8.acceptRanges", laid_unicode_utf8_acceptRanges), ("unicode/utf8.first", laid_unicode_utf8_first)], narrowed := true }
def MvsSelectsUptoSaid : Prop := mvsSelectsUptoRow.holds Tryz.pinned (OpenSpec.upto mvsSelectsSpec)

/-- 'modcertlaw34.MvsMerges', WHERE WHAT IT READS IS OF BULK AT MOST 1048576: true; the input reads as it did. -/
def mvsMergesUptoRow : OpenClaim := { program := "ytenfkejbndifdaagreatdoor", sum := "ea3aacb4e3e5adc2d1f6966bbbb449cf0f435f76a8cabcd7a6e0d097babfbfe9", func := "modcert/modcertlaw34.MvsMerges", spec := "mvsMerges", inPlace := ["internal/bytealg.CountString", "internal/bytealg.IndexByteString", "internal/bytealg.IndexString"], unfollowed := true, recurses := true, named := ["unicode/utf8.first", "unicode/utf8.acceptRanges", "internal/bytealg.MaxLen"], loops := true, plainKeys := false, apart := false, laid := [("unicode/utf8.acceptRanges", laid_unicode_utf8_acceptRanges), ("unicode/utf8.first", laid_unicode_utf8_first)], narrowed := true }
def MvsMergesUptoSaid : Prop := mvsMergesUptoRow.holds Tryz.pinned (OpenSpec.upto mvsMergesSpec)

/-- 'modcertlaw34.MvsMonotone', WHERE WHAT IT READS IS OF BULK AT MOST 1048576: true; the input reads as it did. -/
def mvsMonotoneUptoRow : OpenClaim := { program := "ytenfkejbndifdaagreatdoor", sum := "ea3aacb4e3e5adc2d1f6966bbbb449cf0f435f76a8cabcd7a6e0d097babfbfe9", func := "modcert/modcertlaw34.MvsMonotone", spec := "mvsMonotone", inPlace := ["internal/bytealg.CountString", "internal/bytealg.IndexByteString", "internal/bytealg.IndexString"], unfollowed := true, recurses := true, named := ["unicode/utf8.first", "unicode/utf8.acceptRanges", "internal/bytealg.MaxLen"], loops := true, plainKeys := false, apart := false, laid := [("unicode/utf8.acceptRanges", laid_unicode_utf8_acceptRanges), ("unicode/utf8.first", laid_unicode_utf8_first)], narrowed := true }
def MvsMonotoneUptoSaid : Prop := mvsMonotoneUptoRow.holds Tryz.pinned (OpenSpec.upto mvsMonotoneSpec)

/-- 'modcertlaw34.MvsSatisfies', WHERE WHAT IT READS IS OF BULK AT MOST 1048576: true; the input reads as it did. -/
def mvsSatisfiesUptoRow : OpenClaim := { program := "ytenfkejbndifdaagreatdoor", sum := "ea3aacb4e3e5adc2d1f6966bbbb449cf0f435f76a8cabcd7a6e0d097babfbfe9", func := "modcert/modcertlaw34.MvsSatisfies", spec := "mvsSatisfies", inPlace := ["internal/bytealg.CountString", "internal/bytealg.IndexByteString", "internal/bytealg.IndexString"], unfollowed := true, recurses := true, named := ["unicode/utf8.first", "unicode/utf8.acceptRanges", "internal/bytealg.MaxLen"], loops := true, plainKeys := false, apart := false, laid := [("unicode/utf8.acceptRanges", laid_unicode_utf8_acceptRanges), ("unicode/utf8.first", laid_unicode_utf8_first)], narrowed := true }
def MvsSatisfiesUptoSaid : Prop := mvsSatisfiesUptoRow.holds Tryz.pinned (OpenSpec.upto mvsSatisfiesSpec)

/-- 'modcertlaw34.MvsReduces', WHERE WHAT IT READS IS OF BULK AT MOST 1048576: true; the input reads as it did. -/
def mvsReducesUptoRow : OpenClaim := { program := "ytenfkejbndifdaagreatdoor", sum := "ea3aacb4e3e5adc2d1f6966bbbb449cf0f435f76a8cabcd7a6e0d097babfbfe9", func := "modcert/modcertlaw34.MvsReduces", spec := "mvsReduces", inPlace := ["internal/bytealg.CountString", "internal/bytealg.IndexByteString", "internal/bytealg.IndexString"], unfollowed := true, recurses := true, named := ["unicode/utf8.first", "unicode/utf8.acceptRanges", "internal/bytealg.MaxLen"], loops := true, plainKeys := false, apart := false, laid := [("unicode/utf8.acceptRanges", laid_unicode_utf8_acceptRanges), ("unicode/utf8.first", laid_unicode_utf8_first)], narrowed := true }
def MvsReducesUptoSaid : Prop := mvsReducesUptoRow.holds Tryz.pinned (OpenSpec.upto mvsReducesSpec)

/-- 'modcertlaw34.MvsLeast', WHERE WHAT IT READS IS OF BULK AT MOST 1048576: true; the input reads as it did. -/
def mvsLeastUptoRow : OpenClaim := { program := "ytenfkejbndifdaagreatdoor", sum := "ea3aacb4e3e5adc2d1f6966bbbb449cf0f435f76a8cabcd7a6e0d097babfbfe9", func := "modcert/modcertlaw34.MvsLeast", spec := "mvsLeast", inPlace := ["internal/bytealg.CountString", "internal/bytealg.IndexByteString", "internal/bytealg.IndexString"], unfollowed := true, recurses := true, named := ["unicode/utf8.first", "unicode/utf8.acceptRanges", "internal/bytealg.MaxLen"], loops := true, plainKeys := false, apart := false, laid := [("unicode/utf8.acceptRanges", laid_unicode_utf8_acceptRanges), ("unicode/utf8.first", laid_unicode_utf8_first)], narrowed := true }
def MvsLeastUptoSaid : Prop := mvsLeastUptoRow.holds Tryz.pinned (OpenSpec.upto mvsLeastSpec)

end Rows
end Go.Proofs.YtenfkejbndifdaaGreatDoor
