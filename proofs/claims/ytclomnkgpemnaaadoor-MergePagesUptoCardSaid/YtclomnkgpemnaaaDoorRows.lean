/-
  NARROWER THAN 'FOR EVERY INPUT', by the rows' own cells (each row's printed sentence says how): SeenAll: loops, laid · WalkOwn: loops, laid · BranchLooks: loops, laid · WalkLeads: loops, laid · WalkSteps: loops, laid · MergePages: laid · MergeOdd: laid · BranchNodes: loops, laid · MergeLists: loops, laid · BranchReads: loops, laid.
  DERIVED. THE GIVEN ROWS OF THIS SEAT. 10 by the template 'for every input the law returns true; each argument reads behind the call as it read before'; 0 by the template 'total and deterministic' (their statements: YtclomnkgpemnaaaDoorTotals.lean).
  GIVEN WITH THE SEED: the statements are not yours to turn. If you find one false, say at which input.
  Laid BY PROGRAM, IN A SANDBOX (cutbox-rows.mjs): the forced cells as the released guide's own fill.sh prints them over the translation cffd90fbf90f61f0… (all of the seat's roots in one cut). By AI agents, Wed Nov 11 2026. No macro, syntax, notation, axiom, sorry.
-/
import Derived.Test.YtclomnkgpemnaaaDoorChecked
import GoSem.PinnedTables
import GoSem.Claim
import GoSem.ClaimJoined
import GoSem.ClaimMapViews
import Derived.JoinedTies
import Derived.KernelRfl
namespace Go.Proofs.YtclomnkgpemnaaaDoor
/- THE CELL 'sum', in the pinned program and in every row, IS THE sha256 OF THE DUMP (.gsa) THAT YtclomnkgpemnaaaDoorProg.lean LOADS. Nothing in Lean hashes anything: it is a label: what it is worth is what the hold of that sum in a sandbox is worth. -/
noncomputable def Tryd.pinned : Pinned := { name := "ytclomnkgpemnaaadoor", sum := "cffd90fbf90f61f0b4713f97464e5312253f775317993249120eca9b3129d842", checked := Tryd.checked }
namespace Rows
def none {H : Type} : Left H := { results := [], args := [] }

/- WHAT THE LISTED PACKAGE-LEVEL VARIABLES READ AS WHEN THE CALL BEGINS. Each datum BY PROGRAM (the guide's laid-datum.mjs) off the statement by which the dump's own 'gosem.cut.vars' lays the variable. In a bare row this is a premise. The card (YtclomnkgpemnaaaDoorCards.lean) ties it to the program's text. -/
def laid_unicode_utf8_acceptRanges {H : Type} : DataW H := .agg [.agg [.lit (.int .u8 128), .lit (.int .u8 191)], .agg [.lit (.int .u8 160), .lit (.int .u8 191)], .agg [.lit (.int .u8 128), .lit (.int .u8 159)], .agg [.lit (.int .u8 144), .lit (.int .u8 191)], .agg [.lit (.int .u8 128), .lit (.int .u8 143)], .agg [.lit (.int .u8 0), .lit (.int .u8 0)], .agg [.lit (.int .u8 0), .lit (.int .u8 0)], .agg [.lit (.int .u8 0), .lit (.int .u8 0)], .agg [.lit (.int .u8 0), .lit (.int .u8 0)], .agg [.lit (.int .u8 0), .lit (.int .u8 0)], .agg [.lit (.int .u8 0), .lit (.int .u8 0)], .agg [.lit (.int .u8 0), .lit (.int .u8 0)], .agg [.lit (.int .u8 0), .lit (.int .u8 0)], .agg [.lit (.int .u8 0), .lit (.int .u8 0)], .agg [.lit (.int .u8 0), .lit (.int .u8 0)], .agg [.lit (.int .u8 0), .lit (.int .u8 0)]]
/-- One of Go's own tables, pinned by name: the form's constant. -/
def laid_unicode_utf8_first : DataW Unit := Go.Pinned.utf8First

/-- 'socagelaw08.SeenAll': WHATEVER THE INPUT: true; the input reads as it did. -/
def seenAllSpec : ChangeSpec := { name := "seenAll", fn := fun _ => fun
  | [d1, d2] => { results := [.lit (.bool true)], args := [d1, d2] }
  | _ => none }
def seenAllRow : OpenClaim := { program := "ytclomnkgpemnaaadoor", sum := "cffd90fbf90f61f0b4713f97464e5312253f775317993249120eca9b3129d842", func := "socage/socagelaw08.SeenAll", spec := "seenAll", inPlace := ["internal/bytealg.CountString", "internal/bytealg.IndexByteString", "internal/bytealg.IndexString"], recurses := true, named := ["unicode/utf8.first", "unicode/utf8.acceptRanges", "internal/bytealg.MaxLen"], loops := true, apart := false, laid := [("unicode/utf8.acceptRanges", laid_unicode_utf8_acceptRanges), ("unicode/utf8.first", laid_unicode_utf8_first)] }
def SeenAllSaid : Prop := seenAllRow.holds Tryd.pinned (OpenSpec.ofChange seenAllSpec)

/-- ITS FALSE NEIGHBOUR: 'it returns false'. Refute it at one input. -/
def seenAllWrong : ChangeSpec := { name := "seenAll", fn := fun _ => fun
  | [d1, d2] => { results := [.lit (.bool false)], args := [d1, d2] }
  | _ => none }
def SeenAllWrongFalsely : Prop := seenAllRow.holds Tryd.pinned (OpenSpec.ofChange seenAllWrong)

/-- 'socagelaw11.WalkOwn': WHATEVER THE INPUT: true; the input reads as it did. -/
def walkOwnSpec : ChangeSpec := { name := "walkOwn", fn := fun _ => fun
  | [d] => { results := [.lit (.bool true)], args := [d] }
  | _ => none }
def walkOwnRow : OpenClaim := { program := "ytclomnkgpemnaaadoor", sum := "cffd90fbf90f61f0b4713f97464e5312253f775317993249120eca9b3129d842", func := "socage/socagelaw11.WalkOwn", spec := "walkOwn", inPlace := ["internal/bytealg.CountString", "internal/bytealg.IndexByteString", "internal/bytealg.IndexString"], recurses := true, named := ["unicode/utf8.first", "unicode/utf8.acceptRanges", "internal/bytealg.MaxLen"], loops := true, apart := false, laid := [("unicode/utf8.acceptRanges", laid_unicode_utf8_acceptRanges), ("unicode/utf8.first", laid_unicode_utf8_first)] }
def WalkOwnSaid : Prop := walkOwnRow.holds Tryd.pinned (OpenSpec.ofChange walkOwnSpec)

/-- ITS FALSE NEIGHBOUR: 'it returns false'. Refute it at one input. -/
def walkOwnWrong : ChangeSpec := { name := "walkOwn", fn := fun _ => fun
  | [d] => { results := [.lit (.bool false)], args := [d] }
  | _ => none }
def WalkOwnWrongFalsely : Prop := walkOwnRow.holds Tryd.pinned (OpenSpec.ofChange walkOwnWrong)

/-- 'socagelaw06.BranchLooks': WHATEVER THE INPUT: true; the input reads as it did. -/
def branchLooksSpec : ChangeSpec := { name := "branchLooks", fn := fun _ => fun
  | [d1, d2, d3] => { results := [.lit (.bool true)], args := [d1, d2, d3] }
  | _ => none }
def branchLooksRow : OpenClaim := { program := "ytclomnkgpemnaaadoor", sum := "cffd90fbf90f61f0b4713f97464e5312253f775317993249120eca9b3129d842", func := "socage/socagelaw06.BranchLooks", spec := "branchLooks", inPlace := ["internal/bytealg.CountString", "internal/bytealg.IndexByteString", "internal/bytealg.IndexString", "internal/abi.NoEscape", "internal/bytealg.MakeNoZero"], recurses := true, named := ["unicode/utf8.first", "unicode/utf8.acceptRanges", "internal/bytealg.MaxLen"], loops := true, apart := false, laid := [("unicode/utf8.acceptRanges", laid_unicode_utf8_acceptRanges), ("unicode/utf8.first", laid_unicode_utf8_first)] }
def BranchLooksSaid : Prop := branchLooksRow.holds Tryd.pinned (OpenSpec.ofChange branchLooksSpec)

/-- ITS FALSE NEIGHBOUR: 'it returns false'. Refute it at one input. -/
def branchLooksWrong : ChangeSpec := { name := "branchLooks", fn := fun _ => fun
  | [d1, d2, d3] => { results := [.lit (.bool false)], args := [d1, d2, d3] }
  | _ => none }
def BranchLooksWrongFalsely : Prop := branchLooksRow.holds Tryd.pinned (OpenSpec.ofChange branchLooksWrong)

/-- 'socagelaw11.WalkLeads': WHATEVER THE INPUT: true; the input reads as it did. -/
def walkLeadsSpec : ChangeSpec := { name := "walkLeads", fn := fun _ => fun
  | [d] => { results := [.lit (.bool true)], args := [d] }
  | _ => none }
def walkLeadsRow : OpenClaim := { program := "ytclomnkgpemnaaadoor", sum := "cffd90fbf90f61f0b4713f97464e5312253f775317993249120eca9b3129d842", func := "socage/socagelaw11.WalkLeads", spec := "walkLeads", inPlace := ["internal/bytealg.CountString", "internal/bytealg.IndexByteString", "internal/bytealg.IndexString"], recurses := true, named := ["unicode/utf8.first", "unicode/utf8.acceptRanges", "internal/bytealg.MaxLen"], loops := true, apart := false, laid := [("unicode/utf8.acceptRanges", laid_unicode_utf8_acceptRanges), ("unicode/utf8.first", laid_unicode_utf8_first)] }
def WalkLeadsSaid : Prop := walkLeadsRow.holds Tryd.pinned (OpenSpec.ofChange walkLeadsSpec)

/-- ITS FALSE NEIGHBOUR: 'it returns false'. Refute it at one input. -/
def walkLeadsWrong : ChangeSpec := { name := "walkLeads", fn := fun _ => fun
  | [d] => { results := [.lit (.bool false)], args := [d] }
  | _ => none }
def WalkLeadsWrongFalsely : Prop := walkLeadsRow.holds Tryd.pinned (OpenSpec.ofChange walkLeadsWrong)

/-- 'socagelaw11.WalkSteps': WHATEVER THE INPUT: true; the input reads as it did. -/
def walkStepsSpec : ChangeSpec := { name := "walkSteps", fn := fun _ => fun
  | [d] => { results := [.lit (.bool true)], args := [d] }
  | _ => none }
def walkStepsRow : OpenClaim := { program := "ytclomnkgpemnaaadoor", sum := "cffd90fbf90f61f0b4713f97464e5312253f775317993249120eca9b3129d842", func := "socage/socagelaw11.WalkSteps", spec := "walkSteps", inPlace := ["internal/bytealg.CountString", "internal/bytealg.IndexByteString", "internal/bytealg.IndexString"], recurses := true, named := ["unicode/utf8.first", "unicode/utf8.acceptRanges", "internal/bytealg.MaxLen"], loops := true, apart := false, laid := [("unicode/utf8.acceptRanges", laid_unicode_utf8_acceptRanges), ("unicode/utf8.first", laid_unicode_utf8_first)] }
def WalkStepsSaid : Prop := walkStepsRow.holds Tryd.pinned (OpenSpec.ofChange walkStepsSpec)

/-- ITS FALSE NEIGHBOUR: 'it returns false'. Refute it at one input. -/
def walkStepsWrong : ChangeSpec := { name := "walkSteps", fn := fun _ => fun
  | [d] => { results := [.lit (.bool false)], args := [d] }
  | _ => none }
def WalkStepsWrongFalsely : Prop := walkStepsRow.holds Tryd.pinned (OpenSpec.ofChange walkStepsWrong)

/-- 'socagelaw10.MergePages': WHATEVER THE INPUT: true; the input reads as it did. -/
def mergePagesSpec : ChangeSpec := { name := "mergePages", fn := fun _ => fun
  | [d1, d2] => { results := [.lit (.bool true)], args := [d1, d2] }
  | _ => none }
def mergePagesRow : OpenClaim := { program := "ytclomnkgpemnaaadoor", sum := "cffd90fbf90f61f0b4713f97464e5312253f775317993249120eca9b3129d842", func := "socage/socagelaw10.MergePages", spec := "mergePages", inPlace := ["internal/bytealg.CountString", "internal/bytealg.IndexByteString", "internal/bytealg.IndexString"], unfollowed := true, recurses := true, named := ["unicode/utf8.first", "unicode/utf8.acceptRanges", "internal/bytealg.MaxLen"], apart := false, laid := [("unicode/utf8.acceptRanges", laid_unicode_utf8_acceptRanges), ("unicode/utf8.first", laid_unicode_utf8_first)] }
def MergePagesSaid : Prop := mergePagesRow.holds Tryd.pinned (OpenSpec.ofChange mergePagesSpec)

/-- ITS FALSE NEIGHBOUR: 'it returns false'. Refute it at one input. -/
def mergePagesWrong : ChangeSpec := { name := "mergePages", fn := fun _ => fun
  | [d1, d2] => { results := [.lit (.bool false)], args := [d1, d2] }
  | _ => none }
def MergePagesWrongFalsely : Prop := mergePagesRow.holds Tryd.pinned (OpenSpec.ofChange mergePagesWrong)

/-- 'socagelaw10.MergeOdd': WHATEVER THE INPUT: true; the input reads as it did. -/
def mergeOddSpec : ChangeSpec := { name := "mergeOdd", fn := fun _ => fun
  | [d1, d2, d3] => { results := [.lit (.bool true)], args := [d1, d2, d3] }
  | _ => none }
def mergeOddRow : OpenClaim := { program := "ytclomnkgpemnaaadoor", sum := "cffd90fbf90f61f0b4713f97464e5312253f775317993249120eca9b3129d842", func := "socage/socagelaw10.MergeOdd", spec := "mergeOdd", inPlace := ["internal/bytealg.CountString", "internal/bytealg.IndexByteString", "internal/bytealg.IndexString"], unfollowed := true, recurses := true, named := ["unicode/utf8.first", "unicode/utf8.acceptRanges", "internal/bytealg.MaxLen"], apart := false, laid := [("unicode/utf8.acceptRanges", laid_unicode_utf8_acceptRanges), ("unicode/utf8.first", laid_unicode_utf8_first)] }
def MergeOddSaid : Prop := mergeOddRow.holds Tryd.pinned (OpenSpec.ofChange mergeOddSpec)

/-- ITS FALSE NEIGHBOUR: 'it returns false'. Refute it at one input. -/
def mergeOddWrong : ChangeSpec := { name := "mergeOdd", fn := fun _ => fun
  | [d1, d2, d3] => { results := [.lit (.bool false)], args := [d1, d2, d3] }
  | _ => none }
def MergeOddWrongFalsely : Prop := mergeOddRow.holds Tryd.pinned (OpenSpec.ofChange mergeOddWrong)

/-- 'socagelaw06.BranchNodes': WHATEVER THE INPUT: true; the input reads as it did. -/
def branchNodesSpec : ChangeSpec := { name := "branchNodes", fn := fun _ => fun
  | [d1, d2] => { results := [.lit (.bool true)], args := [d1, d2] }
  | _ => none }
def branchNodesRow : OpenClaim := { program := "ytclomnkgpemnaaadoor", sum := "cffd90fbf90f61f0b4713f97464e5312253f775317993249120eca9b3129d842", func := "socage/socagelaw06.BranchNodes", spec := "branchNodes", inPlace := ["internal/bytealg.CountString", "internal/bytealg.IndexByteString", "internal/bytealg.IndexString", "internal/abi.NoEscape", "internal/bytealg.MakeNoZero"], recurses := true, named := ["unicode/utf8.first", "unicode/utf8.acceptRanges", "internal/bytealg.MaxLen"], loops := true, apart := false, laid := [("unicode/utf8.acceptRanges", laid_unicode_utf8_acceptRanges), ("unicode/utf8.first", laid_unicode_utf8_first)] }
def BranchNodesSaid : Prop := branchNodesRow.holds Tryd.pinned (OpenSpec.ofChange branchNodesSpec)

/-- ITS FALSE NEIGHBOUR: 'it returns false'. Refute it at one input. -/
def branchNodesWrong : ChangeSpec := { name := "branchNodes", fn := fun _ => fun
  | [d1, d2] => { results := [.lit (.bool false)], args := [d1, d2] }
  | _ => none }
def BranchNodesWrongFalsely : Prop := branchNodesRow.holds Tryd.pinned (OpenSpec.ofChange branchNodesWrong)

/-- 'socagelaw10.MergeLists': WHATEVER THE INPUT: true; the input reads as it did. -/
def mergeListsSpec : ChangeSpec := { name := "mergeLists", fn := fun _ => fun
  | [d] => { results := [.lit (.bool true)], args := [d] }
  | _ => none }
def mergeListsRow : OpenClaim := { program := "ytclomnkgpemnaaadoor", sum := "cffd90fbf90f61f0b4713f97464e5312253f775317993249120eca9b3129d842", func := "socage/socagelaw10.MergeLists", spec := "mergeLists", inPlace := ["internal/bytealg.CountString", "internal/bytealg.IndexByteString", "internal/bytealg.IndexString"], unfollowed := true, recurses := true, named := ["unicode/utf8.first", "unicode/utf8.acceptRanges", "internal/bytealg.MaxLen"], loops := true, apart := false, laid := [("unicode/utf8.acceptRanges", laid_unicode_utf8_acceptRanges), ("unicode/utf8.first", laid_unicode_utf8_first)] }
def MergeListsSaid : Prop := mergeListsRow.holds Tryd.pinned (OpenSpec.ofChange mergeListsSpec)

/-- ITS FALSE NEIGHBOUR: 'it returns false'. Refute it at one input. -/
def mergeListsWrong : ChangeSpec := { name := "mergeLists", fn := fun _ => fun
  | [d] => { results := [.lit (.bool false)], args := [d] }
  | _ => none }
def MergeListsWrongFalsely : Prop := mergeListsRow.holds Tryd.pinned (OpenSpec.ofChange mergeListsWrong)

/-- 'socagelaw06.BranchReads': WHATEVER THE INPUT: true; the input reads as it did. -/
def branchReadsSpec : ChangeSpec := { name := "branchReads", fn := fun _ => fun
  | [d1, d2, d3] => { results := [.lit (.bool true)], args := [d1, d2, d3] }
  | _ => none }
def branchReadsRow : OpenClaim := { program := "ytclomnkgpemnaaadoor", sum := "cffd90fbf90f61f0b4713f97464e5312253f775317993249120eca9b3129d842", func := "socage/socagelaw06.BranchReads", spec := "branchReads", inPlace := ["internal/bytealg.CountString", "internal/bytealg.IndexByteString", "internal/bytealg.IndexString", "internal/abi.NoEscape", "internal/bytealg.MakeNoZero"], recurses := true, named := ["unicode/utf8.first", "unicode/utf8.acceptRanges", "internal/bytealg.MaxLen"], loops := true, apart := false, laid := [("unicode/utf8.acceptRanges", laid_unicode_utf8_acceptRanges), ("unicode/utf8.first", laid_unicode_utf8_first)] }
def BranchReadsSaid : Prop := branchReadsRow.holds Tryd.pinned (OpenSpec.ofChange branchReadsSpec)

/-- ITS FALSE NEIGHBOUR: 'it returns false'. Refute it at one input. -/
def branchReadsWrong : ChangeSpec := { name := "branchReads", fn := fun _ => fun
  | [d1, d2, d3] => { results := [.lit (.bool false)], args := [d1, d2, d3] }
  | _ => none }
def BranchReadsWrongFalsely : Prop := branchReadsRow.holds Tryd.pinned (OpenSpec.ofChange branchReadsWrong)

/- THE SECOND FORM. 'bulk': how many values and letters a reading holds, each counted each time it is reached (what is shared counts as often as it is met; a slice's spare places count too). A statement '..UptoSaid' is the law's where the arguments, and the package variables that the reading takes, are together of bulk at most 1048576: NARROWER than '..Said'. Prove '..Said' where nothing that the law and all that it calls make is longer than what came in: it says more and counts as full. Else prove '..UptoSaid'. A law counts once. -/
mutual
def uptoBulk {H : Type} : DataW H → Nat
  | .lit (.string bytes) => bytes.length + 1
  | .lit _ => 1
  | .nil => 1
  | .ptr d => uptoBulk d + 1
  | .slice elems spare => uptoBulkAll elems + uptoBulkAll spare + 1
  | .agg parts => uptoBulkAll parts + 1
  | .iface _ d => uptoBulk d + 1
  | .map entries => uptoBulkEntries entries + 1
  | .held _ => 1
def uptoBulkAll {H : Type} : List (DataW H) → Nat
  | [] => 0
  | d :: r => uptoBulk d + uptoBulkAll r
def uptoBulkEntries {H : Type} : List (Lit × DataW H) → Nat
  | [] => 0
  | x :: r => uptoBulkEntry x + uptoBulkEntries r
def uptoBulkEntry {H : Type} : Lit × DataW H → Nat
  | (.string bytes, d) => bytes.length + uptoBulk d + 1
  | (_, d) => uptoBulk d + 1
 end
def uptoSmall : (H : Type) → List (DataW H) → Bool := fun _ ds => decide (uptoBulkAll ds ≤ 1048576)
def OpenSpec.upto (s : _root_.Go.ChangeSpec) : _root_.Go.OpenSpec := { _root_.Go.OpenSpec.ofChange s with cond := some uptoSmall }

/-- 'socagelaw08.SeenAll', WHERE WHAT IT READS IS OF BULK AT MOST 1048576: true; the input reads as it did. -/
def seenAllUptoRow : OpenClaim := { program := "ytclomnkgpemnaaadoor", sum := "cffd90fbf90f61f0b4713f97464e5312253f775317993249120eca9b3129d842", func := "socage/socagelaw08.SeenAll", spec := "seenAll", inPlace := ["internal/bytealg.CountString", "internal/bytealg.IndexByteString", "internal/bytealg.IndexString"], recurses := true, named := ["unicode/utf8.first", "unicode/utf8.acceptRanges", "internal/bytealg.MaxLen"], loops := true, apart := false, laid := [("unicode/utf8.acceptRanges", laid_unicode_utf8_acceptRanges), ("unicode/utf8.first", laid_unicode_utf8_first)], narrowed := true }
def SeenAllUptoSaid : Prop := seenAllUptoRow.holds Tryd.pinned (OpenSpec.upto seenAllSpec)

/-- 'socagelaw11.WalkOwn', WHERE WHAT IT READS IS OF BULK AT MOST 1048576: true; the input reads as it did. -/
def walkOwnUptoRow : OpenClaim := { program := "ytclomnkgpemnaaadoor", sum := "cffd90fbf90f61f0b4713f97464e5312253f775317993249120eca9b3129d842", func := "socage/socagelaw11.WalkOwn", spec := "walkOwn", inPlace := ["internal/bytealg.CountString", "internal/bytealg.IndexByteString", "internal/bytealg.IndexString"], recurses := true, named := ["unicode/utf8.first", "unicode/utf8.acceptRanges", "internal/bytealg.MaxLen"], loops := true, apart := false, laid := [("unicode/utf8.acceptRanges", laid_unicode_utf8_acceptRanges), ("unicode/utf8.first", laid_unicode_utf8_first)], narrowed := true }
def WalkOwnUptoSaid : Prop := walkOwnUptoRow.holds Tryd.pinned (OpenSpec.upto walkOwnSpec)

/-- 'socagelaw06.BranchLooks', WHERE WHAT IT READS IS OF BULK AT MOST 1048576: true; the input reads as it did. -/
def branchLooksUptoRow : OpenClaim := { program := "ytclomnkgpemnaaadoor", sum := "cffd90fbf90f61f0b4713f97464e5312253f775317993249120eca9b3129d842", func := "socage/socagelaw06.BranchLooks", spec := "branchLooks", inPlace := ["internal/bytealg.CountString", "internal/bytealg.IndexByteString", "internal/bytealg.IndexString", "internal/abi.NoEscape", "internal/bytealg.MakeNoZero"], recurses := true, named := ["unicode/utf8.first", "unicode/utf8.acceptRanges", "internal/bytealg.MaxLen"], loops := true, apart := false, laid := [("unicode/utf8.acceptRanges", laid_unicode_utf8_acceptRanges), ("unicode/utf8.first", laid_unicode_utf8_first)], narrowed := true }
def BranchLooksUptoSaid : Prop := branchLooksUptoRow.holds Tryd.pinned (OpenSpec.upto branchLooksSpec)

/-- 'socagelaw11.WalkLeads', WHERE WHAT IT READS IS OF BULK AT MOST 1048576: true; the input reads as it did. -/
def walkLeadsUptoRow : OpenClaim := { program := "ytclomnkgpemnaaadoor", sum := "cffd90fbf90f61f0b4713f97464e5312253f775317993249120eca9b3129d842", func := "socage/socagelaw11.WalkLeads", spec := "walkLeads", inPlace := ["internal/bytealg.CountString", "internal/bytealg.IndexByteString", "internal/bytealg.IndexString"], recurses := true, named := ["unicode/utf8.first", "unicode/utf8.acceptRanges", "internal/bytealg.MaxLen"], loops := true, apart := false, laid := [("unicode/utf8.acceptRanges", laid_unicode_utf8_acceptRanges), ("unicode/utf8.first", laid_unicode_utf8_first)], narrowed := true }
def WalkLeadsUptoSaid : Prop := walkLeadsUptoRow.holds Tryd.pinned (OpenSpec.upto walkLeadsSpec)

/-- 'socagelaw11.WalkSteps', WHERE WHAT IT READS IS OF BULK AT MOST 1048576: true; the input reads as it did. -/
def walkStepsUptoRow : OpenClaim := { program := "ytclomnkgpemnaaadoor", sum := "cffd90fbf90f61f0b4713f97464e5312253f775317993249120eca9b3129d842", func := "socage/socagelaw11.WalkSteps", spec := "walkSteps", inPlace := ["internal/bytealg.CountString", "internal/bytealg.IndexByteString", "internal/bytealg.IndexString"], recurses := true, named := ["unicode/utf8.first", "unicode/utf8.acceptRanges", "internal/bytealg.MaxLen"], loops := true, apart := false, laid := [("unicode/utf8.acceptRanges", laid_unicode_utf8_acceptRanges), ("unicode/utf8.first", laid_unicode_utf8_first)], narrowed := true }
def WalkStepsUptoSaid : Prop := walkStepsUptoRow.holds Tryd.pinned (OpenSpec.upto walkStepsSpec)

/-- 'socagelaw10.MergePages', WHERE WHAT IT READS IS OF BULK AT MOST 1048576: true; the input reads as it did. -/
def mergePagesUptoRow : OpenClaim := { program := "ytclomnkgpemnaaadoor", sum := "cffd90fbf90f61f0b4713f97464e5312253f775317993249120eca9b3129d842", func := "socage/socagelaw10.MergePages", spec := "mergePages", inPlace := ["internal/bytealg.CountString", "internal/bytealg.IndexByteString", "internal/bytealg.IndexString"], unfollowed := true, recurses := true, named := ["unicode/utf8.first", "unicode/utf8.acceptRanges", "internal/bytealg.MaxLen"], apart := false, laid := [("unicode/utf8.acceptRanges", laid_unicode_utf8_acceptRanges), ("unicode/utf8.first", laid_unicode_utf8_first)], narrowed := true }
def MergePagesUptoSaid : Prop := mergePagesUptoRow.holds Tryd.pinned (OpenSpec.upto mergePagesSpec)

/-- 'socagelaw10.MergeOdd', WHERE WHAT IT READS IS OF BULK AT MOST 1048576: true; the input reads as it did. -/
def mergeOddUptoRow : OpenClaim := { program := "ytclomnkgpemnaaadoor", sum := "cffd90fbf90f61f0b4713f97464e5312253f775317993249120eca9b3129d842", func := "socage/socagelaw10.MergeOdd", spec := "mergeOdd", inPlace := ["internal/bytealg.CountString", "internal/bytealg.IndexByteString", "internal/bytealg.IndexString"], unfollowed := true, recurses := true, named := ["unicode/utf8.first", "unicode/utf8.acceptRanges", "internal/bytealg.MaxLen"], apart := false, laid := [("unicode/utf8.acceptRanges", laid_unicode_utf8_acceptRanges), ("unicode/utf8.first", laid_unicode_utf8_first)], narrowed := true }
def MergeOddUptoSaid : Prop := mergeOddUptoRow.holds Tryd.pinned (OpenSpec.upto mergeOddSpec)

/-- 'socagelaw06.BranchNodes', WHERE WHAT IT READS IS OF BULK AT MOST 1048576: true; the input reads as it did. -/
def branchNodesUptoRow : OpenClaim := { program := "ytclomnkgpemnaaadoor", sum := "cffd90fbf90f61f0b4713f97464e5312253f775317993249120eca9b3129d842", func := "socage/socagelaw06.BranchNodes", spec := "branchNodes", inPlace := ["internal/bytealg.CountString", "internal/bytealg.IndexByteString", "internal/bytealg.IndexString", "internal/abi.NoEscape", "internal/bytealg.MakeNoZero"], recurses := true, named := ["unicode/utf8.first", "unicode/utf8.acceptRanges", "internal/bytealg.MaxLen"], loops := true, apart := false, laid := [("unicode/utf8.acceptRanges", laid_unicode_utf8_acceptRanges), ("unicode/utf8.first", laid_unicode_utf8_first)], narrowed := true }
def BranchNodesUptoSaid : Prop := branchNodesUptoRow.holds Tryd.pinned (OpenSpec.upto branchNodesSpec)

/-- 'socagelaw10.MergeLists', WHERE WHAT IT READS IS OF BULK AT MOST 1048576: true; the input reads as it did. -/
def mergeListsUptoRow : OpenClaim := { program := "ytclomnkgpemnaaadoor", sum := "cffd90fbf90f61f0b4713f97464e5312253f775317993249120eca9b3129d842", func := "socage/socagelaw10.MergeLists", spec := "mergeLists", inPlace := ["internal/bytealg.CountString", "internal/bytealg.IndexByteString", "internal/bytealg.IndexString"], unfollowed := true, recurses := true, named := ["unicode/utf8.first", "unicode/utf8.acceptRanges", "internal/bytealg.MaxLen"], loops := true, apart := false, laid := [("unicode/utf8.acceptRanges", laid_unicode_utf8_acceptRanges), ("unicode/utf8.first", laid_unicode_utf8_first)], narrowed := true }
def MergeListsUptoSaid : Prop := mergeListsUptoRow.holds Tryd.pinned (OpenSpec.upto mergeListsSpec)

/-- 'socagelaw06.BranchReads', WHERE WHAT IT READS IS OF BULK AT MOST 1048576: true; the input reads as it did. -/
def branchReadsUptoRow : OpenClaim := { program := "ytclomnkgpemnaaadoor", sum := "cffd90fbf90f61f0b4713f97464e5312253f775317993249120eca9b3129d842", func := "socage/socagelaw06.BranchReads", spec := "branchReads", inPlace := ["internal/bytealg.CountString", "internal/bytealg.IndexByteString", "internal/bytealg.IndexString", "internal/abi.NoEscape", "internal/bytealg.MakeNoZero"], recurses := true, named := ["unicode/utf8.first", "unicode/utf8.acceptRanges", "internal/bytealg.MaxLen"], loops := true, apart := false, laid := [("unicode/utf8.acceptRanges", laid_unicode_utf8_acceptRanges), ("unicode/utf8.first", laid_unicode_utf8_first)], narrowed := true }
def BranchReadsUptoSaid : Prop := branchReadsUptoRow.holds Tryd.pinned (OpenSpec.upto branchReadsSpec)

end Rows
end Go.Proofs.YtclomnkgpemnaaaDoor
