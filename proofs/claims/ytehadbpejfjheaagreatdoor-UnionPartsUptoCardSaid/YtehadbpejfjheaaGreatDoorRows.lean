/-
  NARROWER THAN 'FOR EVERY INPUT', by the rows' own cells (each row's printed sentence says how): ServerLocks: laid · ServerSees: loops, laid · ServerLists: loops, laid · UnionParts: loops, laid.
  DERIVED. THE GIVEN ROWS OF THIS SEAT. 4 by the template 'for every input the law returns true; each argument reads behind the call as it read before'; 0 by the template 'total and deterministic' (their statements: YtehadbpejfjheaaGreatDoorTotals.lean).
  GIVEN WITH THE SEED: the statements are not yours to turn. If you find one false, say at which input.
  Laid BY PROGRAM, IN A SANDBOX (cutbox-rows.mjs): the forced cells as the released guide's own fill.sh prints them over the translation f5e263683c0f5def… (all of the seat's roots in one cut). By AI agents, Wed Nov 11 2026. No macro, syntax, notation, axiom, sorry.
-/
import Derived.Test.YtehadbpejfjheaaGreatDoorChecked
import GoSem.PinnedTables
import GoSem.Claim
import GoSem.ClaimJoined
import GoSem.ClaimMapViews
import Derived.JoinedTies
import Derived.KernelRfl
namespace Go.Proofs.YtehadbpejfjheaaGreatDoor
/- THE CELL 'sum', in the pinned program and in every row, IS THE sha256 OF THE DUMP (.gsa) THAT YtehadbpejfjheaaGreatDoorProg.lean LOADS. Nothing in Lean hashes anything: it is a label: what it is worth is what the hold of that sum in a sandbox is worth. -/
noncomputable def Tryz.pinned : Pinned := { name := "ytehadbpejfjheaagreatdoor", sum := "f5e263683c0f5def6da490d6e456e7996eb70e706a90a2309c7f59a56c33e341", checked := Tryz.checked }
namespace Rows
def none {H : Type} : Left H := { results := [], args := [] }

/- WHAT THE LISTED PACKAGE-LEVEL VARIABLES READ AS WHEN THE CALL BEGINS. Each datum BY PROGRAM (the guide's laid-datum.mjs) off the statement by which the dump's own 'gosem.cut.vars' lays the variable. In a bare row this is a premise. The card (YtehadbpejfjheaaGreatDoorCards.lean) ties it to the program's text. -/
def laid_unicode_utf8_acceptRanges {H : Type} : DataW H := .agg [.agg [.lit (.int .u8 128), .lit (.int .u8 191)], .agg [.lit (.int .u8 160), .lit (.int .u8 191)], .agg [.lit (.int .u8 128), .lit (.int .u8 159)], .agg [.lit (.int .u8 144), .lit (.int .u8 191)], .agg [.lit (.int .u8 128), .lit (.int .u8 143)], .agg [.lit (.int .u8 0), .lit (.int .u8 0)], .agg [.lit (.int .u8 0), .lit (.int .u8 0)], .agg [.lit (.int .u8 0), .lit (.int .u8 0)], .agg [.lit (.int .u8 0), .lit (.int .u8 0)], .agg [.lit (.int .u8 0), .lit (.int .u8 0)], .agg [.lit (.int .u8 0), .lit (.int .u8 0)], .agg [.lit (.int .u8 0), .lit (.int .u8 0)], .agg [.lit (.int .u8 0), .lit (.int .u8 0)], .agg [.lit (.int .u8 0), .lit (.int .u8 0)], .agg [.lit (.int .u8 0), .lit (.int .u8 0)], .agg [.lit (.int .u8 0), .lit (.int .u8 0)]]
/-- One of Go's own tables, pinned by name: the form's constant. -/
def laid_unicode_utf8_first : DataW Unit := Go.Pinned.utf8First

/-- 'socagelaw21.ServerLocks': WHATEVER THE INPUT: true; the input reads as it did. -/
def serverLocksSpec : ChangeSpec := { name := "serverLocks", fn := fun _ => fun
  | [d] => { results := [.lit (.bool true)], args := [d] }
  | _ => none }
def serverLocksRow : OpenClaim := { program := "ytehadbpejfjheaagreatdoor", sum := "f5e263683c0f5def6da490d6e456e7996eb70e706a90a2309c7f59a56c33e341", func := "socage/socagelaw21.ServerLocks", spec := "serverLocks", inPlace := ["internal/bytealg.CountString", "internal/bytealg.IndexByteString", "internal/bytealg.IndexString"], unfollowed := true, recurses := true, named := ["unicode/utf8.first", "unicode/utf8.acceptRanges", "internal/bytealg.MaxLen"], plainKeys := false, apart := false, laid := [("unicode/utf8.acceptRanges", laid_unicode_utf8_acceptRanges), ("unicode/utf8.first", laid_unicode_utf8_first)] }
def ServerLocksSaid : Prop := serverLocksRow.holds Tryz.pinned (OpenSpec.ofChange serverLocksSpec)

/-- ITS FALSE NEIGHBOUR: 'it returns false'. Refute it at one input. -/
def serverLocksWrong : ChangeSpec := { name := "serverLocks", fn := fun _ => fun
  | [d] => { results := [.lit (.bool false)], args := [d] }
  | _ => none }
def ServerLocksWrongFalsely : Prop := serverLocksRow.holds Tryz.pinned (OpenSpec.ofChange serverLocksWrong)

/-- 'socagelaw21.ServerSees': WHATEVER THE INPUT: true; the input reads as it did. -/
def serverSeesSpec : ChangeSpec := { name := "serverSees", fn := fun _ => fun
  | [d1, d2, d3] => { results := [.lit (.bool true)], args := [d1, d2, d3] }
  | _ => none }
def serverSeesRow : OpenClaim := { program := "ytehadbpejfjheaagreatdoor", sum := "f5e263683c0f5def6da490d6e456e7996eb70e706a90a2309c7f59a56c33e341", func := "socage/socagelaw21.ServerSees", spec := "serverSees", inPlace := ["internal/bytealg.CountString", "internal/bytealg.IndexByteString", "internal/bytealg.IndexString"], unfollowed := true, recurses := true, named := ["unicode/utf8.first", "unicode/utf8.acceptRanges", "internal/bytealg.MaxLen"], loops := true, plainKeys := false, apart := false, laid := [("unicode/utf8.acceptRanges", laid_unicode_utf8_acceptRanges), ("unicode/utf8.first", laid_unicode_utf8_first)] }
def ServerSeesSaid : Prop := serverSeesRow.holds Tryz.pinned (OpenSpec.ofChange serverSeesSpec)

/-- ITS FALSE NEIGHBOUR: 'it returns false'. Refute it at one input. -/
def serverSeesWrong : ChangeSpec := { name := "serverSees", fn := fun _ => fun
  | [d1, d2, d3] => { results := [.lit (.bool false)], args := [d1, d2, d3] }
  | _ => none }
def ServerSeesWrongFalsely : Prop := serverSeesRow.holds Tryz.pinned (OpenSpec.ofChange serverSeesWrong)

/-- 'socagelaw21.ServerLists': WHATEVER THE INPUT: true; the input reads as it did. -/
def serverListsSpec : ChangeSpec := { name := "serverLists", fn := fun _ => fun
  | [d1, d2] => { results := [.lit (.bool true)], args := [d1, d2] }
  | _ => none }
def serverListsRow : OpenClaim := { program := "ytehadbpejfjheaagreatdoor", sum := "f5e263683c0f5def6da490d6e456e7996eb70e706a90a2309c7f59a56c33e341", func := "socage/socagelaw21.ServerLists", spec := "serverLists", inPlace := ["internal/bytealg.CountString", "internal/bytealg.IndexByteString", "internal/bytealg.IndexString"], unfollowed := true, recurses := true, named := ["unicode/utf8.first", "unicode/utf8.acceptRanges", "internal/bytealg.MaxLen"], loops := true, plainKeys := false, apart := false, laid := [("unicode/utf8.acceptRanges", laid_unicode_utf8_acceptRanges), ("unicode/utf8.first", laid_unicode_utf8_first)] }
def ServerListsSaid : Prop := serverListsRow.holds Tryz.pinned (OpenSpec.ofChange serverListsSpec)

/-- ITS FALSE NEIGHBOUR: 'it returns false'. Refute it at one input. -/
def serverListsWrong : ChangeSpec := { name := "serverLists", fn := fun _ => fun
  | [d1, d2] => { results := [.lit (.bool false)], args := [d1, d2] }
  | _ => none }
def ServerListsWrongFalsely : Prop := serverListsRow.holds Tryz.pinned (OpenSpec.ofChange serverListsWrong)

/-- 'socagelaw12.UnionParts': WHATEVER THE INPUT: true; the input reads as it did. -/
def unionPartsSpec : ChangeSpec := { name := "unionParts", fn := fun _ => fun
  | [d1, d2] => { results := [.lit (.bool true)], args := [d1, d2] }
  | _ => none }
def unionPartsRow : OpenClaim := { program := "ytehadbpejfjheaagreatdoor", sum := "f5e263683c0f5def6da490d6e456e7996eb70e706a90a2309c7f59a56c33e341", func := "socage/socagelaw12.UnionParts", spec := "unionParts", inPlace := ["internal/bytealg.CountString", "internal/bytealg.IndexByteString", "internal/bytealg.IndexString", "internal/abi.NoEscape", "internal/bytealg.MakeNoZero"], recurses := true, named := ["unicode/utf8.first", "unicode/utf8.acceptRanges", "internal/bytealg.MaxLen"], loops := true, plainKeys := false, apart := false, laid := [("unicode/utf8.acceptRanges", laid_unicode_utf8_acceptRanges), ("unicode/utf8.first", laid_unicode_utf8_first)] }
def UnionPartsSaid : Prop := unionPartsRow.holds Tryz.pinned (OpenSpec.ofChange unionPartsSpec)

/-- ITS FALSE NEIGHBOUR: 'it returns false'. Refute it at one input. -/
def unionPartsWrong : ChangeSpec := { name := "unionParts", fn := fun _ => fun
  | [d1, d2] => { results := [.lit (.bool false)], args := [d1, d2] }
  | _ => none }
def UnionPartsWrongFalsely : Prop := unionPartsRow.holds Tryz.pinned (OpenSpec.ofChange unionPartsWrong)

/- THE SECOND FORM. 'bulk': how many values and letters a reading holds, each counted each time it is reached (what is shared counts as often as it is met; a slice's spare places count too). A statement '..UptoSaid' is the law's where the arguments, and the package variables that the reading takes, are together of bulk at most 1048576: NARROWER than '..Said'. Prove '..Said' where nothing that the law and all that it calls make is longer than what came in: it says more and counts as full. Else prove '..UptoSaid'. A law counts once. -/
mutual
def uptoBulk {H : Type} : DataW H → Nat
  | .lit (.string bytes) => bytes.length + 1
  | .lit _ => 1
  | .nil => 1
  | .ptr d => uptoBulk d + 1
  | .slice elems spare => uptoBulkAll elems + uptoBulkAll spare + 1
  | .agg parts => uptoBulkAll parts + 1
  | .iface _ d => uptoBulk d + 1
  | .map entries => uptoBulkEntries entries + 1
  | .held _ => 1
def uptoBulkAll {H : Type} : List (DataW H) → Nat
  | [] => 0
  | d :: r => uptoBulk d + uptoBulkAll r
def uptoBulkEntries {H : Type} : List (Lit × DataW H) → Nat
  | [] => 0
  | x :: r => uptoBulkEntry x + uptoBulkEntries r
def uptoBulkEntry {H : Type} : Lit × DataW H → Nat
  | (.string bytes, d) => bytes.length + uptoBulk d + 1
  | (_, d) => uptoBulk d + 1
 end
def uptoSmall : (H : Type) → List (DataW H) → Bool := fun _ ds => decide (uptoBulkAll ds ≤ 1048576)
def OpenSpec.upto (s : _root_.Go.ChangeSpec) : _root_.Go.OpenSpec := { _root_.Go.OpenSpec.ofChange s with cond := some uptoSmall }

/-- 'socagelaw21.ServerLocks', WHERE WHAT IT READS IS OF BULK AT MOST 1048576: true; the input reads as it did. -/
def serverLocksUptoRow : OpenClaim := { program := "ytehadbpejfjheaagreatdoor", sum := "f5e263683c0f5def6da490d6e456e7996eb70e706a90a2309c7f59a56c33e341", func := "socage/socagelaw21.ServerLocks", spec := "serverLocks", inPlace := ["internal/bytealg.CountString", "internal/bytealg.IndexByteString", "internal/bytealg.IndexString"], unfollowed := true, recurses := true, named := ["unicode/utf8.first", "unicode/utf8.acceptRanges", "internal/bytealg.MaxLen"], plainKeys := false, apart := false, laid := [("unicode/utf8.acceptRanges", laid_unicode_utf8_acceptRanges), ("unicode/utf8.first", laid_unicode_utf8_first)], narrowed := true }
def ServerLocksUptoSaid : Prop := serverLocksUptoRow.holds Tryz.pinned (OpenSpec.upto serverLocksSpec)

/-- 'socagelaw21.ServerSees', WHERE WHAT IT READS IS OF BULK AT MOST 1048576: true; the input reads as it did. -/
def serverSeesUptoRow : OpenClaim := { program := "ytehadbpejfjheaagreatdoor", sum := "f5e263683c0f5def6da490d6e456e7996eb70e706a90a2309c7f59a56c33e341", func := "socage/socagelaw21.ServerSees", spec := "serverSees", inPlace := ["internal/bytealg.CountString", "internal/bytealg.IndexByteString", "internal/bytealg.IndexString"], unfollowed := true, recurses := true, named := ["unicode/utf8.first", "unicode/utf8.acceptRanges", "internal/bytealg.MaxLen"], loops := true, plainKeys := false, apart := false, laid := [("unicode/utf8.acceptRanges", laid_unicode_utf8_acceptRanges), ("unicode/utf8.first", laid_unicode_utf8_first)], narrowed := true }
def ServerSeesUptoSaid : Prop := serverSeesUptoRow.holds Tryz.pinned (OpenSpec.upto serverSeesSpec)

/-- 'socagelaw21.ServerLists', WHERE WHAT IT READS IS OF BULK AT MOST 1048576: true; the input reads as it did. -/
def serverListsUptoRow : OpenClaim := { program := "ytehadbpejfjheaagreatdoor", sum := "f5e263683c0f5def6da490d6e456e7996eb70e706a90a2309c7f59a56c33e341", func := "socage/socagelaw21.ServerLists", spec := "serverLists", inPlace := ["internal/bytealg.CountString", "internal/bytealg.IndexByteString", "internal/bytealg.IndexString"], unfollowed := true, recurses := true, named := ["unicode/utf8.first", "unicode/utf8.acceptRanges", "internal/bytealg.MaxLen"], loops := true, plainKeys := false, apart := false, laid := [("unicode/utf8.acceptRanges", laid_unicode_utf8_acceptRanges), ("unicode/utf8.first", laid_unicode_utf8_first)], narrowed := true }
def ServerListsUptoSaid : Prop := serverListsUptoRow.holds Tryz.pinned (OpenSpec.upto serverListsSpec)

/-- 'socagelaw12.UnionParts', WHERE WHAT IT READS IS OF BULK AT MOST 1048576: true; the input reads as it did. -/
def unionPartsUptoRow : OpenClaim := { program := "ytehadbpejfjheaagreatdoor", sum := "f5e263683c0f5def6da490d6e456e7996eb70e706a90a2309c7f59a56c33e341", func := "socage/socagelaw12.UnionParts", spec := "unionParts", inPlace := ["internal/bytealg.CountString", "internal/bytealg.IndexByteString", "internal/bytealg.IndexString", "internal/abi.NoEscape", "internal/bytealg.MakeNoZero"], recurses := true, named := ["unicode/utf8.first", "unicode/utf8.acceptRanges", "internal/bytealg.MaxLen"], loops := true, plainKeys := false, apart := false, laid := [("unicode/utf8.acceptRanges", laid_unicode_utf8_acceptRanges), ("unicode/utf8.first", laid_unicode_utf8_first)], narrowed := true }
def UnionPartsUptoSaid : Prop := unionPartsUptoRow.holds Tryz.pinned (OpenSpec.upto unionPartsSpec)

end Rows
end Go.Proofs.YtehadbpejfjheaaGreatDoor
