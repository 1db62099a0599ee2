/-
  No cell of these rows narrows 'for every input' (looked for: loops, veiled, ifaces, maps, wideKeys, modest, calm, conditions, laid).
  DERIVED. THE GIVEN ROWS OF THIS SEAT. 7 by the template 'for every input the law returns true; each argument reads behind the call as it read before'; 0 by the template 'total and deterministic' (their statements: YtcmiahkfbnojnaaTotals.lean).
  GIVEN WITH THE SEED: the statements are not yours to turn. If you find one false, say at which input.
  Laid BY PROGRAM, IN A SANDBOX (cutbox-rows.mjs): the forced cells as the released guide's own fill.sh prints them over the translation 54af1b54f23b60f3… (all of the seat's roots in one cut). By AI agents, Wed Nov 11 2026. No macro, syntax, notation, axiom, sorry.
-/
import Derived.Test.YtcmiahkfbnojnaaChecked
import GoSem.Claim
import GoSem.ClaimJoined
import GoSem.ClaimMapViews
import Derived.JoinedTies
import Derived.KernelRfl
namespace Go.Proofs.Ytcmiahkfbnojnaa
/- THE CELL 'sum', in the pinned program and in every row, IS THE sha256 OF THE DUMP (.gsa) THAT YtcmiahkfbnojnaaProg.lean LOADS. Nothing in Lean hashes anything: it is a label: what it is worth is what the hold of that sum in a sandbox is worth. -/
noncomputable def Try.pinned : Pinned := { name := "ytcmiahkfbnojnaa", sum := "54af1b54f23b60f36f4fd217d3aa41166395b8624f1d4356ca03d0a6b83c8a10", checked := Try.checked }
namespace Rows
def none {H : Type} : Left H := { results := [], args := [] }

/-- 'socagelaw17.GateDoes': WHATEVER THE INPUT: true; the input reads as it did. -/
def gateDoesSpec : ChangeSpec := { name := "gateDoes", fn := fun _ => fun
  | [d] => { results := [.lit (.bool true)], args := [d] }
  | _ => none }
def gateDoesRow : OpenClaim := { program := "ytcmiahkfbnojnaa", sum := "54af1b54f23b60f36f4fd217d3aa41166395b8624f1d4356ca03d0a6b83c8a10", func := "socage/socagelaw17.GateDoes", spec := "gateDoes", apart := false }
def GateDoesSaid : Prop := gateDoesRow.holds Try.pinned (OpenSpec.ofChange gateDoesSpec)

/-- ITS FALSE NEIGHBOUR: 'it returns false'. Refute it at one input. -/
def gateDoesWrong : ChangeSpec := { name := "gateDoes", fn := fun _ => fun
  | [d] => { results := [.lit (.bool false)], args := [d] }
  | _ => none }
def GateDoesWrongFalsely : Prop := gateDoesRow.holds Try.pinned (OpenSpec.ofChange gateDoesWrong)

/-- 'socagelaw17.GateTurns': WHATEVER THE INPUT: true; the input reads as it did. -/
def gateTurnsSpec : ChangeSpec := { name := "gateTurns", fn := fun _ => fun
  | [d1, d2] => { results := [.lit (.bool true)], args := [d1, d2] }
  | _ => none }
def gateTurnsRow : OpenClaim := { program := "ytcmiahkfbnojnaa", sum := "54af1b54f23b60f36f4fd217d3aa41166395b8624f1d4356ca03d0a6b83c8a10", func := "socage/socagelaw17.GateTurns", spec := "gateTurns", apart := false }
def GateTurnsSaid : Prop := gateTurnsRow.holds Try.pinned (OpenSpec.ofChange gateTurnsSpec)

/-- ITS FALSE NEIGHBOUR: 'it returns false'. Refute it at one input. -/
def gateTurnsWrong : ChangeSpec := { name := "gateTurns", fn := fun _ => fun
  | [d1, d2] => { results := [.lit (.bool false)], args := [d1, d2] }
  | _ => none }
def GateTurnsWrongFalsely : Prop := gateTurnsRow.holds Try.pinned (OpenSpec.ofChange gateTurnsWrong)

/-- 'socagelaw09.HeapMerges': WHATEVER THE INPUT: true; the input reads as it did. -/
def heapMergesSpec : ChangeSpec := { name := "heapMerges", fn := fun _ => fun
  | [d] => { results := [.lit (.bool true)], args := [d] }
  | _ => none }
def heapMergesRow : OpenClaim := { program := "ytcmiahkfbnojnaa", sum := "54af1b54f23b60f36f4fd217d3aa41166395b8624f1d4356ca03d0a6b83c8a10", func := "socage/socagelaw09.HeapMerges", spec := "heapMerges", unfollowed := true, recurses := true, apart := false }
def HeapMergesSaid : Prop := heapMergesRow.holds Try.pinned (OpenSpec.ofChange heapMergesSpec)

/-- ITS FALSE NEIGHBOUR: 'it returns false'. Refute it at one input. -/
def heapMergesWrong : ChangeSpec := { name := "heapMerges", fn := fun _ => fun
  | [d] => { results := [.lit (.bool false)], args := [d] }
  | _ => none }
def HeapMergesWrongFalsely : Prop := heapMergesRow.holds Try.pinned (OpenSpec.ofChange heapMergesWrong)

/-- 'socagelaw09.HeapParts': WHATEVER THE INPUT: true; the input reads as it did. -/
def heapPartsSpec : ChangeSpec := { name := "heapParts", fn := fun _ => fun
  | [d1, d2] => { results := [.lit (.bool true)], args := [d1, d2] }
  | _ => none }
def heapPartsRow : OpenClaim := { program := "ytcmiahkfbnojnaa", sum := "54af1b54f23b60f36f4fd217d3aa41166395b8624f1d4356ca03d0a6b83c8a10", func := "socage/socagelaw09.HeapParts", spec := "heapParts", unfollowed := true, recurses := true, apart := false }
def HeapPartsSaid : Prop := heapPartsRow.holds Try.pinned (OpenSpec.ofChange heapPartsSpec)

/-- ITS FALSE NEIGHBOUR: 'it returns false'. Refute it at one input. -/
def heapPartsWrong : ChangeSpec := { name := "heapParts", fn := fun _ => fun
  | [d1, d2] => { results := [.lit (.bool false)], args := [d1, d2] }
  | _ => none }
def HeapPartsWrongFalsely : Prop := heapPartsRow.holds Try.pinned (OpenSpec.ofChange heapPartsWrong)

/-- 'socagelaw03.ExtentRight': WHATEVER THE INPUT: true; the input reads as it did. -/
def extentRightSpec : ChangeSpec := { name := "extentRight", fn := fun _ => fun
  | [d1, d2] => { results := [.lit (.bool true)], args := [d1, d2] }
  | _ => none }
def extentRightRow : OpenClaim := { program := "ytcmiahkfbnojnaa", sum := "54af1b54f23b60f36f4fd217d3aa41166395b8624f1d4356ca03d0a6b83c8a10", func := "socage/socagelaw03.ExtentRight", spec := "extentRight", inPlace := ["internal/abi.NoEscape", "internal/bytealg.MakeNoZero"], apart := false }
def ExtentRightSaid : Prop := extentRightRow.holds Try.pinned (OpenSpec.ofChange extentRightSpec)

/-- ITS FALSE NEIGHBOUR: 'it returns false'. Refute it at one input. -/
def extentRightWrong : ChangeSpec := { name := "extentRight", fn := fun _ => fun
  | [d1, d2] => { results := [.lit (.bool false)], args := [d1, d2] }
  | _ => none }
def ExtentRightWrongFalsely : Prop := extentRightRow.holds Try.pinned (OpenSpec.ofChange extentRightWrong)

/-- 'socagelaw03.ExtentReads': WHATEVER THE INPUT: true; the input reads as it did. -/
def extentReadsSpec : ChangeSpec := { name := "extentReads", fn := fun _ => fun
  | [d1, d2, d3] => { results := [.lit (.bool true)], args := [d1, d2, d3] }
  | _ => none }
def extentReadsRow : OpenClaim := { program := "ytcmiahkfbnojnaa", sum := "54af1b54f23b60f36f4fd217d3aa41166395b8624f1d4356ca03d0a6b83c8a10", func := "socage/socagelaw03.ExtentReads", spec := "extentReads", inPlace := ["internal/abi.NoEscape", "internal/bytealg.MakeNoZero"], apart := false }
def ExtentReadsSaid : Prop := extentReadsRow.holds Try.pinned (OpenSpec.ofChange extentReadsSpec)

/-- ITS FALSE NEIGHBOUR: 'it returns false'. Refute it at one input. -/
def extentReadsWrong : ChangeSpec := { name := "extentReads", fn := fun _ => fun
  | [d1, d2, d3] => { results := [.lit (.bool false)], args := [d1, d2, d3] }
  | _ => none }
def ExtentReadsWrongFalsely : Prop := extentReadsRow.holds Try.pinned (OpenSpec.ofChange extentReadsWrong)

/-- 'socagelaw03.ExtentBack': WHATEVER THE INPUT: true; the input reads as it did. -/
def extentBackSpec : ChangeSpec := { name := "extentBack", fn := fun _ => fun
  | [d] => { results := [.lit (.bool true)], args := [d] }
  | _ => none }
def extentBackRow : OpenClaim := { program := "ytcmiahkfbnojnaa", sum := "54af1b54f23b60f36f4fd217d3aa41166395b8624f1d4356ca03d0a6b83c8a10", func := "socage/socagelaw03.ExtentBack", spec := "extentBack", inPlace := ["internal/abi.NoEscape", "internal/bytealg.MakeNoZero"], apart := false }
def ExtentBackSaid : Prop := extentBackRow.holds Try.pinned (OpenSpec.ofChange extentBackSpec)

/-- ITS FALSE NEIGHBOUR: 'it returns false'. Refute it at one input. -/
def extentBackWrong : ChangeSpec := { name := "extentBack", fn := fun _ => fun
  | [d] => { results := [.lit (.bool false)], args := [d] }
  | _ => none }
def ExtentBackWrongFalsely : Prop := extentBackRow.holds Try.pinned (OpenSpec.ofChange extentBackWrong)

/- THE SECOND FORM. 'bulk': how many values and letters a reading holds, each counted each time it is reached (what is shared counts as often as it is met; a slice's spare places count too). A statement '..UptoSaid' is the law's where the arguments, and the package variables that the reading takes, are together of bulk at most 1048576: NARROWER than '..Said'. Prove '..Said' where nothing that the law and all that it calls make is longer than what came in: it says more and counts as full. Else prove '..UptoSaid'. A law counts once. -/
mutual
def uptoBulk {H : Type} : DataW H → Nat
  | .lit (.string bytes) => bytes.length + 1
  | .lit _ => 1
  | .nil => 1
  | .ptr d => uptoBulk d + 1
  | .slice elems spare => uptoBulkAll elems + uptoBulkAll spare + 1
  | .agg parts => uptoBulkAll parts + 1
  | .iface _ d => uptoBulk d + 1
  | .map entries => uptoBulkEntries entries + 1
  | .held _ => 1
def uptoBulkAll {H : Type} : List (DataW H) → Nat
  | [] => 0
  | d :: r => uptoBulk d + uptoBulkAll r
def uptoBulkEntries {H : Type} : List (Lit × DataW H) → Nat
  | [] => 0
  | x :: r => uptoBulkEntry x + uptoBulkEntries r
def uptoBulkEntry {H : Type} : Lit × DataW H → Nat
  | (.string bytes, d) => bytes.length + uptoBulk d + 1
  | (_, d) => uptoBulk d + 1
 end
def uptoSmall : (H : Type) → List (DataW H) → Bool := fun _ ds => decide (uptoBulkAll ds ≤ 1048576)
def OpenSpec.upto (s : _root_.Go.ChangeSpec) : _root_.Go.OpenSpec := { _root_.Go.OpenSpec.ofChange s with cond := some uptoSmall }

/-- 'socagelaw17.GateDoes', WHERE WHAT IT READS IS OF BULK AT MOST 1048576: true; the input reads as it did. -/
def gateDoesUptoRow : OpenClaim := { program := "ytcmiahkfbnojnaa", sum := "54af1b54f23b60f36f4fd217d3aa41166395b8624f1d4356ca03d0a6b83c8a10", func := "socage/socagelaw17.GateDoes", spec := "gateDoes", apart := false, narrowed := true }
def GateDoesUptoSaid : Prop := gateDoesUptoRow.holds Try.pinned (OpenSpec.upto gateDoesSpec)

/-- 'socagelaw17.GateTurns', WHERE WHAT IT READS IS OF BULK AT MOST 1048576: true; the input reads as it did. -/
def gateTurnsUptoRow : OpenClaim := { program := "ytcmiahkfbnojnaa", sum := "54af1b54f23b60f36f4fd217d3aa41166395b8624f1d4356ca03d0a6b83c8a10", func := "socage/socagelaw17.GateTurns", spec := "gateTurns", apart := false, narrowed := true }
def GateTurnsUptoSaid : Prop := gateTurnsUptoRow.holds Try.pinned (OpenSpec.upto gateTurnsSpec)

/-- 'socagelaw09.HeapMerges', WHERE WHAT IT READS IS OF BULK AT MOST 1048576: true; the input reads as it did. -/
def heapMergesUptoRow : OpenClaim := { program := "ytcmiahkfbnojnaa", sum := "54af1b54f23b60f36f4fd217d3aa41166395b8624f1d4356ca03d0a6b83c8a10", func := "socage/socagelaw09.HeapMerges", spec := "heapMerges", unfollowed := true, recurses := true, apart := false, narrowed := true }
def HeapMergesUptoSaid : Prop := heapMergesUptoRow.holds Try.pinned (OpenSpec.upto heapMergesSpec)

/-- 'socagelaw09.HeapParts', WHERE WHAT IT READS IS OF BULK AT MOST 1048576: true; the input reads as it did. -/
def heapPartsUptoRow : OpenClaim := { program := "ytcmiahkfbnojnaa", sum := "54af1b54f23b60f36f4fd217d3aa41166395b8624f1d4356ca03d0a6b83c8a10", func := "socage/socagelaw09.HeapParts", spec := "heapParts", unfollowed := true, recurses := true, apart := false, narrowed := true }
def HeapPartsUptoSaid : Prop := heapPartsUptoRow.holds Try.pinned (OpenSpec.upto heapPartsSpec)

/-- 'socagelaw03.ExtentRight', WHERE WHAT IT READS IS OF BULK AT MOST 1048576: true; the input reads as it did. -/
def extentRightUptoRow : OpenClaim := { program := "ytcmiahkfbnojnaa", sum := "54af1b54f23b60f36f4fd217d3aa41166395b8624f1d4356ca03d0a6b83c8a10", func := "socage/socagelaw03.ExtentRight", spec := "extentRight", inPlace := ["internal/abi.NoEscape", "internal/bytealg.MakeNoZero"], apart := false, narrowed := true }
def ExtentRightUptoSaid : Prop := extentRightUptoRow.holds Try.pinned (OpenSpec.upto extentRightSpec)

/-- 'socagelaw03.ExtentReads', WHERE WHAT IT READS IS OF BULK AT MOST 1048576: true; the input reads as it did. -/
def extentReadsUptoRow : OpenClaim := { program := "ytcmiahkfbnojnaa", sum := "54af1b54f23b60f36f4fd217d3aa41166395b8624f1d4356ca03d0a6b83c8a10", func := "socage/socagelaw03.ExtentReads", spec := "extentReads", inPlace := ["internal/abi.NoEscape", "internal/bytealg.MakeNoZero"], apart := false, narrowed := true }
def ExtentReadsUptoSaid : Prop := extentReadsUptoRow.holds Try.pinned (OpenSpec.upto extentReadsSpec)

/-- 'socagelaw03.ExtentBack', WHERE WHAT IT READS IS OF BULK AT MOST 1048576: true; the input reads as it did. -/
def extentBackUptoRow : OpenClaim := { program := "ytcmiahkfbnojnaa", sum := "54af1b54f23b60f36f4fd217d3aa41166395b8624f1d4356ca03d0a6b83c8a10", func := "socage/socagelaw03.ExtentBack", spec := "extentBack", inPlace := ["internal/abi.NoEscape", "internal/bytealg.MakeNoZero"], apart := false, narrowed := true }
def ExtentBackUptoSaid : Prop := extentBackUptoRow.holds Try.pinned (OpenSpec.upto extentBackSpec)

end Rows
end Go.Proofs.Ytcmiahkfbnojnaa
