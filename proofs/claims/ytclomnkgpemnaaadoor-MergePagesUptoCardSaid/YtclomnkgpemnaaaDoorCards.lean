/-
  DERIVED. GIVEN WITH THE SEED: THE CARDS: each row of YtclomnkgpemnaaaDoorRows.lean that lists a variable, with what it lists TIED to the program's text (the seventh form; the later family's looks); each row that meets fmt, with fmt's text TOLD by the authors' own Lean function (tested against real Go, not proved from fmt's source: count such statements apart). THE CARD IS WHAT COUNTS. Prove the row's statement (the work); the ties are given (YtclomnkgpemnaaaDoorTie.lean); close each card by the builder's one call (the guide's Derived/Test/ToyasCard.lean, 'card_holds'). Laid BY PROGRAM, IN A SANDBOX (cutbox-door.mjs). By AI agents, Wed Nov 11 2026. No macro, syntax, notation, axiom, sorry.
-/
import Derived.Test.YtclomnkgpemnaaaDoorRows
import GoSem.ClaimSeven
namespace Go.Proofs.YtclomnkgpemnaaaDoor
namespace Rows

/-- THE TIED CARD OF 'socagelaw08.SeenAll'. -/
def seenAllCard : Claim7 := { stood := { row := seenAllRow, standIns := [], harness := (true, "3ee5d9ea2570eddfb62db084da86ede229a800adeaedb4c9b2519ad627c59b14"), looks := false }, kinds := [], alts := [], laidByText := true, laidKinds := [.data, .pinned], laidTests := true, laidLooks := .later }
def SeenAllCardSaid : Prop := Claim7.holds Tryd.pinned (.plain (OpenSpec.ofChange seenAllSpec)) seenAllCard

/-- THE TIED CARD OF 'socagelaw11.WalkOwn'. -/
def walkOwnCard : Claim7 := { stood := { row := walkOwnRow, standIns := [], harness := (true, "3ee5d9ea2570eddfb62db084da86ede229a800adeaedb4c9b2519ad627c59b14"), looks := false }, kinds := [], alts := [], laidByText := true, laidKinds := [.data, .pinned], laidTests := true, laidLooks := .later }
def WalkOwnCardSaid : Prop := Claim7.holds Tryd.pinned (.plain (OpenSpec.ofChange walkOwnSpec)) walkOwnCard

/-- THE TIED CARD OF 'socagelaw06.BranchLooks'. -/
def branchLooksCard : Claim7 := { stood := { row := branchLooksRow, standIns := [], harness := (true, "3ee5d9ea2570eddfb62db084da86ede229a800adeaedb4c9b2519ad627c59b14"), looks := false }, kinds := [], alts := [], laidByText := true, laidKinds := [.data, .pinned], laidTests := true, laidLooks := .later }
def BranchLooksCardSaid : Prop := Claim7.holds Tryd.pinned (.plain (OpenSpec.ofChange branchLooksSpec)) branchLooksCard

/-- THE TIED CARD OF 'socagelaw11.WalkLeads'. -/
def walkLeadsCard : Claim7 := { stood := { row := walkLeadsRow, standIns := [], harness := (true, "3ee5d9ea2570eddfb62db084da86ede229a800adeaedb4c9b2519ad627c59b14"), looks := false }, kinds := [], alts := [], laidByText := true, laidKinds := [.data, .pinned], laidTests := true, laidLooks := .later }
def WalkLeadsCardSaid : Prop := Claim7.holds Tryd.pinned (.plain (OpenSpec.ofChange walkLeadsSpec)) walkLeadsCard

/-- THE TIED CARD OF 'socagelaw11.WalkSteps'. -/
def walkStepsCard : Claim7 := { stood := { row := walkStepsRow, standIns := [], harness := (true, "3ee5d9ea2570eddfb62db084da86ede229a800adeaedb4c9b2519ad627c59b14"), looks := false }, kinds := [], alts := [], laidByText := true, laidKinds := [.data, .pinned], laidTests := true, laidLooks := .later }
def WalkStepsCardSaid : Prop := Claim7.holds Tryd.pinned (.plain (OpenSpec.ofChange walkStepsSpec)) walkStepsCard

/-- THE TIED CARD OF 'socagelaw10.MergePages'. -/
def mergePagesCard : Claim7 := { stood := { row := mergePagesRow, standIns := [], harness := (true, "3ee5d9ea2570eddfb62db084da86ede229a800adeaedb4c9b2519ad627c59b14"), looks := false }, kinds := [], alts := [], laidByText := true, laidKinds := [.data, .pinned], laidTests := true, laidLooks := .later }
def MergePagesCardSaid : Prop := Claim7.holds Tryd.pinned (.plain (OpenSpec.ofChange mergePagesSpec)) mergePagesCard

/-- THE TIED CARD OF 'socagelaw10.MergeOdd'. -/
def mergeOddCard : Claim7 := { stood := { row := mergeOddRow, standIns := [], harness := (true, "3ee5d9ea2570eddfb62db084da86ede229a800adeaedb4c9b2519ad627c59b14"), looks := false }, kinds := [], alts := [], laidByText := true, laidKinds := [.data, .pinned], laidTests := true, laidLooks := .later }
def MergeOddCardSaid : Prop := Claim7.holds Tryd.pinned (.plain (OpenSpec.ofChange mergeOddSpec)) mergeOddCard

/-- THE TIED CARD OF 'socagelaw06.BranchNodes'. -/
def branchNodesCard : Claim7 := { stood := { row := branchNodesRow, standIns := [], harness := (true, "3ee5d9ea2570eddfb62db084da86ede229a800adeaedb4c9b2519ad627c59b14"), looks := false }, kinds := [], alts := [], laidByText := true, laidKinds := [.data, .pinned], laidTests := true, laidLooks := .later }
def BranchNodesCardSaid : Prop := Claim7.holds Tryd.pinned (.plain (OpenSpec.ofChange branchNodesSpec)) branchNodesCard

/-- THE TIED CARD OF 'socagelaw10.MergeLists'. -/
def mergeListsCard : Claim7 := { stood := { row := mergeListsRow, standIns := [], harness := (true, "3ee5d9ea2570eddfb62db084da86ede229a800adeaedb4c9b2519ad627c59b14"), looks := false }, kinds := [], alts := [], laidByText := true, laidKinds := [.data, .pinned], laidTests := true, laidLooks := .later }
def MergeListsCardSaid : Prop := Claim7.holds Tryd.pinned (.plain (OpenSpec.ofChange mergeListsSpec)) mergeListsCard

/-- THE TIED CARD OF 'socagelaw06.BranchReads'. -/
def branchReadsCard : Claim7 := { stood := { row := branchReadsRow, standIns := [], harness := (true, "3ee5d9ea2570eddfb62db084da86ede229a800adeaedb4c9b2519ad627c59b14"), looks := false }, kinds := [], alts := [], laidByText := true, laidKinds := [.data, .pinned], laidTests := true, laidLooks := .later }
def BranchReadsCardSaid : Prop := Claim7.holds Tryd.pinned (.plain (OpenSpec.ofChange branchReadsSpec)) branchReadsCard

/-- THE SECOND FORM's CARD OF 'socagelaw08.SeenAll'. -/
def seenAllUptoCard : Claim7 := { stood := { row := seenAllUptoRow, standIns := [], harness := (true, "3ee5d9ea2570eddfb62db084da86ede229a800adeaedb4c9b2519ad627c59b14"), looks := false }, kinds := [], alts := [], laidByText := true, laidKinds := [.data, .pinned], laidTests := true, laidLooks := .later }
def SeenAllUptoCardSaid : Prop := Claim7.holds Tryd.pinned (.plain (OpenSpec.upto seenAllSpec)) seenAllUptoCard

/-- THE SECOND FORM's CARD OF 'socagelaw11.WalkOwn'. -/
def walkOwnUptoCard : Claim7 := { stood := { row := walkOwnUptoRow, standIns := [], harness := (true, "3ee5d9ea2570eddfb62db084da86ede229a800adeaedb4c9b2519ad627c59b14"), looks := false }, kinds := [], alts := [], laidByText := true, laidKinds := [.data, .pinned], laidTests := true, laidLooks := .later }
def WalkOwnUptoCardSaid : Prop := Claim7.holds Tryd.pinned (.plain (OpenSpec.upto walkOwnSpec)) walkOwnUptoCard

/-- THE SECOND FORM's CARD OF 'socagelaw06.BranchLooks'. -/
def branchLooksUptoCard : Claim7 := { stood := { row := branchLooksUptoRow, standIns := [], harness := (true, "3ee5d9ea2570eddfb62db084da86ede229a800adeaedb4c9b2519ad627c59b14"), looks := false }, kinds := [], alts := [], laidByText := true, laidKinds := [.data, .pinned], laidTests := true, laidLooks := .later }
def BranchLooksUptoCardSaid : Prop := Claim7.holds Tryd.pinned (.plain (OpenSpec.upto branchLooksSpec)) branchLooksUptoCard

/-- THE SECOND FORM's CARD OF 'socagelaw11.WalkLeads'. -/
def walkLeadsUptoCard : Claim7 := { stood := { row := walkLeadsUptoRow, standIns := [], harness := (true, "3ee5d9ea2570eddfb62db084da86ede229a800adeaedb4c9b2519ad627c59b14"), looks := false }, kinds := [], alts := [], laidByText := true, laidKinds := [.data, .pinned], laidTests := true, laidLooks := .later }
def WalkLeadsUptoCardSaid : Prop := Claim7.holds Tryd.pinned (.plain (OpenSpec.upto walkLeadsSpec)) walkLeadsUptoCard

/-- THE SECOND FORM's CARD OF 'socagelaw11.WalkSteps'. -/
def walkStepsUptoCard : Claim7 := { stood := { row := walkStepsUptoRow, standIns := [], harness := (true, "3ee5d9ea2570eddfb62db084da86ede229a800adeaedb4c9b2519ad627c59b14"), looks := false }, kinds := [], alts := [], laidByText := true, laidKinds := [.data, .pinned], laidTests := true, laidLooks := .later }
def WalkStepsUptoCardSaid : Prop := Claim7.holds Tryd.pinned (.plain (OpenSpec.upto walkStepsSpec)) walkStepsUptoCard

/-- THE SECOND FORM's CARD OF 'socagelaw10.MergePages'. -/
def mergePagesUptoCard : Claim7 := { stood := { row := mergePagesUptoRow, standIns := [], harness := (true, "3ee5d9ea2570eddfb62db084da86ede229a800adeaedb4c9b2519ad627c59b14"), looks := false }, kinds := [], alts := [], laidByText := true, laidKinds := [.data, .pinned], laidTests := true, laidLooks := .later }
def MergePagesUptoCardSaid : Prop := Claim7.holds Tryd.pinned (.plain (OpenSpec.upto mergePagesSpec)) mergePagesUptoCard

/-- THE SECOND FORM's CARD OF 'socagelaw10.MergeOdd'. -/
def mergeOddUptoCard : Claim7 := { stood := { row := mergeOddUptoRow, standIns := [], harness := (true, "3ee5d9ea2570eddfb62db084da86ede229a800adeaedb4c9b2519ad627c59b14"), looks := false }, kinds := [], alts := [], laidByText := true, laidKinds := [.data, .pinned], laidTests := true, laidLooks := .later }
def MergeOddUptoCardSaid : Prop := Claim7.holds Tryd.pinned (.plain (OpenSpec.upto mergeOddSpec)) mergeOddUptoCard

/-- THE SECOND FORM's CARD OF 'socagelaw06.BranchNodes'. -/
def branchNodesUptoCard : Claim7 := { stood := { row := branchNodesUptoRow, standIns := [], harness := (true, "3ee5d9ea2570eddfb62db084da86ede229a800adeaedb4c9b2519ad627c59b14"), looks := false }, kinds := [], alts := [], laidByText := true, laidKinds := [.data, .pinned], laidTests := true, laidLooks := .later }
def BranchNodesUptoCardSaid : Prop := Claim7.holds Tryd.pinned (.plain (OpenSpec.upto branchNodesSpec)) branchNodesUptoCard

/-- THE SECOND FORM's CARD OF 'socagelaw10.MergeLists'. -/
def mergeListsUptoCard : Claim7 := { stood := { row := mergeListsUptoRow, standIns := [], harness := (true, "3ee5d9ea2570eddfb62db084da86ede229a800adeaedb4c9b2519ad627c59b14"), looks := false }, kinds := [], alts := [], laidByText := true, laidKinds := [.data, .pinned], laidTests := true, laidLooks := .later }
def MergeListsUptoCardSaid : Prop := Claim7.holds Tryd.pinned (.plain (OpenSpec.upto mergeListsSpec)) mergeListsUptoCard

/-- THE SECOND FORM's CARD OF 'socagelaw06.BranchReads'. -/
def branchReadsUptoCard : Claim7 := { stood := { row := branchReadsUptoRow, standIns := [], harness := (true, "3ee5d9ea2570eddfb62db084da86ede229a800adeaedb4c9b2519ad627c59b14"), looks := false }, kinds := [], alts := [], laidByText := true, laidKinds := [.data, .pinned], laidTests := true, laidLooks := .later }
def BranchReadsUptoCardSaid : Prop := Claim7.holds Tryd.pinned (.plain (OpenSpec.upto branchReadsSpec)) branchReadsUptoCard
end Rows
end Go.Proofs.YtclomnkgpemnaaaDoor
