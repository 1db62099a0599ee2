/-
  DERIVED. GIVEN WITH THE SEED: THE CARDS: each row of YtdjfhghokfiieaaGreatDoorRows.lean that lists a variable, with what it lists TIED to the program's text (the seventh form; the later family's looks); each row that meets fmt, with fmt's text TOLD by the authors' own Lean function (tested against real Go, not proved from fmt's source: count such statements apart). THE CARD IS WHAT COUNTS. Prove the row's statement (the work); the ties are given (YtdjfhghokfiieaaGreatDoorTie.lean); close each card by the builder's one call (the guide's Derived/Test/ToyasCard.lean, 'card_holds'). Laid BY PROGRAM, IN A SANDBOX (cutbox-door.mjs). By AI agents, Wed Nov 11 2026. No macro, syntax, notation, axiom, sorry.
-/
import Derived.Test.YtdjfhghokfiieaaGreatDoorRows
import GoSem.ClaimSeven
namespace Go.Proofs.YtdjfhghokfiieaaGreatDoor
namespace Rows

/-- THE TIED CARD OF 'socagetop.WholePaths'. -/
def wholePathsCard : Claim7 := { stood := { row := wholePathsRow, standIns := [], harness := (true, "950d0f19aaadb0656c375a0cdd13c345c7aeee590ea3a86fe3fc05ba0466e2bd"), looks := true }, kinds := [], alts := [], laidByText := true, laidKinds := [.data, .pinned], laidTests := true, laidLooks := .later }
def WholePathsCardSaid : Prop := Claim7.holds Tryz.pinned (.plain (OpenSpec.ofChange wholePathsSpec)) wholePathsCard

/-- THE TIED CARD OF 'socagelaw12.UnionDoes'. -/
def unionDoesCard : Claim7 := { stood := { row := unionDoesRow, standIns := [], harness := (true, "950d0f19aaadb0656c375a0cdd13c345c7aeee590ea3a86fe3fc05ba0466e2bd"), looks := true }, kinds := [], alts := [], laidByText := true, laidKinds := [.data, .pinned], laidTests := true, laidLooks := .later }
def UnionDoesCardSaid : Prop := Claim7.holds Tryz.pinned (.plain (OpenSpec.ofChange unionDoesSpec)) unionDoesCard

/-- THE TIED CARD OF 'socagelaw12.UnionParts'. -/
def unionPartsCard : Claim7 := { stood := { row := unionPartsRow, standIns := [], harness := (true, "950d0f19aaadb0656c375a0cdd13c345c7aeee590ea3a86fe3fc05ba0466e2bd"), looks := true }, kinds := [], alts := [], laidByText := true, laidKinds := [.data, .pinned], laidTests := true, laidLooks := .later }
def UnionPartsCardSaid : Prop := Claim7.holds Tryz.pinned (.plain (OpenSpec.ofChange unionPartsSpec)) unionPartsCard

/-- THE TIED CARD OF 'socagelaw12.UnionLists'. -/
def unionListsCard : Claim7 := { stood := { row := unionListsRow, standIns := [], harness := (true, "950d0f19aaadb0656c375a0cdd13c345c7aeee590ea3a86fe3fc05ba0466e2bd"), looks := true }, kinds := [], alts := [], laidByText := true, laidKinds := [.data, .pinned], laidTests := true, laidLooks := .later }
def UnionListsCardSaid : Prop := Claim7.holds Tryz.pinned (.plain (OpenSpec.ofChange unionListsSpec)) unionListsCard

/-- THE TIED CARD OF 'socagelaw25.ScriptStacks'. -/
def scriptStacksCard : Claim7 := { stood := { row := scriptStacksRow, standIns := [], harness := (true, "950d0f19aaadb0656c375a0cdd13c345c7aeee590ea3a86fe3fc05ba0466e2bd"), looks := true }, kinds := [], alts := [], laidByText := true, laidKinds := [.data, .data, .data, .data, .sentinel, .sentinel, .pinned], laidTests := true, laidLooks := .later }
def ScriptStacksCardSaid : Prop := Claim7.holds Tryz.pinned (.plain (OpenSpec.ofChange scriptStacksSpec)) scriptStacksCard

/-- THE SECOND FORM's CARD OF 'socagetop.WholePaths'. -/
def wholePathsUptoCard : Claim7 := { stood := { row := wholePathsUptoRow, standIns := [], harness := (true, "950d0f19aaadb0656c375a0cdd13c345c7aeee590ea3a86fe3fc05ba0466e2bd"), looks := true }, kinds := [], alts := [], laidByText := true, laidKinds := [.data, .pinned], laidTests := true, laidLooks := .later }
def WholePathsUptoCardSaid : Prop := Claim7.holds Tryz.pinned (.plain (OpenSpec.upto wholePathsSpec)) wholePathsUptoCard

/-- THE SECOND FORM's CARD OF 'socagelaw12.UnionDoes'. -/
def unionDoesUptoCard : Claim7 := { stood := { row := unionDoesUptoRow, standIns := [], harness := (true, "950d0f19aaadb0656c375a0cdd13c345c7aeee590ea3a86fe3fc05ba0466e2bd"), looks := true }, kinds := [], alts := [], laidByText := true, laidKinds := [.data, .pinned], laidTests := true, laidLooks := .later }
def UnionDoesUptoCardSaid : Prop := Claim7.holds Tryz.pinned (.plain (OpenSpec.upto unionDoesSpec)) unionDoesUptoCard

/-- THE SECOND FORM's CARD OF 'socagelaw12.UnionParts'. -/
def unionPartsUptoCard : Claim7 := { stood := { row := unionPartsUptoRow, standIns := [], harness := (true, "950d0f19aaadb0656c375a0cdd13c345c7aeee590ea3a86fe3fc05ba0466e2bd"), looks := true }, kinds := [], alts := [], laidByText := true, laidKinds := [.data, .pinned], laidTests := true, laidLooks := .later }
def UnionPartsUptoCardSaid : Prop := Claim7.holds Tryz.pinned (.plain (OpenSpec.upto unionPartsSpec)) unionPartsUptoCard

/-- THE SECOND FORM's CARD OF 'socagelaw12.UnionLists'. -/
def unionListsUptoCard : Claim7 := { stood := { row := unionListsUptoRow, standIns := [], harness := (true, "950d0f19aaadb0656c375a0cdd13c345c7aeee590ea3a86fe3fc05ba0466e2bd"), looks := true }, kinds := [], alts := [], laidByText := true, laidKinds := [.data, .pinned], laidTests := true, laidLooks := .later }
def UnionListsUptoCardSaid : Prop := Claim7.holds Tryz.pinned (.plain (OpenSpec.upto unionListsSpec)) unionListsUptoCard

/-- THE SECOND FORM's CARD OF 'socagelaw25.ScriptStacks'. -/
def scriptStacksUptoCard : Claim7 := { stood := { row := scriptStacksUptoRow, standIns := [], harness := (true, "950d0f19aaadb0656c375a0cdd13c345c7aeee590ea3a86fe3fc05ba0466e2bd"), looks := true }, kinds := [], alts := [], laidByText := true, laidKinds := [.data, .data, .data, .data, .sentinel, .sentinel, .pinned], laidTests := true, laidLooks := .later }
def ScriptStacksUptoCardSaid : Prop := Claim7.holds Tryz.pinned (.plain (OpenSpec.upto scriptStacksSpec)) scriptStacksUptoCard
end Rows
end Go.Proofs.YtdjfhghokfiieaaGreatDoor
