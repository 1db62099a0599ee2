/-
  DERIVED. GIVEN WITH THE SEED: THE CARDS: each row of YtjkffbaienbmkaaGreatDoorRows.lean that lists a variable, with what it lists TIED to the program's text (the seventh form; the later family's looks); each row that meets fmt, with fmt's text TOLD by the authors' own Lean function (tested against real Go, not proved from fmt's source: count such statements apart). THE CARD IS WHAT COUNTS. Prove the row's statement (the work); the ties are given (YtjkffbaienbmkaaGreatDoorTie.lean); close each card by the builder's one call (the guide's Derived/Test/ToyasCard.lean, 'card_holds'). Laid BY PROGRAM, IN A SANDBOX (cutbox-door.mjs). By AI agents, Wed Nov 11 2026. No macro, syntax, notation, axiom, sorry.
-/
import Derived.Test.YtjkffbaienbmkaaGreatDoorRows
import GoSem.ClaimSeven
namespace Go.Proofs.YtjkffbaienbmkaaGreatDoor
namespace Rows

/-- THE TIED CARD OF 'socagelaw21.ServerLocks'. -/
def serverLocksCard : Claim7 := { stood := { row := serverLocksRow, standIns := [], harness := (true, "19f4d5bcc6f8cf7bdd58f05bd141625f06788afdddbfa95df53f2504afe0ec90"), looks := true }, kinds := [], alts := [], laidByText := true, laidKinds := [.data, .pinned], laidTests := true, laidLooks := .later }
def ServerLocksCardSaid : Prop := Claim7.holds Tryz.pinned (.plain (OpenSpec.ofChange serverLocksSpec)) serverLocksCard

/-- THE TIED CARD OF 'socagelaw21.ServerSees'. -/
def serverSeesCard : Claim7 := { stood := { row := serverSeesRow, standIns := [], harness := (true, "19f4d5bcc6f8cf7bdd58f05bd141625f06788afdddbfa95df53f2504afe0ec90"), looks := true }, kinds := [], alts := [], laidByText := true, laidKinds := [.data, .pinned], laidTests := true, laidLooks := .later }
def ServerSeesCardSaid : Prop := Claim7.holds Tryz.pinned (.plain (OpenSpec.ofChange serverSeesSpec)) serverSeesCard

/-- THE TIED CARD OF 'socagelaw21.ServerLists'. -/
def serverListsCard : Claim7 := { stood := { row := serverListsRow, standIns := [], harness := (true, "19f4d5bcc6f8cf7bdd58f05bd141625f06788afdddbfa95df53f2504afe0ec90"), looks := true }, kinds := [], alts := [], laidByText := true, laidKinds := [.data, .pinned], laidTests := true, laidLooks := .later }
def ServerListsCardSaid : Prop := Claim7.holds Tryz.pinned (.plain (OpenSpec.ofChange serverListsSpec)) serverListsCard

/-- THE TIED CARD OF 'socagelaw20.SpecDoes'. -/
def specDoesCard : Claim7 := { stood := { row := specDoesRow, standIns := [], harness := (true, "19f4d5bcc6f8cf7bdd58f05bd141625f06788afdddbfa95df53f2504afe0ec90"), looks := true }, kinds := [], alts := [], laidByText := true, laidKinds := [.data, .pinned], laidTests := true, laidLooks := .later }
def SpecDoesCardSaid : Prop := Claim7.holds Tryz.pinned (.plain (OpenSpec.ofChange specDoesSpec)) specDoesCard

/-- THE TIED CARD OF 'socagelaw20.SpecPages'. -/
def specPagesCard : Claim7 := { stood := { row := specPagesRow, standIns := [], harness := (true, "19f4d5bcc6f8cf7bdd58f05bd141625f06788afdddbfa95df53f2504afe0ec90"), looks := true }, kinds := [], alts := [], laidByText := true, laidKinds := [.data, .pinned], laidTests := true, laidLooks := .later }
def SpecPagesCardSaid : Prop := Claim7.holds Tryz.pinned (.plain (OpenSpec.ofChange specPagesSpec)) specPagesCard

/-- THE TIED CARD OF 'socagelaw20.SpecParts'. -/
def specPartsCard : Claim7 := { stood := { row := specPartsRow, standIns := [], harness := (true, "19f4d5bcc6f8cf7bdd58f05bd141625f06788afdddbfa95df53f2504afe0ec90"), looks := true }, kinds := [], alts := [], laidByText := true, laidKinds := [.data, .pinned], laidTests := true, laidLooks := .later }
def SpecPartsCardSaid : Prop := Claim7.holds Tryz.pinned (.plain (OpenSpec.ofChange specPartsSpec)) specPartsCard

/-- THE TIED CARD OF 'socagelaw24.TaleJudges'. -/
def taleJudgesCard : Claim7 := { stood := { row := taleJudgesRow, standIns := [], harness := (true, "19f4d5bcc6f8cf7bdd58f05bd141625f06788afdddbfa95df53f2504afe0ec90"), looks := true }, kinds := [], alts := [], laidByText := true, laidKinds := [.data, .pinned], laidTests := true, laidLooks := .later }
def TaleJudgesCardSaid : Prop := Claim7.holds Tryz.pinned (.plain (OpenSpec.ofChange taleJudgesSpec)) taleJudgesCard

/-- THE TIED CARD OF 'socagetop.WholeCalls'. -/
def wholeCallsCard : Claim7 := { stood := { row := wholeCallsRow, standIns := [], harness := (true, "19f4d5bcc6f8cf7bdd58f05bd141625f06788afdddbfa95df53f2504afe0ec90"), looks := true }, kinds := [], alts := [], laidByText := true, laidKinds := [.data, .data, .data, .data, .sentinel, .sentinel, .pinned], laidTests := true, laidLooks := .later }
def WholeCallsCardSaid : Prop := Claim7.holds Tryz.pinned (.plain (OpenSpec.ofChange wholeCallsSpec)) wholeCallsCard

/-- THE SECOND FORM's CARD OF 'socagelaw21.ServerLocks'. -/
def serverLocksUptoCard : Claim7 := { stood := { row := serverLocksUptoRow, standIns := [], harness := (true, "19f4d5bcc6f8cf7bdd58f05bd141625f06788afdddbfa95df53f2504afe0ec90"), looks := true }, kinds := [], alts := [], laidByText := true, laidKinds := [.data, .pinned], laidTests := true, laidLooks := .later }
def ServerLocksUptoCardSaid : Prop := Claim7.holds Tryz.pinned (.plain (OpenSpec.upto serverLocksSpec)) serverLocksUptoCard

/-- THE SECOND FORM's CARD OF 'socagelaw21.ServerSees'. -/
def serverSeesUptoCard : Claim7 := { stood := { row := serverSeesUptoRow, standIns := [], harness := (true, "19f4d5bcc6f8cf7bdd58f05bd141625f06788afdddbfa95df53f2504afe0ec90"), looks := true }, kinds := [], alts := [], laidByText := true, laidKinds := [.data, .pinned], laidTests := true, laidLooks := .later }
def ServerSeesUptoCardSaid : Prop := Claim7.holds Tryz.pinned (.plain (OpenSpec.upto serverSeesSpec)) serverSeesUptoCard

/-- THE SECOND FORM's CARD OF 'socagelaw21.ServerLists'. -/
def serverListsUptoCard : Claim7 := { stood := { row := serverListsUptoRow, standIns := [], harness := (true, "19f4d5bcc6f8cf7bdd58f05bd141625f06788afdddbfa95df53f2504afe0ec90"), looks := true }, kinds := [], alts := [], laidByText := true, laidKinds := [.data, .pinned], laidTests := true, laidLooks := .later }
def ServerListsUptoCardSaid : Prop := Claim7.holds Tryz.pinned (.plain (OpenSpec.upto serverListsSpec)) serverListsUptoCard

/-- THE SECOND FORM's CARD OF 'socagelaw20.SpecDoes'. -/
def specDoesUptoCard : Claim7 := { stood := { row := specDoesUptoRow, standIns := [], harness := (true, "19f4d5bcc6f8cf7bdd58f05bd141625f06788afdddbfa95df53f2504afe0ec90"), looks := true }, kinds := [], alts := [], laidByText := true, laidKinds := [.data, .pinned], laidTests := true, laidLooks := .later }
def SpecDoesUptoCardSaid : Prop := Claim7.holds Tryz.pinned (.plain (OpenSpec.upto specDoesSpec)) specDoesUptoCard

/-- THE SECOND FORM's CARD OF 'socagelaw20.SpecPages'. -/
def specPagesUptoCard : Claim7 := { stood := { row := specPagesUptoRow, standIns := [], harness := (true, "19f4d5bcc6f8cf7bdd58f05bd141625f06788afdddbfa95df53f2504afe0ec90"), looks := true }, kinds := [], alts := [], laidByText := true, laidKinds := [.data, .pinned], laidTests := true, laidLooks := .later }
def SpecPagesUptoCardSaid : Prop := Claim7.holds Tryz.pinned (.plain (OpenSpec.upto specPagesSpec)) specPagesUptoCard

/-- THE SECOND FORM's CARD OF 'socagelaw20.SpecParts'. -/
def specPartsUptoCard : Claim7 := { stood := { row := specPartsUptoRow, standIns := [], harness := (true, "19f4d5bcc6f8cf7bdd58f05bd141625f06788afdddbfa95df53f2504afe0ec90"), looks := true }, kinds := [], alts := [], laidByText := true, laidKinds := [.data, .pinned], laidTests := true, laidLooks := .later }
def SpecPartsUptoCardSaid : Prop := Claim7.holds Tryz.pinned (.plain (OpenSpec.upto specPartsSpec)) specPartsUptoCard

/-- THE SECOND FORM's CARD OF 'socagelaw24.TaleJudges'. -/
def taleJudgesUptoCard : Claim7 := { stood := { row := taleJudgesUptoRow, standIns := [], harness := (true, "19f4d5bcc6f8cf7bdd58f05bd141625f06788afdddbfa95df53f2504afe0ec90"), looks := true }, kinds := [], alts := [], laidByText := true, laidKinds := [.data, .pinned], laidTests := true, laidLooks := .later }
def TaleJudgesUptoCardSaid : Prop := Claim7.holds Tryz.pinned (.plain (OpenSpec.upto taleJudgesSpec)) taleJudgesUptoCard

/-- THE SECOND FORM's CARD OF 'socagetop.WholeCalls'. -/
def wholeCallsUptoCard : Claim7 := { stood := { row := wholeCallsUptoRow, standIns := [], harness := (true, "19f4d5bcc6f8cf7bdd58f05bd141625f06788afdddbfa95df53f2504afe0ec90"), looks := true }, kinds := [], alts := [], laidByText := true, laidKinds := [.data, .data, .data, .data, .sentinel, .sentinel, .pinned], laidTests := true, laidLooks := .later }
def WholeCallsUptoCardSaid : Prop := Claim7.holds Tryz.pinned (.plain (OpenSpec.upto wholeCallsSpec)) wholeCallsUptoCard
end Rows
end Go.Proofs.YtjkffbaienbmkaaGreatDoor
