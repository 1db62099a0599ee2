/-
  DERIVED. GIVEN WITH THE SEED: THE CARDS: each row of YtehadbpejfjheaaGreatDoorRows.lean that lists a variable, with what it lists TIED to the program's text (the seventh form; the later family's looks); each row that meets fmt, with fmt's text TOLD by the authors' own Lean function (tested against real Go, not proved from fmt's source: count such statements apart). THE CARD IS WHAT COUNTS. Prove the row's statement (the work); the ties are given (YtehadbpejfjheaaGreatDoorTie.lean); close each card by the builder's one call (the guide's Derived/Test/ToyasCard.lean, 'card_holds'). Laid BY PROGRAM, IN A SANDBOX (cutbox-door.mjs). By AI agents, Wed Nov 11 2026. No macro, syntax, notation, axiom, sorry.
-/
import Derived.Test.YtehadbpejfjheaaGreatDoorRows
import GoSem.ClaimSeven
namespace Go.Proofs.YtehadbpejfjheaaGreatDoor
namespace Rows

/-- THE TIED CARD OF 'socagelaw21.ServerLocks'. -/
def serverLocksCard : Claim7 := { stood := { row := serverLocksRow, standIns := [], harness := (true, "88500db17e3b2911391ed298b80563af4005cc1b9baa3cb8d87b63a675e23155"), looks := false }, kinds := [], alts := [], laidByText := true, laidKinds := [.data, .pinned], laidTests := true, laidLooks := .later }
def ServerLocksCardSaid : Prop := Claim7.holds Tryz.pinned (.plain (OpenSpec.ofChange serverLocksSpec)) serverLocksCard

/-- THE TIED CARD OF 'socagelaw21.ServerSees'. -/
def serverSeesCard : Claim7 := { stood := { row := serverSeesRow, standIns := [], harness := (true, "88500db17e3b2911391ed298b80563af4005cc1b9baa3cb8d87b63a675e23155"), looks := false }, kinds := [], alts := [], laidByText := true, laidKinds := [.data, .pinned], laidTests := true, laidLooks := .later }
def ServerSeesCardSaid : Prop := Claim7.holds Tryz.pinned (.plain (OpenSpec.ofChange serverSeesSpec)) serverSeesCard

/-- THE TIED CARD OF 'socagelaw21.ServerLists'. -/
def serverListsCard : Claim7 := { stood := { row := serverListsRow, standIns := [], harness := (true, "88500db17e3b2911391ed298b80563af4005cc1b9baa3cb8d87b63a675e23155"), looks := false }, kinds := [], alts := [], laidByText := true, laidKinds := [.data, .pinned], laidTests := true, laidLooks := .later }
def ServerListsCardSaid : Prop := Claim7.holds Tryz.pinned (.plain (OpenSpec.ofChange serverListsSpec)) serverListsCard

/-- THE TIED CARD OF 'socagelaw12.UnionParts'. -/
def unionPartsCard : Claim7 := { stood := { row := unionPartsRow, standIns := [], harness := (true, "88500db17e3b2911391ed298b80563af4005cc1b9baa3cb8d87b63a675e23155"), looks := false }, kinds := [], alts := [], laidByText := true, laidKinds := [.data, .pinned], laidTests := true, laidLooks := .later }
def UnionPartsCardSaid : Prop := Claim7.holds Tryz.pinned (.plain (OpenSpec.ofChange unionPartsSpec)) unionPartsCard

/-- THE SECOND FORM's CARD OF 'socagelaw21.ServerLocks'. -/
def serverLocksUptoCard : Claim7 := { stood := { row := serverLocksUptoRow, standIns := [], harness := (true, "88500db17e3b2911391ed298b80563af4005cc1b9baa3cb8d87b63a675e23155"), looks := false }, kinds := [], alts := [], laidByText := true, laidKinds := [.data, .pinned], laidTests := true, laidLooks := .later }
def ServerLocksUptoCardSaid : Prop := Claim7.holds Tryz.pinned (.plain (OpenSpec.upto serverLocksSpec)) serverLocksUptoCard

/-- THE SECOND FORM's CARD OF 'socagelaw21.ServerSees'. -/
def serverSeesUptoCard : Claim7 := { stood := { row := serverSeesUptoRow, standIns := [], harness := (true, "88500db17e3b2911391ed298b80563af4005cc1b9baa3cb8d87b63a675e23155"), looks := false }, kinds := [], alts := [], laidByText := true, laidKinds := [.data, .pinned], laidTests := true, laidLooks := .later }
def ServerSeesUptoCardSaid : Prop := Claim7.holds Tryz.pinned (.plain (OpenSpec.upto serverSeesSpec)) serverSeesUptoCard

/-- THE SECOND FORM's CARD OF 'socagelaw21.ServerLists'. -/
def serverListsUptoCard : Claim7 := { stood := { row := serverListsUptoRow, standIns := [], harness := (true, "88500db17e3b2911391ed298b80563af4005cc1b9baa3cb8d87b63a675e23155"), looks := false }, kinds := [], alts := [], laidByText := true, laidKinds := [.data, .pinned], laidTests := true, laidLooks := .later }
def ServerListsUptoCardSaid : Prop := Claim7.holds Tryz.pinned (.plain (OpenSpec.upto serverListsSpec)) serverListsUptoCard

/-- THE SECOND FORM's CARD OF 'socagelaw12.UnionParts'. -/
def unionPartsUptoCard : Claim7 := { stood := { row := unionPartsUptoRow, standIns := [], harness := (true, "88500db17e3b2911391ed298b80563af4005cc1b9baa3cb8d87b63a675e23155"), looks := false }, kinds := [], alts := [], laidByText := true, laidKinds := [.data, .pinned], laidTests := true, laidLooks := .later }
def UnionPartsUptoCardSaid : Prop := Claim7.holds Tryz.pinned (.plain (OpenSpec.upto unionPartsSpec)) unionPartsUptoCard
end Rows
end Go.Proofs.YtehadbpejfjheaaGreatDoor
