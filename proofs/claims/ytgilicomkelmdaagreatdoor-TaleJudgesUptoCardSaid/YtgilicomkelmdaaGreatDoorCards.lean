/-
  DERIVED. GIVEN WITH THE SEED: THE CARDS: each row of YtgilicomkelmdaaGreatDoorRows.lean that lists a variable, with what it lists TIED to the program's text (the seventh form; the later family's looks); each row that meets fmt, with fmt's text TOLD by the authors' own Lean function (tested against real Go, not proved from fmt's source: count such statements apart). THE CARD IS WHAT COUNTS. Prove the row's statement (the work); the ties are given (YtgilicomkelmdaaGreatDoorTie.lean); close each card by the builder's one call (the guide's Derived/Test/ToyasCard.lean, 'card_holds'). Laid BY PROGRAM, IN A SANDBOX (cutbox-door.mjs). By AI agents, Wed Nov 11 2026. No macro, syntax, notation, axiom, sorry.
-/
import Derived.Test.YtgilicomkelmdaaGreatDoorRows
import GoSem.ClaimSeven
namespace Go.Proofs.YtgilicomkelmdaaGreatDoor
namespace Rows

/-- THE TIED CARD OF 'socagelaw24.TaleJudges'. -/
def taleJudgesCard : Claim7 := { stood := { row := taleJudgesRow, standIns := [], harness := (true, "e984c7015d5b9f3c70c64c176dc37bdb0bb605aa331d0ec0f2202fb90e1fba98"), looks := false }, kinds := [], alts := [], laidByText := true, laidKinds := [.data, .pinned], laidTests := true, laidLooks := .later }
def TaleJudgesCardSaid : Prop := Claim7.holds Tryz.pinned (.plain (OpenSpec.ofChange taleJudgesSpec)) taleJudgesCard

/-- THE SECOND FORM's CARD OF 'socagelaw24.TaleJudges'. -/
def taleJudgesUptoCard : Claim7 := { stood := { row := taleJudgesUptoRow, standIns := [], harness := (true, "e984c7015d5b9f3c70c64c176dc37bdb0bb605aa331d0ec0f2202fb90e1fba98"), looks := false }, kinds := [], alts := [], laidByText := true, laidKinds := [.data, .pinned], laidTests := true, laidLooks := .later }
def TaleJudgesUptoCardSaid : Prop := Claim7.holds Tryz.pinned (.plain (OpenSpec.upto taleJudgesSpec)) taleJudgesUptoCard
end Rows
end Go.Proofs.YtgilicomkelmdaaGreatDoor
