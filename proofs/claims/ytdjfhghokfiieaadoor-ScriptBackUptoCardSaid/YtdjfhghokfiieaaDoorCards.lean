/-
  DERIVED. GIVEN WITH THE SEED: THE CARDS: each row of YtdjfhghokfiieaaDoorRows.lean that lists a variable, with what it lists TIED to the program's text (the seventh form; the later family's looks); each row that meets fmt, with fmt's text TOLD by the authors' own Lean function (tested against real Go, not proved from fmt's source: count such statements apart). THE CARD IS WHAT COUNTS. Prove the row's statement (the work); the ties are given (YtdjfhghokfiieaaDoorTie.lean); close each card by the builder's one call (the guide's Derived/Test/ToyasCard.lean, 'card_holds'). Laid BY PROGRAM, IN A SANDBOX (cutbox-door.mjs). By AI agents, Wed Nov 11 2026. No macro, syntax, notation, axiom, sorry.
-/
import Derived.Test.YtdjfhghokfiieaaDoorRows
import GoSem.ClaimSeven
namespace Go.Proofs.YtdjfhghokfiieaaDoor
namespace Rows

/-- THE TIED CARD OF 'socagelaw19.CallParses'. -/
def callParsesCard : Claim7 := { stood := { row := callParsesRow, standIns := [], harness := (true, "e76c6968b552b1914812256e9932b71659b31a8d2857947be3d8e07b0b65c7a9"), looks := true }, kinds := [], alts := [], laidByText := true, laidKinds := [.data, .data, .data, .data, .sentinel, .sentinel, .pinned], laidTests := true, laidLooks := .later }
def CallParsesCardSaid : Prop := Claim7.holds Tryd.pinned (.plain (OpenSpec.ofChange callParsesSpec)) callParsesCard

/-- THE TIED CARD OF 'socagelaw19.CallWords'. -/
def callWordsCard : Claim7 := { stood := { row := callWordsRow, standIns := [], harness := (true, "e76c6968b552b1914812256e9932b71659b31a8d2857947be3d8e07b0b65c7a9"), looks := true }, kinds := [], alts := [], laidByText := true, laidKinds := [.data, .data, .data, .data, .sentinel, .sentinel, .pinned], laidTests := true, laidLooks := .later }
def CallWordsCardSaid : Prop := Claim7.holds Tryd.pinned (.plain (OpenSpec.ofChange callWordsSpec)) callWordsCard

/-- THE TIED CARD OF 'socagelaw19.CallShows'. -/
def callShowsCard : Claim7 := { stood := { row := callShowsRow, standIns := [], harness := (true, "e76c6968b552b1914812256e9932b71659b31a8d2857947be3d8e07b0b65c7a9"), looks := true }, kinds := [], alts := [], laidByText := true, laidKinds := [.data, .data, .data, .data, .sentinel, .sentinel, .pinned], laidTests := true, laidLooks := .later }
def CallShowsCardSaid : Prop := Claim7.holds Tryd.pinned (.plain (OpenSpec.ofChange callShowsSpec)) callShowsCard

/-- THE TIED CARD OF 'socagelaw19.CallTexts'. -/
def callTextsCard : Claim7 := { stood := { row := callTextsRow, standIns := [], harness := (true, "e76c6968b552b1914812256e9932b71659b31a8d2857947be3d8e07b0b65c7a9"), looks := true }, kinds := [], alts := [], laidByText := true, laidKinds := [.data, .data, .data, .data, .sentinel, .sentinel, .pinned], laidTests := true, laidLooks := .later }
def CallTextsCardSaid : Prop := Claim7.holds Tryd.pinned (.plain (OpenSpec.ofChange callTextsSpec)) callTextsCard

/-- THE TIED CARD OF 'socagelaw25.ScriptParses'. -/
def scriptParsesCard : Claim7 := { stood := { row := scriptParsesRow, standIns := [], harness := (true, "e76c6968b552b1914812256e9932b71659b31a8d2857947be3d8e07b0b65c7a9"), looks := true }, kinds := [], alts := [], laidByText := true, laidKinds := [.data, .data, .data, .data, .sentinel, .sentinel, .pinned], laidTests := true, laidLooks := .later }
def ScriptParsesCardSaid : Prop := Claim7.holds Tryd.pinned (.plain (OpenSpec.ofChange scriptParsesSpec)) scriptParsesCard

/-- THE TIED CARD OF 'socagelaw25.ScriptBack'. -/
def scriptBackCard : Claim7 := { stood := { row := scriptBackRow, standIns := [], harness := (true, "e76c6968b552b1914812256e9932b71659b31a8d2857947be3d8e07b0b65c7a9"), looks := true }, kinds := [], alts := [], laidByText := true, laidKinds := [.data, .data, .data, .data, .sentinel, .sentinel, .pinned], laidTests := true, laidLooks := .later }
def ScriptBackCardSaid : Prop := Claim7.holds Tryd.pinned (.plain (OpenSpec.ofChange scriptBackSpec)) scriptBackCard

/-- THE SECOND FORM's CARD OF 'socagelaw19.CallParses'. -/
def callParsesUptoCard : Claim7 := { stood := { row := callParsesUptoRow, standIns := [], harness := (true, "e76c6968b552b1914812256e9932b71659b31a8d2857947be3d8e07b0b65c7a9"), looks := true }, kinds := [], alts := [], laidByText := true, laidKinds := [.data, .data, .data, .data, .sentinel, .sentinel, .pinned], laidTests := true, laidLooks := .later }
def CallParsesUptoCardSaid : Prop := Claim7.holds Tryd.pinned (.plain (OpenSpec.upto callParsesSpec)) callParsesUptoCard

/-- THE SECOND FORM's CARD OF 'socagelaw19.CallWords'. -/
def callWordsUptoCard : Claim7 := { stood := { row := callWordsUptoRow, standIns := [], harness := (true, "e76c6968b552b1914812256e9932b71659b31a8d2857947be3d8e07b0b65c7a9"), looks := true }, kinds := [], alts := [], laidByText := true, laidKinds := [.data, .data, .data, .data, .sentinel, .sentinel, .pinned], laidTests := true, laidLooks := .later }
def CallWordsUptoCardSaid : Prop := Claim7.holds Tryd.pinned (.plain (OpenSpec.upto callWordsSpec)) callWordsUptoCard

/-- THE SECOND FORM's CARD OF 'socagelaw19.CallShows'. -/
def callShowsUptoCard : Claim7 := { stood := { row := callShowsUptoRow, standIns := [], harness := (true, "e76c6968b552b1914812256e9932b71659b31a8d2857947be3d8e07b0b65c7a9"), looks := true }, kinds := [], alts := [], laidByText := true, laidKinds := [.data, .data, .data, .data, .sentinel, .sentinel, .pinned], laidTests := true, laidLooks := .later }
def CallShowsUptoCardSaid : Prop := Claim7.holds Tryd.pinned (.plain (OpenSpec.upto callShowsSpec)) callShowsUptoCard

/-- THE SECOND FORM's CARD OF 'socagelaw19.CallTexts'. -/
def callTextsUptoCard : Claim7 := { stood := { row := callTextsUptoRow, standIns := [], harness := (true, "e76c6968b552b1914812256e9932b71659b31a8d2857947be3d8e07b0b65c7a9"), looks := true }, kinds := [], alts := [], laidByText := true, laidKinds := [.data, .data, .data, .data, .sentinel, .sentinel, .pinned], laidTests := true, laidLooks := .later }
def CallTextsUptoCardSaid : Prop := Claim7.holds Tryd.pinned (.plain (OpenSpec.upto callTextsSpec)) callTextsUptoCard

/-- THE SECOND FORM's CARD OF 'socagelaw25.ScriptParses'. -/
def scriptParsesUptoCard : Claim7 := { stood := { row := scriptParsesUptoRow, standIns := [], harness := (true, "e76c6968b552b1914812256e9932b71659b31a8d2857947be3d8e07b0b65c7a9"), looks := true }, kinds := [], alts := [], laidByText := true, laidKinds := [.data, .data, .data, .data, .sentinel, .sentinel, .pinned], laidTests := true, laidLooks := .later }
def ScriptParsesUptoCardSaid : Prop := Claim7.holds Tryd.pinned (.plain (OpenSpec.upto scriptParsesSpec)) scriptParsesUptoCard

/-- THE SECOND FORM's CARD OF 'socagelaw25.ScriptBack'. -/
def scriptBackUptoCard : Claim7 := { stood := { row := scriptBackUptoRow, standIns := [], harness := (true, "e76c6968b552b1914812256e9932b71659b31a8d2857947be3d8e07b0b65c7a9"), looks := true }, kinds := [], alts := [], laidByText := true, laidKinds := [.data, .data, .data, .data, .sentinel, .sentinel, .pinned], laidTests := true, laidLooks := .later }
def ScriptBackUptoCardSaid : Prop := Claim7.holds Tryd.pinned (.plain (OpenSpec.upto scriptBackSpec)) scriptBackUptoCard
end Rows
end Go.Proofs.YtdjfhghokfiieaaDoor
