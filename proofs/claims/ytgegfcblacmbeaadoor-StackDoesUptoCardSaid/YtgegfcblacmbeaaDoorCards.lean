/-
  DERIVED. GIVEN WITH THE SEED: THE CARDS: each row of YtgegfcblacmbeaaDoorRows.lean that lists a variable, with what it lists TIED to the program's text (the seventh form; the later family's looks); each row that meets fmt, with fmt's text TOLD by the authors' own Lean function (tested against real Go, not proved from fmt's source: count such statements apart). THE CARD IS WHAT COUNTS. Prove the row's statement (the work); the ties are given (YtgegfcblacmbeaaDoorTie.lean); close each card by the builder's one call (the guide's Derived/Test/ToyasCard.lean, 'card_holds'). Laid BY PROGRAM, IN A SANDBOX (cutbox-door.mjs). By AI agents, Wed Nov 11 2026. No macro, syntax, notation, axiom, sorry.
-/
import Derived.Test.YtgegfcblacmbeaaDoorRows
import GoSem.ClaimSeven
namespace Go.Proofs.YtgegfcblacmbeaaDoor
namespace Rows

/-- THE TIED CARD OF 'socagelaw01.NameSplits'. -/
def nameSplitsCard : Claim7 := { stood := { row := nameSplitsRow, standIns := [], harness := (true, "5e1b3bbd86c0b9ad39982f6da1321fb0288c35404ef93a8c45d64889d15957e5"), looks := false }, kinds := [], alts := [], laidByText := true, laidKinds := [.data, .pinned], laidTests := true, laidLooks := .later }
def NameSplitsCardSaid : Prop := Claim7.holds Tryd.pinned (.plain (OpenSpec.ofChange nameSplitsSpec)) nameSplitsCard

/-- THE TIED CARD OF 'socagelaw01.NameRight'. -/
def nameRightCard : Claim7 := { stood := { row := nameRightRow, standIns := [], harness := (true, "5e1b3bbd86c0b9ad39982f6da1321fb0288c35404ef93a8c45d64889d15957e5"), looks := false }, kinds := [], alts := [], laidByText := true, laidKinds := [.data, .pinned], laidTests := true, laidLooks := .later }
def NameRightCardSaid : Prop := Claim7.holds Tryd.pinned (.plain (OpenSpec.ofChange nameRightSpec)) nameRightCard

/-- THE TIED CARD OF 'socagelaw01.NameJoins'. -/
def nameJoinsCard : Claim7 := { stood := { row := nameJoinsRow, standIns := [], harness := (true, "5e1b3bbd86c0b9ad39982f6da1321fb0288c35404ef93a8c45d64889d15957e5"), looks := false }, kinds := [], alts := [], laidByText := true, laidKinds := [.data, .pinned], laidTests := true, laidLooks := .later }
def NameJoinsCardSaid : Prop := Claim7.holds Tryd.pinned (.plain (OpenSpec.ofChange nameJoinsSpec)) nameJoinsCard

/-- THE TIED CARD OF 'socagelaw07.StackDoes'. -/
def stackDoesCard : Claim7 := { stood := { row := stackDoesRow, standIns := [], harness := (true, "5e1b3bbd86c0b9ad39982f6da1321fb0288c35404ef93a8c45d64889d15957e5"), looks := false }, kinds := [], alts := [], laidByText := true, laidKinds := [.data, .pinned], laidTests := true, laidLooks := .later }
def StackDoesCardSaid : Prop := Claim7.holds Tryd.pinned (.plain (OpenSpec.ofChange stackDoesSpec)) stackDoesCard

/-- THE TIED CARD OF 'socagelaw07.StackOf'. -/
def stackOfCard : Claim7 := { stood := { row := stackOfRow, standIns := [], harness := (true, "5e1b3bbd86c0b9ad39982f6da1321fb0288c35404ef93a8c45d64889d15957e5"), looks := false }, kinds := [], alts := [], laidByText := true, laidKinds := [.data, .pinned], laidTests := true, laidLooks := .later }
def StackOfCardSaid : Prop := Claim7.holds Tryd.pinned (.plain (OpenSpec.ofChange stackOfSpec)) stackOfCard

/-- THE TIED CARD OF 'socagelaw04.TreeRight'. -/
def treeRightCard : Claim7 := { stood := { row := treeRightRow, standIns := [], harness := (true, "5e1b3bbd86c0b9ad39982f6da1321fb0288c35404ef93a8c45d64889d15957e5"), looks := false }, kinds := [], alts := [], laidByText := true, laidKinds := [.data, .pinned], laidTests := true, laidLooks := .later }
def TreeRightCardSaid : Prop := Claim7.holds Tryd.pinned (.plain (OpenSpec.ofChange treeRightSpec)) treeRightCard

/-- THE TIED CARD OF 'socagelaw04.TreeSame'. -/
def treeSameCard : Claim7 := { stood := { row := treeSameRow, standIns := [], harness := (true, "5e1b3bbd86c0b9ad39982f6da1321fb0288c35404ef93a8c45d64889d15957e5"), looks := false }, kinds := [], alts := [], laidByText := true, laidKinds := [.data, .pinned], laidTests := true, laidLooks := .later }
def TreeSameCardSaid : Prop := Claim7.holds Tryd.pinned (.plain (OpenSpec.ofChange treeSameSpec)) treeSameCard

/-- THE TIED CARD OF 'socagelaw04.TreeMakes'. -/
def treeMakesCard : Claim7 := { stood := { row := treeMakesRow, standIns := [], harness := (true, "5e1b3bbd86c0b9ad39982f6da1321fb0288c35404ef93a8c45d64889d15957e5"), looks := false }, kinds := [], alts := [], laidByText := true, laidKinds := [.data, .pinned], laidTests := true, laidLooks := .later }
def TreeMakesCardSaid : Prop := Claim7.holds Tryd.pinned (.plain (OpenSpec.ofChange treeMakesSpec)) treeMakesCard

/-- THE TIED CARD OF 'socagelaw05.ImageEncodes'. -/
def imageEncodesCard : Claim7 := { stood := { row := imageEncodesRow, standIns := [], harness := (true, "5e1b3bbd86c0b9ad39982f6da1321fb0288c35404ef93a8c45d64889d15957e5"), looks := false }, kinds := [], alts := [], laidByText := true, laidKinds := [.data, .pinned], laidTests := true, laidLooks := .later }
def ImageEncodesCardSaid : Prop := Claim7.holds Tryd.pinned (.plain (OpenSpec.ofChange imageEncodesSpec)) imageEncodesCard

/-- THE TIED CARD OF 'socagelaw05.ImageDecodes'. -/
def imageDecodesCard : Claim7 := { stood := { row := imageDecodesRow, standIns := [], harness := (true, "5e1b3bbd86c0b9ad39982f6da1321fb0288c35404ef93a8c45d64889d15957e5"), looks := false }, kinds := [], alts := [], laidByText := true, laidKinds := [.data, .pinned], laidTests := true, laidLooks := .later }
def ImageDecodesCardSaid : Prop := Claim7.holds Tryd.pinned (.plain (OpenSpec.ofChange imageDecodesSpec)) imageDecodesCard

/-- THE TIED CARD OF 'socagelaw05.ImageCuts'. -/
def imageCutsCard : Claim7 := { stood := { row := imageCutsRow, standIns := [], harness := (true, "5e1b3bbd86c0b9ad39982f6da1321fb0288c35404ef93a8c45d64889d15957e5"), looks := false }, kinds := [], alts := [], laidByText := true, laidKinds := [.data, .pinned], laidTests := true, laidLooks := .later }
def ImageCutsCardSaid : Prop := Claim7.holds Tryd.pinned (.plain (OpenSpec.ofChange imageCutsSpec)) imageCutsCard

/-- THE TIED CARD OF 'socagelaw08.SeenOne'. -/
def seenOneCard : Claim7 := { stood := { row := seenOneRow, standIns := [], harness := (true, "5e1b3bbd86c0b9ad39982f6da1321fb0288c35404ef93a8c45d64889d15957e5"), looks := false }, kinds := [], alts := [], laidByText := true, laidKinds := [.data, .pinned], laidTests := true, laidLooks := .later }
def SeenOneCardSaid : Prop := Claim7.holds Tryd.pinned (.plain (OpenSpec.ofChange seenOneSpec)) seenOneCard

/-- THE SECOND FORM's CARD OF 'socagelaw01.NameSplits'. -/
def nameSplitsUptoCard : Claim7 := { stood := { row := nameSplitsUptoRow, standIns := [], harness := (true, "5e1b3bbd86c0b9ad39982f6da1321fb0288c35404ef93a8c45d64889d15957e5"), looks := false }, kinds := [], alts := [], laidByText := true, laidKinds := [.data, .pinned], laidTests := true, laidLooks := .later }
def NameSplitsUptoCardSaid : Prop := Claim7.holds Tryd.pinned (.plain (OpenSpec.upto nameSplitsSpec)) nameSplitsUptoCard

/-- THE SECOND FORM's CARD OF 'socagelaw01.NameRight'. -/
def nameRightUptoCard : Claim7 := { stood := { row := nameRightUptoRow, standIns := [], harness := (true, "5e1b3bbd86c0b9ad39982f6da1321fb0288c35404ef93a8c45d64889d15957e5"), looks := false }, kinds := [], alts := [], laidByText := true, laidKinds := [.data, .pinned], laidTests := true, laidLooks := .later }
def NameRightUptoCardSaid : Prop := Claim7.holds Tryd.pinned (.plain (OpenSpec.upto nameRightSpec)) nameRightUptoCard

/-- THE SECOND FORM's CARD OF 'socagelaw01.NameJoins'. -/
def nameJoinsUptoCard : Claim7 := { stood := { row := nameJoinsUptoRow, standIns := [], harness := (true, "5e1b3bbd86c0b9ad39982f6da1321fb0288c35404ef93a8c45d64889d15957e5"), looks := false }, kinds := [], alts := [], laidByText := true, laidKinds := [.data, .pinned], laidTests := true, laidLooks := .later }
def NameJoinsUptoCardSaid : Prop := Claim7.holds Tryd.pinned (.plain (OpenSpec.upto nameJoinsSpec)) nameJoinsUptoCard

/-- THE SECOND FORM's CARD OF 'socagelaw07.StackDoes'. -/
def stackDoesUptoCard : Claim7 := { stood := { row := stackDoesUptoRow, standIns := [], harness := (true, "5e1b3bbd86c0b9ad39982f6da1321fb0288c35404ef93a8c45d64889d15957e5"), looks := false }, kinds := [], alts := [], laidByText := true, laidKinds := [.data, .pinned], laidTests := true, laidLooks := .later }
def StackDoesUptoCardSaid : Prop := Claim7.holds Tryd.pinned (.plain (OpenSpec.upto stackDoesSpec)) stackDoesUptoCard

/-- THE SECOND FORM's CARD OF 'socagelaw07.StackOf'. -/
def stackOfUptoCard : Claim7 := { stood := { row := stackOfUptoRow, standIns := [], harness := (true, "5e1b3bbd86c0b9ad39982f6da1321fb0288c35404ef93a8c45d64889d15957e5"), looks := false }, kinds := [], alts := [], laidByText := true, laidKinds := [.data, .pinned], laidTests := true, laidLooks := .later }
def StackOfUptoCardSaid : Prop := Claim7.holds Tryd.pinned (.plain (OpenSpec.upto stackOfSpec)) stackOfUptoCard

/-- THE SECOND FORM's CARD OF 'socagelaw04.TreeRight'. -/
def treeRightUptoCard : Claim7 := { stood := { row := treeRightUptoRow, standIns := [], harness := (true, "5e1b3bbd86c0b9ad39982f6da1321fb0288c35404ef93a8c45d64889d15957e5"), looks := false }, kinds := [], alts := [], laidByText := true, laidKinds := [.data, .pinned], laidTests := true, laidLooks := .later }
def TreeRightUptoCardSaid : Prop := Claim7.holds Tryd.pinned (.plain (OpenSpec.upto treeRightSpec)) treeRightUptoCard

/-- THE SECOND FORM's CARD OF 'socagelaw04.TreeSame'. -/
def treeSameUptoCard : Claim7 := { stood := { row := treeSameUptoRow, standIns := [], harness := (true, "5e1b3bbd86c0b9ad39982f6da1321fb0288c35404ef93a8c45d64889d15957e5"), looks := false }, kinds := [], alts := [], laidByText := true, laidKinds := [.data, .pinned], laidTests := true, laidLooks := .later }
def TreeSameUptoCardSaid : Prop := Claim7.holds Tryd.pinned (.plain (OpenSpec.upto treeSameSpec)) treeSameUptoCard

/-- THE SECOND FORM's CARD OF 'socagelaw04.TreeMakes'. -/
def treeMakesUptoCard : Claim7 := { stood := { row := treeMakesUptoRow, standIns := [], harness := (true, "5e1b3bbd86c0b9ad39982f6da1321fb0288c35404ef93a8c45d64889d15957e5"), looks := false }, kinds := [], alts := [], laidByText := true, laidKinds := [.data, .pinned], laidTests := true, laidLooks := .later }
def TreeMakesUptoCardSaid : Prop := Claim7.holds Tryd.pinned (.plain (OpenSpec.upto treeMakesSpec)) treeMakesUptoCard

/-- THE SECOND FORM's CARD OF 'socagelaw05.ImageEncodes'. -/
def imageEncodesUptoCard : Claim7 := { stood := { row := imageEncodesUptoRow, standIns := [], harness := (true, "5e1b3bbd86c0b9ad39982f6da1321fb0288c35404ef93a8c45d64889d15957e5"), looks := false }, kinds := [], alts := [], laidByText := true, laidKinds := [.data, .pinned], laidTests := true, laidLooks := .later }
def ImageEncodesUptoCardSaid : Prop := Claim7.holds Tryd.pinned (.plain (OpenSpec.upto imageEncodesSpec)) imageEncodesUptoCard

/-- THE SECOND FORM's CARD OF 'socagelaw05.ImageDecodes'. -/
def imageDecodesUptoCard : Claim7 := { stood := { row := imageDecodesUptoRow, standIns := [], harness := (true, "5e1b3bbd86c0b9ad39982f6da1321fb0288c35404ef93a8c45d64889d15957e5"), looks := false }, kinds := [], alts := [], laidByText := true, laidKinds := [.data, .pinned], laidTests := true, laidLooks := .later }
def ImageDecodesUptoCardSaid : Prop := Claim7.holds Tryd.pinned (.plain (OpenSpec.upto imageDecodesSpec)) imageDecodesUptoCard

/-- THE SECOND FORM's CARD OF 'socagelaw05.ImageCuts'. -/
def imageCutsUptoCard : Claim7 := { stood := { row := imageCutsUptoRow, standIns := [], harness := (true, "5e1b3bbd86c0b9ad39982f6da1321fb0288c35404ef93a8c45d64889d15957e5"), looks := false }, kinds := [], alts := [], laidByText := true, laidKinds := [.data, .pinned], laidTests := true, laidLooks := .later }
def ImageCutsUptoCardSaid : Prop := Claim7.holds Tryd.pinned (.plain (OpenSpec.upto imageCutsSpec)) imageCutsUptoCard

/-- THE SECOND FORM's CARD OF 'socagelaw08.SeenOne'. -/
def seenOneUptoCard : Claim7 := { stood := { row := seenOneUptoRow, standIns := [], harness := (true, "5e1b3bbd86c0b9ad39982f6da1321fb0288c35404ef93a8c45d64889d15957e5"), looks := false }, kinds := [], alts := [], laidByText := true, laidKinds := [.data, .pinned], laidTests := true, laidLooks := .later }
def SeenOneUptoCardSaid : Prop := Claim7.holds Tryd.pinned (.plain (OpenSpec.upto seenOneSpec)) seenOneUptoCard
end Rows
end Go.Proofs.YtgegfcblacmbeaaDoor
