/- Parts of the proofs of this seat: abstract values over the model, and what the functions of the program do. No condition. -/
import Derived.Test.YtdjfhghokfiieaaGreatDoorM15
set_option linter.all false
set_option linter.unusedVariables false
namespace Go.Av
@[simp] theorem cellsEq_nil : cellsEq [] [] = some true := rfl
theorem cellsEq_cons (a b : AV) (c : Bool) (l m : List AV) (h : cellEq a b = some c) : cellsEq (a :: l) (b :: m) = (cellsEq l m).map (fun d => c && d) := by
  rw [cellsEq, h]
  cases c with
  | true => cases cellsEq l m <;> rfl
  | false => cases cellsEq l m <;> rfl
@[simp] theorem cellsEq_int (k : IntKind) (a b : Int) (l m : List AV) : cellsEq (.int k a :: l) (.int k b :: m) = (cellsEq l m).map (fun d => decide (a = b) && d) := cellsEq_cons _ _ _ _ _ (by simp [cellEq])
@[simp] theorem cellsEq_bool (a b : Bool) (l m : List AV) : cellsEq (.bool a :: l) (.bool b :: m) = (cellsEq l m).map (fun d => (a == b) && d) := cellsEq_cons _ _ _ _ _ rfl
@[simp] theorem cellsEq_str (a b : List UInt8) (l m : List AV) : cellsEq (.str a :: l) (.str b :: m) = (cellsEq l m).map (fun d => decide (a = b) && d) := cellsEq_cons _ _ _ _ _ (by simp [cellEq])
@[simp] theorem typed_nil : typedCells [] [] = true := rfl
@[simp] theorem typed_int (k : IntKind) (a b : Int) (l m : List AV) : typedCells (.int k a :: l) (.int k b :: m) = typedCells l m := by simp [typedCells]
@[simp] theorem typed_bool (a b : Bool) (l m : List AV) : typedCells (.bool a :: l) (.bool b :: m) = typedCells l m := rfl
@[simp] theorem typed_str (a b : List UInt8) (l m : List AV) : typedCells (.str a :: l) (.str b :: m) = typedCells l m := rfl
@[simp] theorem binE_agg_eql (z xs ys : List AV) : binE (.agg z) .eql (.agg xs) (.agg ys) = if typedCells z xs = true then (cellsEq xs ys).map .bool else none := by
  simp only [binE, eqA]
  split <;> simp_all
@[simp] theorem binE_agg_neq (z xs ys : List AV) : binE (.agg z) .neq (.agg xs) (.agg ys) = if typedCells z xs = true then (cellsEq xs ys).map (fun b => .bool (!b)) else none := by
  simp only [binE, eqA]
  split <;> simp_all
end Go.Av
