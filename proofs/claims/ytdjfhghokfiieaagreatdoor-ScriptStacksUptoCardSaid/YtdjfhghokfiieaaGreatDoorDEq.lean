/- Parts of the proofs of this seat: abstract values over the model, and what the functions of the program do. No condition. -/
import Derived.Test.YtdjfhghokfiieaaGreatDoorM15
set_option linter.all false
namespace Go.Av
@[simp] theorem Zx : BE [] [] = some true := rfl
theorem IS (a b : AV) (c : Bool) (l m : List AV) (h : Du a b = some c) : BE (a :: l) (b :: m) = (BE l m).map (fun d => c && d) := by
 rw [BE, h]
 cases c with
 | true => cases BE l m <;> rfl
 | false => cases BE l m <;> rfl
@[simp] theorem aI (k : IntKind) (a b : Int) (l m : List AV) : BE (.int k a :: l) (.int k b :: m) = (BE l m).map (fun d => decide (a = b) && d) := IS _ _ _ _ _ (by simp [Du])
@[simp] theorem ZT (a b : Bool) (l m : List AV) : BE (.bool a :: l) (.bool b :: m) = (BE l m).map (fun d => (a == b) && d) := IS _ _ _ _ _ rfl
@[simp] theorem Z6 (a b : List UInt8) (l m : List AV) : BE (.str a :: l) (.str b :: m) = (BE l m).map (fun d => decide (a = b) && d) := IS _ _ _ _ _ (by simp [Du])
@[simp] theorem bV : Am [] [] = true := rfl
@[simp] theorem cI (k : IntKind) (a b : Int) (l m : List AV) : Am (.int k a :: l) (.int k b :: m) = Am l m := by simp [Am]
@[simp] theorem bS (a b : Bool) (l m : List AV) : Am (.bool a :: l) (.bool b :: m) = Am l m := rfl
@[simp] theorem bv (a b : List UInt8) (l m : List AV) : Am (.str a :: l) (.str b :: m) = Am l m := rfl
@[simp] theorem Zi (z xs ys : List AV) : F4 (.agg z) .eql (.agg xs) (.agg ys) = if Am z xs = true then (BE xs ys).map .bool else none := by
 simp only [F4, eqA]
 split <;> simp_all
@[simp] theorem Zb (z xs ys : List AV) : F4 (.agg z) .neq (.agg xs) (.agg ys) = if Am z xs = true then (BE xs ys).map (fun b => .bool (!b)) else none := by
 simp only [F4, eqA]
 split <;> simp_all
end Go.Av
