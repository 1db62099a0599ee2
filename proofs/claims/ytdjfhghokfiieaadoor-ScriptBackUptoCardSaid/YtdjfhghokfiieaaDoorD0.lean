/- Parts of the proofs of this seat: abstract values over the model, and what the functions of the program do. No condition. -/
import Derived.Test.YtdjfhghokfiieaaDoorM14
import Derived.Test.YtdjfhghokfiieaaDoorM10
set_option linter.all false
namespace Go.Av
abbrev Str := List UInt8
structure Ext where
 off : Int
 data : Str
 deriving DecidableEq
@[simp] def Ext.c (x : Ext) : List AV := [.int .i64 x.off, .str x.data]
def Sx (S S' : St) : Prop := ∀ j, j < S.length → S'[j]? = S[j]?
theorem Sx.refl (S : St) : Sx S S := fun _ _ => rfl
theorem Sx.le {S S' : St} (h : Sx S S') : S.length ≤ S'.length := by
 by_cases c : S.length ≤ S'.length
 ·exact c
 ·have := h S'.length (by omega)
  have h2 : S'[S'.length]? = none := by simp
  rw [h2] at this
  have h3 : S[S'.length]? = some (S[S'.length]'(by omega)) := by simp
  rw [h3] at this; cases this
theorem Sx.trans {A B D : St} (h : Sx A B) (k : Sx B D) : Sx A D := fun j hj => (k j (Nat.lt_of_lt_of_le hj h.le)).trans (h j hj)
theorem Sx.app (S T : St) : Sx S (S ++ T) := fun j hj => by rw [List.getElem?_append_left hj]
theorem Sx.get {S S' : St} (h : Sx S S') {j : Nat} {o : Obj} (e : S[j]? = some o) : S'[j]? = some o := (h j (List.getElem?_eq_some_iff.1 e).1).trans e
end Go.Av
