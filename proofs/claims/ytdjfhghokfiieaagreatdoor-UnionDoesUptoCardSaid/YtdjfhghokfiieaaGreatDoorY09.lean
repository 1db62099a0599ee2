/- Parts of the proofs of this seat: abstract values over the model, and what the functions of the program do. No condition. -/
import Derived.Test.YtdjfhghokfiieaaGreatDoorDRow
import Derived.Test.YtdjfhghokfiieaaGreatDoorD0
import Derived.Test.YtdjfhghokfiieaaGreatDoorM8
import Derived.Test.YtdjfhghokfiieaaGreatDoorM9
import Derived.Test.YtdjfhghokfiieaaGreatDoorXLess
set_option linter.all false
set_option linter.unusedVariables false
namespace Go.Av
structure Hd where
  name : Str
  row : Int
  rest : Ss
  deriving DecidableEq
@[simp] def Hd.c (x : Hd) : List AV := [.str x.name, .int .i64 x.row, x.rest.v]
theorem Hd.cl (x : Hd) : x.c.length = 3 := rfl
instance : Inhabited Hd := ⟨⟨[], 0, ⟨[], .none⟩⟩⟩
def Hd.lt (a b : Hd) : Bool := if a.name = b.name then decide (a.row < b.row) else slt a.name b.name
def hat (hs : List Hd) (i : Nat) : Hd := hs.getD i default
theorem getD_some {hs : List Hd} {i : Nat} (h : i < hs.length) : hs[i]? = some (hat hs i) := by simp [hat, List.getD_eq_getElem?_getD, h]
def Hd.le (a b : Hd) : Prop := b.lt a = false
theorem Hd.lt_trans {a b c : Hd} (h : a.lt b = true) (k : b.lt c = true) : a.lt c = true := by
  unfold Hd.lt at *
  by_cases e1 : a.name = b.name
  · by_cases e2 : b.name = c.name
    · simp [e1, e2] at h k ⊢; omega
    · simp only [e1, e2, if_true, if_false] at h k ⊢; exact k
  · by_cases e2 : b.name = c.name
    · simp only [e1, ← e2, if_true, if_false] at h k ⊢; exact h
    · simp only [e1, e2, if_false] at h k
      have h3 := slt_trans h k
      have : a.name ≠ c.name := fun e => by rw [e] at h3; rw [slt_irrefl] at h3; cases h3
      simp only [this, if_false]; exact h3
theorem Hd.lt_irrefl (a : Hd) : a.lt a = false := by simp [Hd.lt]
theorem Hd.lt_tri (a b : Hd) : a.lt b = true ∨ (a.name = b.name ∧ a.row = b.row) ∨ b.lt a = true := by
  unfold Hd.lt
  by_cases e : a.name = b.name
  · simp [e]; omega
  · simp only [e, Ne.symm e, if_false]
    rcases slt_tri a.name b.name with h | h | h
    · exact .inl h
    · exact (e h).elim
    · exact .inr (.inr h)
theorem Hd.lt_key {a b a' b' : Hd} (h1 : a.name = a'.name) (h2 : a.row = a'.row) (h3 : b.name = b'.name) (h4 : b.row = b'.row) : a.lt b = a'.lt b' := by simp [Hd.lt, h1, h2, h3, h4]
theorem Hd.le_trans {a b c : Hd} (h : a.le b) (k : b.le c) : a.le c := by
  unfold Hd.le at *
  cases h3 : c.lt a with
  | false => rfl
  | true =>
    rcases Hd.lt_tri a b with h4 | ⟨h4, h5⟩ | h4
    · have := Hd.lt_trans h3 h4; rw [k] at this; cases this
    · rw [Hd.lt_key rfl rfl h4 h5] at h3; rw [k] at h3; cases h3
    · rw [h] at h4; cases h4
theorem Hd.le_refl (a : Hd) : a.le a := Hd.lt_irrefl a
structure Item where
  name : Str
  row : Int
  deriving DecidableEq
@[simp] def Item.c (x : Item) : List AV := [.str x.name, .int .i64 x.row]
def hds : Nat → List Ss → List Hd
  | _, [] => []
  | i, x :: xs => (match x.l with | [] => [] | s :: t => [⟨s, i, ⟨t, x.r⟩⟩]) ++ hds (i + 1) xs
end Go.Av
set_option linter.unusedVariables false
namespace Go.Av
open Go.Proofs
@[simp] def wNt (k : Nat) : List AV := [.int .i64 k]
end Go.Av
