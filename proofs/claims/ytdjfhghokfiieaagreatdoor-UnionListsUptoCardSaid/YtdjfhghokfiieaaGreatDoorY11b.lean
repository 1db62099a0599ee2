/- Parts of the proofs of this seat: abstract values over the model, and what the functions of the program do. No condition. -/
import Derived.Test.YtdjfhghokfiieaaGreatDoorX04L
set_option linter.all false
set_option linter.unusedVariables false
namespace Go.Av
theorem splitS_append : ∀ (a t : Str), splitS (a ++ 47 :: t) = splitS a ++ splitS t
  | [], t => by simp [splitS]
  | c :: a, t => by
    have ih := splitS_append a t
    have hc : ∀ l : Str, splitS (c :: l) = if c = 47 then [] :: splitS l else match splitS l with | h :: t => (c :: h) :: t | [] => [[c]] := fun l => by rw [splitS]; rfl
    rw [List.cons_append, hc, hc]
    by_cases e : c = 47
    · simp only [e, if_true]
      rw [ih]
      rfl
    · simp only [e, if_false]
      rw [ih]
      cases hs : splitS a with
      | nil => exact absurd hs (splitS_ne a)
      | cons x l => rfl
theorem partsP_append : ∀ (a b : List Str) {p q : List Str}, partsP a = some p → partsP b = some q → partsP (a ++ b) = some (p ++ q)
  | [], b, p, q, h, k => by simp [partsP] at h; subst h; simpa using k
  | s :: a, b, p, q, h, k => by
    rw [List.cons_append]
    rw [partsP] at h ⊢
    split at h
    · rename_i c; rw [if_pos c]; exact partsP_append a b h k
    · rename_i c
      rw [if_neg c]
      split at h
      · rename_i c2
        rw [if_pos c2]
        rw [Option.map_eq_some_iff] at h
        obtain ⟨p', h1, rfl⟩ := h
        rw [partsP_append a b h1 k]
        rfl
      · cases h
end Go.Av
