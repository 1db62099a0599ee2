/- Parts of the proofs of this seat: abstract values over the model, and what the functions of the program do. No condition. -/
import Derived.Test.YtdjfhghokfiieaaGreatDoorY10
import Derived.Test.YtdjfhghokfiieaaGreatDoorX08d
set_option linter.all false
set_option linter.unusedVariables false
namespace Go.Av
open Go.Proofs
theorem listN_mem {dirs : List Node} {x : Ent} (h : x ∈ listN dirs) : ∃ y t, seenN dirs x.name = y :: t ∧ x.kind = y.kind := by
  obtain ⟨s, hs, he⟩ := List.mem_filterMap.1 h
  unfold entOf at he
  cases hsn : seenN dirs s with
  | nil => rw [hsn] at he; cases he
  | cons y t =>
    rw [hsn] at he
    cases he
    exact ⟨y, t, hsn, rfl⟩
theorem listN_len (dirs : List Node) (b : Nat) (hd : ∀ n ∈ dirs, n.names.l.length ≤ b) : (listN dirs).length ≤ dirs.length * b := by
  have h0 : (listN dirs).length ≤ (namesOf (dirs.map (·.names))).length := List.length_filterMap_le _ _
  have h1 : (namesOf (dirs.map (·.names))).length ≤ totS (dirs.map (·.names)) := by
    unfold namesOf
    rw [List.length_map]
    exact Nat.le_trans (firstL_len _ _) (mergeS_cap _ _)
  have h2 : ∀ l : List Node, (∀ n ∈ l, n.names.l.length ≤ b) → totS (l.map (·.names)) ≤ l.length * b := by
    intro l
    induction l with
    | nil => intro _; simp [totS]
    | cons x l ih =>
      intro h
      have h3 := ih fun y hy => h y (by simp [hy])
      have h4 := h x (by simp)
      simp only [totS, List.map_cons, List.sum_cons, List.length_cons, Nat.add_mul] at h3 ⊢
      omega
  have h5 := h2 dirs hd
  omega
end Go.Av
