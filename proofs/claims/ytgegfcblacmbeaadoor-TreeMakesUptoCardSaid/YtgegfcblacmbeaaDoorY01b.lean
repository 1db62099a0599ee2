/- Parts of the proofs of this seat: abstract values over the model, and what the functions of the program do. No condition. -/
import Derived.Test.YtgegfcblacmbeaaDoorY01
import Derived.Lib.Join
set_option linter.all false
set_option linter.unusedVariables false
/-! Names, joined and cut. No program in sight. -/
namespace Go.Av
def pathOf (l : List (List UInt8)) : List UInt8 := 47 :: Lib.join l [47]
theorem nameR_facts {s : List UInt8} (h : nameR s = true) : s ≠ [] ∧ s ≠ [46] ∧ s ≠ [46, 46] ∧ s.length ≤ 64 ∧ 47 ∉ s := by
  simp [nameR, bne] at h
  obtain ⟨h1, h2, h3, h4, h5⟩ := h
  exact ⟨h1, h2, h3, h4, fun hm => (h5 47 hm).1 rfl⟩
theorem pathOf_snoc (l : List (List UInt8)) (x : List UInt8) : pathOf (l ++ [x]) = if l = [] then 47 :: x else pathOf l ++ 47 :: x := by
  cases l with
  | nil => simp [pathOf, Lib.join_one]
  | cons y r =>
    simp only [pathOf, List.cons_append, Lib.join_cons, if_neg (List.cons_ne_nil _ _)]
    simp [Lib.joinTail]
theorem splitS_no : ∀ {s : List UInt8}, 47 ∉ s → splitS s = [s]
  | [], _ => rfl
  | c :: l, h => by
    simp at h
    rw [splitS, if_neg (fun e => h.1 e.symm), splitS_no h.2]
theorem splitS_app : ∀ {s : List UInt8} (t : List UInt8), 47 ∉ s → splitS (s ++ 47 :: t) = s :: splitS t
  | [], t, _ => by simp [splitS]
  | c :: l, t, h => by
    simp at h
    rw [List.cons_append, splitS, if_neg (fun e => h.1 e.symm), splitS_app t h.2]
theorem splitS_join : ∀ {l : List (List UInt8)}, l ≠ [] → (∀ s ∈ l, 47 ∉ s) → splitS (Lib.join l [47]) = l
  | [], h, _ => absurd rfl h
  | [x], _, h => by rw [Lib.join_one]; exact splitS_no (h x (by simp))
  | x :: y :: r, _, h => by
    have e : Lib.join (x :: y :: r) [47] = x ++ 47 :: Lib.join (y :: r) [47] := by
      rw [Lib.join_cons, Lib.join_cons]
      simp [Lib.joinTail]
    rw [e, splitS_app _ (h x (by simp)), splitS_join (by simp) (fun s hs => h s (List.mem_cons_of_mem _ hs))]
theorem partsP_all : ∀ {l : List (List UInt8)}, (∀ s ∈ l, nameR s = true) → partsP l = some l
  | [], _ => rfl
  | x :: l, h => by
    obtain ⟨h1, h2, _⟩ := nameR_facts (h x (by simp))
    rw [partsP, if_neg (by simp [h1, h2]), if_pos (.inr (h x (by simp))), partsP_all (fun s hs => h s (List.mem_cons_of_mem _ hs))]
    rfl
theorem partsP_mem : ∀ {l p : List (List UInt8)}, partsP l = some p → ∀ x ∈ p, x = [46, 46] ∨ nameR x = true
  | [], p, h, x, hx => by cases h; cases hx
  | s :: l, p, h, x, hx => by
    rw [partsP] at h
    split at h
    · exact partsP_mem h x hx
    · split at h
      · rename_i hs
        obtain ⟨q, hq, rfl⟩ := Option.map_eq_some_iff.1 h
        rcases List.mem_cons.1 hx with rfl | hx
        · exact hs
        · exact partsP_mem hq x hx
      · cases h
theorem lens_le : ∀ {l : List (List UInt8)}, (∀ s ∈ l, s.length ≤ 64) → Lib.lens l ≤ 64 * l.length
  | [], _ => by simp [Lib.lens]
  | x :: l, h => by
    have := lens_le (l := l) (fun s hs => h s (List.mem_cons_of_mem _ hs))
    have h2 := h x (by simp)
    simp [Lib.lens] at this ⊢
    omega
theorem pathOf_len {l : List (List UInt8)} (hl : l.length ≤ 15) (h : ∀ s ∈ l, nameR s = true) : (pathOf l).length ≤ 1000 := by
  cases l with
  | nil => simp [pathOf, Lib.join_nil]
  | cons x r =>
    have h1 := Lib.join_length x r [47]
    have h2 := lens_le (l := x :: r) (fun s hs => (nameR_facts (h s hs)).2.2.2.1)
    simp only [pathOf, List.length_cons, h1, List.length_nil] at h2 hl ⊢
    omega
theorem splitP_pathOf {l : List (List UInt8)} (hl : l.length ≤ 15) (h : ∀ s ∈ l, nameR s = true) : splitP (pathOf l) = some l := by
  have := pathOf_len hl h
  rw [splitP, if_neg (by simp [pathOf]; simp [pathOf] at this; omega)]
  have e : splitS (pathOf l) = [] :: splitS (Lib.join l [47]) := by simp [pathOf, splitS]
  rw [e, partsP, if_pos (.inl rfl)]
  by_cases c : l = []
  · subst c; rfl
  · rw [splitS_join c (fun s hs => (nameR_facts (h s hs)).2.2.2.2), partsP_all h]
theorem nameR_split {s : List UInt8} (hs : s.length ≤ 300) : nameR s = true ↔ splitP s = some [s] ∧ s.head? ≠ some 47 ∧ s ≠ [46, 46] := by
  constructor
  · intro h
    obtain ⟨h1, h2, h3, h4, h5⟩ := nameR_facts h
    refine ⟨?_, ?_, h3⟩
    · rw [splitP, if_neg (by simp [h1]; omega), splitS_no h5]
      exact partsP_all (by simpa using h)
    · intro e
      cases s with
      | nil => cases e
      | cons c l => simp at e; subst e; simp at h5
  · rintro ⟨h1, h2, h3⟩
    rw [splitP] at h1
    split at h1
    · cases h1
    · exact (partsP_mem h1 s (by simp)).resolve_left h3
end Go.Av
