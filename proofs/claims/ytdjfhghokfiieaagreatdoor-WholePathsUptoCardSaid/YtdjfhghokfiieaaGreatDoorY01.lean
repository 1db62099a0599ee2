/- Parts of the proofs of this seat: abstract values over the model, and what the functions of the program do. No condition. -/
import Derived.Test.YtdjfhghokfiieaaGreatDoorM0
import Derived.Lib.Split
import Derived.Lib.Join
set_option linter.all false
set_option linter.unusedVariables false
namespace Go.Av
def splitS : List UInt8 → List (List UInt8)
  | [] => [[]]
  | c :: l => if c = 47 then [] :: splitS l else match splitS l with
    | h :: t => (c :: h) :: t
    | [] => [[c]]
theorem splitS_eq : ∀ s : List UInt8, Lib.splitK [47] 0 (Lib.count s [47]) s = splitS s
  | [] => rfl
  | c :: l => by
    have ih := splitS_eq l
    have hne : ([47] : List UInt8) ≠ [] := by simp
    by_cases hc : c = 47
    · subst hc
      have h0 : Lib.index (47 :: l) [47] = (0 : Nat) := by simp [Lib.index, List.isPrefixOf]
      rw [Lib.count_hit hne h0]
      rw [Nat.add_comm 1]
      rw [Lib.splitK, h0]
      simp only [splitS, if_true]
      rw [← ih]
      rfl
    · have hp : ([47] : List UInt8).isPrefixOf (c :: l) = false := by
        simp [List.isPrefixOf]
        exact fun h => hc h.symm
      have hi : Lib.index (c :: l) [47] = if Lib.index l [47] == -1 then -1 else Lib.index l [47] + 1 := by
        conv => lhs; unfold Lib.index
        rw [hp]
        rfl
      have hs : splitS (c :: l) = match splitS l with
        | h :: t => (c :: h) :: t
        | [] => [[c]] := by
        conv => lhs; unfold splitS
        rw [if_neg hc]
      rw [hs, ← ih]
      by_cases hm : Lib.index l [47] = -1
      · have h1 : Lib.index (c :: l) [47] = -1 := by rw [hi, hm]; rfl
        rw [Lib.count_miss h1, Lib.count_miss hm]
        rfl
      · obtain ⟨i, hii⟩ : ∃ i : Nat, Lib.index l [47] = i := ⟨(Lib.index l [47]).toNat, by have := Lib.index_ge l [47]; omega⟩
        have h1 : Lib.index (c :: l) [47] = ((i + 1 : Nat) : Int) := by
          rw [hi, hii, if_neg (by simp)]; omega
        rw [Lib.count_hit hne h1, Lib.count_hit hne hii, Nat.add_comm 1, Nat.add_comm 1]
        rw [Lib.splitK, h1, Lib.splitK, hii]
        rw [if_neg (by simp <;> omega), if_neg (by simp)]
        simp only [Int.toNat_natCast, List.length_singleton, Nat.add_zero]
        show (c :: l.take i) :: _ = _
        rfl
end Go.Av
namespace Go.Av
def nameR (s : List UInt8) : Bool := s != [] && (s != [46] && (s != [46, 46] && (decide (s.length ≤ 64) && !(s.any fun b => b == 47 || b == 0))))
def partsP : List (List UInt8) → Option (List (List UInt8))
  | [] => some []
  | s :: l => if s = [] ∨ s = [46] then partsP l else if s = [46, 46] ∨ nameR s = true then (partsP l).map (s :: ·) else none
def splitP (s : List UInt8) : Option (List (List UInt8)) := if s = [] ∨ 1024 < s.length then none else partsP (splitS s)
theorem splitS_ne (s : List UInt8) : splitS s ≠ [] := by
  cases s with
  | nil => simp [splitS]
  | cons c l =>
    unfold splitS
    split
    · simp
    · split <;> simp
theorem splitS_len : ∀ (s : List UInt8), (splitS s).length ≤ s.length + 1 ∧ ∀ p ∈ splitS s, p.length ≤ s.length
  | [] => by simp [splitS]
  | c :: l => by
    have ⟨h1, h2⟩ := splitS_len l
    unfold splitS
    split
    · refine ⟨by simp; omega, fun p hp => ?_⟩
      rcases List.mem_cons.1 hp with rfl | hp
      · simp
      · have := h2 p hp; simp; omega
    · cases hs : splitS l with
      | nil => exact absurd hs (splitS_ne l)
      | cons h t =>
        rw [hs] at h1 h2
        refine ⟨by simp at h1 ⊢; omega, fun p hp => ?_⟩
        simp only [List.mem_cons] at hp
        rcases hp with rfl | hp
        · have := h2 h (by simp); simp; omega
        · have := h2 p (by simp [hp]); simp; omega
end Go.Av
set_option linter.unusedVariables false
namespace Go.Av
def pathOf (l : List (List UInt8)) : List UInt8 := 47 :: Lib.join l [47]
theorem nameR_facts {s : List UInt8} (h : nameR s = true) : s ≠ [] ∧ s ≠ [46] ∧ s ≠ [46, 46] ∧ s.length ≤ 64 ∧ 47 ∉ s := by
  simp [nameR, bne] at h
  obtain ⟨h1, h2, h3, h4, h5⟩ := h
  exact ⟨h1, h2, h3, h4, fun hm => (h5 47 hm).1 rfl⟩
theorem pathOf_snoc (l : List (List UInt8)) (x : List UInt8) : pathOf (l ++ [x]) = if l = [] then 47 :: x else pathOf l ++ 47 :: x := by
  cases l with
  | nil => simp [pathOf, Lib.join_one]
  | cons y r =>
    simp only [pathOf, List.cons_append, Lib.join_cons, if_neg (List.cons_ne_nil _ _)]
    simp [Lib.joinTail]
theorem splitS_no : ∀ {s : List UInt8}, 47 ∉ s → splitS s = [s]
  | [], _ => rfl
  | c :: l, h => by
    simp at h
    rw [splitS, if_neg (fun e => h.1 e.symm), splitS_no h.2]
theorem splitS_app : ∀ {s : List UInt8} (t : List UInt8), 47 ∉ s → splitS (s ++ 47 :: t) = s :: splitS t
  | [], t, _ => by simp [splitS]
  | c :: l, t, h => by
    simp at h
    rw [List.cons_append, splitS, if_neg (fun e => h.1 e.symm), splitS_app t h.2]
theorem splitS_join : ∀ {l : List (List UInt8)}, l ≠ [] → (∀ s ∈ l, 47 ∉ s) → splitS (Lib.join l [47]) = l
  | [], h, _ => absurd rfl h
  | [x], _, h => by rw [Lib.join_one]; exact splitS_no (h x (by simp))
  | x :: y :: r, _, h => by
    have e : Lib.join (x :: y :: r) [47] = x ++ 47 :: Lib.join (y :: r) [47] := by
      rw [Lib.join_cons, Lib.join_cons]
      simp [Lib.joinTail]
    rw [e, splitS_app _ (h x (by simp)), splitS_join (by simp) (fun s hs => h s (List.mem_cons_of_mem _ hs))]
theorem partsP_all : ∀ {l : List (List UInt8)}, (∀ s ∈ l, nameR s = true) → partsP l = some l
  | [], _ => rfl
  | x :: l, h => by
    obtain ⟨h1, h2, _⟩ := nameR_facts (h x (by simp))
    rw [partsP, if_neg (by simp [h1, h2]), if_pos (.inr (h x (by simp))), partsP_all (fun s hs => h s (List.mem_cons_of_mem _ hs))]
    rfl
theorem partsP_mem : ∀ {l p : List (List UInt8)}, partsP l = some p → ∀ x ∈ p, x = [46, 46] ∨ nameR x = true
  | [], p, h, x, hx => by cases h; cases hx
  | s :: l, p, h, x, hx => by
    rw [partsP] at h
    split at h
    · exact partsP_mem h x hx
    · split at h
      · rename_i hs
        obtain ⟨q, hq, rfl⟩ := Option.map_eq_some_iff.1 h
        rcases List.mem_cons.1 hx with rfl | hx
        · exact hs
        · exact partsP_mem hq x hx
      · cases h
theorem lens_le : ∀ {l : List (List UInt8)}, (∀ s ∈ l, s.length ≤ 64) → Lib.lens l ≤ 64 * l.length
  | [], _ => by simp [Lib.lens]
  | x :: l, h => by
    have := lens_le (l := l) (fun s hs => h s (List.mem_cons_of_mem _ hs))
    have h2 := h x (by simp)
    simp [Lib.lens] at this ⊢
    omega
theorem pathOf_len {l : List (List UInt8)} (hl : l.length ≤ 15) (h : ∀ s ∈ l, nameR s = true) : (pathOf l).length ≤ 1000 := by
  cases l with
  | nil => simp [pathOf, Lib.join_nil]
  | cons x r =>
    have h1 := Lib.join_length x r [47]
    have h2 := lens_le (l := x :: r) (fun s hs => (nameR_facts (h s hs)).2.2.2.1)
    simp only [pathOf, List.length_cons, h1, List.length_nil] at h2 hl ⊢
    omega
theorem splitP_pathOf {l : List (List UInt8)} (hl : l.length ≤ 15) (h : ∀ s ∈ l, nameR s = true) : splitP (pathOf l) = some l := by
  have := pathOf_len hl h
  rw [splitP, if_neg (by simp [pathOf]; simp [pathOf] at this; omega)]
  have e : splitS (pathOf l) = [] :: splitS (Lib.join l [47]) := by simp [pathOf, splitS]
  rw [e, partsP, if_pos (.inl rfl)]
  by_cases c : l = []
  · subst c; rfl
  · rw [splitS_join c (fun s hs => (nameR_facts (h s hs)).2.2.2.2), partsP_all h]
end Go.Av
