/- Parts of the proofs of this seat: abstract values over the model, and what the functions of the program do. No condition. -/
import Derived.Test.YtdjfhghokfiieaaGreatDoorM1
import Derived.Lib.Split
set_option linter.all false
namespace Go.Av
def BA : List UInt8 → List (List UInt8)
 | [] => [[]]
 | c :: l => if c = 47 then [] :: BA l else match BA l with
  | h :: t => (c :: h) :: t
  | [] => [[c]]
theorem Qv : ∀ s : List UInt8, Lib.splitK [47] 0 (Lib.count s [47]) s = BA s
 | [] => rfl
 | c :: l => by
  have ih := Qv l
  have hne : ([47] : List UInt8) ≠ [] := by simp
  by_cases hc : c = 47
  ·subst hc
   have h0 : Lib.index (47 :: l) [47] = (0 : Nat) := by simp [Lib.index, List.isPrefixOf]
   rw [Lib.count_hit hne h0]
   rw [Nat.add_comm 1]
   rw [Lib.splitK, h0]
   simp only [BA, if_true]
   rw [← ih]
   rfl
  ·have hp : ([47] : List UInt8).isPrefixOf (c :: l) = false := by
    simp [List.isPrefixOf]
    exact fun h => hc h.symm
   have hi : Lib.index (c :: l) [47] = if Lib.index l [47] == -1 then -1 else Lib.index l [47] + 1 := by
    conv => lhs; unfold Lib.index
    rw [hp]
    rfl
   have hs : BA (c :: l) = match BA l with
    | h :: t => (c :: h) :: t
    | [] => [[c]] := by
    conv => lhs; unfold BA
    rw [if_neg hc]
   rw [hs, ← ih]
   by_cases hm : Lib.index l [47] = -1
   ·have h1 : Lib.index (c :: l) [47] = -1 := by rw [hi, hm]; rfl
    rw [Lib.count_miss h1, Lib.count_miss hm]
    rfl
   ·obtain ⟨i, hii⟩ : ∃ i : Nat, Lib.index l [47] = i := ⟨(Lib.index l [47]).toNat, by have := Lib.index_ge l [47]; omega⟩
    have h1 : Lib.index (c :: l) [47] = ((i + 1 : Nat) : Int) := by
     rw [hi, hii, if_neg (by simp)]; omega
    rw [Lib.count_hit hne h1, Lib.count_hit hne hii, Nat.add_comm 1, Nat.add_comm 1]
    rw [Lib.splitK, h1, Lib.splitK, hii]
    rw [if_neg (by simp <;> omega), if_neg (by simp)]
    simp only [Int.toNat_natCast, List.length_singleton, Nat.add_zero]
    show (c :: l.take i) :: _ = _
    rfl
def FN (s : List UInt8) : Bool := s != [] && (s != [46] && (s != [46, 46] && (decide (s.length ≤ 64) && !(s.any fun b => b == 47 || b == 0))))
def Be : List (List UInt8) → Option (List (List UInt8))
 | [] => some []
 | s :: l => if s = [] ∨ s = [46] then Be l else if s = [46, 46] ∨ FN s = true then (Be l).map (s :: ·) else none
def IV (s : List UInt8) : Option (List (List UInt8)) := if s = [] ∨ 1024 < s.length then none else Be (BA s)
theorem KE (s : List UInt8) : BA s ≠ [] := by
 cases s with
 | nil => simp [BA]
 | cons c l =>
  unfold BA
  split
  ·simp
  ·split <;> simp
theorem PW : ∀ (s : List UInt8), (BA s).length ≤ s.length + 1 ∧ ∀ p ∈ BA s, p.length ≤ s.length
 | [] => by simp [BA]
 | c :: l => by
  have ⟨h1, h2⟩ := PW l
  unfold BA
  split
  ·refine ⟨by simp; omega, fun p hp => ?_⟩
   rcases List.mem_cons.1 hp with rfl | hp
   ·simp
   ·have := h2 p hp; simp; omega
  ·cases hs : BA l with
   | nil => exact absurd hs (KE l)
   | cons h t =>
    rw [hs] at h1 h2
    refine ⟨by simp at h1 ⊢; omega, fun p hp => ?_⟩
    simp only [List.mem_cons] at hp
    rcases hp with rfl | hp
    ·have := h2 h (by simp); simp; omega
    ·have := h2 p (by simp [hp]); simp; omega
end Go.Av
