/- Parts of the proofs of this seat: abstract values over the model, and what the functions of the program do. No condition. -/
import Derived.Test.YtgegfcblacmbeaaDoorD1
set_option linter.all false
set_option linter.unusedVariables false
/-! Texts, rows of texts; their order. -/
namespace Go.Av
open Go.Proofs
@[simp] def wStr (s : Str) : List AV := [.str s]
/-- A row of texts, and its right. -/
structure Ss where
  l : List Str
  r : Rt
  deriving DecidableEq
@[simp] def Ss.v (x : Ss) : AV := .vs 1 (x.l.map wStr) x.r.strip
@[simp] def Ss.c (x : Ss) : List AV := [x.v]
def Ss.ok (x : Ss) : Prop := (x.r = .nil → x.l = []) ∧ x.l.length ≤ 1048576 ∧ ∀ s ∈ x.l, s.length ≤ 1048576
theorem dec_Str (cs : List AV) (h : TT t_string cs) : ∃ x : Str, cs = wStr x ∧ x.length ≤ 1048576 := dec_str h un_string
theorem dec_Ss (cs : List AV) (h : TT t_s_string cs) : ∃ x : Ss, cs = x.c ∧ x.ok := by
  obtain ⟨l, r, rfl, hr, hl, hx⟩ := dec_slice (enc := wStr) (ok := fun s => s.length ≤ 1048576) h un_s_string ce_string dec_Str
  exact ⟨⟨l, r⟩, by rcases hr with ⟨h, _⟩ | h <;> rw [h] <;> rfl, ⟨fun e => by
    rcases hr with ⟨_, h⟩ | h
    · exact h
    · simp only at e
      rw [h] at e
      exact Rt.noConfusion e, hl, hx⟩⟩
abbrev slt (a b : Str) : Bool := Op.bytesLess a b
theorem slt_cons (x y : UInt8) (a b : Str) : slt (x :: a) (y :: b) = (decide (x < y) || (decide (x = y) && slt a b)) := by
  simp only [slt, Op.bytesLess]
  by_cases h : x < y
  · simp [h]
  · by_cases h2 : x = y
    · subst h2; simp
    · simp [h, h2]
theorem slt_irrefl : ∀ a : Str, slt a a = false
  | [] => rfl
  | x :: a => by rw [slt_cons, slt_irrefl a]; simp
theorem slt_trans : ∀ {a b c : Str}, slt a b = true → slt b c = true → slt a c = true
  | [], [], _, h, _ => by simp [slt, Op.bytesLess] at h
  | [], _ :: _, [], _, h => by simp [slt, Op.bytesLess] at h
  | [], _ :: _, _ :: _, _, _ => rfl
  | _ :: _, [], _, h, _ => by simp [slt, Op.bytesLess] at h
  | _ :: _, _ :: _, [], _, h => by simp [slt, Op.bytesLess] at h
  | x :: a, y :: b, z :: c, h, k => by
    rw [slt_cons] at h k ⊢
    simp at h k ⊢
    rcases h with h | ⟨rfl, h⟩
    · rcases k with k | ⟨rfl, k⟩
      · exact .inl (UInt8.lt_trans h k)
      · exact .inl h
    · rcases k with k | ⟨rfl, k⟩
      · exact .inl k
      · exact .inr ⟨rfl, slt_trans h k⟩
theorem slt_tri : ∀ (a b : Str), slt a b = true ∨ a = b ∨ slt b a = true
  | [], [] => .inr (.inl rfl)
  | [], _ :: _ => .inl rfl
  | _ :: _, [] => .inr (.inr rfl)
  | x :: a, y :: b => by
    rw [slt_cons, slt_cons]
    by_cases h : x < y
    · simp [h]
    · by_cases h2 : x = y
      · subst h2
        rcases slt_tri a b with h | h | h
        · simp [h]
        · simp [h]
        · simp [h]
      · have : y < x := by
          rcases UInt8.lt_or_lt_of_ne h2 with h3 | h3
          · exact (h h3).elim
          · exact h3
        simp [this]
theorem slt_asymm {a b : Str} (h : slt a b = true) : slt b a = false := by
  cases k : slt b a with
  | false => rfl
  | true => have := slt_trans h k; rw [slt_irrefl] at this; cases this
end Go.Av
