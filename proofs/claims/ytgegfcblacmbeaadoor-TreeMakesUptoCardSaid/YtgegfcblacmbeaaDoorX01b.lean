/- Parts of the proofs of this seat: abstract values over the model, and what the functions of the program do. No condition. -/
import Derived.Test.YtgegfcblacmbeaaDoorX01
import Derived.Test.YtgegfcblacmbeaaDoorXJoin
import Derived.Test.YtgegfcblacmbeaaDoorY01b
set_option linter.all false
set_option linter.unusedVariables false
/-! Names and paths: joined; the laws. -/
namespace Go.Av
open Go.Proofs
theorem ref01_Same_A {w0 : World} {S : St} {a b : List Str} {ra rb : Rt} (ha : a.length ≤ 1000000000000) {Q : AV → St → Prop} (hq : Q (.bool (decide (a = b))) S) : AC w0 F_ref01_Same [.vs 1 (a.map wStr) ra, .vs 1 (b.map wStr) rb] S Q := by
  apply ref01_Same_ok
  unfold G_ref01_Same
  by_cases hl : a.length = b.length
  · have hl' : ((a.length : Int) != (b.length : Int)) = false := by simp [hl]
    simp only [List.length_map, hl']
    simp [joinK_eq]
    refine loop_list a (fun i (_ : Unit) => ([.int .i64 i], [])) (fun i _ S' => S' = S ∧ a.take i = b.take i) () rfl (by simp) ?_ ?_
    · rintro i _ S' v bx x c hxi hd hc hm ⟨rfl, hx⟩ hv
      simp at hv
      obtain ⟨y, hy⟩ : ∃ y, b[i]? = some y := ⟨b[i]'(by omega), by simp [show i < b.length by omega]⟩
      simp [hv, hc, hxi, hy]
      by_cases e : x = y
      · simp [e]
        try simp (disch := omega) only [wrap64]
        refine .next c () rfl ⟨rfl, ?_⟩
        rw [List.take_add_one, List.take_add_one, hxi, hy, hx, e]
      · have : ¬ a = b := fun h => e (by rw [h, hy] at hxi; exact (Option.some.inj hxi).symm)
        simp [e]
        simpa [this] using hq
    · rintro _ S' v bx ⟨rfl, hx⟩ hv N
      simp at hv
      simp [hv]
      rw [List.take_length, hl, List.take_length] at hx
      simpa [hx] using hq
  · have hl' : ((a.length : Int) != (b.length : Int)) = true := by simp; omega
    have : ¬ a = b := fun h => hl (by rw [h])
    simp only [List.length_map, hl']
    simpa [this] using hq
theorem name_Join_A {w0 : World} {S : St} {l : List Str} {r : Rt} (hl : l.length ≤ 140737488355328) (hn : (pathOf l).length ≤ 100000000000) {Q : AV → St → Prop} (hq : Q (.str (pathOf l)) S) : AC w0 F_name_Join [.vs 1 (l.map wStr) r] S Q := by
  apply name_Join_ok
  unfold G_name_Join
  have hn' : (Lib.join l [47]).length ≤ 99999999999 := by simp [pathOf] at hn; omega
  refine Join_A hl (by omega) ?_
  rw [binA_add_str (by simp; omega)]
  simpa [pathOf] using hq
theorem pathOf_take_len (l : List Str) (i : Nat) : (pathOf (l.take i)).length ≤ (pathOf l).length := by
  by_cases h : i < l.length
  · have : ∀ n, (pathOf (l.take n)).length ≤ (pathOf (l.take (n + 1))).length := by
      intro n
      by_cases hn : n < l.length
      · have e : l.take (n + 1) = l.take n ++ [l[n]] := by rw [List.take_add_one]; simp [hn]
        rw [e, pathOf_snoc]
        split
        · rename_i h0; rw [h0]; simp [pathOf, Lib.join_nil]
        · simp
      · rw [List.take_of_length_le (by omega), List.take_of_length_le (by omega)]; exact Nat.le_refl _
    have h2 : ∀ k, (pathOf (l.take i)).length ≤ (pathOf (l.take (i + k))).length := by
      intro k
      induction k with
      | zero => exact Nat.le_refl _
      | succ k ih => exact Nat.le_trans ih (this _)
    have := h2 (l.length - i)
    rw [show i + (l.length - i) = l.length by omega, List.take_length] at this
    exact this
  · rw [List.take_of_length_le (by omega)]; exact Nat.le_refl _
theorem ref01_Join_A {w0 : World} {S : St} {l : List Str} {r : Rt} (hl : l.length ≤ 1000000000000) (hn : (pathOf l).length ≤ 100000000000) {Q : AV → St → Prop} (hq : Q (.str (pathOf l)) S) : AC w0 F_ref01_Join [.vs 1 (l.map wStr) r] S Q := by
  apply ref01_Join_ok
  unfold G_ref01_Join
  simp [joinK_eq]
  refine loop_list l (fun i (_ : Unit) => ([.str (pathOf (l.take i)), .int .i64 i], [])) (fun i _ S' => S' = S) () (by simp [pathOf, Lib.join_nil]) rfl ?_ ?_
  · rintro i _ S' v bx x c hxi hd hc hm rfl hv
    simp at hv
    simp [hv, hc, hxi]
    have hs : pathOf (l.take (i + 1)) = if l.take i = [] then 47 :: x else pathOf (l.take i) ++ 47 :: x := by
      rw [List.take_add_one, hxi, ← pathOf_snoc]
      rfl
    have hle := pathOf_take_len l (i + 1)
    rw [hs] at hle
    by_cases hi : i = 0
    · subst hi
      simp at hle
      simp
      rw [binA_add_str (by simp [pathOf, Lib.join_nil]; omega)]
      simp
      try simp (disch := omega) only [wrap64]
      refine .next c () ?_ rfl
      rw [hs]
      simp [pathOf, Lib.join_nil]
    · have hi' : (0 : Int) < i := by omega
      have hne : l.take i ≠ [] := by simp; exact ⟨hi, fun h => by subst h; simp at c⟩
      rw [if_neg hne] at hle
      simp at hle
      have hi0 : 0 < i := by omega
      simp [hi', hi, hi0]
      rw [binA_add_str (by simp; omega)]
      simp
      rw [binA_add_str (by simp; omega)]
      simp
      try simp (disch := omega) only [wrap64]
      refine .next c () ?_ rfl
      rw [hs, if_neg hne]
      simp
  · rintro _ S' v bx rfl hv N
    simp at hv
    simp [hv]
    exact hq
theorem name_Child_A {w0 : World} {S : St} {d s : Str} (hn : d.length + s.length ≤ 1000000000) {Q : AV → St → Prop} (hq : Q (.str (if d = [47] then d ++ s else d ++ 47 :: s)) S) : AC w0 F_name_Child [.str d, .str s] S Q := by
  apply name_Child_ok
  unfold G_name_Child
  rw [binA_add_str (by omega), binA_add_str (by simp; omega)]
  simp
  rw [binA_add_str (by simp; omega)]
  by_cases c : d = [47]
  · simpa [c] using hq
  · simpa [c] using hq
/-- The path of the directory. -/
theorem name_Parent_A {w0 : World} {S : St} {d s : Str} (hs : (d ++ 47 :: s).length ≤ 1000000000) (hn : 47 ∉ s) {Q : AV → St → Prop} (hq : Q (.str (if d = [] then [47] else d)) S) : AC w0 F_name_Parent [.str (d ++ 47 :: s)] S Q := by
  apply name_Parent_ok
  unfold G_name_Parent
  refine LastIndexByte_A (c := 47) hs fun i hi => ?_
  have hid : i = d.length := by
    rcases hi with ⟨_, h⟩ | ⟨d', t, h1, h2, h3⟩
    · exact absurd (by simp) h
    · rw [h2]
      have : d' = d := by
        rcases List.append_eq_append_iff.1 h1 with ⟨a', h4, h5⟩ | ⟨a', h4, h5⟩
        · cases a' with
          | nil => simpa using h4
          | cons a a' =>
            simp at h5
            exact absurd (by rw [h5.2]; simp) hn
        · cases a' with
          | nil => simpa using h4.symm
          | cons a a' =>
            simp at h5
            exact absurd (by rw [h5.2]; simp) h3
      rw [this]
  subst hid
  by_cases c : d = []
  · subst c
    simpa using hq
  · have hp : ¬ ((d.length : Int) ≤ 0) := by have := List.length_pos_iff.2 c; omega
    simp [c] at hq ⊢
    simpa using hq
end Go.Av
