/- Parts of the proofs of this seat: abstract values over the model, and what the functions of the program do. No condition. -/
import Derived.Test.YtgegfcblacmbeaaDoorX04
set_option linter.all false
set_option linter.unusedVariables false
/-! Trees: whether they are right. -/
namespace Go.Av
open Go.Proofs
set_option maxRecDepth 100000 in
theorem tree_right_A {w0 : World} (hm0 : MaxL w0) (n : Node) : ∀ {S : St} {Q : AV → St → Prop} {id d : Nat} {left : Int}, n.ok → S[id]? = some (.cells [.int .i64 left] t_int) → d ≤ 1000 → 0 ≤ left → left ≤ 1000000000000 →
    Q (.bool (n.rgt d left).1) (S.set id (.cells [.int .i64 (n.rgt d left).2] t_int)) → AC w0 F_tree_right [.agg n.c, .int .i64 d, .ptr id 0] S Q := by
  induction n using Node.ind with
  | h n ih =>
    intro S Q id d left hok hS hd hl1 hl2 hq
    have hex := exts_ok hok
    have hz := @tree_zero_A w0 n
    have hn := fun S => @tree_names_A w0 n S hok
    rw [Node.c_eq] at hz hn ⊢
    apply tree_right_ok
    unfold G_tree_right
    rw [Node.rgt_eq] at hq
    rw [Node.ok_iff] at hok
    obtain ⟨h1, h2, h3, h4, h5, h6, h7⟩ := hok
    have hS1 := getSet_self (o' := .cells [.int .i64 (left - 1)] t_int) hS
    simp [loadA_ptr hS, joinK_eq]
    try simp (disch := omega) only [wrap64]
    simp [storeA_ptr hS]
    generalize hS' : S.set id (.cells [.int .i64 (left - 1)] t_int) = S' at hS1 ⊢
    have hback : ∀ v, S'.set id (.cells [.int .i64 v] t_int) = S.set id (.cells [.int .i64 v] t_int) := fun v => by rw [← hS', List.set_set]
    simp [loadA_ptr hS1]
    by_cases c1 : left - 1 < 0
    · rw [if_pos (.inl c1), hS'] at hq
      have c1' : left < 1 := by omega
      simp [c1, c1']
      exact hq
    have c1' : ¬ left < 1 := by omega
    by_cases c2 : 15 < d
    · rw [if_pos (.inr (.inl c2)), hS'] at hq
      have c2' : (15 : Int) < d := by omega
      simp [c1, c1', c2, c2']
      exact hq
    have c2' : ¬ (15 : Int) < d := by omega
    simp [c1, c1', c2, c2']
    refine hz ?_
    cases c3 : zeroB n with
    | false =>
      rw [if_pos (by simp [c3]), hS'] at hq
      simp
      exact hq
    | true =>
      rw [if_neg (by simp [c1, c2, c3])] at hq
      simp
      obtain hk | hk | hk | hk | hk := kinds5 n.kind
      all_goals (
        obtain ⟨q1, q2, q3, q4⟩ := hk
        simp only [q1, q2, q3, q4, decide_true, decide_false, ifK_true, ifK_false]
        simp only [q2, if_false, if_true] at hq)
      · rw [hS'] at hq
        refine extent_Right_A h5 hex ?_
        simpa [kindB, q1] using hq
      · refine hn _ ?_
        cases c5 : namesB n with
        | false =>
          rw [c5] at hq
          simp only [Bool.false_eq_true, if_false, hS'] at hq
          simpa using hq
        | true =>
          rw [c5] at hq
          simp only [if_true] at hq
          simp
          refine loop_list n.items (fun i (_ : Unit) => ([.int .i64 i], [])) (fun i _ S2 => ∃ lf : Int, 0 ≤ lf ∧ lf ≤ left ∧ S2 = S.set id (.cells [.int .i64 lf] t_int) ∧ Node.rgts n.items (d + 1) (left - 1) = Node.rgts (n.items.drop i) (d + 1) lf) () rfl ⟨left - 1, by omega, by omega, hS'.symm, by simp⟩ ?_ ?_
          · rintro i _ S2 v b x c hxi hd2 hc hm ⟨lf, l1, l2, rfl, hx⟩ hv
            simp at hv
            simp [hv, hc, hxi]
            have hS2 := getSet_self (o' := .cells [.int .i64 lf] t_int) hS
            rw [Node.rgts_drop hxi] at hx
            obtain ⟨r1, r2, r3, r4⟩ := x.rgt_spec (d + 1) lf l1
            have e1 : ((d : Int) + 1) = ((d + 1 : Nat) : Int) := by omega
            rw [e1]
            refine ih x hm (h4 x hm) hS2 (by omega) l1 (by omega) ?_
            rw [List.set_set]
            cases hb : (x.rgt (d + 1) lf).1 with
            | false =>
              rw [hx, hb] at hq
              simpa using hq
            | true =>
              rw [hb] at hx
              simp
              try simp (disch := omega) only [wrap64]
              refine .next c () rfl ⟨(x.rgt (d + 1) lf).2, ?_, by omega, rfl, by simpa using hx⟩
              have := r2 hb
              rw [hb] at r1
              have r1 := r1.symm
              simp only [Bool.and_eq_true, decide_eq_true_eq] at r1
              omega
          · rintro _ S2 v b ⟨lf, l1, l2, rfl, hx⟩ hv N
            simp at hv
            simp [hv]
            rw [hx, List.drop_length] at hq
            simpa [Node.rgts] using hq
      · rw [hS'] at hq
        refine name_Split_A hm0 h7 ?_
        have kb : kindB n = ((splitP n.target).isSome && decide (n.target.length ≤ 256)) := by rw [kindB]; simp only [q1, q2, q3, if_false, if_true]
        rw [kb] at hq
        cases hsp : splitP n.target with
        | none =>
          rw [hsp] at hq
          simpa using hq
        | some l =>
          rw [hsp] at hq
          intro r _ _
          have e : ((n.target.length : Int) ≤ 256) = (n.target.length ≤ 256) := propext (by omega)
          simp [e]
          simpa using hq
      · rw [hS'] at hq
        have kb : kindB n = true := by rw [kindB]; simp only [q1, q2, q3, q4, if_false, if_true]
        rwa [kb] at hq
      · rw [hS'] at hq
        have kb : kindB n = false := by rw [kindB]; simp only [q1, q2, q3, q4, if_false, if_true]
        rwa [kb] at hq
theorem tree_Right_A {w0 : World} (hm0 : MaxL w0) {n : Node} {S : St} (hok : n.ok) {Q : AV → St → Prop} (hq : ∀ S', Sx S S' → Q (.bool (rightB n)) S') : AC w0 F_tree_Right [.agg n.c] S Q := by
  have h1 := @tree_right_A w0 hm0 n (S ++ [.cells [.int .i64 4096] t_int])
  rw [← rightB_rgt] at hq
  rw [Node.c_eq] at h1 ⊢
  apply tree_Right_ok
  unfold G_tree_Right
  have hS : (S ++ [Obj.cells [.int .i64 0] t_int])[S.length]? = some (.cells [.int .i64 0] t_int) := by simp
  simp [storeA_ptr hS, joinK_eq]
  by_cases k : n.kind = 2
  · have k' : (n.kind = 2) = True := eq_true k
    simp only [k', decide_true, Bool.true_and] at hq
    simp [k']
    refine h1 (d := 0) (left := 4096) hok (by simp) (by omega) (by omega) (by omega) ?_
    simp
    exact hq _ (Sx.app _ _)
  · have k' : (n.kind = 2) = False := eq_false k
    simp only [k', decide_false, Bool.false_and] at hq
    simp [k']
    exact hq _ (Sx.app _ _)
end Go.Av
