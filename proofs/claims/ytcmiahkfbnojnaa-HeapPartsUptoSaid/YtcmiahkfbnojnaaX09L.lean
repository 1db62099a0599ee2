/- Parts of the proofs of this seat: abstract values over the model, and what the functions of the program do. No condition. -/
import Derived.Test.YtcmiahkfbnojnaaY09b
set_option linter.all false
set_option linter.unusedVariables false
/-! The laws of the heap. -/
namespace Go.Av
open Go.Proofs
theorem law09_speaks_A {w0 : World} {S : St} {Q : AV → St → Prop} (hq : ∀ S', Sx S S' → Q (.bool true) S') : AC w0 F_law09_speaks [] S Q := by
  apply law09_speaks_ok
  unfold G_law09_speaks
  refine heap_Merge_A (rows := [⟨[[97], [99]], .full⟩, ⟨[[98], [99]], .full⟩]) (by simp) (by simp [totS]) (by simp) fun S1 h1 => ?_
  have e : mergeS (totS [⟨[[97], [99]], .full⟩, ⟨[[98], [99]], .full⟩]) [⟨[[97], [99]], .full⟩, ⟨[[98], [99]], .full⟩] = [⟨[97], 0⟩, ⟨[98], 1⟩, ⟨[99], 0⟩, ⟨[99], 1⟩] := by decide
  rw [e]
  simp [joinK_eq, binE, eqA, cellsEq, cellEq, typedCells]
  have := heap_First_A (w0 := w0) (S := S1) (l := [⟨[97], 0⟩, ⟨[98], 1⟩, ⟨[99], 0⟩, ⟨[99], 1⟩]) (r := .none) (by simp) (Q := fun t25 S_2 => optK (lenSlA t25) fun t26 => optK (binA BinOp.eql t26 (AV.int IntKind.i64 3)) fun t27 => optK (pickA (.bool true) t27 (.bool false)) fun t28 => Q t28.strip S_2) ?_
  · simpa using this
  · intro r hr
    simp [firstL]
    exact hq _ h1
/-- The names of items that Merge answered. -/
theorem law09_HeapParts_1_A {w0 : World} {S : St} {l : List Item} {r : Rt} (hl : l.length ≤ 100000) {Q : AV → St → Prop} (hq : ∀ r : Rt, (r = .nil → l = []) → Q (.vs 1 (((firstL none l).map (·.name)).map wStr) r.strip) S) : AC w0 F_law09_HeapParts_1 [.vs 2 (l.map Item.c) r] S Q := by
  apply law09_HeapParts_1_ok
  unfold G_law09_HeapParts_1
  rw [joinK_eq]
  refine heap_First_A (by omega) fun r1 hr1 => ?_
  have hlen := firstL_len none l
  generalize hF : firstL none l = F at *
  simp
  refine loop_list F (fun i (s : Rt) => ([.vs 1 (((F.take i).map (·.name)).map wStr) s, .int .i64 i], [])) (fun i s S' => S' = S ∧ (s = .nil ∧ i = 0 ∨ ∃ t, s = .own t)) .nil rfl ⟨rfl, .inl ⟨rfl, rfl⟩⟩ ?_ ?_
  · rintro i s S' v b x c hxi hd hc hm ⟨rfl, hr⟩ hv
    simp at hv
    have hr1 : s ≠ .none ∧ (s = .nil ∨ True) := by rcases hr with ⟨rfl, _⟩ | ⟨t, rfl⟩ <;> simp
    have hlim : i + 1 ≤ lim := by unfold lim; omega
    have hmin : min i F.length = i := by omega
    simp [hv, hc, hxi, appendA, elemsA, hr1.1, hmin, hlim]
    rw [wrap64 (by omega) (by omega)]
    refine .next c (.own (rowTy T_string s)) ?_ ⟨rfl, .inr ⟨_, rfl⟩⟩
    simp [List.take_succ, hxi]
  · rintro s S' v b ⟨rfl, hr⟩ hv N
    simp at hv
    simp [hv]
    have := hq s (fun e => by
      rcases hr with ⟨_, h⟩ | ⟨t, h⟩
      · have h0 : F = [] := List.eq_nil_of_length_eq_zero h
        cases l with
        | nil => rfl
        | cons x l => rw [← hF] at h0; simp [firstL] at h0
      · rw [h] at e; cases e)
    simpa using this
def Gd (rows : List Ss) : Prop := rows.length ≤ 70 ∧ ∀ x ∈ rows, x.l.length ≤ 60 ∧ Sorted x.l
theorem totS_bound : ∀ (rows : List Ss), (∀ x ∈ rows, x.l.length ≤ 60) → totS rows ≤ rows.length * 60
  | [], _ => by simp [totS]
  | x :: rows, h => by
    have h1 := h x (by simp)
    have h2 := totS_bound rows fun y hy => h y (by simp [hy])
    simp only [totS, List.map_cons, List.sum_cons, List.length_cons] at h2 ⊢
    omega
theorem item_eq (x y : Item) : binE (.agg T_heap_Item.zero) .neq (.agg x.c) (.agg y.c) = some (.bool (!decide (x = y))) := by
  by_cases h1 : x.name = y.name <;> by_cases h2 : x.row = y.row <;> simp [binE, eqA, cellsEq, cellEq, typedCells, h1, h2] <;> (try (cases x; cases y; simp_all)) <;> (try (intro h; rw [h] at h1; exact h1 rfl)) <;> (try (intro h; rw [h] at h2; exact h2 rfl))
theorem law09_HeapMerges_L (w0 : World) (x0 : AV) (h0 : TV t_s_s_string x0) : AC w0 F_law09_HeapMerges [x0] [] fun r _ => r = .bool true := by
  obtain ⟨rows, r, rfl, hr, hl, hx⟩ := h0.slice (enc := Ss.c) (ok := Ss.ok) un_s_s_string ce_s_string dec_Ss
  apply law09_HeapMerges_ok
  unfold G_law09_HeapMerges
  refine law09_speaks_A fun S hS => ?_
  simp
  refine ifK_b (fun _ => by simp) (fun h70 => ?_)
  simp at h70
  refine joinK_gen (fun j => ∀ S, Gd rows → j S) (fun S hG => ?_) (fun j hj => ?_)
  · have ht := totS_bound rows fun x hx => (hG.2 x hx).1
    refine heap_Merge_A (by omega) (by omega) (fun x hm => (hx x hm).1) fun S1 h1 => ?_
    refine ref09_Merge_A (by omega) (by omega) (fun x hm => (hx x hm).2) fun S2 r2 h2 hr2 => ?_
    have hlen : (mergeS (totS rows) rows).length ≤ 10000 := by
      have : ∀ (f : Nat) (rs : List Ss), (mergeS f rs).length ≤ f := by
        intro f
        induction f with
        | zero => intro rs; simp [mergeS]
        | succ f ih =>
          intro rs
          simp only [mergeS]
          split
          · simp
          · simp only [List.length_cons]; have := ih (tailS rs (by assumption)); omega
      have := this (totS rows) rows
      omega
    generalize mergeS (totS rows) rows = M at *
    simp
    refine heap_First_A (by omega) fun r3 hr3 => ?_
    have hFl := firstL_len none M
    generalize hF : firstL none M = F at *
    rw [joinK_eq]
    refine loop_list M (fun i (k : Nat) => ([.int .i64 k, .int .i64 i], [])) (fun i k S' => F.drop k = firstL (prevN M i) (M.drop i) ∧ k ≤ F.length) 0 rfl ⟨by rw [← hF]; rfl, Nat.zero_le _⟩ ?_ ?_
    · rintro i k S' v b x c hxi hd hc hm ⟨hk, hkl⟩ hv
      try simp only at hv hk hkl
      simp at hv
      rw [hd] at hk
      simp [hv, hc, hxi]
      have hpn : prevN M (i + 1) = some x.name := by simp [prevN, hxi]
      have he := item_eq x x
      simp at he
      simp [he]
      have keep : firstL (prevN M i) (x :: M.drop (i + 1)) = x :: firstL (some x.name) (M.drop (i + 1)) → F[k]? = some x ∧ F.drop (k + 1) = firstL (some x.name) (M.drop (i + 1)) := fun e => by
        rw [e] at hk
        constructor
        · have : (F.drop k)[0]? = some x := by rw [hk]; rfl
          simpa using this
        · rw [← List.drop_drop, hk]; rfl
      have nxt : ∀ k', F.drop k' = firstL (some x.name) (M.drop (i + 1)) → k' ≤ F.length → Nl (fun i (k : Nat) => ([.int .i64 k, .int .i64 i], [])) (fun i k S' => F.drop k = firstL (prevN M i) (M.drop i) ∧ k ≤ F.length) M.length i ([.int .i64 (k' : Int), .int .i64 (IntKind.i64.wrap (i + 1))], []) S' := fun k' e1 e2 => by
        rw [wrap64 (by omega) (by omega)]
        exact .next c k' rfl ⟨by rw [hpn]; exact e1, e2⟩
      refine joinK_gen (fun j => ∀ k', F.drop k' = firstL (some x.name) (M.drop (i + 1)) → k' ≤ F.length → j (.int .i64 (k' : Int))) (fun k' e1 e2 => by simpa using nxt k' e1 e2) (fun j4 hj4 => ?_)
      have app : F[k]? = some x ∧ F.drop (k + 1) = firstL (some x.name) (M.drop (i + 1)) → ∀ T : Prop, True := fun _ _ => trivial
      have hk64 : k ≤ 100000 := by omega
      have stepK : firstL (prevN M i) (x :: M.drop (i + 1)) = x :: firstL (some x.name) (M.drop (i + 1)) → k < F.length ∧ F[k]? = some x ∧ j4 (.int .i64 ((k + 1 : Nat) : Int)) := fun e => by
        obtain ⟨q1, q2⟩ := keep e
        have := (List.getElem?_eq_some_iff.1 q1).1
        exact ⟨this, q1, hj4 (k + 1) q2 (by omega)⟩
      cases i with
      | zero =>
        obtain ⟨q1, q2, q3⟩ := stepK (by simp [prevN, firstL])
        have e0 : ¬ (F.length ≤ k) := by omega
        simp [joinK_eq, e0, q2, he]
        try rw [wrap64 (by omega) (by omega)]
        simpa using q3
      | succ i =>
        obtain ⟨y, hyi⟩ : ∃ y, M[i]? = some y := ⟨M[i]'(by omega), by simp⟩
        have e1 : ¬ ((i : Int) + 1 = 0) := by omega
        have hp : prevN M (i + 1) = some y.name := by simp [prevN, hyi]
        rw [hp] at hk stepK
        simp [e1, hyi]
        try simp (disch := omega) only [wrap64]
        simp [hyi, hxi]
        by_cases cn : y.name = x.name
        · simp [cn]
          refine hj4 k ?_ hkl
          simpa [firstL, cn] using hk
        · obtain ⟨q1, q2, q3⟩ := stepK (by simp [firstL, cn])
          have e0 : ¬ (F.length ≤ k) := by omega
          simp [cn, joinK_eq, e0, q2, he]
          try rw [wrap64 (by omega) (by omega)]
          simpa using q3
    · rintro k S' v b ⟨hk, hkl⟩ hv N
      try simp only at hv hk hkl
      simp at hv
      simp [hv]
      simp [firstL] at hk
      omega
  · refine loop_list rows (fun i (_ : Unit) => ([.int .i64 i], [])) (fun i _ S' => ∀ x ∈ rows.take i, x.l.length ≤ 60 ∧ Sorted x.l) () rfl (by simp) ?_ ?_
    · rintro i _ S' v b x c hxi hd hc hm hg hv
      simp at hv
      simp [hv, hc, hxi]
      by_cases c60 : 60 < x.l.length
      · have : (60 : Int) < x.l.length := by omega
        simp [this, joinK_eq]
      · have : ¬ (60 : Int) < x.l.length := by omega
        simp [this, joinK_eq]
        refine ref09_Rises_A (x := x) (by omega) (fun s hs => by have := (hx x hm).2.2 s hs; omega) ?_
        simp
        cases hri : risesL x.l with
        | false => simp
        | true =>
          simp
          rw [wrap64 (by omega) (by omega)]
          refine .next c () rfl fun y hy => ?_
          rw [List.take_succ, hxi] at hy
          rcases List.mem_append.1 hy with hy | hy
          · exact hg y hy
          · simp at hy; subst hy
            exact ⟨by omega, (rises_iff _).1 hri⟩
    · rintro _ S' v b hg hv N
      simp at hv
      simp [hv]
      rw [List.take_length] at hg
      exact hj S' ⟨by omega, hg⟩

theorem mergeS_len : ∀ (f : Nat) (rs : List Ss), (mergeS f rs).length ≤ f
  | 0, rs => by simp [mergeS]
  | f + 1, rs => by
    simp only [mergeS]
    split
    · simp
    · rename_i j t _
      simp only [List.length_cons]; have := mergeS_len f (tailS rs j); omega
theorem namesOf_len (rs : List Ss) : (namesOf rs).length ≤ totS rs := by
  unfold namesOf
  rw [List.length_map]
  exact Nat.le_trans (firstL_len _ _) (mergeS_len _ _)
/-- The names of rows that are merged. -/
theorem names_A {w0 : World} {S : St} {rows : List Ss} {r : Rt} (hl : rows.length ≤ 100000) (ht : totS rows ≤ 100000) (hok : ∀ x ∈ rows, x.r = .nil → x.l = []) {Q : AV → St → Prop}
    (hq : ∀ S' (r : Rt), (r = .nil → namesOf rows = []) → Q (.vs 1 ((namesOf rows).map wStr) r.strip) S') :
    AC w0 F_heap_Merge [.vs 1 (rows.map Ss.c) r] S fun t44 S_6 => optK (calleeA (.fn F_law09_HeapParts_1 [] []) [t44]) fun a => AC w0 a.1 a.2 S_6 Q := by
  refine heap_Merge_A hl (by omega) hok fun S1 _ => ?_
  simp [calleeA, argsA]
  refine law09_HeapParts_1_A (by have := mergeS_len (totS rows) rows; omega) fun r hr => ?_
  exact hq _ _ fun e => by simp [namesOf, hr e, firstL]
theorem law09_HeapParts_L (w0 : World) (x0 x1 : AV) (h0 : TV t_s_s_string x0) (h1 : TV t_uint8 x1) : AC w0 F_law09_HeapParts [x0, x1] [] fun r _ => r = .bool true := by
  obtain ⟨rows, r, rfl, hr, hl, hx⟩ := h0.slice (enc := Ss.c) (ok := Ss.ok) un_s_s_string ce_s_string dec_Ss
  obtain ⟨n, rfl, hn⟩ := h1.u8 un_uint8
  apply law09_HeapParts_ok
  unfold G_law09_HeapParts
  refine law09_speaks_A fun S hS => ?_
  simp
  refine ifK_b (fun _ => by simp) (fun h70 => ?_)
  simp at h70
  refine joinK_gen (fun j => ∀ S, Gd rows → j S) (fun S hG => ?_) (fun j hj => ?_)
  · have ht := totS_bound rows fun x hx => (hG.2 x hx).1
    obtain ⟨k, hk⟩ : ∃ k, k = n % (rows.length + 1) := ⟨_, rfl⟩
    have hkl : k ≤ rows.length := by have := Nat.mod_lt n (show rows.length + 1 > 0 by omega); omega
    have e1 : IntKind.i64.wrap (n : Int) = n := wrap64 (by omega) (by omega)
    have e2 : IntKind.i64.wrap ((rows.length : Int) + 1) = ((rows.length + 1 : Nat) : Int) := by rw [wrap64 (by omega) (by omega)]; simp
    have e3 : Int.tmod (n : Int) ((rows.length + 1 : Nat) : Int) = k := by rw [hk]; rfl
    rw [e1, e2, binA_rem _ _ _ (by omega), e3]
    have hrn : (r.strip = .nil → rows = []) := fun e => by
      rcases hr with ⟨_, h⟩ | h
      · exact h
      · rw [h] at e; cases e
    simp [hkl]
    rw [if_pos hrn, if_pos hrn]
    have et : (rows.map Ss.c).take k = (rows.take k).map Ss.c := by simp
    have ed : (rows.map Ss.c).drop k = (rows.drop k).map Ss.c := by simp
    simp only [et, ed, optK_some', free_vs, if_true, strip_vs]
    have sub1 : ∀ x ∈ rows.take k, x ∈ rows := fun x hx => List.mem_of_mem_take hx
    have sub2 : ∀ x ∈ rows.drop k, x ∈ rows := fun x hx => List.mem_of_mem_drop hx
    have t1 := totS_le rows k
    have t2 : totS (rows.drop k) ≤ totS rows := by
      have := totS_app (rows.take k) (rows.drop k)
      rw [List.take_append_drop] at this
      omega
    have n1 := namesOf_len (rows.take k)
    have n2 := namesOf_len (rows.drop k)
    obtain ⟨s1, m1⟩ := namesOf_spec (rs := rows.take k) fun x hx => (hG.2 x (sub1 x hx)).2
    obtain ⟨s2, m2⟩ := namesOf_spec (rs := rows.drop k) fun x hx => (hG.2 x (sub2 x hx)).2
    obtain ⟨s4, m4⟩ := namesOf_spec (rs := rows) fun x hx => (hG.2 x hx).2
    refine names_A (by simp; omega) (by omega) (fun x hm => (hx x (sub1 x hm)).1) fun S1 r1 hr1 => ?_
    refine names_A (rows := rows.drop k) (by simp; omega) (by omega) (fun x hm => (hx x (sub2 x hm)).1) fun S2 r2 hr2 => ?_
    simp
    have hone : ∀ x ∈ ([⟨namesOf (rows.take k), r1⟩, ⟨namesOf (rows.drop k), r2⟩] : List Ss), Sorted x.l := by simp [s1, s2]
    obtain ⟨s3, m3⟩ := namesOf_spec hone
    have heq : namesOf [⟨namesOf (rows.take k), r1⟩, ⟨namesOf (rows.drop k), r2⟩] = namesOf rows := by
      refine sorted_unique s3 s4 fun s => ?_
      rw [m3, m4]
      simp only [List.mem_cons, List.not_mem_nil, or_false, exists_eq_or_imp, exists_eq_left, m1, m2]
      constructor
      · rintro (⟨x, h1, h2⟩ | ⟨x, h1, h2⟩)
        · exact ⟨x, sub1 x h1, h2⟩
        · exact ⟨x, sub2 x h1, h2⟩
      · rintro ⟨x, h1, h2⟩
        rw [← List.take_append_drop k rows] at h1
        rcases List.mem_append.1 h1 with h1 | h1
        · exact .inl ⟨x, h1, h2⟩
        · exact .inr ⟨x, h1, h2⟩
    refine names_A (rows := [⟨namesOf (rows.take k), r1⟩, ⟨namesOf (rows.drop k), r2⟩]) (by simp) (by simp [totS]; omega) (by simp; exact ⟨hr1, hr2⟩) fun S3 r3 hr3 => ?_
    refine names_A (by omega) (by omega) (fun x hm => (hx x hm).1) fun S4 r4 hr4 => ?_
    rw [heq]
    have n4 := namesOf_len rows
    have hstr : ∀ s ∈ namesOf rows, s.length ≤ 1048576 := fun s hs => by
      obtain ⟨x, h1, h2⟩ := (m4 s).1 hs
      exact (hx x h1).2.2 s h2
    generalize namesOf rows = N at *
    simp
    rw [joinK_eq]
    refine ref09_Rises_A (x := ⟨N, r4⟩) (by show N.length ≤ _; omega) (fun s hs => by have := hstr s hs; omega) ?_
    rw [show risesL N = true from (rises_iff N).2 s4]
    simp
    rw [joinK_eq]
    refine loop_list N (fun i (_ : Unit) => ([.int .i64 i], [])) (fun i _ S' => True) () rfl trivial ?_ ?_
    · rintro i _ S' v b x c hxi hd hc hm _ hv
      simp at hv
      simp [hv, hc, hxi]
      rw [wrap64 (by omega) (by omega)]
      exact .next c () rfl trivial
    · rintro _ S' v b _ hv N2
      simp at hv
      simp [hv]
  · refine loop_list rows (fun i (_ : Unit) => ([.int .i64 i], [])) (fun i _ S' => ∀ x ∈ rows.take i, x.l.length ≤ 60 ∧ Sorted x.l) () rfl (by simp) ?_ ?_
    · rintro i _ S' v b x c hxi hd hc hm hg hv
      simp at hv
      simp [hv, hc, hxi]
      by_cases c60 : 60 < x.l.length
      · have : (60 : Int) < x.l.length := by omega
        simp [this, joinK_eq]
      · have : ¬ (60 : Int) < x.l.length := by omega
        simp [this, joinK_eq]
        refine ref09_Rises_A (x := x) (by omega) (fun s hs => by have := (hx x hm).2.2 s hs; omega) ?_
        simp
        cases hri : risesL x.l with
        | false => simp
        | true =>
          simp
          rw [wrap64 (by omega) (by omega)]
          refine .next c () rfl fun y hy => ?_
          rw [List.take_succ, hxi] at hy
          rcases List.mem_append.1 hy with hy | hy
          · exact hg y hy
          · simp at hy; subst hy
            exact ⟨by omega, (rises_iff _).1 hri⟩
    · rintro _ S' v b hg hv N
      simp at hv
      simp [hv]
      rw [List.take_length] at hg
      exact hj S' ⟨by omega, hg⟩
end Go.Av
