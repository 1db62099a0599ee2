/- A part of the proof of a law of this seat: The gate by rows of names: what the document's functions do. No condition. -/
import Derived.Test.YtcmiahkfbnojnaaPGate2
set_option linter.all false
set_option linter.unusedVariables false
set_option linter.unusedSimpArgs false
/-! The gate by rows of names: what the document's functions do. -/
namespace Go.Av
open Go.Proofs

theorem joinK_gen {α : Type} {r : α} {b : α → Prop} (J : α → Prop) (h1 : J r) (h2 : ∀ j, J j → b j) : joinK r b := h2 r h1

theorem f36 {w0 : World} {S : St} {l : List Int} {x : Int} {r : Rt} (hl : l.length < 1000000) :
    AC w0 36 [.vs 1 (l.map wInt) r, .int .i64 x] S fun r' S' => S' = S ∧ r' = .bool (decide (x ∈ l)) := by
  apply G36_ok
  unfold G36
  simp only [joinK_eq, optK_some']
  refine ⟨fun n y S' => S' = S ∧ ∃ i : Nat, y = ([.int .i64 i], []) ∧ i ≤ l.length ∧ n = l.length - i ∧ x ∉ l.take i, ⟨_, rfl, 0, rfl, Nat.zero_le _, rfl, by simp⟩, ?_⟩
  rintro n v b S1 ⟨rfl, i, hv, hi, hn, hp⟩
  simp only [Prod.mk.injEq, List.cons.injEq, and_true] at hv
  by_cases c : i < l.length
  · have hw : IntKind.i64.wrap ((i : Int) + 1) = i + 1 := wrap64 (by omega) (by omega)
    by_cases c2 : l[i] = x
    · have : x ∈ l := c2 ▸ List.getElem_mem c
      simp [hv, c, c2, idxSlA, wInt, this]
    · simp [hv, c, c2, idxSlA, wInt, hw]
      refine ⟨_, by omega, i + 1, by simp, by omega, rfl, ?_⟩
      intro h
      rw [List.take_succ_eq_append_getElem c] at h
      rcases List.mem_append.1 h with h | h
      · exact hp h
      · exact c2 (List.mem_singleton.1 h).symm
  · have hi' : i = l.length := by omega
    subst hi'
    rw [List.take_length] at hp
    simp [hv, hp]

theorem f37 {w0 : World} {S : St} {l : List Int} {x : Int} {r : Rt} (hl : l.length < 1000000) :
    AC w0 37 [.vs 1 (l.map wInt) r, .int .i64 x] S fun r' S' => S' = S ∧ ∃ q, r' = .vs 1 ((l.filter (· ≠ x)).map wInt) q := by
  apply G37_ok
  unfold G37
  simp only [joinK_eq, optK_some', elemVals]
  refine ⟨fun n y S' => S' = S ∧ ∃ (i : Nat) (q : Rt), q ≠ .none ∧ y = ([.vs 1 (((l.take i).filter (· ≠ x)).map wInt) q, .int .i64 i], []) ∧ i ≤ l.length ∧ n = l.length - i, ⟨_, rfl, 0, .full, by simp, by simp, Nat.zero_le _, rfl⟩, ?_⟩
  rintro n v b S1 ⟨rfl, i, q, hq, hv, hi, hn⟩
  simp only [Prod.mk.injEq, List.cons.injEq, and_true] at hv
  obtain ⟨hv1, hv2⟩ := hv
  by_cases c : i < l.length
  · have hw : IntKind.i64.wrap ((i : Int) + 1) = i + 1 := wrap64 (by omega) (by omega)
    have ht := List.take_succ_eq_append_getElem c
    by_cases c2 : l[i] = x
    · simp [hv1, hv2, c, c2, idxSlA, wInt, hw]
      refine ⟨_, ?_, i + 1, q, hq, ?_, by omega, rfl⟩
      · omega
      · rw [ht, List.filter_append, List.filter_cons_of_neg (by simp [c2])]; simp [wInt]
    · have hlen : ((l.take i).filter (· ≠ x)).length ≤ i := Nat.le_trans (List.length_filter_le _ _) (by simp; omega)
      have hlim : ((l.take i).filter (· ≠ x)).length + 1 ≤ lim := by simp only [lim]; omega
      simp at hlim
      simp [hv1, hv2, c, c2, idxSlA, wInt, hw, appendA, elemsA, hq, hlim]
      refine ⟨_, ?_, i + 1, .own, by simp, ?_, by omega, rfl⟩
      · omega
      · rw [ht, List.filter_append, List.filter_cons_of_pos (by simp [c2])]; simp [wInt]
  · have hi' : i = l.length := by omega
    subst hi'
    simp [hv1, hv2]

/-- The rows: who reads, who writes, who waits. -/
abbrev rows (a b c : List Int) (p q r : Rt) : AV := .agg [.vs 1 (a.map wInt) p, .vs 1 (b.map wInt) q, .vs 1 (c.map wInt) r]
theorem f21 {w0 : World} {S : St} {a b c : List Int} {x : Int} {p q r : Rt} (ha : a.length < 1000000) (hb : b.length < 1000000) :
    AC w0 21 [rows a b c p q r, .int .i64 x] S fun r' S' => S' = S ∧ r' = .bool (decide (x ∈ a ∨ x ∈ b)) := by
  apply G21_ok
  unfold G21
  simp
  refine AC_mono (f36 ha) ?_
  rintro _ S1 ⟨rfl, rfl⟩
  by_cases h : x ∈ a
  · simp [h]
  · simp [h]
    refine AC_mono (f36 hb) ?_
    rintro _ S2 ⟨rfl, rfl⟩
    simp
theorem f12 {w0 : World} {S : St} {a b c : List Int} {x : Int} {p q r : Rt} (ha : a.length < 1000000) (hb : b.length < 1000000) {Q : AV → St → Prop}
    (q0 : ¬ (¬ (x ∈ a ∨ x ∈ b) ∧ b = [] ∧ c = []) → ∀ p q r, Q (.tup [rows a b c p q r, .bool false]) S)
    (q1 : (¬ (x ∈ a ∨ x ∈ b) ∧ b = [] ∧ c = []) → ∀ p q r, Q (.tup [rows (a ++ [x]) b c p q r, .bool true]) S) :
    AC w0 12 [rows a b c p q r, .int .i64 x] S Q := by
  apply G12_ok
  unfold G12
  simp
  refine AC_mono (f21 ha hb) ?_
  rintro _ S1 ⟨rfl, rfl⟩
  by_cases h : x ∈ a ∨ x ∈ b
  · have := q0 (fun k => k.1 h)
    simp [h, this]
  by_cases h2 : b = []
  case neg =>
    have := q0 (fun k => h2 k.2.1)
    have hl : 0 < b.length := List.length_pos_iff.2 h2
    simp [h, hl, this]
  by_cases h3 : c = []
  case neg =>
    have := q0 (fun k => h3 k.2.2)
    have hl : 0 < c.length := List.length_pos_iff.2 h3
    subst h2
    simp at h
    simp [h, hl]
    exact this _ _ _
  have := q1 ⟨h, h2, h3⟩
  subst h2 h3
  simp at h
  have hlim : a.length + 1 ≤ lim := by simp only [lim]; omega
  have hlim0 : a.length ≤ lim := by omega
  by_cases h4 : a = []
  · subst h4
    simp [h, appendA, elemsA, wInt, hlim] 
    exact this _ _ _
  · simp [h, appendA, elemsA, wInt, hlim, hlim0, h4]
    simp only [rows, List.map_append] at this
    exact this _ _ _
theorem f14 {w0 : World} {S : St} {a b c : List Int} {x : Int} {p q r : Rt} (ha : a.length < 1000000) (hb : b.length < 1000000) (hc : c.length < 900000) {Q : AV → St → Prop}
    (q0 : (x ∈ a ∨ x ∈ b) → ∀ p q r, Q (.tup [rows a b c p q r, .bool false]) S)
    (q1 : ¬ (x ∈ a ∨ x ∈ b) → ¬ ((addW c x).head? = some x ∧ a = [] ∧ b = []) → ∀ p q r, Q (.tup [rows a b (addW c x) p q r, .bool false]) S)
    (q2 : ¬ (x ∈ a ∨ x ∈ b) → ((addW c x).head? = some x ∧ a = [] ∧ b = []) → ∀ p q r, Q (.tup [rows a [x] ((addW c x).filter (· ≠ x)) p q r, .bool true]) S) :
    AC w0 14 [rows a b c p q r, .int .i64 x] S Q := by
  apply G14_ok
  unfold G14
  simp [-joinK_eq]
  refine AC_mono (f21 ha hb) ?_
  rintro _ S1 ⟨rfl, rfl⟩
  by_cases h : x ∈ a ∨ x ∈ b
  · have := q0 h
    simp [h]
    exact this _ _ _
  have e1 := q1 h
  have e2 := q2 h
  have hne : ∃ y l, addW c x = y :: l := by
    unfold addW
    cases c with
    | nil => exact ⟨x, [], by simp⟩
    | cons y l => by_cases k : x ∈ y :: l
                  · exact ⟨y, l, if_pos k⟩
                  · exact ⟨y, l ++ [x], by rw [if_neg k]; rfl⟩
  have hlen : (addW c x).length < 1000000 := by
    unfold addW; split
    · omega
    · rw [List.length_append, List.length_singleton]; omega
  simp [h, -joinK_eq]
  refine joinK_gen (fun j => ∀ t : Rt, j (some [.vs 1 (a.map wInt) p, .vs 1 (b.map wInt) q, .vs 1 ((addW c x).map wInt) t]) S1) (fun t => ?_) (fun j hj => ?_)
  · clear q0 q1 q2
    generalize addW c x = c' at hne hlen e1 e2
    obtain ⟨y, l, rfl⟩ := hne
    by_cases k1 : y = x
    case neg =>
      have := e1 (by simp [k1])
      simp [idxSlA, wInt, k1]
      exact this _ _ _
    subst k1
    by_cases k2 : a = []
    case neg =>
      have := e1 (by simp [k2])
      have hl : 0 < a.length := List.length_pos_iff.2 k2
      simp [idxSlA, wInt, hl]
      exact this _ _ _
    by_cases k3 : b = []
    case neg =>
      have := e1 (by simp [k3])
      have hl : 0 < b.length := List.length_pos_iff.2 k3
      subst k2
      simp [idxSlA, wInt, hl]
      exact this _ _ _
    subst k2 k3
    have := e2 ⟨rfl, rfl, rfl⟩
    simp only [lloadA, readT, T25_agg, T29_agg, T29_size, Option.bind_some, optK_some', Bool.false_eq_true, if_false, if_true, List.getElem?_cons_succ, List.getElem?_cons_zero, strip_vs, strip_int, callK_def, argsA, List.all_cons, free_vs, free_int, List.all_nil, Bool.and_self, List.map_cons, List.map_nil, idxSlA, joinK_eq, T3_size, T3_agg]
    simp [wInt]
    refine AC_mono (f37 (l := y :: l) hlen) ?_
    rintro _ S3 ⟨rfl, q', rfl⟩
    simp
    simp [rows] at this
    exact this _ _ _
  refine AC_mono (f36 (by omega)) ?_
  rintro _ S2 ⟨rfl, rfl⟩
  clear e1 e2 q0 q1 q2
  by_cases k : x ∈ c
  · have ec : addW c x = c := if_pos k
    rw [ec] at hj
    simp [k, hj]
  · have ec : addW c x = c ++ [x] := if_neg k
    rw [ec] at hj
    have hlim : c.length + 1 ≤ lim := by simp only [lim]; omega
    have hlim0 : c.length ≤ lim := by omega
    have := hj .own
    simp only [List.map_append] at this
    by_cases h4 : c = []
    · subst h4
      simp [appendA, elemsA, wInt, hlim]
      exact this
    · simp [k, appendA, elemsA, wInt, hlim, hlim0, h4]
      exact this
theorem f16 {w0 : World} {S : St} {a b c : List Int} {x : Int} {p q r : Rt} (ha : a.length < 1000000) (hb : b.length < 1000000) {Q : AV → St → Prop}
    (q0 : ¬ (x ∈ a ∨ x ∈ b) → ∀ p q r, Q (.tup [rows a b c p q r, .bool false]) S)
    (q1 : (x ∈ a ∨ x ∈ b) → ∀ p q r, Q (.tup [rows (a.filter (· ≠ x)) (b.filter (· ≠ x)) c p q r, .bool true]) S) :
    AC w0 16 [rows a b c p q r, .int .i64 x] S Q := by
  apply G16_ok
  unfold G16
  simp
  refine AC_mono (f21 ha hb) ?_
  rintro _ S1 ⟨rfl, rfl⟩
  by_cases h : x ∈ a ∨ x ∈ b
  case neg =>
    have := q0 h
    simp [h, this]
  have := q1 h
  simp [h]
  refine AC_mono (f37 ha) ?_
  rintro _ S2 ⟨rfl, q', rfl⟩
  simp
  refine AC_mono (f37 hb) ?_
  rintro _ S3 ⟨rfl, q'', rfl⟩
  simp
  simp [rows] at this
  exact this _ _ _
end Go.Av
