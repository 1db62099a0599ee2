/- A part of the proof of a law of this seat: The law GateDoes: what its body answers. No condition. -/
import Derived.Test.YtcmiahkfbnojnaaPGate3
set_option linter.all false
set_option linter.unusedVariables false
set_option linter.unusedSimpArgs false
/-! The law GateDoes: what its body answers. -/
namespace Go.Av
open Go.Proofs

/-- Who writes, as a row. -/
def wl (w : Int) : List Int := if w = 0 then [] else [w - 1]
theorem wl_zero : wl 0 = [] := rfl
theorem mem_wl {w x : Int} (hx : 0 ≤ x) : x ∈ wl w ↔ w = x + 1 := by
  unfold wl
  by_cases h : w = 0
  · simp [h]; omega
  · simp [h]; omega
theorem wl_nil {w : Int} : wl w = [] ↔ w = 0 := by
  unfold wl; by_cases h : w = 0 <;> simp [h]
theorem wl_len {w : Int} (hw : 0 ≤ w) : ((wl w).length : Int) = if 1 < w then 1 else w := by
  unfold wl
  by_cases h : w = 0
  · simp [h]
  · by_cases h1 : 1 < w
    · simp [h, h1]
    · simp [h, h1]; omega
theorem wl_succ {x : Int} (hx : 0 ≤ x) : wl (x + 1) = [x] := by
  have : ¬ (x + 1 = 0) := by omega
  simp [wl, this]
theorem wl_filter {w x : Int} (hx : 0 ≤ x) : (wl w).filter (· ≠ x) = wl (if w = x + 1 then 0 else w) := by
  unfold wl
  by_cases h : w = 0
  · subst h
    have : ¬ (0 = x + 1) := by omega
    simp [this]
  · by_cases h1 : w = x + 1
    · simp [h1]
    · have : ¬ (w - 1 = x) := by omega
      simp [h, h1, this]

/-- The gate, and what holds of it. -/
structure GI (S : St) (id : Nat) (R : List Int) (w : Int) (Wt : List Int) (n : Nat) : Prop where
  gs : GS S id R w Wt
  nr : R.Nodup
  nw : Wt.Nodup
  one : w ≠ 0 → R = []
  pos : 0 ≤ w ∧ w ≤ 256
  lr : R.length ≤ n
  lw : Wt.length ≤ n

theorem addW_len (Wt : List Int) (x : Int) : (addW Wt x).length ≤ Wt.length + 1 := by
  unfold addW; split
  · omega
  · rw [List.length_append, List.length_singleton]; omega
theorem addW_nodup {Wt : List Int} (h : Wt.Nodup) (x : Int) : (addW Wt x).Nodup := by
  unfold addW; split
  · exact h
  · rename_i k; exact List.nodup_append.2 ⟨h, by simp, by intro a ha b hb; rw [List.mem_singleton.1 hb]; intro e; exact k (e ▸ ha)⟩
theorem filter_head {l : List Int} {x : Int} (h : l.Nodup) (hh : l.head? = some x) : l.filter (· ≠ x) = l.tail := by
  cases l with
  | nil => simp at hh
  | cons y l =>
    simp only [List.head?_cons, Option.some.injEq] at hh
    subst hh
    have hy := (List.nodup_cons.1 h).1
    rw [List.filter_cons_of_neg (by simp), List.tail_cons, List.filter_eq_self]
    intro a ha
    simp only [decide_eq_true_eq]
    intro e; exact hy (e ▸ ha)

theorem okRead_iff {R Wt : List Int} {w x : Int} (hx : 0 ≤ x) : okRead R Wt w x = true ↔ (¬ (x ∈ R ∨ x ∈ wl w) ∧ wl w = [] ∧ Wt = []) := by
  simp only [okRead, decide_eq_true_eq, wl_nil, mem_wl hx]
  constructor
  · rintro ⟨h1, h2, h3⟩
    exact ⟨fun k => k.elim h3 (fun k => by omega), h1, h2⟩
  · rintro ⟨h1, h2, h3⟩
    exact ⟨h2, h3, fun k => h1 (.inl k)⟩
/-- Acts as elements. -/
def actOk (e : List AV) : Prop := ∃ k x : Nat, e = [.int .u8 k, .int .u8 x] ∧ k < 256 ∧ x < 256

theorem f3 {w0 : World} {S0 : St} {es : List (List AV)} {rt : Rt} (hes : ∀ e ∈ es, actOk e) : AC w0 3 [.vs 2 es rt] S0 fun r S' => r = .bool true := by
  apply G3_ok
  unfold G3
  simp only [callK_def, argsA, List.all_nil, if_true, List.map_nil, optK_some']
  refine AC_mono f10 ?_
  rintro _ S rfl
  simp only [unA_not, Bool.not_true, optK_some', ifK_false, strip_vs, lenSlA_vs, binA_gtr]
  refine ifK_iff (fun c => trivial) (fun c => ?_)
  have hlen : es.length ≤ 300 := by omega
  clear c
  refine joinK_gen (fun j => ∀ S, j S) (fun S => trivial) (fun j9 hj9 => ?_)
  have g0 : GI (S ++ [Obj.cells T27.zero]) S.length [] 0 [] 0 := ⟨GS_new S, by simp, by simp, fun _ => rfl, by omega, by simp, by simp⟩
  generalize S ++ [Obj.cells T27.zero] = S0' at g0
  generalize S.length = id at g0
  refine ⟨fun m y S' => ∃ (i : Nat) (R : List Int) (w : Int) (Wt : List Int) (p q r : Rt), y = ([.int .i64 i], [some [.vs 1 (R.map wInt) p, .vs 1 ((wl w).map wInt) q, .vs 1 (Wt.map wInt) r]]) ∧ i ≤ es.length ∧ m = es.length - i ∧ GI S' id R w Wt i, 
    ⟨_, 0, [], 0, [], .nil, .nil, .nil, rfl, Nat.zero_le _, rfl, g0⟩, ?_⟩
  rintro m v b S1 ⟨i, R, w, Wt, p, q, r, hv, hi, hm, g⟩
  simp only [Prod.mk.injEq, List.cons.injEq, and_true] at hv
  obtain ⟨hv1, hv2⟩ := hv
  simp only [hv1, hv2, binA_lss, optK_some']
  refine ifK_iff (fun c => ?_) (fun c => hj9 _)
  have c' : i < es.length := by omega
  have hlw := g.lw
  have hlr := g.lr
  have hpos := g.pos
  obtain ⟨k, x, he, hk, hx⟩ := hes _ (List.getElem_mem c')
  have hidx : idxSlA T31 (.vs 2 es rt.strip) (.int .i64 i) = some (.ep [.int .u8 k, .int .u8 x] 0) := by simp [idxSlA, c', he]
  have hwx : IntKind.i64.wrap (x : Int) = x := wrap64 (by omega) (by omega)
  have hwi : IntKind.i64.wrap ((i : Int) + 1) = i + 1 := wrap64 (by omega) (by omega)
  simp [-joinK_eq, hidx, hwx]
  refine joinK_gen (fun j => ∀ (ok : Bool) (R' : List Int) (w' : Int) (Wt' : List Int) (p q r : Rt) S', GI S' id R' w' Wt' (i + 1) → j (.bool ok) (.bool ok) (some [.vs 1 (R'.map wInt) p, .vs 1 ((wl w').map wInt) q, .vs 1 (Wt'.map wInt) r]) S')
    (fun ok R' w' Wt' p q r S' g' => ?_) (fun j hj => ?_)
  · clear g hv1 hv2 hlw hlr hpos hj9
    have hlr := g'.lr
    have hlw := g'.lw
    have hpos := g'.pos
    simp
    refine AC_mono (f17 g'.gs) ?_
    rintro _ S2 ⟨rfl, rfl⟩
    simp
    refine AC_mono (f18 g'.gs) ?_
    rintro _ S3 ⟨rfl, rfl⟩
    simp [wl_len hpos.1]
    refine AC_mono (f19 g'.gs) ?_
    rintro _ S4 ⟨rfl, rfl⟩
    simp
    refine AC_mono (f20 g'.gs (by omega)) ?_
    rintro _ S5 ⟨rfl, rfl⟩
    simp
    refine AC_mono (f21 (by omega) (by unfold wl; split <;> simp)) ?_
    rintro _ S6 ⟨rfl, rfl⟩
    simp [mem_wl (show (0 : Int) ≤ x by omega)]
    refine AC_mono (f18 g'.gs) ?_
    rintro _ S7 ⟨rfl, rfl⟩
    have h1 : ¬ (1 < (if 1 < w' then 1 else w')) := by split <;> omega
    simp [h1]
    refine AC_mono (f18 g'.gs) ?_
    rintro _ S8 ⟨rfl, rfl⟩
    have fin : ∃ m', m' < m ∧ ∃ (i_1 : Nat) (R : List Int) (w : Int) (Wt : List Int) (p_1 q_1 r_1 : Rt), ([AV.int .i64 ((i : Int) + 1)], [some [AV.vs 1 (R'.map wInt) p, AV.vs 1 ((wl w').map wInt) q, AV.vs 1 (Wt'.map wInt) r]]) = ([.int .i64 i_1], [some [.vs 1 (R.map wInt) p_1, .vs 1 ((wl w).map wInt) q_1, .vs 1 (Wt.map wInt) r_1]]) ∧ i_1 ≤ es.length ∧ m' = es.length - i_1 ∧ GI S8 id R w Wt i_1 :=
      ⟨_, by omega, i + 1, R', w', Wt', p, q, r, by simp, by omega, rfl, g'⟩
    by_cases hw : w' = 0
    · simp [hw, hwi]
      simpa [hw] using fin
    · have h2 : (if 1 < w' then 1 else w') = 1 := by split <;> omega
      simp [h2]
      refine AC_mono (f17 g'.gs) ?_
      rintro _ S9 ⟨rfl, rfl⟩
      have := g'.one hw
      subst this
      simp [hwi]
      simpa using fin
  · rw [binA_rem _ _ 3 (by decide)]
    simp only [optK_some', binA_eql]
    refine ifK_iff (fun c0 => ?_) (fun c0 => ?_)
    · refine AC_mono (f11 g.gs (by omega) (by omega)) ?_
      rintro _ S2 ⟨rfl, hy, hn⟩
      refine f12 (by omega) (by unfold wl; split <;> simp) (fun h p q r => ?_) (fun h p q r => ?_)
      · have hf : okRead R Wt w x = false := by
          cases e : okRead R Wt w x with
          | false => rfl
          | true => exact (h ((okRead_iff (by omega)).1 e)).elim
        simp [hf]
        rw [hn hf]
        exact hj false R w Wt _ _ _ _ ⟨g.gs, g.nr, g.nw, g.one, g.pos, by omega, by omega⟩
      · have hf := (okRead_iff (by omega)).2 h
        simp [hf]
        have hw := wl_nil.1 h.2.1
        have hR : (x : Int) ∉ R := fun k => h.1 (.inl k)
        have := fun p q r => hj true (R ++ [(x : Int)]) w Wt p q r S2 ⟨hy hf, by
          exact List.nodup_append.2 ⟨g.nr, by simp, by intro a ha b hb; rw [List.mem_singleton.1 hb]; intro e; exact hR (e ▸ ha)⟩, g.nw, fun k => (k hw).elim, g.pos, by rw [List.length_append, List.length_singleton]; omega, by omega⟩
        simp only [List.map_append] at this
        exact this _ _ _
    · refine ifK_iff (fun c1 => ?_) (fun c1 => ?_)
      · refine f13 g.gs (by omega) (by omega) (by omega) (fun h => ?_) (fun h hf S2 g2 => ?_) (fun h hf S2 g2 => ?_)
        · have h' := h
          rw [← mem_wl (show (0 : Int) ≤ x by omega)] at h'
          refine f14 (by omega) (by unfold wl; split <;> simp) (by omega) (fun _ p q r => ?_) (fun k => (k h').elim) (fun k => (k h').elim)
          simp
          exact hj false R w Wt _ _ _ _ ⟨g.gs, g.nr, g.nw, g.one, g.pos, by omega, by omega⟩
        · have h' := h
          rw [← mem_wl (show (0 : Int) ≤ x by omega)] at h'
          have hno : ¬ ((addW Wt x).head? = some (x : Int) ∧ R = [] ∧ wl w = []) := fun k => by
            have : okWrite R Wt w x = true := by simp only [okWrite, decide_eq_true_eq]; exact ⟨k.1, wl_nil.1 k.2.2, k.2.1⟩
            rw [hf] at this; exact absurd this (by decide)
          refine f14 (by omega) (by unfold wl; split <;> simp) (by omega) (fun k => (h' k).elim) (fun _ _ p q r => ?_) (fun _ k => (hno k).elim)
          simp
          exact hj false R w (addW Wt x) _ _ _ _ ⟨g2, g.nr, addW_nodup g.nw x, g.one, g.pos, by omega, Nat.le_trans (addW_len _ _) (by omega)⟩
        · have h' := h
          rw [← mem_wl (show (0 : Int) ≤ x by omega)] at h'
          simp only [okWrite, decide_eq_true_eq] at hf
          obtain ⟨hf1, hf2, hf3⟩ := hf
          refine f14 (by omega) (by unfold wl; split <;> simp) (by omega) (fun k => (h' k).elim) (fun _ k => (k ⟨hf1, hf3, wl_nil.2 hf2⟩).elim) (fun _ _ p q r => ?_)
          rw [filter_head (addW_nodup g.nw x) hf1, hf3, ← wl_succ (show (0 : Int) ≤ x by omega)]
          simp
          have hl := addW_len Wt x
          have := fun p q r => hj true [] (x + 1) (addW Wt x).tail p q r S2 ⟨g2, by simp, (addW_nodup g.nw x).sublist (List.tail_sublist _), fun _ => rfl, by omega, by simp, by rw [List.length_tail]; omega⟩
          simp only [List.map_tail] at this
          exact this _ _ _
      · refine f15 g.gs (by omega) (fun h => ?_) (fun h S2 g2 => ?_)
        · have h' := h
          rw [← mem_wl (show (0 : Int) ≤ x by omega)] at h'
          refine f16 (by omega) (by unfold wl; split <;> simp) (fun _ p q r => ?_) (fun k => (h' k).elim)
          simp
          exact hj false R w Wt _ _ _ _ ⟨g.gs, g.nr, g.nw, g.one, g.pos, by omega, by omega⟩
        · have h' := h
          rw [← mem_wl (show (0 : Int) ≤ x by omega)] at h'
          refine f16 (by omega) (by unfold wl; split <;> simp) (fun k => (k h').elim) (fun _ p q r => ?_)
          have er : R.erase (x : Int) = R.filter (· ≠ (x : Int)) := by
            rw [g.nr.erase_eq_filter]
            exact List.filter_congr fun a _ => by simp [bne]; rfl
          rw [wl_filter (by omega), ← er]
          have hl := List.length_erase_le (a := (x : Int)) (l := R)
          have := fun p q r => hj true (R.erase x) (if w = x + 1 then 0 else w) Wt p q r S2 ⟨g2, g.nr.erase _, g.nw, fun k => by
            by_cases e : w = x + 1
            · rw [if_pos e] at k; exact (k rfl).elim
            · rw [if_neg e] at k; rw [g.one k]; rfl, by split <;> omega, by omega, by omega⟩
          simp
          exact this _ _ _
end Go.Av
