/- Parts of the proofs of this seat: abstract values over the model, and what the functions of the program do. No condition. -/
import Derived.Test.YtclomnkgpemnaaaDoorM8
import Derived.Test.YtclomnkgpemnaaaDoorM9
import Derived.Test.YtclomnkgpemnaaaDoorD0
import Derived.Test.YtclomnkgpemnaaaDoorM11
import Derived.Test.YtclomnkgpemnaaaDoorM14
import Derived.Shelf.Strings.Builder1
import Derived.DataReads
set_option linter.all false
set_option linter.unusedVariables false
namespace Go.Av
open Go.Proofs
def extChain (size : Int) : Int → List Ext → Bool
  | _, [] => true
  | at_, x :: l => decide (at_ ≤ x.off ∧ x.data ≠ [] ∧ x.off + x.data.length ≤ size) && extChain size (x.off + x.data.length) l
def extOk (size : Int) (l : List Ext) : Bool := decide (0 ≤ size ∧ size ≤ 1048576) && extChain size 0 l
def ExtB (l : List Ext) : Prop := (∀ x ∈ l, -9223372036854775808 ≤ x.off ∧ x.off ≤ 9223372036854775807 ∧ x.data.length ≤ 1000000000000000) ∧ l.length ≤ 1000000000000000
theorem extent_Right_A {w0 : World} {size : Int} {l : List Ext} {r : Rt} {S : St} {Q : AV → St → Prop} (hs : -9223372036854775808 ≤ size ∧ size ≤ 9223372036854775807) (hb : ExtB l)
   (hq : Q (.bool (extOk size l)) S) : AC w0 F_extent_Right [.int .i64 size, .vs 2 (l.map Ext.c) r] S Q := by
  apply extent_Right_ok
  unfold G_extent_Right
  simp
  rw [joinK_eq]
  obtain ⟨hb1, hb2⟩ := hb
  by_cases hneg : size < 0
  · have hf : extOk size l = false := by simp [extOk]; omega
    rw [hf] at hq
    refine loop_list l (fun i at_ => ([.int .i64 at_, .int .i64 i], [])) (fun i at_ S' => S' = S) 0 rfl rfl ?_ ?_
    · rintro i at_ S' v b x c hxi hd hc hm rfl hv
      simp at hv
      simp [hv, hc, hxi]
      refine ifK_b (fun h => hq) (fun h => ?_)
      try simp (disch := omega) only [wrap64]
      exact .next c _ rfl rfl
    · rintro at_ S' v b rfl hv N
      simp at hv
      simpa [hv, show ¬ 0 ≤ size by omega] using hq
  refine loop_list l (fun i at_ => ([.int .i64 at_, .int .i64 i], [])) (fun i at_ S' => S' = S ∧ 0 ≤ at_ ∧ extChain size 0 l = extChain size at_ (l.drop i)) 0 rfl (by simp) ?_ ?_
  · rintro i at_ S' v b x c hxi hd hc hm ⟨rfl, h0, hx⟩ hv
    simp at hv
    obtain ⟨h1, h2, h3⟩ := hb1 x hm
    simp [hv, hc, hxi]
    rw [hd, extChain] at hx
    by_cases c1 : x.off < at_
    · have : extOk size l = false := by simp [extOk, hx]; omega
      simpa [c1, this] using hq
    by_cases c2 : x.data = []
    · have : extOk size l = false := by simp [extOk, hx, c2]
      simpa [c1, c2, this] using hq
    try simp (disch := omega) only [wrap64]
    by_cases c3 : size - x.off < x.data.length
    · have : extOk size l = false := by simp [extOk, hx]; omega
      simpa [c1, c2, c3, this] using hq
    simp [c1, c2, c3]
    try simp (disch := omega) only [wrap64]
    exact .next c _ rfl ⟨rfl, by omega, by simp [hx, c2]; omega⟩
  · rintro at_ S' v b ⟨rfl, h0, hx⟩ hv N
    simp at hv
    simp [hv]
    simpa [extOk, hx, extChain] using hq
def atE : List Ext → Int → UInt8
  | [], _ => 0
  | x :: l, p => if x.off ≤ p ∧ p < x.off + x.data.length then x.data.getD (p - x.off).toNat 0 else atE l p
def ofE (i : Nat) (s : Str) : List Ext :=
  if h : s = [] then [] else
    (if s.takeWhile (· != 0) = [] then [] else [⟨i, s.takeWhile (· != 0)⟩]) ++ ofE (i + (s.takeWhile (· != 0)).length + 1) (s.drop ((s.takeWhile (· != 0)).length + 1))
termination_by s.length
decreasing_by
  have : 0 < s.length := List.length_pos_iff.2 h
  simp; omega
theorem takeWhile_pos {p : UInt8 → Bool} : ∀ {s : Str} {j : Nat}, j < (s.takeWhile p).length → ∃ x, s[j]? = some x ∧ p x = true
  | [], j, h => by simp at h
  | x :: s, j, h => by
    by_cases c : p x = true
    · rw [List.takeWhile_cons_of_pos c] at h
      cases j with
      | zero => exact ⟨x, rfl, c⟩
      | succ j => obtain ⟨y, h1, h2⟩ := takeWhile_pos (s := s) (j := j) (by simpa using h); exact ⟨y, by simpa using h1, h2⟩
    · rw [List.takeWhile_cons_of_neg c] at h; simp at h
theorem takeWhile_end {p : UInt8 → Bool} : ∀ {s : Str} {x : UInt8}, s[(s.takeWhile p).length]? = some x → p x = false
  | [], x, h => by simp at h
  | y :: s, x, h => by
    by_cases c : p y = true
    · rw [List.takeWhile_cons_of_pos c] at h
      exact takeWhile_end (s := s) (by simpa using h)
    · rw [List.takeWhile_cons_of_neg c] at h
      simp at h; subst h; simpa using c
theorem take_takeWhile {p : UInt8 → Bool} (s : Str) : s.take (s.takeWhile p).length = s.takeWhile p :=
  (List.prefix_iff_eq_take.1 (List.takeWhile_prefix p)).symm
theorem len_takeWhile {p : UInt8 → Bool} (s : Str) : (s.takeWhile p).length ≤ s.length := (List.takeWhile_prefix p).length_le
theorem extent_Of_A {w0 : World} {s : Str} {S : St} {Q : AV → St → Prop} (hl : s.length ≤ 1000000000) (hq : ∀ r, (r = .nil ∧ ofE 0 s = []) ∨ r = .none → Q (.vs 2 ((ofE 0 s).map Ext.c) r) S) : AC w0 F_extent_Of [.str s] S Q := by
  apply extent_Of_ok
  unfold G_extent_Of
  simp
  refine joinK_gen (fun j => ∀ r : Rt, (r = .nil ∧ ofE 0 s = []) ∨ r = .own 0 ∨ r = .own t_api_Extent → j (.vs 2 ((ofE 0 s).map Ext.c) r) S) (fun r hr => ?_) (fun j4 hj4 => ?_)
  · rcases hr with ⟨rfl, hr⟩ | rfl | rfl
    · exact hq _ (.inl ⟨rfl, hr⟩)
    · exact hq _ (.inr rfl)
    · exact hq _ (.inr rfl)
  refine loopQ_by (fun s' : Nat × List Ext × Rt => ([.str s, .vs 2 (s'.2.1.map Ext.c) s'.2.2, .int .i64 s'.1], []))
    (fun k s' S' => S' = S ∧ ((s'.2.2 = .nil ∧ s'.2.1 = []) ∨ s'.2.2 = .own 0 ∨ s'.2.2 = .own t_api_Extent) ∧ s'.2.1 ++ ofE s'.1 (s.drop s'.1) = ofE 0 s ∧ s'.1 ≤ s.length + 1 ∧ k = s.length + 1 - s'.1 ∧ s'.2.1.length ≤ s'.1) _ (0, [], .nil) rfl ⟨rfl, by simp, by simp, by simp, rfl, by simp⟩ ?_
  rintro k ⟨i, out, r⟩ S' v b ⟨rfl, hr, ho, hi, rfl, hol⟩ hv
  simp at hv hr ho hi hol
  simp [hv]
  by_cases c : i < s.length
  case neg =>
    have : s.drop i = [] := by simp; omega
    rw [this, ofE] at ho
    simp at ho
    subst ho
    simpa [c] using hj4 r hr
  simp [c]
  have hne : s.drop i ≠ [] := by simp; omega
  generalize hrun : (s.drop i).takeWhile (· != 0) = run at *
  have hrl : run.length ≤ s.length - i := by have := len_takeWhile (p := (· != 0)) (s.drop i); rw [hrun] at this; simpa using this
  obtain ⟨k, hk⟩ : ∃ k, k = i + run.length := ⟨_, rfl⟩
  refine joinK_gen (fun j => j (.int .i64 (k : Int)) S') ?_ (fun j3 hj3 => ?_)
  · rw [ofE] at ho
    simp only [hne, dite_false, hrun, List.drop_drop] at ho
    rw [show i + (run.length + 1) = k + 1 by omega, show i + run.length + 1 = k + 1 by omega] at ho
    by_cases ce : run = []
    · have hki : k = i := by rw [hk, ce]; rfl
      subst hki
      simp [ce] at ho ⊢
      try simp (disch := omega) only [wrap64]
      exact ⟨_, (k + 1, out, r), by show s.length + 1 - (k + 1) < _; omega, rfl, rfl, hr, ho, by show k + 1 ≤ _; omega, rfl, by show out.length ≤ k + 1; omega⟩
    · have hpos := List.length_pos_iff.2 ce
      have hcut : (s.take k).drop i = run := by
        rw [List.drop_take, show k - i = run.length by omega, ← hrun, take_takeWhile]
      have hle : k ≤ s.length ∧ i ≤ k := by omega
      have hlt : i < k := by omega
      have hr' : r ≠ .none ∧ (r = .nil ∨ True) := by rcases hr with ⟨rfl, _⟩ | rfl | rfl <;> simp
      have hol' : out.length + 1 ≤ lim := by unfold lim; omega
      simp [hlt, hle, hcut, ce, appendA, elemsA, hr'.1, hol'] at ho ⊢
      try simp (disch := omega) only [wrap64]
      refine ⟨_, (k + 1, out ++ [⟨i, run⟩], .own (rowTy T_api_Extent r)), by show s.length + 1 - (k + 1) < _; omega, ?_, rfl, ?_, by simpa using ho, by show k + 1 ≤ _; omega, rfl, by simp; omega⟩
      · simp
      · rcases hr with ⟨rfl, _⟩ | rfl | rfl <;> simp [rowTy]
  · refine loopQ_by (fun q : Nat => ([.int .i64 q], [])) (fun m q S2 => S2 = S' ∧ i ≤ q ∧ q ≤ k ∧ m = k - q) _ i rfl ⟨rfl, by omega, by omega, rfl⟩ ?_
    rintro m q S2 v2 b2 ⟨rfl, h1, h2, rfl⟩ hv2
    simp at hv2
    simp [hv2]
    by_cases c2 : q < s.length
    case neg =>
      have : q = k := by omega
      subst this
      simpa [c2] using hj3
    by_cases c3 : q = k
    · subst c3
      have := takeWhile_end (p := (· != 0)) (s := s.drop i) (x := s[q]) (by rw [hrun]; simp [← hk, c2])
      simp at this
      simpa [c2, this] using hj3
    · obtain ⟨x, hx, hx2⟩ := takeWhile_pos (p := (· != 0)) (s := s.drop i) (j := q - i) (by rw [hrun]; omega)
      have hx' : s[q]? = some x := by simpa [show i + (q - i) = q by omega] using hx
      simp at hx2
      have hx3 : ¬ x.toNat = 0 := fun e => hx2 (by apply UInt8.toNat_inj.1; simpa using e)
      have hx4 : s[q] = x := by simpa [c2] using hx'
      simp [c2, hx4, hx3]
      try simp (disch := omega) only [wrap64]
      exact ⟨_, q + 1, by show k - (q + 1) < _; omega, rfl, rfl, by omega, by omega, rfl⟩
end Go.Av
set_option linter.unusedVariables false
namespace Go.Av
abbrev has (x : Ext) (p : Int) : Prop := x.off ≤ p ∧ p < x.off + x.data.length
theorem atE_none {p : Int} : ∀ {l : List Ext}, (∀ x ∈ l, ¬ has x p) → atE l p = 0
  | [], _ => rfl
  | x :: l, h => by
    rw [atE, if_neg (h x (by simp)), atE_none fun y hy => h y (by simp [hy])]
theorem atE_at {p : Int} {x : Ext} {r : List Ext} : ∀ {l : List Ext}, (∀ y ∈ l, ¬ has y p) → has x p → atE (l ++ x :: r) p = x.data.getD (p - x.off).toNat 0
  | [], _, h => by rw [List.nil_append, atE, if_pos h]
  | y :: l, h, hx => by
    rw [List.cons_append, atE, if_neg (h y (by simp)), atE_at (fun z hz => h z (by simp [hz])) hx]
theorem ofE_spec : ∀ (n : Nat) (s : Str) (i : Nat), s.length ≤ n →
    (∀ x ∈ ofE i s, (i : Int) ≤ x.off ∧ x.off + x.data.length ≤ i + s.length ∧ x.data ≠ [] ∧ ∀ b ∈ x.data, b ≠ 0) ∧
    (ofE i s).Pairwise (fun x y : Ext => x.off + (x.data.length : Int) < y.off) ∧ (ofE i s).length ≤ s.length ∧
    ∀ j, j < s.length → atE (ofE i s) (i + j) = s.getD j 0
  | 0, s, i, hn => by
    have : s = [] := by simpa using hn
    subst this
    simp [ofE]
  | n + 1, s, i, hn => by
    by_cases h : s = []
    · subst h; simp [ofE]
    rw [ofE, dif_neg h]
    have hpos := List.length_pos_iff.2 h
    have hpre := List.takeWhile_prefix (p := fun x : UInt8 => x != 0) (l := s)
    have hall : ∀ b ∈ s.takeWhile (· != 0), b ≠ 0 := fun b hb => by
      have := List.all_eq_true.1 (List.all_takeWhile (p := fun x : UInt8 => x != 0) (l := s)) b hb
      simpa using this
    have hend := fun x => takeWhile_end (p := fun x : UInt8 => x != 0) (s := s) (x := x)
    have htk := take_takeWhile (p := (· != 0)) s
    generalize s.takeWhile (· != 0) = run at *
    have hlen := hpre.length_le
    obtain ⟨h1, h2, h3, h4⟩ := ofE_spec n (s.drop (run.length + 1)) (i + run.length + 1) (by simp; omega)
    have hdl : (s.drop (run.length + 1)).length ≤ s.length - (run.length + 1) := by simp
    have hget : ∀ j, j < run.length → s.getD j 0 = run.getD j 0 := fun j hj => by
      simp only [List.getD_eq_getElem?_getD]
      conv => rhs; rw [← htk, List.getElem?_take_of_lt hj]
    have hrest : ∀ j, run.length < j → s.getD j 0 = (s.drop (run.length + 1)).getD (j - (run.length + 1)) 0 := fun j hj => by
      simp only [List.getD_eq_getElem?_getD, List.getElem?_drop]
      rw [show run.length + 1 + (j - (run.length + 1)) = j by omega]
    have hat : s.getD run.length 0 = 0 := by
      by_cases c : run.length < s.length
      · have := hend _ (List.getElem?_eq_getElem c)
        simp [List.getD_eq_getElem?_getD, c]; simpa using this
      · rw [List.getD_eq_getElem?_getD, List.getElem?_eq_none (by omega)]; rfl
    by_cases hr : run = []
    · subst hr
      simp only [if_true, List.nil_append, List.length_nil, Nat.zero_add, Nat.add_zero] at *
      refine ⟨fun x hx => ?_, h2, by omega, fun j hj => ?_⟩
      · obtain ⟨k1, k2, k3⟩ := h1 x hx
        have := List.length_pos_of_mem hx
        exact ⟨by omega, by omega, k3⟩
      · by_cases c : j = 0
        · subst c
          rw [hat, atE_none]
          intro x hx
          have := (h1 x hx).1
          unfold has; omega
        · rw [hrest j (by omega), ← h4 (j - 1) (by simp; omega)]
          congr 1
          omega
    · simp only [hr, if_false]
      have hrp := List.length_pos_iff.2 hr
      refine ⟨fun x hx => ?_, ?_, by rw [List.length_append, List.length_singleton]; omega, fun j hj => ?_⟩
      · rcases List.mem_append.1 hx with hx | hx
        · simp at hx; subst hx
          exact ⟨by simp, by simp; omega, hr, hall⟩
        · obtain ⟨k1, k2, k3⟩ := h1 x hx
          have := List.length_pos_of_mem hx
          exact ⟨by omega, by omega, k3⟩
      · refine List.pairwise_append.2 ⟨by simp, h2, fun x hx y hy => ?_⟩
        simp at hx; subst hx
        have := (h1 y hy).1
        simp only; omega
      · by_cases c : j < run.length
        · have e := atE_at (p := (i : Int) + j) (x := ⟨i, run⟩) (r := ofE (i + run.length + 1) (s.drop (run.length + 1))) (l := []) (by simp) (by unfold has; simp only; omega)
          simp only [List.nil_append] at e
          rw [show ([⟨i, run⟩] ++ ofE (i + run.length + 1) (s.drop (run.length + 1)) : List Ext) = ⟨i, run⟩ :: ofE (i + run.length + 1) (s.drop (run.length + 1)) from rfl, e, hget j c]
          congr 1
          omega
        · rw [List.singleton_append, atE, if_neg (by simp only; omega)]
          by_cases c2 : j = run.length
          · subst c2
            rw [hat, atE_none]
            intro x hx
            have := (h1 x hx).1
            unfold has; omega
          · rw [hrest j (by omega), ← h4 (j - (run.length + 1)) (by simp; omega)]
            congr 1
            omega
theorem chain_of_pair {size : Int} : ∀ {l : List Ext} {a : Int}, (∀ x ∈ l, a ≤ x.off ∧ x.data ≠ [] ∧ x.off + x.data.length ≤ size) → l.Pairwise (fun x y : Ext => x.off + (x.data.length : Int) < y.off) → extChain size a l = true
  | [], _, _, _ => rfl
  | x :: l, a, h, hp => by
    have hx := h x (by simp)
    have hp' := List.pairwise_cons.1 hp
    simp only [extChain, Bool.and_eq_true, decide_eq_true_eq]
    exact ⟨hx, chain_of_pair (fun y hy => ⟨by have := hp'.1 y hy; omega, (h y (by simp [hy])).2⟩) hp'.2⟩
theorem ofE_ok {s : Str} (h : s.length ≤ 1048576) : extOk s.length (ofE 0 s) = true := by
  obtain ⟨h1, h2, h3, h4⟩ := ofE_spec s.length s 0 (Nat.le_refl _)
  simp only [extOk, Bool.and_eq_true, decide_eq_true_eq]
  exact ⟨by omega, chain_of_pair (fun x hx => by have := h1 x hx; exact ⟨by omega, this.2.2.1, by omega⟩) h2⟩
end Go.Av
