/- Parts of the proofs of this seat: abstract values over the model, and what the functions of the program do. No condition. -/
import Derived.Test.YtclomnkgpemnaaaDoorM8
import Derived.Test.YtclomnkgpemnaaaDoorM9
import Derived.Test.YtclomnkgpemnaaaDoorD0
import Derived.Test.YtclomnkgpemnaaaDoorM18
import Derived.DataReads
set_option linter.all false
set_option linter.unusedVariables false
namespace Go.Av
open Go.Proofs
def extChain (size : Int) : Int → List Ext → Bool
  | _, [] => true
  | at_, x :: l => decide (at_ ≤ x.off ∧ x.data ≠ [] ∧ x.off + x.data.length ≤ size) && extChain size (x.off + x.data.length) l
def extOk (size : Int) (l : List Ext) : Bool := decide (0 ≤ size ∧ size ≤ 1048576) && extChain size 0 l
def ExtB (l : List Ext) : Prop := (∀ x ∈ l, -9223372036854775808 ≤ x.off ∧ x.off ≤ 9223372036854775807 ∧ x.data.length ≤ 1000000000000000) ∧ l.length ≤ 1000000000000000
theorem extent_Right_A {w0 : World} {size : Int} {l : List Ext} {r : Rt} {S : St} {Q : AV → St → Prop} (hs : -9223372036854775808 ≤ size ∧ size ≤ 9223372036854775807) (hb : ExtB l)
   (hq : Q (.bool (extOk size l)) S) : AC w0 F_extent_Right [.int .i64 size, .vs 2 (l.map Ext.c) r] S Q := by
  apply extent_Right_ok
  unfold G_extent_Right
  simp
  rw [joinK_eq]
  obtain ⟨hb1, hb2⟩ := hb
  by_cases hneg : size < 0
  · have hf : extOk size l = false := by simp [extOk]; omega
    rw [hf] at hq
    refine loop_list l (fun i at_ => ([.int .i64 at_, .int .i64 i], [])) (fun i at_ S' => S' = S) 0 rfl rfl ?_ ?_
    · rintro i at_ S' v b x c hxi hd hc hm rfl hv
      simp at hv
      simp [hv, hc, hxi]
      refine ifK_b (fun h => hq) (fun h => ?_)
      try simp (disch := omega) only [wrap64]
      exact .next c _ rfl rfl
    · rintro at_ S' v b rfl hv N
      simp at hv
      simpa [hv, show ¬ 0 ≤ size by omega] using hq
  refine loop_list l (fun i at_ => ([.int .i64 at_, .int .i64 i], [])) (fun i at_ S' => S' = S ∧ 0 ≤ at_ ∧ extChain size 0 l = extChain size at_ (l.drop i)) 0 rfl (by simp) ?_ ?_
  · rintro i at_ S' v b x c hxi hd hc hm ⟨rfl, h0, hx⟩ hv
    simp at hv
    obtain ⟨h1, h2, h3⟩ := hb1 x hm
    simp [hv, hc, hxi]
    rw [hd, extChain] at hx
    by_cases c1 : x.off < at_
    · have : extOk size l = false := by simp [extOk, hx]; omega
      simpa [c1, this] using hq
    by_cases c2 : x.data = []
    · have : extOk size l = false := by simp [extOk, hx, c2]
      simpa [c1, c2, this] using hq
    try simp (disch := omega) only [wrap64]
    by_cases c3 : size - x.off < x.data.length
    · have : extOk size l = false := by simp [extOk, hx]; omega
      simpa [c1, c2, c3, this] using hq
    simp [c1, c2, c3]
    try simp (disch := omega) only [wrap64]
    exact .next c _ rfl ⟨rfl, by omega, by simp [hx, c2]; omega⟩
  · rintro at_ S' v b ⟨rfl, h0, hx⟩ hv N
    simp at hv
    simp [hv]
    simpa [extOk, hx, extChain] using hq
def endAt (l : List Ext) (i : Nat) : Int := if i = 0 then 0 else match l[i - 1]? with | some x => x.off + x.data.length | none => 0
theorem ref03_Right_A {w0 : World} {size : Int} {l : List Ext} {r : Rt} {S : St} {Q : AV → St → Prop} (hs : -9223372036854775808 ≤ size ∧ size ≤ 9223372036854775807) (hb : ExtB l)
   (hq : Q (.bool (extOk size l)) S) : AC w0 F_ref03_Right [.int .i64 size, .vs 2 (l.map Ext.c) r] S Q := by
  apply ref03_Right_ok
  unfold G_ref03_Right
  simp
  obtain ⟨hb1, hb2⟩ := hb
  refine ifK_b (fun h => ?_) (fun h => ?_) <;> simp at h
  · have : extOk size l = false := by simp [extOk]; omega
    rwa [this] at hq
  rw [joinK_eq]
  refine loop_list l (fun i (_ : Unit) => ([.int .i64 i], [])) (fun i _ S' => S' = S ∧ (0 ≤ endAt l i ∧ endAt l i ≤ size) ∧ extChain size 0 l = extChain size (endAt l i) (l.drop i)) () rfl (by simp [endAt]; omega) ?_ ?_
  · rintro i _ S' v b x c hxi hd hc hm ⟨rfl, h0, hx⟩ hv
    simp at hv
    obtain ⟨h1, h2, h3⟩ := hb1 x hm
    simp [hv, hc, hxi]
    rw [hd, extChain] at hx
    by_cases c1 : x.off < 0
    · have : extOk size l = false := by simp [extOk, hx]; omega
      simpa [c1, this] using hq
    by_cases c2 : size < x.off
    · have : extOk size l = false := by simp [extOk, hx]; omega
      simpa [c1, c2, this] using hq
    by_cases c3 : x.data = []
    · have : extOk size l = false := by simp [extOk, hx, c3]
      simpa [c1, c2, c3, this] using hq
    have c3' : ¬ ((x.data.length : Int) < 1) := by have := List.length_pos_iff.2 c3; omega
    simp [c1, c2, c3, c3']
    try simp (disch := omega) only [wrap64]
    by_cases c4 : size < x.off + x.data.length
    · have : extOk size l = false := by simp [extOk, hx]; omega
      simpa [c4, this] using hq
    simp [c4]
    cases i with
    | zero =>
      simp [endAt] at h0 hx ⊢
      refine .next c () rfl ⟨rfl, ?_⟩
      simp [endAt] at hxi ⊢
      simp [hxi, hx, c3]
      omega
    | succ i =>
      obtain ⟨y, hyi⟩ : ∃ y, l[i]? = some y := ⟨l[i]'(by omega), by simp⟩
      obtain ⟨g1, g2, g3⟩ := hb1 y (List.mem_of_getElem? hyi)
      simp [endAt, hyi] at h0 hx ⊢
      try simp (disch := omega) only [wrap64]
      by_cases c5 : x.off < y.off + y.data.length
      · have : extOk size l = false := by simp [extOk, hx]; omega
        simpa [c5, this] using hq
      simp [c5]
      refine .next c () (by simp) ⟨rfl, ?_⟩
      simp [endAt, hxi, hx, c3]
      omega
  · rintro _ S' v b ⟨rfl, h0, hx⟩ hv N
    simp at hv
    simp [hv]
    have : extOk size l = true := by simp [extOk, hx, extChain]; omega
    rwa [this] at hq
def atE : List Ext → Int → UInt8
  | [], _ => 0
  | x :: l, p => if x.off ≤ p ∧ p < x.off + x.data.length then x.data.getD (p - x.off).toNat 0 else atE l p
theorem ref03_At_A {w0 : World} {l : List Ext} {r : Rt} {p : Int} {S : St} {Q : AV → St → Prop} (hl : ∀ x ∈ l, 0 ≤ x.off ∧ x.off + x.data.length ≤ 1048576) (hp : 0 ≤ p ∧ p ≤ 1048576) (hn : l.length ≤ 1000000000000000)
   (hq : Q (.int .u8 (atE l p).toNat) S) : AC w0 F_ref03_At [.vs 2 (l.map Ext.c) r, .int .i64 p] S Q := by
  apply ref03_At_ok
  unfold G_ref03_At
  simp
  rw [joinK_eq]
  refine loop_list l (fun i (_ : Unit) => ([.int .i64 i], [])) (fun i _ S' => S' = S ∧ atE l p = atE (l.drop i) p) () rfl (by simp) ?_ ?_
  · rintro i _ S' v b x c hxi hd hc hm ⟨rfl, hx⟩ hv
    simp at hv
    obtain ⟨h1, h2⟩ := hl x hm
    simp [hv, hc, hxi]
    rw [hd, atE] at hx
    by_cases c1 : x.off ≤ p
    case neg =>
      simp [c1] at hx ⊢
      try simp (disch := omega) only [wrap64]
      exact .next c () rfl ⟨rfl, hx⟩
    simp [c1]
    try simp (disch := omega) only [wrap64]
    by_cases c2 : p < x.off + x.data.length
    case neg =>
      simp [c2] at hx ⊢
      try simp (disch := omega) only [wrap64]
      exact .next c () rfl ⟨rfl, hx⟩
    simp [c2, c1] at hx ⊢
    obtain ⟨k, hk⟩ : ∃ k : Nat, p - x.off = k := ⟨(p - x.off).toNat, by omega⟩
    have hk2 : k < x.data.length := by omega
    try simp (disch := omega) only [wrap64]
    simp [hk, hk2] at hx ⊢
    rwa [hx] at hq
  · rintro _ S' v b ⟨rfl, hx⟩ hv N
    simp at hv
    simp [hv]
    rw [hx] at hq
    simpa [atE] using hq
theorem bytesOf_byteCells (l : Str) : bytesOf (byteCells l) = some l := by
  induction l with
  | nil => rfl
  | cons x l ih =>
    simp only [byteCells, List.map_cons] at ih ⊢
    simp only [bytesOf, ih]
    simp
def readE (size : Int) (l : List Ext) (off n : Int) : Str := if off < 0 then [] else (List.range (min n (size - off)).toNat).map fun i : Nat => atE l (off + (i : Int))
theorem ref03_Read_A {w0 : World} {size : Int} {l : List Ext} {r : Rt} {off n : Int} {S : St} {Q : AV → St → Prop} (hl : ∀ x ∈ l, 0 ≤ x.off ∧ x.off + x.data.length ≤ 1048576) (hn : l.length ≤ 1000000000000000)
   (hs : 0 ≤ size ∧ size ≤ 1048576) (ho : off ≤ 9223372036854775807) (hq : Q (.str (readE size l off n)) S) : AC w0 F_ref03_Read [.int .i64 size, .vs 2 (l.map Ext.c) r, .int .i64 off, .int .i64 n] S Q := by
  apply ref03_Read_ok
  unfold G_ref03_Read
  simp
  refine ifK_b (fun h => ?_) (fun h => ?_) <;> simp at h
  · simpa [readE, h] using hq
  refine joinK_gen (fun j => ∀ r : Rt, j (.vs 1 (byteCells (readE size l off n)) r) S) (fun r => ?_) (fun j hj => ?_)
  · simpa [convBytesA, convVsA, bytesOf_byteCells] using hq
  refine loopQ_by (fun s : Nat × Rt => ([.vs 1 (byteCells ((List.range s.1).map fun i : Nat => atE l (off + (i : Int)))) s.2, .int .i64 s.1], []))
    (fun k s S' => S' = S ∧ s.2 ≠ .none ∧ s.1 ≤ (min n (size - off)).toNat ∧ k = (min n (size - off)).toNat - s.1) _ (0, .full) rfl ⟨rfl, by simp, by simp, rfl⟩ ?_
  rintro k ⟨i, r⟩ S' v b ⟨rfl, hr, hi, rfl⟩ hv
  simp at hv hi hr
  simp [hv]
  simp (disch := omega) only [wrap64]
  by_cases c : (i : Int) < n ∧ (i : Int) < size - off
  · simp [c]
    try simp (disch := omega) only [wrap64]
    refine ref03_At_A hl (by omega) hn ?_
    simp [byteCells, elemsA, appendA, hr, show i + 1 ≤ lim by unfold lim; omega]
    refine ⟨_, (i + 1, .own (rowTy T_uint8 r)), ?_, ?_, rfl, by simp, by simp; omega, rfl⟩
    · simp; omega
    · simp [byteCells, List.range_succ]
  · have : i = (min n (size - off)).toNat := by omega
    have hc : (decide ((i : Int) < n) && decide ((i : Int) < size - off)) = false := by simp; omega
    simp [hc]
    have := hj r
    simpa [readE, show ¬ off < 0 by omega, ← ‹i = _›] using this
def ofE (i : Nat) (s : Str) : List Ext :=
  if h : s = [] then [] else
    (if s.takeWhile (· != 0) = [] then [] else [⟨i, s.takeWhile (· != 0)⟩]) ++ ofE (i + (s.takeWhile (· != 0)).length + 1) (s.drop ((s.takeWhile (· != 0)).length + 1))
termination_by s.length
decreasing_by
  have : 0 < s.length := List.length_pos_iff.2 h
  simp; omega
theorem takeWhile_pos {p : UInt8 → Bool} : ∀ {s : Str} {j : Nat}, j < (s.takeWhile p).length → ∃ x, s[j]? = some x ∧ p x = true
  | [], j, h => by simp at h
  | x :: s, j, h => by
    by_cases c : p x = true
    · rw [List.takeWhile_cons_of_pos c] at h
      cases j with
      | zero => exact ⟨x, rfl, c⟩
      | succ j => obtain ⟨y, h1, h2⟩ := takeWhile_pos (s := s) (j := j) (by simpa using h); exact ⟨y, by simpa using h1, h2⟩
    · rw [List.takeWhile_cons_of_neg c] at h; simp at h
theorem takeWhile_end {p : UInt8 → Bool} : ∀ {s : Str} {x : UInt8}, s[(s.takeWhile p).length]? = some x → p x = false
  | [], x, h => by simp at h
  | y :: s, x, h => by
    by_cases c : p y = true
    · rw [List.takeWhile_cons_of_pos c] at h
      exact takeWhile_end (s := s) (by simpa using h)
    · rw [List.takeWhile_cons_of_neg c] at h
      simp at h; subst h; simpa using c
theorem take_takeWhile {p : UInt8 → Bool} (s : Str) : s.take (s.takeWhile p).length = s.takeWhile p :=
  (List.prefix_iff_eq_take.1 (List.takeWhile_prefix p)).symm
theorem len_takeWhile {p : UInt8 → Bool} (s : Str) : (s.takeWhile p).length ≤ s.length := (List.takeWhile_prefix p).length_le
theorem extent_Of_A {w0 : World} {s : Str} {S : St} {Q : AV → St → Prop} (hl : s.length ≤ 1000000000) (hq : ∀ r, (r = .nil ∧ ofE 0 s = []) ∨ r = .none → Q (.vs 2 ((ofE 0 s).map Ext.c) r) S) : AC w0 F_extent_Of [.str s] S Q := by
  apply extent_Of_ok
  unfold G_extent_Of
  simp
  refine joinK_gen (fun j => ∀ r : Rt, (r = .nil ∧ ofE 0 s = []) ∨ r = .own 0 ∨ r = .own t_api_Extent → j (.vs 2 ((ofE 0 s).map Ext.c) r) S) (fun r hr => ?_) (fun j4 hj4 => ?_)
  · rcases hr with ⟨rfl, hr⟩ | rfl | rfl
    · exact hq _ (.inl ⟨rfl, hr⟩)
    · exact hq _ (.inr rfl)
    · exact hq _ (.inr rfl)
  refine loopQ_by (fun s' : Nat × List Ext × Rt => ([.str s, .vs 2 (s'.2.1.map Ext.c) s'.2.2, .int .i64 s'.1], []))
    (fun k s' S' => S' = S ∧ ((s'.2.2 = .nil ∧ s'.2.1 = []) ∨ s'.2.2 = .own 0 ∨ s'.2.2 = .own t_api_Extent) ∧ s'.2.1 ++ ofE s'.1 (s.drop s'.1) = ofE 0 s ∧ s'.1 ≤ s.length + 1 ∧ k = s.length + 1 - s'.1 ∧ s'.2.1.length ≤ s'.1) _ (0, [], .nil) rfl ⟨rfl, by simp, by simp, by simp, rfl, by simp⟩ ?_
  rintro k ⟨i, out, r⟩ S' v b ⟨rfl, hr, ho, hi, rfl, hol⟩ hv
  simp at hv hr ho hi hol
  simp [hv]
  by_cases c : i < s.length
  case neg =>
    have : s.drop i = [] := by simp; omega
    rw [this, ofE] at ho
    simp at ho
    subst ho
    simpa [c] using hj4 r hr
  simp [c]
  have hne : s.drop i ≠ [] := by simp; omega
  generalize hrun : (s.drop i).takeWhile (· != 0) = run at *
  have hrl : run.length ≤ s.length - i := by have := len_takeWhile (p := (· != 0)) (s.drop i); rw [hrun] at this; simpa using this
  obtain ⟨k, hk⟩ : ∃ k, k = i + run.length := ⟨_, rfl⟩
  refine joinK_gen (fun j => j (.int .i64 (k : Int)) S') ?_ (fun j3 hj3 => ?_)
  · rw [ofE] at ho
    simp only [hne, dite_false, hrun, List.drop_drop] at ho
    rw [show i + (run.length + 1) = k + 1 by omega, show i + run.length + 1 = k + 1 by omega] at ho
    by_cases ce : run = []
    · have hki : k = i := by rw [hk, ce]; rfl
      subst hki
      simp [ce] at ho ⊢
      try simp (disch := omega) only [wrap64]
      exact ⟨_, (k + 1, out, r), by show s.length + 1 - (k + 1) < _; omega, rfl, rfl, hr, ho, by show k + 1 ≤ _; omega, rfl, by show out.length ≤ k + 1; omega⟩
    · have hpos := List.length_pos_iff.2 ce
      have hcut : (s.take k).drop i = run := by
        rw [List.drop_take, show k - i = run.length by omega, ← hrun, take_takeWhile]
      have hle : k ≤ s.length ∧ i ≤ k := by omega
      have hlt : i < k := by omega
      have hr' : r ≠ .none ∧ (r = .nil ∨ True) := by rcases hr with ⟨rfl, _⟩ | rfl | rfl <;> simp
      have hol' : out.length + 1 ≤ lim := by unfold lim; omega
      simp [hlt, hle, hcut, ce, appendA, elemsA, hr'.1, hol'] at ho ⊢
      try simp (disch := omega) only [wrap64]
      refine ⟨_, (k + 1, out ++ [⟨i, run⟩], .own (rowTy T_api_Extent r)), by show s.length + 1 - (k + 1) < _; omega, ?_, rfl, ?_, by simpa using ho, by show k + 1 ≤ _; omega, rfl, by simp; omega⟩
      · simp
      · rcases hr with ⟨rfl, _⟩ | rfl | rfl <;> simp [rowTy]
  · refine loopQ_by (fun q : Nat => ([.int .i64 q], [])) (fun m q S2 => S2 = S' ∧ i ≤ q ∧ q ≤ k ∧ m = k - q) _ i rfl ⟨rfl, by omega, by omega, rfl⟩ ?_
    rintro m q S2 v2 b2 ⟨rfl, h1, h2, rfl⟩ hv2
    simp at hv2
    simp [hv2]
    by_cases c2 : q < s.length
    case neg =>
      have : q = k := by omega
      subst this
      simpa [c2] using hj3
    by_cases c3 : q = k
    · subst c3
      have := takeWhile_end (p := (· != 0)) (s := s.drop i) (x := s[q]) (by rw [hrun]; simp [← hk, c2])
      simp at this
      simpa [c2, this] using hj3
    · obtain ⟨x, hx, hx2⟩ := takeWhile_pos (p := (· != 0)) (s := s.drop i) (j := q - i) (by rw [hrun]; omega)
      have hx' : s[q]? = some x := by simpa [show i + (q - i) = q by omega] using hx
      simp at hx2
      have hx3 : ¬ x.toNat = 0 := fun e => hx2 (by apply UInt8.toNat_inj.1; simpa using e)
      have hx4 : s[q] = x := by simpa [c2] using hx'
      simp [c2, hx4, hx3]
      try simp (disch := omega) only [wrap64]
      exact ⟨_, q + 1, by show k - (q + 1) < _; omega, rfl, rfl, by omega, by omega, rfl⟩
end Go.Av
