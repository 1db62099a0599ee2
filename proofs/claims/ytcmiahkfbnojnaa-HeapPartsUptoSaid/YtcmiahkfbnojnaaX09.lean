/- Parts of the proofs of this seat: abstract values over the model, and what the functions of the program do. No condition. -/
import Derived.Test.YtcmiahkfbnojnaaM7
import Derived.Test.YtcmiahkfbnojnaaDRow
import Derived.Test.YtcmiahkfbnojnaaY09
set_option linter.all false
set_option linter.unusedVariables false
/-! The heap of heads of rows: walked. -/
namespace Go.Av
open Go.Proofs
/-- heads at id: hs. All of it lies behind b. -/
def HS (b : Nat) (S : St) (id : Nat) (hs : List Hd) : Prop :=
  b ≤ id ∧ ∃ L, S[id]? = some (.cells [L, .fn F_heap_Item_less [] []] t_heap_heads) ∧ ((hs = [] ∧ L = .vs 3 [] .nil) ∨ ∃ hid J, b ≤ hid ∧ L = .rs 3 hid 0 hs.length ∧ hid ≠ id ∧ S[hid]? = some (.cells (flatE Hd.c hs ++ J) 0))
theorem heap_heads_Len_A {w0 : World} {S : St} {b id : Nat} {hs : List Hd} (h : HS b S id hs) {Q : AV → St → Prop} (hq : Q (.int .i64 hs.length) S) : AC w0 F_heap_heads_Len [.ptr id 0] S Q := by
  obtain ⟨_, L, h1, h2⟩ := h
  apply heap_heads_Len_ok
  unfold G_heap_heads_Len
  rcases h2 with ⟨rfl, rfl⟩ | ⟨hid, J, hb, rfl, h3, h4⟩ <;> simp [loadA_ptr h1] <;> exact hq
theorem heap_Item_less_A {w0 : World} {S : St} {x y : Hd} {Q : AV → St → Prop} (hq : Q (.bool (x.lt y)) S) : AC w0 F_heap_Item_less [.agg [.str x.name, .int .i64 x.row], .agg [.str y.name, .int .i64 y.row]] S Q := by
  apply heap_Item_less_ok
  unfold G_heap_Item_less
  simp
  by_cases c : x.name = y.name
  · simpa [c, Hd.lt] using hq
  · simpa [c, Hd.lt] using hq
theorem heap_heads_Less_A {w0 : World} {S : St} {b id i k : Nat} {hs : List Hd} {x y : Hd} (h : HS b S id hs) (hi : hs[i]? = some x) (hk : hs[k]? = some y) {Q : AV → St → Prop} (hq : Q (.bool (x.lt y)) S) : AC w0 F_heap_heads_Less [.ptr id 0, .int .i64 i, .int .i64 k] S Q := by
  obtain ⟨_, L, h1, h2⟩ := h
  have li := (List.getElem?_eq_some_iff.1 hi).1
  have lk := (List.getElem?_eq_some_iff.1 hk).1
  apply heap_heads_Less_ok
  unfold G_heap_heads_Less
  rcases h2 with ⟨rfl, rfl⟩ | ⟨hid, J, hb, rfl, h3, h4⟩
  · simp at hi
  have r1 := row_part (T := T_heap_Item) h4 rfl rfl Hd.cl hi (k := 0) (by simp)
  have r2 := row_part (T := T_heap_Item) h4 rfl rfl Hd.cl hk (k := 0) (by simp)
  simp at r1 r2
  simp [loadA_ptr h1, li, lk, r1, r2, calleeA]
  exact heap_Item_less_A hq
theorem heap_heads_Swap_A {w0 : World} {S : St} {b id i k : Nat} {hs : List Hd} (h : HS b S id hs) (hi : i < hs.length) (hk : k < hs.length) {Q : AV → St → Prop} (hq : ∀ S', HS b S' id (swapL hs i k) → Kp b S S' → Q (.tup []) S') : AC w0 F_heap_heads_Swap [.ptr id 0, .int .i64 i, .int .i64 k] S Q := by
  obtain ⟨hb0, L, h1, h2⟩ := h
  obtain ⟨x, hx⟩ : ∃ x, hs[i]? = some x := ⟨hs[i], by simp [hi]⟩
  obtain ⟨y, hy⟩ : ∃ x, hs[k]? = some x := ⟨hs[k], by simp [hk]⟩
  apply heap_heads_Swap_ok
  unfold G_heap_heads_Swap
  rcases h2 with ⟨rfl, rfl⟩ | ⟨hid, J, hb, rfl, h3, h4⟩
  · simp at hi
  have r1 := row_load (T := T_heap_head) (n := 3) h4 rfl rfl Hd.cl hx
  have r2 := row_load (T := T_heap_head) (n := 3) h4 rfl rfl Hd.cl hy
  simp [loadA_ptr h1, hi, hk, r1, r2]
  have s1 := row_store (T := T_heap_head) y h4 rfl Hd.cl hx (v := .agg y.c) rfl rfl
  have hy2 : ∃ z, (hs.set i y)[k]? = some z := ⟨(hs.set i y)[k]'(by simpa using hk), by simp [hk]⟩
  obtain ⟨z, hz⟩ := hy2
  have s2 := row_store (T := T_heap_head) x (getSet_self (o' := .cells (flatE Hd.c (hs.set i y) ++ J) 0) h4) rfl Hd.cl hz (v := .agg x.c) rfl rfl
  try simp at s1
  try simp at s2
  simp [s1, s2]
  refine hq _ ⟨hb0, _, (getSet_other h3).trans h1, .inr ⟨hid, J, hb, by simp [swapL], h3, ?_⟩⟩ (.set hb)
  rw [getSet_self h4]
  simp [swapL, hat_some hx, hat_some hy]
theorem heap_heads_Pop_A {w0 : World} {S : St} {b id : Nat} {hs : List Hd} (h : HS b S id hs) (hn : hs ≠ []) (hn2 : hs.length ≤ 1000000) {Q : AV → St → Prop} (hq : ∀ r S', HS b S' id hs.dropLast → Kp b S S' → Q r S') : AC w0 F_heap_heads_Pop [.ptr id 0] S Q := by
  obtain ⟨hb0, L, h1, h2⟩ := h
  have hpos := List.length_pos_iff.2 hn
  obtain ⟨x, hx⟩ : ∃ x, hs[hs.length - 1]? = some x := ⟨hs[hs.length - 1], by simp⟩
  apply heap_heads_Pop_ok
  unfold G_heap_heads_Pop
  rcases h2 with ⟨rfl, rfl⟩ | ⟨hid, J, hb, rfl, h3, h4⟩
  · simp at hn
  have r1 := row_load (T := T_heap_head) (n := 3) h4 rfl rfl Hd.cl hx
  obtain ⟨m, hm⟩ : ∃ m, hs.length = m + 1 := ⟨hs.length - 1, by omega⟩
  rw [hm] at r1 h1 
  simp at r1
  have e1 : ((m : Int) + 1 - 1) = m := by omega
  simp [loadA_ptr h1, e1]
  rw [wrap64 (by omega) (by omega)]
  simp [r1, stripMem_ptr h1]
  rw [storeA_ptr (getSet_self h1)]
  simp
  refine hq _ _ ⟨hb0, _, getSet_self h1, .inr ⟨hid, x.c ++ J, hb, by simp [hm], h3, ?_⟩⟩ (.set hb0)
  rw [getSet_other (Ne.symm h3), h4]
  have : flatE Hd.c hs = flatE Hd.c hs.dropLast ++ x.c := by
    have e : hs = hs.dropLast ++ [x] := by
      rw [hm] at hx
      have := List.dropLast_concat_getLast hn
      rw [List.getLast_eq_getElem] at this
      conv => lhs; rw [← this]
      congr 2
      have h5 := (List.getElem?_eq_some_iff.1 hx).2
      rw [← h5]; congr 1; omega
    conv => lhs; rw [e]
    simp [flatE]
  rw [this, List.append_assoc]
theorem cheap_down_A {w0 : World} {S : St} {b id i n : Nat} {hs : List Hd} (h : HS b S id hs) (hn : n ≤ hs.length) (hn2 : hs.length ≤ 1000000) (hi : i < 1000000) {Q : AV → St → Prop}
    (hq : ∀ S', HS b S' id (downL n n i hs).1 → Kp b S S' → Q (.bool (decide (i < (downL n n i hs).2))) S') : AC w0 F_cheap_down [.ifc t_p_heap_heads (.ptr id 0), .int .i64 i, .int .i64 n] S Q := by
  apply cheap_down_ok
  unfold G_cheap_down
  simp [invokeA]
  refine joinK_gen (fun j => ∀ S', HS b S' id (downL n n i hs).1 → Kp b S S' → j (.int .i64 ((downL n n i hs).2 : Int)) S') (fun S' h1 h2 => by simpa using hq S' h1 h2) (fun j4 hj4 => ?_)
  refine loopQ_by (fun k : Nat × List Hd => ([.int .i64 k.1], [])) (fun m k S' => HS b S' id k.2 ∧ Kp b S S' ∧ k.2.length = hs.length ∧ k.1 < 1000000 ∧ downL n m k.1 k.2 = downL n n i hs ∧ n ≤ m + k.1) n (i, hs) rfl ⟨h, .refl _ _, rfl, hi, rfl, by omega⟩ ?_
  rintro m ⟨k, l⟩ S' v bx ⟨hS, hK, hl, hk, hd, hm⟩ hv
  simp at hv hS hl hk hd hm
  simp [hv]
  try simp (disch := omega) only [wrap64]
  try simp
  by_cases c1 : n ≤ 2 * k + 1
  · have e1 : (n : Int) ≤ 2 * k + 1 := by omega
    have e2 : downL n m k l = (l, k) := by
      cases m with
      | zero => rfl
      | succ m => simp only [downL]; rw [if_pos (by omega)]
    rw [e2] at hd
    rw [← hd] at hj4
    simp [e1, joinK_eq]
    exact hj4 S' hS hK
  have e1 : ¬ (n : Int) ≤ 2 * k + 1 := by omega
  have e0 : ¬ (2 * (k : Int) + 1 < 0) := by omega
  obtain ⟨m, rfl⟩ : ∃ m', m = m' + 1 := ⟨m - 1, by omega⟩
  simp only [downL] at hd
  rw [if_neg (by omega)] at hd
  simp [e1, e0]
  obtain ⟨jj, hjj⟩ : ∃ jj, jj = if 2 * k + 1 + 1 < n ∧ (hat l (2 * k + 1 + 1)).lt (hat l (2 * k + 1)) = true then 2 * k + 1 + 1 else 2 * k + 1 := ⟨_, rfl⟩
  rw [← hjj] at hd
  have hjn : jj < n ∧ k < jj := by split at hjj <;> omega
  have gk := getD_some (hs := l) (i := k) (by omega)
  have gj := getD_some (hs := l) (i := jj) (by omega)
  refine joinK_gen (fun j => j (.int .i64 (jj : Int)) S') ?_ (fun j3 hj3 => ?_)
  · simp [C_meth, argsA]
    refine heap_heads_Less_A hS gj gk ?_
    by_cases c2 : (hat l jj).lt (hat l k) = true
    · simp [c2] at hd ⊢
      refine heap_heads_Swap_A (i := k) (k := jj) hS (by omega) (by omega) fun S2 h2 k2 => ?_
      exact ⟨m, (jj, swapL l k jj), by omega, rfl, h2, hK.trans k2, by simp [swapL_len, hl], by show jj < _; omega, hd, by show n ≤ m + jj; omega⟩
    · simp [c2] at hd ⊢
      rw [← hd] at hj4
      exact hj4 S' hS hK
  · try simp (disch := omega) only [wrap64]
    by_cases c3 : 2 * k + 1 + 1 < n
    · have e3 : 2 * (k : Int) + 1 + 1 < n := by omega
      have g1 := getD_some (hs := l) (i := 2 * k + 1) (by omega)
      have g2 := getD_some (hs := l) (i := 2 * k + 1 + 1) (by omega)
      simp [e3, C_meth, argsA]
      refine heap_heads_Less_A (i := 2 * k + 1 + 1) (k := 2 * k + 1) hS g2 g1 ?_
      by_cases c4 : (hat l (2 * k + 1 + 1)).lt (hat l (2 * k + 1)) = true
      · simp only [c3, c4, and_self, if_true] at hjj
        subst hjj
        simpa [c4] using hj3
      · simp only [c3, c4, and_false, if_false] at hjj
        subst hjj
        simpa [c4] using hj3
    · have e3 : ¬ 2 * (k : Int) + 1 + 1 < n := by omega
      simp only [c3, false_and, if_false] at hjj
      subst hjj
      simp [e3, joinK_eq]
      exact hj3

theorem cheap_Init_A {w0 : World} {S : St} {b id : Nat} {hs : List Hd} (h : HS b S id hs) (hn2 : hs.length ≤ 1000000) {Q : AV → St → Prop}
    (hq : ∀ S', HS b S' id (initL hs.length (hs.length / 2) hs) → Kp b S S' → Q (.tup []) S') : AC w0 F_cheap_Init [.ifc t_p_heap_heads (.ptr id 0)] S Q := by
  apply cheap_Init_ok
  unfold G_cheap_Init
  simp [invokeA, argsA]
  refine heap_heads_Len_A h ?_
  simp
  rw [binA_quo _ _ _ (by omega)]
  have e1 : IntKind.i64.wrap (((hs.length : Int)).tdiv 2) = ((hs.length / 2 : Nat) : Int) := by
    rw [wrap64] <;> simp [Int.tdiv_eq_ediv_of_nonneg] <;> omega
  have e2 : (hs.length : Int) / 2 = ((hs.length / 2 : Nat) : Int) := by omega
  simp only [e1, optK_some', binA_sub]
  try simp (disch := omega) only [wrap64]
  refine loopQ_by (fun k : Nat × List Hd => ([.int .i64 ((k.1 : Int) - 1)], [])) (fun m k S' => HS b S' id k.2 ∧ Kp b S S' ∧ k.2.length = hs.length ∧ k.1 < 1000000 ∧ initL hs.length k.1 k.2 = initL hs.length (hs.length / 2) hs ∧ m = k.1) (hs.length / 2) (hs.length / 2, hs) rfl ⟨h, .refl _ _, rfl, by show hs.length / 2 < _; omega, rfl, rfl⟩ ?_
  rintro m ⟨k, l⟩ S' v bx ⟨hS, hK, hl, hk, hd, rfl⟩ hv
  simp at hv hS hl hk hd
  cases m with
  | zero =>
    simp [initL] at hd hv
    subst hd
    simp [hv]
    exact hq _ hS hK
  | succ k =>
    simp only [initL] at hd
    have e3 : ((k + 1 : Nat) : Int) - 1 = k := by omega
    rw [e3] at hv
    simp [hv]
    refine cheap_down_A hS (by omega) (by omega) (by omega) fun S2 h2 k2 => ?_
    try simp (disch := omega) only [wrap64]
    exact ⟨k, (k, (downL hs.length hs.length k l).1), by show k < k + 1; omega, rfl, h2, hK.trans k2, by show (downL _ _ _ _).1.length = _; rw [downL_len, hl], by show k < _; omega, hd, rfl⟩
theorem cheap_Fix_A {w0 : World} {S : St} {b id : Nat} {hs : List Hd} (h : HS b S id hs) (hn2 : hs.length ≤ 1000000) {Q : AV → St → Prop}
    (hq : ∀ S', HS b S' id (downL hs.length hs.length 0 hs).1 → Kp b S S' → Q (.tup []) S') : AC w0 F_cheap_Fix [.ifc t_p_heap_heads (.ptr id 0), .int .i64 0] S Q := by
  apply cheap_Fix_ok
  unfold G_cheap_Fix
  simp [invokeA, argsA]
  refine heap_heads_Len_A h ?_
  refine cheap_down_A (i := 0) h (Nat.le_refl _) hn2 (by omega) fun S2 h2 k2 => ?_
  simp
  refine ifK_b (fun _ => ?_) (fun _ => hq _ h2 k2)
  apply cheap_up_ok
  unfold G_cheap_up
  refine loopQ_by (fun k : Unit => ([.int .i64 0], [])) (fun m k S' => S' = S2) 0 () rfl rfl ?_
  rintro m k S' v bx rfl hv
  simp at hv
  simp [hv, joinK_eq]
  rw [wrap64 (by omega) (by omega), binA_quo _ _ _ (by omega)]
  simp
  rw [show IntKind.i64.wrap 0 = 0 by decide]
  simp
  exact hq _ h2 k2
theorem cheap_Pop_A {w0 : World} {S : St} {b id : Nat} {hs : List Hd} (h : HS b S id hs) (hn : hs ≠ []) (hn2 : hs.length ≤ 1000000) {Q : AV → St → Prop}
    (hq : ∀ r S', HS b S' id (popL hs) → Kp b S S' → Q r S') : AC w0 F_cheap_Pop [.ifc t_p_heap_heads (.ptr id 0)] S Q := by
  have hpos := List.length_pos_iff.2 hn
  apply cheap_Pop_ok
  unfold G_cheap_Pop
  simp [invokeA, argsA]
  refine heap_heads_Len_A h ?_
  have e1 : IntKind.i64.wrap ((hs.length : Int) - 1) = ((hs.length - 1 : Nat) : Int) := by rw [wrap64] <;> omega
  simp [e1]
  refine heap_heads_Swap_A (i := 0) (k := hs.length - 1) h hpos (by omega) fun S2 h2 k2 => ?_
  refine cheap_down_A (i := 0) (n := hs.length - 1) h2 (by rw [swapL_len]; omega) (by rw [swapL_len]; omega) (by omega) fun S3 h3 k3 => ?_
  refine heap_heads_Pop_A h3 (by rw [← List.length_pos_iff, downL_len, swapL_len]; omega) (by rw [downL_len, swapL_len]; omega) fun r S4 h4 k4 => ?_
  exact hq _ _ h4 ((k2.trans k3).trans k4)

theorem ref01_Less_A {w0 : World} {S : St} {a b : Str} (ha : a.length ≤ 1000000000) (hb : b.length ≤ 1000000000) {Q : AV → St → Prop} (hq : Q (.bool (slt a b)) S) : AC w0 F_ref01_Less [.str a, .str b] S Q := by
  apply ref01_Less_ok
  unfold G_ref01_Less
  simp
  rw [joinK_eq]
  refine loopQ_by (fun k : Nat => ([.int .i64 k], [])) (fun m k S' => S' = S ∧ k ≤ a.length ∧ k ≤ b.length ∧ m = a.length - k ∧ slt a b = slt (a.drop k) (b.drop k)) a.length 0 rfl ⟨rfl, by omega, by omega, rfl, rfl⟩ ?_
  rintro m k S' v bx ⟨rfl, h1, h2, rfl, h3⟩ hv
  simp at hv
  simp [hv]
  by_cases c1 : k < a.length
  case neg =>
    have e1 : a.drop k = [] := by simp; omega
    simp [c1]
    rw [h3, e1] at hq
    by_cases c2 : k < b.length
    · obtain ⟨y, hy, hd, _⟩ := at_lt c2
      rw [hd] at hq
      have : a.length < b.length := by omega
      simpa [slt, Op.bytesLess, this] using hq
    · have e2 : b.drop k = [] := by simp; omega
      rw [e2] at hq
      have : ¬ a.length < b.length := by omega
      simpa [slt, Op.bytesLess, this] using hq
  by_cases c2 : k < b.length
  case neg =>
    have e2 : b.drop k = [] := by simp; omega
    simp [c1, c2]
    rw [h3, e2] at hq
    have : ¬ a.length < b.length := by omega
    cases hh : a.drop k <;> rw [hh] at hq <;> simpa [slt, Op.bytesLess, this] using hq
  obtain ⟨x, hx, hdx, hcx, _⟩ := at_lt c1
  obtain ⟨y, hy, hdy, hcy, _⟩ := at_lt c2
  have gx : a[k] = x := (List.getElem?_eq_some_iff.1 hx).2
  have gy : b[k] = y := (List.getElem?_eq_some_iff.1 hy).2
  rw [hdx, hdy, slt_cons] at h3
  by_cases c3 : x = y
  · subst c3
    simp [c1, c2, gx, gy]
    simp [slt_irrefl] at h3
    try simp (disch := omega) only [wrap64]
    exact ⟨_, k + 1, by show a.length - (k + 1) < _; omega, rfl, rfl, by omega, by omega, rfl, h3⟩
  · have c4 : ¬ (x.toNat : Int) = y.toNat := fun e => c3 (UInt8.toNat_inj.1 (by omega))
    simp [c3] at h3
    simp [c1, c2, gx, gy, c4]
    rw [h3] at hq
    have : decide (x < y) = decide (x.toNat < y.toNat) := by
      simp [UInt8.lt_iff_toNat_lt]
    rw [← this]
    exact hq
/-- Do names rise? -/
def risesL (l : List Str) : Bool := match l with | [] => true | [_] => true | a :: b :: t => slt a b && risesL (b :: t)
theorem ref09_Rises_A {w0 : World} {S : St} {x : Ss} (hx : x.l.length ≤ 1000000000) (hs : ∀ s ∈ x.l, s.length ≤ 1000000000) {Q : AV → St → Prop} (hq : Q (.bool (risesL x.l)) S) : AC w0 F_ref09_Rises [x.v] S Q := by
  apply ref09_Rises_ok
  unfold G_ref09_Rises
  obtain ⟨l, r⟩ := x
  simp at hx hs hq ⊢
  rw [joinK_eq]
  refine loopQ_by (fun k : Nat => ([.int .i64 ((k : Int) + 1)], [])) (fun m k S' => S' = S ∧ (k < l.length ∨ k = 0) ∧ m = l.length - k ∧ risesL l = risesL (l.drop k)) l.length 0 rfl ⟨rfl, by omega, rfl, rfl⟩ ?_
  rintro m k S' v bx ⟨rfl, h1, rfl, h3⟩ hv
  simp at hv h1
  simp [hv]
  by_cases c1 : k + 1 < l.length
  case neg =>
    have e1 : ¬ (k : Int) + 1 < l.length := by omega
    simp [e1]
    rw [h3] at hq
    have : risesL (l.drop k) = true := by
      by_cases c2 : k < l.length
      · obtain ⟨y, hy, hd, _⟩ := at_lt c2
        have : l.drop (k + 1) = [] := by simp; omega
        rw [hd, this]; rfl
      · have : l.drop k = [] := by simp; omega
        rw [this]; rfl
    rwa [this] at hq
  obtain ⟨y, hy, hd, _, my⟩ := at_lt c1
  obtain ⟨z, hz, hdz, _, mz⟩ := at_lt (show k < l.length by omega)
  have e1 : (k : Int) + 1 < l.length := by omega
  have e2 : (k : Int) + 1 = ((k + 1 : Nat) : Int) := by omega
  have i1 := idxSlA_vs T_string (l.map wStr) r.strip .i64 (k + 1) 1
  rw [← e2] at i1
  rw [hdz, hd, risesL] at h3
  simp [e1, i1, hz, hy]
  try simp (disch := omega) only [wrap64]
  simp [hz]
  refine ref01_Less_A (hs _ mz) (hs _ my) ?_
  simp
  cases hl : slt z y with
  | false =>
    rw [h3, hl] at hq
    simpa using hq
  | true =>
    rw [hl] at h3
    simp
    try simp (disch := omega) only [wrap64]
    exact ⟨_, k + 1, by show l.length - (k + 1) < _; omega, by simp, rfl, by omega, rfl, by rw [h3, hd]; simp⟩

/-- How many names there are. -/
def totS (rs : List Ss) : Nat := (rs.map fun x => x.l.length).sum
theorem hds_length : ∀ (rs : List Ss) (i : Nat), (hds i rs).length ≤ rs.length
  | [], _ => by simp [hds]
  | x :: xs, i => by
    have := hds_length xs (i + 1)
    simp only [hds, List.length_append, List.length_cons]
    cases x.l <;> simp <;> omega
theorem totS_take {rs : List Ss} {i : Nat} {x : Ss} (h : rs[i]? = some x) : totS (rs.take (i + 1)) = totS (rs.take i) + x.l.length := by
  rw [List.take_succ, h]; simp [totS]
theorem totS_app (a b : List Ss) : totS (a ++ b) = totS a + totS b := by simp [totS]
theorem totS_le (rs : List Ss) (i : Nat) : totS (rs.take i) ≤ totS rs := by
  have := totS_app (rs.take i) (rs.drop i)
  rw [List.take_append_drop] at this
  omega
theorem mergeL_len : ∀ (f : Nat) (hs : List Hd), (mergeL f hs).length ≤ f
  | 0, _ => by simp [mergeL]
  | f + 1, [] => by simp [mergeL]
  | f + 1, x :: tl => by simp only [mergeL, List.length_cons]; have := mergeL_len f (nextH (x :: tl)); omega
/-- How many names are left. -/
def totH (hs : List Hd) : Nat := (hs.map fun x => x.rest.l.length + 1).sum
theorem totH_perm {a b : List Hd} (h : a.Perm b) : totH a = totH b := by
  unfold totH
  exact (h.map _).sum_nat
theorem totH_next {x : Hd} {tl : List Hd} (h : HeapP (tl.length + 1) 0 (x :: tl)) : totH (nextH (x :: tl)) + 1 = totH (x :: tl) := by
  unfold nextH
  simp only
  cases hr : x.rest.l with
  | nil =>
    simp only
    have := totH_perm (popL_ok (hs := x :: tl) (by simp) h).2
    rw [hat_some (i := 0) rfl] at this
    rw [← this]
    simp [totH, hr]
  | cons s t =>
    simp only
    rw [totH_perm (downL_perm _ _ _ (by simp) (by simp))]
    simp [totH, hr]
    omega
theorem nextH_len {x : Hd} {tl : List Hd} : (nextH (x :: tl)).length ≤ tl.length + 1 := by
  unfold nextH
  simp only
  cases hr : x.rest.l with
  | nil => simp only [popL, List.length_dropLast, downL_len, swapL_len, List.length_cons]; omega
  | cons s t => simp only [downL_len, List.length_cons]; omega

theorem HS_append {S : St} {b id : Nat} {hs : List Hd} {L f : AV} (h : HS b S id hs) (hL : S[id]? = some (.cells [L, f] t_heap_heads)) (hb : b ≤ S.length) (hl : hs.length ≤ 1000000) (x : Hd) :
    ∃ p S2, appendR T_heap_head (stripMem S (.ptr id 0)) (AV.strip0 L) (.vs 3 [x.c] .full) = some p ∧ storeA T_s_heap_head p.2 (.ptr id 0) p.1 = some S2 ∧ HS b S2 id (hs ++ [x]) ∧ Kp b S S2 ∧ S.length ≤ S2.length := by
  obtain ⟨hb0, L', h1, h2⟩ := h
  rw [h1] at hL
  simp at hL
  obtain ⟨rfl, rfl⟩ := hL
  have hid := (List.getElem?_eq_some_iff.1 h1).1
  rw [stripMem_ptr h1]
  rcases h2 with ⟨rfl, rfl⟩ | ⟨hid', J, hb', rfl, h3, h4⟩
  · have e0 : (S.set id (.cells [AV.vs 3 [] .nil, .fn F_heap_Item_less [] []] t_heap_heads) ++ [Obj.cells ([x.c]).flatten 0])[id]? = some (.cells [AV.vs 3 [] .nil, .fn F_heap_Item_less [] []] t_heap_heads) := by
      rw [List.getElem?_append_left (by simpa using hid)]; exact getSet_self h1
    have hlim : (1 : Nat) ≤ lim := by unfold lim; omega
    refine ⟨_, _, by simp [appendR, elemsA, hlim]; rfl, by simp; rw [storeA_ptr (by simpa using e0)]; simp; rfl, ⟨hb0, _, getSet_self (by simpa using e0), .inr ⟨S.length, [], by omega, by simp, by omega, ?_⟩⟩, fun j hj => ?_, by simp⟩
    · rw [getSet_other (by omega), List.getElem?_append_right (by simp)]
      simp [flatE]
    · rw [getSet_other (by omega), List.getElem?_append_left (by simp; omega), getSet_other (by omega)]
  · have hid2 := (List.getElem?_eq_some_iff.1 h4).1
    have g1 : (S.set id (.cells [AV.rs 3 hid' 0 hs.length, .fn F_heap_Item_less [] []] t_heap_heads))[hid']? = some (.cells (flatE Hd.c hs ++ J) 0) := (getSet_other (Ne.symm h3)).trans h4
    have g2 : hs.length * 3 ≤ (flatE Hd.c hs ++ J).length := by rw [List.length_append, flatE_len Hd.cl]; omega
    have g3 : hs.length + 1 ≤ lim := by unfold lim; omega
    have g4 : (flatE Hd.c hs ++ J).take (hs.length * 3) = flatE Hd.c hs := by rw [← flatE_len Hd.cl, List.take_left]
    have e0 : ((S.set id (.cells [AV.rs 3 hid' 0 hs.length, .fn F_heap_Item_less [] []] t_heap_heads)).set hid' .dead ++ [Obj.cells (flatE Hd.c hs ++ ([x.c]).flatten) 0])[id]? = some (.cells [AV.rs 3 hid' 0 hs.length, .fn F_heap_Item_less [] []] t_heap_heads) := by
      rw [List.getElem?_append_left (by simpa using hid), getSet_other h3]; exact getSet_self h1
    have ha : appendR T_heap_head (S.set id (.cells [AV.rs 3 hid' 0 hs.length, .fn F_heap_Item_less [] []] t_heap_heads)) (.rs 3 hid' 0 hs.length) (.vs 3 [x.c] .full) =
        some (.rs 3 S.length 0 (hs.length + 1), (S.set id (.cells [AV.rs 3 hid' 0 hs.length, .fn F_heap_Item_less [] []] t_heap_heads)).set hid' .dead ++ [Obj.cells (flatE Hd.c hs ++ ([x.c]).flatten) 0]) := by
      simp only [appendR, elemsA, T_heap_head_size]
      simp only [List.cons_ne_nil, false_or, or_true, if_true, Option.bind_some, if_false, List.length_cons, List.length_nil, Nat.zero_add]
      simp only [objCells, g1, Option.bind_some, g2, g3, g4, and_self, if_true, List.length_set]
    refine ⟨_, _, ha, by rw [storeA_ptr e0]; simp; rfl, ⟨hb0, _, getSet_self e0, .inr ⟨S.length, [], by omega, by simp, by omega, ?_⟩⟩, fun j hj => ?_, by simp⟩
    · rw [getSet_other (by omega), List.getElem?_append_right (by simp)]
      simp [flatE]
    · rw [getSet_other (by omega), List.getElem?_append_left (by simp; omega), getSet_other (by omega), getSet_other (by omega)]
theorem hds_snoc (a : List Ss) (x : Ss) : hds 0 (a ++ [x]) = hds 0 a ++ (match x.l with | [] => [] | s :: t => [⟨s, (a.length : Int), ⟨t, x.r⟩⟩]) := by
  rw [hds_app]; simp only [hds, List.append_nil, Nat.zero_add]
  all_goals (cases x.l <;> rfl)
theorem heap_Merge_A {w0 : World} {S : St} {rows : List Ss} {r : Rt} (hl : rows.length ≤ 100000) (ht : totS rows ≤ 10000000) (hok : ∀ x ∈ rows, x.r = .nil → x.l = []) {Q : AV → St → Prop}
    (hq : ∀ S', Sx S S' → Q (.vs 2 ((mergeS (totS rows) rows).map Item.c) .none) S') : AC w0 F_heap_Merge [.vs 1 (rows.map Ss.c) r] S Q := by
  apply heap_Merge_ok
  unfold G_heap_Merge
  simp only [boxA, optK_some']
  simp
  refine joinK_gen (fun j => ∀ S', HS S.length S' S.length (hds 0 rows) → Sx S S' → S.length < S'.length → j (.int .i64 (totS rows : Int)) S') (fun S1 h1 hx1 hlt => ?_) (fun j3 hj3 => ?_)
  · simp [ifaceA, notIface]
    have hhl := hds_length rows 0
    refine cheap_Init_A h1 (by omega) fun S2 h2 k2 => ?_
    have hlim : (totS rows : Int) ≤ lim := by unfold lim; omega
    simp [makeSliceA, hlim]
    have hI := hinv_init rows
    have hT : totH (initL (hds 0 rows).length ((hds 0 rows).length / 2) (hds 0 rows)) = totS rows := by
      rw [totH_perm hI.2]
      have : ∀ (rs : List Ss) (i : Nat), totH (hds i rs) = totS rs := by
        intro rs
        induction rs with
        | nil => intro i; rfl
        | cons x xs ih =>
          intro i
          have := ih (i + 1)
          simp only [hds, totH, totS, List.map_append, List.sum_append_nat, List.map_cons, List.sum_cons] at this ⊢
          rw [this]
          cases x.l <;> simp
      exact this rows 0
    have hmm := merge_eq (totS rows) _ rows hI
    have hrest : ∀ x ∈ initL (hds 0 rows).length ((hds 0 rows).length / 2) (hds 0 rows), x.rest.r = .nil → x.rest.l = [] := fun x hx e => by
      obtain ⟨k, r, s, t, e1, e2, rfl⟩ := mem_hds.1 (hI.2.mem_iff.1 hx)
      have := hok r (List.mem_of_getElem? e1) e
      rw [this] at e2; cases e2
    have hlen : (initL (hds 0 rows).length ((hds 0 rows).length / 2) (hds 0 rows)).length ≤ 100000 := by rw [hI.2.length_eq]; omega
    have hheap := hI.1
    generalize initL (hds 0 rows).length ((hds 0 rows).length / 2) (hds 0 rows) = hs0 at *
    refine joinK_gen (fun j => ∀ S' t, Sx S S' → j (.vs 2 ((mergeL (totS rows) hs0).map Item.c) (.own t)) S') (fun S' t hS' => ?_) (fun j2 hj2 => ?_)
    · rw [hmm]
      exact hq _ hS'
    refine loopQ_by (fun k : List Item × List Hd × Nat => ([.vs 2 (k.1.map Item.c) (.own k.2.2)], []))
      (fun m k S' => HS S.length S' S.length k.2.1 ∧ Sx S S' ∧ m = totH k.2.1 ∧ k.1 ++ mergeL m k.2.1 = mergeL (totS rows) hs0 ∧ (∃ rs, HInv k.2.1 rs) ∧ k.2.1.length ≤ 100000 ∧ k.1.length + m = totS rows ∧ ∀ x ∈ k.2.1, x.rest.r = .nil → x.rest.l = [])
      (totS rows) ([], hs0, t_heap_Item) (by simp) ⟨h2, fun j hj => (k2 j hj).trans (hx1 j hj), hT.symm, rfl, ⟨rows, hI⟩, hlen, by simp, hrest⟩ ?_
    rintro m ⟨out, hs, t⟩ S' v b ⟨hS, hx, rfl, ho, ⟨rs, hH⟩, hl2, hm, hr⟩ hv
    simp only at hS hx ho hH hl2 hm hr
    simp at hv
    simp [hv]
    refine heap_heads_Len_A hS ?_
    cases hs with
    | nil =>
      simp
      have : out = mergeL (totS rows) hs0 := by
        rw [← ho]
        cases (totH ([] : List Hd)) <;> simp [mergeL]
      rw [← this] at hj2
      exact hj2 S' t hx
    | cons x tl =>
      obtain ⟨n, hn⟩ : ∃ n, totH (x :: tl) = n + 1 := ⟨totH (x :: tl) - 1, by simp [totH]; omega⟩
      have hnext := totH_next (by simpa using hH.1)
      obtain ⟨jj, _, _, hnI⟩ := merge_step hH
      have hnl := nextH_len (x := x) (tl := tl)
      have hS0 := hS
      obtain ⟨hb0, L, g1, g2⟩ := hS
      rcases g2 with ⟨e, _⟩ | ⟨hid, J, hb, rfl, g3, g4⟩
      · cases e
      have hx0 : (x :: tl)[0]? = some x := rfl
      have r0 := row_part (T := T_heap_Item) (n := 3) (m := 2) g4 rfl rfl Hd.cl hx0 (k := 0) (by simp)
      have r1 := row_cell (T := T_s_string) (n := 3) g4 rfl Hd.cl hx0 (k := 2) (by simp)
      simp at r0 r1
      have hlim2 : out.length + 1 ≤ lim := by unfold lim; omega
      rw [hn] at ho
      simp only [mergeL] at ho
      have hpos : (0 : Int) < tl.length + 1 := by omega
      simp [hpos, loadA_ptr g1, r0, r1, appendA, elemsA, hlim2]
      have fin : ∀ S2, HS S.length S2 S.length (nextH (x :: tl)) → Sx S S2 → (∀ y ∈ nextH (x :: tl), y.rest.r = .nil → y.rest.l = []) → ∀ t, Nx (fun k : List Item × List Hd × Nat => ([.vs 2 (k.1.map Item.c) (.own k.2.2)], []))
          (fun m k S' => HS S.length S' S.length k.2.1 ∧ Sx S S' ∧ m = totH k.2.1 ∧ k.1 ++ mergeL m k.2.1 = mergeL (totS rows) hs0 ∧ (∃ rs, HInv k.2.1 rs) ∧ k.2.1.length ≤ 100000 ∧ k.1.length + m = totS rows ∧ ∀ x ∈ k.2.1, x.rest.r = .nil → x.rest.l = [])
          (totH (x :: tl)) ([AV.vs 2 (List.map Item.c out ++ [[AV.str x.name, AV.int IntKind.i64 x.row]]) (.own t)], []) S2 := fun S2 q1 q2 q3 t =>
        ⟨totH (nextH (x :: tl)), (out ++ [⟨x.name, x.row⟩], nextH (x :: tl), t), by omega, by simp, q1, q2, rfl, by
          show (out ++ [_]) ++ mergeL (totH (nextH (x :: tl))) (nextH (x :: tl)) = _
          rw [show totH (nextH (x :: tl)) = n by omega, List.append_assoc, List.singleton_append]; exact ho, ⟨_, hnI⟩, by simp at hl2; show (nextH (x :: tl)).length ≤ 100000; omega, by simp; omega, q3⟩
      have hrow : ∃ t', rowTy T_heap_Item (Rt.own t) = t' := ⟨_, rfl⟩
      obtain ⟨t', ht'⟩ := hrow
      rw [ht']
      cases hrl : x.rest.l with
      | nil =>
        simp
        have hnx : nextH (x :: tl) = popL (x :: tl) := by simp [nextH, hrl]
        refine cheap_Pop_A hS0 (by simp) (by omega) fun r S2 h2' k2' => ?_
        refine fin S2 (by rw [hnx]; exact h2') (fun j hj => (k2' j hj).trans (hx j hj)) (fun y hy => ?_) t'
        rw [hnx] at hy
        exact hr y ((popL_ok (by simp) hH.1).2.mem_iff.1 (List.mem_append_left _ hy))
      | cons s tt =>
        have hnn : ¬ (x.rest.r.strip = .nil) := fun e => by
          have : x.rest.r = .nil := by cases hq : x.rest.r <;> rw [hq] at e <;> simp [Rt.strip] at e
          have := hr x (by simp) this
          rw [hrl] at this; cases this
        have hcells : flatE Hd.c (x :: tl) ++ J = .str x.name :: .int .i64 x.row :: x.rest.v :: (flatE Hd.c tl ++ J) := by simp [flatE]
        rw [hcells] at g4
        have g5 := getSet_self (o' := .cells (.str s :: .int .i64 x.row :: x.rest.v :: (flatE Hd.c tl ++ J)) 0) g4
        have hnx : nextH (x :: tl) = (downL (tl.length + 1) (tl.length + 1) 0 (⟨s, x.row, ⟨tt, x.rest.r⟩⟩ :: tl)).1 := by simp [nextH, hrl]
        simp [hnn, storeA_ptr g4]
        rw [storeA_ptr (by simpa using g5)]
        simp
        have hS3 : HS S.length (S'.set hid (.cells (.str s :: .int .i64 x.row :: .vs 1 (tt.map wStr) x.rest.r.strip :: (flatE Hd.c tl ++ J)) 0)) S.length (⟨s, x.row, ⟨tt, x.rest.r⟩⟩ :: tl) := by
          refine ⟨hb0, _, (getSet_other g3).trans g1, .inr ⟨hid, J, hb, rfl, g3, ?_⟩⟩
          rw [getSet_self g4]
          simp [flatE]
        refine cheap_Fix_A hS3 (by simp at hl2 ⊢; omega) fun S2 h2' k2' => ?_
        refine fin S2 (by rw [hnx]; exact h2') (fun j hj => ((k2' j hj).trans (getSet_other (by omega))).trans (hx j hj)) (fun y hy => ?_) t'
        rw [hnx] at hy
        have hy2 := (downL_perm (n := tl.length + 1) (tl.length + 1) 0 (⟨s, x.row, ⟨tt, x.rest.r⟩⟩ :: tl) (by simp) (by simp)).mem_iff.1 hy
        rcases List.mem_cons.1 hy2 with rfl | hy2
        · intro e
          exact (hnn (by simp at e; rw [e]; rfl)).elim
        · exact hr y (by simp [hy2])
  · refine loop_list rows (fun i (_ : Unit) => ([.int .i64 (totS (rows.take i) : Int), .int .i64 i], [])) (fun i _ S' => HS S.length S' S.length (hds 0 (rows.take i)) ∧ Sx S S' ∧ S.length < S'.length) () (by simp [totS])
      ⟨⟨Nat.le_refl _, .vs 3 [] .nil, by simp, .inl ⟨by simp [hds], rfl⟩⟩, .app _ _, by simp⟩ ?_ ?_
    · rintro i _ S' v b x c hxi hd hc hm ⟨hS, hx, hlt⟩ hv
      simp at hv
      have htk := totS_take hxi
      have htl := totS_le rows (i + 1)
      have hsn : rows.take (i + 1) = rows.take i ++ [x] := by rw [List.take_succ, hxi]; rfl
      have hhl : (hds 0 (rows.take i)).length ≤ i := by
        have := hds_length (rows.take i) 0
        simp at this; omega
      simp [hv, hc, hxi]
      have hlen : (rows.take i).length = i := by simp; omega
      refine joinK_gen (fun j => ∀ S2, HS S.length S2 S.length (hds 0 (rows.take (i + 1))) → Sx S S2 → S.length < S2.length → j (.int .i64 (totS (rows.take (i + 1)) : Int)) S2) (fun S2 h2 x2 l2 => ?_) (fun j hj => ?_)
      · try simp (disch := omega) only [wrap64]
        exact .next c () rfl ⟨h2, x2, l2⟩
      · try simp (disch := omega) only [wrap64]
        rw [hsn, hds_snoc, hlen, ← hsn, htk] at hj
        cases hxl : x.l with
        | nil =>
          rw [hxl] at hj
          simp at hj ⊢
          exact hj S' hS hx hlt
        | cons s tt =>
          rw [hxl] at hj
          have hnn : ¬ (x.r.strip = .nil) := fun e => by
            have : x.r = .nil := by cases hq : x.r <;> rw [hq] at e <;> simp [Rt.strip] at e
            have := hok x hm this
            rw [hxl] at this; cases this
          obtain ⟨hb0, L, g1, g2⟩ := id hS
          obtain ⟨p, S2, q1, q2, q3, q4, q5⟩ := HS_append hS g1 (by omega) (by omega) ⟨s, i, ⟨tt, x.r⟩⟩
          have hL : AV.strip0 L = L := by rcases g2 with ⟨_, rfl⟩ | ⟨_, _, _, rfl, _⟩ <;> rfl
          simp [hnn, loadA_ptr g1]
          simp only [Hd.c, Ss.v] at q1
          rw [q1]
          simp [q2]
          refine hj S2 (by simpa using q3) (fun j hj => (q4 j hj).trans (hx j hj)) (by omega)
    · rintro _ S' v b ⟨hS, hx, hlt⟩ hv N
      simp at hv
      simp [hv]
      rw [List.take_length] at hS
      exact hj3 S' hS hx hlt
end Go.Av
