/- Parts of the proofs of this seat: abstract values over the model, and what the functions of the program do. No condition. -/
import Derived.Test.YtgegfcblacmbeaaDoorX04b
import Derived.Test.YtgegfcblacmbeaaDoorY04b
import Derived.Test.YtgegfcblacmbeaaDoorDEq
set_option linter.all false
set_option linter.unusedVariables false
/-! Trees: how much there is; whether two are one. -/
namespace Go.Av
open Go.Proofs
theorem Node.c_eq' (n : Node) : n.c = [.int .i64 n.kind, .bool n.opq, .vs 1 (n.names.l.map wStr) n.names.r.strip, .vs 7 (n.items.map Node.c) n.ir.strip, .int .i64 n.size, .vs 2 (n.exts.map Ext.c) n.er.strip, .str n.target] := n.c_eq
@[simp] theorem Node.c_drop (n : Node) : n.c.drop 7 = [] := by rw [Node.c_eq]; rfl
@[simp] theorem Node.zero_c (n : Node) : 7 = n.c.length := by simp
def totX (l : List Ext) : Nat := (l.map fun x => x.data.length).sum
theorem totX_take (l : List Ext) {i : Nat} {x : Ext} (h : l[i]? = some x) : totX (l.take (i + 1)) = totX (l.take i) + x.data.length := by
  rw [List.take_succ, h]
  simp [totX]
theorem totX_bound {n : Nat} : ∀ (l : List Ext), (∀ x ∈ l, x.data.length ≤ n) → totX l ≤ l.length * n
  | [], _ => by simp [totX]
  | x :: l, h => by
    have h1 := totX_bound l fun y hy => h y (by simp [hy])
    have h2 := h x (by simp)
    simp only [totX, List.map_cons, List.sum_cons, List.length_cons, Nat.add_mul] at h1 ⊢
    omega
theorem totX_take_le (l : List Ext) (i : Nat) : totX (l.take i) ≤ totX l := by
  have : totX (l.take i ++ l.drop i) = totX (l.take i) + totX (l.drop i) := by simp only [totX, List.map_append, List.sum_append]
  rw [List.take_append_drop] at this
  omega
theorem Node.own_le {n : Node} (hok : n.ok) : n.own ≤ 3000000000000 ∧ totX n.exts ≤ 1099511627776 := by
  rw [Node.ok_iff] at hok
  obtain ⟨h1, h2, h3, h4, h5, h6, h7⟩ := hok
  have h8 := totX_bound (n := 1048576) n.exts (fun x hx => (h6.2.2 x hx).2.2)
  have h9 : n.exts.length * 1048576 ≤ 1048576 * 1048576 := Nat.mul_le_mul_right _ h6.2.1
  have h10 := h2.2.1
  have h11 := h6.2.1
  unfold Node.own
  unfold totX at h8 ⊢
  exact ⟨by omega, by omega⟩
theorem law04_small_A {w0 : World} (n : Node) : ∀ {S : St} {Q : AV → St → Prop} {id : Nat} {d left : Int}, n.ok → S[id]? = some (.cells [.int .i64 left] t_int) → -1000000 ≤ d → d ≤ 1000000 → 0 ≤ left → left ≤ 1000000000 →
    Q (.bool (n.sml d left).1) (S.set id (.cells [.int .i64 (n.sml d left).2] t_int)) → AC w0 F_law04_small [.agg n.c, .int .i64 d, .ptr id 0] S Q := by
  induction n using Node.ind with
  | h n ih =>
    intro S Q id d left hok hS hd1 hd2 hl1 hl2 hq
    have hown := Node.own_le hok
    rw [Node.c_eq]
    apply law04_small_ok
    unfold G_law04_small
    rw [Node.sml_eq] at hq
    rw [Node.ok_iff] at hok
    obtain ⟨h1, h2, h3, h4, h5, h6, h7⟩ := hok
    have hl2' := h2.2.1
    have hl6' := h6.2.1
    simp [loadA_ptr hS, joinK_eq]
    try simp (disch := omega) only [wrap64]
    simp [storeA_ptr hS]
    have e0 : ∀ i, totX (n.exts.take i) ≤ totX n.exts := totX_take_le n.exts
    have how : n.own = 1 + n.names.l.length + n.exts.length + totX n.exts + n.target.length := rfl
    refine loop_list n.exts (fun i (_ : Unit) => ([.int .i64 i], [])) (fun i _ S2 => S2 = S.set id (.cells [.int .i64 (left - (1 + n.names.l.length + n.exts.length) - totX (n.exts.take i))] t_int)) () rfl (by simp [totX]) ?_ ?_
    · rintro i _ S2 v b x c hxi hd hc hm rfl hv
      simp at hv
      have hS2 := getSet_self (o' := .cells [.int .i64 (left - (1 + n.names.l.length + n.exts.length) - totX (n.exts.take i))] t_int) hS
      have e1 := e0 i
      have e2 := e0 (i + 1)
      have e3 := (h6.2.2 x hm).2.2
      simp [hv, hc, hxi, loadA_ptr hS2]
      try simp (disch := omega) only [wrap64]
      simp [storeA_ptr hS2]
      try simp (disch := omega) only [wrap64]
      refine .next c () rfl ?_
      rw [totX_take _ hxi]
      congr 4
      omega
    · rintro _ S2 v b rfl hv N
      simp at hv
      have hS2 := getSet_self (o' := .cells [.int .i64 (left - (1 + n.names.l.length + n.exts.length) - totX (n.exts.take n.exts.length))] t_int) hS
      rw [List.take_length] at hS2
      have e1 := e0 n.exts.length
      simp [hv, loadA_ptr hS2]
      try simp (disch := omega) only [wrap64]
      simp [storeA_ptr hS2]
      have e4 : left - (1 + (n.names.l.length : Int) + (n.exts.length : Int)) - (totX n.exts : Int) - (n.target.length : Int) = left - n.own := by omega
      rw [e4]
      have hS3 := getSet_self (o' := .cells [.int .i64 (left - n.own)] t_int) hS
      simp [loadA_ptr hS3]
      by_cases c1 : left - n.own < 0
      · rw [if_pos (.inl c1)] at hq
        have c1' : left < n.own := by omega
        simp [c1, c1']
        exact hq
      have c1' : ¬ left < n.own := by omega
      by_cases c2 : d < 0
      · rw [if_pos (.inr c2)] at hq
        simp [c1, c1', c2]
        exact hq
      rw [if_neg (by simp [c1, c2])] at hq
      simp [c1, c1', c2]
      refine loop_list n.items (fun i (_ : Unit) => ([.int .i64 i], [])) (fun i _ S2 => ∃ lf : Int, 0 ≤ lf ∧ lf ≤ left ∧ S2 = S.set id (.cells [.int .i64 lf] t_int) ∧ Node.smls n.items (d - 1) (left - n.own) = Node.smls (n.items.drop i) (d - 1) lf) () rfl ⟨left - n.own, by omega, by omega, rfl, by simp⟩ ?_ ?_
      · rintro i _ S2 v b x c hxi hd3 hc hm ⟨lf, l1, l2, rfl, hx⟩ hv
        simp at hv
        simp [hv, hc, hxi]
        have hS2 := getSet_self (o' := .cells [.int .i64 lf] t_int) hS
        rw [Node.smls_drop hxi] at hx
        try simp (disch := omega) only [wrap64]
        refine ih x hm (h4 x hm) hS2 (by omega) (by omega) l1 (by omega) ?_
        rw [List.set_set]
        cases hb : (x.sml (d - 1) lf).1 with
        | false =>
          rw [hx, hb] at hq
          simpa using hq
        | true =>
          rw [hb] at hx
          simp
          try simp (disch := omega) only [wrap64]
          obtain ⟨r1, r2, r3⟩ := x.sml_spec (d - 1) lf l1 hb
          exact .next c () rfl ⟨(x.sml (d - 1) lf).2, r2, by omega, rfl, by simpa using hx⟩
      · rintro _ S2 v b ⟨lf, l1, l2, rfl, hx⟩ hv N
        simp at hv
        simp [hv]
        rw [hx, List.drop_length] at hq
        simpa [Node.smls] using hq
theorem law04_Small_A {w0 : World} {n : Node} {S : St} (hok : n.ok) {Q : AV → St → Prop} (hq : ∀ S', Sx S S' → Q (.int .i64 (if n.small = true then 1 else 0)) S') : AC w0 F_law04_Small [.agg n.c] S Q := by
  have h1 := @law04_small_A w0 n (S ++ [.cells [.int .i64 400] t_int])
  unfold Node.small at hq
  rw [Node.c_eq] at h1 ⊢
  apply law04_Small_ok
  unfold G_law04_Small
  have hS : (S ++ [Obj.cells [.int .i64 0] t_int])[S.length]? = some (.cells [.int .i64 0] t_int) := by simp
  simp [storeA_ptr hS]
  refine h1 (d := 30) (left := 400) hok (by simp) (by omega) (by omega) (by omega) (by omega) ?_
  simp
  have hq := hq _ (Sx.app S [.cells [.int .i64 (n.sml 30 400).2] t_int])
  cases hb : (n.sml 30 400).1 with
  | false => rw [hb] at hq; simpa using hq
  | true => rw [hb] at hq; simpa using hq
theorem Equal_str_A {w0 : World} {S : St} {a b : List Str} {ra rb : Rt} (ha : a.length ≤ 1000000000000) {Q : AV → St → Prop} (hq : Q (.bool (decide (a = b))) S) : AC w0 F_slices_Equal_s_string_string [.vs 1 (a.map wStr) ra, .vs 1 (b.map wStr) rb] S Q := by
  apply slices_Equal_s_string_string_ok
  unfold G_slices_Equal_s_string_string
  by_cases hl : a.length = b.length
  · have hl' : ((a.length : Int) != (b.length : Int)) = false := by simp [hl]
    simp only [List.length_map, hl']
    simp [joinK_eq]
    refine loop_list a (fun i (_ : Unit) => ([.int .i64 i], [])) (fun i _ S' => S' = S ∧ a.take i = b.take i) () rfl (by simp) ?_ ?_
    · rintro i _ S' v bx x c hxi hd hc hm ⟨rfl, hx⟩ hv
      simp at hv
      obtain ⟨y, hy⟩ : ∃ y, b[i]? = some y := ⟨b[i]'(by omega), by simp [show i < b.length by omega]⟩
      simp [hv, hc, hxi, hy]
      by_cases e : x = y
      · simp [e]
        try simp (disch := omega) only [wrap64]
        refine .next c () rfl ⟨rfl, ?_⟩
        rw [List.take_add_one, List.take_add_one, hxi, hy, hx, e]
      · have : ¬ a = b := fun h => e (by rw [h, hy] at hxi; exact (Option.some.inj hxi).symm)
        simp [e]
        simpa [this] using hq
    · rintro _ S' v bx ⟨rfl, hx⟩ hv N
      simp at hv
      simp [hv]
      rw [List.take_length, hl, List.take_length] at hx
      simpa [hx] using hq
  · have hl' : ((a.length : Int) != (b.length : Int)) = true := by simp; omega
    have : ¬ a = b := fun h => hl (by rw [h])
    simp only [List.length_map, hl']
    simpa [this] using hq
theorem Ext.eq_iff {x y : Ext} : x = y ↔ x.off = y.off ∧ x.data = y.data := by cases x; cases y; simp
theorem Equal_ext_A {w0 : World} {S : St} {a b : List Ext} {ra rb : Rt} (ha : a.length ≤ 1000000000000) {Q : AV → St → Prop} (hq : Q (.bool (decide (a = b))) S) : AC w0 F_slices_Equal_s_api_Extent_api_Extent [.vs 2 (a.map Ext.c) ra, .vs 2 (b.map Ext.c) rb] S Q := by
  apply slices_Equal_s_api_Extent_api_Extent_ok
  unfold G_slices_Equal_s_api_Extent_api_Extent
  by_cases hl : a.length = b.length
  · have hl' : ((a.length : Int) != (b.length : Int)) = false := by simp [hl]
    simp only [List.length_map, hl']
    simp [joinK_eq]
    refine loop_list a (fun i (_ : Unit) => ([.int .i64 i], [])) (fun i _ S' => S' = S ∧ a.take i = b.take i) () rfl (by simp) ?_ ?_
    · rintro i _ S' v bx x c hxi hd hc hm ⟨rfl, hx⟩ hv
      simp at hv
      obtain ⟨y, hy⟩ : ∃ y, b[i]? = some y := ⟨b[i]'(by omega), by simp [show i < b.length by omega]⟩
      simp [hv, hc, hxi, hy]
      by_cases e : x = y
      · subst e
        simp
        try simp (disch := omega) only [wrap64]
        refine .next c () rfl ⟨rfl, ?_⟩
        rw [List.take_add_one, List.take_add_one, hxi, hy, hx]
      · have : ¬ a = b := fun h => e (by rw [h, hy] at hxi; exact (Option.some.inj hxi).symm)
        have e2 : ¬ (x.off = y.off ∧ x.data = y.data) := fun h => e (Ext.eq_iff.2 h)
        simp [this] at hq
        refine ifK_b (fun _ => hq) (fun h => ?_)
        simp at h
        exact (e2 h).elim
    · rintro _ S' v bx ⟨rfl, hx⟩ hv N
      simp at hv
      simp [hv]
      rw [List.take_length, hl, List.take_length] at hx
      simpa [hx] using hq
  · have hl' : ((a.length : Int) != (b.length : Int)) = true := by simp; omega
    have : ¬ a = b := fun h => hl (by rw [h])
    simp only [List.length_map, hl']
    simpa [this] using hq
theorem Less_str_A {w0 : World} {S : St} {a b : Str} {Q : AV → St → Prop} (hq : Q (.bool (slt a b)) S) : AC w0 F_cmp_Less_string [.str a, .str b] S Q := by
  apply cmp_Less_string_ok
  unfold G_cmp_Less_string
  apply cmp_isNaN_string_ok
  unfold G_cmp_isNaN_string
  simp [joinK_eq]
  exact hq
theorem slt_le_trans {a b c : Str} (h : slt a b = true) (k : slt c b = false) : slt a c = true := by
  rcases slt_tri b c with h2 | h2 | h2
  · exact slt_trans h h2
  · subst h2; exact h
  · rw [h2] at k; cases k
/-- What binary search finds in a row that rises: how many are less. -/
theorem BinarySearch_A {w0 : World} {S : St} {l : List Str} {r : Rt} {s : Str} (hl : l.length ≤ 1000000000) (hp : l.Pairwise (fun a b => slt a b = true)) {Q : AV → St → Prop}
    (hq : ∀ k : Nat, k ≤ l.length → (∀ i x, i < k → l[i]? = some x → slt x s = true) → (∀ i x, k ≤ i → l[i]? = some x → slt x s = false) → Q (.tup [.int .i64 k, .bool (decide (l[k]? = some s))]) S) :
    AC w0 F_slices_BinarySearch_s_string_string [.vs 1 (l.map wStr) r, .str s] S Q := by
  apply slices_BinarySearch_s_string_string_ok
  unfold G_slices_BinarySearch_s_string_string
  refine joinK_gen (fun j => ∀ k : Nat, k ≤ l.length → (∀ i x, i < k → l[i]? = some x → slt x s = true) → (∀ i x, k ≤ i → l[i]? = some x → slt x s = false) → j (.int .i64 k) S) (fun k hk h1 h2 => ?_) (fun j hj => ?_)
  · have hq := hq k hk h1 h2
    by_cases c : k < l.length
    · obtain ⟨x, hx, _, hc, _⟩ := at_lt c
      have gx : l[k] = x := (List.getElem?_eq_some_iff.1 hx).2
      have e1 : ((k : Int) < (l.length : Int)) = True := by simp; exact c
      rw [hx] at hq
      have e2 : decide (some x = some s) = decide (x = s) := by simp
      rw [e2] at hq
      have e3 : (List.map wStr l)[k]? = some (wStr x) := by simp [hx]
      simp [joinK_eq, c, hx, gx]
      by_cases e : x = s
      · subst e
        simp at hq ⊢
        exact hq
      · simp [e] at hq ⊢
        refine slices_isNaN_string_ok ?_
        unfold G_slices_isNaN_string
        simp
        exact hq
    · have e1 : l[k]? = none := by simp; omega
      rw [e1] at hq
      simp [joinK_eq, c] at hq ⊢
      exact hq
  · refine loopQ_by (fun p : Nat × Nat => ([.int .i64 p.1, .int .i64 p.2], [])) (fun m p S' => S' = S ∧ m = p.2 - p.1 ∧ p.1 ≤ p.2 ∧ p.2 ≤ l.length ∧ (∀ i x, i < p.1 → l[i]? = some x → slt x s = true) ∧ (∀ i x, p.2 ≤ i → l[i]? = some x → slt x s = false)) l.length (0, l.length) (by simp) ⟨rfl, rfl, by simp, by simp, by intro i x h; omega, by
      intro i x h1 h2
      have := (List.getElem?_eq_some_iff.1 h2).1
      omega⟩ ?_
    rintro m ⟨a, b⟩ S' v bx ⟨rfl, rfl, h1, h2, h3, h4⟩ hv
    simp at hv h1 h2 h3 h4
    obtain ⟨hv1, hv2⟩ := hv
    simp [hv1, hv2]
    by_cases c : a < b
    · have e1 : IntKind.i64.wrap ((a : Int) + b) = ((a + b : Nat) : Int) := by rw [wrap64 (by omega) (by omega)]; omega
      have e2 : IntKind.u64.wrap ((a + b : Nat) : Int) = ((a + b : Nat) : Int) := by
        simp [IntKind.wrap, IntKind.bits, IntKind.signed]; omega
      have e3 : binA .shr (.int .u64 ((a + b : Nat) : Int)) (.int .u64 1) = some (.int .u64 (((a + b) / 2 : Nat) : Int)) := by
        simp [binA, IntKind.bits]
        rw [Int.fdiv_eq_ediv_of_nonneg _ (by omega)]
      have hm : (a + b) / 2 < l.length := by omega
      have e4 : IntKind.i64.wrap (((a + b) / 2 : Nat) : Int) = (((a + b) / 2 : Nat) : Int) := wrap64 (by omega) (by omega)
      obtain ⟨k, hk⟩ : ∃ k, k = (a + b) / 2 := ⟨_, rfl⟩
      obtain ⟨x, hx, _, hc, _⟩ := at_lt hm
      rw [← hk] at e3 e4 hx hm
      have gx : l[k] = x := (List.getElem?_eq_some_iff.1 hx).2
      simp only [e1]
      simp [c]
      have e2' : IntKind.u64.wrap ((a : Int) + b) = (a : Int) + b := by rw [show (a : Int) + b = ((a + b : Nat) : Int) by omega]; exact e2
      have e3' : binA .shr (.int .u64 ((a : Int) + b)) (.int .u64 1) = some (.int .u64 (k : Int)) := by rw [show (a : Int) + b = ((a + b : Nat) : Int) by omega]; exact e3
      simp [e2', e3', e4, hx]
      refine Less_str_A ?_
      cases hs : slt x s with
      | true =>
        simp
        try simp (disch := omega) only [wrap64]
        refine ⟨_, (k + 1, b), by show b - (k + 1) < b - a; omega, rfl, rfl, rfl, by show k + 1 ≤ b; omega, h2, ?_, h4⟩
        intro i y hi hy
        by_cases e : i = k
        · subst e; rw [hx] at hy; cases hy; exact hs
        · have hi' : i < k := by simp at hi; omega
          have := List.pairwise_iff_getElem.1 hp i k (List.getElem?_eq_some_iff.1 hy).1 hm hi'
          rw [(List.getElem?_eq_some_iff.1 hy).2, gx] at this
          exact slt_trans this hs
      | false =>
        simp
        refine ⟨_, (a, k), by show k - a < b - a; omega, rfl, rfl, rfl, by show a ≤ k; omega, by show k ≤ l.length; omega, h3, ?_⟩
        intro i y hi hy
        simp at hi
        by_cases e : i = k
        · subst e; rw [hx] at hy; cases hy; exact hs
        · have hi' : k < i := by omega
          have := List.pairwise_iff_getElem.1 hp k i hm (List.getElem?_eq_some_iff.1 hy).1 hi'
          rw [(List.getElem?_eq_some_iff.1 hy).2, gx] at this
          cases h5 : slt y s with
          | false => rfl
          | true => have := slt_trans this h5; rw [hs] at this; cases this
    · have : a = b := by omega
      subst this
      simp [c]
      exact hj a h2 h3 h4
theorem chain_pw : ∀ (l : List Str) (p : Option Str), nchain p l = true → l.Pairwise (fun a b => slt a b = true) ∧ (∀ q, p = some q → ∀ x ∈ l, slt q x = true) ∧ ∀ x ∈ l, nameR x = true
  | [], p, h => by simp
  | s :: l, p, h => by
    rw [nchain_cons] at h
    simp only [Bool.and_eq_true] at h
    obtain ⟨⟨h1, h2⟩, h3⟩ := h
    obtain ⟨k1, k2, k3⟩ := chain_pw l (some s) h3
    refine ⟨List.pairwise_cons.2 ⟨k2 s rfl, k1⟩, fun q e x hx => ?_, fun x hx => ?_⟩
    · subst e
      rcases List.mem_cons.1 hx with rfl | hx
      · exact h2
      · exact slt_trans h2 (k2 s rfl x hx)
    · rcases List.mem_cons.1 hx with rfl | hx
      · exact h1
      · exact k3 x hx
/-- A node without anything. -/
def Node.none : Node := .mk 0 false ⟨[], .nil⟩ [] .nil 0 [] .nil []
theorem Node.none_c : Node.none.c = [.int .i64 0, .bool false, .vs 1 [] .nil, .vs 7 [] .nil, .int .i64 0, .vs 2 [] .nil, .str []] := by rw [Node.c_eq]; rfl
theorem Node.none_ok : Node.none.ok := by
  rw [Node.ok_iff]
  simp [Node.none, Node.kind, Node.names, Node.items, Node.ir, Node.size, Node.exts, Node.er, Node.target, I64, Ss.ok]
/-- What has a name, by the place. -/
def Node.find (n : Node) (s : Str) : Option Node := (n.names.l.findIdx? (fun x => decide (x = s))).bind (n.items[·]?)
theorem find_pw {l : List Str} {s : Str} {k : Nat} (hp : l.Pairwise (fun a b => slt a b = true)) (h1 : ∀ i x, i < k → l[i]? = some x → slt x s = true) (h2 : ∀ i x, k ≤ i → l[i]? = some x → slt x s = false) :
    l.findIdx? (fun x => decide (x = s)) = if l[k]? = some s then some k else Option.none := by
  split
  · rename_i h
    rw [List.findIdx?_eq_some_iff_getElem]
    obtain ⟨hk, he⟩ := List.getElem?_eq_some_iff.1 h
    refine ⟨hk, by simp [he], fun j hj => ?_⟩
    have := h1 j _ hj (List.getElem?_eq_getElem (by omega))
    simp
    intro e
    rw [e, slt_irrefl] at this
    cases this
  · rename_i h
    rw [List.findIdx?_eq_none_iff]
    intro x hx
    simp
    intro e
    subst e
    obtain ⟨i, hi⟩ := List.getElem?_of_mem hx
    by_cases c : i < k
    · have := h1 i _ c hi; rw [slt_irrefl] at this; cases this
    · by_cases e : i = k
      · subst e; exact h hi
      · have hil := (List.getElem?_eq_some_iff.1 hi).1
        have hkl : k < l.length := by omega
        have h4 := h2 k l[k] (by omega) (List.getElem?_eq_getElem hkl)
        have h5 := List.pairwise_iff_getElem.1 hp k i hkl hil (by omega)
        rw [(List.getElem?_eq_some_iff.1 hi).2, h4] at h5
        cases h5
theorem namesB_iff {n : Node} (h : namesB n = true) : nchain Option.none n.names.l = true ∧ n.names.l.length = n.items.length := by
  simpa [namesB] using h
theorem Node.find_some {n : Node} {s : Str} {k : Nat} (h : n.names.l.findIdx? (fun x => decide (x = s)) = some k) : n.find s = n.items[k]? := by simp [Node.find, h]
theorem Node.find_none {n : Node} {s : Str} (h : n.names.l.findIdx? (fun x => decide (x = s)) = Option.none) : n.find s = Option.none := by simp [Node.find, h]
theorem tree_Find_A {w0 : World} {n : Node} {s : Str} {S : St} (hok : n.ok) (hn : namesB n = true) {Q : AV → St → Prop}
    (hq : Q (.tup [.agg ((n.find s).getD Node.none).c, .bool (n.find s).isSome]) S) : AC w0 F_tree_Find [.agg n.c, .str s] S Q := by
  rw [Node.c_eq]
  apply tree_Find_ok
  unfold G_tree_Find
  obtain ⟨hc, hlen⟩ := namesB_iff hn
  obtain ⟨hp, _, _⟩ := chain_pw _ _ hc
  rw [Node.ok_iff] at hok
  obtain ⟨h1, h2, h3, h4, h5, h6, h7⟩ := hok
  have hl := h2.2.1
  simp
  refine BinarySearch_A (by omega) hp (fun k hk k1 k2 => ?_)
  have hf := find_pw hp k1 k2
  by_cases c : n.names.l[k]? = some s
  · rw [if_pos c] at hf
    have hkl := (List.getElem?_eq_some_iff.1 c).1
    obtain ⟨x, hx⟩ : ∃ x, n.items[k]? = some x := ⟨n.items[k]'(by omega), by simp [show k < n.items.length by omega]⟩
    rw [Node.find_some hf, hx] at hq
    simp [c, hx]
    simpa using hq
  · rw [if_neg c] at hf
    rw [Node.find_none hf] at hq
    simp [c]
    simpa [Node.none_c] using hq
theorem ref04_Find_A {w0 : World} {n : Node} {s : Str} {S : St} (hok : n.ok) {Q : AV → St → Prop}
    (hq : Q (.int .i64 (match n.names.l.findIdx? (fun x => decide (x = s)) with | some k => (k : Int) | Option.none => -1)) S) : AC w0 F_ref04_Find [.agg n.c, .str s] S Q := by
  rw [Node.c_eq]
  apply ref04_Find_ok
  unfold G_ref04_Find
  rw [Node.ok_iff] at hok
  obtain ⟨h1, h2, h3, h4, h5, h6, h7⟩ := hok
  have hl := h2.2.1
  simp [joinK_eq]
  refine loop_list n.names.l (fun i (_ : Unit) => ([.int .i64 i], [some [.int .i64 n.kind, .bool n.opq, .vs 1 (n.names.l.map wStr) n.names.r.strip, .vs 7 (n.items.map Node.c) n.ir.strip, .int .i64 n.size, .vs 2 (n.exts.map Ext.c) n.er.strip, .str n.target]])) (fun i _ S' => S' = S ∧ ∀ j x, j < i → n.names.l[j]? = some x → ¬ x = s) () rfl ⟨rfl, by intro j x h; omega⟩ ?_ ?_
  · rintro i _ S' v b x c hxi hd hc hm ⟨rfl, hx⟩ hv
    simp at hv
    simp [hv, hc, hxi]
    by_cases e : x = s
    · have hf : n.names.l.findIdx? (fun x => decide (x = s)) = some i := by
        rw [List.findIdx?_eq_some_iff_getElem]
        refine ⟨c, by simp [(List.getElem?_eq_some_iff.1 hxi).2, e], fun j hj => ?_⟩
        have := hx j _ hj (List.getElem?_eq_getElem (by omega))
        simpa using this
      rw [hf] at hq
      simp [e]
      exact hq
    · simp [e]
      try simp (disch := omega) only [wrap64]
      refine .next c () rfl ⟨rfl, fun j y hj hy => ?_⟩
      by_cases e2 : j = i
      · subst e2; rw [hxi] at hy; cases hy; exact e
      · exact hx j y (by omega) hy
  · rintro _ S' v b ⟨rfl, hx⟩ hv N
    simp at hv
    have hf : n.names.l.findIdx? (fun x => decide (x = s)) = Option.none := by
      rw [List.findIdx?_eq_none_iff]
      intro x hxm
      obtain ⟨j, hj⟩ := List.getElem?_of_mem hxm
      have := hx j x (List.getElem?_eq_some_iff.1 hj).1 hj
      simpa using this
    rw [hf] at hq
    simp [hv]
    exact hq
theorem tree_Same_A {w0 : World} (a : Node) : ∀ {b : Node} {S : St} {Q : AV → St → Prop}, a.ok → b.ok → Q (.bool (a.sameB b)) S → AC w0 F_tree_Same [.agg a.c, .agg b.c] S Q := by
  induction a using Node.ind with
  | h a ih =>
    intro b S Q hok hok2 hq
    rw [Node.c_eq a, Node.c_eq b]
    apply tree_Same_ok
    unfold G_tree_Same
    rw [Node.same_eq] at hq
    rw [Node.ok_iff] at hok hok2
    obtain ⟨h1, h2, h3, h4, h5, h6, h7⟩ := hok
    obtain ⟨k1, k2, k3, k4, k5, k6, k7⟩ := hok2
    have hl := h2.2.1
    have hl2 := h6.2.1
    by_cases c1 : a.kind = b.kind
    case neg => simp [c1, joinK_eq] at hq ⊢; exact hq
    by_cases c2 : a.opq = b.opq
    case neg =>
      have c2' := beq_eq_false_iff_ne.2 c2
      simp [c1, c2, c2', joinK_eq] at hq ⊢; exact hq
    by_cases c3 : a.size = b.size
    case neg => simp [c1, c2, c3, joinK_eq] at hq ⊢; exact hq
    by_cases c4 : a.target = b.target
    case neg => simp [c1, c2, c3, c4, joinK_eq] at hq ⊢; exact hq
    simp [c1, c2, c3, c4, joinK_eq] at hq ⊢
    refine Equal_str_A (by omega) ?_
    by_cases c5 : a.names.l = b.names.l
    case neg => simp [c5] at hq ⊢; exact hq
    simp [c5] at hq ⊢
    refine Equal_ext_A (by omega) ?_
    by_cases c6 : a.exts = b.exts
    case neg => simp [c6] at hq ⊢; exact hq
    simp [c6] at hq ⊢
    by_cases c7 : a.items.length = b.items.length
    case neg =>
      have c7' : ¬ ((a.items.length : Int) = b.items.length) := by omega
      rw [Node.sames_len _ _ c7] at hq
      simp [c7'] at hq ⊢
      exact hq
    have c7' : ((a.items.length : Int) = b.items.length) := by omega
    simp [c7']
    have hcb := Node.c_eq' b
    rw [c7] at h3
    refine loop_list a.items (fun i (_ : Unit) => ([.int .i64 i], [some a.c, some b.c])) (fun i _ S' => S' = S ∧ Node.samesB a.items b.items = Node.samesB (a.items.drop i) (b.items.drop i)) () (by rw [Node.c_eq' a, Node.c_eq' b]; simp [c1, c2, c3, c4, c5, c6]) ⟨rfl, by simp⟩ ?_ ?_
    · rintro i _ S' v bx x c hxi hd hc hm ⟨rfl, hx⟩ hv
      obtain ⟨y, hy⟩ : ∃ y, b.items[i]? = some y := ⟨b.items[i]'(by omega), by simp [show i < b.items.length by omega]⟩
      simp at hv
      obtain ⟨hv1, hv2, hv3⟩ := hv
      rw [c7] at hc c
      rw [Node.c_eq'] at hv2 hv3
      have gy : b.items[i] = y := (List.getElem?_eq_some_iff.1 hy).2
      simp [hv1, hv2, hv3, hc, c, hxi, hy, gy]
      refine ih x hm (h4 x hm) (k4 y (List.mem_of_getElem? hy)) ?_
      rw [Node.sames_drop hxi hy] at hx
      cases hs : x.sameB y with
      | false =>
        rw [hx, hs] at hq
        simpa using hq
      | true =>
        rw [hs] at hx
        simp
        try simp (disch := omega) only [wrap64]
        exact .next (by omega) () (by rw [Node.c_eq' a, Node.c_eq' b]; simp [c1, c2, c3, c4, c5, c6]) ⟨rfl, by simpa using hx⟩
    · rintro _ S' v bx ⟨rfl, hx⟩ hv N
      simp at hv
      obtain ⟨hv1, hv2, hv3⟩ := hv
      simp [hv1, c7]
      rw [hx, List.drop_length, c7, List.drop_length] at hq
      simpa using hq
end Go.Av
