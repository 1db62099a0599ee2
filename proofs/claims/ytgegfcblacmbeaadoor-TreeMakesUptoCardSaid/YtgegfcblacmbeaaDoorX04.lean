/- Parts of the proofs of this seat: abstract values over the model, and what the functions of the program do. No condition. -/
import Derived.Test.YtgegfcblacmbeaaDoorM11
import Derived.Test.YtgegfcblacmbeaaDoorDNode
import Derived.Test.YtgegfcblacmbeaaDoorY04
import Derived.Test.YtgegfcblacmbeaaDoorXLess
import Derived.Test.YtgegfcblacmbeaaDoorX01b
set_option linter.all false
set_option linter.unusedVariables false
/-! Trees: walked. -/
namespace Go.Av
open Go.Proofs
@[simp] theorem Node.c_len (n : Node) : n.c.length = 7 := by rw [Node.c_eq]; rfl
@[simp] theorem Node.c_free (n : Node) : (AV.agg n.c).free = true := by rw [Node.c_eq]; simp
@[simp] theorem Node.c_strip (n : Node) : (AV.agg n.c).strip = .agg n.c := by rw [Node.c_eq]; simp
@[simp] theorem Node.c_cells (n : Node) : (AV.agg n.c).cells = n.c := rfl
@[simp] theorem Node.c_map (n : Node) : n.c.map AV.strip1 = n.c := by rw [Node.c_eq]; simp
@[simp] theorem Node.c_free1 (n : Node) : (∀ x ∈ n.c, x.free1 = true) ↔ True := by rw [Node.c_eq]; simp
@[simp] theorem Node.c_take (n : Node) : n.c.take 7 = n.c := by rw [Node.c_eq]; rfl
@[simp] theorem load_node (S : St) (n : Node) : loadA T_api_Node S (.ep n.c 0) = some (.agg n.c) := by rw [Node.c_eq]; simp
theorem tree_Count_A {w0 : World} (n : Node) : ∀ {S : St} {Q : AV → St → Prop}, n.ok → n.count ≤ 1000000000000 → Q (.int .i64 n.count) S → AC w0 F_tree_Count [.agg n.c] S Q := by
  induction n using Node.ind with
  | h n ih =>
    intro S Q hok hn hq
    rw [Node.c_eq]
    apply tree_Count_ok
    unfold G_tree_Count
    rw [Node.count_eq] at hn hq
    rw [Node.ok_iff] at hok
    obtain ⟨h1, h2, h3, h4, h5, h6, h7⟩ := hok
    simp [joinK_eq]
    refine loop_list n.items (fun i (_ : Unit) => ([.int .i64 ((1 + Node.counts (n.items.take i) : Nat) : Int), .int .i64 i], [])) (fun i _ S' => S' = S) () (by simp [Node.counts]) rfl ?_ ?_
    · rintro i _ S' v b x c hxi hd hc hm rfl hv
      simp at hv
      simp [hv, hc, hxi]
      have hk := Node.counts_take hxi
      have hle := Node.counts_take_le n.items (i + 1)
      refine ih x hm (h4 x hm) (by omega) ?_
      simp
      try simp (disch := omega) only [wrap64]
      exact .next c () (by rw [hk]; simp; omega) rfl
    · rintro _ S' v b rfl hv N
      simp at hv
      simp [hv]
      simpa using hq
theorem ref04_Count_A {w0 : World} (n : Node) : ∀ {S : St} {Q : AV → St → Prop}, n.ok → n.count ≤ 1000000000000 → Q (.int .i64 n.count) S → AC w0 F_ref04_Count [.agg n.c] S Q := by
  induction n using Node.ind with
  | h n ih =>
    intro S Q hok hn hq
    rw [Node.c_eq]
    apply ref04_Count_ok
    unfold G_ref04_Count
    rw [Node.count_eq] at hn hq
    rw [Node.ok_iff] at hok
    obtain ⟨h1, h2, h3, h4, h5, h6, h7⟩ := hok
    simp [joinK_eq]
    refine loop_list n.items (fun i (_ : Unit) => ([.int .i64 ((1 + Node.counts (n.items.take i) : Nat) : Int), .int .i64 i], [some [.int .i64 n.kind, .bool n.opq, .vs 1 (n.names.l.map wStr) n.names.r.strip, .vs 7 (n.items.map Node.c) n.ir.strip, .int .i64 n.size, .vs 2 (n.exts.map Ext.c) n.er.strip, .str n.target]])) (fun i _ S' => S' = S) () (by simp [Node.counts]) rfl ?_ ?_
    · rintro i _ S' v b x c hxi hd hc hm rfl hv
      simp at hv
      simp [hv, hc, hxi]
      have hk := Node.counts_take hxi
      have hle := Node.counts_take_le n.items (i + 1)
      refine ih x hm (h4 x hm) (by omega) ?_
      simp
      try simp (disch := omega) only [wrap64]
      exact .next c () (by rw [hk]; simp; omega) rfl
    · rintro _ S' v b rfl hv N
      simp at hv
      simp [hv]
      simpa using hq
theorem ref04_Depth_A {w0 : World} (n : Node) : ∀ {S : St} {Q : AV → St → Prop}, n.ok → n.depth ≤ 1000000000000 → Q (.int .i64 n.depth) S → AC w0 F_ref04_Depth [.agg n.c] S Q := by
  induction n using Node.ind with
  | h n ih =>
    intro S Q hok hn hq
    rw [Node.c_eq]
    apply ref04_Depth_ok
    unfold G_ref04_Depth
    rw [Node.depth_eq] at hn hq
    rw [Node.ok_iff] at hok
    obtain ⟨h1, h2, h3, h4, h5, h6, h7⟩ := hok
    simp [joinK_eq]
    refine loop_list n.items (fun i (_ : Unit) => ([.int .i64 (Node.depths (n.items.take i) : Int), .int .i64 i], [some [.int .i64 n.kind, .bool n.opq, .vs 1 (n.names.l.map wStr) n.names.r.strip, .vs 7 (n.items.map Node.c) n.ir.strip, .int .i64 n.size, .vs 2 (n.exts.map Ext.c) n.er.strip, .str n.target]])) (fun i _ S' => S' = S) () (by simp [Node.depths]) rfl ?_ ?_
    · rintro i _ S' v b x c hxi hd hc hm rfl hv
      simp at hv
      simp [hv, hc, hxi]
      have hk := Node.depths_take hxi
      have hle := Node.depths_take_le n.items (i + 1)
      refine ih x hm (h4 x hm) (by omega) ?_
      simp
      try simp (disch := omega) only [wrap64]
      by_cases c1 : Node.depths (n.items.take i) < x.depth + 1
      · have c2 : (Node.depths (n.items.take i) : Int) < x.depth + 1 := by omega
        simp [c2]
        try simp (disch := omega) only [wrap64]
        exact .next c () (by rw [hk, Nat.max_eq_right (by omega)]; simp) rfl
      · have c2 : ¬ (Node.depths (n.items.take i) : Int) < x.depth + 1 := by omega
        simp [c2]
        try simp (disch := omega) only [wrap64]
        exact .next c () (by rw [hk, Nat.max_eq_left (by omega)]; simp) rfl
    · rintro _ S' v b rfl hv N
      simp at hv
      simp [hv]
      simpa using hq
theorem tree_zero_A {w0 : World} {n : Node} {S : St} {Q : AV → St → Prop} (hq : Q (.bool (zeroB n)) S) : AC w0 F_tree_zero [.agg n.c] S Q := by
  rw [Node.c_eq]
  apply tree_zero_ok
  unfold G_tree_zero
  have p0 : ∀ {α : Type} {l : List α}, l ≠ [] → 0 < l.length := fun h => List.length_pos_iff.2 h
  have fin : ∀ b : Bool, zeroB n = b → Q (.bool b) S := fun b h => h ▸ hq
  have k12 : n.kind = 2 → n.kind ≠ 1 ∧ n.kind ≠ 3 := fun h => by omega
  have k13 : n.kind = 1 → n.kind ≠ 3 := fun h => by omega
  by_cases k2 : n.kind = 2
  · have k1 := (k12 k2).1
    have k3 := (k12 k2).2
    by_cases s0 : n.size = 0
    · by_cases e0 : n.exts = []
      · simp [k2, s0, e0, joinK_eq]
        exact fin _ (by simp [zeroB, k2, s0, e0])
      · have := p0 e0
        simp [k2, s0, this, joinK_eq]
        exact fin _ (by simp [zeroB, k2, s0, e0])
    · simp [k2, s0, joinK_eq]
      exact fin _ (by simp [zeroB, k2, s0])
  · cases o : n.opq with
    | true =>
      simp [k2, o, joinK_eq]
      exact fin _ (by simp [zeroB, k2, o])
    | false =>
      by_cases a0 : n.names.l = []
      · by_cases i0 : n.items = []
        · by_cases k1 : n.kind = 1
          · have k3 := k13 k1
            simp [k1, o, a0, i0, joinK_eq]
            exact fin _ (by simp [zeroB, k1, o, a0, i0])
          · by_cases s0 : n.size = 0
            · by_cases e0 : n.exts = []
              · by_cases k3 : n.kind = 3
                · simp [k3, o, a0, i0, s0, e0, joinK_eq]
                  exact fin _ (by simp [zeroB, k3, o, a0, i0, s0, e0])
                · simp [k1, k2, k3, o, a0, i0, s0, e0, joinK_eq]
                  exact fin _ (by simp [zeroB, k1, k2, k3, o, a0, i0, s0, e0])
              · have := p0 e0
                simp [k1, k2, o, a0, i0, s0, this, joinK_eq]
                exact fin _ (by simp [zeroB, k1, k2, e0])
            · simp [k1, k2, o, a0, i0, s0, joinK_eq]
              exact fin _ (by simp [zeroB, k1, k2, s0])
        · have := p0 i0
          simp [k2, o, a0, this, joinK_eq]
          exact fin _ (by simp [zeroB, k2, i0])
      · have := p0 a0
        simp [k2, o, this, joinK_eq]
        exact fin _ (by simp [zeroB, k2, a0])
/-- The name ahead of place i. -/
def prevN (l : List Str) (i : Nat) : Option Str := if i = 0 then none else l[i - 1]?
theorem prevN_succ {l : List Str} {i : Nat} {x : Str} (h : l[i]? = some x) : prevN l (i + 1) = some x := by simp [prevN, h]
theorem ref04_entries_A {w0 : World} {n : Node} {S : St} (hok : n.ok) {Q : AV → St → Prop} (hq : Q (.bool (namesB n)) S) : AC w0 F_ref04_entries [.agg n.c] S Q := by
  rw [Node.c_eq]
  apply ref04_entries_ok
  unfold G_ref04_entries
  rw [Node.ok_iff] at hok
  obtain ⟨h1, h2, h3, h4, h5, h6, h7⟩ := hok
  unfold namesB at hq
  by_cases hl : n.names.l.length = n.items.length
  · have hl' : ((n.names.l.length : Int) = (n.items.length : Int)) := by omega
    simp [hl', hl, joinK_eq] at hq ⊢
    have hlen := h2.2.1
    refine loop_list n.names.l (fun i (_ : Unit) => ([.int .i64 i], [some [.int .i64 n.kind, .bool n.opq, .vs 1 (n.names.l.map wStr) n.names.r.strip, .vs 7 (n.items.map Node.c) n.ir.strip, .int .i64 n.size, .vs 2 (n.exts.map Ext.c) n.er.strip, .str n.target]])) (fun i _ S' => S' = S ∧ nchain none n.names.l = nchain (prevN n.names.l i) (n.names.l.drop i)) () rfl (by simp [prevN]) ?_ ?_
    · rintro i _ S' v b x c hxi hd hc hm ⟨rfl, hx⟩ hv
      simp at hv
      simp [hv, hc, hxi, ← hl]
      rw [hd, nchain_cons] at hx
      refine ref01_Right_A (h2.2.2 x hm) ?_
      cases hr : nameR x with
      | false =>
        rw [hx, hr] at hq
        simpa using hq
      | true =>
        rw [hr] at hx
        by_cases hi : i = 0
        · subst hi
          simp [prevN] at hx
          simp
          try simp (disch := omega) only [wrap64]
          exact .next c () rfl ⟨rfl, by rw [prevN_succ hxi]; simpa using hx⟩
        · have hi' : (0 : Int) < i := by omega
          have hi0 : 0 < i := by omega
          obtain ⟨q, hqi⟩ : ∃ q, n.names.l[i - 1]? = some q := ⟨n.names.l[i - 1]'(by omega), by simp [show i - 1 < n.names.l.length by omega]⟩
          have hp : prevN n.names.l i = some q := by simp [prevN, hi, hqi]
          have hi1 : (i : Int) - 1 = ((i - 1 : Nat) : Int) := by omega
          rw [hp] at hx
          simp [hi', hi0]
          try simp (disch := omega) only [wrap64]
          rw [hi1]
          simp [hqi, hxi]
          refine ref01_Less_A (by have := h2.2.2 q (List.mem_of_getElem? hqi); omega) (by have := h2.2.2 x hm; omega) ?_
          cases hs : slt q x with
          | false =>
            rw [hx] at hq
            simp [hs] at hq
            simpa using hq
          | true =>
            simp
            try simp (disch := omega) only [wrap64]
            exact .next c () rfl ⟨rfl, by rw [prevN_succ hxi, hx]; simp [hs]⟩
    · rintro _ S' v b ⟨rfl, hx⟩ hv N
      simp at hv
      simp [hv]
      rw [hx, List.drop_length] at hq
      simpa [nchain, hl] using hq
  · have hl' : ¬ ((n.names.l.length : Int) = (n.items.length : Int)) := by omega
    simp [hl', hl] at hq ⊢
    exact hq
theorem tree_names_A {w0 : World} {n : Node} {S : St} (hok : n.ok) {Q : AV → St → Prop} (hq : Q (.bool (namesB n)) S) : AC w0 F_tree_names [.agg n.c] S Q := by
  rw [Node.c_eq]
  apply tree_names_ok
  unfold G_tree_names
  rw [Node.ok_iff] at hok
  obtain ⟨h1, h2, h3, h4, h5, h6, h7⟩ := hok
  unfold namesB at hq
  simp [joinK_eq]
  have hlen := h2.2.1
  refine loop_list n.names.l (fun i (_ : Unit) => ([.int .i64 i], [some [.int .i64 n.kind, .bool n.opq, .vs 1 (n.names.l.map wStr) n.names.r.strip, .vs 7 (n.items.map Node.c) n.ir.strip, .int .i64 n.size, .vs 2 (n.exts.map Ext.c) n.er.strip, .str n.target]])) (fun i _ S' => S' = S ∧ nchain none n.names.l = nchain (prevN n.names.l i) (n.names.l.drop i)) () rfl (by simp [prevN]) ?_ ?_
  · rintro i _ S' v b x c hxi hd hc hm ⟨rfl, hx⟩ hv
    simp at hv
    simp [hv, hc, hxi]
    rw [hd, nchain_cons] at hx
    refine name_Right_A (by have := h2.2.2 x hm; omega) ?_
    cases hr : nameR x with
    | false =>
      rw [hx, hr] at hq
      simpa using hq
    | true =>
      rw [hr] at hx
      by_cases hi : i = 0
      · subst hi
        simp [prevN] at hx
        simp
        try simp (disch := omega) only [wrap64]
        exact .next c () rfl ⟨rfl, by rw [prevN_succ hxi]; simpa using hx⟩
      · have hi' : (0 : Int) < i := by omega
        have hi0 : 0 < i := by omega
        obtain ⟨q, hqi⟩ : ∃ q, n.names.l[i - 1]? = some q := ⟨n.names.l[i - 1]'(by omega), by simp [show i - 1 < n.names.l.length by omega]⟩
        have hp : prevN n.names.l i = some q := by simp [prevN, hi, hqi]
        have hi1 : (i : Int) - 1 = ((i - 1 : Nat) : Int) := by omega
        rw [hp] at hx
        simp [hi', hi0]
        try simp (disch := omega) only [wrap64]
        rw [hi1]
        simp [hqi, hxi]
        cases hs : slt q x with
        | false =>
          rw [hx] at hq
          simp [hs] at hq
          simpa [slt, hs] using hq
        | true =>
          simp [show Op.bytesLess q x = true from hs]
          try simp (disch := omega) only [wrap64]
          exact .next c () rfl ⟨rfl, by rw [prevN_succ hxi, hx]; simp [hs]⟩
  · rintro _ S' v b ⟨rfl, hx⟩ hv N
    simp at hv
    simp [hv]
    rw [hx, List.drop_length] at hq
    simp [nchain] at hq
    have e : ((n.names.l.length : Int) = (n.items.length : Int)) = (n.names.l.length = n.items.length) := propext (by omega)
    simpa [e] using hq
theorem kinds5 (k : Int) : ((k = 1) = True ∧ (k = 2) = False ∧ (k = 3) = False ∧ (k = 4) = False) ∨ ((k = 1) = False ∧ (k = 2) = True ∧ (k = 3) = False ∧ (k = 4) = False) ∨ ((k = 1) = False ∧ (k = 2) = False ∧ (k = 3) = True ∧ (k = 4) = False) ∨
    ((k = 1) = False ∧ (k = 2) = False ∧ (k = 3) = False ∧ (k = 4) = True) ∨ ((k = 1) = False ∧ (k = 2) = False ∧ (k = 3) = False ∧ (k = 4) = False) := by
  by_cases h1 : k = 1
  · subst h1; simp
  by_cases h2 : k = 2
  · subst h2; simp
  by_cases h3 : k = 3
  · subst h3; simp
  by_cases h4 : k = 4
  · subst h4; simp
  simp [h1, h2, h3, h4]
theorem exts_ok {n : Node} (hok : n.ok) : ExtB n.exts := by
  rw [Node.ok_iff] at hok
  obtain ⟨h1, h2, h3, h4, h5, h6, h7⟩ := hok
  exact ⟨fun x hx => ⟨(h6.2.2 x hx).1, (h6.2.2 x hx).2.1, by have := (h6.2.2 x hx).2.2; omega⟩, by omega⟩
set_option maxRecDepth 100000 in
theorem ref04_One_A {w0 : World} {n : Node} {S : St} (hok : n.ok) {Q : AV → St → Prop} (hq : Q (.bool (oneB n)) S) : AC w0 F_ref04_One [.agg n.c] S Q := by
  have hex := exts_ok hok
  have hen := @ref04_entries_A w0 n S hok
  rw [Node.c_eq] at hen ⊢
  apply ref04_One_ok
  unfold G_ref04_One
  rw [Node.ok_iff] at hok
  obtain ⟨h1, h2, h3, h4, h5, h6, h7⟩ := hok
  have fin : ∀ b : Bool, oneB n = b → Q (.bool b) S := fun b h => h ▸ hq
  have p0 : ∀ {α : Type} {l : List α}, l ≠ [] → ¬ l.length = 0 := fun h e => h (List.length_eq_zero_iff.1 e)
  obtain ⟨bn, hbn⟩ : ∃ bn, bn = (!n.opq && decide (n.names.l.length = 0) && decide (n.items.length = 0)) := ⟨_, rfl⟩
  obtain ⟨be, hbe⟩ : ∃ be, be = (decide (n.size = 0) && decide (n.exts.length = 0)) := ⟨_, rfl⟩
  have hone : oneB n = ((decide (n.kind = 2) || bn) && (decide (n.kind = 1) || be) && (decide (n.kind = 3) || decide (n.target = [])) && kindB n) := by rw [oneB, zeroB, ← hbn, ← hbe]
  have hb : (n.opq = true ∧ bn = false) ∨ (n.opq = false ∧ (n.names.l = []) = False ∧ bn = false) ∨ (n.opq = false ∧ (n.names.l = []) = True ∧ (n.items = []) = False ∧ bn = false) ∨ (n.opq = false ∧ (n.names.l = []) = True ∧ (n.items = []) = True ∧ bn = true) := by
    cases o : n.opq with
    | true => left; exact ⟨rfl, by rw [hbn, o]; rfl⟩
    | false =>
      right
      by_cases a : n.names.l = []
      · right
        by_cases i0 : n.items = []
        · right; exact ⟨rfl, eq_true a, eq_true i0, by rw [hbn, o, a, i0]; rfl⟩
        · left; exact ⟨rfl, eq_true a, eq_false i0, by rw [hbn]; simp [i0]⟩
      · left; exact ⟨rfl, eq_false a, by rw [hbn]; simp [a]⟩
  have he : ((n.size = 0) = False ∧ be = false) ∨ ((n.size = 0) = True ∧ (n.exts = []) = False ∧ be = false) ∨ ((n.size = 0) = True ∧ (n.exts = []) = True ∧ be = true) := by
    by_cases a : n.size = 0
    · right
      by_cases b : n.exts = []
      · right; exact ⟨eq_true a, eq_true b, by rw [hbe, a, b]; rfl⟩
      · left; exact ⟨eq_true a, eq_false b, by rw [hbe]; simp [b]⟩
    · left; exact ⟨eq_false a, by rw [hbe]; simp [a]⟩
  clear hbn hbe
  have go3 : ∀ (P' : AV → St → Prop), (∀ (r2 : AV) (c : Bool), c = (splitP n.target).isSome → P' (.tup [r2, .bool c]) S) → AC w0 F_ref01_Split [.str n.target] S P' := fun P' hP => by
    refine ref01_Split_A h7 ?_
    cases hsp : splitP n.target with
    | none => exact hP _ _ (by rw [hsp]; rfl)
    | some l => exact fun r _ _ => hP _ _ (by rw [hsp]; rfl)
  rcases hb with ⟨o, hbn⟩ | ⟨o, a0, hbn⟩ | ⟨o, a0, i0, hbn⟩ | ⟨o, a0, i0, hbn⟩ <;> rcases he with ⟨s0, hbe⟩ | ⟨s0, e0, hbe⟩ | ⟨s0, e0, hbe⟩
  all_goals (
    rw [hbn, hbe] at hone
    rw [o] at hen
    simp only [joinK_eq]
    (first | simp [o, s0, a0, i0, e0] | simp [o, s0, a0, i0] | simp [o, s0, a0, e0] | simp [o, s0, a0] | simp [o, s0, e0] | simp [o, s0])
    )
  all_goals (
    obtain hk | hk | hk | hk | hk := kinds5 n.kind
    all_goals (
      obtain ⟨q1, q2, q3, q4⟩ := hk
      obtain ⟨ct, tg⟩ : ∃ ct : Prop, (n.target = []) = ct ∧ (ct = True ∨ ct = False) := ⟨_, rfl, by by_cases tg : n.target = []; (left; exact eq_true tg); (right; exact eq_false tg)⟩
      obtain ⟨tg, hct⟩ := tg
      rcases hct with hct | hct
      all_goals (
        rw [hct] at tg
        simp only [q1, q2, q3, q4, tg, decide_true, decide_false, ifK_true, ifK_false]
        first
          | exact fin _ (by simp [hone, kindB, q1, q2, q3, q4, tg])
          | (simp; exact fin _ (by simp [hone, kindB, q1, q2, q3, q4, tg]))
          | (refine go3 _ (fun r2 c hc => ?_)
             simp
             exact fin _ (by simp [hone, kindB, q1, q2, q3, q4, tg]))
          | (refine go3 _ (fun r2 c hc => ?_)
             have kb : kindB n = (c && decide (n.target.length ≤ 256)) := by rw [hc, kindB]; simp only [q1, q2, q3, if_false, if_true]
             cases c with
             | false => simp; exact fin _ (by rw [hone, kb]; simp)
             | true => simp; exact fin _ (by rw [hone, kb]; simp [q1, q2, q3, q4, tg] <;> omega))
          | (simp; refine ref03_Right_A h5 hex ?_; simp; exact fin _ (by simp [hone, kindB, q1, q2, q3, q4, tg]))
          | (simp; refine hen ?_; simp; exact fin _ (by simp [hone, kindB, q1, q2, q3, q4, tg])))))
theorem ref04_all_A {w0 : World} (n : Node) : ∀ {S : St} {Q : AV → St → Prop}, n.ok → Q (.bool n.allB) S → AC w0 F_ref04_all [.agg n.c] S Q := by
  induction n using Node.ind with
  | h n ih =>
    intro S Q hok hq
    have hone := @ref04_One_A w0 n S hok
    rw [Node.c_eq] at hone ⊢
    apply ref04_all_ok
    unfold G_ref04_all
    rw [Node.all_eq] at hq
    rw [Node.ok_iff] at hok
    obtain ⟨h1, h2, h3, h4, h5, h6, h7⟩ := hok
    simp [joinK_eq]
    refine loop_list n.items (fun i (_ : Unit) => ([.int .i64 i], [some [.int .i64 n.kind, .bool n.opq, .vs 1 (n.names.l.map wStr) n.names.r.strip, .vs 7 (n.items.map Node.c) n.ir.strip, .int .i64 n.size, .vs 2 (n.exts.map Ext.c) n.er.strip, .str n.target]])) (fun i _ S' => S' = S ∧ Node.allsB n.items = Node.allsB (n.items.drop i)) () (by simp) (by simp) ?_ ?_
    · rintro i _ S' v b x c hxi hd hc hm ⟨rfl, hx⟩ hv
      simp at hv
      simp [hv, hc, hxi]
      rw [Node.alls_drop hxi] at hx
      refine ih x hm (h4 x hm) ?_
      cases ha : x.allB with
      | false =>
        rw [hx, ha] at hq
        simpa using hq
      | true =>
        rw [ha] at hx
        simp
        try simp (disch := omega) only [wrap64]
        exact .next c () rfl ⟨rfl, by simpa using hx⟩
    · rintro _ S' v b ⟨rfl, hx⟩ hv N
      simp at hv
      simp [hv]
      rw [hx, List.drop_length] at hq
      exact hone (by simpa [Node.allsB] using hq)
theorem ref04_Right_A {w0 : World} {n : Node} {S : St} (hok : n.ok) (hc : n.count ≤ 1000000000000) (hd : n.depth ≤ 1000000000000) {Q : AV → St → Prop} (hq : Q (.bool (rightB n)) S) : AC w0 F_ref04_Right [.agg n.c] S Q := by
  have h1 := @ref04_all_A w0 n S
  have h2 := @ref04_Count_A w0 n S
  have h3 := @ref04_Depth_A w0 n S
  rw [Node.c_eq] at h1 h2 h3 ⊢
  apply ref04_Right_ok
  unfold G_ref04_Right
  unfold rightB at hq
  by_cases k : n.kind = 2
  · have k' : (n.kind = 2) = True := eq_true k
    simp only [k', decide_true, Bool.true_and] at hq
    simp [k', joinK_eq]
    refine h1 hok ?_
    cases ha : n.allB with
    | false =>
      rw [ha] at hq
      simpa using hq
    | true =>
      rw [ha] at hq
      simp
      refine h2 hok hc ?_
      simp
      by_cases hcc : n.count ≤ 4096
      · have hcc' : (n.count : Int) ≤ 4096 := by omega
        simp [hcc', hcc] at hq ⊢
        refine h3 hok hd ?_
        have e : ((n.depth : Int) ≤ 15) = (n.depth ≤ 15) := propext (by omega)
        simpa [e] using hq
      · have hcc' : ¬ (n.count : Int) ≤ 4096 := by omega
        simp [hcc', hcc] at hq ⊢
        exact hq
  · have k' : (n.kind = 2) = False := eq_false k
    simp only [k', decide_false, Bool.false_and] at hq
    simp [k', joinK_eq]
    exact hq
end Go.Av
