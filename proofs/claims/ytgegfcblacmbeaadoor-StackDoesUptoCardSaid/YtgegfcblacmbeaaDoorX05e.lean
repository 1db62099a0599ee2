/- Parts of the proofs of this seat: abstract values over the model, and what the functions of the program do. No condition. -/
import Derived.Test.YtgegfcblacmbeaaDoorY05d
set_option linter.all false
set_option linter.unusedVariables false
/-! Images: decoded. -/
namespace Go.Av
open Go.Proofs
theorem image_Decode_A {w0 : World} (hm : MaxL w0) {S : St} {s : Str} (hs : s.length ≤ 1048575) {Q : AV → St → Prop}
    (hq : ∀ S', Sx S S' → (∀ n, decS s = some n → n.ok → Q (.tup [.agg n.c, .int .i64 0]) S') ∧ (decS s = none → Q (.tup [.agg Node.none.c, .int .i64 1]) S')) : AC w0 F_image_Decode [.str s] S Q := by
  apply image_Decode_ok
  unfold G_image_Decode
  have hn0 : decS s = none → Q (.tup [.agg [.int .i64 0, .bool false, .vs 1 [] .nil, .vs 7 [] .nil, .int .i64 0, .vs 2 [] .nil, .str []], .int .i64 1]) S := fun h => by
    have := (hq S (Sx.refl _)).2 h
    rwa [Node.none_c] at this
  by_cases c1 : s.length < 7
  · have : decS s = none := by simp [decS, c1]
    simp [joinK_eq, show ¬ (4194304 < (s.length : Int)) by omega, show (s.length : Int) < 7 by omega]
    exact hn0 this
  by_cases c2 : s.take 7 = [115, 111, 99, 97, 103, 101, 49]
  case neg =>
    have : decS s = none := by simp [decS, c2]
    simp [joinK_eq, show ¬ (4194304 < (s.length : Int)) by omega, show ¬ (s.length : Int) < 7 by omega, show 7 ≤ s.length by omega, c2]
    exact hn0 this
  simp [joinK_eq, show ¬ (4194304 < (s.length : Int)) by omega, show ¬ (s.length : Int) < 7 by omega, show 7 ≤ s.length by omega, c2]
  apply wire_Read_ok
  unfold G_wire_Read
  simp
  have hR : RdO (S ++ [Obj.cells [.str (s.drop 7)] t_wire_Reader, Obj.cells [.ptr S.length 0, .bool false, .int .i64 4096] t_image_reader]) (S.length + 1) S.length ⟨s.drop 7, false, 4096⟩ := ⟨by simp, by simp [rdC]⟩
  have hl : (s.drop 7).length ≤ 1048568 := by simp; omega
  have hI := RS.node_ok 16 ⟨s.drop 7, false, 4096⟩ hl (by simp)
  refine image_node_A 16 (b := S.length) (d := 0) (by omega) (by simp) hR (by omega) (by omega) hl (by simp) (by simp) (fun S2 hR2 hK2 => ?_)
  have hd : decS s = if (RS.node 16 ⟨s.drop 7, false, 4096⟩).2.bad = false ∧ (RS.node 16 ⟨s.drop 7, false, 4096⟩).2.s = [] ∧ rightB (RS.node 16 ⟨s.drop 7, false, 4096⟩).1 = true then some (RS.node 16 ⟨s.drop 7, false, 4096⟩).1 else none := by
    rw [decS, if_neg (by simp [c1, c2]; omega)]
  generalize RS.node 16 ⟨s.drop 7, false, 4096⟩ = r at hR2 hd hI ⊢
  have hSx : Sx S S2 := fun j hj => by
    rw [hK2 j hj, List.getElem?_append_left hj]
  have hno : ∀ S3, Sx S S3 → decS s = none → Q (.tup [.agg [.int .i64 0, .bool false, .vs 1 [] .nil, .vs 7 [] .nil, .int .i64 0, .vs 2 [] .nil, .str []], .int .i64 1]) S3 := fun S3 h3 h => by
    have := (hq S3 h3).2 h
    rwa [Node.none_c] at this
  simp [loadA_ptr hR2.1]
  cases hb : r.2.bad with
  | true =>
    simp
    exact hno S2 hSx (by rw [hd, hb]; simp)
  | false =>
    simp
    have hR3 : S2[S.length]? = some (.cells [.str r.2.s] t_wire_Reader) := hR2.2
    apply wire_Reader_Left_ok
    unfold G_wire_Reader_Left
    simp [loadA_ptr hR3]
    by_cases c3 : r.2.s = []
    case neg =>
      have := List.length_pos_iff.2 c3
      simp [show (0 : Int) < r.2.s.length by omega, this]
      exact hno S2 hSx (by rw [hd]; simp [c3])
    simp [c3]
    refine tree_Right_A hm hI.ok (fun S3 hS3 => ?_)
    cases hr : rightB r.1 with
    | false =>
      simp
      exact hno S3 (hSx.trans hS3) (by rw [hd]; simp [hr])
    | true =>
      simp
      exact (hq S3 (hSx.trans hS3)).1 r.1 (by rw [hd, hb]; simp [hr, c3]) hI.ok
theorem ref02_Get_A {w0 : World} {S : St} {s : Str} (hs : s.length ≤ 4) {Q : AV → St → Prop} (hq : Q (.int .i64 (val s : Int)) S) : AC w0 F_ref02_Get [.str s] S Q := by
  apply ref02_Get_ok
  unfold G_ref02_Get
  simp [joinK_eq]
  refine loop_list s (fun i (_ : Unit) => ([.int .i64 (val (s.take i) : Nat), .int .i64 i], [])) (fun i _ S' => S' = S) () (by simp [val]) rfl ?_ ?_
  · rintro i _ S' v b x c hxi hd hc hm rfl hv
    simp at hv
    have hlt := val_lt (s.take i)
    have h4 : 256 ^ (s.take i).length ≤ 256 ^ 3 := Nat.pow_le_pow_right (by omega) (by rw [List.length_take]; omega)
    have h5 : (256 : Nat) ^ 3 = 16777216 := rfl
    have hx256 : x.toNat < 256 := x.toNat_lt
    simp [hv, hc, hxi]
    try simp (disch := omega) only [wrap64]
    try simp
    try simp (disch := omega) only [wrap64]
    exact .next c () (by rw [val_take hxi]; simp) rfl
  · rintro _ S' v b rfl hv N
    simp at hv
    simp [hv]
    exact hq
def numV (z : Str) (a k : Nat) : Int := match takeN k (z.drop a) with | some p => (p.1 : Int) | none => -1
theorem ref05_number_A {w0 : World} {S : St} {s : Str} {a k : Nat} {ai : Int} (ha : ai = a) (hk : 1 ≤ k ∧ k ≤ 4) (hl : a ≤ 1000000000) {Q : AV → St → Prop} (hq : Q (.int .i64 (numV s a k)) S) : AC w0 F_ref05_number [.str s, .int .i64 ai, .int .i64 k] S Q := by
  subst ha
  apply ref05_number_ok
  unfold G_ref05_number
  try simp (disch := omega) only [wrap64]
  simp [joinK_eq, show ¬ ((a : Int) < 0) by omega]
  unfold numV takeN at hq
  by_cases c : (s.drop a).length < k
  · rw [if_pos c] at hq
    simp at c
    simp [show ((s.length : Int) < (a : Int) + k) by omega]
    exact hq
  · rw [if_neg c] at hq
    simp at c
    simp [show ¬ ((s.length : Int) < (a : Int) + k) by omega]
    rw [cutStr_int _ _ _ _ _ (by omega) (by omega) (by omega)]
    simp
    have e : (s.take (a + k)).drop a = (s.drop a).take k := by rw [List.drop_take]; congr 1; omega
    have e0 : (((a : Int) + k).toNat) = a + k := by omega
    rw [e0, e]
    refine ref02_Get_A (by simp; omega) ?_
    exact hq
def gotC (o : Option (Node × Str)) (len : Nat) : List AV := match o with | some p => p.1.c ++ [.int .i64 ((len : Int) - p.2.length)] | none => Node.none.c ++ [.int .i64 (-1)]
theorem gotC_none (len : Nat) : gotC none len = [.int .i64 0, .bool false, .vs 1 [] .nil, .vs 7 [] .nil, .int .i64 0, .vs 2 [] .nil, .str [], .int .i64 (-1)] := by simp [gotC, Node.none_c]
theorem takeN_at {z : Str} {a k : Nat} (hk : 1 ≤ k) : takeN k (z.drop a) = if z.length < a + k then none else some (val ((z.drop a).take k), z.drop (a + k)) := by
  unfold takeN
  by_cases c : z.length < a + k
  · rw [if_pos c, if_pos (by simp; omega)]
  · rw [if_neg c, if_neg (by simp; omega), List.drop_drop]
theorem numV_none {z : Str} {a k : Nat} (hk : 1 ≤ k) (h : z.length < a + k) : numV z a k = -1 := by unfold numV; rw [takeN_at hk, if_pos h]
theorem numV_some {z : Str} {a k : Nat} (hk : 1 ≤ k) (h : ¬ z.length < a + k) : numV z a k = val ((z.drop a).take k) := by unfold numV; rw [takeN_at hk, if_neg h]
theorem takeT_at {z : Str} {a k : Nat} (hk : 1 ≤ k) : takeT k (z.drop a) = if z.length < a + k then none else if z.length < a + k + val ((z.drop a).take k) then none else some ((z.drop (a + k)).take (val ((z.drop a).take k)), z.drop (a + k + val ((z.drop a).take k))) := by
  unfold takeT
  rw [takeN_at hk]
  by_cases c : z.length < a + k
  · rw [if_pos c, if_pos c]; rfl
  · rw [if_neg c, if_neg c, Option.bind_some]
    simp only
    by_cases c2 : z.length < a + k + val ((z.drop a).take k)
    · rw [if_pos c2, if_pos (by simp; omega)]
    · rw [if_neg c2, if_neg (by simp; omega), List.drop_drop]
theorem val_bnd {z : Str} {k a : Nat} (h : k ≤ 4) : val ((z.drop a).take k) < 4294967296 := by
  have h1 := val_lt ((z.drop a).take k)
  have h2 : 256 ^ ((z.drop a).take k).length ≤ 256 ^ 4 := Nat.pow_le_pow_right (by omega) (by rw [List.length_take]; omega)
  rw [p4] at h2
  omega
theorem getP_sfx {f : Nat} {z r : Str} {n : Node} {a : Nat} (h : getP f (z.drop a) = some (n, r)) : r.length ≤ (z.drop a).length ∧ r = z.drop (a + ((z.drop a).length - r.length)) := by
  have := getP_of _ _ _ _ h
  have hl := congrArg List.length this
  rw [List.length_append] at hl
  refine ⟨by omega, ?_⟩
  rw [← List.drop_drop, hl, Nat.add_sub_cancel]
  conv => rhs; rw [this]
  rw [List.drop_left]
theorem cut_at {z : Str} {a n : Nat} {x y : Int} (hx : x = a) (hy : y = (a + n : Nat)) (h : a + n ≤ z.length) : cutStrA (.str z) (some (.int .i64 x)) (some (.int .i64 y)) = some (.str ((z.drop a).take n)) := by
  subst hx hy
  rw [cutStr_int _ _ _ _ _ (by omega) (by omega) (by omega)]
  simp only [Int.toNat_natCast]
  rw [List.drop_take, Nat.add_sub_cancel_left]
set_option maxRecDepth 100000 in
theorem ref05_get_A {w0 : World} : ∀ (f : Nat) {S : St} {Q : AV → St → Prop} {s : Str} {d : Int}, f ≤ 16 → d = 16 - (f : Int) → s.length ≤ 1048576 → Q (.agg (gotC (getP f s) s.length)) S → AC w0 F_ref05_get [.str s, .int .i64 d] S Q := by
  intro f
  induction f with
  | zero =>
    intro S Q s d hf hd hl hq
    apply ref05_get_ok
    unfold G_ref05_get
    rw [getP, gotC_none] at hq
    simp [joinK_eq, show (15 : Int) < d by omega]
    exact hq
  | succ f ih =>
    intro S Q s d hf hd hl hq
    apply ref05_get_ok
    unfold G_ref05_get
    have hd' : ¬ (15 : Int) < d := by omega
    cases s with
    | nil =>
      rw [getP, show takeN 1 ([] : Str) = none from rfl, Option.bind_none, gotC_none] at hq
      simp [joinK_eq, hd']
      exact hq
    | cons x s =>
    have hT : takeN 1 (x :: s) = some (x.toNat, s) := by simp [takeN, val]
    rw [getP, hT, Option.bind_some] at hq
    simp only at hq
    have hx256 : x.toNat < 256 := x.toNat_lt
    have e0 : IntKind.i64.wrap ((x.toNat : Nat) : Int) = ((x.toNat : Nat) : Int) := wrap64 (by omega) (by omega)
    have hsl : ¬ (((x :: s).length : Int) < 1) := by simp; omega
    simp only [hd', hsl, decide_false]
    rw [joinK_eq]
    simp [e0]
    refine joinK_gen (fun j => ∀ (at_ : Int) (y : Option (List AV)) (k : Int) (o : Bool) (ns : List Str) (nr : Rt) (its : List Node) (ir : Rt) (sz : Int) (es : List Ext) (er : Rt) (t : Str) (r : Str), okA nr ns → okA ir its → okA er es → at_ = (x :: s).length - r.length → (∃ zs, y = some zs ∧ zs.length = 8) →
      Q (.agg (gotC (some (Node.mk k o ⟨ns, cr ns⟩ its (cr its) sz es (cr es) t, r)) (x :: s).length)) S → j (.int .i64 at_) y (some (ndC k o ns nr its ir sz es er t)) S) ?_ (fun j hj => ?_)
    · rintro at_ y k o ns nr its ir sz es er t r g1 g2 g3 rfl ⟨zs, rfl, hz⟩ hQ
      simp only [gotC] at hQ
      rw [Node.c_eq'] at hQ
      simp at hQ
      have hzd : zs.drop 8 = [] := by simp; omega
      simp [ndC, hz, hzd]
      rw [g1.cr, g2.cr, g3.cr]
      have e1 : ∀ {α : Type} (l : List α), (cr l).strip = cr l := fun l => (cr_ok l).2.2
      rw [e1, e1, e1] at hQ
      exact hQ
    generalize hz : x :: s = z at hj hq hl ⊢
    have hzs : s = z.drop 1 := by rw [← hz]; rfl
    have hz1 : 1 ≤ z.length := by rw [← hz]; simp
    clear hz hT hsl
    subst hzs
    have e1 : ((x.toNat : Int) = 1) = (x.toNat = 1) := propext (by omega)
    have e2 : ((x.toNat : Int) = 2) = (x.toNat = 2) := propext (by omega)
    have e3 : ((x.toNat : Int) = 3) = (x.toNat = 3) := propext (by omega)
    have e4 : ((x.toNat : Int) = 4) = (x.toNat = 4) := propext (by omega)
    by_cases c1 : x.toNat = 1
    · rw [if_pos c1, takeN_at (by omega)] at hq
      simp [c1]
      refine ref05_number_A (a := 1) rfl (k := 4) (by omega) (by omega) ?_
      simp
      refine ref05_number_A (a := 5) rfl (k := 4) (by omega) (by omega) ?_
      by_cases d1 : z.length < 5 + 4
      · rw [numV_none (a := 5) (by omega) d1]
        have : Q (.agg (gotC none z.length)) S := by
          by_cases d2 : z.length < 1 + 4
          · rw [if_pos d2] at hq; exact hq
          · rw [if_neg d2, Option.bind_some] at hq
            simp only at hq
            rw [takeN_at (by omega), if_pos (by omega)] at hq
            exact hq
        rw [gotC_none] at this
        simp
        exact this
      rw [numV_some (a := 5) (by omega) d1, numV_some (a := 1) (by omega) (by omega)]
      rw [if_neg (by omega), Option.bind_some] at hq
      simp only at hq
      rw [show 1 + 4 = 5 from rfl, takeN_at (by omega), if_neg d1, Option.bind_some] at hq
      simp only at hq
      have hvb := val_bnd (z := z) (k := 4) (a := 5) (by omega)
      have hva := val_bnd (z := z) (k := 4) (a := 1) (by omega)
      generalize val ((z.drop 5).take 4) = c at hq hvb ⊢
      generalize val ((z.drop 1).take 4) = b at hq hva ⊢
      simp [show ¬ ((c : Int) < 0) by omega]
      refine loopQ_by (fun p : Nat × Nat × List Ext × Rt => ([.str z, .int .i64 (p.1 : Nat), .int .i64 (p.2.1 : Nat)], [some [.int .i64 0, .bool false, .vs 1 [] .nil, .vs 7 [] .nil, .int .i64 0, .vs 2 [] .nil, .str [], .int .i64 0], some [.int .i64 0, .bool false, .vs 1 [] .nil, .vs 7 [] .nil, .int .i64 0, .vs 2 [] .nil, .str [], .int .i64 (-1)], some (ndC 1 false [] .nil [] .nil b p.2.2.1 p.2.2.2 [])]))
        (fun m p S' => m = c - p.2.1 ∧ p.2.1 ≤ c ∧ S' = S ∧ p.1 ≤ z.length ∧ okA p.2.2.2 p.2.2.1 ∧ p.2.2.1.length ≤ p.2.1 ∧ getX c (z.drop 9) = (getX (c - p.2.1) (z.drop p.1)).bind fun e => some (p.2.2.1 ++ e.1, e.2)) c (9, 0, [], .nil) rfl ⟨rfl, by simp, rfl, by simp; omega, .inl ⟨rfl, rfl⟩, by simp, by simp; cases getX c (z.drop 9) <;> simp⟩ ?_
      rintro m ⟨a, i, l, r⟩ S' v bx ⟨rfl, hi, rfl, ha, hr, hli, he⟩ hv
      simp at hv hi ha hr hli he
      obtain ⟨hv1, hv2⟩ := hv
      simp only [ndC] at hv2
      simp [hv1, hv2]
      by_cases c3 : i < c
      case neg =>
        have : i = c := by omega
        subst this
        simp
        rw [Nat.sub_self, getX, Option.bind_some] at he
        simp at he
        rw [he, Option.bind_some] at hq
        have := hj (a : Int) (some [.int .i64 0, .bool false, .vs 1 [] .nil, .vs 7 [] .nil, .int .i64 0, .vs 2 [] .nil, .str [], .int .i64 0]) 1 false [] .nil [] .nil b l r [] (z.drop a) (.inl ⟨rfl, rfl⟩) (.inl ⟨rfl, rfl⟩) hr (by simp; omega) ⟨_, rfl, rfl⟩ hq
        simpa [ndC] using this
      simp [c3]
      refine ref05_number_A (a := a) rfl (k := 4) (by omega) (by omega) ?_
      simp
      try simp (disch := omega) only [wrap64]
      refine ref05_number_A (a := a + 4) (by omega) (k := 4) (by omega) (by omega) ?_
      simp
      obtain ⟨q, hq2⟩ : ∃ q, c - i = q + 1 := ⟨c - i - 1, by omega⟩
      rw [hq2, getX, takeN_at (by omega)] at he
      have hnone : getX c (z.drop 9) = none → Q (.agg [.int .i64 0, .bool false, .vs 1 [] .nil, .vs 7 [] .nil, .int .i64 0, .vs 2 [] .nil, .str [], .int .i64 (-1)]) S' := fun e => by
        rw [e, Option.bind_none, gotC_none] at hq
        exact hq
      by_cases d2 : z.length < a + 4 + 4
      · have := hnone (by
          by_cases d3 : z.length < a + 4
          · rw [if_pos d3] at he; exact he
          · rw [if_neg d3, Option.bind_some] at he
            simp only at he
            rw [takeT_at (by omega), if_pos d2] at he
            exact he)
        rw [numV_none (a := a + 4) (by omega) d2]
        simp [joinK_eq]
        exact this
      rw [if_neg (by omega), Option.bind_some] at he
      simp only at he
      rw [takeT_at (by omega), if_neg d2] at he
      rw [numV_some (a := a + 4) (by omega) d2, numV_some (a := a) (by omega) (by omega)]
      have hvo := val_bnd (z := z) (k := 4) (a := a) (by omega)
      have hvs := val_bnd (z := z) (k := 4) (a := a + 4) (by omega)
      generalize val ((z.drop (a + 4)).take 4) = sz at he hvs ⊢
      generalize val ((z.drop a).take 4) = off at he hvo ⊢
      simp [show ¬ ((sz : Int) < 0) by omega]
      try simp (disch := omega) only [wrap64]
      by_cases d4 : z.length < a + 4 + 4 + sz
      · have := hnone (by rw [if_pos d4] at he; exact he)
        simp [joinK_eq, show ((z.length : Int) < (a : Int) + 8 + sz) by omega]
        exact this
      rw [if_neg d4, Option.bind_some] at he
      simp only at he
      simp [joinK_eq, show ¬ ((z.length : Int) < (a : Int) + 8 + sz) by omega]
      have hcut := cut_at (z := z) (a := a + 8) (n := sz) (x := (a : Int) + 8) (y := (a : Int) + 8 + sz) (by omega) (by omega) (by omega)
      simp only [hcut]
      obtain ⟨n1, n2⟩ := hr.ne
      have hlim : l.length + 1 ≤ lim := by unfold lim; omega
      simp [appendA, elemsA, n1, hlim]
      try simp (disch := omega) only [wrap64]
      refine ⟨_, (a + 8 + sz, i + 1, l ++ [⟨off, (z.drop (a + 8)).take sz⟩], .own (rowTy T_api_Extent r)), by show c - (i + 1) < c - i; omega, by simp [ndC], rfl, by show i + 1 ≤ c; omega, rfl, by show a + 8 + sz ≤ z.length; omega, .app, by simp; omega, ?_⟩
      rw [he]
      simp only
      have e5 : c - (i + 1) = q := by omega
      rw [e5, show a + 4 + 4 = a + 8 from rfl]
      cases getX q (z.drop (a + 8 + sz)) with
      | none => rfl
      | some p => simp
    rw [if_neg c1] at hq
    by_cases c2 : x.toNat = 2
    · rw [if_pos c2, takeN_at (by omega)] at hq
      simp [c2]
      refine ref05_number_A (a := 2) rfl (k := 2) (by omega) (by omega) ?_
      have hnone0 : gotC none z.length = _ := gotC_none _
      by_cases d1 : z.length < 2 + 2
      · rw [numV_none (by omega) d1]
        have : Q (.agg (gotC none z.length)) S := by
          by_cases d2 : z.length < 1 + 1
          · rw [if_pos d2] at hq; exact hq
          · rw [if_neg d2, Option.bind_some] at hq
            simp only at hq
            rw [takeN_at (by omega), if_pos (by omega)] at hq
            exact hq
        rw [gotC_none] at this
        simp [joinK_eq]
        exact this
      rw [numV_some (by omega) d1]
      rw [if_neg (by omega), Option.bind_some] at hq
      simp only at hq
      rw [show 1 + 1 = 2 from rfl, takeN_at (by omega), if_neg d1, Option.bind_some] at hq
      simp only at hq
      have hvb : val ((z.drop 2).take 2) < 65536 := by
        have h1 := val_lt ((z.drop 2).take 2)
        have h2 : 256 ^ ((z.drop 2).take 2).length ≤ 256 ^ 2 := Nat.pow_le_pow_right (by omega) (by rw [List.length_take]; omega)
        rw [p2] at h2
        omega
      generalize val ((z.drop 2).take 2) = c at hq hvb ⊢
      obtain ⟨w, hw⟩ : ∃ w, z[1]? = some w := ⟨z[1]'(by omega), by simp [show 1 < z.length by omega]⟩
      have gw : z[1]'(by omega) = w := (List.getElem?_eq_some_iff.1 hw).2
      have hwv : val ((z.drop 1).take 1) = w.toNat := by
        have : (z.drop 1).take 1 = [w] := by
          rw [List.drop_eq_getElem_cons (by omega), gw]; simp
        rw [this]; simp [val]
      rw [hwv] at hq
      have hw256 : w.toNat < 256 := w.toNat_lt
      simp [joinK_eq, show ¬ ((c : Int) < 0) by omega, show 1 < z.length by omega, gw]
      by_cases d5 : 1 < w.toNat
      · rw [if_pos d5, gotC_none] at hq
        simp [show (1 : Int) < w.toNat by omega]
        exact hq
      rw [if_neg d5] at hq
      have ew : ((w.toNat : Int) = 1) = (w.toNat = 1) := propext (by omega)
      simp [show ¬ (1 : Int) < w.toNat by omega, ew]
      refine loopQ_by (fun p : Nat × Nat × (List Str × List Node) × Rt × Rt => ([.str z, .int .i64 (p.1 : Nat), .int .i64 (p.2.1 : Nat)], [some [.int .i64 0, .bool false, .vs 1 [] .nil, .vs 7 [] .nil, .int .i64 0, .vs 2 [] .nil, .str [], .int .i64 0], some [.int .i64 0, .bool false, .vs 1 [] .nil, .vs 7 [] .nil, .int .i64 0, .vs 2 [] .nil, .str [], .int .i64 (-1)], some (ndC 2 (decide (w.toNat = 1)) p.2.2.1.1 p.2.2.2.1 p.2.2.1.2 p.2.2.2.2 0 [] .nil [])]))
        (fun m p S' => m = c - p.2.1 ∧ p.2.1 ≤ c ∧ S' = S ∧ p.1 ≤ z.length ∧ okA p.2.2.2.1 p.2.2.1.1 ∧ okA p.2.2.2.2 p.2.2.1.2 ∧ p.2.2.1.1.length ≤ p.2.1 ∧ p.2.2.1.2.length ≤ p.2.1 ∧ getI (getP f) c (z.drop 4) = (getI (getP f) (c - p.2.1) (z.drop p.1)).bind fun e => some (p.2.2.1.1 ++ e.1, p.2.2.1.2 ++ e.2.1, e.2.2)) c (4, 0, ([], []), .nil, .nil) rfl ⟨rfl, by simp, rfl, by simp; omega, .inl ⟨rfl, rfl⟩, .inl ⟨rfl, rfl⟩, by simp, by simp, by simp; cases getI (getP f) c (z.drop 4) <;> simp⟩ ?_
      rintro m ⟨a, i, ⟨ns, its⟩, r1, r2⟩ S' v bx ⟨rfl, hi, rfl, ha, hr1, hr2, hli, hli2, he⟩ hv
      simp at hv hi ha hr1 hr2 hli hli2 he
      obtain ⟨hv1, hv2⟩ := hv
      simp only [ndC] at hv2
      simp [hv1, hv2]
      by_cases c3 : i < c
      case neg =>
        have : i = c := by omega
        subst this
        simp
        rw [Nat.sub_self, getI, Option.bind_some] at he
        simp at he
        rw [show 2 + 2 = 4 from rfl, he, Option.bind_some] at hq
        have := hj (a : Int) (some [.int .i64 0, .bool false, .vs 1 [] .nil, .vs 7 [] .nil, .int .i64 0, .vs 2 [] .nil, .str [], .int .i64 0]) 2 (decide (w.toNat = 1)) ns r1 its r2 0 [] .nil [] (z.drop a) hr1 hr2 (.inl ⟨rfl, rfl⟩) (by simp; omega) ⟨_, rfl, rfl⟩ hq
        simpa [ndC] using this
      simp [c3]
      refine ref05_number_A (a := a) rfl (k := 1) (by omega) (by omega) ?_
      obtain ⟨q, hq2⟩ : ∃ q, c - i = q + 1 := ⟨c - i - 1, by omega⟩
      rw [hq2, getI, takeT_at (by omega)] at he
      have hnone : getI (getP f) c (z.drop 4) = none → Q (.agg [.int .i64 0, .bool false, .vs 1 [] .nil, .vs 7 [] .nil, .int .i64 0, .vs 2 [] .nil, .str [], .int .i64 (-1)]) S' := fun e => by
        rw [show 2 + 2 = 4 from rfl, e, Option.bind_none, gotC_none] at hq
        exact hq
      by_cases d2 : z.length < a + 1
      · have := hnone (by rw [if_pos d2] at he; exact he)
        rw [numV_none (by omega) d2]
        simp
        exact this
      rw [if_neg d2] at he
      rw [numV_some (by omega) d2]
      have hvs : val ((z.drop a).take 1) < 256 := by
        have h1 := val_lt ((z.drop a).take 1)
        have h2 : 256 ^ ((z.drop a).take 1).length ≤ 256 ^ 1 := Nat.pow_le_pow_right (by omega) (by rw [List.length_take]; omega)
        rw [p1] at h2
        omega
      generalize val ((z.drop a).take 1) = sz at he hvs ⊢
      simp [show ¬ ((sz : Int) < 0) by omega]
      try simp (disch := omega) only [wrap64]
      by_cases d4 : z.length < a + 1 + sz
      · have := hnone (by rw [if_pos d4] at he; exact he)
        simp [show ((z.length : Int) < (a : Int) + 1 + sz) by omega]
        exact this
      rw [if_neg d4, Option.bind_some] at he
      simp only at he
      simp [show ¬ ((z.length : Int) < (a : Int) + 1 + sz) by omega]
      have hcut := cut_at (z := z) (a := a + 1) (n := sz) (x := (a : Int) + 1) (y := (a : Int) + 1 + sz) (by omega) (by omega) (by omega)
      simp only [hcut]
      obtain ⟨n1, n2⟩ := hr1.ne
      obtain ⟨n3, n4⟩ := hr2.ne
      have hlim : ns.length + 1 ≤ lim := by unfold lim; omega
      have hlim2 : its.length + 1 ≤ lim := by unfold lim; omega
      simp [appendA, elemsA, n1, hlim]
      have hcast : (a : Int) + 1 + sz = ((a + 1 + sz : Nat) : Int) := by omega
      rw [hcast, cutStr_l, if_pos (by omega)]
      simp
      try simp (disch := omega) only [wrap64]
      refine ih (by omega) (by omega) (by simp; omega) ?_
      cases hg : getP f (z.drop (a + 1 + sz)) with
      | none =>
        rw [hg, Option.bind_none] at he
        have := hnone he
        rw [gotC_none]
        simp
        exact this
      | some pr =>
        obtain ⟨y, rr⟩ := pr
        rw [hg, Option.bind_some] at he
        simp only at he
        obtain ⟨g1, g2⟩ := getP_sfx hg
        simp at g1 g2
        obtain ⟨L, hL⟩ : ∃ L, L = z.length - (a + 1 + sz) - rr.length := ⟨_, rfl⟩
        have hgc : gotC (some (y, rr)) (z.drop (a + 1 + sz)).length = y.c ++ [.int .i64 (L : Int)] := by
          simp only [gotC]
          congr 3
          simp; omega
        have q1 : (y.c ++ [AV.int .i64 (L : Int)]).length = 8 := by simp
        have q2 : (y.c ++ [AV.int .i64 (L : Int)])[7]? = some (.int .i64 (L : Int)) := by
          rw [List.getElem?_append_right (by simp)]; simp
        have q3 : (y.c ++ [AV.int .i64 (L : Int)]).take 7 = y.c := by
          rw [List.take_append_of_le_length (by simp)]; simp
        have q4 : (AV.agg (y.c ++ [AV.int .i64 (L : Int)])).free = true := by
          rw [Node.c_eq]; simp
        rw [hgc]
        generalize y.c ++ [AV.int .i64 (L : Int)] = G at q1 q2 q3 q4 ⊢
        have q5 : G[7]'(by omega) = .int .i64 (L : Int) := (List.getElem?_eq_some_iff.1 q2).2
        have q6 : (∀ x, x ∈ G → x.free1 = true) = True := eq_true (by simpa using q4)
        have q7 : G.drop 8 = [] := by simp; omega
        simp [q1, q3, q5, q6, q7, n3, hlim2, show ¬ ((L : Int) < 0) by omega]
        try simp (disch := omega) only [wrap64]
        refine ⟨_, (a + 1 + sz + L, i + 1, (ns ++ [(z.drop (a + 1)).take sz], its ++ [y]), .own (rowTy T_string r1), .own (rowTy T_api_Node r2)), by show c - (i + 1) < c - i; omega, by simp [ndC], rfl, by show i + 1 ≤ c; omega, rfl, by show a + 1 + sz + L ≤ z.length; omega, .app, .app, by simp; omega, by simp; omega, ?_⟩
        rw [he]
        simp only
        have e5 : c - (i + 1) = q := by omega
        rw [e5]
        have e6 : rr = z.drop (a + 1 + sz + L) := by rw [hL]; exact g2
        rw [← e6]
        cases getI (getP f) q rr with
        | none => rfl
        | some p => simp
    rw [if_neg c2] at hq
    by_cases c3 : x.toNat = 3
    · rw [if_pos c3, takeT_at (by omega)] at hq
      simp [c3]
      refine ref05_number_A (a := 1) rfl (k := 2) (by omega) (by omega) ?_
      by_cases d1 : z.length < 1 + 2
      · rw [if_pos d1, Option.bind_none, gotC_none] at hq
        rw [numV_none (by omega) d1]
        simp [joinK_eq]
        exact hq
      rw [if_neg d1] at hq
      rw [numV_some (by omega) d1]
      have hvb := val_bnd (z := z) (k := 2) (a := 1) (by omega)
      generalize val ((z.drop 1).take 2) = sz at hq hvb ⊢
      simp [joinK_eq, show ¬ ((sz : Int) < 0) by omega]
      try simp (disch := omega) only [wrap64]
      by_cases d4 : z.length < 1 + 2 + sz
      · rw [if_pos d4, Option.bind_none, gotC_none] at hq
        simp [show (((z.length - 1 : Nat) : Int) + 1 < (3 : Int) + sz) by omega]
        exact hq
      rw [if_neg d4, Option.bind_some] at hq
      simp only at hq
      have hcut := cut_at (z := z) (a := 3) (n := sz) (x := 3) (y := (3 : Int) + sz) (by omega) (by omega) (by omega)
      simp [show ¬ (((z.length - 1 : Nat) : Int) + 1 < (3 : Int) + sz) by omega, hcut]
      have := hj ((3 : Int) + sz) (some [.int .i64 0, .bool false, .vs 1 [] .nil, .vs 7 [] .nil, .int .i64 0, .vs 2 [] .nil, .str [], .int .i64 0]) 3 false [] .nil [] .nil 0 [] .nil ((z.drop 3).take sz) (z.drop (3 + sz)) (.inl ⟨rfl, rfl⟩) (.inl ⟨rfl, rfl⟩) (.inl ⟨rfl, rfl⟩) (by simp; omega) ⟨_, rfl, rfl⟩ hq
      simpa [ndC] using this
    rw [if_neg c3] at hq
    by_cases c4 : x.toNat = 4
    · rw [if_pos c4] at hq
      simp [c4]
      have := hj 1 (some [.int .i64 0, .bool false, .vs 1 [] .nil, .vs 7 [] .nil, .int .i64 0, .vs 2 [] .nil, .str [], .int .i64 0]) 4 false [] .nil [] .nil 0 [] .nil [] (z.drop 1) (.inl ⟨rfl, rfl⟩) (.inl ⟨rfl, rfl⟩) (.inl ⟨rfl, rfl⟩) (by simp; omega) ⟨_, rfl, rfl⟩ hq
      simpa [ndC] using this
    · rw [if_neg c4, gotC_none] at hq
      simp [e1, e2, e3, e4, c1, c2, c3, c4]
      exact hq
end Go.Av
set_option linter.unusedVariables false
/-! What is seen: the plain law. -/
namespace Go.Av
theorem tabs_get : ∀ {l : List Node} {k : Nat} {x : Node} (b : Nat), l[k]? = some x → (Node.tabs l b)[Node.counts (l.take k)]? = some (x.hd (b + Node.counts (l.take k)))
  | [], k, x, b, h => by simp at h
  | y :: l, 0, x, b, h => by
    simp at h
    subst h
    rw [Node.tabs_cons, Node.tab_eq]
    simp [Node.counts]
  | y :: l, k + 1, x, b, h => by
    simp at h
    have := tabs_get (b + y.count) h
    rw [Node.tabs_cons, List.take_succ_cons, Node.counts, List.getElem?_append_right (by rw [Node.tab_len]; omega), Node.tab_len, Nat.add_sub_cancel_left, this, Nat.add_assoc]
theorem idsOf_get : ∀ {l : List Node} {k : Nat} {x : Node} (b : Nat), l[k]? = some x → (Node.idsOf l b)[k]? = some (b + Node.counts (l.take k))
  | [], k, x, b, h => by simp at h
  | y :: l, 0, x, b, h => by simp [Node.idsOf, Node.counts]
  | y :: l, k + 1, x, b, h => by
    simp at h
    have := idsOf_get (b + y.count) h
    simp only [Node.idsOf, List.getElem?_cons_succ, List.take_succ_cons, Node.counts, this]
    rw [Nat.add_assoc]
theorem inoAt_nat (P : List InoP) (i : Nat) : inoAt P (i : Int) = (P[i]?).getD InoP.none := by
  have : ¬ ((i : Int) < 0) := by omega
  simp [inoAt, this]
theorem tab_root (n : Node) : inoAt (n.tab 0) 0 = n.hd 0 := by
  have := inoAt_nat (n.tab 0) 0
  rw [Node.tab_eq] at this ⊢
  simpa using this
/-- What the root of a tree has by a name. -/
theorem tab_look {n : Node} {s : Str} (hn : n.names.l.length = n.items.length) :
    match n.names.l.findIdx? (fun x => decide (x = s)) with
    | none => lookP (n.hd 0) s = none
    | some k => ∃ x j, n.items[k]? = some x ∧ lookP (n.hd 0) s = some j ∧ inoAt (n.tab 0) (j : Nat) = x.hd j := by
  cases h : n.names.l.findIdx? (fun x => decide (x = s)) with
  | none => simp only [lookP, Node.hd, h]; rfl
  | some k =>
    have hk := (List.findIdx?_eq_some_iff_getElem.1 h).1
    obtain ⟨x, hx⟩ : ∃ x, n.items[k]? = some x := ⟨n.items[k]'(by omega), by simp [show k < n.items.length by omega]⟩
    refine ⟨x, 0 + 1 + Node.counts (n.items.take k), hx, ?_, ?_⟩
    · simp only [lookP, Node.hd, h, Option.bind_some]
      exact idsOf_get _ hx
    · rw [inoAt_nat, Node.tab_eq]
      have := tabs_get (0 + 1) hx
      have e : 0 + 1 + Node.counts (n.items.take k) = Node.counts (n.items.take k) + 1 := by omega
      rw [e] at this ⊢
      rw [List.getElem?_cons_succ, this]
      rfl
theorem rootP_shift : ∀ (L : List (List InoP)) (k : Nat), rootP L (k + 1) = (rootP L k).map fun x => (x.1 + 1, x.2)
  | [], _ => rfl
  | P :: L, k => by
    rw [rootP, rootP, List.map_cons]
    split
    · rfl
    · rw [rootP_shift L (k + 1)]
/-- One branch less. -/
structure Less (f g : Fnd) : Prop where
  kind : f.kind = g.kind
  dirs : f.dirs.length = g.dirs.length
  sp : f.kind ≠ 0 → f.sp = (g.sp.1 + 1, g.sp.2)
theorem lookS_shift (P0 : List InoP) (L : List (List InoP)) (s : Str) : ∀ (p : List Spot) (f g : Fnd), Less f g → Less (lookS (P0 :: L) s (p.map fun x => (x.1 + 1, x.2)) f) (lookS L s p g)
  | [], f, g, h => h
  | x :: p, f, g, h => by
    rw [List.map_cons, lookS, lookS]
    simp only [List.getElem?_cons_succ]
    cases hL : L[x.1]? with
    | none => exact lookS_shift P0 L s p f g h
    | some P =>
      simp only
      cases hk : lookP (inoAt P x.2) s with
      | none => exact lookS_shift P0 L s p f g h
      | some k =>
        simp only
        rw [h.kind]
        by_cases c2 : (inoAt P k).kind ≠ 2
        · rw [if_pos c2, if_pos c2]
          by_cases c4 : g.kind = 0 ∧ (inoAt P k).kind ≠ 4
          · rw [if_pos c4, if_pos c4]
            exact ⟨rfl, rfl, fun _ => rfl⟩
          · rw [if_neg c4, if_neg c4]
            exact h
        · rw [if_neg c2, if_neg c2]
          have h1 : Less (if g.kind = 0 then ⟨(inoAt P k).kind, (x.1 + 1, k), []⟩ else f) (if g.kind = 0 then ⟨(inoAt P k).kind, (x.1, k), []⟩ else g) := by
            split
            · exact ⟨rfl, rfl, fun _ => rfl⟩
            · exact h
          generalize (if g.kind = 0 then (⟨(inoAt P k).kind, (x.1 + 1, k), []⟩ : Fnd) else f) = f1 at h1
          generalize (if g.kind = 0 then (⟨(inoAt P k).kind, (x.1, k), []⟩ : Fnd) else g) = g1 at h1
          have h2 : Less ⟨f1.kind, f1.sp, f1.dirs ++ [(x.1 + 1, k)]⟩ ⟨g1.kind, g1.sp, g1.dirs ++ [(x.1, k)]⟩ := ⟨h1.kind, by simp [h1.dirs], h1.sp⟩
          by_cases ho : (inoAt P k).opq = true
          · rw [if_pos ho, if_pos ho]; exact h2
          · rw [if_neg ho, if_neg ho]; exact lookS_shift P0 L s p _ _ h2
/-- One directory more. -/
structure More (f0 f g : Fnd) : Prop where
  kind : f.kind = 2
  sp : f.sp = f0.sp
  dirs : f.dirs.length = 1 + (if g.kind = 2 then g.dirs.length else 0)
theorem lookS_more (P0 : List InoP) (L : List (List InoP)) (s : Str) (f0 : Fnd) : ∀ (p : List Spot) (f g : Fnd), More f0 f g → (g.kind = 0 ∧ g.dirs = [] ∨ g.kind = 2) → More f0 (lookS (P0 :: L) s (p.map fun x => (x.1 + 1, x.2)) f) (lookS L s p g)
  | [], f, g, h, _ => h
  | x :: p, f, g, h, hg => by
    rw [List.map_cons, lookS, lookS]
    simp only [List.getElem?_cons_succ]
    cases hL : L[x.1]? with
    | none => exact lookS_more P0 L s f0 p f g h hg
    | some P =>
      simp only
      cases hk : lookP (inoAt P x.2) s with
      | none => exact lookS_more P0 L s f0 p f g h hg
      | some k =>
        simp only
        have f2 : ¬ f.kind = 0 := by rw [h.kind]; omega
        by_cases c2 : (inoAt P k).kind ≠ 2
        · rw [if_pos c2, if_pos c2, if_neg (by simp [f2])]
          by_cases c4 : g.kind = 0 ∧ (inoAt P k).kind ≠ 4
          · rw [if_pos c4]
            have := h.dirs
            rw [if_neg (by omega)] at this
            exact ⟨h.kind, h.sp, by rw [if_neg c2]; exact this⟩
          · rw [if_neg c4]; exact h
        · have k2 : (inoAt P k).kind = 2 := by simpa using c2
          rw [if_neg c2, if_neg c2, if_neg f2]
          have h1 : More f0 ⟨f.kind, f.sp, f.dirs ++ [(x.1 + 1, k)]⟩ ⟨(if g.kind = 0 then (⟨(inoAt P k).kind, (x.1, k), []⟩ : Fnd) else g).kind, (if g.kind = 0 then (⟨(inoAt P k).kind, (x.1, k), []⟩ : Fnd) else g).sp, (if g.kind = 0 then (⟨(inoAt P k).kind, (x.1, k), []⟩ : Fnd) else g).dirs ++ [(x.1, k)]⟩ := by
            refine ⟨h.kind, h.sp, ?_⟩
            have := h.dirs
            rcases hg with ⟨g0, gd⟩ | g2
            · rw [if_neg (by omega)] at this
              simp [g0, k2, this]
            · rw [if_pos g2] at this
              simp [g2, this]
              omega
          have hg1 : (if g.kind = 0 then (⟨(inoAt P k).kind, (x.1, k), []⟩ : Fnd) else g).kind = 2 := by
            split
            · exact k2
            · rcases hg with ⟨g0, _⟩ | g2
              · contradiction
              · exact g2
          by_cases ho : (inoAt P k).opq = true
          · rw [if_pos ho, if_pos ho]; exact h1
          · rw [if_neg ho, if_neg ho]; exact lookS_more P0 L s f0 p _ _ h1 (.inr hg1)
def mayB (l : List Node) : Bool := decide (l.length ≤ 8) && l.all fun n => n.small && rightB n
theorem mayB_iff {l : List Node} : mayB l = true ↔ l.length ≤ 8 ∧ ∀ n ∈ l, n.small = true ∧ rightB n = true := by simp [mayB]
theorem ofErr_all : ∀ (l : List Node) (k : Nat), (∀ n ∈ l, rightB n = true) → l.length + k ≤ 64 → ofErr l k = 0
  | [], _, _, _ => rfl
  | n :: l, k, h, hk => by
    rw [ofErr, if_neg (by rw [h n (by simp)]; simp), if_neg (by simp at hk; omega), ofErr_all l (k + 1) (fun x hx => h x (by simp [hx])) (by simp at hk; omega)]
end Go.Av
