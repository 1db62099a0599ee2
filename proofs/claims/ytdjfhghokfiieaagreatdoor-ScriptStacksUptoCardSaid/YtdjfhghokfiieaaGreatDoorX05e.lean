/- Parts of the proofs of this seat: abstract values over the model, and what the functions of the program do. No condition. -/
import Derived.Test.YtdjfhghokfiieaaGreatDoorY05d
set_option linter.all false
namespace Go.Av
open Go.Proofs
theorem Nv {w0 : World} (hm : If w0) {S : St} {s : Str} (hs : s.length ≤ 1048575) {Q : AV → St → Prop}
  (hq : ∀ S', Sx S S' → (∀ n, Cw s = some n → n.ok → Q (.tup [.agg n.c, .int .i64 0]) S') ∧ (Cw s = none → Q (.tup [.agg Node.none.c, .int .i64 1]) S')) : AC w0 Gf [.str s] S Q := by
 apply Nc
 unfold Gj
 have hn0 : Cw s = none → Q (.tup [.agg [.int .i64 0, .bool false, .vs 1 [] .nil, .vs 7 [] .nil, .int .i64 0, .vs 2 [] .nil, .str []], .int .i64 1]) S := fun h => by
  have := (hq S (Sx.refl _)).2 h
  rwa [Node.none_c] at this
 by_cases c1 : s.length < 7
 ·have : Cw s = none := by simp [Cw, c1]
  simp [AD, show ¬ (4194304 < (s.length : Int)) by omega, show (s.length : Int) < 7 by omega]
  exact hn0 this
 by_cases c2 : s.take 7 = [115, 111, 99, 97, 103, 101, 49]
 case neg =>
  have : Cw s = none := by simp [Cw, c2]
  simp [AD, show ¬ (4194304 < (s.length : Int)) by omega, show ¬ (s.length : Int) < 7 by omega, show 7 ≤ s.length by omega, c2]
  exact hn0 this
 simp [AD, show ¬ (4194304 < (s.length : Int)) by omega, show ¬ (s.length : Int) < 7 by omega, show 7 ≤ s.length by omega, c2]
 apply RH
 unfold Jd
 simp
 have hR : RdO (S ++ [Obj.cells [.str (s.drop 7)] Bz, Obj.cells [.ptr S.length 0, .bool false, .int .i64 4096] A3]) (S.length + 1) S.length ⟨s.drop 7, false, 4096⟩ := ⟨by simp, by simp [rdC]⟩
 have hl : (s.drop 7).length ≤ 1048568 := by simp; omega
 have hI := RS.node_ok 16 ⟨s.drop 7, false, 4096⟩ hl (by simp)
 refine RZ 16 (b := S.length) (d := 0) (by omega) (by simp) hR (by omega) (by omega) hl (by simp) (by simp) (fun S2 hR2 hK2 => ?_)
 have hd : Cw s = if (RS.node 16 ⟨s.drop 7, false, 4096⟩).2.bad = false ∧ (RS.node 16 ⟨s.drop 7, false, 4096⟩).2.s = [] ∧ BT (RS.node 16 ⟨s.drop 7, false, 4096⟩).1 = true then some (RS.node 16 ⟨s.drop 7, false, 4096⟩).1 else none := by
  rw [Cw, if_neg (by simp [c1, c2]; omega)]
 generalize RS.node 16 ⟨s.drop 7, false, 4096⟩ = r at hR2 hd hI ⊢
 have hSx : Sx S S2 := fun j hj => by
  rw [hK2 j hj, List.getElem?_append_left hj]
 have hno : ∀ S3, Sx S S3 → Cw s = none → Q (.tup [.agg [.int .i64 0, .bool false, .vs 1 [] .nil, .vs 7 [] .nil, .int .i64 0, .vs 2 [] .nil, .str []], .int .i64 1]) S3 := fun S3 h3 h => by
  have := (hq S3 h3).2 h
  rwa [Node.none_c] at this
 simp [AQ hR2.1]
 cases hb : r.2.bad with
 | true =>
  simp
  exact hno S2 hSx (by rw [hd, hb]; simp)
 | false =>
  simp
  have hR3 : S2[S.length]? = some (.cells [.str r.2.s] Bz) := hR2.2
  apply KP
  unfold Ea
  simp [AQ hR3]
  by_cases c3 : r.2.s = []
  case neg =>
   have := List.length_pos_iff.2 c3
   simp [show (0 : Int) < r.2.s.length by omega, this]
   exact hno S2 hSx (by rw [hd]; simp [c3])
  simp [c3]
  refine L2 hm hI.ok (fun S3 hS3 => ?_)
  cases hr : BT r.1 with
  | false =>
   simp
   exact hno S3 (hSx.trans hS3) (by rw [hd]; simp [hr])
  | true =>
   simp
   exact (hq S3 (hSx.trans hS3)).1 r.1 (by rw [hd, hb]; simp [hr, c3]) hI.ok
theorem Tg {w0 : World} {S : St} {s : Str} (hs : s.length ≤ 4) {Q : AV → St → Prop} (hq : Q (.int .i64 (val s : Int)) S) : AC w0 JM [.str s] S Q := by
 apply SC
 unfold JP
 simp [AD]
 refine BI s (fun i (_ : Unit) => ([.int .i64 (val (s.take i) : Nat), .int .i64 i], [])) (fun i _ S' => S' = S) () (by simp [val]) rfl ?_ ?_
 ·rintro i _ S' v b x c hxi hd hc hm rfl hv
  simp at hv
  have hlt := JD (s.take i)
  have h4 : 256 ^ (s.take i).length ≤ 256 ^ 3 := Nat.pow_le_pow_right (by omega) (by rw [List.length_take]; omega)
  have h5 : (256 : Nat) ^ 3 = 16777216 := rfl
  have hx256 : x.toNat < 256 := x.toNat_lt
  simp [hv, hc, hxi]
  try simp (disch := omega) only [wrap64]
  try simp
  try simp (disch := omega) only [wrap64]
  exact .next c () (by rw [T7 hxi]; simp) rfl
 ·rintro _ S' v b rfl hv N
  simp at hv
  simp [hv]
  exact hq
def V0 (z : Str) (a k : Nat) : Int := match takeN k (z.drop a) with | some p => (p.1 : Int) | none => -1
theorem Cp {w0 : World} {S : St} {s : Str} {a k : Nat} {ai : Int} (ha : ai = a) (hk : 1 ≤ k ∧ k ≤ 4) (hl : a ≤ 1000000000) {Q : AV → St → Prop} (hq : Q (.int .i64 (V0 s a k)) S) : AC w0 B7 [.str s, .int .i64 ai, .int .i64 k] S Q := by
 subst ha
 apply NU
 unfold Gm
 try simp (disch := omega) only [wrap64]
 simp [AD, show ¬ ((a : Int) < 0) by omega]
 unfold V0 takeN at hq
 by_cases c : (s.drop a).length < k
 ·rw [if_pos c] at hq
  simp at c
  simp [show ((s.length : Int) < (a : Int) + k) by omega]
  exact hq
 ·rw [if_neg c] at hq
  simp at c
  simp [show ¬ ((s.length : Int) < (a : Int) + k) by omega]
  rw [Oj _ _ _ _ _ (by omega) (by omega) (by omega)]
  simp
  have e : (s.take (a + k)).drop a = (s.drop a).take k := by rw [List.drop_take]; congr 1; omega
  have e0 : (((a : Int) + k).toNat) = a + k := by omega
  rw [e0, e]
  refine Tg (by simp; omega) ?_
  exact hq
def NF (o : Option (Node × Str)) (len : Nat) : List AV := match o with | some p => p.1.c ++ [.int .i64 ((len : Int) - p.2.length)] | none => Node.none.c ++ [.int .i64 (-1)]
theorem Ck (len : Nat) : NF none len = [.int .i64 0, .bool false, .vs 1 [] .nil, .vs 7 [] .nil, .int .i64 0, .vs 2 [] .nil, .str [], .int .i64 (-1)] := by simp [NF, Node.none_c]
theorem EA {z : Str} {a k : Nat} (hk : 1 ≤ k) : takeN k (z.drop a) = if z.length < a + k then none else some (val ((z.drop a).take k), z.drop (a + k)) := by
 unfold takeN
 by_cases c : z.length < a + k
 ·rw [if_pos c, if_pos (by simp; omega)]
 ·rw [if_neg c, if_neg (by simp; omega), List.drop_drop]
theorem Hy {z : Str} {a k : Nat} (hk : 1 ≤ k) (h : z.length < a + k) : V0 z a k = -1 := by unfold V0; rw [EA hk, if_pos h]
theorem FW {z : Str} {a k : Nat} (hk : 1 ≤ k) (h : ¬ z.length < a + k) : V0 z a k = val ((z.drop a).take k) := by unfold V0; rw [EA hk, if_neg h]
theorem Lb {z : Str} {a k : Nat} (hk : 1 ≤ k) : Gy k (z.drop a) = if z.length < a + k then none else if z.length < a + k + val ((z.drop a).take k) then none else some ((z.drop (a + k)).take (val ((z.drop a).take k)), z.drop (a + k + val ((z.drop a).take k))) := by
 unfold Gy
 rw [EA hk]
 by_cases c : z.length < a + k
 ·rw [if_pos c, if_pos c]; rfl
 ·rw [if_neg c, if_neg c, Option.bind_some]
  simp only
  by_cases c2 : z.length < a + k + val ((z.drop a).take k)
  ·rw [if_pos c2, if_pos (by simp; omega)]
  ·rw [if_neg c2, if_neg (by simp; omega), List.drop_drop]
theorem La {z : Str} {k a : Nat} (h : k ≤ 4) : val ((z.drop a).take k) < 4294967296 := by
 have h1 := JD ((z.drop a).take k)
 have h2 : 256 ^ ((z.drop a).take k).length ≤ 256 ^ 4 := Nat.pow_le_pow_right (by omega) (by rw [List.length_take]; omega)
 rw [p4] at h2
 omega
theorem Xt {f : Nat} {z r : Str} {n : Node} {a : Nat} (h : D9 f (z.drop a) = some (n, r)) : r.length ≤ (z.drop a).length ∧ r = z.drop (a + ((z.drop a).length - r.length)) := by
 have := Ns _ _ _ _ h
 have hl := congrArg List.length this
 rw [List.length_append] at hl
 refine ⟨by omega, ?_⟩
 rw [← List.drop_drop, hl, Nat.add_sub_cancel]
 conv => rhs; rw [this]
 rw [List.drop_left]
theorem U2 {z : Str} {a n : Nat} {x y : Int} (hx : x = a) (hy : y = (a + n : Nat)) (h : a + n ≤ z.length) : Ba (.str z) (some (.int .i64 x)) (some (.int .i64 y)) = some (.str ((z.drop a).take n)) := by
 subst hx hy
 rw [Oj _ _ _ _ _ (by omega) (by omega) (by omega)]
 simp only [Int.toNat_natCast]
 rw [List.drop_take, Nat.add_sub_cancel_left]
set_option maxRecDepth 100000 in
theorem SX {w0 : World} : ∀ (f : Nat) {S : St} {Q : AV → St → Prop} {s : Str} {d : Int}, f ≤ 16 → d = 16 - (f : Int) → s.length ≤ 1048576 → Q (.agg (NF (D9 f s) s.length)) S → AC w0 HJ [.str s, .int .i64 d] S Q := by
 intro f
 induction f with
 | zero =>
  intro S Q s d hf hd hl hq
  apply Lh
  unfold HI
  rw [D9, Ck] at hq
  simp [AD, show (15 : Int) < d by omega]
  exact hq
 | succ f ih =>
  intro S Q s d hf hd hl hq
  apply Lh
  unfold HI
  have hd' : ¬ (15 : Int) < d := by omega
  cases s with
  | nil =>
   rw [D9, show takeN 1 ([] : Str) = none from rfl, Option.bind_none, Ck] at hq
   simp [AD, hd']
   exact hq
  | cons x s =>
  have hT : takeN 1 (x :: s) = some (x.toNat, s) := by simp [takeN, val]
  rw [D9, hT, Option.bind_some] at hq
  simp only at hq
  have hx256 : x.toNat < 256 := x.toNat_lt
  have e0 : IntKind.i64.wrap ((x.toNat : Nat) : Int) = ((x.toNat : Nat) : Int) := wrap64 (by omega) (by omega)
  have hsl : ¬ (((x :: s).length : Int) < 1) := by simp; omega
  simp only [hd', hsl, decide_false]
  rw [AD]
  simp [e0]
  refine MG (fun j => ∀ (at_ : Int) (y : Option (List AV)) (k : Int) (o : Bool) (ns : List Str) (nr : Rt) (its : List Node) (ir : Rt) (sz : Int) (es : List Ext) (er : Rt) (t : Str) (r : Str), okA nr ns → okA ir its → okA er es → at_ = (x :: s).length - r.length → (∃ zs, y = some zs ∧ zs.length = 8) →
   Q (.agg (NF (some (Node.mk k o ⟨ns, cr ns⟩ its (cr its) sz es (cr es) t, r)) (x :: s).length)) S → j (.int .i64 at_) y (some (ndC k o ns nr its ir sz es er t)) S) ?_ (fun j hj => ?_)
  ·rintro at_ y k o ns nr its ir sz es er t r g1 g2 g3 rfl ⟨zs, rfl, hz⟩ hQ
   simp only [NF] at hQ
   rw [Node.c_eq'] at hQ
   simp at hQ
   have hzd : zs.drop 8 = [] := by simp; omega
   simp [ndC, hz, hzd]
   rw [g1.cr, g2.cr, g3.cr]
   have e1 : ∀ {α : Type} (l : List α), (cr l).strip = cr l := fun l => (Sg l).2.2
   rw [e1, e1, e1] at hQ
   exact hQ
  generalize hz : x :: s = z at hj hq hl ⊢
  have hzs : s = z.drop 1 := by rw [← hz]; rfl
  have hz1 : 1 ≤ z.length := by rw [← hz]; simp
  clear hz hT hsl
  subst hzs
  have e1 : ((x.toNat : Int) = 1) = (x.toNat = 1) := propext (by omega)
  have e2 : ((x.toNat : Int) = 2) = (x.toNat = 2) := propext (by omega)
  have e3 : ((x.toNat : Int) = 3) = (x.toNat = 3) := propext (by omega)
  have e4 : ((x.toNat : Int) = 4) = (x.toNat = 4) := propext (by omega)
  by_cases c1 : x.toNat = 1
  ·rw [if_pos c1, EA (by omega)] at hq
   simp [c1]
   refine Cp (a := 1) rfl (k := 4) (by omega) (by omega) ?_
   simp
   refine Cp (a := 5) rfl (k := 4) (by omega) (by omega) ?_
   by_cases d1 : z.length < 5 + 4
   ·rw [Hy (a := 5) (by omega) d1]
    have : Q (.agg (NF none z.length)) S := by
     by_cases d2 : z.length < 1 + 4
     ·rw [if_pos d2] at hq; exact hq
     ·rw [if_neg d2, Option.bind_some] at hq
      simp only at hq
      rw [EA (by omega), if_pos (by omega)] at hq
      exact hq
    rw [Ck] at this
    simp
    exact this
   rw [FW (a := 5) (by omega) d1, FW (a := 1) (by omega) (by omega)]
   rw [if_neg (by omega), Option.bind_some] at hq
   simp only at hq
   rw [show 1 + 4 = 5 from rfl, EA (by omega), if_neg d1, Option.bind_some] at hq
   simp only at hq
   have hvb := La (z := z) (k := 4) (a := 5) (by omega)
   have hva := La (z := z) (k := 4) (a := 1) (by omega)
   generalize val ((z.drop 5).take 4) = c at hq hvb ⊢
   generalize val ((z.drop 1).take 4) = b at hq hva ⊢
   simp [show ¬ ((c : Int) < 0) by omega]
   refine EH (fun p : Nat × Nat × List Ext × Rt => ([.str z, .int .i64 (p.1 : Nat), .int .i64 (p.2.1 : Nat)], [some [.int .i64 0, .bool false, .vs 1 [] .nil, .vs 7 [] .nil, .int .i64 0, .vs 2 [] .nil, .str [], .int .i64 0], some [.int .i64 0, .bool false, .vs 1 [] .nil, .vs 7 [] .nil, .int .i64 0, .vs 2 [] .nil, .str [], .int .i64 (-1)], some (ndC 1 false [] .nil [] .nil b p.2.2.1 p.2.2.2 [])]))
    (fun m p S' => m = c - p.2.1 ∧ p.2.1 ≤ c ∧ S' = S ∧ p.1 ≤ z.length ∧ okA p.2.2.2 p.2.2.1 ∧ p.2.2.1.length ≤ p.2.1 ∧ I2 c (z.drop 9) = (I2 (c - p.2.1) (z.drop p.1)).bind fun e => some (p.2.2.1 ++ e.1, e.2)) c (9, 0, [], .nil) rfl ⟨rfl, by simp, rfl, by simp; omega, .inl ⟨rfl, rfl⟩, by simp, by simp; cases I2 c (z.drop 9) <;> simp⟩ ?_
   rintro m ⟨a, i, l, r⟩ S' v bx ⟨rfl, hi, rfl, ha, hr, hli, he⟩ hv
   simp at hv hi ha hr hli he
   obtain ⟨hv1, hv2⟩ := hv
   simp only [ndC] at hv2
   simp [hv1, hv2]
   by_cases c3 : i < c
   case neg =>
    have : i = c := by omega
    subst this
    simp
    rw [Nat.sub_self, I2, Option.bind_some] at he
    simp at he
    rw [he, Option.bind_some] at hq
    have := hj (a : Int) (some [.int .i64 0, .bool false, .vs 1 [] .nil, .vs 7 [] .nil, .int .i64 0, .vs 2 [] .nil, .str [], .int .i64 0]) 1 false [] .nil [] .nil b l r [] (z.drop a) (.inl ⟨rfl, rfl⟩) (.inl ⟨rfl, rfl⟩) hr (by simp; omega) ⟨_, rfl, rfl⟩ hq
    simpa [ndC] using this
   simp [c3]
   refine Cp (a := a) rfl (k := 4) (by omega) (by omega) ?_
   simp
   try simp (disch := omega) only [wrap64]
   refine Cp (a := a + 4) (by omega) (k := 4) (by omega) (by omega) ?_
   simp
   obtain ⟨q, hq2⟩ : ∃ q, c - i = q + 1 := ⟨c - i - 1, by omega⟩
   rw [hq2, I2, EA (by omega)] at he
   have hnone : I2 c (z.drop 9) = none → Q (.agg [.int .i64 0, .bool false, .vs 1 [] .nil, .vs 7 [] .nil, .int .i64 0, .vs 2 [] .nil, .str [], .int .i64 (-1)]) S' := fun e => by
    rw [e, Option.bind_none, Ck] at hq
    exact hq
   by_cases d2 : z.length < a + 4 + 4
   ·have := hnone (by
     by_cases d3 : z.length < a + 4
     ·rw [if_pos d3] at he; exact he
     ·rw [if_neg d3, Option.bind_some] at he
      simp only at he
      rw [Lb (by omega), if_pos d2] at he
      exact he)
    rw [Hy (a := a + 4) (by omega) d2]
    simp [AD]
    exact this
   rw [if_neg (by omega), Option.bind_some] at he
   simp only at he
   rw [Lb (by omega), if_neg d2] at he
   rw [FW (a := a + 4) (by omega) d2, FW (a := a) (by omega) (by omega)]
   have hvo := La (z := z) (k := 4) (a := a) (by omega)
   have hvs := La (z := z) (k := 4) (a := a + 4) (by omega)
   generalize val ((z.drop (a + 4)).take 4) = sz at he hvs ⊢
   generalize val ((z.drop a).take 4) = off at he hvo ⊢
   simp [show ¬ ((sz : Int) < 0) by omega]
   try simp (disch := omega) only [wrap64]
   by_cases d4 : z.length < a + 4 + 4 + sz
   ·have := hnone (by rw [if_pos d4] at he; exact he)
    simp [AD, show ((z.length : Int) < (a : Int) + 8 + sz) by omega]
    exact this
   rw [if_neg d4, Option.bind_some] at he
   simp only at he
   simp [AD, show ¬ ((z.length : Int) < (a : Int) + 8 + sz) by omega]
   have hcut := U2 (z := z) (a := a + 8) (n := sz) (x := (a : Int) + 8) (y := (a : Int) + 8 + sz) (by omega) (by omega) (by omega)
   simp only [hcut]
   obtain ⟨n1, n2⟩ := hr.ne
   have hlim : l.length + 1 ≤ lim := by unfold lim; omega
   simp [Ao, A6, n1, hlim]
   try simp (disch := omega) only [wrap64]
   refine ⟨_, (a + 8 + sz, i + 1, l ++ [⟨off, (z.drop (a + 8)).take sz⟩], .own (Cy Ah r)), by show c - (i + 1) < c - i; omega, by simp [ndC], rfl, by show i + 1 ≤ c; omega, rfl, by show a + 8 + sz ≤ z.length; omega, .app, by simp; omega, ?_⟩
   rw [he]
   simp only
   have e5 : c - (i + 1) = q := by omega
   rw [e5, show a + 4 + 4 = a + 8 from rfl]
   cases I2 q (z.drop (a + 8 + sz)) with
   | none => rfl
   | some p => simp
  rw [if_neg c1] at hq
  by_cases c2 : x.toNat = 2
  ·rw [if_pos c2, EA (by omega)] at hq
   simp [c2]
   refine Cp (a := 2) rfl (k := 2) (by omega) (by omega) ?_
   have hnone0 : NF none z.length = _ := Ck _
   by_cases d1 : z.length < 2 + 2
   ·rw [Hy (by omega) d1]
    have : Q (.agg (NF none z.length)) S := by
     by_cases d2 : z.length < 1 + 1
     ·rw [if_pos d2] at hq; exact hq
     ·rw [if_neg d2, Option.bind_some] at hq
      simp only at hq
      rw [EA (by omega), if_pos (by omega)] at hq
      exact hq
    rw [Ck] at this
    simp [AD]
    exact this
   rw [FW (by omega) d1]
   rw [if_neg (by omega), Option.bind_some] at hq
   simp only at hq
   rw [show 1 + 1 = 2 from rfl, EA (by omega), if_neg d1, Option.bind_some] at hq
   simp only at hq
   have hvb : val ((z.drop 2).take 2) < 65536 := by
    have h1 := JD ((z.drop 2).take 2)
    have h2 : 256 ^ ((z.drop 2).take 2).length ≤ 256 ^ 2 := Nat.pow_le_pow_right (by omega) (by rw [List.length_take]; omega)
    rw [p2] at h2
    omega
   generalize val ((z.drop 2).take 2) = c at hq hvb ⊢
   obtain ⟨w, hw⟩ : ∃ w, z[1]? = some w := ⟨z[1]'(by omega), by simp [show 1 < z.length by omega]⟩
   have gw : z[1]'(by omega) = w := (List.getElem?_eq_some_iff.1 hw).2
   have hwv : val ((z.drop 1).take 1) = w.toNat := by
    have : (z.drop 1).take 1 = [w] := by
     rw [List.drop_eq_getElem_cons (by omega), gw]; simp
    rw [this]; simp [val]
   rw [hwv] at hq
   have hw256 : w.toNat < 256 := w.toNat_lt
   simp [AD, show ¬ ((c : Int) < 0) by omega, show 1 < z.length by omega, gw]
   by_cases d5 : 1 < w.toNat
   ·rw [if_pos d5, Ck] at hq
    simp [show (1 : Int) < w.toNat by omega]
    exact hq
   rw [if_neg d5] at hq
   have ew : ((w.toNat : Int) = 1) = (w.toNat = 1) := propext (by omega)
   simp [show ¬ (1 : Int) < w.toNat by omega, ew]
   refine EH (fun p : Nat × Nat × (List Str × List Node) × Rt × Rt => ([.str z, .int .i64 (p.1 : Nat), .int .i64 (p.2.1 : Nat)], [some [.int .i64 0, .bool false, .vs 1 [] .nil, .vs 7 [] .nil, .int .i64 0, .vs 2 [] .nil, .str [], .int .i64 0], some [.int .i64 0, .bool false, .vs 1 [] .nil, .vs 7 [] .nil, .int .i64 0, .vs 2 [] .nil, .str [], .int .i64 (-1)], some (ndC 2 (decide (w.toNat = 1)) p.2.2.1.1 p.2.2.2.1 p.2.2.1.2 p.2.2.2.2 0 [] .nil [])]))
    (fun m p S' => m = c - p.2.1 ∧ p.2.1 ≤ c ∧ S' = S ∧ p.1 ≤ z.length ∧ okA p.2.2.2.1 p.2.2.1.1 ∧ okA p.2.2.2.2 p.2.2.1.2 ∧ p.2.2.1.1.length ≤ p.2.1 ∧ p.2.2.1.2.length ≤ p.2.1 ∧ Hh (D9 f) c (z.drop 4) = (Hh (D9 f) (c - p.2.1) (z.drop p.1)).bind fun e => some (p.2.2.1.1 ++ e.1, p.2.2.1.2 ++ e.2.1, e.2.2)) c (4, 0, ([], []), .nil, .nil) rfl ⟨rfl, by simp, rfl, by simp; omega, .inl ⟨rfl, rfl⟩, .inl ⟨rfl, rfl⟩, by simp, by simp, by simp; cases Hh (D9 f) c (z.drop 4) <;> simp⟩ ?_
   rintro m ⟨a, i, ⟨ns, its⟩, r1, r2⟩ S' v bx ⟨rfl, hi, rfl, ha, hr1, hr2, hli, hli2, he⟩ hv
   simp at hv hi ha hr1 hr2 hli hli2 he
   obtain ⟨hv1, hv2⟩ := hv
   simp only [ndC] at hv2
   simp [hv1, hv2]
   by_cases c3 : i < c
   case neg =>
    have : i = c := by omega
    subst this
    simp
    rw [Nat.sub_self, Hh, Option.bind_some] at he
    simp at he
    rw [show 2 + 2 = 4 from rfl, he, Option.bind_some] at hq
    have := hj (a : Int) (some [.int .i64 0, .bool false, .vs 1 [] .nil, .vs 7 [] .nil, .int .i64 0, .vs 2 [] .nil, .str [], .int .i64 0]) 2 (decide (w.toNat = 1)) ns r1 its r2 0 [] .nil [] (z.drop a) hr1 hr2 (.inl ⟨rfl, rfl⟩) (by simp; omega) ⟨_, rfl, rfl⟩ hq
    simpa [ndC] using this
   simp [c3]
   refine Cp (a := a) rfl (k := 1) (by omega) (by omega) ?_
   obtain ⟨q, hq2⟩ : ∃ q, c - i = q + 1 := ⟨c - i - 1, by omega⟩
   rw [hq2, Hh, Lb (by omega)] at he
   have hnone : Hh (D9 f) c (z.drop 4) = none → Q (.agg [.int .i64 0, .bool false, .vs 1 [] .nil, .vs 7 [] .nil, .int .i64 0, .vs 2 [] .nil, .str [], .int .i64 (-1)]) S' := fun e => by
    rw [show 2 + 2 = 4 from rfl, e, Option.bind_none, Ck] at hq
    exact hq
   by_cases d2 : z.length < a + 1
   ·have := hnone (by rw [if_pos d2] at he; exact he)
    rw [Hy (by omega) d2]
    simp
    exact this
   rw [if_neg d2] at he
   rw [FW (by omega) d2]
   have hvs : val ((z.drop a).take 1) < 256 := by
    have h1 := JD ((z.drop a).take 1)
    have h2 : 256 ^ ((z.drop a).take 1).length ≤ 256 ^ 1 := Nat.pow_le_pow_right (by omega) (by rw [List.length_take]; omega)
    rw [p1] at h2
    omega
   generalize val ((z.drop a).take 1) = sz at he hvs ⊢
   simp [show ¬ ((sz : Int) < 0) by omega]
   try simp (disch := omega) only [wrap64]
   by_cases d4 : z.length < a + 1 + sz
   ·have := hnone (by rw [if_pos d4] at he; exact he)
    simp [show ((z.length : Int) < (a : Int) + 1 + sz) by omega]
    exact this
   rw [if_neg d4, Option.bind_some] at he
   simp only at he
   simp [show ¬ ((z.length : Int) < (a : Int) + 1 + sz) by omega]
   have hcut := U2 (z := z) (a := a + 1) (n := sz) (x := (a : Int) + 1) (y := (a : Int) + 1 + sz) (by omega) (by omega) (by omega)
   simp only [hcut]
   obtain ⟨n1, n2⟩ := hr1.ne
   obtain ⟨n3, n4⟩ := hr2.ne
   have hlim : ns.length + 1 ≤ lim := by unfold lim; omega
   have hlim2 : its.length + 1 ≤ lim := by unfold lim; omega
   simp [Ao, A6, n1, hlim]
   have hcast : (a : Int) + 1 + sz = ((a + 1 + sz : Nat) : Int) := by omega
   rw [hcast, Tz, if_pos (by omega)]
   simp
   try simp (disch := omega) only [wrap64]
   refine ih (by omega) (by omega) (by simp; omega) ?_
   cases hg : D9 f (z.drop (a + 1 + sz)) with
   | none =>
    rw [hg, Option.bind_none] at he
    have := hnone he
    rw [Ck]
    simp
    exact this
   | some pr =>
    obtain ⟨y, rr⟩ := pr
    rw [hg, Option.bind_some] at he
    simp only at he
    obtain ⟨g1, g2⟩ := Xt hg
    simp at g1 g2
    obtain ⟨L, hL⟩ : ∃ L, L = z.length - (a + 1 + sz) - rr.length := ⟨_, rfl⟩
    have hgc : NF (some (y, rr)) (z.drop (a + 1 + sz)).length = y.c ++ [.int .i64 (L : Int)] := by
     simp only [NF]
     congr 3
     simp; omega
    have q1 : (y.c ++ [AV.int .i64 (L : Int)]).length = 8 := by simp
    have q2 : (y.c ++ [AV.int .i64 (L : Int)])[7]? = some (.int .i64 (L : Int)) := by
     rw [List.getElem?_append_right (by simp)]; simp
    have q3 : (y.c ++ [AV.int .i64 (L : Int)]).take 7 = y.c := by
     rw [List.take_append_of_le_length (by simp)]; simp
    have q4 : (AV.agg (y.c ++ [AV.int .i64 (L : Int)])).free = true := by
     rw [Node.c_eq]; simp
    rw [hgc]
    generalize y.c ++ [AV.int .i64 (L : Int)] = G at q1 q2 q3 q4 ⊢
    have q5 : G[7]'(by omega) = .int .i64 (L : Int) := (List.getElem?_eq_some_iff.1 q2).2
    have q6 : (∀ x, x ∈ G → x.free1 = true) = True := eq_true (by simpa using q4)
    have q7 : G.drop 8 = [] := by simp; omega
    simp [q1, q3, q5, q6, q7, n3, hlim2, show ¬ ((L : Int) < 0) by omega]
    try simp (disch := omega) only [wrap64]
    refine ⟨_, (a + 1 + sz + L, i + 1, (ns ++ [(z.drop (a + 1)).take sz], its ++ [y]), .own (Cy AF r1), .own (Cy AB r2)), by show c - (i + 1) < c - i; omega, by simp [ndC], rfl, by show i + 1 ≤ c; omega, rfl, by show a + 1 + sz + L ≤ z.length; omega, .app, .app, by simp; omega, by simp; omega, ?_⟩
    rw [he]
    simp only
    have e5 : c - (i + 1) = q := by omega
    rw [e5]
    have e6 : rr = z.drop (a + 1 + sz + L) := by rw [hL]; exact g2
    rw [← e6]
    cases Hh (D9 f) q rr with
    | none => rfl
    | some p => simp
  rw [if_neg c2] at hq
  by_cases c3 : x.toNat = 3
  ·rw [if_pos c3, Lb (by omega)] at hq
   simp [c3]
   refine Cp (a := 1) rfl (k := 2) (by omega) (by omega) ?_
   by_cases d1 : z.length < 1 + 2
   ·rw [if_pos d1, Option.bind_none, Ck] at hq
    rw [Hy (by omega) d1]
    simp [AD]
    exact hq
   rw [if_neg d1] at hq
   rw [FW (by omega) d1]
   have hvb := La (z := z) (k := 2) (a := 1) (by omega)
   generalize val ((z.drop 1).take 2) = sz at hq hvb ⊢
   simp [AD, show ¬ ((sz : Int) < 0) by omega]
   try simp (disch := omega) only [wrap64]
   by_cases d4 : z.length < 1 + 2 + sz
   ·rw [if_pos d4, Option.bind_none, Ck] at hq
    simp [show (((z.length - 1 : Nat) : Int) + 1 < (3 : Int) + sz) by omega]
    exact hq
   rw [if_neg d4, Option.bind_some] at hq
   simp only at hq
   have hcut := U2 (z := z) (a := 3) (n := sz) (x := 3) (y := (3 : Int) + sz) (by omega) (by omega) (by omega)
   simp [show ¬ (((z.length - 1 : Nat) : Int) + 1 < (3 : Int) + sz) by omega, hcut]
   have := hj ((3 : Int) + sz) (some [.int .i64 0, .bool false, .vs 1 [] .nil, .vs 7 [] .nil, .int .i64 0, .vs 2 [] .nil, .str [], .int .i64 0]) 3 false [] .nil [] .nil 0 [] .nil ((z.drop 3).take sz) (z.drop (3 + sz)) (.inl ⟨rfl, rfl⟩) (.inl ⟨rfl, rfl⟩) (.inl ⟨rfl, rfl⟩) (by simp; omega) ⟨_, rfl, rfl⟩ hq
   simpa [ndC] using this
  rw [if_neg c3] at hq
  by_cases c4 : x.toNat = 4
  ·rw [if_pos c4] at hq
   simp [c4]
   have := hj 1 (some [.int .i64 0, .bool false, .vs 1 [] .nil, .vs 7 [] .nil, .int .i64 0, .vs 2 [] .nil, .str [], .int .i64 0]) 4 false [] .nil [] .nil 0 [] .nil [] (z.drop 1) (.inl ⟨rfl, rfl⟩) (.inl ⟨rfl, rfl⟩) (.inl ⟨rfl, rfl⟩) (by simp; omega) ⟨_, rfl, rfl⟩ hq
   simpa [ndC] using this
  ·rw [if_neg c4, Ck] at hq
   simp [e1, e2, e3, e4, c1, c2, c3, c4]
   exact hq
theorem WS (P : List Dc) (i : Nat) : LO P (i : Int) = (P[i]?).getD Dc.none := by
 have : ¬ ((i : Int) < 0) := by omega
 simp [LO, this]
structure Less (f g : Fnd) : Prop where
 kind : f.kind = g.kind
 dirs : f.dirs.length = g.dirs.length
 sp : f.kind ≠ 0 → f.sp = (g.sp.1 + 1, g.sp.2)
def SK (l : List Node) : Bool := decide (l.length ≤ 8) && l.all fun n => n.small && BT n
theorem X5 {l : List Node} : SK l = true ↔ l.length ≤ 8 ∧ ∀ n ∈ l, n.small = true ∧ BT n = true := by simp [SK]
def At (P : List Dc) (i : Nat) (n : Node) : Prop := ∀ j, j < n.count → P[i + j]? = (n.tab i)[j]?
theorem Th : ∀ {l : List Node} {k : Nat} {x : Node} (b : Nat), l[k]? = some x → ∀ j, j < x.count → (Node.tabs l b)[Node.counts (l.take k) + j]? = (x.tab (b + Node.counts (l.take k)))[j]?
 | [], k, x, b, h, _, _ => by simp at h
 | y :: l, 0, x, b, h, j, hj => by
  simp at h
  subst h
  rw [Node.tabs_cons]
  simp only [List.take_zero, Node.counts, Nat.zero_add, Nat.add_zero]
  rw [List.getElem?_append_left (by rw [Node.tab_len]; exact hj)]
 | y :: l, k + 1, x, b, h, j, hj => by
  simp at h
  have := Th (b + y.count) h j hj
  rw [Node.tabs_cons, List.take_succ_cons, Node.counts, List.getElem?_append_right (by rw [Node.tab_len]; omega), Node.tab_len, show y.count + Node.counts (l.take k) + j - y.count = Node.counts (l.take k) + j by omega, this, Nat.add_assoc]
theorem At.hd {P : List Dc} {i : Nat} {n : Node} (h : At P i n) : P[i]? = some (n.hd i) := by
 have := h 0 (by rw [Node.count_eq]; omega)
 rw [Node.tab_eq] at this
 simpa using this
theorem At.ino {P : List Dc} {i : Nat} {n : Node} (h : At P i n) : LO P (i : Nat) = n.hd i := by rw [WS, h.hd]; rfl
theorem At.kid {P : List Dc} {i : Nat} {n : Node} (h : At P i n) {k : Nat} {x : Node} (hk : n.items[k]? = some x) : At P (i + 1 + Node.counts (n.items.take k)) x := fun j hj => by
 have h1 := Th (i + 1) hk j hj
 have h2 : Node.counts (n.items.take k) + x.count ≤ Node.counts n.items := by
  have : ∀ (l : List Node) (k : Nat), l[k]? = some x → Node.counts (l.take k) + x.count ≤ Node.counts l := by
   intro l
   induction l with
   | nil => intro k h; simp at h
   | cons y l ih =>
    intro k h
    cases k with
    | zero => simp at h; subst h; simp [Node.counts]
    | succ k => simp at h; have := ih k h; simp only [List.take_succ_cons, Node.counts]; omega
  exact this _ _ hk
 have h3 := h (1 + (Node.counts (n.items.take k) + j)) (by rw [Node.count_eq]; omega)
 rw [Node.tab_eq, Nat.add_comm 1, List.getElem?_cons_succ, h1] at h3
 rw [← h3]
 congr 1
 omega
def Stands (L : List (List Dc)) (x : Spot) (n : Node) : Prop := ∃ P, L[x.1]? = some P ∧ At P x.2 n
def OnP (L : List (List Dc)) : List Spot → List Node → Prop
 | [], [] => True
 | x :: p, n :: l => Stands L x n ∧ OnP L p l
 | _, _ => False
mutual
def Node.pre : Node → List Node
 | .mk k o ns its ir sz es er t => .mk k o ns its ir sz es er t :: Node.pres its
def Node.pres : List Node → List Node
 | [] => []
 | n :: l => n.pre ++ Node.pres l
end
theorem Node.pre_eq (n : Node) : n.pre = n :: Node.pres n.items := by cases n; rw [Node.pre]; rfl
theorem Node.pres_nil : Node.pres [] = [] := by rw [Node.pres]
theorem Node.pres_cons (n : Node) (l : List Node) : Node.pres (n :: l) = n.pre ++ Node.pres l := by rw [Node.pres]
theorem Node.pre_len (n : Node) : n.pre.length = n.count := by
 induction n using Node.ind with
 | h n ih =>
  have : ∀ (l : List Node), (∀ x ∈ l, x.pre.length = x.count) → (Node.pres l).length = Node.counts l := by
   intro l
   induction l with
   | nil => intro _; rw [Node.pres_nil]; simp [Node.counts]
   | cons x l ihl => intro h; rw [Node.pres_cons, List.length_append, h x (by simp), ihl (fun y hy => h y (by simp [hy])), Node.counts]
  rw [Node.pre_eq, List.length_cons, this _ ih, Node.count_eq]
  omega
theorem Sf : ∀ {l : List Node} {m : Nat} {x : Node}, (Node.pres l)[m]? = some x → ∃ j c k, l[j]? = some c ∧ m = Node.counts (l.take j) + k ∧ c.pre[k]? = some x
 | [], m, x, h => by rw [Node.pres_nil] at h; simp at h
 | y :: l, m, x, h => by
  rw [Node.pres_cons] at h
  by_cases c : m < y.pre.length
  ·rw [List.getElem?_append_left c] at h
   exact ⟨0, y, m, rfl, by simp [Node.counts], h⟩
  ·rw [List.getElem?_append_right (by omega)] at h
   obtain ⟨j, d, k, h1, h2, h3⟩ := Sf h
   rw [Node.pre_len] at h2 c
   exact ⟨j + 1, d, k, by simpa using h1, by simp only [List.take_succ_cons, Node.counts]; omega, h3⟩
theorem At.pre {P : List Dc} (n : Node) : ∀ {i k : Nat} {x : Node}, At P i n → n.pre[k]? = some x → At P (i + k) x := by
 induction n using Node.ind with
 | h n ih =>
  intro i k x h hk
  rw [Node.pre_eq] at hk
  cases k with
  | zero => simp at hk; subst hk; exact h
  | succ k =>
   simp only [List.getElem?_cons_succ] at hk
   obtain ⟨j, c, m, h1, h2, h3⟩ := Sf hk
   have := ih c (List.mem_of_getElem? h1) (h.kid h1) h3
   rw [h2, show i + (Node.counts (n.items.take j) + m + 1) = i + 1 + Node.counts (n.items.take j) + m by omega]
   exact this
end Go.Av
