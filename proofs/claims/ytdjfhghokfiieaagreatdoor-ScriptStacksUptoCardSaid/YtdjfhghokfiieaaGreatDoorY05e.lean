/- Parts of the proofs of this seat: abstract values over the model, and what the functions of the program do. No condition. -/
import Derived.Test.YtdjfhghokfiieaaGreatDoorY05d
import Derived.Test.YtdjfhghokfiieaaGreatDoorX04L
import Derived.Test.YtdjfhghokfiieaaGreatDoorX05e
import Derived.Test.YtdjfhghokfiieaaGreatDoorX03
import Derived.Test.YtdjfhghokfiieaaGreatDoorXBld
set_option linter.all false
namespace Go.Av
theorem Fg : Co.length = 7 := rfl
theorem Qx {s : Str} {n : Node} (h : Cw s = some n) : s = Co ++ n.enc ∧ BT n = true ∧ s.length ≤ 4194304 := by
 unfold Cw at h
 split at h
 ·cases h
 ·rename_i c
  simp only [not_or, Classical.not_not] at c
  obtain ⟨c1, c2, c3⟩ := c
  simp only at h
  split at h
  ·rename_i c4
   cases h
   obtain ⟨k1, k2, k3⟩ := c4
   obtain ⟨_, r2, r3, r4⟩ := ES k3
   have := (RS.node_of 16 _ k1).2 r2
   rw [k2, List.append_nil] at this
   refine ⟨?_, k3, by omega⟩
   rw [← this]
   show s = Co ++ s.drop 7
   rw [show Co = s.take 7 from c3.symm, List.take_append_drop]
  ·cases h
theorem WO {s : Str} {n : Node} (h : IN s = some n) : s = Co ++ n.enc ∧ BT n = true ∧ s.length ≤ 4194304 := by
 unfold IN at h
 split at h
 ·cases h
 ·rename_i c
  simp only [not_or, Classical.not_not] at c
  obtain ⟨c1, c2, c3⟩ := c
  split at h
  ·rename_i n' r hg
   split at h
   ·rename_i c4
    cases h
    obtain ⟨rfl, k3⟩ := c4
    have := Ns _ _ _ _ hg
    rw [List.append_nil] at this
    refine ⟨?_, k3, by omega⟩
    rw [← this]
    show s = Co ++ s.drop 7
    rw [show Co = s.take 7 from c3.symm, List.take_append_drop]
   ·cases h
  ·cases h
theorem Ok (t : Str) : (Co ++ t).take 7 = Co ∧ (Co ++ t).drop 7 = t := ⟨by rw [List.take_append_of_le_length (by rw [Fg]; omega)]; rfl, by rw [List.drop_append_of_le_length (by rw [Fg]; omega)]; rfl⟩
theorem U3 {a b : Node} (h : a.sameB b = true) : a.kind = b.kind ∧ a.names.l = b.names.l := by
 rw [Node.same_eq] at h
 simp only [Bool.and_eq_true, decide_eq_true_eq] at h
 exact ⟨h.1, h.2.2.2.2.1⟩
theorem Wb {a b : Node} (h : a.sameB b = true) : JC a = JC b := by
 rw [Node.same_eq] at h
 simp only [Bool.and_eq_true, decide_eq_true_eq] at h
 obtain ⟨h1, h2, h3, h4, h5, h6, h7⟩ := h
 have h8 : a.items.length = b.items.length := UU h7
 simp only [JC, Cg, CK, Dd, h1, h2, h3, h4, h5, h6, h8]
theorem XW (a : Node) : ∀ b : Node, a.sameB b = true → a.allB = b.allB ∧ a.count = b.count ∧ a.depth = b.depth := by
 induction a using Node.ind with
 | h a ih =>
  intro b h
  have h0 := Wb h
  rw [Node.same_eq] at h
  simp only [Bool.and_eq_true, decide_eq_true_eq] at h
  have h7 := h.2.2.2.2.2.2
  rw [Node.all_eq, Node.all_eq, Node.count_eq, Node.count_eq, Node.depth_eq, Node.depth_eq, h0]
  have : ∀ (l m : List Node), (∀ x ∈ l, x ∈ a.items) → Node.samesB l m = true → Node.allsB l = Node.allsB m ∧ Node.counts l = Node.counts m ∧ Node.depths l = Node.depths m := by
   intro l
   induction l with
   | nil =>
    intro m _ hm
    cases m with
    | nil => exact ⟨rfl, rfl, rfl⟩
    | cons y m => simp at hm
   | cons x l ihl =>
    intro m hmem hm
    cases m with
    | nil => simp at hm
    | cons y m =>
     rw [Node.sames_cons] at hm
     simp only [Bool.and_eq_true] at hm
     obtain ⟨p1, p2, p3⟩ := ih x (hmem x (by simp)) y hm.1
     obtain ⟨q1, q2, q3⟩ := ihl m (fun z hz => hmem z (by simp [hz])) hm.2
     rw [Node.allsB, Node.allsB, Node.counts, Node.counts, Node.depths, Node.depths, p1, p2, p3, q1, q2, q3]
     exact ⟨rfl, rfl, rfl⟩
  obtain ⟨q1, q2, q3⟩ := this a.items b.items (fun _ h => h) h7
  rw [q1, q2, q3]
  exact ⟨rfl, rfl, rfl⟩
theorem Og {a b : Node} (h : a.sameB b = true) : BT a = BT b := by
 obtain ⟨h1, h2, h3⟩ := XW a b h
 rw [BT, BT, (U3 h).1, h1, h2, h3]
theorem Su {n : Node} (hok : n.ok) (hr : BT n = true) (hl : 7 + n.enc.length ≤ 4194304) : ∃ n', Cw (Co ++ n.enc) = some n' ∧ n'.sameB n = true := by
 obtain ⟨r1, r2, r3, r4⟩ := ES hr
 obtain ⟨n', e1, e2⟩ := RS.node_enc n 16 [] 4096 hok r2 r3 (by omega) (by omega)
 obtain ⟨t1, t2⟩ := Ok n.enc
 refine ⟨n', ?_, e2⟩
 rw [List.append_nil] at e1
 unfold Cw
 rw [if_neg (by rw [t1, List.length_append, Fg]; simp [Co]; omega), t2, e1]
 simp only
 rw [if_pos (by simp [Og e2, hr])]
theorem X0 {n : Node} (hok : n.ok) (hr : BT n = true) (hl : 7 + n.enc.length ≤ 4194304) : ∃ n', IN (Co ++ n.enc) = some n' ∧ n'.sameB n = true := by
 obtain ⟨r1, r2, r3, r4⟩ := ES hr
 obtain ⟨n', e1, e2⟩ := Xa n 16 [] hok r2 r3 (by omega)
 obtain ⟨t1, t2⟩ := Ok n.enc
 refine ⟨n', ?_, e2⟩
 rw [List.append_nil] at e1
 unfold IN
 rw [if_neg (by rw [t1, List.length_append, Fg]; simp [Co]; omega), t2, e1]
 simp only
 rw [if_pos (by simp [Og e2, hr])]
open Go.Proofs
theorem Tl {x : Ext} : ∀ {l : List Ext}, x ∈ l → x.data.length ≤ (l.map fun x => x.data.length).sum
 | y :: l, h => by
  rcases List.mem_cons.1 h with rfl | h
  ·simp
  ·have := Tl h; simp; omega
theorem TG (n : Node) : n.depth < n.count := by
 induction n using Node.ind with
 | h n ih =>
  rw [Node.depth_eq, Node.count_eq]
  have : ∀ l : List Node, (∀ x ∈ l, x.depth < x.count) → Node.depths l ≤ Node.counts l := by
   intro l
   induction l with
   | nil => simp [Node.depths]
   | cons x l ihl =>
    intro h
    have h1 := h x (by simp)
    have h2 := ihl fun y hy => h y (by simp [hy])
    rw [Node.depths, Node.counts]
    omega
  have := this _ ih
  omega
theorem Vs : ∀ (f : Nat) (s : Str) (n : Node) (r : Str), s.length ≤ 1048568 → D9 f s = some (n, r) → n.ok ∧ n.weight + r.length ≤ s.length := by
 intro f
 induction f with
 | zero => intro s n r _ h; rw [D9] at h; cases h
 | succ f ih =>
  intro s n r hl h
  have hs := Ns _ _ _ _ h
  have hrl : r.length ≤ s.length := by rw [hs]; simp
  rw [D9] at h
  obtain ⟨⟨k, s1⟩, h1, h⟩ := Option.bind_eq_some_iff.1 h
  obtain ⟨i1, j1⟩ := B5 h1
  have l1 : s1.length ≤ s.length := by rw [i1]; simp
  rw [p1] at j1
  simp only at h
  by_cases c1 : k = 1
  ·rw [if_pos c1] at h
   obtain ⟨⟨b, s2⟩, h2, h⟩ := Option.bind_eq_some_iff.1 h
   obtain ⟨⟨c, s3⟩, h3, h⟩ := Option.bind_eq_some_iff.1 h
   obtain ⟨⟨e, s4⟩, h4, h⟩ := Option.bind_eq_some_iff.1 h
   cases h
   obtain ⟨i2, j2⟩ := B5 h2
   obtain ⟨i3, _⟩ := B5 h3
   obtain ⟨i4, i5⟩ := R3 h4
   simp only at i3 i4 i5
   rw [p4] at j2
   have q1 := congrArg List.length i2
   have q2 := congrArg List.length i3
   have q3 := congrArg List.length i5
   simp at q1 q2 q3
   have q4 := MC e
   have hx : ∀ (c : Nat) (s r : Str) (l : List Ext), I2 c s = some (l, r) → ∀ x ∈ l, 0 ≤ x.off ∧ x.off < 4294967296 := by
    intro c
    induction c with
    | zero => intro s r l h; rw [I2] at h; cases h; simp
    | succ c ih =>
     intro s r l h
     rw [I2] at h
     obtain ⟨⟨a, t1⟩, g1, h⟩ := Option.bind_eq_some_iff.1 h
     obtain ⟨⟨b, t2⟩, g2, h⟩ := Option.bind_eq_some_iff.1 h
     obtain ⟨⟨l', t3⟩, g3, h⟩ := Option.bind_eq_some_iff.1 h
     cases h
     have := (B5 g1).2
     rw [p4] at this
     intro x hx
     rcases List.mem_cons.1 hx with rfl | hx
     ·simp; omega
     ·exact ih _ _ _ g3 x hx
   try dsimp only at *
   refine ⟨Ms (ns := []) (its := []) (by unfold I64; omega) (by simp) (by simp) (by unfold I64; omega) ⟨by omega, fun x hxm => ?_⟩ (by simp), ?_⟩
   ·have := hx _ _ _ _ h4 x hxm
    have hd := Tl hxm
    unfold Ext.ok
    omega
   ·rw [Node.weight_eq]
    unfold Node.own
    simp [Node.weights]
    omega
  rw [if_neg c1] at h
  by_cases c2 : k = 2
  ·rw [if_pos c2] at h
   obtain ⟨⟨b, s2⟩, h2, h⟩ := Option.bind_eq_some_iff.1 h
   obtain ⟨⟨c, s3⟩, h3, h⟩ := Option.bind_eq_some_iff.1 h
   simp only at h
   by_cases c5 : 1 < b
   ·rw [if_pos c5] at h; cases h
   rw [if_neg c5] at h
   obtain ⟨⟨ss, l, s4⟩, h4, h⟩ := Option.bind_eq_some_iff.1 h
   cases h
   obtain ⟨i2, _⟩ := B5 h2
   obtain ⟨i3, _⟩ := B5 h3
   simp only at i3
   have q1 := congrArg List.length i2
   have q2 := congrArg List.length i3
   simp at q1 q2
   have hI : ∀ (c : Nat) (s r : Str) (ss : List Str) (l : List Node), s.length ≤ 1048568 → Hh (D9 f) c s = some (ss, l, r) → ss.length + r.length ≤ s.length ∧ l.length = ss.length ∧ (∀ x ∈ ss, x.length ≤ 1048576) ∧ (∀ x ∈ l, x.ok) ∧ ss.length + Node.weights l + r.length ≤ s.length := by
    intro c
    induction c with
    | zero => intro s r ss l _ h; rw [Hh] at h; cases h; simp [Node.weights]
    | succ c ihc =>
     intro s r ss l hl h
     rw [Hh] at h
     obtain ⟨⟨a, t1⟩, g1, h⟩ := Option.bind_eq_some_iff.1 h
     obtain ⟨⟨b, t2⟩, g2, h⟩ := Option.bind_eq_some_iff.1 h
     obtain ⟨⟨ss', l', t3⟩, g3, h⟩ := Option.bind_eq_some_iff.1 h
     cases h
     obtain ⟨u1, u2⟩ := EX g1
     have u3 := congrArg List.length u1
     simp [Ep] at u3
     try dsimp only at *
     obtain ⟨v1, v2⟩ := ih _ _ _ (by omega) g2
     try dsimp only at *
     obtain ⟨w1, w2, w3, w4, w5⟩ := ihc _ _ _ _ (by omega) g3
     refine ⟨by simp; omega, by simp [w2], ?_, ?_, by rw [Node.weights, List.length_cons]; omega⟩
     ·intro x hx
      rcases List.mem_cons.1 hx with rfl | hx
      ·omega
      ·exact w3 x hx
     ·intro x hx
      rcases List.mem_cons.1 hx with rfl | hx
      ·exact v1
      ·exact w4 x hx
   try dsimp only at *
   obtain ⟨w1, w2, w3, w4, w5⟩ := hI _ _ _ _ _ (by omega) h4
   refine ⟨Ms (es := []) (by unfold I64; omega) ⟨by omega, w3⟩ ⟨by omega, w4⟩ (by unfold I64; omega) (by simp) (by simp), ?_⟩
   rw [Node.weight_eq]
   unfold Node.own
   simp
   omega
  rw [if_neg c2] at h
  by_cases c3 : k = 3
  ·rw [if_pos c3] at h
   obtain ⟨⟨b, s2⟩, h2, h⟩ := Option.bind_eq_some_iff.1 h
   cases h
   obtain ⟨i2, _⟩ := EX h2
   have q1 := congrArg List.length i2
   simp [Ep] at q1
   try dsimp only at *
   refine ⟨Ms (ns := []) (its := []) (es := []) (by unfold I64; omega) (by simp) (by simp) (by unfold I64; omega) (by simp) (by omega), ?_⟩
   rw [Node.weight_eq]
   unfold Node.own
   simp [Node.weights]
   omega
  rw [if_neg c3] at h
  by_cases c4 : k = 4
  ·rw [if_pos c4] at h
   cases h
   refine ⟨Ms (ns := []) (its := []) (es := []) (by unfold I64; omega) (by simp) (by simp) (by unfold I64; omega) (by simp) (by simp), ?_⟩
   have q1 := congrArg List.length i1
   simp at q1
   rw [Node.weight_eq]
   unfold Node.own
   simp [Node.weights]
   omega
  rw [if_neg c4] at h
  cases h
theorem PS {w0 : World} {S : St} {s : Str} (hs : s.length ≤ 1048575) {Q : AV → St → Prop}
  (hq : (∀ n, IN s = some n → n.ok → Q (.tup [.agg n.c, .bool true]) S) ∧ (IN s = none → Q (.tup [.agg Node.none.c, .bool false]) S)) : AC w0 Gi [.str s] S Q := by
 apply Na
 unfold Gl
 have hn0 : IN s = none → Q (.tup [.agg [.int .i64 0, .bool false, .vs 1 [] .nil, .vs 7 [] .nil, .int .i64 0, .vs 2 [] .nil, .str []], .bool false]) S := fun h => by
  have := hq.2 h
  rwa [Node.none_c] at this
 by_cases c1 : s.length < 7
 ·have : IN s = none := by simp [IN, c1]
  simp [AD, show ¬ (4194304 < (s.length : Int)) by omega, show (s.length : Int) < 7 by omega]
  exact hn0 this
 by_cases c2 : s.take 7 = [115, 111, 99, 97, 103, 101, 49]
 case neg =>
  have : IN s = none := by simp [IN, c2]
  simp [AD, show ¬ (4194304 < (s.length : Int)) by omega, show ¬ (s.length : Int) < 7 by omega, show 7 ≤ s.length by omega, c2]
  exact hn0 this
 simp [AD, show ¬ (4194304 < (s.length : Int)) by omega, show ¬ (s.length : Int) < 7 by omega, show 7 ≤ s.length by omega, c2]
 have hd : IN s = match D9 16 (s.drop 7) with | some (n, r) => if r = [] ∧ BT n = true then some n else none | none => none := by
  rw [IN, if_neg (by simp [c1, c2]; omega)]
  cases D9 16 (s.drop 7) with
  | none => rfl
  | some p => rfl
 refine SX 16 (d := 0) (by omega) (by simp) (by simp; omega) ?_
 cases hg : D9 16 (s.drop 7) with
 | none =>
  rw [hg] at hd
  rw [Ck]
  try simp (disch := omega) only [wrap64]
  simp [show ¬ ((-1 : Int) = (s.length : Int) - 7) by omega]
  exact hn0 hd
 | some p =>
  obtain ⟨n, r⟩ := p
  rw [hg] at hd
  simp only at hd
  obtain ⟨hok, hrl⟩ := Vs _ _ _ _ (by simp; omega) hg
  have hcw := n.count_weight
  have hdc := TG n
  simp at hrl
  have hgc : NF (some (n, r)) (s.drop 7).length = n.c ++ [.int .i64 ((s.length : Int) - 7 - r.length)] := by
   simp only [NF]
   congr 3
   simp; omega
  have q1 : (n.c ++ [AV.int .i64 ((s.length : Int) - 7 - r.length)]).length = 8 := by simp
  have q2 : (n.c ++ [AV.int .i64 ((s.length : Int) - 7 - r.length)])[7]? = some (.int .i64 ((s.length : Int) - 7 - r.length)) := by
   rw [List.getElem?_append_right (by simp)]; simp
  have q3 : (n.c ++ [AV.int .i64 ((s.length : Int) - 7 - r.length)]).take 7 = n.c := by
   rw [List.take_append_of_le_length (by simp)]; simp
  have q4 : (AV.agg (n.c ++ [AV.int .i64 ((s.length : Int) - 7 - r.length)])).free = true := by
   rw [Node.c_eq]; simp
  rw [hgc]
  generalize n.c ++ [AV.int .i64 ((s.length : Int) - 7 - r.length)] = G at q1 q2 q3 q4 ⊢
  have q5 : G[7]'(by omega) = .int .i64 ((s.length : Int) - 7 - r.length) := (List.getElem?_eq_some_iff.1 q2).2
  have q6 : (∀ x, x ∈ G → x.free1 = true) = True := eq_true (by simpa using q4)
  have q7 : G.drop 8 = [] := by simp; omega
  try simp (disch := omega) only [wrap64]
  simp [q1, q3, q5, q6, q7]
  by_cases c3 : r = []
  case neg =>
   have hp := List.length_pos_iff.2 c3
   have hne : ¬ ((s.length : Int) - 7 - (r.length : Int) = (s.length : Int) - 7) := by omega
   simp [hne]
   exact hn0 (by rw [hd]; simp [c3])
  simp [c3]
  refine Ha hok (by omega) (by omega) ?_
  cases hr : BT n with
  | false =>
   simp
   exact hn0 (by rw [hd]; simp [hr])
  | true =>
   simp
   exact hq.1 n (by rw [hd]; simp [hr, c3]) hok
open Go.Proofs
theorem Rc {n : Node} (h : n.small = true) : n.weight ≤ 400 ∧ n.depth ≤ 30 ∧ n.count ≤ 400 := by
 obtain ⟨h1, h2⟩ := Node.small_spec h
 have := n.count_weight
 omega
theorem Mq {n : Node} (h : n.small = true) (hr : BT n = true) : 7 + n.enc.length ≤ 50000 ∧ VU n = some (Co ++ n.enc) := by
 obtain ⟨h1, h2, h3⟩ := Rc h
 have := Vn n (ES hr).2.1
 refine ⟨by omega, ?_⟩
 rw [VU, if_pos ⟨hr, by omega⟩]
theorem TyV.u16 {t : TypeId} {x : AV} (h : TV t x) (hu : Tryz.prog.underlying t = some (.int .u16)) : ∃ n : Nat, x = .int .u16 n ∧ n < 65536 := by
 obtain ⟨n, e, hw⟩ := (h.one (by simp [isAgg, hu])).int_inv hu
 simp [Lit.wf, IntKind.min, IntKind.max, IntKind.signed, IntKind.bits] at hw
 refine ⟨n.toNat, ?_, by omega⟩
 have : ((n.toNat : Nat) : Int) = n := by omega
 rw [this]
 simpa using e
open Go.Proofs
theorem Vz {l : List Node} (hl : l.length ≤ 8) : SK l = l.all fun n => n.small && BT n := by simp [SK, hl]
theorem Xo {p : Node → Bool} {l : List Node} {i : Nat} {x : Node} (h : l[i]? = some x) : (l.drop i).all p = (p x && (l.drop (i + 1)).all p) := by
 have hi := (List.getElem?_eq_some_iff.1 h).1
 rw [List.drop_eq_getElem_cons hi, List.all_cons, (List.getElem?_eq_some_iff.1 h).2]
set_option maxRecDepth 100000 in
theorem Sq {w0 : World} {l : List Node} {r : Rt} {S : St} (hok : ∀ n ∈ l, n.ok) {Q : AV → St → Prop} (hq : ∀ S', Sx S S' → Q (.int .i64 (if SK l = true then 1 else 0)) S') : AC w0 JH [.vs 7 (l.map Node.c) r] S Q := by
 apply RP
 unfold Je
 by_cases c : (8 : Int) < l.length
 ·have := hq S (Sx.refl _)
  have e : SK l = false := by simp [SK]; omega
  rw [e] at this
  simp [c]
  exact this
 simp [c, AD]
 refine BI l (fun i (_ : Unit) => ([.int .i64 i], [])) (fun i _ S' => Sx S S' ∧ SK l = (l.drop i).all fun n => n.small && BT n) () rfl ⟨Sx.refl _, by rw [Vz (by omega)]; simp⟩ ?_ ?_
 ·rintro i _ S' v b n c hxi hd hc hmem ⟨hSx, he⟩ hv
  simp at hv
  rw [Xo hxi] at he
  simp [hv, hc, hxi]
  refine QD (hok n hmem) (fun S2 hS2 => ?_)
  cases hs : n.small with
  | false =>
   rw [hs] at he
   have := hq S2 (hSx.trans hS2)
   rw [he] at this
   simp
   simpa using this
  | true =>
   obtain ⟨b1, b2⟩ := Node.small_spec hs
   have b3 := n.count_weight
   simp
   refine Ha (hok n hmem) (by omega) (by omega) ?_
   cases hr : BT n with
   | false =>
    rw [hs, hr] at he
    have := hq S2 (hSx.trans hS2)
    rw [he] at this
    simp
    simpa using this
   | true =>
    rw [hs, hr] at he
    simp
    try simp (disch := omega) only [wrap64]
    exact .next c () rfl ⟨hSx.trans hS2, by simpa using he⟩
 ·rintro _ S' v b ⟨hSx, he⟩ hv N
  simp at hv
  rw [List.drop_length, List.all_nil] at he
  have := hq S' hSx
  rw [he] at this
  simp [hv]
  simpa using this
open Go.Proofs
@[simp] theorem aB : F4 .ptr .eql .nil .nil = some (.bool true) := rfl
@[simp] theorem Zr (i o : Nat) : F4 .ptr .eql (.ptr i o) .nil = some (.bool false) := rfl
@[simp] theorem ZR : F4 .ptr .neq .nil .nil = some (.bool false) := rfl
@[simp] theorem Yr (i o : Nat) : F4 .ptr .neq (.ptr i o) .nil = some (.bool true) := rfl
@[simp] theorem Node.cg0 (n : Node) (h : 0 < n.c.length) : n.c[0] = .int .i64 n.kind := by have := n.c_eq; simp only [this]; rfl
@[simp] theorem Node.cg1 (n : Node) (h : 1 < n.c.length) : n.c[1] = .bool n.opq := by have := n.c_eq; simp only [this]; rfl
@[simp] theorem Node.cg2 (n : Node) (h : 2 < n.c.length) : n.c[2] = n.names.v := by have := n.c_eq'; simp only [this]; rfl
@[simp] theorem Node.cg3 (n : Node) (h : 3 < n.c.length) : n.c[3] = .vs 7 (n.items.map Node.c) n.ir.strip := by have := n.c_eq'; simp only [this]; rfl
@[simp] theorem Node.cg4 (n : Node) (h : 4 < n.c.length) : n.c[4] = .int .i64 n.size := by have := n.c_eq; simp only [this]; rfl
@[simp] theorem Node.cg5 (n : Node) (h : 5 < n.c.length) : n.c[5] = .vs 2 (n.exts.map Ext.c) n.er.strip := by have := n.c_eq'; simp only [this]; rfl
@[simp] theorem Node.cg6 (n : Node) (h : 6 < n.c.length) : n.c[6] = .str n.target := by have := n.c_eq; simp only [this]; rfl
open Go.Proofs
theorem OnP.len {L : List (List Dc)} : ∀ {p : List Spot} {l : List Node}, OnP L p l → p.length = l.length
 | [], [], _ => rfl
 | _ :: p, _ :: l, h => by simp [OnP.len h.2]
 | [], _ :: _, h => h.elim
 | _ :: _, [], h => h.elim
theorem OnP.get {L : List (List Dc)} : ∀ {p : List Spot} {l : List Node} {k : Nat} {x : Spot}, OnP L p l → p[k]? = some x → ∃ n, l[k]? = some n ∧ Stands L x n
 | [], [], k, x, _, h => by simp at h
 | y :: p, m :: l, 0, x, h, hx => by simp at hx; subst hx; exact ⟨m, rfl, h.1⟩
 | y :: p, m :: l, k + 1, x, h, hx => by simp at hx; obtain ⟨n, h1, h2⟩ := OnP.get h.2 hx; exact ⟨n, by simpa using h1, h2⟩
 | [], _ :: _, _, _, h, _ => h.elim
 | _ :: _, [], _, _, h, _ => h.elim
theorem Stands.at_ {s : Stk} {x : Spot} {n : Node} (h : Stands s.tabs x n) : ∃ m, s.at_ (x.1 : Int) = some m ∧ m ∈ s.l ∧ LO m.tab (x.2 : Int) = n.hd x.2 ∧ x.1 < s.l.length := by
 obtain ⟨P, h1, h2⟩ := h
 unfold Stk.tabs at h1
 rw [List.getElem?_map, Option.map_eq_some_iff] at h1
 obtain ⟨m, h3, rfl⟩ := h1
 exact ⟨m, (Stk.at_some h3).1, List.mem_of_getElem? h3, h2.ino, (List.getElem?_eq_some_iff.1 h3).1⟩
open Go.Proofs
set_option maxRecDepth 100000 in
theorem P1 {w0 : World} (hm : If w0) {S : St} {s : Str} (hs : s.length ≤ 1048575) {Q : AV → St → Prop}
  (h1 : ∀ n, Cw s = some n → n.ok → BT n = true → ∀ S' id, Sx S S' → S.length ≤ id → Br S' id (n.tab 0) → Q (.tup [.ptr id 0, .int .i64 0]) S') (h2 : Cw s = none → ∀ S', Sx S S' → Q (.tup [.nil, .int .i64 1]) S') (h3 : ∀ n, Cw s = some n → n.ok → BT n = true) :
  AC w0 Hk [.str s] S Q := by
 apply OK
 unfold HV
 refine Nv hm hs (fun S2 hS2 => ⟨fun n hn hok => ?_, fun hn => ?_⟩)
 ·have hr := h3 n hn hok
  simp
  refine RN hm hok (fun _ S3 id hS3 hid hB => ?_) (fun hno => by rw [hr] at hno; cases hno)
  simp
  exact h1 n hn hok hr _ _ (hS2.trans hS3) (Nat.le_trans hS2.le hid) hB
 ·simp
  exact h2 hn _ hS2
end Go.Av
