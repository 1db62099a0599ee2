/- Parts of the proofs of this seat: abstract values over the model, and what the functions of the program do. No condition. -/
import Derived.Test.YtgegfcblacmbeaaDoorXJoin
import Derived.Test.YtgegfcblacmbeaaDoorY05b
set_option linter.all false
set_option linter.unusedVariables false
/-! The laws of trees. -/
namespace Go.Av
open Go.Proofs
theorem law_of {w0 : World} {f : Nat} {args : List AV} (h : ∀ Q : AV → St → Prop, (∀ S, Q (.bool true) S) → AC w0 f args [] Q) : AC w0 f args [] fun r _ => r = .bool true := h _ (fun _ => rfl)
set_option maxRecDepth 100000 in
theorem law04_TreeRight_L (w0 : World) (hm : MaxL w0) (x0 : AV) (h0 : TV t_api_Node x0) : AC w0 F_law04_TreeRight [x0] [] fun r _ => r = .bool true := by
  refine law_of fun Q hq => ?_
  obtain ⟨n, rfl, hok⟩ := h0.node
  have hcc := n.c_eq'
  rw [hcc]
  apply law04_TreeRight_ok
  unfold G_law04_TreeRight
  simp only [← hcc]
  simp
  refine law04_speaks_A hm (fun S _ => ?_)
  simp
  refine law04_Small_A hok (fun S2 _ => ?_)
  cases hs : n.small with
  | false => simp [joinK_eq, hq]
  | true =>
    obtain ⟨b1, b2⟩ := Node.small_spec hs
    have b3 := n.count_weight
    simp [joinK_eq]
    refine tree_Right_A hm hok (fun S3 _ => ?_)
    refine ref04_Right_A hok (by omega) (by omega) ?_
    simp
    refine tree_Count_A n hok (by omega) ?_
    refine ref04_Count_A n hok (by omega) ?_
    simp [hq]
set_option maxRecDepth 100000 in
theorem law04_TreeSame_L (w0 : World) (hm : MaxL w0) (x0 x1 x2 : AV) (h0 : TV t_api_Node x0) (h1 : TV t_api_Node x1) (h2 : TV t_string x2) : AC w0 F_law04_TreeSame [x0, x1, x2] [] fun r _ => r = .bool true := by
  refine law_of fun Q hq => ?_
  obtain ⟨a, rfl, hok⟩ := h0.node
  obtain ⟨b, rfl, hok2⟩ := h1.node
  obtain ⟨s, rfl, hs⟩ := h2.str un_string
  have hca := a.c_eq'
  have hcb := b.c_eq'
  rw [hca, hcb]
  apply law04_TreeSame_ok
  unfold G_law04_TreeSame
  simp only [← hca, ← hcb]
  simp
  refine law04_speaks_A hm (fun S _ => ?_)
  simp
  refine law04_Small_A hok (fun S2 _ => ?_)
  cases hs1 : a.small with
  | false => simp [joinK_eq, hq]
  | true =>
  simp [joinK_eq]
  refine law04_Small_A hok2 (fun S3 _ => ?_)
  cases hs2 : b.small with
  | false => simp [joinK_eq, hq]
  | true =>
  simp
  by_cases hl : (200 : Int) < s.length
  · simp [hl, hq]
  simp [hl]
  refine tree_Same_A a hok hok2 (ref04_Same_A a hok hok2 ?_)
  simp
  refine tree_Same_A a hok hok ?_
  rw [Node.same_refl]
  have g0 : a.c[0]? = some (.int .i64 a.kind) := by rw [hca]; rfl
  have g0' : a.c[0] = .int .i64 a.kind := (List.getElem?_eq_some_iff.1 g0).2
  simp [g0']
  by_cases k2 : a.kind = 2
  case neg => simp [k2, hq]
  simp [k2]
  refine ref04_One_A hok ?_
  cases ho : oneB a with
  | false => simp [hq]
  | true =>
  have hn : namesB a = true := by
    simp only [oneB, Bool.and_eq_true] at ho
    simpa [kindB, k2] using ho.2
  simp
  refine tree_Find_A hok hn ?_
  simp
  refine ref04_Find_A hok ?_
  obtain ⟨hc, hlen⟩ := namesB_iff hn
  have hok3 := hok
  rw [Node.ok_iff] at hok3
  obtain ⟨h1, h2, h3, h4, h5, h6, h7⟩ := hok3
  cases hf : a.names.l.findIdx? (fun x => decide (x = s)) with
  | none =>
    rw [Node.find_none hf]
    simp [← Node.none_c]
    refine ref04_Same_A _ Node.none_ok Node.none_ok ?_
    rw [Node.same_refl]
    simp [hq]
  | some k =>
    have hk := (List.findIdx?_eq_some_iff_getElem.1 hf).1
    obtain ⟨x, hx⟩ : ∃ x, a.items[k]? = some x := ⟨a.items[k]'(by omega), by simp [show k < a.items.length by omega]⟩
    rw [Node.find_some hf, hx]
    have hxm := List.mem_of_getElem? hx
    have g3 : a.c[3]? = some (.vs 7 (a.items.map Node.c) a.ir.strip) := by rw [hca]; rfl
    have g3' : a.c[3] = .vs 7 (a.items.map Node.c) a.ir.strip := (List.getElem?_eq_some_iff.1 g3).2
    simp [show ¬ ((k : Int) < 0) by omega, g3', hx]
    refine ref04_Same_A _ (h4 x hxm) (h4 x hxm) ?_
    rw [Node.same_refl]
    simp [hq]
/-- A whiteout. -/
abbrev whiteN : Node := .mk 4 false ⟨[], .nil⟩ [] .nil 0 [] .nil []
theorem whites_ok {k : Nat} : ∀ x ∈ List.replicate k whiteN, x.ok := fun x hx => by
  rw [(List.mem_replicate.1 hx).2]
  exact white_ok
theorem Node.sames_refl : ∀ l : List Node, Node.samesB l l = true
  | [] => by simp
  | x :: l => by rw [Node.sames_cons, Node.same_refl, Node.sames_refl l]; rfl
theorem Node.same_of {a b : Node} (h1 : a.kind = b.kind) (h2 : a.opq = b.opq) (h3 : a.size = b.size) (h4 : a.target = b.target) (h5 : a.names.l = b.names.l) (h6 : a.exts = b.exts) (h7 : a.items = b.items) : a.sameB b = true := by
  rw [Node.same_eq, h7, Node.sames_refl]
  simp [h1, h2, h3, h4, h5, h6]
theorem counts_whites : ∀ k : Nat, Node.counts (List.replicate k whiteN) = k ∧ Node.depths (List.replicate k whiteN) ≤ 1
  | 0 => by simp [Node.counts, Node.depths]
  | k + 1 => by
    obtain ⟨h1, h2⟩ := counts_whites k
    rw [List.replicate_succ, Node.counts, Node.depths, h1, Node.count_eq, Node.depth_eq]
    simp [Node.items, Node.counts, Node.depths]
    omega
/-- A chain of directories. -/
structure Chain (k : Nat) (d : Node) : Prop where
  ok : d.ok
  kind : d.kind = 2
  count : d.count = k + 1
  depth : d.depth = k
  all : d.allB = true
theorem Chain.zero {q1 q2 : Rt} (k1 : okR q1 ([] : List Str)) (k2 : okR q2 ([] : List Node)) : Chain 0 (dirN false [] q1 [] q2) :=
  ⟨dirN_ok (by simp) (by simp) k1 k2, rfl, rfl, rfl, rfl⟩
theorem Chain.succ {k : Nat} {d : Node} (h : Chain k d) {q1 q2 : Rt} (k1 : okR q1 [([97] : Str)]) (k2 : okR q2 [d]) : Chain (k + 1) (dirN false [[97]] q1 [d] q2) := by
  refine ⟨dirN_ok (by simp) (by simp [h.ok]) k1 k2, rfl, ?_, ?_, ?_⟩
  · rw [Node.count_eq]; show 1 + Node.counts [d] = _; rw [Node.counts, Node.counts, h.count]; omega
  · rw [Node.depth_eq]; show Node.depths [d] = _; rw [Node.depths, Node.depths, h.depth]; omega
  · rw [Node.all_eq]; show (Node.allsB [d] && _) = true; rw [Node.allsB, h.all]; rfl
set_option maxRecDepth 100000 in
theorem law04_TreeMakes_L (w0 : World) (hm : MaxL w0) (x0 x1 x2 : AV) (h0 : TV t_string x0) (h1 : TV t_s_string x1) (h2 : TV t_uint8 x2) : AC w0 F_law04_TreeMakes [x0, x1, x2] [] fun r _ => r = .bool true := by
  refine law_of fun Q hq => ?_
  obtain ⟨s, rfl, hs⟩ := h0.str un_string
  obtain ⟨nm, e1, hnm⟩ := dec_Ss _ (h1.one (by simp [isAgg, un_s_string]))
  obtain ⟨deep, rfl, hdeep⟩ := h2.u8 un_uint8
  have e1' : x1 = nm.v := by simpa using e1
  subst e1'
  apply law04_TreeMakes_ok
  unfold G_law04_TreeMakes
  refine law04_speaks_A hm (fun S _ => ?_)
  simp
  by_cases c1 : (200 : Int) < s.length
  · simp [c1, joinK_eq, hq]
  by_cases c2 : (20 : Int) < nm.l.length
  · simp [c1, c2, joinK_eq, hq]
  simp [c1, c2, joinK_eq]
  refine tree_Text_A (by omega) (fun r hr => ?_)
  rw [show Node.mk 1 false ⟨[], .nil⟩ [] .nil s.length (ofE 0 s) r [] = textN s r from rfl]
  have g0 : (textN s r).c[0]? = some (.int .i64 1) := by rw [Node.c_eq]; rfl
  have g0' : (textN s r).c[0] = .int .i64 1 := (List.getElem?_eq_some_iff.1 g0).2
  have g4 : (textN s r).c[4]? = some (.int .i64 s.length) := by rw [Node.c_eq]; rfl
  have g4' : (textN s r).c[4] = .int .i64 s.length := (List.getElem?_eq_some_iff.1 g4).2
  have g5 : (textN s r).c[5]? = some (.vs 2 ((ofE 0 s).map Ext.c) r.strip) := by rw [Node.c_eq]; rfl
  have g5' : (textN s r).c[5] = .vs 2 ((ofE 0 s).map Ext.c) r.strip := (List.getElem?_eq_some_iff.1 g5).2
  have hokT := textN_ok (s := s) (by omega) hr
  have hone := textN_right (s := s) (r := r) (by omega)
  generalize textN s r = T at g0' g4' g5' hokT hone ⊢
  simp [g0', g4', g5']
  have hok := ofE_ok (s := s) (by omega)
  have hrd := ofE_reads (s := s) (by omega)
  obtain ⟨k1, k2, k3⟩ := extOk_in hok
  have hexl := (ofE_exts (s := s) (by omega)).1
  refine ref03_Read_A k3 (by omega) ⟨k1, k2⟩ (by omega) ?_
  rw [hrd]
  simp
  refine ref04_One_A hokT ?_
  rw [hone]
  simp
  refine tree_Link_A ?_
  simp
  have hLok : (Node.mk 3 false ⟨[], .nil⟩ [] .nil 0 [] .nil s).ok := by
    rw [Node.ok_iff]
    simp [Node.kind, Node.names, Node.items, Node.ir, Node.size, Node.exts, Node.er, Node.target, I64, Ss.ok]
    omega
  have eL : (Node.mk 3 false ⟨[], .nil⟩ [] .nil 0 [] .nil s).c = [.int .i64 3, .bool false, .vs 1 [] .nil, .vs 7 [] .nil, .int .i64 0, .vs 2 [] .nil, .str s] := by rw [Node.c_eq]; rfl
  rw [← eL]
  refine ref04_Same_A _ hLok hLok ?_
  rw [Node.same_refl]
  simp
  have hnl := hnm.2.1
  refine loop_list nm.l (fun i (r : Rt) => ([.vs 7 ((List.replicate i whiteN).map Node.c) r, .int .i64 i], [])) (fun i r S' => S' = S ∧ r ≠ .none ∧ r ≠ .full ∧ (r = .nil → i = 0)) .nil (by simp) (by simp) ?_ ?_
  · rintro i r S' v b x c hxi hd hc hm ⟨rfl, hr1, hr2, hr3⟩ hv
    simp at hv
    obtain ⟨hv1, hv2⟩ := hv
    simp [hv1, hv2, hc]
    refine tree_White_A ?_
    simp
    simp [appendA, elemsA, hr1, lim, show i + 1 ≤ 100000000000 by omega]
    try simp (disch := omega) only [wrap64]
    refine .next c (.own (rowTy T_api_Node r)) ?_ ⟨rfl, by simp, by simp, by simp⟩
    rw [List.replicate_succ']
    simp
  · rintro r S' v b ⟨rfl, hr1, hr2, hr3⟩ hv N
    simp at hv
    obtain ⟨hv1, hv2⟩ := hv
    simp [hv1, hv2]
    have hnone : okR r.strip (List.replicate nm.l.length whiteN) := fun e => by
      have : r = .nil := by cases r <;> simp_all [Rt.strip]
      simp [hr3 this]
    rw [show (List.replicate nm.l.length whiteN.c) = (List.replicate nm.l.length whiteN).map Node.c by simp]
    refine tree_Dir_A (l := nm.l) (fun e => ?_) hnone (by omega) (by simp; omega) (fun q1 q2 k1 k2 => ?_)
    · have := hnm.1
      have e' : nm.r = .nil := by cases h : nm.r <;> simp_all [Rt.strip]
      exact this e'
    have hokN : okR nm.r nm.l := fun e => hnm.1 (by cases h : nm.r <;> simp_all [Rt.strip])
    obtain ⟨hcw, hdw⟩ := counts_whites nm.l.length
    have hd1 := dirN_ok (o := false) (l := nm.l) (items := List.replicate nm.l.length whiteN) (q1 := q1) (q2 := q2) ⟨hnl, hnm.2.2⟩ ⟨by simp; omega, whites_ok⟩ k1 k2
    have hd0 := dirN_ok (o := false) (l := nm.l) (items := List.replicate nm.l.length whiteN) (q1 := nm.r) (q2 := r.strip) ⟨hnl, hnm.2.2⟩ ⟨by simp; omega, whites_ok⟩ hokN hnone
    have hsame : (dirN false nm.l q1 (List.replicate nm.l.length whiteN) q2).sameB (dirN false nm.l nm.r (List.replicate nm.l.length whiteN) r.strip) = true := Node.same_of rfl rfl rfl rfl rfl rfl rfl
    have e0 : (dirN false nm.l nm.r (List.replicate nm.l.length whiteN) r.strip).c = [.int .i64 2, .bool false, .vs 1 (nm.l.map wStr) nm.r.strip, .vs 7 ((List.replicate nm.l.length whiteN).map Node.c) r.strip, .int .i64 0, .vs 2 [] .nil, .str []] := by
      rw [Node.c_eq']; simp [dirN, Node.kind, Node.opq, Node.names, Node.items, Node.ir, Node.size, Node.exts, Node.er, Node.target]
    have hcnt : (dirN false nm.l q1 (List.replicate nm.l.length whiteN) q2).count ≤ 1000 := by
      rw [Node.count_eq]; show 1 + Node.counts (List.replicate nm.l.length whiteN) ≤ _; omega
    have hdep : (dirN false nm.l q1 (List.replicate nm.l.length whiteN) q2).depth ≤ 1000 := by
      rw [Node.depth_eq]; show Node.depths (List.replicate nm.l.length whiteN) ≤ _; omega
    have g1 : (dirN false nm.l q1 (List.replicate nm.l.length whiteN) q2).c[1]? = some (.bool false) := by rw [Node.c_eq]; rfl
    have g1' : (dirN false nm.l q1 (List.replicate nm.l.length whiteN) q2).c[1] = .bool false := (List.getElem?_eq_some_iff.1 g1).2
    rw [← e0]
    generalize dirN false nm.l q1 (List.replicate nm.l.length whiteN) q2 = d at hd1 hsame hcnt hdep g1' ⊢
    generalize dirN false nm.l nm.r (List.replicate nm.l.length whiteN) r.strip = d0 at hd0 hsame ⊢
    simp
    refine ref04_Same_A _ hd1 hd0 ?_
    rw [hsame]
    simp
    refine tree_Opaque_A ?_
    have g2 : ∀ n : Node, (Node.mk n.kind true n.names n.items n.ir n.size n.exts n.er n.target).c[1]? = some (.bool true) := fun n => by rw [Node.c_eq]; rfl
    have g2' : ∀ n : Node, (Node.mk n.kind true n.names n.items n.ir n.size n.exts n.er n.target).c[1] = .bool true := fun n => (List.getElem?_eq_some_iff.1 (g2 n)).2
    simp [g2', g1']
    refine tree_Right_A hm hd1 (fun S1 _ => ?_)
    refine ref04_Right_A hd1 (by omega) (by omega) ?_
    simp
    refine tree_Dir_A (l := []) (items := []) okR_nil okR_nil (by simp) (by simp) (fun q3 q4 k3 k4 => ?_)
    have hch := Chain.zero k3 k4
    generalize dirN false [] q3 [] q4 = ch at hch ⊢
    have ew : IntKind.i64.wrap (deep : Int) = deep := wrap64 (by omega) (by omega)
    have em : Int.tmod (deep : Int) 24 = ((deep % 24 : Nat) : Int) := by rw [Int.tmod_eq_emod_of_nonneg (by omega)]; omega
    rw [ew, em]
    obtain ⟨m, hmm⟩ : ∃ m, m = deep % 24 := ⟨_, rfl⟩
    rw [← hmm]
    have hm24 : m < 24 := by omega
    simp
    refine loopQ_by (fun (p : Nat × Node) => ([.int .i64 p.1], [some p.2.c])) (fun k p S' => p.1 ≤ m ∧ k = m - p.1 ∧ Chain p.1 p.2) m (0, ch) rfl ⟨by simp, rfl, hch⟩ ?_
    rintro k ⟨i, x⟩ S2 v2 b2 ⟨h1, rfl, hx⟩ hv
    simp at hv h1 hx
    obtain ⟨hv1, hv2⟩ := hv
    simp [hv1, hv2]
    by_cases c : i < m
    · simp [c]
      refine tree_Dir_A (l := [[97]]) (items := [x]) okR_full okR_full (by simp) (by simp) (fun q5 q6 k5 k6 => ?_)
      have hx2 := hx.succ k5 k6
      generalize dirN false [[97]] q5 [x] q6 = y at hx2 ⊢
      simp
      try simp (disch := omega) only [wrap64]
      exact ⟨_, (i + 1, y), by show m - (i + 1) < m - i; omega, rfl, by show i + 1 ≤ m; omega, rfl, hx2⟩
    · have : i = m := by omega
      subst this
      simp
      refine tree_Right_A hm hx.ok (fun S3 _ => ?_)
      have hr : rightB x = decide (i ≤ 15) := by
        have : i + 1 ≤ 4096 := by omega
        simp [rightB, hx.kind, hx.all, hx.count, hx.depth, this]
      rw [hr]
      have e15 : ((i : Int) ≤ 15) = (i ≤ 15) := propext (by omega)
      simp [e15]
      refine tree_Count_A x hx.ok (by rw [hx.count]; omega) ?_
      rw [hx.count]
      try simp (disch := omega) only [wrap64]
      simp [hq]
end Go.Av
set_option linter.unusedVariables false
/-! Images: encoded; numbers and texts read. -/
namespace Go.Av
open Go.Proofs
theorem encXs_len : ∀ l : List Ext, (encXs l).length = 8 * l.length + (l.map fun x => x.data.length).sum
  | [] => rfl
  | x :: l => by
    have := encXs_len l
    simp [encXs, encX, encT] at this ⊢
    rw [this]; omega
theorem encs_len : ∀ (l : List Node) (ss : List Str), (∀ s ∈ ss, s.length ≤ 64) → (∀ n ∈ l, n.enc.length ≤ 100 * n.weight) → (Node.encs l ss).length ≤ 65 * ss.length + 100 * Node.weights l
  | [], ss, _, _ => by simp
  | n :: l, [], _, _ => by simp
  | n :: l, s :: ss, h1, h2 => by
    have := encs_len l ss (fun y hy => h1 y (by simp [hy])) (fun y hy => h2 y (by simp [hy]))
    have h3 := h1 s (by simp)
    have h4 := h2 n (by simp)
    simp [encT, Node.weights] at this ⊢
    omega
theorem enc_len (n : Node) : n.allB = true → n.enc.length ≤ 100 * n.weight := by
  induction n using Node.ind with
  | h n ih =>
    intro hall
    rw [Node.all_eq] at hall
    simp only [Bool.and_eq_true] at hall
    obtain ⟨ha, ho⟩ := hall
    obtain ⟨hz, hk⟩ := oneB_zero ho
    rw [Node.weight_eq]
    unfold Node.own
    rcases kinds4 ho with k | k | k | k
    · rw [Node.enc_file k]
      have := encXs_len n.exts
      simp
      omega
    · have hk' := hk
      simp only [kindB, k] at hk'
      have hn : namesB n = true := by simpa using hk'
      obtain ⟨c1, c2⟩ := namesB_iff hn
      obtain ⟨_, _, c3⟩ := chain_pw _ _ c1
      rw [Node.enc_dir k]
      have := encs_len n.items n.names.l (fun s hs => nameR_len (c3 s hs)) (fun x hx => ih x hx (alls_mem ha x hx))
      simp
      omega
    · rw [Node.enc_link k]
      simp [encT]
      omega
    · rw [Node.enc_other (by omega) (by omega) (by omega)]
      simp
      omega
def magicS : Str := [115, 111, 99, 97, 103, 101, 49]
theorem rightB_all {n : Node} (h : rightB n = true) : n.kind = 2 ∧ n.allB = true ∧ n.count ≤ 4096 ∧ n.depth ≤ 15 := by
  simpa [rightB] using h
/-- A tree's image. -/
def imgOf (n : Node) : Option Str := if rightB n = true ∧ 7 + n.enc.length ≤ 4194304 then some (magicS ++ n.enc) else none
theorem image_Encode_A {w0 : World} (hm : MaxL w0) {n : Node} {S : St} (hok : n.ok) (hl : n.weight ≤ 1000000) {Q : AV → St → Prop}
    (hq : ∀ S', Sx S S' → Q (match imgOf n with | some s => .tup [.str s, .int .i64 0] | none => .tup [.str [], .int .i64 1]) S') : AC w0 F_image_Encode [.agg n.c] S Q := by
  have hc' := Node.c_eq' n
  rw [hc']
  apply image_Encode_ok
  unfold G_image_Encode
  simp [← hc']
  refine tree_Right_A hm hok (fun S1 h1 => ?_)
  unfold imgOf at hq
  cases hr : rightB n with
  | false =>
    rw [hr] at hq
    simp at hq ⊢
    exact hq _ h1
  | true =>
    rw [hr] at hq
    obtain ⟨r1, r2, r3, r4⟩ := rightB_all hr
    have hel := enc_len n r2
    simp
    refine image_put_A n (l := []) (r := .nil) hok r2 r3 (by simp [wrC, byteCells]) ⟨by simp, by simp, by simp⟩ (by simp; omega) (fun r' hr' => ?_)
    have hS2 : ((S1 ++ [Obj.cells [AV.vs 1 [] .nil] t_wire_Writer]).set S1.length (wrC ([] ++ n.enc) r'))[S1.length]? = some (wrC n.enc r') := by simp
    refine wire_Bytes_A hS2 ?_
    rw [binA_add_str (by simp; omega)]
    have hSx : Sx S ((S1 ++ [Obj.cells [AV.vs 1 [] .nil] t_wire_Writer]).set S1.length (wrC ([] ++ n.enc) r')) := by
      refine h1.trans ?_
      simp
      exact Sx.app _ _
    have hq := hq _ hSx
    simp only [optK_some']
    by_cases c : 7 + n.enc.length ≤ 4194304
    · have c' : ¬ (4194304 : Int) < (n.enc.length : Int) + 1 + 1 + 1 + 1 + 1 + 1 + 1 := by omega
      simp [c] at hq
      simp [c']
      simpa [magicS] using hq
    · have c' : (4194304 : Int) < (n.enc.length : Int) + 1 + 1 + 1 + 1 + 1 + 1 + 1 := by omega
      simp [c] at hq
      simp [c']
      exact hq
theorem ref05_Encode_A {w0 : World} {n : Node} {S : St} (hok : n.ok) (hl : n.weight ≤ 1000000) (hd : n.depth ≤ 1000000) {Q : AV → St → Prop}
    (hq : ∀ S', Sx S S' → Q (match imgOf n with | some s => .tup [.str s, .bool true] | none => .tup [.str [], .bool false]) S') : AC w0 F_ref05_Encode [.agg n.c] S Q := by
  have hc' := Node.c_eq' n
  have hcw := n.count_weight
  rw [hc']
  apply ref05_Encode_ok
  unfold G_ref05_Encode
  simp [← hc']
  refine ref04_Right_A hok (by omega) (by omega) ?_
  unfold imgOf at hq
  cases hr : rightB n with
  | false =>
    rw [hr] at hq
    simp at hq ⊢
    exact hq _ (Sx.refl _)
  | true =>
    rw [hr] at hq
    obtain ⟨r1, r2, r3, r4⟩ := rightB_all hr
    have hel := enc_len n r2
    simp
    refine ref05_Put_A n hok r2 r3 (by omega) (fun S1 h1 => ?_)
    rw [binA_add_str (by simp; omega)]
    have hq := hq _ h1
    simp only [optK_some']
    by_cases c : 7 + n.enc.length ≤ 4194304
    · have c' : ¬ (4194304 : Int) < (n.enc.length : Int) + 1 + 1 + 1 + 1 + 1 + 1 + 1 := by omega
      simp [c] at hq
      simp [c']
      simpa [magicS] using hq
    · have c' : (4194304 : Int) < (n.enc.length : Int) + 1 + 1 + 1 + 1 + 1 + 1 + 1 := by omega
      simp [c] at hq
      simp [c']
      exact hq
end Go.Av
