/- Parts of the proofs of this seat: abstract values over the model, and what the functions of the program do. No condition. -/
import Derived.Test.YtgegfcblacmbeaaDoorY05d
import Derived.Test.YtgegfcblacmbeaaDoorX04L
import Derived.Test.YtgegfcblacmbeaaDoorX05e
set_option linter.all false
set_option linter.unusedVariables false
/-! Images: what is decoded is what was encoded. -/
namespace Go.Av
theorem magic_len : magicS.length = 7 := rfl
theorem decS_some {s : Str} {n : Node} (h : decS s = some n) : s = magicS ++ n.enc ∧ rightB n = true ∧ s.length ≤ 4194304 := by
  unfold decS at h
  split at h
  · cases h
  · rename_i c
    simp only [not_or, Classical.not_not] at c
    obtain ⟨c1, c2, c3⟩ := c
    simp only at h
    split at h
    · rename_i c4
      cases h
      obtain ⟨k1, k2, k3⟩ := c4
      obtain ⟨_, r2, r3, r4⟩ := rightB_all k3
      have := (RS.node_of 16 _ k1).2 r2
      rw [k2, List.append_nil] at this
      refine ⟨?_, k3, by omega⟩
      rw [← this]
      show s = magicS ++ s.drop 7
      rw [show magicS = s.take 7 from c3.symm, List.take_append_drop]
    · cases h
theorem decR_some {s : Str} {n : Node} (h : decR s = some n) : s = magicS ++ n.enc ∧ rightB n = true ∧ s.length ≤ 4194304 := by
  unfold decR at h
  split at h
  · cases h
  · rename_i c
    simp only [not_or, Classical.not_not] at c
    obtain ⟨c1, c2, c3⟩ := c
    split at h
    · rename_i n' r hg
      split at h
      · rename_i c4
        cases h
        obtain ⟨rfl, k3⟩ := c4
        have := getP_of _ _ _ _ hg
        rw [List.append_nil] at this
        refine ⟨?_, k3, by omega⟩
        rw [← this]
        show s = magicS ++ s.drop 7
        rw [show magicS = s.take 7 from c3.symm, List.take_append_drop]
      · cases h
    · cases h
theorem take_magic (t : Str) : (magicS ++ t).take 7 = magicS ∧ (magicS ++ t).drop 7 = t := ⟨by rw [List.take_append_of_le_length (by rw [magic_len]; omega)]; rfl, by rw [List.drop_append_of_le_length (by rw [magic_len]; omega)]; rfl⟩
theorem same_sound {a b : Node} (h : a.sameB b = true) : a.kind = b.kind ∧ a.names.l = b.names.l := by
  rw [Node.same_eq] at h
  simp only [Bool.and_eq_true, decide_eq_true_eq] at h
  exact ⟨h.1, h.2.2.2.2.1⟩
theorem same_zero {a b : Node} (h : a.sameB b = true) : oneB a = oneB b := by
  rw [Node.same_eq] at h
  simp only [Bool.and_eq_true, decide_eq_true_eq] at h
  obtain ⟨h1, h2, h3, h4, h5, h6, h7⟩ := h
  have h8 : a.items.length = b.items.length := samesB_len h7
  simp only [oneB, zeroB, kindB, namesB, h1, h2, h3, h4, h5, h6, h8]
theorem same_all (a : Node) : ∀ b : Node, a.sameB b = true → a.allB = b.allB ∧ a.count = b.count ∧ a.depth = b.depth := by
  induction a using Node.ind with
  | h a ih =>
    intro b h
    have h0 := same_zero h
    rw [Node.same_eq] at h
    simp only [Bool.and_eq_true, decide_eq_true_eq] at h
    have h7 := h.2.2.2.2.2.2
    rw [Node.all_eq, Node.all_eq, Node.count_eq, Node.count_eq, Node.depth_eq, Node.depth_eq, h0]
    have : ∀ (l m : List Node), (∀ x ∈ l, x ∈ a.items) → Node.samesB l m = true → Node.allsB l = Node.allsB m ∧ Node.counts l = Node.counts m ∧ Node.depths l = Node.depths m := by
      intro l
      induction l with
      | nil =>
        intro m _ hm
        cases m with
        | nil => exact ⟨rfl, rfl, rfl⟩
        | cons y m => simp at hm
      | cons x l ihl =>
        intro m hmem hm
        cases m with
        | nil => simp at hm
        | cons y m =>
          rw [Node.sames_cons] at hm
          simp only [Bool.and_eq_true] at hm
          obtain ⟨p1, p2, p3⟩ := ih x (hmem x (by simp)) y hm.1
          obtain ⟨q1, q2, q3⟩ := ihl m (fun z hz => hmem z (by simp [hz])) hm.2
          rw [Node.allsB, Node.allsB, Node.counts, Node.counts, Node.depths, Node.depths, p1, p2, p3, q1, q2, q3]
          exact ⟨rfl, rfl, rfl⟩
    obtain ⟨q1, q2, q3⟩ := this a.items b.items (fun _ h => h) h7
    rw [q1, q2, q3]
    exact ⟨rfl, rfl, rfl⟩
theorem same_right {a b : Node} (h : a.sameB b = true) : rightB a = rightB b := by
  obtain ⟨h1, h2, h3⟩ := same_all a b h
  rw [rightB, rightB, (same_sound h).1, h1, h2, h3]
theorem decS_enc {n : Node} (hok : n.ok) (hr : rightB n = true) (hl : 7 + n.enc.length ≤ 4194304) : ∃ n', decS (magicS ++ n.enc) = some n' ∧ n'.sameB n = true := by
  obtain ⟨r1, r2, r3, r4⟩ := rightB_all hr
  obtain ⟨n', e1, e2⟩ := RS.node_enc n 16 [] 4096 hok r2 r3 (by omega) (by omega)
  obtain ⟨t1, t2⟩ := take_magic n.enc
  refine ⟨n', ?_, e2⟩
  rw [List.append_nil] at e1
  unfold decS
  rw [if_neg (by rw [t1, List.length_append, magic_len]; simp [magicS]; omega), t2, e1]
  simp only
  rw [if_pos (by simp [same_right e2, hr])]
theorem decR_enc {n : Node} (hok : n.ok) (hr : rightB n = true) (hl : 7 + n.enc.length ≤ 4194304) : ∃ n', decR (magicS ++ n.enc) = some n' ∧ n'.sameB n = true := by
  obtain ⟨r1, r2, r3, r4⟩ := rightB_all hr
  obtain ⟨n', e1, e2⟩ := getP_enc n 16 [] hok r2 r3 (by omega)
  obtain ⟨t1, t2⟩ := take_magic n.enc
  refine ⟨n', ?_, e2⟩
  rw [List.append_nil] at e1
  unfold decR
  rw [if_neg (by rw [t1, List.length_append, magic_len]; simp [magicS]; omega), t2, e1]
  simp only
  rw [if_pos (by simp [same_right e2, hr])]
/-- What is no whole image isn't one. -/
theorem decS_more {n : Node} {more : Str} (hok : n.ok) (hr : rightB n = true) (hm : more ≠ []) : decS (magicS ++ n.enc ++ more) = none := by
  obtain ⟨r1, r2, r3, r4⟩ := rightB_all hr
  obtain ⟨n', e1, e2⟩ := RS.node_enc n 16 more 4096 hok r2 r3 (by omega) (by omega)
  rw [List.append_assoc]
  obtain ⟨t1, t2⟩ := take_magic (n.enc ++ more)
  unfold decS
  split
  · rfl
  · rw [t2, e1]
    simp only
    rw [if_neg (by rintro ⟨_, h, _⟩; exact hm h)]
theorem decS_cut {n n' : Node} {k : Nat} (hok : n.ok) (hr : rightB n = true) (hk : k < (magicS ++ n.enc).length) (hok' : n'.ok) (h : decS ((magicS ++ n.enc).take k) = some n') : False := by
  obtain ⟨h1, h2, h3⟩ := decS_some h
  have h4 : magicS ++ n.enc = magicS ++ n'.enc ++ (magicS ++ n.enc).drop k := by rw [← h1, List.take_append_drop]
  have h5 : (magicS ++ n.enc).drop k ≠ [] := by
    intro e
    have := congrArg List.length e
    rw [List.length_drop] at this
    simp at this hk
    omega
  have h6 := decS_more hok' h2 h5
  rw [← h4] at h6
  by_cases c : 7 + n.enc.length ≤ 4194304
  · obtain ⟨n2, e1, _⟩ := decS_enc hok hr c
    rw [e1] at h6
    cases h6
  · -- too long an image can't be cut to one: the nodes read are the same
    obtain ⟨r1, r2, r3, r4⟩ := rightB_all hr
    obtain ⟨s1, s2, s3, s4⟩ := rightB_all h2
    obtain ⟨m1, e1, e2⟩ := RS.node_enc n 16 [] 4096 hok r2 r3 (by omega) (by omega)
    obtain ⟨m2, e3, e4⟩ := RS.node_enc n' 16 ((magicS ++ n.enc).drop k) 4096 hok' s2 s3 (by omega) (by omega)
    have h7 : n.enc ++ [] = n'.enc ++ (magicS ++ n.enc).drop k := by
      rw [List.append_nil]
      rw [List.append_assoc] at h4
      exact List.append_cancel_left h4
    rw [h7, e3] at e1
    have := congrArg (fun p => p.2.s) e1
    simp only at this
    exact h5 this
theorem weight_enc (n : Node) : n.allB = true → n.weight ≤ n.enc.length := by
  induction n using Node.ind with
  | h n ih =>
    intro hall
    rw [Node.all_eq] at hall
    simp only [Bool.and_eq_true] at hall
    obtain ⟨ha, ho⟩ := hall
    obtain ⟨hz, hk⟩ := oneB_zero ho
    rw [Node.weight_eq]
    unfold Node.own
    have h0 : n.kind ≠ 2 → n.items = [] := fun h => zeroB_items hz h
    rcases kinds4 ho with k | k | k | k
    · rw [Node.enc_file k, h0 (by omega)]
      simp [zeroB, k] at hz
      have := encXs_len n.exts
      simp [hz, Node.weights]
      omega
    · have hk' := hk
      simp only [kindB, k] at hk'
      have hn : namesB n = true := by simpa using hk'
      obtain ⟨c1, c2⟩ := namesB_iff hn
      rw [Node.enc_dir k]
      simp [zeroB, k] at hz
      have : ∀ (l : List Node) (ss : List Str), l.length = ss.length → (∀ x ∈ l, x.weight ≤ x.enc.length) → ss.length + Node.weights l ≤ (Node.encs l ss).length := by
        intro l
        induction l with
        | nil => intro ss h _; cases ss <;> simp [Node.weights] at h ⊢
        | cons x l ihl =>
          intro ss h hx
          cases ss with
          | nil => simp at h
          | cons s ss =>
            have h1 := ihl ss (by simpa using h) (fun y hy => hx y (by simp [hy]))
            have h2 := hx x (by simp)
            simp [encT, Node.weights] at h1 ⊢
            omega
      have := this n.items n.names.l c2.symm (fun x hx => ih x hx (alls_mem ha x hx))
      simp [hz]
      omega
    · rw [Node.enc_link k, h0 (by omega)]
      simp [zeroB, k] at hz
      simp [hz, Node.weights, encT]
      try omega
    · rw [Node.enc_other (by omega) (by omega) (by omega), h0 (by omega)]
      simp [zeroB, k] at hz
      simp [hz, Node.weights]
end Go.Av
set_option linter.unusedVariables false
/-! The laws of images. -/
namespace Go.Av
open Go.Proofs
theorem dlen_sum {x : Ext} : ∀ {l : List Ext}, x ∈ l → x.data.length ≤ (l.map fun x => x.data.length).sum
  | y :: l, h => by
    rcases List.mem_cons.1 h with rfl | h
    · simp
    · have := dlen_sum h; simp; omega
theorem depth_count (n : Node) : n.depth < n.count := by
  induction n using Node.ind with
  | h n ih =>
    rw [Node.depth_eq, Node.count_eq]
    have : ∀ l : List Node, (∀ x ∈ l, x.depth < x.count) → Node.depths l ≤ Node.counts l := by
      intro l
      induction l with
      | nil => simp [Node.depths]
      | cons x l ihl =>
        intro h
        have h1 := h x (by simp)
        have h2 := ihl fun y hy => h y (by simp [hy])
        rw [Node.depths, Node.counts]
        omega
    have := this _ ih
    omega
/-- What reads a chain is right. -/
theorem getP_ok : ∀ (f : Nat) (s : Str) (n : Node) (r : Str), s.length ≤ 1048568 → getP f s = some (n, r) → n.ok ∧ n.weight + r.length ≤ s.length := by
  intro f
  induction f with
  | zero => intro s n r _ h; rw [getP] at h; cases h
  | succ f ih =>
    intro s n r hl h
    have hs := getP_of _ _ _ _ h
    have hrl : r.length ≤ s.length := by rw [hs]; simp
    rw [getP] at h
    obtain ⟨⟨k, s1⟩, h1, h⟩ := Option.bind_eq_some_iff.1 h
    obtain ⟨i1, j1⟩ := takeN_some h1
    have l1 : s1.length ≤ s.length := by rw [i1]; simp
    rw [p1] at j1
    simp only at h
    by_cases c1 : k = 1
    · rw [if_pos c1] at h
      obtain ⟨⟨b, s2⟩, h2, h⟩ := Option.bind_eq_some_iff.1 h
      obtain ⟨⟨c, s3⟩, h3, h⟩ := Option.bind_eq_some_iff.1 h
      obtain ⟨⟨e, s4⟩, h4, h⟩ := Option.bind_eq_some_iff.1 h
      cases h
      obtain ⟨i2, j2⟩ := takeN_some h2
      obtain ⟨i3, _⟩ := takeN_some h3
      obtain ⟨i4, i5⟩ := getX_of h4
      simp only at i3 i4 i5
      rw [p4] at j2
      have q1 := congrArg List.length i2
      have q2 := congrArg List.length i3
      have q3 := congrArg List.length i5
      simp at q1 q2 q3
      have q4 := encXs_len e
      have hx : ∀ (c : Nat) (s r : Str) (l : List Ext), getX c s = some (l, r) → ∀ x ∈ l, 0 ≤ x.off ∧ x.off < 4294967296 := by
        intro c
        induction c with
        | zero => intro s r l h; rw [getX] at h; cases h; simp
        | succ c ih =>
          intro s r l h
          rw [getX] at h
          obtain ⟨⟨a, t1⟩, g1, h⟩ := Option.bind_eq_some_iff.1 h
          obtain ⟨⟨b, t2⟩, g2, h⟩ := Option.bind_eq_some_iff.1 h
          obtain ⟨⟨l', t3⟩, g3, h⟩ := Option.bind_eq_some_iff.1 h
          cases h
          have := (takeN_some g1).2
          rw [p4] at this
          intro x hx
          rcases List.mem_cons.1 hx with rfl | hx
          · simp; omega
          · exact ih _ _ _ g3 x hx
      try dsimp only at *
      refine ⟨mk_ok (ns := []) (its := []) (by unfold I64; omega) (by simp) (by simp) (by unfold I64; omega) ⟨by omega, fun x hxm => ?_⟩ (by simp), ?_⟩
      · have := hx _ _ _ _ h4 x hxm
        have hd := dlen_sum hxm
        unfold Ext.ok
        omega
      · rw [Node.weight_eq]
        unfold Node.own
        simp [Node.weights]
        omega
    rw [if_neg c1] at h
    by_cases c2 : k = 2
    · rw [if_pos c2] at h
      obtain ⟨⟨b, s2⟩, h2, h⟩ := Option.bind_eq_some_iff.1 h
      obtain ⟨⟨c, s3⟩, h3, h⟩ := Option.bind_eq_some_iff.1 h
      simp only at h
      by_cases c5 : 1 < b
      · rw [if_pos c5] at h; cases h
      rw [if_neg c5] at h
      obtain ⟨⟨ss, l, s4⟩, h4, h⟩ := Option.bind_eq_some_iff.1 h
      cases h
      obtain ⟨i2, _⟩ := takeN_some h2
      obtain ⟨i3, _⟩ := takeN_some h3
      simp only at i3
      have q1 := congrArg List.length i2
      have q2 := congrArg List.length i3
      simp at q1 q2
      have hI : ∀ (c : Nat) (s r : Str) (ss : List Str) (l : List Node), s.length ≤ 1048568 → getI (getP f) c s = some (ss, l, r) → ss.length + r.length ≤ s.length ∧ l.length = ss.length ∧ (∀ x ∈ ss, x.length ≤ 1048576) ∧ (∀ x ∈ l, x.ok) ∧ ss.length + Node.weights l + r.length ≤ s.length := by
        intro c
        induction c with
        | zero => intro s r ss l _ h; rw [getI] at h; cases h; simp [Node.weights]
        | succ c ihc =>
          intro s r ss l hl h
          rw [getI] at h
          obtain ⟨⟨a, t1⟩, g1, h⟩ := Option.bind_eq_some_iff.1 h
          obtain ⟨⟨b, t2⟩, g2, h⟩ := Option.bind_eq_some_iff.1 h
          obtain ⟨⟨ss', l', t3⟩, g3, h⟩ := Option.bind_eq_some_iff.1 h
          cases h
          obtain ⟨u1, u2⟩ := takeT_some g1
          have u3 := congrArg List.length u1
          simp [encT] at u3
          try dsimp only at *
          obtain ⟨v1, v2⟩ := ih _ _ _ (by omega) g2
          try dsimp only at *
          obtain ⟨w1, w2, w3, w4, w5⟩ := ihc _ _ _ _ (by omega) g3
          refine ⟨by simp; omega, by simp [w2], ?_, ?_, by rw [Node.weights, List.length_cons]; omega⟩
          · intro x hx
            rcases List.mem_cons.1 hx with rfl | hx
            · omega
            · exact w3 x hx
          · intro x hx
            rcases List.mem_cons.1 hx with rfl | hx
            · exact v1
            · exact w4 x hx
      try dsimp only at *
      obtain ⟨w1, w2, w3, w4, w5⟩ := hI _ _ _ _ _ (by omega) h4
      refine ⟨mk_ok (es := []) (by unfold I64; omega) ⟨by omega, w3⟩ ⟨by omega, w4⟩ (by unfold I64; omega) (by simp) (by simp), ?_⟩
      rw [Node.weight_eq]
      unfold Node.own
      simp
      omega
    rw [if_neg c2] at h
    by_cases c3 : k = 3
    · rw [if_pos c3] at h
      obtain ⟨⟨b, s2⟩, h2, h⟩ := Option.bind_eq_some_iff.1 h
      cases h
      obtain ⟨i2, _⟩ := takeT_some h2
      have q1 := congrArg List.length i2
      simp [encT] at q1
      try dsimp only at *
      refine ⟨mk_ok (ns := []) (its := []) (es := []) (by unfold I64; omega) (by simp) (by simp) (by unfold I64; omega) (by simp) (by omega), ?_⟩
      rw [Node.weight_eq]
      unfold Node.own
      simp [Node.weights]
      omega
    rw [if_neg c3] at h
    by_cases c4 : k = 4
    · rw [if_pos c4] at h
      cases h
      refine ⟨mk_ok (ns := []) (its := []) (es := []) (by unfold I64; omega) (by simp) (by simp) (by unfold I64; omega) (by simp) (by simp), ?_⟩
      have q1 := congrArg List.length i1
      simp at q1
      rw [Node.weight_eq]
      unfold Node.own
      simp [Node.weights]
      omega
    rw [if_neg c4] at h
    cases h
theorem ref05_Decode_A {w0 : World} {S : St} {s : Str} (hs : s.length ≤ 1048575) {Q : AV → St → Prop}
    (hq : (∀ n, decR s = some n → n.ok → Q (.tup [.agg n.c, .bool true]) S) ∧ (decR s = none → Q (.tup [.agg Node.none.c, .bool false]) S)) : AC w0 F_ref05_Decode [.str s] S Q := by
  apply ref05_Decode_ok
  unfold G_ref05_Decode
  have hn0 : decR s = none → Q (.tup [.agg [.int .i64 0, .bool false, .vs 1 [] .nil, .vs 7 [] .nil, .int .i64 0, .vs 2 [] .nil, .str []], .bool false]) S := fun h => by
    have := hq.2 h
    rwa [Node.none_c] at this
  by_cases c1 : s.length < 7
  · have : decR s = none := by simp [decR, c1]
    simp [joinK_eq, show ¬ (4194304 < (s.length : Int)) by omega, show (s.length : Int) < 7 by omega]
    exact hn0 this
  by_cases c2 : s.take 7 = [115, 111, 99, 97, 103, 101, 49]
  case neg =>
    have : decR s = none := by simp [decR, c2]
    simp [joinK_eq, show ¬ (4194304 < (s.length : Int)) by omega, show ¬ (s.length : Int) < 7 by omega, show 7 ≤ s.length by omega, c2]
    exact hn0 this
  simp [joinK_eq, show ¬ (4194304 < (s.length : Int)) by omega, show ¬ (s.length : Int) < 7 by omega, show 7 ≤ s.length by omega, c2]
  have hd : decR s = match getP 16 (s.drop 7) with | some (n, r) => if r = [] ∧ rightB n = true then some n else none | none => none := by
    rw [decR, if_neg (by simp [c1, c2]; omega)]
    cases getP 16 (s.drop 7) with
    | none => rfl
    | some p => rfl
  refine ref05_get_A 16 (d := 0) (by omega) (by simp) (by simp; omega) ?_
  cases hg : getP 16 (s.drop 7) with
  | none =>
    rw [hg] at hd
    rw [gotC_none]
    try simp (disch := omega) only [wrap64]
    simp [show ¬ ((-1 : Int) = (s.length : Int) - 7) by omega]
    exact hn0 hd
  | some p =>
    obtain ⟨n, r⟩ := p
    rw [hg] at hd
    simp only at hd
    obtain ⟨hok, hrl⟩ := getP_ok _ _ _ _ (by simp; omega) hg
    have hcw := n.count_weight
    have hdc := depth_count n
    simp at hrl
    have hgc : gotC (some (n, r)) (s.drop 7).length = n.c ++ [.int .i64 ((s.length : Int) - 7 - r.length)] := by
      simp only [gotC]
      congr 3
      simp; omega
    have q1 : (n.c ++ [AV.int .i64 ((s.length : Int) - 7 - r.length)]).length = 8 := by simp
    have q2 : (n.c ++ [AV.int .i64 ((s.length : Int) - 7 - r.length)])[7]? = some (.int .i64 ((s.length : Int) - 7 - r.length)) := by
      rw [List.getElem?_append_right (by simp)]; simp
    have q3 : (n.c ++ [AV.int .i64 ((s.length : Int) - 7 - r.length)]).take 7 = n.c := by
      rw [List.take_append_of_le_length (by simp)]; simp
    have q4 : (AV.agg (n.c ++ [AV.int .i64 ((s.length : Int) - 7 - r.length)])).free = true := by
      rw [Node.c_eq]; simp
    rw [hgc]
    generalize n.c ++ [AV.int .i64 ((s.length : Int) - 7 - r.length)] = G at q1 q2 q3 q4 ⊢
    have q5 : G[7]'(by omega) = .int .i64 ((s.length : Int) - 7 - r.length) := (List.getElem?_eq_some_iff.1 q2).2
    have q6 : (∀ x, x ∈ G → x.free1 = true) = True := eq_true (by simpa using q4)
    have q7 : G.drop 8 = [] := by simp; omega
    try simp (disch := omega) only [wrap64]
    simp [q1, q3, q5, q6, q7]
    by_cases c3 : r = []
    case neg =>
      have hp := List.length_pos_iff.2 c3
      have hne : ¬ ((s.length : Int) - 7 - (r.length : Int) = (s.length : Int) - 7) := by omega
      simp [hne]
      exact hn0 (by rw [hd]; simp [c3])
    simp [c3]
    refine ref04_Right_A hok (by omega) (by omega) ?_
    cases hr : rightB n with
    | false =>
      simp
      exact hn0 (by rw [hd]; simp [hr])
    | true =>
      simp
      exact hq.1 n (by rw [hd]; simp [hr, c3]) hok
end Go.Av
set_option linter.unusedVariables false
/-! The laws of images. -/
namespace Go.Av
open Go.Proofs
theorem cell0 (n : Node) : n.c[0]'(by simp) = .int .i64 n.kind := by
  have : n.c[0]? = some (.int .i64 n.kind) := by rw [Node.c_eq]; rfl
  exact (List.getElem?_eq_some_iff.1 this).2
theorem cell2 (n : Node) : n.c[2]'(by simp) = .vs 1 (n.names.l.map wStr) n.names.r.strip := by
  have : n.c[2]? = some (.vs 1 (n.names.l.map wStr) n.names.r.strip) := by rw [Node.c_eq]; rfl
  exact (List.getElem?_eq_some_iff.1 this).2
set_option maxRecDepth 100000 in
theorem law05_speaks_A {w0 : World} (hm : MaxL w0) {S : St} {Q : AV → St → Prop} (hq : ∀ S', Sx S S' → Q (.bool true) S') : AC w0 F_law05_speaks [] S Q := by
  apply law05_speaks_ok
  unfold G_law05_speaks
  refine tree_Dir_A (l := []) (items := []) okR_nil okR_nil (by simp) (by simp) (fun q1 q2 k1 k2 => ?_)
  have hok := dirN_ok (o := false) (l := []) (items := []) (by simp) (by simp) k1 k2
  have hr : rightB (dirN false [] q1 [] q2) = true := by rfl
  have hw : (dirN false [] q1 [] q2).weight ≤ 10 := by rw [Node.weight_eq]; simp [Node.own, dirN, Node.weights]
  have he : (dirN false [] q1 [] q2).enc = [2, 0, 0, 0] := by rw [Node.enc_dir rfl]; simp [dirN, be]
  have hdn : (dirN false [] q1 [] q2).names.l = [] := rfl
  generalize dirN false [] q1 [] q2 = d at hok hr hw he hdn ⊢
  have hi : imgOf d = some (magicS ++ [2, 0, 0, 0]) := by unfold imgOf; rw [hr, he]; simp
  simp
  refine image_Encode_A hm hok (by omega) (fun S1 h1 => ?_)
  rw [hi]
  simp
  refine image_Decode_A hm (by simp [magicS]) (fun S2 h2 => ?_)
  obtain ⟨n', e1, e2⟩ := decS_enc hok hr (by rw [he]; simp)
  rw [he] at e1
  refine ⟨fun n hn hnok => ?_, fun hn => by rw [hn] at e1; cases e1⟩
  rw [e1] at hn
  cases hn
  obtain ⟨g1, g2⟩ := same_sound e2
  obtain ⟨r1, _⟩ := rightB_all hr
  have g3 : n'.names.l = [] := by rw [g2, hdn]
  simp [magicS, cell0, cell2, g1, r1, g3]
  exact hq _ (h1.trans h2)
theorem right_weight {n : Node} (h : n.small = true) : n.weight ≤ 400 ∧ n.depth ≤ 30 ∧ n.count ≤ 400 := by
  obtain ⟨h1, h2⟩ := Node.small_spec h
  have := n.count_weight
  omega
theorem imgOf_small {n : Node} (h : n.small = true) (hr : rightB n = true) : 7 + n.enc.length ≤ 50000 ∧ imgOf n = some (magicS ++ n.enc) := by
  obtain ⟨h1, h2, h3⟩ := right_weight h
  have := enc_len n (rightB_all hr).2.1
  refine ⟨by omega, ?_⟩
  rw [imgOf, if_pos ⟨hr, by omega⟩]
theorem imgOf_wrong {n : Node} (hr : rightB n = false) : imgOf n = none := by rw [imgOf, if_neg (by rw [hr]; simp)]
set_option maxRecDepth 100000 in
theorem law05_ImageEncodes_L (w0 : World) (hm : MaxL w0) (x0 : AV) (h0 : TV t_api_Node x0) : AC w0 F_law05_ImageEncodes [x0] [] fun r _ => r = .bool true := by
  refine law_of fun Q hq => ?_
  obtain ⟨n, rfl, hok⟩ := h0.node
  have hcc := n.c_eq'
  rw [hcc]
  apply law05_ImageEncodes_ok
  unfold G_law05_ImageEncodes
  simp only [← hcc]
  simp
  refine law05_speaks_A hm (fun S _ => ?_)
  simp
  refine law04_Small_A hok (fun S2 _ => ?_)
  cases hs : n.small with
  | false => simp [hq]
  | true =>
  obtain ⟨b1, b2, b3⟩ := right_weight hs
  simp
  refine image_Encode_A hm hok (by omega) (fun S3 _ => ?_)
  cases hr : rightB n with
  | false =>
    rw [imgOf_wrong hr]
    simp
    refine ref05_Encode_A hok (by omega) (by omega) (fun S4 _ => ?_)
    rw [imgOf_wrong hr]
    simp [joinK_eq, hq]
  | true =>
    obtain ⟨hl, hi⟩ := imgOf_small hs hr
    rw [hi]
    simp
    refine ref05_Encode_A hok (by omega) (by omega) (fun S4 _ => ?_)
    rw [hi]
    simp
    refine image_Decode_A hm (by simp [magic_len]; omega) (fun S5 _ => ?_)
    obtain ⟨n', e1, e2⟩ := decS_enc hok hr (by omega)
    refine ⟨fun x hx hxok => ?_, fun hn => by rw [hn] at e1; cases e1⟩
    rw [e1] at hx
    cases hx
    simp
    refine ref04_Same_A n' hxok hok ?_
    rw [e2]
    simp [hq]
set_option maxRecDepth 100000 in
theorem law05_ImageDecodes_L (w0 : World) (hm : MaxL w0) (x0 : AV) (h0 : TV t_string x0) : AC w0 F_law05_ImageDecodes [x0] [] fun r _ => r = .bool true := by
  refine law_of fun Q hq => ?_
  obtain ⟨s, rfl, hs⟩ := h0.str un_string
  apply law05_ImageDecodes_ok
  unfold G_law05_ImageDecodes
  refine law05_speaks_A hm (fun S _ => ?_)
  simp
  by_cases c : (3000 : Int) < s.length
  · simp [c, hq]
  simp [c]
  refine image_Decode_A hm (by omega) (fun S2 _ => ⟨fun n hn hok => ?_, fun hn => ?_⟩)
  · obtain ⟨hs1, hr, _⟩ := decS_some hn
    have hll := congrArg List.length hs1
    simp [magic_len] at hll
    have hw := weight_enc n (rightB_all hr).2.1
    simp
    refine ref05_Decode_A (by omega) ⟨fun n2 hn2 hok2 => ?_, fun hn2 => ?_⟩
    · obtain ⟨hs2, hr2, _⟩ := decR_some hn2
      obtain ⟨n3, e1, e2⟩ := decS_enc hok2 hr2 (by have := congrArg List.length hs2; simp [magic_len] at this; omega)
      rw [← hs2, hn] at e1
      cases e1
      simp
      refine image_Encode_A hm hok (by omega) (fun S3 _ => ?_)
      have hi : imgOf n = some s := by rw [imgOf, if_pos ⟨hr, by omega⟩, ← hs1]
      rw [hi]
      simp
      refine ref04_Same_A n hok hok2 ?_
      rw [e2]
      simp [hq]
    · exfalso
      obtain ⟨n3, e1, e2⟩ := decR_enc hok hr (by omega)
      rw [← hs1, hn2] at e1
      cases e1
  · simp
    refine ref05_Decode_A (by omega) ⟨fun n2 hn2 hok2 => ?_, fun hn2 => ?_⟩
    · exfalso
      obtain ⟨hs2, hr2, _⟩ := decR_some hn2
      obtain ⟨n3, e1, e2⟩ := decS_enc hok2 hr2 (by have := congrArg List.length hs2; simp [magic_len] at this; omega)
      rw [← hs2, hn] at e1
      cases e1
    · simp [← Node.none_c]
      refine ref04_Same_A _ Node.none_ok Node.none_ok ?_
      rw [Node.same_refl]
      simp [hq]
theorem TyV.u16 {t : TypeId} {x : AV} (h : TV t x) (hu : Tryd.prog.underlying t = some (.int .u16)) : ∃ n : Nat, x = .int .u16 n ∧ n < 65536 := by
  obtain ⟨n, e, hw⟩ := (h.one (by simp [isAgg, hu])).int_inv hu
  simp [Lit.wf, IntKind.min, IntKind.max, IntKind.signed, IntKind.bits] at hw
  refine ⟨n.toNat, ?_, by omega⟩
  have : ((n.toNat : Nat) : Int) = n := by omega
  rw [this]
  simpa using e
set_option maxRecDepth 100000 in
theorem law05_ImageCuts_L (w0 : World) (hm : MaxL w0) (x0 x1 x2 : AV) (h0 : TV t_api_Node x0) (h1 : TV t_uint16 x1) (h2 : TV t_string x2) : AC w0 F_law05_ImageCuts [x0, x1, x2] [] fun r _ => r = .bool true := by
  refine law_of fun Q hq => ?_
  obtain ⟨n, rfl, hok⟩ := h0.node
  obtain ⟨a, rfl, ha⟩ := h1.u16 un_uint16
  obtain ⟨more, rfl, hmo⟩ := h2.str un_string
  have hcc := n.c_eq'
  rw [hcc]
  apply law05_ImageCuts_ok
  unfold G_law05_ImageCuts
  simp only [← hcc]
  simp
  refine law05_speaks_A hm (fun S _ => ?_)
  simp
  refine law04_Small_A hok (fun S2 _ => ?_)
  cases hs : n.small with
  | false => simp [joinK_eq, hq]
  | true =>
  obtain ⟨b1, b2, b3⟩ := right_weight hs
  simp
  refine ref04_Right_A hok (by omega) (by omega) ?_
  cases hr : rightB n with
  | false => simp [joinK_eq, hq]
  | true =>
  simp [joinK_eq]
  by_cases c : (100 : Int) < more.length
  · simp [c, hq]
  simp [c]
  obtain ⟨hl, hi⟩ := imgOf_small hs hr
  refine image_Encode_A hm hok (by omega) (fun S3 _ => ?_)
  rw [hi]
  have hne : ¬ magicS ++ n.enc = [] := by simp [magicS]
  have hlen : (magicS ++ n.enc).length = 7 + n.enc.length := by simp [magic_len]
  have hA : decS (magicS ++ n.enc ++ more) = none ↔ more ≠ [] := by
    constructor
    · intro h e
      subst e
      obtain ⟨n', e1, _⟩ := decS_enc hok hr (by omega)
      rw [List.append_nil, e1] at h
      cases h
    · exact decS_more hok hr
  have hB : ∀ k x, k < (magicS ++ n.enc).length → decS ((magicS ++ n.enc).take k) = some x → x.ok → False := fun k x hk hx hxok => decS_cut hok hr hk hxok hx
  generalize magicS ++ n.enc = s at hne hlen hA hB ⊢
  have ew : IntKind.i64.wrap (a : Int) = a := wrap64 (by omega) (by omega)
  have em : Int.tmod (a : Int) (s.length : Int) = ((a % s.length : Nat) : Int) := by rw [Int.tmod_eq_emod_of_nonneg (by omega)]; simp
  have hk : a % s.length < s.length := Nat.mod_lt _ (by omega)
  have hs0 : ¬ ((s.length : Int) = 0) := by omega
  simp [hne, ew, binA_rem, hs0, em]
  rw [show ((a : Int) % (s.length : Int)) = ((a % s.length : Nat) : Int) by simp, cutStr_h, if_pos (by omega)]
  simp
  refine image_Decode_A hm (by simp; omega) (fun S4 _ => ⟨fun x hx hxok => (hB _ _ hk hx hxok).elim, fun hn => ?_⟩)
  simp
  rw [binA_add_str (by omega)]
  simp
  refine image_Decode_A hm (by simp; omega) (fun S5 _ => ⟨fun x hx hxok => ?_, fun hn2 => ?_⟩)
  · have : more = [] := by
      by_cases e : more = []
      · exact e
      · rw [hA.2 e] at hx; cases hx
    simp [this, hq]
  · have := hA.1 hn2
    have hie : more.isEmpty = false := by cases more <;> simp_all
    simp [this, hie, hq]
end Go.Av
set_option linter.unusedVariables false
/-! The laws of what is seen. -/
namespace Go.Av
open Go.Proofs
theorem mayB_step {l : List Node} (hl : l.length ≤ 8) : mayB l = l.all fun n => n.small && rightB n := by simp [mayB, hl]
theorem all_drop {p : Node → Bool} {l : List Node} {i : Nat} {x : Node} (h : l[i]? = some x) : (l.drop i).all p = (p x && (l.drop (i + 1)).all p) := by
  have hi := (List.getElem?_eq_some_iff.1 h).1
  rw [List.drop_eq_getElem_cons hi, List.all_cons, (List.getElem?_eq_some_iff.1 h).2]
set_option maxRecDepth 100000 in
theorem law08_May_A {w0 : World} {l : List Node} {r : Rt} {S : St} (hok : ∀ n ∈ l, n.ok) {Q : AV → St → Prop} (hq : ∀ S', Sx S S' → Q (.int .i64 (if mayB l = true then 1 else 0)) S') : AC w0 F_law08_May [.vs 7 (l.map Node.c) r] S Q := by
  apply law08_May_ok
  unfold G_law08_May
  by_cases c : (8 : Int) < l.length
  · have := hq S (Sx.refl _)
    have e : mayB l = false := by simp [mayB]; omega
    rw [e] at this
    simp [c]
    exact this
  simp [c, joinK_eq]
  refine loop_list l (fun i (_ : Unit) => ([.int .i64 i], [])) (fun i _ S' => Sx S S' ∧ mayB l = (l.drop i).all fun n => n.small && rightB n) () rfl ⟨Sx.refl _, by rw [mayB_step (by omega)]; simp⟩ ?_ ?_
  · rintro i _ S' v b n c hxi hd hc hmem ⟨hSx, he⟩ hv
    simp at hv
    rw [all_drop hxi] at he
    simp [hv, hc, hxi]
    refine law04_Small_A (hok n hmem) (fun S2 hS2 => ?_)
    cases hs : n.small with
    | false =>
      rw [hs] at he
      have := hq S2 (hSx.trans hS2)
      rw [he] at this
      simp
      simpa using this
    | true =>
      obtain ⟨b1, b2⟩ := Node.small_spec hs
      have b3 := n.count_weight
      simp
      refine ref04_Right_A (hok n hmem) (by omega) (by omega) ?_
      cases hr : rightB n with
      | false =>
        rw [hs, hr] at he
        have := hq S2 (hSx.trans hS2)
        rw [he] at this
        simp
        simpa using this
      | true =>
        rw [hs, hr] at he
        simp
        try simp (disch := omega) only [wrap64]
        exact .next c () rfl ⟨hSx.trans hS2, by simpa using he⟩
  · rintro _ S' v b ⟨hSx, he⟩ hv N
    simp at hv
    rw [List.drop_length, List.all_nil] at he
    have := hq S' hSx
    rw [he] at this
    simp [hv]
    simpa using this
set_option maxRecDepth 100000 in
theorem law08_Stack_A {w0 : World} (hm : MaxL w0) {l : List Node} {r : Rt} {S : St} (hok : ∀ n ∈ l, n.ok) (hmay : mayB l = true) {Q : AV → St → Prop} (hq : ∀ S' s, Sx S S' → StkOf S S' l s → Q (.tup [.agg s.c, .bool true]) S') : AC w0 F_law08_Stack [.vs 7 (l.map Node.c) r] S Q := by
  obtain ⟨h8, hall⟩ := mayB_iff.1 hmay
  apply law08_Stack_ok
  unfold G_law08_Stack
  simp [show ¬ (8 : Int) < l.length by omega, joinK_eq]
  refine loop_list l (fun i (_ : Unit) => ([.int .i64 i], [some [.vs 2 [] .nil, .int .i64 0]])) (fun i _ S' => Sx S S') () rfl (Sx.refl _) ?_ ?_
  · rintro i _ S' v b n c hxi hd hc hmem hSx hv
    simp at hv
    obtain ⟨hv1, hv2⟩ := hv
    obtain ⟨hs, hr⟩ := hall n hmem
    simp [hv1, hv2, hc, hxi]
    refine law04_Small_A (hok n hmem) (fun S2 hS2 => ?_)
    obtain ⟨b1, b2⟩ := Node.small_spec hs
    have b3 := n.count_weight
    rw [hs]
    simp
    refine ref04_Right_A (hok n hmem) (by omega) (by omega) ?_
    rw [hr]
    simp
    try simp (disch := omega) only [wrap64]
    exact .next c () rfl (hSx.trans hS2)
  · rintro _ S' v b hSx hv N
    simp at hv
    obtain ⟨hv1, hv2⟩ := hv
    simp [hv1, hv2]
    have h0 := ofErr_all l 0 (fun n hn => (hall n hn).2) (by omega)
    refine stack_Of_A hm hok (by omega) (fun S2 hS2 => ⟨fun _ s hs => ?_, fun h => absurd h0 h⟩)
    have hs' : StkOf S S2 l s := ⟨hs.ok, hs.on, hs.len, hs.next, hs.tabs, hs.nums, fun m hm' => Nat.le_trans hSx.le (hs.ids m hm')⟩
    simp
    refine stack_Len_A ?_
    rw [hs.len]
    simp
    exact hq S2 s (hSx.trans hS2) hs'
theorem stk_tabs {S0 S : St} {l : List Node} {s : Stk} (h : StkOf S0 S l s) : s.tabs = l.reverse.map fun n => n.tab 0 := h.tabs
theorem rootP_len : ∀ (L : List (List InoP)) (k : Nat), (rootP L k).length ≤ L.length
  | [], _ => by simp [rootP]
  | P :: L, k => by
    rw [rootP]
    split
    · simp
    · have := rootP_len L (k + 1); simp; omega
set_option maxRecDepth 100000 in
theorem law08_speaks_A {w0 : World} (hm : MaxL w0) {S : St} {Q : AV → St → Prop} (hq : ∀ S', Sx S S' → Q (.bool true) S') : AC w0 F_law08_speaks [] S Q := by
  apply law08_speaks_ok
  unfold G_law08_speaks
  refine tree_Text_A (by simp) (fun r1 hr1 => ?_)
  refine tree_Text_A (by simp) (fun r2 hr2 => ?_)
  simp
  refine tree_Dir_A (l := [[97], [98]]) (items := [textN [120] r1, textN [121] r2]) okR_full okR_full (by simp) (by simp) (fun q1 q2 k1 k2 => ?_)
  refine tree_White_A ?_
  simp
  refine tree_Dir_A (l := [[97]]) (items := [whiteN]) okR_full okR_full (by simp) (by simp) (fun q3 q4 k3 k4 => ?_)
  have hx := textN_ok (s := [120]) (by simp) hr1
  have hy := textN_ok (s := [121]) (by simp) hr2
  have hok1 := dirN_ok (o := false) (l := [[97], [98]]) (items := [textN [120] r1, textN [121] r2]) (by simp) (by simp [hx, hy]) k1 k2
  have hok2 := dirN_ok (o := false) (l := [[97]]) (items := [whiteN]) (by simp) (by simp [white_ok]) k3 k4
  have a1 : oneB (textN [120] r1) = true := textN_right (by simp)
  have a2 : (textN [120] r1).allB = true := by rw [Node.all_eq, a1]; rfl
  have b1 : oneB (textN [121] r2) = true := textN_right (by simp)
  have b2 : (textN [121] r2).allB = true := by rw [Node.all_eq, b1]; rfl
  have hr1 : rightB (dirN false [[97], [98]] q1 [textN [120] r1, textN [121] r2] q2) = true := by
    have a3 : oneB (dirN false [[97], [98]] q1 [textN [120] r1, textN [121] r2] q2) = true := by rfl
    have a4 : (dirN false [[97], [98]] q1 [textN [120] r1, textN [121] r2] q2).allB = true := by
      rw [Node.all_eq, a3]
      show (Node.allsB [_, _] && true) = true
      rw [Node.allsB, a2, Node.allsB, b2]
      rfl
    rw [rightB, a4]
    rfl
  have hr2 : rightB (dirN false [[97]] q3 [whiteN] q4) = true := by rfl
  have e1 : (dirN false [[97], [98]] q1 [textN [120] r1, textN [121] r2] q2).tab 0 = [⟨2, false, [[97], [98]], 0, [], [], [1, 2]⟩, (textN [120] r1).hd 1, (textN [121] r2).hd 2] := by rfl
  have e2 : (dirN false [[97]] q3 [whiteN] q4).tab 0 = [⟨2, false, [[97]], 0, [], [], [1]⟩, ⟨4, false, [], 0, [], [], []⟩] := by rfl
  generalize dirN false [[97], [98]] q1 [textN [120] r1, textN [121] r2] q2 = d1 at hok1 hr1 e1 ⊢
  generalize dirN false [[97]] q3 [whiteN] q4 = d2 at hok2 hr2 e2 ⊢
  simp
  have h0 := ofErr_all [d1, d2] 0 (by simp [hr1, hr2]) (by simp)
  refine stack_Of_A (l := [d1, d2]) hm (by simp [hok1, hok2]) (by simp) (fun S1 h1 => ⟨fun _ s hs => ?_, fun h => absurd h0 h⟩)
  have hgood := hs.good (by simp [hok1, hok2]) h0
  have htabs := stk_tabs hs
  simp [e1, e2] at htabs
  have hroot : rootP s.tabs 0 = [(0, 0), (1, 0)] := by rw [htabs]; rfl
  have hla : lookS s.tabs [97] [(0, 0), (1, 0)] Fnd.none = ⟨0, (0, 0), []⟩ := by rw [htabs]; rfl
  have hlb : lookS s.tabs [98] [(0, 0), (1, 0)] Fnd.none = ⟨1, (1, 2), []⟩ := by rw [htabs]; rfl
  simp [joinK_eq]
  refine stack_Len_A ?_
  rw [hs.len]
  simp
  refine seen_Root_A hs.ok hs.on (fun r hr => ?_)
  rw [hroot]
  simp
  refine seen_Look_A (p := [(0, 0), (1, 0)]) hs.ok hs.on hgood (by simp) (fun ra _ => ?_)
  rw [hla]
  simp [Fnd.c]
  refine seen_Look_A (p := [(0, 0), (1, 0)]) hs.ok hs.on hgood (by simp) (fun rb _ => ?_)
  rw [hlb]
  simp [Fnd.c]
  exact hq _ h1
theorem rootP_lt : ∀ (L : List (List InoP)) (k : Nat), ∀ x ∈ rootP L k, x.1 < k + L.length
  | [], _, x, h => by rw [rootP] at h; cases h
  | P :: L, k, x, h => by
    rw [rootP] at h
    rcases List.mem_cons.1 h with rfl | h
    · simp
    · split at h
      · cases h
      · have := rootP_lt L (k + 1) x h
        simp; omega
theorem lookS_sp (L : List (List InoP)) (s : Str) : ∀ (p : List Spot) (f : Fnd), f.sp.1 ≤ 64 → (∀ x ∈ p, x.1 ≤ 64) → (lookS L s p f).sp.1 ≤ 64
  | [], f, h, _ => h
  | x :: p, f, h, hp => by
    have hx := hp x (by simp)
    have hp' : ∀ y ∈ p, y.1 ≤ 64 := fun y hy => hp y (by simp [hy])
    rw [lookS]
    split
    · exact lookS_sp L s p f h hp'
    · split
      · exact lookS_sp L s p f h hp'
      · split
        · split
          · exact hx
          · exact h
        · have h1 : ∀ (k : Nat) (kd : Int), (if f.kind = 0 then (⟨kd, (x.1, k), []⟩ : Fnd) else f).sp.1 ≤ 64 := fun k kd => by
            split
            · exact hx
            · exact h
          simp only
          split
          · exact h1 _ _
          · exact lookS_sp L s p _ (h1 _ _) hp'
theorem lookS_dirs (L : List (List InoP)) (s : Str) : ∀ (p : List Spot) (f : Fnd), (lookS L s p f).dirs.length ≤ f.dirs.length + p.length
  | [], f => by simp [lookS]
  | x :: p, f => by
    have h0 := lookS_dirs L s p f
    rw [List.length_cons, lookS]
    cases L[x.1]? with
    | none => simp only; omega
    | some P =>
      simp only
      cases lookP (inoAt P x.2) s with
      | none => simp only; omega
      | some j =>
        simp only
        have h1 : (if f.kind = 0 then (⟨(inoAt P j).kind, (x.1, j), []⟩ : Fnd) else f).dirs.length ≤ f.dirs.length := by
          split
          · simp
          · exact Nat.le_refl _
        generalize (if f.kind = 0 then (⟨(inoAt P j).kind, (x.1, j), []⟩ : Fnd) else f) = f1 at h1
        split
        · split
          · simp
          · omega
        · split
          · simp; omega
          · have := lookS_dirs L s p ⟨f1.kind, f1.sp, f1.dirs ++ [(x.1, j)]⟩
            simp at this
            omega
set_option maxRecDepth 100000 in
theorem law08_SeenOne_L (w0 : World) (hm : MaxL w0) (x0 x1 x2 : AV) (h0 : TV t_api_Node x0) (h1 : TV t_s_api_Node x1) (h2 : TV t_string x2) : AC w0 F_law08_SeenOne [x0, x1, x2] [] fun r _ => r = .bool true := by
  refine law_of fun Q hq => ?_
  obtain ⟨u, rfl, hok⟩ := h0.node
  obtain ⟨l, lr, e1, hlr, hll, hlok⟩ := (dec_Node_aux (h1.one (by simp [isAgg, un_s_api_Node]))).2 rfl
  obtain ⟨name, rfl, hname⟩ := h2.str un_string
  have e1' : x1 = .vs 7 (l.map Node.c) lr := by simpa using e1
  subst e1'
  have hcc := u.c_eq'
  rw [hcc]
  apply law08_SeenOne_ok
  unfold G_law08_SeenOne
  simp only [← hcc]
  simp
  refine law08_speaks_A hm (fun S _ => ?_)
  have happ : ∀ K : AV → Prop, (∀ r, K (.vs 7 ((l ++ [u]).map Node.c) r)) → optK (appendA T_api_Node S (.vs 7 [] .full) (.vs 7 (l.map Node.c) lr.strip)) fun t22 => optK (appendA T_api_Node S t22 (.vs 7 [u.c] .full)) K := by
    intro K hK
    by_cases e : l = []
    · subst e
      have := hK (.own (rowTy T_api_Node .full))
      simp [appendA, elemsA, lim]
      simpa using this
    · have := hK (.own (rowTy T_api_Node (.own (rowTy T_api_Node .full))))
      simp [appendA, elemsA, e, show l.length ≤ lim by unfold lim; omega, show l.length + 1 ≤ lim by unfold lim; omega]
      simpa using this
  simp
  refine happ _ (fun ra => ?_)
  have hok2 : ∀ n ∈ l ++ [u], n.ok := fun n hn => by
    rcases List.mem_append.1 hn with hn | hn
    · exact hlok n hn
    · rw [List.mem_singleton.1 hn]; exact hok
  generalize hL : l ++ [u] = L at hok2 ⊢
  simp
  refine law08_May_A hok2 (fun S2 hS2 => ?_)
  cases hmay : mayB L with
  | false => simp [joinK_eq, hq]
  | true =>
  simp [joinK_eq]
  by_cases c : (100 : Int) < name.length
  · simp [c, hq]
  simp [c]
  obtain ⟨h8, hall⟩ := mayB_iff.1 hmay
  have hmayl : mayB l = true := mayB_iff.2 ⟨by rw [← hL] at h8; simp at h8; omega, fun n hn => hall n (by rw [← hL]; simp [hn])⟩
  obtain ⟨husm, hur⟩ := hall u (by rw [← hL]; simp)
  refine law08_Stack_A hm hok2 hmay (fun S3 s hS3 hs => ?_)
  simp
  refine law08_Stack_A hm hlok hmayl (fun S4 t hS4 ht => ?_)
  simp
  refine ref04_Find_A hok ?_
  obtain ⟨u1, u2, u3, u4⟩ := rightB_all hur
  have hon := hs.on.mono hS4
  have hgs := hs.good hok2 (ofErr_all L 0 (fun n hn => (hall n hn).2) (by omega))
  have hgt := ht.good hlok (ofErr_all l 0 (fun n hn => ((mayB_iff.1 hmayl).2 n hn).2) (by have := (mayB_iff.1 hmayl).1; omega))
  have hts := stk_tabs hs
  have htt := stk_tabs ht
  rw [← hL, List.reverse_append, List.map_append, List.reverse_singleton, List.map_singleton, List.singleton_append, ← htt] at hts
  have hroots : rootP s.tabs 0 = (0, 0) :: if (u.hd 0).opq = true then [] else (rootP t.tabs 0).map fun x => (x.1 + 1, x.2) := by
    rw [hts, rootP, tab_root, rootP_shift]
  have hlenS := rootP_len s.tabs 0
  have hlenT := rootP_len t.tabs 0
  have hsl := hs.ok.len
  have htl := ht.ok.len
  have hsl2 : s.tabs.length = s.l.length := by simp [Stk.tabs]
  have htl2 : t.tabs.length = t.l.length := by simp [Stk.tabs]
  simp
  refine seen_Root_A hs.ok hon (fun r1 _ => ?_)
  simp
  refine seen_Look_A hs.ok hon hgs (by omega) (fun r2 hr2 => ?_)
  generalize hf : lookS s.tabs name (rootP s.tabs 0) Fnd.none = f at hr2 ⊢
  simp [Fnd.c]
  refine seen_Root_A ht.ok ht.on (fun r3 _ => ?_)
  simp
  refine seen_Look_A ht.ok ht.on hgt (by omega) (fun r4 hr4 => ?_)
  generalize hg : lookS t.tabs name (rootP t.tabs 0) Fnd.none = g at hr4 ⊢
  simp [Fnd.c]
  have hc1 : u.c[1]'(by simp) = .bool u.opq := by
    have : u.c[1]? = some (.bool u.opq) := by rw [hcc]; rfl
    exact (List.getElem?_eq_some_iff.1 this).2
  have hc3 : u.c[3]'(by simp) = .vs 7 (u.items.map Node.c) u.ir.strip := by
    have : u.c[3]? = some (.vs 7 (u.items.map Node.c) u.ir.strip) := by rw [hcc]; rfl
    exact (List.getElem?_eq_some_iff.1 this).2
  have hopq : (u.hd 0).opq = u.opq := rfl
  have ho := u2
  rw [Node.all_eq] at ho
  simp only [Bool.and_eq_true] at ho
  have hnb : namesB u = true := by
    have := (oneB_zero ho.2).2
    simpa [kindB, u1] using this
  have htl3 := tab_look (s := name) (namesB_iff hnb).2
  have hg0 : g.sp.1 ≤ 64 := by
    rw [← hg]
    refine lookS_sp t.tabs name (rootP t.tabs 0) Fnd.none (by simp [Fnd.none]) (fun x hx => ?_)
    have := rootP_lt t.tabs 0 x hx
    omega
  have hfirst : s.tabs[0]? = some (u.tab 0) := by rw [hts]; rfl
  have hftab : inoAt (u.tab 0) 0 = u.hd 0 := tab_root u
  rw [hroots, lookS] at hf
  simp only [hfirst] at hf
  rw [show inoAt (u.tab 0) ((0 : Nat) : Int) = u.hd 0 from hftab] at hf
  rw [hopq] at hf
  cases hfi : u.names.l.findIdx? (fun x => decide (x = name)) with
  | none =>
    rw [hfi] at htl3
    simp only at htl3
    rw [htl3] at hf
    simp only at hf
    simp only [hc1]
    cases hopq2 : u.opq with
    | true =>
      rw [hopq2, if_pos rfl, lookS] at hf
      rw [← hf]
      simp [Fnd.none, hq]
    | false =>
      rw [hopq2, if_neg (by simp), hts] at hf
      have hless := lookS_shift (u.tab 0) t.tabs name (rootP t.tabs 0) Fnd.none Fnd.none ⟨rfl, rfl, fun h => absurd rfl h⟩
      rw [hf, hg] at hless
      obtain ⟨l1, l2, l3⟩ := hless
      have l2' : ((f.dirs.length : Int) = g.dirs.length) := by omega
      by_cases f0 : f.kind = 0
      · have g0 : g.kind = 0 := by rw [← l1]; exact f0
        simp [f0, g0, l2', hq]
      · have g0 : ¬ g.kind = 0 := by rw [← l1]; exact f0
        have l3 := l3 f0
        have e1 : f.sp.1 = g.sp.1 + 1 := by rw [l3]
        have e2 : f.sp.2 = g.sp.2 := by rw [l3]
        have ew : IntKind.i64.wrap ((g.sp.1 : Int) + 1) = (g.sp.1 : Int) + 1 := wrap64 (by omega) (by omega)
        simp [f0, g0, l1, l2', e1, e2, ew, hq]
  | some k =>
    rw [hfi] at htl3
    simp only at htl3
    obtain ⟨x, j, hx, hlk, hino⟩ := htl3
    rw [hlk] at hf
    simp only [hino] at hf
    have hxk : (x.hd j).kind = x.kind := rfl
    have hxo : (x.hd j).opq = x.opq := rfl
    rw [hxk, hxo] at hf
    have hcx0 : x.c[0]'(by simp) = .int .i64 x.kind := cell0 x
    have hcx1 : x.c[1]'(by simp) = .bool x.opq := by
      have : x.c[1]? = some (.bool x.opq) := by rw [Node.c_eq]; rfl
      exact (List.getElem?_eq_some_iff.1 this).2
    have hxm := List.mem_of_getElem? hx
    have hxone : oneB x = true := by
      have := alls_mem ho.1 x hxm
      rw [Node.all_eq] at this
      simp only [Bool.and_eq_true] at this
      exact this.2
    have hkn : ¬ ((k : Int) < 0) := by omega
    have f00 : Fnd.none.kind = 0 := rfl
    simp only [hkn, hc1, hc3]
    by_cases k4 : x.kind = 4
    · rw [if_pos (by rw [k4]; omega), if_neg (by rw [k4]; simp)] at hf
      rw [← hf]
      simp [hx, hcx0, k4, Fnd.none, hq]
    by_cases k2 : x.kind = 2
    case neg =>
      rw [if_pos k2, if_pos ⟨f00, k4⟩] at hf
      rw [← hf]
      have k0 : ¬ x.kind = 0 := by rcases kinds4 hxone with h | h | h | h <;> omega
      simp [hx, hcx0, k4, k2, k0, hq]
    rw [if_neg (by rw [k2]; simp)] at hf
    simp only [f00, if_true] at hf
    cases hxop : x.opq with
    | true =>
      rw [hxop, if_pos rfl] at hf
      rw [← hf]
      simp [hx, hcx0, hcx1, k2, hxop, Fnd.none, hq]
    | false =>
      rw [hxop, if_neg (by simp)] at hf
      cases hopq2 : u.opq with
      | true =>
        rw [hopq2, if_pos rfl, lookS] at hf
        rw [← hf]
        simp [hx, hcx0, hcx1, k2, hxop, Fnd.none, hq]
      | false =>
        rw [hopq2, if_neg (by simp), hts] at hf
        have hmore := lookS_more (u.tab 0) t.tabs name ⟨x.kind, (0, j), [] ++ [(0, j)]⟩ (rootP t.tabs 0) ⟨x.kind, (0, j), [] ++ [(0, j)]⟩ Fnd.none ⟨k2, rfl, by simp [Fnd.none]⟩ (.inl ⟨rfl, rfl⟩)
        rw [hg] at hmore
        rw [hf] at hmore
        obtain ⟨m1, m2, m3⟩ := hmore
        have m4 : f.sp.1 = 0 := by rw [m2]
        by_cases g2 : g.kind = 2
        · rw [if_pos g2] at m3
          have hgd : g.dirs.length ≤ 1000000 := by
            rw [← hg]
            exact Nat.le_trans (lookS_dirs t.tabs name (rootP t.tabs 0) Fnd.none) (by simp [Fnd.none]; omega)
          have ew : IntKind.i64.wrap ((1 : Int) + g.dirs.length) = (1 : Int) + g.dirs.length := wrap64 (by omega) (by omega)
          simp [hx, hcx0, hcx1, k2, hxop, m1, m3, m4, g2, ew, hq]
        · rw [if_neg g2] at m3
          have ew1 : IntKind.i64.wrap 1 = 1 := wrap64 (by omega) (by omega)
          by_cases g0 : g.kind = 0
          · simp [hx, hcx0, hcx1, k2, hxop, m1, m3, m4, g0, ew1, hq]
          · simp [hx, hcx0, hcx1, k2, hxop, m1, m3, m4, g0, g2, ew1, hq]
end Go.Av
