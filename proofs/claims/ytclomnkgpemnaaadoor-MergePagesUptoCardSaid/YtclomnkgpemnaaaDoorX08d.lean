/- Parts of the proofs of this seat: abstract values over the model, and what the functions of the program do. No condition. -/
import Derived.Test.YtclomnkgpemnaaaDoorX05M
import Derived.Test.YtclomnkgpemnaaaDoorXRow
set_option linter.all false
set_option linter.unusedVariables false
namespace Go.Av
open Go.Proofs
theorem rootP_on : ∀ (l : List Node) (L : List (List InoP)) (k : Nat), L.drop k = l.map (fun n => n.tab 0) → OnP L (rootP (l.map fun n => n.tab 0) k) (dirsN l)
  | [], _, _, _ => trivial
  | n :: l, L, k, h => by
    have h0 : L[k]? = some (n.tab 0) := by
      have := congrArg (fun x => x[0]?) h
      simpa using this
    have h1 : L.drop (k + 1) = l.map (fun n => n.tab 0) := by
      have := congrArg (fun x => x.drop 1) h
      simpa [List.drop_drop, Nat.add_comm] using this
    rw [List.map_cons, rootP, dirsN]
    refine ⟨⟨n.tab 0, h0, At.root n⟩, ?_⟩
    have ho : (inoAt (n.tab 0) 0).opq = n.opq := by rw [tab_root]; rfl
    rw [ho]
    split
    · trivial
    · exact rootP_on l L (k + 1) h1
end Go.Av
set_option linter.unusedVariables false
namespace Go.Av
open Go.Proofs
set_option maxRecDepth 100000 in
theorem law10_speaks_A {w0 : World} (hm : MaxL w0) {S : St} {Q : AV → St → Prop} (hq : ∀ S', Sx S S' → Q (.bool true) S') : AC w0 F_law10_speaks [] S Q := by
  apply law10_speaks_ok
  unfold G_law10_speaks
  refine tree_Text_A (by simp) (fun r1 hr1 => ?_)
  refine tree_Text_A (by simp) (fun r2 hr2 => ?_)
  simp
  refine tree_Dir_A (l := [[97], [98]]) (items := [textN [120] r1, textN [121] r2]) okR_full okR_full (by simp) (by simp) (fun q1 q2 k1 k2 => ?_)
  refine tree_White_A ?_
  refine tree_Link_A ?_
  simp
  refine tree_Dir_A (l := [[97], [99]]) (items := [whiteN, .mk 3 false ⟨[], .nil⟩ [] .nil 0 [] .nil [98]]) okR_full okR_full (by simp) (by simp) (fun q3 q4 k3 k4 => ?_)
  have hx := textN_ok (s := [120]) (by simp) hr1
  have hy := textN_ok (s := [121]) (by simp) hr2
  have hlk : (Node.mk 3 false ⟨[], .nil⟩ [] .nil 0 [] .nil [98]).ok := by
    rw [Node.ok_iff]
    simp [Node.kind, Node.names, Node.items, Node.ir, Node.size, Node.exts, Node.er, Node.target, I64, Ss.ok]
  have hok1 := dirN_ok (o := false) (l := [[97], [98]]) (items := [textN [120] r1, textN [121] r2]) (by simp) (by simp [hx, hy]) k1 k2
  have hok2 := dirN_ok (o := false) (l := [[97], [99]]) (items := [whiteN, .mk 3 false ⟨[], .nil⟩ [] .nil 0 [] .nil [98]]) (by simp) (by simp [white_ok, hlk]) k3 k4
  have a1 : oneB (textN [120] r1) = true := textN_right (by simp)
  have a2 : (textN [120] r1).allB = true := by rw [Node.all_eq, a1]; rfl
  have b1 : oneB (textN [121] r2) = true := textN_right (by simp)
  have b2 : (textN [121] r2).allB = true := by rw [Node.all_eq, b1]; rfl
  have hr1 : rightB (dirN false [[97], [98]] q1 [textN [120] r1, textN [121] r2] q2) = true := by
    have a3 : oneB (dirN false [[97], [98]] q1 [textN [120] r1, textN [121] r2] q2) = true := by rfl
    have a4 : (dirN false [[97], [98]] q1 [textN [120] r1, textN [121] r2] q2).allB = true := by
      rw [Node.all_eq, a3]
      show (Node.allsB [_, _] && true) = true
      rw [Node.allsB, a2, Node.allsB, b2]
      rfl
    rw [rightB, a4]
    rfl
  have hr2 : rightB (dirN false [[97], [99]] q3 [whiteN, .mk 3 false ⟨[], .nil⟩ [] .nil 0 [] .nil [98]] q4) = true := by rfl
  have hc1 : (dirN false [[97], [98]] q1 [textN [120] r1, textN [121] r2] q2).names.l.length = 2 := by rfl
  have hc2 : (dirN false [[97], [99]] q3 [whiteN, .mk 3 false ⟨[], .nil⟩ [] .nil 0 [] .nil [98]] q4).names.l.length = 2 := by rfl
  have hL : (namesR [dirN false [[97], [99]] q3 [whiteN, .mk 3 false ⟨[], .nil⟩ [] .nil 0 [] .nil [98]] q4, dirN false [[97], [98]] q1 [textN [120] r1, textN [121] r2] q2]).filterMap (entOf [dirN false [[97], [99]] q3 [whiteN, .mk 3 false ⟨[], .nil⟩ [] .nil 0 [] .nil [98]] q4, dirN false [[97], [98]] q1 [textN [120] r1, textN [121] r2] q2]) = [⟨[98], 1⟩, ⟨[99], 3⟩] := by rfl
  have hdn : dirsN [dirN false [[97], [99]] q3 [whiteN, .mk 3 false ⟨[], .nil⟩ [] .nil 0 [] .nil [98]] q4, dirN false [[97], [98]] q1 [textN [120] r1, textN [121] r2] q2] = [dirN false [[97], [99]] q3 [whiteN, .mk 3 false ⟨[], .nil⟩ [] .nil 0 [] .nil [98]] q4, dirN false [[97], [98]] q1 [textN [120] r1, textN [121] r2] q2] := by rfl
  generalize dirN false [[97], [98]] q1 [textN [120] r1, textN [121] r2] q2 = d1 at hok1 hr1 hc1 hL hdn ⊢
  generalize dirN false [[97], [99]] q3 [whiteN, .mk 3 false ⟨[], .nil⟩ [] .nil 0 [] .nil [98]] q4 = d2 at hok2 hr2 hc2 hL hdn ⊢
  simp
  have h0 := ofErr_all [d1, d2] 0 (by simp [hr1, hr2]) (by simp)
  refine stack_Of_A (l := [d1, d2]) hm (by simp [hok1, hok2]) (by simp) (fun S1 h1 => ⟨fun _ s hs => ?_, fun h => absurd h0 h⟩)
  have hgood := hs.good (by simp [hok1, hok2]) h0
  have htabs := stk_tabs hs
  have hroot := rootP_on [d2, d1] s.tabs 0 (by rw [htabs]; rfl)
  have htabs2 : s.tabs = [d2, d1].map (fun n => n.tab 0) := by rw [htabs]; rfl
  rw [← htabs2, hdn] at hroot
  simp [joinK_eq]
  refine stack_Len_A ?_
  rw [hs.len]
  simp
  refine seen_Root_A hs.ok hs.on (fun r hr => ?_)
  simp
  have hall : ∀ n ∈ [d2, d1], n.allB = true := by simp [(rightB_all hr1).2.1, (rightB_all hr2).2.1]
  have hlist : listN [d2, d1] = [⟨[98], 1⟩, ⟨[99], 3⟩] := by rw [listN, ← namesR_eq hall]; exact hL
  refine merge_List_A hs.ok hs.on hgood hroot (by simp [hok1, hok2, (rightB_all hr1).2.1, (rightB_all hr2).2.1, hc1, hc2]) (by rw [hroot.len]; simp) (fun S2 r5 hS2 hr5 => ?_)
  rw [hlist]
  simp [joinK_eq]
  refine merge_Names_A (l := [⟨[98], 1⟩, ⟨[99], 3⟩]) (by simp) (fun S3 r6 hS3 => ?_)
  simp
  exact hq _ ((h1.trans hS2).trans hS3)
end Go.Av
set_option linter.unusedVariables false
namespace Go.Av
open Go.Proofs
@[simp] theorem Ent.c_len (x : Ent) : x.c.length = 2 := rfl
theorem Ent.c_strip (x : Ent) : x.c.map AV.strip1 = x.c := by simp [Ent.c]
theorem Ent.n2 : ∀ x : Ent, x.c.length = 2 := fun _ => rfl
theorem merge_Page_r_A {w0 : World} {S : St} {x : AV} {l : List Ent} {o : Option Nat} (h : RowE Ent.c 2 S x l o) (hl : l.length ≤ 1000000) {a k : Nat} (ha : a ≤ l.length) (hk : k ≤ 1000000) {Q : AV → St → Prop}
    (hq : ∀ S' p o', Sx S S' → RowE Ent.c 2 S' p ((l.take (a + min k (l.length - a))).drop a) o' → (∀ j, o' = some j → S.length ≤ j) → Q (.tup [p, .bool (decide (a + min k (l.length - a) = l.length))]) S') : AC w0 F_merge_Page [x, .int .i64 a, .int .i64 k] S Q := by
  apply merge_Page_r_ok
  unfold G_merge_Page_r
  obtain ⟨h1, h2, h3, h4⟩ := h.strip
  have e1 : ¬ (0 > (a : Int)) := by omega
  have e2 : ¬ (0 > (k : Int)) := by omega
  have e3 : ¬ ((l.length : Int) < (a : Int)) := by omega
  have e4 : IntKind.i64.wrap ((l.length : Int) - (a : Int)) = ((l.length - a : Nat) : Int) := by rw [wrap64 (by omega) (by omega)]; omega
  have e5 : (if ((l.length - a : Nat) : Int) < (k : Int) then ((l.length - a : Nat) : Int) else (k : Int)) = ((min k (l.length - a) : Nat) : Int) := by split <;> omega
  have e6 : IntKind.i64.wrap ((a : Int) + ((min k (l.length - a) : Nat) : Int)) = ((a + min k (l.length - a) : Nat) : Int) := by rw [wrap64 (by omega) (by omega)]; omega
  rw [h1, h4, h1, h4]
  simp only [optK_some', minA, if_neg e1, if_neg e2, if_neg e3, if_true, strip_int, binA_sub, e4, e5, binA_add, e6]
  obtain ⟨y, c1, c2, c3, c4⟩ := h.part (T := T_merge_Entry) Ent.n2 Ent.c_strip rfl (a := a) (b := a + min k (l.length - a)) (by omega) (by omega) (k1 := .i64) (k2 := .i64)
  rw [c1]
  simp only [optK_some']
  obtain ⟨p, S', o', d1, d2, d3, d4, d5⟩ := RowE.append (enc := Ent.c) (n := 2) Ent.n2 (T := T_merge_Entry) rfl (S := S) (x := .vs 2 [] .nil) (l := []) (o := none) ⟨rfl, rfl⟩ c2 (by simp [lim]; omega)
  rw [d1]
  simp only [optK_some', binA_eql]
  obtain ⟨k1, k2, k3, k4⟩ := d2.strip
  rw [k3]
  have e7 : decide (((a + min k (l.length - a) : Nat) : Int) = (l.length : Int)) = decide (a + min k (l.length - a) = l.length) := by simp only [decide_eq_decide]; omega
  rw [e7]
  exact hq S' p o' (fun j hj => d3 j hj (by simp)) (by simpa using d2) (fun j hj => (d5 j hj).resolve_left (by simp))
def PInv (l : List Ent) (xl : AV) (ol : Option Nat) (at_ : Nat) (xg : AV) (og : Option Nat) (S : St) : Prop :=
  RowE Ent.c 2 S xl l ol ∧ RowE Ent.c 2 S xg (l.take at_) og ∧ at_ ≤ l.length ∧ ∀ j, og = some j → ol ≠ some j
def NInv (i : Nat) (x : AV) (S : St) : Prop := ∃ l o, RowE Ent.c 2 S x l o ∧ l.length = i
def GInv (l : List Ent) (xl : AV) (ol : Option Nat) (σ : AV × Nat) (S : St) : Prop := ∃ og, PInv l xl ol σ.2 σ.1 og S
def KInv (l : List Ent) (x : AV) (o : Option Nat) (xg : AV) (at_ : Nat) (og : Option Nat) (p : AV) (k : Nat) (op : Option Nat) (S : St) : Prop :=
  ∃ pl, RowE Ent.c 2 S p pl op ∧ pl.length = k ∧ RowE Ent.c 2 S x l o ∧ RowE Ent.c 2 S xg (l.take at_) og
set_option maxRecDepth 100000 in
theorem law10_MergePages_L (w0 : World) (hm : MaxL w0) (x0 x1 : AV) (h0 : TV t_s_string x0) (h1 : TV t_s_uint8 x1) : AC w0 F_law10_MergePages [x0, x1] [] fun r _ => r = .bool true := by
  refine law_of fun Q hq => ?_
  obtain ⟨names, nr, rfl, hnr, hnl, hns⟩ := h0.slice (enc := wStr) (ok := fun s : Str => s.length ≤ 1048576) un_s_string ce_string (fun ys h => by obtain ⟨s, h1, h2⟩ := dec_Str ys h; exact ⟨s, h1, h2⟩)
  obtain ⟨sizes, sr, rfl, hsr, hsl, hss⟩ := h1.slice (enc := fun n : Nat => [AV.int .u8 n]) (ok := fun n : Nat => n < 256) un_s_uint8 ce_uint8 (fun ys h => by obtain ⟨n, h1, h2⟩ := dec_u8 h un_uint8; exact ⟨n, h1, h2⟩)
  apply law10_MergePages_r_ok
  unfold G_law10_MergePages_r
  refine law10_speaks_A hm (fun S _ => ?_)
  simp
  by_cases c1 : 100 < names.length
  · have : (100 : Int) < names.length := by omega
    simp [joinK_eq, this, hq]
  by_cases c2 : 200 < sizes.length
  · have : (200 : Int) < sizes.length := by omega
    simp [joinK_eq, this, hq]
  have c1i : ¬ (100 : Int) < names.length := by omega
  have c2i : ¬ (200 : Int) < sizes.length := by omega
  simp [c1i, c2i]
  refine joinK_gen (fun j => ∀ (l : List Ent) (x : AV) (o : Option Nat) (S' : St), RowE Ent.c 2 S' x l o → l.length ≤ 100 → j x S') (fun l x o S' h hl => ?_) (fun j hj => ?_)
  · obtain ⟨l1, l2, l3, l4⟩ := h.strip
    refine joinK_gen (fun j => ∀ (xg : AV) (at_ : Nat) (og : Option Nat) (S2 : St), PInv l x o at_ xg og S2 → j xg S2) (fun xg at_ og S2 hI => ?_) (fun j2 hj2 => ?_)
    · obtain ⟨a1, a2, a3, a4⟩ := hI
      rw [joinK_eq]
      obtain ⟨g1, g2, g3, g4⟩ := a2.strip
      simp only [g1, g4, optK_some']
      refine loop_list (l.take at_) (fun i (_ : Unit) => ([.int .i64 i], [])) (fun i _ S' => S' = S2) () rfl rfl ?_ ?_
      · rintro i _ S' v b e c hxi hd hc hmem rfl hv
        simp at hv
        have hne : l.take at_ ≠ [] := by intro e; rw [e] at c; simp at c
        obtain ⟨ig, rfl⟩ := a2.is_some hne
        have hln : l ≠ [] := by intro e; rw [e] at hne; simp at hne
        obtain ⟨il, rfl⟩ := a1.is_some hln
        have hli : l[i]? = some e := by
          have hia : i < at_ := by rw [List.length_take] at c; omega
          rw [List.getElem?_take_of_lt hia] at hxi
          exact hxi
        have hil := (List.getElem?_eq_some_iff.1 hli).1
        have i1 := a2.idx (T := T_merge_Entry) (show T_merge_Entry.size = 2 from rfl) c (k := .i64)
        have i2 := a1.idx (T := T_merge_Entry) (show T_merge_Entry.size = 2 from rfl) hil (k := .i64)
        have i3 := a2.load (T := T_merge_Entry) Ent.n2 (show T_merge_Entry.size = 2 from rfl) rfl hxi
        have i4 := a1.load (T := T_merge_Entry) Ent.n2 (show T_merge_Entry.size = 2 from rfl) rfl hli
        have hc2 : (i : Int) < ((l.take at_).length : Int) := hc
        simp only [hv, l1, g1, i1, i3, i2, i4, optK_some', strip_int, binA_lss, hc2, decide_true, ifK_true]
        simp
        try simp (disch := omega) only [wrap64]
        exact .next (by rw [List.length_take] at c; exact c) () rfl rfl
      · rintro _ S' v b rfl hv N
        simp at hv
        simp [hv, hq]
    · refine loop_list sizes (fun i (σ : AV × Nat) => ([σ.1, .int .i64 σ.2, .int .i64 i], [])) (fun i σ S2 => GInv l x o σ S2) (.vs 2 [] .nil, 0) rfl ⟨none, h, ⟨rfl, by simp⟩, Nat.zero_le _, fun j e => by cases e⟩ ?_ ?_
      · rintro i ⟨xg, at_⟩ S2 v b n c hxi hd hc hmem ⟨og, a1, a2, a3, a4⟩ hv
        simp at hv a2 a3
        obtain ⟨hv1, hv2, hv3⟩ := hv
        have hn := hss n hmem
        have hrem : ((n : Int)).tmod 9 = ((n % 9 : Nat) : Int) := by rw [Int.tmod_eq_emod_of_nonneg (by omega)]; omega
        have ew : IntKind.i64.wrap (n : Int) = n := wrap64 (by omega) (by omega)
        obtain ⟨g1, g2, g3, g4⟩ := a2.strip
        simp only [hv1, hv2, hv3, hc, l1, l2, l4, optK_some', binA_lss, decide_true, ifK_true]
        simp [hxi, ew]
        rw [binA_rem _ _ _ (by decide), hrem]
        have hlen : at_ ≤ l.length := a3
        have hmn : min (n % 9) (l.length - at_) ≤ 8 := by omega
        have ew2 : IntKind.i64.wrap ((l.length : Int) - (at_ : Int)) = ((l.length - at_ : Nat) : Int) := by rw [wrap64 (by omega) (by omega)]; omega
        have ew3 : (if ((l.length - at_ : Nat) : Int) < ((n % 9 : Nat) : Int) then ((l.length - at_ : Nat) : Int) else ((n % 9 : Nat) : Int)) = ((min (n % 9) (l.length - at_) : Nat) : Int) := by split <;> omega
        simp only [optK_some', free_int, if_true, strip_int, minA, ew2, ew3]
        refine joinK_gen (fun j => ∀ (x6 : AV) (at2 : Nat) (S8 : St), GInv l x o (x6, at2) S8 → j x6 (.int .i64 at2) S8) (fun x6 at2 S8 hG => ?_) (fun j3 hj3 => ?_)
        · try simp (disch := omega) only [wrap64]
          exact .next c (x6, at2) rfl hG
        refine merge_Page_r_A a1 (by omega) hlen (by omega) (fun S3 p op hS3 hp hop => ?_)
        obtain ⟨p1, p2, p3, p4⟩ := hp.strip
        have hplen : ((l.take (at_ + min (n % 9) (l.length - at_))).drop at_).length = min (n % 9) (l.length - at_) := by rw [List.length_drop, List.length_take]; omega
        generalize hk : min (n % 9) (l.length - at_) = k at hp hplen hmn ⊢
        have hk2 : at_ + k ≤ l.length := by omega
        have ew4 : IntKind.i64.wrap ((at_ : Int) + (k : Int)) = ((at_ + k : Nat) : Int) := by rw [wrap64 (by omega) (by omega)]; omega
        rw [hk, hplen] at p4
        simp only [extractA_0, extractA_1, stripTup_0, stripTup_1, optK_some', p1, p4, strip_bool, binA_neq, ne_eq, not_true_eq_false, decide_false, strip_bool, binA_add, ew4]
        rw [joinK_eq]
        have e8 : decide (((at_ + k : Nat) : Int) = (l.length : Int)) = decide (at_ + k = l.length) := by simp only [decide_eq_decide]; omega
        simp only [ifK_false, binA_eql, e8, optK_some', binE_bool_neq, beq_self_eq_true, Bool.not_true, pickA_false, strip_bool]
        have a1' := a1.sx hS3
        have a2' := a2.sx hS3
        obtain ⟨xg', S4, og', d1, d2, d3, d4, d5⟩ := RowE.append (enc := Ent.c) (n := 2) Ent.n2 (T := T_merge_Entry) rfl a2' (hp.elems Ent.n2 Ent.c_strip) (by simp [lim]; omega)
        have htk : l.take at_ ++ (l.take (at_ + k)).drop at_ = l.take (at_ + k) := by
          conv => rhs; rw [← List.take_append_drop at_ (l.take (at_ + k)), List.take_take, Nat.min_eq_left (by omega)]
        rw [htk] at d2
        rw [d1]
        simp only [optK_some']
        have hogl : ∀ j, og = some j → j < S2.length := fun j e => by subst e; exact a2.lt
        have hol : ∀ j, o = some j → j < S2.length := fun j e => by subst e; exact a1.lt
        have hopl : ∀ j, op = some j → j < S3.length := fun j e => by subst e; exact hp.lt
        have hS3l := hS3.le
        have b1 : RowE Ent.c 2 S4 x l o := a1'.mono fun j e => d3 j (by have := hol j e; omega) (fun e2 => a4 j e2 e)
        have b2 : RowE Ent.c 2 S4 p ((l.take (at_ + k)).drop at_) op := hp.mono fun j e => d3 j (hopl j e) (fun e2 => by have := hop j e; have := hogl j e2; omega)
        have hdis : ∀ j, og' = some j → op ≠ some j ∧ o ≠ some j := fun j e => by
          rcases d5 j e with h | h
          · exact ⟨fun e2 => by have := hop j e2; have := hogl j h; omega, a4 j h⟩
          · exact ⟨fun e2 => by have := hopl j e2; omega, fun e2 => by have := hol j e2; omega⟩
        have hdis2 : ∀ j, op = some j → o ≠ some j := fun j e e2 => by have := hop j e; have := hol j e2; omega
        refine loop_list ((l.take (at_ + k)).drop at_) (fun i (_ : Unit) => ([.int .i64 i], [])) (fun i _ S' => KInv l x o xg' (at_ + k) og' p k op S') () rfl ⟨_, b2, hplen, b1, d2⟩ ?_ ?_
        · rintro i2 _ S5 v5 b5 e c5 hxi5 hd5 hc5 hmem5 ⟨pl, q1, q2, q3, q4⟩ hv5
          simp at hv5
          have hne : pl ≠ [] := by intro e; rw [e] at q2; simp at q2; omega
          obtain ⟨ip, rfl⟩ := q1.is_some hne
          have hil : i2 < pl.length := by omega
          obtain ⟨y, hy⟩ : ∃ y, pl[i2]? = some y := ⟨_, List.getElem?_eq_getElem hil⟩
          have i1 := q1.idx (T := T_merge_Entry) (show T_merge_Entry.size = 2 from rfl) hil (k := .i64)
          have i3 := q1.cell (T := T_int) Ent.n2 rfl hy (k := 1) (by omega)
          obtain ⟨S6, s1, s2, s3, s4⟩ := q1.put (T := T_int) Ent.n2 rfl hy (k := 1) (z := ⟨y.name, IntKind.i64.wrap (y.kind - 1)⟩) (by omega) (v := .int .i64 (IntKind.i64.wrap (y.kind - 1))) rfl rfl (by simp [Ent.c])
          have hc5' : (i2 : Int) < (k : Int) := by rw [← hplen]; exact hc5
          simp only [hv5, binA_lss, hc5', decide_true, ifK_true, optK_some', strip_int, i1, movePtr_ptr, i3, Ent.c, List.getElem?_cons_succ, List.getElem?_cons_zero, binA_sub, s1, binA_add]
          try simp (disch := omega) only [wrap64]
          refine .next (by simpa using c5) () rfl ⟨_, s2, by simpa using q2, q3.mono fun j e => s4 j (fun e2 => hdis2 _ rfl (by rw [← e2]; exact e)), q4.mono fun j e => s4 j (fun e2 => (hdis j e).1 (by rw [e2]))⟩
        · rintro _ S5 v5 b5 ⟨pl, q1, q2, q3, q4⟩ hv5 N5
          rw [hplen] at hv5
          simp at hv5
          simp [hv5]
          have := hj3 xg' (at_ + k) S5 ⟨og', q3, q4, hk2, fun j e => (hdis j e).2⟩
          simpa using this
      · rintro ⟨xg, at_⟩ S2 v b ⟨og, hI⟩ hv N
        simp at hv
        obtain ⟨hv1, hv2, hv3⟩ := hv
        simp [hv1, hv2, hv3]
        exact hj2 xg at_ og S2 hI
  · refine loop_list names (fun i (x : AV) => ([x, .int .i64 i], [])) (fun i x S' => NInv i x S') (.vs 2 [] .nil) rfl ⟨[], none, ⟨rfl, rfl⟩, rfl⟩ ?_ ?_
    · rintro i x S' v b s c hxi hd hc hmem ⟨l, o, hR, hl⟩ hv
      simp at hv
      obtain ⟨hv1, hv2⟩ := hv
      simp [hv1, hv2, hc, hxi]
      obtain ⟨p, S2, o2, d1, d2, d3, d4, d5⟩ := RowE.append (enc := Ent.c) (n := 2) Ent.n2 (T := T_merge_Entry) rfl hR (y := .vs 2 [[.str s, .int .i64 i]] .full) (m := [⟨s, i⟩]) (by simp [elemsA]) (by simp [lim]; omega)
      rw [d1]
      simp
      try simp (disch := omega) only [wrap64]
      exact .next c p rfl ⟨_, _, d2, by simp [hl]⟩
    · rintro x S' v b ⟨l, o, hR, hl⟩ hv N
      simp at hv
      obtain ⟨hv1, hv2⟩ := hv
      simp [hv1, hv2]
      exact hj l x o S' hR (by omega)
end Go.Av
