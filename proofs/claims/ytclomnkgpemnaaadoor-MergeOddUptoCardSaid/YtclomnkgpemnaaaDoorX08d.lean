/- Parts of the proofs of this seat: abstract values over the model, and what the functions of the program do. No condition. -/
import Derived.Test.YtclomnkgpemnaaaDoorX05M
set_option linter.all false
set_option linter.unusedVariables false
namespace Go.Av
open Go.Proofs
theorem rootP_on : ∀ (l : List Node) (L : List (List InoP)) (k : Nat), L.drop k = l.map (fun n => n.tab 0) → OnP L (rootP (l.map fun n => n.tab 0) k) (dirsN l)
  | [], _, _, _ => trivial
  | n :: l, L, k, h => by
    have h0 : L[k]? = some (n.tab 0) := by
      have := congrArg (fun x => x[0]?) h
      simpa using this
    have h1 : L.drop (k + 1) = l.map (fun n => n.tab 0) := by
      have := congrArg (fun x => x.drop 1) h
      simpa [List.drop_drop, Nat.add_comm] using this
    rw [List.map_cons, rootP, dirsN]
    refine ⟨⟨n.tab 0, h0, At.root n⟩, ?_⟩
    have ho : (inoAt (n.tab 0) 0).opq = n.opq := by rw [tab_root]; rfl
    rw [ho]
    split
    · trivial
    · exact rootP_on l L (k + 1) h1
end Go.Av
set_option linter.unusedVariables false
namespace Go.Av
open Go.Proofs
set_option maxRecDepth 100000 in
theorem law10_speaks_A {w0 : World} (hm : MaxL w0) {S : St} {Q : AV → St → Prop} (hq : ∀ S', Sx S S' → Q (.bool true) S') : AC w0 F_law10_speaks [] S Q := by
  apply law10_speaks_ok
  unfold G_law10_speaks
  refine tree_Text_A (by simp) (fun r1 hr1 => ?_)
  refine tree_Text_A (by simp) (fun r2 hr2 => ?_)
  simp
  refine tree_Dir_A (l := [[97], [98]]) (items := [textN [120] r1, textN [121] r2]) okR_full okR_full (by simp) (by simp) (fun q1 q2 k1 k2 => ?_)
  refine tree_White_A ?_
  refine tree_Link_A ?_
  simp
  refine tree_Dir_A (l := [[97], [99]]) (items := [whiteN, .mk 3 false ⟨[], .nil⟩ [] .nil 0 [] .nil [98]]) okR_full okR_full (by simp) (by simp) (fun q3 q4 k3 k4 => ?_)
  have hx := textN_ok (s := [120]) (by simp) hr1
  have hy := textN_ok (s := [121]) (by simp) hr2
  have hlk : (Node.mk 3 false ⟨[], .nil⟩ [] .nil 0 [] .nil [98]).ok := by
    rw [Node.ok_iff]
    simp [Node.kind, Node.names, Node.items, Node.ir, Node.size, Node.exts, Node.er, Node.target, I64, Ss.ok]
  have hok1 := dirN_ok (o := false) (l := [[97], [98]]) (items := [textN [120] r1, textN [121] r2]) (by simp) (by simp [hx, hy]) k1 k2
  have hok2 := dirN_ok (o := false) (l := [[97], [99]]) (items := [whiteN, .mk 3 false ⟨[], .nil⟩ [] .nil 0 [] .nil [98]]) (by simp) (by simp [white_ok, hlk]) k3 k4
  have a1 : oneB (textN [120] r1) = true := textN_right (by simp)
  have a2 : (textN [120] r1).allB = true := by rw [Node.all_eq, a1]; rfl
  have b1 : oneB (textN [121] r2) = true := textN_right (by simp)
  have b2 : (textN [121] r2).allB = true := by rw [Node.all_eq, b1]; rfl
  have hr1 : rightB (dirN false [[97], [98]] q1 [textN [120] r1, textN [121] r2] q2) = true := by
    have a3 : oneB (dirN false [[97], [98]] q1 [textN [120] r1, textN [121] r2] q2) = true := by rfl
    have a4 : (dirN false [[97], [98]] q1 [textN [120] r1, textN [121] r2] q2).allB = true := by
      rw [Node.all_eq, a3]
      show (Node.allsB [_, _] && true) = true
      rw [Node.allsB, a2, Node.allsB, b2]
      rfl
    rw [rightB, a4]
    rfl
  have hr2 : rightB (dirN false [[97], [99]] q3 [whiteN, .mk 3 false ⟨[], .nil⟩ [] .nil 0 [] .nil [98]] q4) = true := by rfl
  have hc1 : (dirN false [[97], [98]] q1 [textN [120] r1, textN [121] r2] q2).names.l.length = 2 := by rfl
  have hc2 : (dirN false [[97], [99]] q3 [whiteN, .mk 3 false ⟨[], .nil⟩ [] .nil 0 [] .nil [98]] q4).names.l.length = 2 := by rfl
  have hL : (namesR [dirN false [[97], [99]] q3 [whiteN, .mk 3 false ⟨[], .nil⟩ [] .nil 0 [] .nil [98]] q4, dirN false [[97], [98]] q1 [textN [120] r1, textN [121] r2] q2]).filterMap (entOf [dirN false [[97], [99]] q3 [whiteN, .mk 3 false ⟨[], .nil⟩ [] .nil 0 [] .nil [98]] q4, dirN false [[97], [98]] q1 [textN [120] r1, textN [121] r2] q2]) = [⟨[98], 1⟩, ⟨[99], 3⟩] := by rfl
  have hdn : dirsN [dirN false [[97], [99]] q3 [whiteN, .mk 3 false ⟨[], .nil⟩ [] .nil 0 [] .nil [98]] q4, dirN false [[97], [98]] q1 [textN [120] r1, textN [121] r2] q2] = [dirN false [[97], [99]] q3 [whiteN, .mk 3 false ⟨[], .nil⟩ [] .nil 0 [] .nil [98]] q4, dirN false [[97], [98]] q1 [textN [120] r1, textN [121] r2] q2] := by rfl
  generalize dirN false [[97], [98]] q1 [textN [120] r1, textN [121] r2] q2 = d1 at hok1 hr1 hc1 hL hdn ⊢
  generalize dirN false [[97], [99]] q3 [whiteN, .mk 3 false ⟨[], .nil⟩ [] .nil 0 [] .nil [98]] q4 = d2 at hok2 hr2 hc2 hL hdn ⊢
  simp
  have h0 := ofErr_all [d1, d2] 0 (by simp [hr1, hr2]) (by simp)
  refine stack_Of_A (l := [d1, d2]) hm (by simp [hok1, hok2]) (by simp) (fun S1 h1 => ⟨fun _ s hs => ?_, fun h => absurd h0 h⟩)
  have hgood := hs.good (by simp [hok1, hok2]) h0
  have htabs := stk_tabs hs
  have hroot := rootP_on [d2, d1] s.tabs 0 (by rw [htabs]; rfl)
  have htabs2 : s.tabs = [d2, d1].map (fun n => n.tab 0) := by rw [htabs]; rfl
  rw [← htabs2, hdn] at hroot
  simp [joinK_eq]
  refine stack_Len_A ?_
  rw [hs.len]
  simp
  refine seen_Root_A hs.ok hs.on (fun r hr => ?_)
  simp
  have hall : ∀ n ∈ [d2, d1], n.allB = true := by simp [(rightB_all hr1).2.1, (rightB_all hr2).2.1]
  have hlist : listN [d2, d1] = [⟨[98], 1⟩, ⟨[99], 3⟩] := by rw [listN, ← namesR_eq hall]; exact hL
  refine merge_List_A hs.ok hs.on hgood hroot (by simp [hok1, hok2, (rightB_all hr1).2.1, (rightB_all hr2).2.1, hc1, hc2]) (by rw [hroot.len]; simp) (fun S2 r5 hS2 hr5 => ?_)
  rw [hlist]
  simp [joinK_eq]
  refine merge_Names_A (l := [⟨[98], 1⟩, ⟨[99], 3⟩]) (by simp) (fun S3 r6 hS3 => ?_)
  simp
  exact hq _ ((h1.trans hS2).trans hS3)
end Go.Av
set_option linter.unusedVariables false
namespace Go.Av
open Go.Proofs
set_option maxRecDepth 100000 in
theorem merge_Page_A {w0 : World} {S : St} {l : List Ent} {r : Rt} {fr many : Int} (hr : r = .nil → l = []) (hl : l.length ≤ 1000000) {Q : AV → St → Prop}
    (hq : ∀ (a m : Nat) (q : Rt), a = min fr.toNat l.length → m = min many.toNat (l.length - a) → Q (.tup [.vs 2 (((l.drop a).take m).map Ent.c) q, .bool (decide (a + m = l.length))]) S) :
    AC w0 F_merge_Page [.vs 2 (l.map Ent.c) r, .int .i64 fr, .int .i64 many] S Q := by
  apply merge_Page_ok
  unfold G_merge_Page
  have e1 : ∀ x : Int, (if 0 > x then (0 : Int) else x) = ((x.toNat : Nat) : Int) := fun x => by split <;> omega
  have e2 : (if ((l.map Ent.c).length : Int) < ((fr.toNat : Nat) : Int) then ((l.map Ent.c).length : Int) else ((fr.toNat : Nat) : Int)) = ((min fr.toNat l.length : Nat) : Int) := by
    rw [List.length_map]
    split <;> omega
  simp only [e1, e2]
  have hq := fun q => hq (min fr.toNat l.length) _ q rfl rfl
  have ha : min fr.toNat l.length ≤ l.length := Nat.min_le_right _ _
  generalize min fr.toNat l.length = a at ha hq ⊢
  have e3 : IntKind.i64.wrap (((l.map Ent.c).length : Int) - a) = ((l.length - a : Nat) : Int) := by
    rw [List.length_map, wrap64 (by omega) (by omega)]; omega
  have e4 : minA [.int .i64 ((many.toNat : Nat) : Int), .int .i64 ((l.length - a : Nat) : Int)] = some (.int .i64 ((min many.toNat (l.length - a) : Nat) : Int)) := by
    simp only [minA, if_true]
    congr 2
    split <;> omega
  rw [e3, e4]
  have hm : min many.toNat (l.length - a) ≤ l.length - a := Nat.min_le_right _ _
  generalize min many.toNat (l.length - a) = m at hm hq ⊢
  have e5 : binA .add (.int .i64 ((a : Nat) : Int)) (.int .i64 ((m : Nat) : Int)) = some (.int .i64 ((a + m : Nat) : Int)) := by
    simp only [binA, if_true, intBin]
    congr 2
    rw [wrap64 (by omega) (by omega)]; omega
  simp only [optK_some', e5]
  have hcut := cutA_lh T_merge_Entry 2 (l.map Ent.c) r .i64 .i64 a (a + m)
  simp only [AV.strip, AV.strip2, AV.strip1]
  rw [if_pos ⟨rfl, ⟨by omega, by rw [List.length_map]; omega⟩, fun e => by rw [hr e]; rfl⟩] at hcut
  have hsl : ((l.map Ent.c).take (a + m)).drop a = ((l.drop a).take m).map Ent.c := by
    rw [← List.map_take, ← List.map_drop, List.drop_take, show a + m - a = m by omega]
  rw [hsl] at hcut
  rw [hcut]
  simp only [optK_some']
  have hlen : ((l.drop a).take m).length ≤ 1000000 := by rw [List.length_take, List.length_drop]; omega
  have e6 : ((a + m : Nat) : Int) = ((l.map Ent.c).length : Int) ↔ a + m = l.length := by rw [List.length_map]; omega
  have e7 : ((a : Int) + (m : Int) = (l.length : Int)) ↔ a + m = l.length := by omega
  generalize (l.drop a).take m = X at hq hlen ⊢
  by_cases e : X = []
  · have := hq .nil
    rw [e] at this ⊢
    simp [appendA, elemsA, AV.flat]
    simp at this
    simp only [e7]
    exact this
  · have hap : ∀ q, appendA T_merge_Entry S (.vs 2 [] .nil) (.vs 2 (X.map Ent.c) q) = some (.vs 2 (X.map Ent.c) (.own (rowTy T_merge_Entry .nil))) := fun q => by
      simp [appendA, elemsA, e, show X.length ≤ lim by unfold lim; omega]
    have := hq (.own (rowTy T_merge_Entry .nil))
    rw [hap]
    simp [AV.flat]
    simp only [e7]
    exact this
set_option maxRecDepth 100000 in
theorem law10_MergeOdd_L (w0 : World) (hm : MaxL w0) (x0 x1 x2 : AV) (h0 : TV t_s_string x0) (h1 : TV t_int x1) (h2 : TV t_int x2) : AC w0 F_law10_MergeOdd [x0, x1, x2] [] fun r _ => r = .bool true := by
  refine law_of fun Q hq => ?_
  obtain ⟨names, nr, rfl, hnr, hnl, hnx⟩ := h0.slice (enc := wStr) (ok := fun s => s.length ≤ 1048576) un_s_string ce_string dec_Str
  obtain ⟨fr, rfl, hfr⟩ := h1.int un_int
  obtain ⟨many, rfl, hmany⟩ := h2.int un_int
  apply law10_MergeOdd_ok
  unfold G_law10_MergeOdd
  refine law10_speaks_A hm (fun S _ => ?_)
  simp
  by_cases c100 : (100 : Int) < names.length
  · simp [c100, hq]
  simp [c100]
  rw [joinK_eq]
  refine loop_list names (fun i (σ : List Ent × Rt) => ([.vs 2 (σ.1.map Ent.c) σ.2, .int .i64 i], [])) (fun i σ S' => S' = S ∧ okA σ.2 σ.1 ∧ σ.1.length = i) ([], .nil) rfl ⟨rfl, .inl ⟨rfl, rfl⟩, rfl⟩ ?_ ?_
  · rintro i ⟨l, r⟩ S' v b s c hxi hdr hc hmem ⟨rfl, hr, hll⟩ hv
    simp at hv hr hll
    obtain ⟨hv1, hv2⟩ := hv
    have hap : ∀ S2 : St, appendA T_merge_Entry S2 (.vs 2 (l.map Ent.c) r) (.vs 2 [[.str s, .int .i64 0]] .full) = some (.vs 2 ((l ++ [(⟨s, 0⟩ : Ent)]).map Ent.c) (.own (rowTy T_merge_Entry r))) := fun S2 => by
      simp [appendA, elemsA, hr.ne.1, show l.length + 1 ≤ lim by unfold lim; omega]
    have h3 := hap S'
    simp at h3
    simp [hv1, hv2, hc, hxi]
    simp [h3]
    try simp (disch := omega) only [wrap64]
    exact .next c (l ++ [⟨s, 0⟩], .own (rowTy T_merge_Entry r)) (by simp) ⟨rfl, .app, by simp [hll]⟩
  · rintro ⟨l, r⟩ S' v b ⟨rfl, hr, hll⟩ hv N
    simp at hv hr hll
    obtain ⟨hv1, hv2⟩ := hv
    simp [hv1, hv2]
    refine merge_Page_A (fun e => by
      rcases hr with ⟨_, h⟩ | ⟨⟨t, rfl⟩, _⟩
      · exact h
      · simp [Rt.strip] at e) (by omega) (fun a m q ha hm2 => ?_)
    have hal : a ≤ l.length := by rw [ha]; exact Nat.min_le_right _ _
    have hml : m ≤ l.length - a := by rw [hm2]; exact Nat.min_le_right _ _
    have e2 : (if (l.length : Int) < (if fr < 0 then 0 else fr) then (l.length : Int) else (if fr < 0 then 0 else fr)) = (a : Int) := by
      rw [ha]
      split <;> split <;> omega
    have e3 : IntKind.i64.wrap ((l.length : Int) - a) = ((l.length - a : Nat) : Int) := by rw [wrap64 (by omega) (by omega)]; omega
    have hplen : ((l.drop a).take m).length = m := by rw [List.length_take, List.length_drop]; omega
    have hget : ∀ i : Nat, i < m → ∃ x, ((l.drop a).take m)[i]? = some x ∧ l[a + i]? = some x := fun i hi => by
      refine ⟨l[a + i]'(by omega), ?_, List.getElem?_eq_getElem (by omega)⟩
      rw [List.getElem?_take, if_pos hi, List.getElem?_drop]
      exact List.getElem?_eq_getElem (by omega)
    generalize (l.drop a).take m = X at hplen hget ⊢
    simp
    try simp only [e2, hplen]
    try simp [e3]
    rw [joinK_eq]
    have hloop : ∀ K : St → Prop, K S' → loopQ ([AV.int IntKind.i64 0], []) (fun v_2 bx_2 => ([v_2 73], []))
        (fun nx_2 v_2 bx_2 S_5 => optK (binA BinOp.lss (v_2 73) (AV.int IntKind.i64 (m : Int))) fun t74 => ifK t74
          (optK (idxSlA T_merge_Entry (AV.vs 2 (X.map Ent.c) q.strip) (v_2 73)) fun t76 => optK (loadA T_merge_Entry S_5 t76) fun t77 =>
            optK (if t77.strip.free = true ∧ t77.strip.cells.length = 2 then some (t77.strip.cells ++ List.drop t77.strip.cells.length [AV.str [], AV.int IntKind.i64 0]) else none) fun b15 =>
            optK (if 2 ≤ b15.length then some (AV.agg (List.take 2 b15)) else none) fun t78 =>
            optK (binA BinOp.add (AV.int IntKind.i64 (a : Int)) (v_2 73).strip.strip) fun t82 =>
            optK (idxSlA T_merge_Entry (AV.vs 2 (l.map Ent.c) r.strip) t82) fun t83 => optK (loadA T_merge_Entry S_5 t83) fun t84 =>
            optK (binE (EK.agg [AV.str [], AV.int IntKind.i64 0]) BinOp.neq t78.strip t84.strip) fun t85 =>
            ifK t85 (Q (AV.bool false) S_5) (optK (binA BinOp.add (v_2 73) (AV.int IntKind.i64 1)) fun t86 => nx_2 ([t86.strip], []) S_5))
          (K S_5)) S' := by
      intro K hK
      refine loop_list (List.range m) (fun i (_ : Unit) => ([.int .i64 i], [])) (fun i _ S2 => S2 = S') () rfl rfl ?_ ?_
      · rintro i _ S2 v2 b2 x c hxi hdr hc hmem rfl hv2
        simp at hv2 c
        obtain ⟨y, hy1, hy2⟩ := hget i c
        have e4 : IntKind.i64.wrap ((a : Int) + i) = ((a + i : Nat) : Int) := by rw [wrap64 (by omega) (by omega)]; omega
        simp [hv2, c, hy1]
        try simp (disch := omega) only [wrap64]
        have hidx : idxSlA T_merge_Entry (.vs 2 (l.map Ent.c) r.strip) (.int .i64 ((a : Int) + (i : Int))) = some (.ep y.c 0) := by
          have h1 : ((a : Int) + i).toNat = a + i := by omega
          have h2 : 0 ≤ (a : Int) + i := by omega
          simp [idxSlA, h1, h2, hy2]
        simp [hidx]
        try simp (disch := omega) only [wrap64]
        exact .next (by simpa using c) () rfl rfl
      · rintro _ S2 v2 b2 rfl hv2 N2
        simp at hv2
        simp [hv2]
        exact hK
    by_cases cm : many < ((l.length - a : Nat) : Int)
    · have hmm : m = many.toNat := by rw [hm2]; omega
      have e5 : IntKind.i64.wrap ((a : Int) + (if many < 0 then 0 else many)) = ((a + m : Nat) : Int) := by
        have : (if many < 0 then (0 : Int) else many) = ((m : Nat) : Int) := by split <;> omega
        rw [this, wrap64 (by omega) (by omega)]; omega
      have e6 : IntKind.i64.wrap (((a + m : Nat) : Int) - a) = (m : Int) := by rw [wrap64 (by omega) (by omega)]; omega
      have e7 : ((a : Int) + (m : Int) = (l.length : Int)) ↔ a + m = l.length := by omega
      have e6' : IntKind.i64.wrap ((a : Int) + (m : Int) - a) = (m : Int) := by rw [wrap64 (by omega) (by omega)]; omega
      simp [cm]
      simp only [e5]
      simp [e7]
      try simp only [e6']
      try simp
      rw [joinK_eq]
      exact hloop _ (hq _)
    · have hmm : m = l.length - a := by rw [hm2]; omega
      have e8 : a + m = l.length := by omega
      have e9 : (m : Int) = ((l.length - a : Nat) : Int) := by omega
      simp [cm]
      simp only [e3]
      simp [e8, e9]
      rw [joinK_eq, ← e9]
      exact hloop _ (hq _)
end Go.Av
