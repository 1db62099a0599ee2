/- Parts of the proofs of this seat: abstract values over the model, and what the functions of the program do. No condition. -/
import Derived.Test.YtclomnkgpemnaaaDoorX04L
import Derived.Test.YtclomnkgpemnaaaDoorY05
set_option linter.all false
set_option linter.unusedVariables false
namespace Go.Av
open Go.Proofs
theorem TyV.u16 {t : TypeId} {x : AV} (h : TV t x) (hu : Tryd.prog.underlying t = some (.int .u16)) : ∃ n : Nat, x = .int .u16 n ∧ n < 65536 := by
  obtain ⟨n, e, hw⟩ := (h.one (by simp [isAgg, hu])).int_inv hu
  simp [Lit.wf, IntKind.min, IntKind.max, IntKind.signed, IntKind.bits] at hw
  refine ⟨n.toNat, ?_, by omega⟩
  have : ((n.toNat : Nat) : Int) = n := by omega
  rw [this]
  simpa using e
end Go.Av
set_option linter.unusedVariables false
namespace Go.Av
open Go.Proofs
theorem mayB_step {l : List Node} (hl : l.length ≤ 8) : mayB l = l.all fun n => n.small && rightB n := by simp [mayB, hl]
theorem all_drop {p : Node → Bool} {l : List Node} {i : Nat} {x : Node} (h : l[i]? = some x) : (l.drop i).all p = (p x && (l.drop (i + 1)).all p) := by
  have hi := (List.getElem?_eq_some_iff.1 h).1
  rw [List.drop_eq_getElem_cons hi, List.all_cons, (List.getElem?_eq_some_iff.1 h).2]
set_option maxRecDepth 100000 in
theorem law08_May_A {w0 : World} {l : List Node} {r : Rt} {S : St} (hok : ∀ n ∈ l, n.ok) {Q : AV → St → Prop} (hq : ∀ S', Sx S S' → Q (.int .i64 (if mayB l = true then 1 else 0)) S') : AC w0 F_law08_May [.vs 7 (l.map Node.c) r] S Q := by
  apply law08_May_ok
  unfold G_law08_May
  by_cases c : (8 : Int) < l.length
  · have := hq S (Sx.refl _)
    have e : mayB l = false := by simp [mayB]; omega
    rw [e] at this
    simp [c]
    exact this
  simp [c, joinK_eq]
  refine loop_list l (fun i (_ : Unit) => ([.int .i64 i], [])) (fun i _ S' => Sx S S' ∧ mayB l = (l.drop i).all fun n => n.small && rightB n) () rfl ⟨Sx.refl _, by rw [mayB_step (by omega)]; simp⟩ ?_ ?_
  · rintro i _ S' v b n c hxi hd hc hmem ⟨hSx, he⟩ hv
    simp at hv
    rw [all_drop hxi] at he
    simp [hv, hc, hxi]
    refine law04_Small_A (hok n hmem) (fun S2 hS2 => ?_)
    cases hs : n.small with
    | false =>
      rw [hs] at he
      have := hq S2 (hSx.trans hS2)
      rw [he] at this
      simp
      simpa using this
    | true =>
      obtain ⟨b1, b2⟩ := Node.small_spec hs
      have b3 := n.count_weight
      simp
      refine ref04_Right_A (hok n hmem) (by omega) (by omega) ?_
      cases hr : rightB n with
      | false =>
        rw [hs, hr] at he
        have := hq S2 (hSx.trans hS2)
        rw [he] at this
        simp
        simpa using this
      | true =>
        rw [hs, hr] at he
        simp
        try simp (disch := omega) only [wrap64]
        exact .next c () rfl ⟨hSx.trans hS2, by simpa using he⟩
  · rintro _ S' v b ⟨hSx, he⟩ hv N
    simp at hv
    rw [List.drop_length, List.all_nil] at he
    have := hq S' hSx
    rw [he] at this
    simp [hv]
    simpa using this
set_option maxRecDepth 100000 in
theorem law08_Stack_A {w0 : World} (hm : MaxL w0) {l : List Node} {r : Rt} {S : St} (hok : ∀ n ∈ l, n.ok) (hmay : mayB l = true) {Q : AV → St → Prop} (hq : ∀ S' s, Sx S S' → StkOf S S' l s → Q (.tup [.agg s.c, .bool true]) S') : AC w0 F_law08_Stack [.vs 7 (l.map Node.c) r] S Q := by
  obtain ⟨h8, hall⟩ := mayB_iff.1 hmay
  apply law08_Stack_ok
  unfold G_law08_Stack
  simp [show ¬ (8 : Int) < l.length by omega, joinK_eq]
  refine loop_list l (fun i (_ : Unit) => ([.int .i64 i], [some [.vs 2 [] .nil, .int .i64 0]])) (fun i _ S' => Sx S S') () rfl (Sx.refl _) ?_ ?_
  · rintro i _ S' v b n c hxi hd hc hmem hSx hv
    simp at hv
    obtain ⟨hv1, hv2⟩ := hv
    obtain ⟨hs, hr⟩ := hall n hmem
    simp [hv1, hv2, hc, hxi]
    refine law04_Small_A (hok n hmem) (fun S2 hS2 => ?_)
    obtain ⟨b1, b2⟩ := Node.small_spec hs
    have b3 := n.count_weight
    rw [hs]
    simp
    refine ref04_Right_A (hok n hmem) (by omega) (by omega) ?_
    rw [hr]
    simp
    try simp (disch := omega) only [wrap64]
    exact .next c () rfl (hSx.trans hS2)
  · rintro _ S' v b hSx hv N
    simp at hv
    obtain ⟨hv1, hv2⟩ := hv
    simp [hv1, hv2]
    have h0 := ofErr_all l 0 (fun n hn => (hall n hn).2) (by omega)
    refine stack_Of_A hm hok (by omega) (fun S2 hS2 => ⟨fun _ s hs => ?_, fun h => absurd h0 h⟩)
    have hs' : StkOf S S2 l s := ⟨hs.ok, hs.on, hs.len, hs.next, hs.tabs, hs.nums, fun m hm' => Nat.le_trans hSx.le (hs.ids m hm')⟩
    simp
    refine stack_Len_A ?_
    rw [hs.len]
    simp
    exact hq S2 s (hSx.trans hS2) hs'
theorem stk_tabs {S0 S : St} {l : List Node} {s : Stk} (h : StkOf S0 S l s) : s.tabs = l.reverse.map fun n => n.tab 0 := h.tabs
theorem rootP_len : ∀ (L : List (List InoP)) (k : Nat), (rootP L k).length ≤ L.length
  | [], _ => by simp [rootP]
  | P :: L, k => by
    rw [rootP]
    split
    · simp
    · have := rootP_len L (k + 1); simp; omega
set_option maxRecDepth 100000 in
theorem law08_speaks_A {w0 : World} (hm : MaxL w0) {S : St} {Q : AV → St → Prop} (hq : ∀ S', Sx S S' → Q (.bool true) S') : AC w0 F_law08_speaks [] S Q := by
  apply law08_speaks_ok
  unfold G_law08_speaks
  refine tree_Text_A (by simp) (fun r1 hr1 => ?_)
  refine tree_Text_A (by simp) (fun r2 hr2 => ?_)
  simp
  refine tree_Dir_A (l := [[97], [98]]) (items := [textN [120] r1, textN [121] r2]) okR_full okR_full (by simp) (by simp) (fun q1 q2 k1 k2 => ?_)
  refine tree_White_A ?_
  simp
  refine tree_Dir_A (l := [[97]]) (items := [whiteN]) okR_full okR_full (by simp) (by simp) (fun q3 q4 k3 k4 => ?_)
  have hx := textN_ok (s := [120]) (by simp) hr1
  have hy := textN_ok (s := [121]) (by simp) hr2
  have hok1 := dirN_ok (o := false) (l := [[97], [98]]) (items := [textN [120] r1, textN [121] r2]) (by simp) (by simp [hx, hy]) k1 k2
  have hok2 := dirN_ok (o := false) (l := [[97]]) (items := [whiteN]) (by simp) (by simp [white_ok]) k3 k4
  have a1 : oneB (textN [120] r1) = true := textN_right (by simp)
  have a2 : (textN [120] r1).allB = true := by rw [Node.all_eq, a1]; rfl
  have b1 : oneB (textN [121] r2) = true := textN_right (by simp)
  have b2 : (textN [121] r2).allB = true := by rw [Node.all_eq, b1]; rfl
  have hr1 : rightB (dirN false [[97], [98]] q1 [textN [120] r1, textN [121] r2] q2) = true := by
    have a3 : oneB (dirN false [[97], [98]] q1 [textN [120] r1, textN [121] r2] q2) = true := by rfl
    have a4 : (dirN false [[97], [98]] q1 [textN [120] r1, textN [121] r2] q2).allB = true := by
      rw [Node.all_eq, a3]
      show (Node.allsB [_, _] && true) = true
      rw [Node.allsB, a2, Node.allsB, b2]
      rfl
    rw [rightB, a4]
    rfl
  have hr2 : rightB (dirN false [[97]] q3 [whiteN] q4) = true := by rfl
  have e1 : (dirN false [[97], [98]] q1 [textN [120] r1, textN [121] r2] q2).tab 0 = [⟨2, false, [[97], [98]], 0, [], [], [1, 2]⟩, (textN [120] r1).hd 1, (textN [121] r2).hd 2] := by rfl
  have e2 : (dirN false [[97]] q3 [whiteN] q4).tab 0 = [⟨2, false, [[97]], 0, [], [], [1]⟩, ⟨4, false, [], 0, [], [], []⟩] := by rfl
  generalize dirN false [[97], [98]] q1 [textN [120] r1, textN [121] r2] q2 = d1 at hok1 hr1 e1 ⊢
  generalize dirN false [[97]] q3 [whiteN] q4 = d2 at hok2 hr2 e2 ⊢
  simp
  have h0 := ofErr_all [d1, d2] 0 (by simp [hr1, hr2]) (by simp)
  refine stack_Of_A (l := [d1, d2]) hm (by simp [hok1, hok2]) (by simp) (fun S1 h1 => ⟨fun _ s hs => ?_, fun h => absurd h0 h⟩)
  have hgood := hs.good (by simp [hok1, hok2]) h0
  have htabs := stk_tabs hs
  simp [e1, e2] at htabs
  have hroot : rootP s.tabs 0 = [(0, 0), (1, 0)] := by rw [htabs]; rfl
  have hla : lookS s.tabs [97] [(0, 0), (1, 0)] Fnd.none = ⟨0, (0, 0), []⟩ := by rw [htabs]; rfl
  have hlb : lookS s.tabs [98] [(0, 0), (1, 0)] Fnd.none = ⟨1, (1, 2), []⟩ := by rw [htabs]; rfl
  simp [joinK_eq]
  refine stack_Len_A ?_
  rw [hs.len]
  simp
  refine seen_Root_A hs.ok hs.on (fun r hr => ?_)
  rw [hroot]
  simp
  refine seen_Look_A (p := [(0, 0), (1, 0)]) hs.ok hs.on hgood (by simp) (fun ra _ => ?_)
  rw [hla]
  simp [Fnd.c]
  refine seen_Look_A (p := [(0, 0), (1, 0)]) hs.ok hs.on hgood (by simp) (fun rb _ => ?_)
  rw [hlb]
  simp [Fnd.c]
  exact hq _ h1
end Go.Av
set_option linter.unusedVariables false
namespace Go.Av
open Go.Proofs
@[simp] theorem Node.cg0 (n : Node) (h : 0 < n.c.length) : n.c[0] = .int .i64 n.kind := by have := n.c_eq; simp only [this]; rfl
@[simp] theorem Node.cg1 (n : Node) (h : 1 < n.c.length) : n.c[1] = .bool n.opq := by have := n.c_eq; simp only [this]; rfl
@[simp] theorem Node.cg2 (n : Node) (h : 2 < n.c.length) : n.c[2] = n.names.v := by have := n.c_eq'; simp only [this]; rfl
@[simp] theorem Node.cg3 (n : Node) (h : 3 < n.c.length) : n.c[3] = .vs 7 (n.items.map Node.c) n.ir.strip := by have := n.c_eq'; simp only [this]; rfl
@[simp] theorem Node.cg4 (n : Node) (h : 4 < n.c.length) : n.c[4] = .int .i64 n.size := by have := n.c_eq; simp only [this]; rfl
@[simp] theorem Node.cg6 (n : Node) (h : 6 < n.c.length) : n.c[6] = .str n.target := by have := n.c_eq; simp only [this]; rfl
theorem Clone_str_A2 {w0 : World} {S : St} {l : List Str} {r : Rt} (hl : l.length ≤ 100000000) {Q : AV → St → Prop} (hq : ∀ r', okR r' l → Q (.vs 1 (l.map wStr) r') S) : AC w0 F_slices_Clone_s_string_string [.vs 1 (l.map wStr) r] S Q := by
  refine ⟨⟨_, fn_slices_Clone_s_string_string, by kernel_rfl, by kernel_rfl⟩, fun G w hrel hrole args' hlen ha => ?_⟩
  have hr : okR r l := by
    intro e
    have h0 : 0 < args'.size := by rw [hlen]; simp
    obtain ⟨v, hv⟩ : ∃ v, args'[0]? = some v := ⟨_, Array.getElem?_eq_getElem h0⟩
    obtain ⟨h1, h2, h3⟩ := ha 0 _ v rfl hv
    have hr2 : r.strip = r := by simpa [AV.strip, AV.strip2, AV.strip1] using h3
    rw [hr2] at e
    subst e
    generalize he : l.map wStr = es at h1
    have hes : es = [] := by
      cases h1 with
      | vsnil => rfl
      | vs _ _ _ _ _ _ _ hr => exact (hr rfl).elim
      | vse _ _ _ hr => rfl
    rw [hes] at he
    exact List.map_eq_nil_iff.1 he
  exact (Clone_str_A (w0 := w0) hr hl hq).2 G w hrel hrole args' hlen ha
theorem branch_Names_A {w0 : World} {S : St} {id : Nat} {P : List InoP} {i : Int} (hB : Br S id P) (hl : (inoAt P i).names.length ≤ 100000000) {Q : AV → St → Prop} (hq : ∀ r, okR r (inoAt P i).names → Q (.vs 1 ((inoAt P i).names.map wStr) r) S) : AC w0 F_branch_Branch_Names [.ptr id 0, .int .i64 i] S Q := by
  apply branch_Branch_Names_ok
  unfold G_branch_Branch_Names
  refine branch_at_A hB (fun _ _ _ => ?_)
  simp [Ino.c]
  exact Clone_str_A2 hl hq
theorem branch_Size_A {w0 : World} {S : St} {id : Nat} {P : List InoP} {i : Int} (hB : Br S id P) {Q : AV → St → Prop} (hq : Q (.int .i64 (inoAt P i).size) S) : AC w0 F_branch_Branch_Size [.ptr id 0, .int .i64 i] S Q := by
  apply branch_Branch_Size_ok
  unfold G_branch_Branch_Size
  refine branch_at_A hB (fun _ _ _ => ?_)
  simp [Ino.c]
  exact hq
theorem branch_Target_A {w0 : World} {S : St} {id : Nat} {P : List InoP} {i : Int} (hB : Br S id P) {Q : AV → St → Prop} (hq : Q (.str (inoAt P i).target) S) : AC w0 F_branch_Branch_Target [.ptr id 0, .int .i64 i] S Q := by
  apply branch_Branch_Target_ok
  unfold G_branch_Branch_Target
  refine branch_at_A hB (fun _ _ _ => ?_)
  simp [Ino.c]
  exact hq
theorem ref08_Dirs_A {w0 : World} {S : St} {l : List Node} {r : Rt} (hl : l.length ≤ 1000000) {Q : AV → St → Prop} (hq : ∀ r, Q (.vs 7 ((dirsN l).map Node.c) r) S) : AC w0 F_ref08_Dirs [.vs 7 (l.map Node.c) r] S Q := by
  apply ref08_Dirs_ok
  unfold G_ref08_Dirs
  simp [joinK_eq]
  refine loop_list l (fun i (σ : List Node × Rt) => ([.vs 7 (σ.1.map Node.c) σ.2, .int .i64 i], [])) (fun i σ S' => S' = S ∧ dirsN l = σ.1 ++ dirsN (l.drop i) ∧ σ.1.length = i ∧ σ.2 ≠ .none) ([], .full) rfl ⟨rfl, by simp, rfl, by simp⟩ ?_ ?_
  · rintro i ⟨out, ro⟩ S' v b n c hxi hd hc hmem ⟨rfl, he, hlen, hr⟩ hv
    simp at hv he hlen hr
    obtain ⟨hv1, hv2⟩ := hv
    rw [hd, dirsN] at he
    have hap : ∀ S2 : St, appendA T_api_Node S2 (.vs 7 (out.map Node.c) ro) (.vs 7 [n.c] .full) = some (.vs 7 ((out ++ [n]).map Node.c) (.own (rowTy T_api_Node ro))) := fun S2 => by
      simp [appendA, elemsA, hr, show out.length + 1 ≤ lim by unfold lim; omega]
    simp [hv1, hv2, hc, hxi, hap]
    cases ho : n.opq with
    | true =>
      rw [ho, if_pos rfl] at he
      have := hq .none
      rw [he] at this
      simp
      simpa using this
    | false =>
      rw [ho, if_neg (by simp)] at he
      simp
      try simp (disch := omega) only [wrap64]
      refine .next c (out ++ [n], .own (rowTy T_api_Node ro)) (by simp) ⟨rfl, by rw [he]; simp, by simp [hlen], by simp⟩
  · rintro ⟨out, ro⟩ S' v b ⟨rfl, he, hlen, hr⟩ hv N
    simp at hv he
    obtain ⟨hv1, hv2⟩ := hv
    try rw [List.drop_length] at he
    rw [dirsN, List.append_nil] at he
    simp [hv1, hv2]
    have := hq ro.strip
    rw [he] at this
    exact this
theorem law08_Above_A {w0 : World} {S : St} {l : List Node} {r : Rt} (hl : l.length ≤ 1000000) {Q : AV → St → Prop} (hq : ∀ r, Q (.vs 7 (l.reverse.map Node.c) r) S) : AC w0 F_law08_Above [.vs 7 (l.map Node.c) r] S Q := by
  apply law08_Above_ok
  unfold G_law08_Above
  simp [joinK_eq]
  refine loop_list l (fun i (σ : List Node × Rt) => ([.vs 7 (σ.1.map Node.c) σ.2, .int .i64 i], [])) (fun i σ S' => S' = S ∧ σ.1 = l.reverse.take i ∧ σ.2 ≠ .none) ([], .nil) rfl ⟨rfl, by simp, by simp⟩ ?_ ?_
  · rintro i ⟨out, ro⟩ S' v b n c hxi hd hc hmem ⟨rfl, he, hr⟩ hv
    simp at hv he hr
    obtain ⟨hv1, hv2⟩ := hv
    have e1 : IntKind.i64.wrap ((l.length : Int) - 1) = (l.length : Int) - 1 := wrap64 (by omega) (by omega)
    have e2 : IntKind.i64.wrap ((l.length : Int) - 1 - i) = ((l.length - 1 - i : Nat) : Int) := by rw [wrap64 (by omega) (by omega)]; omega
    obtain ⟨m, hm⟩ : ∃ m, l[l.length - 1 - i]? = some m := ⟨l[l.length - 1 - i]'(by omega), List.getElem?_eq_getElem (by omega)⟩
    have hrev : l.reverse[i]? = some m := by rw [List.getElem?_reverse c]; exact hm
    have htk : l.reverse.take (i + 1) = l.reverse.take i ++ [m] := by rw [List.take_succ, hrev]; rfl
    have hol : out.length ≤ l.length := by rw [he, List.length_take, List.length_reverse]; omega
    have hap : ∀ S2 : St, appendA T_api_Node S2 (.vs 7 (out.map Node.c) ro) (.vs 7 [m.c] .full) = some (.vs 7 ((out ++ [m]).map Node.c) (.own (rowTy T_api_Node ro))) := fun S2 => by
      simp [appendA, elemsA, hr, show out.length + 1 ≤ lim by unfold lim; omega]
    simp [hv1, hv2, hc, e1, e2, hm, hap]
    try simp (disch := omega) only [wrap64]
    exact .next c (out ++ [m], .own (rowTy T_api_Node ro)) (by simp) ⟨rfl, by rw [htk, he], by simp⟩
  · rintro ⟨out, ro⟩ S' v b ⟨rfl, he, hr⟩ hv N
    simp at hv he
    obtain ⟨hv1, hv2⟩ := hv
    have : l.reverse.take l.length = l.reverse := by rw [List.take_of_length_le]; simp
    rw [this] at he
    simp [hv1, hv2]
    have := hq ro.strip
    rw [← he] at this
    exact this
end Go.Av
set_option linter.unusedVariables false
namespace Go.Av
open Go.Proofs
theorem find_idx {n : Node} (ha : n.allB = true) (s : Str) : match n.names.l.findIdx? (fun x => decide (x = s)) with | some k => ∃ x, n.find s = some x ∧ n.items[k]? = some x | none => n.find s = none := by
  have hl := allB_lens ha
  cases hk : n.names.l.findIdx? (fun x => decide (x = s)) with
  | none => exact Node.find_none hk
  | some k =>
    have hlt := (List.findIdx?_eq_some_iff_getElem.1 hk).1
    have hx : n.items[k]? = some n.items[k] := List.getElem?_eq_getElem (by omega)
    exact ⟨_, by rw [Node.find_some hk]; exact hx, hx⟩
theorem entriesN_len (l : List Node) (s : Str) : (entriesN l s).length ≤ l.length := List.length_filterMap_le _ _
theorem entriesN_cons (n : Node) (l : List Node) (s : Str) : entriesN (n :: l) s = match n.find s with | some x => x :: entriesN l s | none => entriesN l s := by
  simp only [entriesN, List.filterMap_cons]
  cases n.find s <;> rfl
set_option maxRecDepth 100000 in
theorem ref08_Entries_A {w0 : World} {S : St} {l : List Node} {r : Rt} {s : Str} (hl : l.length ≤ 1000000) (hok : ∀ n ∈ l, n.ok ∧ n.allB = true) {Q : AV → St → Prop} (hq : ∀ r, r ≠ .nil → Q (.vs 7 ((entriesN l s).map Node.c) r) S) : AC w0 F_ref08_Entries [.vs 7 (l.map Node.c) r, .str s] S Q := by
  apply ref08_Entries_ok
  unfold G_ref08_Entries
  simp [joinK_eq]
  refine loop_list l (fun i (σ : List Node × Rt) => ([.vs 7 (σ.1.map Node.c) σ.2, .int .i64 i], [])) (fun i σ S' => S' = S ∧ entriesN l s = σ.1 ++ entriesN (l.drop i) s ∧ σ.1.length ≤ i ∧ (σ.2 = .full ∨ ∃ t, σ.2 = .own t)) ([], .full) rfl ⟨rfl, by simp, by simp, .inl rfl⟩ ?_ ?_
  · rintro i ⟨out, ro⟩ S' v b n c hxi hd hc hmem ⟨rfl, he, hlen, hr⟩ hv
    simp at hv he hlen hr
    obtain ⟨hv1, hv2⟩ := hv
    have hrn : ro ≠ .none := by rcases hr with rfl | ⟨t, rfl⟩ <;> simp
    rw [hd, entriesN_cons] at he
    simp [hv1, hv2, hc, hxi]
    refine ref04_Find_A (hok n hmem).1 ?_
    have hf := find_idx (hok n hmem).2 s
    cases hk : n.names.l.findIdx? (fun x => decide (x = s)) with
    | none =>
      rw [hk] at hf
      simp only at hf
      rw [hf] at he
      simp
      try simp (disch := omega) only [wrap64]
      exact .next c (out, ro) (by simp) ⟨rfl, he, by simp; omega, hr⟩
    | some k =>
      rw [hk] at hf
      obtain ⟨x, hx1, hx2⟩ := hf
      rw [hx1] at he
      simp only at he
      have hap : ∀ S2 : St, appendA T_api_Node S2 (.vs 7 (out.map Node.c) ro) (.vs 7 [x.c] .full) = some (.vs 7 ((out ++ [x]).map Node.c) (.own (rowTy T_api_Node ro))) := fun S2 => by
        simp [appendA, elemsA, hrn, show out.length + 1 ≤ lim by unfold lim; omega]
      simp [hx2, hap]
      try simp (disch := omega) only [wrap64]
      refine .next c (out ++ [x], .own (rowTy T_api_Node ro)) (by simp) ⟨rfl, by rw [he]; simp, by simp; omega, .inr ⟨_, rfl⟩⟩
  · rintro ⟨out, ro⟩ S' v b ⟨rfl, he, hlen, hr⟩ hv N
    simp at hv he hr
    obtain ⟨hv1, hv2⟩ := hv
    try rw [List.drop_length] at he
    simp [entriesN] at he
    simp [hv1, hv2]
    have := hq ro.strip (by rcases hr with rfl | ⟨t, rfl⟩ <;> simp [Rt.strip])
    have e2 : entriesN l s = out := by simpa [entriesN] using he
    rw [e2] at this
    exact this
set_option maxRecDepth 100000 in
theorem ref08_Seen_A {w0 : World} {S : St} {l : List Node} {r : Rt} {s : Str} (hl : l.length ≤ 1000000) (hok : ∀ n ∈ l, n.ok ∧ n.allB = true) {Q : AV → St → Prop} (hq : ∀ r, Q (.vs 7 ((seenN l s).map Node.c) r) S) : AC w0 F_ref08_Seen [.vs 7 (l.map Node.c) r, .str s] S Q := by
  apply ref08_Seen_ok
  unfold G_ref08_Seen
  refine ref08_Entries_A hl hok (fun r1 hr1 => ?_)
  have hel := entriesN_len l s
  have hr1' : r1.strip ≠ .nil := by cases r1 <;> simp_all [Rt.strip]
  unfold seenN at hq
  cases hE : entriesN l s with
  | nil =>
    rw [hE] at hq
    simp [joinK_eq]
    simpa using hq .nil
  | cons x t =>
    rw [hE] at hq hel
    simp only at hq
    simp at hel
    have hne : ¬ ((t.length : Int) + 1 = 0) := by omega
    simp [joinK_eq, hne]
    by_cases k4 : x.kind = 4
    · rw [if_pos k4] at hq
      simp [k4]
      simpa using hq .nil
    rw [if_neg k4] at hq
    simp [k4]
    by_cases k2 : x.kind = 2
    case neg =>
      rw [if_pos k2] at hq
      simp [k2, hr1]
      simpa using hq _
    rw [if_neg (by simp [k2])] at hq
    simp [k2]
    generalize hE2 : x :: t = E at hq
    have hEl : t.length + 1 = E.length := by rw [← hE2]; rfl
    have hEc : (x.c :: t.map Node.c) = E.map Node.c := by rw [← hE2]; rfl
    rw [hEc]
    have hEi : ((t.length : Int) + 1) = (E.length : Int) := by omega
    rw [hEi]
    refine loop_list E (fun i (_ : Unit) => ([.int .i64 i], [])) (fun i _ S' => S' = S ∧ E.takeWhile (fun n => decide (n.kind = 2)) = E.take i ++ (E.drop i).takeWhile (fun n => decide (n.kind = 2))) () rfl ⟨rfl, by simp⟩ ?_ ?_
    · rintro i _ S' v b n c hxi hd hc hmem ⟨rfl, he⟩ hv
      simp at hv
      rw [hd] at he
      have hcut := cutA_h T_api_Node 7 (E.map Node.c) r1 .i64 i
      simp [hv, hc, hxi]
      by_cases kn : n.kind = 2
      · simp [kn]
        try simp (disch := omega) only [wrap64]
        refine .next c () rfl ⟨rfl, ?_⟩
        have htk : E.take (i + 1) = E.take i ++ [n] := by rw [List.take_succ, hxi]; rfl
        rw [he, List.takeWhile_cons_of_pos (by simp [kn]), htk]
        simp
      · rw [List.takeWhile_cons_of_neg (by simp [kn]), List.append_nil] at he
        simp [kn, hr1, show i ≤ E.length by omega]
        rw [← List.map_take]
        refine ref08_Dirs_A (l := E.take i) (by rw [List.length_take]; omega) (fun r2 => ?_)
        rw [← he]
        exact hq r2
    · rintro _ S' v b ⟨rfl, he⟩ hv N
      simp at hv
      try rw [List.drop_length] at he
      simp [hv, hr1]
      have hall : (E.map Node.c).take E.length = E.map Node.c := by rw [List.take_of_length_le]; simp
      rw [hall]
      refine ref08_Dirs_A (l := E) (by omega) (fun r2 => ?_)
      have := hq r2
      rw [he] at this
      simpa using this
set_option maxRecDepth 100000 in
theorem ref08_Level_A {w0 : World} {S : St} {l : List Node} {r : Rt} {s : Str} (hl : l.length ≤ 1000000) (hok : ∀ n ∈ l, n.ok ∧ n.allB = true) {Q : AV → St → Prop} (hq : Q (.int .i64 (if entriesN l s = [] then -1 else (levelN l s : Int))) S) : AC w0 F_ref08_Level [.vs 7 (l.map Node.c) r, .str s] S Q := by
  apply ref08_Level_ok
  unfold G_ref08_Level
  simp [joinK_eq]
  refine loop_list l (fun i (_ : Unit) => ([.int .i64 i], [])) (fun i _ S' => S' = S ∧ entriesN l s = entriesN (l.drop i) s ∧ (entriesN l s ≠ [] → levelN l s = i + levelN (l.drop i) s)) () rfl ⟨rfl, by simp, by simp⟩ ?_ ?_
  · rintro i _ S' v b n c hxi hd hc hmem ⟨rfl, he, hlv⟩ hv
    simp at hv
    rw [hd, entriesN_cons] at he
    rw [hd, levelN] at hlv
    simp [hv, hc, hxi]
    refine ref04_Find_A (hok n hmem).1 ?_
    have hf := find_idx (hok n hmem).2 s
    cases hk : n.names.l.findIdx? (fun x => decide (x = s)) with
    | none =>
      rw [hk] at hf
      simp only at hf
      rw [hf] at he hlv
      simp only at he hlv
      simp
      try simp (disch := omega) only [wrap64]
      exact .next c () rfl ⟨rfl, he, fun h => by rw [hlv h]; omega⟩
    | some k =>
      rw [hk] at hf
      obtain ⟨x, hx1, hx2⟩ := hf
      rw [hx1] at he hlv
      simp only at he hlv
      have hne : entriesN l s ≠ [] := by rw [he]; simp
      rw [if_neg hne, hlv hne] at hq
      simp
      simpa using hq
  · rintro _ S' v b ⟨rfl, he, hlv⟩ hv N
    simp at hv
    try rw [List.drop_length] at he
    simp [entriesN] at he
    have e2 : entriesN l s = [] := by simpa [entriesN] using he
    rw [if_pos e2] at hq
    simp [hv]
    exact hq
theorem OnP.len {L : List (List InoP)} : ∀ {p : List Spot} {l : List Node}, OnP L p l → p.length = l.length
  | [], [], _ => rfl
  | _ :: p, _ :: l, h => by simp [OnP.len h.2]
  | [], _ :: _, h => h.elim
  | _ :: _, [], h => h.elim
theorem OnP.get {L : List (List InoP)} : ∀ {p : List Spot} {l : List Node} {k : Nat} {x : Spot}, OnP L p l → p[k]? = some x → ∃ n, l[k]? = some n ∧ Stands L x n
  | [], [], k, x, _, h => by simp at h
  | y :: p, m :: l, 0, x, h, hx => by simp at hx; subst hx; exact ⟨m, rfl, h.1⟩
  | y :: p, m :: l, k + 1, x, h, hx => by simp at hx; obtain ⟨n, h1, h2⟩ := OnP.get h.2 hx; exact ⟨n, by simpa using h1, h2⟩
  | [], _ :: _, _, _, h, _ => h.elim
  | _ :: _, [], _, _, h, _ => h.elim
theorem Stands.at_ {s : Stk} {x : Spot} {n : Node} (h : Stands s.tabs x n) : ∃ m, s.at_ (x.1 : Int) = some m ∧ m ∈ s.l ∧ inoAt m.tab (x.2 : Int) = n.hd x.2 ∧ x.1 < s.l.length := by
  obtain ⟨P, h1, h2⟩ := h
  unfold Stk.tabs at h1
  rw [List.getElem?_map, Option.map_eq_some_iff] at h1
  obtain ⟨m, h3, rfl⟩ := h1
  exact ⟨m, (Stk.at_some h3).1, List.mem_of_getElem? h3, h2.ino, (List.getElem?_eq_some_iff.1 h3).1⟩
set_option maxRecDepth 100000 in
theorem law08_alike_A {w0 : World} {S : St} {s : Stk} {p : List Spot} {dirs : List Node} {pr dr : Rt} (hs : s.ok) (hon : s.on S) (hp : OnP s.tabs p dirs) (hd : ∀ n ∈ dirs, n.ok ∧ n.kind = 2) (hl : dirs.length ≤ 1000000) (hinc : (p.map (·.1)).Pairwise (· < ·)) {Q : AV → St → Prop}
    (hq : Q (.bool true) S) : AC w0 F_law08_alike [.agg s.c, .vs 2 (p.map spC) pr, .vs 7 (dirs.map Node.c) dr] S Q := by
  have hc : s.c = [.vs 2 (s.l.map Mnt.c) s.r.strip, .int .i64 s.next] := rfl
  rw [hc]
  apply law08_alike_ok
  unfold G_law08_alike
  simp only [← hc]
  have hpl := hp.len
  simp [joinK_eq, hpl]
  rw [← hpl]
  refine loop_list p (fun i (_ : Unit) => ([.int .i64 i], [some s.c])) (fun i _ S' => S' = S) () rfl rfl ?_ ?_
  · rintro i _ S' v b x c hxi hdr hcc hmem rfl hv
    simp at hv
    obtain ⟨hv1, hv2⟩ := hv
    obtain ⟨n, hn, hst⟩ := hp.get hxi
    obtain ⟨m, a1, a2, a3, a4⟩ := hst.at_
    have hnm := List.mem_of_getElem? hn
    have hB := hon m a2
    have hkd : (inoAt m.tab (x.2 : Int)).kind = 2 := by rw [a3]; exact (hd n hnm).2
    have hop : (inoAt m.tab (x.2 : Int)).opq = n.opq := by rw [a3]; rfl
    have hnmz : (inoAt m.tab (x.2 : Int)).names = n.names.l := by rw [a3]; rfl
    have hnl : n.names.l.length ≤ 1048576 := ((Node.ok_iff n).1 (hd n hnm).1).2.1.2.1
    simp [hv1, hv2, hcc, hxi, spC]
    refine stack_At_A ?_
    rw [a1]
    simp
    refine branch_Kind_A hB ?_
    rw [hkd]
    simp [hn]
    refine branch_Opaque_A hB ?_
    rw [hop]
    simp
    refine branch_Names_A hB (by rw [hnmz]; omega) (fun r1 _ => ?_)
    rw [hnmz]
    simp
    refine ref01_Same_A (by omega) ?_
    simp
    by_cases i0 : 0 < i
    · obtain ⟨y, hy⟩ : ∃ y, p[i - 1]? = some y := ⟨p[i - 1]'(by omega), List.getElem?_eq_getElem (by omega)⟩
      have hlt : y.1 < x.1 := by
        have h1 : i - 1 < (p.map (·.1)).length := by rw [List.length_map]; omega
        have h2 : i < (p.map (·.1)).length := by rw [List.length_map]; omega
        have := List.pairwise_iff_getElem.1 hinc (i - 1) i h1 h2 (by omega)
        rw [List.getElem_map, List.getElem_map] at this
        have e1 : p[i - 1] = y := by have := List.getElem?_eq_getElem (l := p) (i := i - 1) (by omega); rw [hy] at this; exact (Option.some.inj this).symm
        have e2 : p[i] = x := by have := List.getElem?_eq_getElem (l := p) (i := i) (by omega); rw [hxi] at this; exact (Option.some.inj this).symm
        rw [e1, e2] at this
        exact this
      have ew : IntKind.i64.wrap ((i : Int) - 1) = ((i - 1 : Nat) : Int) := by
        have := hp.len
        rw [wrap64 (by omega) (by omega)]; omega
      simp [i0, ew, hy, spC, show ¬ x.1 ≤ y.1 by omega]
      have := hp.len
      try simp (disch := omega) only [wrap64]
      exact .next c () rfl rfl
    · simp [i0]
      have := hp.len
      try simp (disch := omega) only [wrap64]
      exact .next c () rfl rfl
  · rintro _ S' v b rfl hv N
    simp at hv
    obtain ⟨hv1, hv2⟩ := hv
    simp [hv1, hv2]
    exact hq
end Go.Av
set_option linter.unusedVariables false
namespace Go.Av
open Go.Proofs
theorem dirsN_mem : ∀ {l : List Node} {x : Node}, x ∈ dirsN l → x ∈ l
  | n :: l, x, h => by
    rw [dirsN] at h
    rcases List.mem_cons.1 h with rfl | h
    · simp
    · split at h
      · cases h
      · exact List.mem_cons_of_mem _ (dirsN_mem h)
theorem seenN_mem {l : List Node} {s : Str} {x : Node} (h : x ∈ seenN l s) : ∃ n ∈ l, x ∈ n.items := by
  have h2 : x ∈ entriesN l s := by
    unfold seenN at h
    cases he : entriesN l s with
    | nil => rw [he] at h; cases h
    | cons y r =>
      rw [he] at h
      simp only at h
      split at h
      · cases h
      · split at h
        · rw [List.mem_singleton] at h; simp [h]
        · exact (List.takeWhile_sublist _).subset (dirsN_mem h)
  obtain ⟨n, h3, h4⟩ := List.mem_filterMap.1 h2
  exact ⟨n, h3, find_mem h4⟩
theorem seenN_kind {l : List Node} {s : Str} {x y : Node} {r : List Node} (h : seenN l s = y :: r) (k2 : y.kind = 2) (hx : x ∈ seenN l s) : x.kind = 2 := by
  unfold seenN at h hx
  cases he : entriesN l s with
  | nil => rw [he] at h; cases h
  | cons z t =>
    rw [he] at h hx
    simp only at h hx
    split at h
    · cases h
    · rename_i c4
      rw [if_neg c4] at hx
      split at h
      · rename_i c2
        rw [if_pos c2] at hx
        rw [List.mem_singleton] at hx
        subst hx
        cases h
        exact k2
      · rename_i c2
        rw [if_neg c2] at hx
        have h1 := dirsN_mem hx
        have : ∀ (q : List Node), x ∈ q.takeWhile (fun n => decide (n.kind = 2)) → x.kind = 2 := by
          intro q
          induction q with
          | nil => intro h; simp at h
          | cons a q ih =>
            intro h
            rw [List.takeWhile_cons] at h
            split at h
            · rename_i ha
              rcases List.mem_cons.1 h with rfl | h
              · simpa using ha
              · exact ih h
            · cases h
        exact this _ h1
theorem item_depth {n x : Node} (h : x ∈ n.items) : x.depth < n.depth := by
  have := (counts_mem (l := n.items)).2 x h
  rw [Node.depth_eq n]
  omega
set_option maxRecDepth 100000 in
theorem law08_walk_A {w0 : World} {s : Stk} {names : List Str} (hs : s.ok) (hg : goodT s.tabs) (hn : names.length ≤ 100) {S : St} (hon : s.on S) : ∀ (d : Nat) {p : List Spot} {dirs : List Node} {pr dr nr : Rt} {Q : AV → St → Prop},
    OnP s.tabs p dirs → (∀ n ∈ dirs, n.ok ∧ n.allB = true ∧ n.kind = 2 ∧ n.depth < d) → p.length ≤ 64 → (p.map (·.1)).Pairwise (· < ·) → Q (.bool true) S →
    AC w0 F_law08_walk [.agg s.c, .vs 2 (p.map spC) pr, .vs 7 (dirs.map Node.c) dr, .vs 1 (names.map wStr) nr] S Q := by
  intro d
  induction d using Nat.strongRecOn with
  | ind d ih =>
    intro p dirs pr dr nr Q hp hd hpl hinc hq
    have hc : s.c = [.vs 2 (s.l.map Mnt.c) s.r.strip, .int .i64 s.next] := rfl
    have hdl : dirs.length ≤ 64 := by rw [← hp.len]; exact hpl
    rw [hc]
    apply law08_walk_ok
    unfold G_law08_walk
    simp only [← hc]
    simp
    refine law08_alike_A hs hon hp (fun n hn => ⟨(hd n hn).1, (hd n hn).2.2.1⟩) (by omega) hinc ?_
    simp
    rw [joinK_eq]
    refine loop_list names (fun i (_ : Unit) => ([.int .i64 i], [some s.c])) (fun i _ S' => S' = S) () rfl rfl ?_ ?_
    · rintro i _ S' v b name c hxi hdr hcc hmem rfl hv
      simp at hv
      obtain ⟨hv1, hv2⟩ := hv
      have hagr := look_agrees s.tabs name p dirs hp (fun n hn => (hd n hn).2.1)
      simp [hv1, hv2, hcc, hxi]
      rw [joinK_eq]
      refine seen_Look_A hs hon hg (by omega) (fun r hr => ?_)
      generalize hf : lookS s.tabs name p Fnd.none = f at hagr hr
      simp [Fnd.c]
      refine ref08_Seen_A (by omega) (fun n hn => ⟨(hd n hn).1, (hd n hn).2.1⟩) (fun r2 => ?_)
      cases hsn : seenN dirs name with
      | nil =>
        rw [hsn] at hagr
        simp only [Agrees] at hagr
        subst hagr
        simp [Fnd.none]
        try simp (disch := omega) only [wrap64]
        exact .next c () rfl rfl
      | cons x t =>
        rw [hsn] at hagr
        obtain ⟨r1, r2', r3, r4, r5, r6, r7, r8⟩ := hagr
        have hx0 : ¬ f.kind = 0 := by rw [r1]; exact r2'
        obtain ⟨m, a1, a2, a3, a4⟩ := r4.at_
        have hB := hon m a2
        have hkd : (inoAt m.tab (f.sp.2 : Int)).kind = x.kind := by rw [a3]; rfl
        have hsz : (inoAt m.tab (f.sp.2 : Int)).size = x.size := by rw [a3]; rfl
        have htg : (inoAt m.tab (f.sp.2 : Int)).target = x.target := by rw [a3]; rfl
        have hEne : entriesN dirs name ≠ [] := by
          intro e
          unfold seenN at hsn
          rw [e] at hsn
          cases hsn
        obtain ⟨y, hy1, hy2⟩ : ∃ y, p[levelN dirs name]? = some y ∧ y.1 = f.sp.1 := by
          cases hpl2 : p[levelN dirs name]? with
          | none => rw [hpl2] at r7; cases r7
          | some y => rw [hpl2] at r7; exact ⟨y, rfl, Option.some.inj r7⟩
        simp [hx0]
        refine stack_At_A ?_
        rw [a1]
        simp only [AV.strip, AV.strip2, AV.strip1]
        simp [binE, eqA, r1]
        try rw [joinK_eq]
        try simp
        try rw [joinK_eq]
        try simp
        refine branch_Kind_A hB ?_
        rw [hkd]
        simp
        try rw [joinK_eq]
        try simp
        refine branch_Size_A hB ?_
        rw [hsz]
        simp
        try rw [joinK_eq]
        try simp
        refine branch_Target_A hB ?_
        rw [htg]
        simp
        try rw [joinK_eq]
        try simp
        refine ref08_Level_A (by omega) (fun n hn => ⟨(hd n hn).1, (hd n hn).2.1⟩) ?_
        rw [if_neg hEne]
        simp [hy1, spC, hy2]
        by_cases k2 : x.kind = 2
        case neg =>
          rw [if_neg k2] at r6
          simp [k2, r6.1]
          try simp (disch := omega) only [wrap64]
          exact .next c () rfl rfl
        rw [if_pos k2] at r6
        obtain ⟨r61, r62⟩ := r6
        have hdn : ¬ f.dirs = [] := by intro e; rw [e] at r62; cases r62
        simp [k2, hdn, r62, spC]
        rw [joinK_eq]
        have hmem2 : ∀ y ∈ x :: t, ∃ n ∈ dirs, y ∈ n.items := fun y hy => by rw [← hsn] at hy; exact seenN_mem hy
        have hd1 : 1 ≤ d := by
          obtain ⟨n, h1, _⟩ := hmem2 x (by simp)
          have := (hd n h1).2.2.2
          omega
        have hlen2 := r8.length_le
        rw [List.length_map, List.length_map] at hlen2
        refine ih (d - 1) (by omega) (dirs := x :: t) r61 (fun y hy => ?_) (by omega) (hinc.sublist r8) ?_
        · obtain ⟨n, h1, h2⟩ := hmem2 y hy
          obtain ⟨q1, q2, q3, q4⟩ := hd n h1
          have := item_depth h2
          rw [← hsn] at hy
          exact ⟨((Node.ok_iff n).1 q1).2.2.2.1 y h2, allB_item q2 h2, seenN_kind hsn k2 hy, by omega⟩
        · simp
          try simp (disch := omega) only [wrap64]
          exact .next c () rfl rfl
    · rintro _ S' v b rfl hv N
      simp at hv
      obtain ⟨hv1, hv2⟩ := hv
      simp [hv1, hv2]
      exact hq
theorem rootP_on : ∀ (l : List Node) (L : List (List InoP)) (k : Nat), L.drop k = l.map (fun n => n.tab 0) → OnP L (rootP (l.map fun n => n.tab 0) k) (dirsN l)
  | [], _, _, _ => trivial
  | n :: l, L, k, h => by
    have h0 : L[k]? = some (n.tab 0) := by
      have := congrArg (fun x => x[0]?) h
      simpa using this
    have h1 : L.drop (k + 1) = l.map (fun n => n.tab 0) := by
      have := congrArg (fun x => x.drop 1) h
      simpa [List.drop_drop, Nat.add_comm] using this
    rw [List.map_cons, rootP, dirsN]
    refine ⟨⟨n.tab 0, h0, At.root n⟩, ?_⟩
    have ho : (inoAt (n.tab 0) 0).opq = n.opq := by rw [tab_root]; rfl
    rw [ho]
    split
    · trivial
    · exact rootP_on l L (k + 1) h1
theorem rootP_inc : ∀ (L : List (List InoP)) (k : Nat), ((rootP L k).map (·.1)).Pairwise (· < ·) ∧ ∀ x ∈ rootP L k, k ≤ x.1
  | [], k => by simp [rootP]
  | P :: L, k => by
    obtain ⟨h1, h2⟩ := rootP_inc L (k + 1)
    rw [rootP]
    split
    · simp
    · refine ⟨?_, fun x hx => ?_⟩
      · rw [List.map_cons, List.pairwise_cons]
        refine ⟨fun y hy => ?_, h1⟩
        obtain ⟨x, hx, rfl⟩ := List.mem_map.1 hy
        have := h2 x hx
        omega
      · rcases List.mem_cons.1 hx with rfl | hx
        · exact Nat.le_refl _
        · have := h2 x hx; omega
set_option maxRecDepth 100000 in
theorem law08_SeenAll_L (w0 : World) (hm : MaxL w0) (x0 x1 : AV) (h0 : TV t_s_api_Node x0) (h1 : TV t_s_string x1) : AC w0 F_law08_SeenAll [x0, x1] [] fun r _ => r = .bool true := by
  refine law_of fun Q hq => ?_
  obtain ⟨l, lr, e1, hlr, hll, hlok⟩ := (dec_Node_aux (h0.one (by simp [isAgg, un_s_api_Node]))).2 rfl
  have e1' : x0 = .vs 7 (l.map Node.c) lr := by simpa using e1
  subst e1'
  obtain ⟨names, nr, rfl, hnr, hnl, hnx⟩ := h1.slice (enc := wStr) (ok := fun s => s.length ≤ 1048576) un_s_string ce_string dec_Str
  apply law08_SeenAll_ok
  unfold G_law08_SeenAll
  refine law08_speaks_A hm (fun S _ => ?_)
  simp
  refine law08_May_A hlok (fun S2 hS2 => ?_)
  cases hmay : mayB l with
  | false => simp [joinK_eq, hq]
  | true =>
  simp [joinK_eq]
  by_cases c8 : (8 : Int) < names.length
  · simp [c8, hq]
  simp [c8]
  obtain ⟨h8, hall⟩ := mayB_iff.1 hmay
  refine law08_Stack_A hm hlok hmay (fun S3 s hS3 hs => ?_)
  simp
  have herr := ofErr_all l 0 (fun n hn => (hall n hn).2) (by omega)
  have hgood := hs.good hlok herr
  have htabs := stk_tabs hs
  refine loop_list names (fun i (r : Rt) => ([.vs 1 (names.map wStr) r, .int .i64 i], [])) (fun i r S' => S' = S3 ∧ (r = .nil → names = [])) nr (by simp) ⟨rfl, ?_⟩ ?_ ?_
  · rcases hnr with ⟨_, h⟩ | h
    · exact fun _ => h
    · intro e; rw [e] at h; cases h
  · rintro i r S' v b name c hxi hdr hcc hmem ⟨rfl, hr⟩ hv
    simp at hv hr
    obtain ⟨hv1, hv2⟩ := hv
    simp [hv1, hv2, hcc, hxi]
    by_cases c100 : (100 : Int) < name.length
    · simp [c100, hq]
    simp [c100]
    have hcl : i ≤ names.length := by omega
    have hrr : r = Rt.nil → names = [] := hr
    rw [if_pos ⟨hcl, hrr⟩, ← List.map_take]
    simp only [optK_some']
    simp
    have htl : (names.take i).length = i := by rw [List.length_take]; omega
    have hmi : min i names.length = i := by omega
    refine loop_list (names.take i) (fun j (_ : Unit) => ([.int .i64 j], [])) (fun j _ S2 => S2 = S') () rfl rfl ?_ ?_
    · rintro j _ S2 v2 b2 m c2 hxj hdj hcj hmemj rfl hv2
      simp at hv2
      have hj : j < i := by rw [htl] at c2; exact c2
      have hxj' : names[j]? = some m := by rw [List.getElem?_take, if_pos hj] at hxj; exact hxj
      have hxj2 : names[j]'(by omega) = m := by have := List.getElem?_eq_getElem (l := names) (i := j) (by omega); rw [hxj'] at this; exact (Option.some.inj this).symm
      simp [hv2, hmi, hj, hxj', hxj2]
      by_cases e : m = name
      · simp [e, hq]
      · simp [e]
        try simp (disch := omega) only [wrap64]
        exact .next hj () rfl rfl
    · rintro _ S2 v2 b2 rfl hv2 N2
      simp at hv2
      simp [hv2, htl]
      try simp (disch := omega) only [wrap64]
      refine .next c r.strip rfl ⟨rfl, fun e => hr ?_⟩
      cases r <;> simp_all [Rt.strip]
  · rintro r S' v b ⟨rfl, hr⟩ hv N
    simp at hv
    obtain ⟨hv1, hv2⟩ := hv
    simp [hv1, hv2]
    refine seen_Root_A hs.ok hs.on (fun r2 hr2 => ?_)
    refine law08_Above_A (by omega) (fun r3 => ?_)
    try simp only [callK, argsA]
    try simp
    try rw [← List.map_reverse]
    refine ref08_Dirs_A (by simp; omega) (fun r4 => ?_)
    simp
    have hroot := rootP_on l.reverse s.tabs 0 (by rw [htabs]; rfl)
    rw [← htabs] at hroot
    refine law08_walk_A hs.ok hgood (by omega) hs.on 16 hroot (fun n hn => ?_) ?_ (rootP_inc _ 0).1 (hq _)
    · have hn2 : n ∈ l := by have := dirsN_mem hn; simpa using this
      obtain ⟨q1, q2, q3, q4⟩ := rightB_all (hall n hn2).2
      exact ⟨hlok n hn2, q2, q1, by omega⟩
    · have := rootP_len s.tabs 0
      have h2 : s.tabs.length = l.length := by rw [htabs]; simp
      omega
end Go.Av
