/- Parts of the proofs of this seat: abstract values over the model, and what the functions of the program do. No condition. -/
import Derived.Test.YtclomnkgpemnaaaDoorX04L
import Derived.Test.YtclomnkgpemnaaaDoorY05
import Derived.Test.YtclomnkgpemnaaaDoorY09
import Derived.Test.YtclomnkgpemnaaaDoorXFrz
set_option linter.all false
set_option linter.unusedVariables false
namespace Go.Av
open Go.Proofs
theorem TyV.u16 {t : TypeId} {x : AV} (h : TV t x) (hu : Tryd.prog.underlying t = some (.int .u16)) : ∃ n : Nat, x = .int .u16 n ∧ n < 65536 := by
  obtain ⟨n, e, hw⟩ := (h.one (by simp [isAgg, hu])).int_inv hu
  simp [Lit.wf, IntKind.min, IntKind.max, IntKind.signed, IntKind.bits] at hw
  refine ⟨n.toNat, ?_, by omega⟩
  have : ((n.toNat : Nat) : Int) = n := by omega
  rw [this]
  simpa using e
end Go.Av
set_option linter.unusedVariables false
namespace Go.Av
open Go.Proofs
theorem stk_tabs {S0 S : St} {l : List Node} {s : Stk} (h : StkOf S0 S l s) : s.tabs = l.reverse.map fun n => n.tab 0 := h.tabs
end Go.Av
set_option linter.unusedVariables false
namespace Go.Av
open Go.Proofs
@[simp] theorem binE_ptr_nn : binE .ptr .eql .nil .nil = some (.bool true) := rfl
@[simp] theorem binE_ptr_pn (i o : Nat) : binE .ptr .eql (.ptr i o) .nil = some (.bool false) := rfl
@[simp] theorem binE_ptr_nn' : binE .ptr .neq .nil .nil = some (.bool false) := rfl
@[simp] theorem binE_ptr_pn' (i o : Nat) : binE .ptr .neq (.ptr i o) .nil = some (.bool true) := rfl
@[simp] theorem Node.cg0 (n : Node) (h : 0 < n.c.length) : n.c[0] = .int .i64 n.kind := by have := n.c_eq; simp only [this]; rfl
@[simp] theorem Node.cg1 (n : Node) (h : 1 < n.c.length) : n.c[1] = .bool n.opq := by have := n.c_eq; simp only [this]; rfl
@[simp] theorem Node.cg2 (n : Node) (h : 2 < n.c.length) : n.c[2] = n.names.v := by have := n.c_eq'; simp only [this]; rfl
@[simp] theorem Node.cg3 (n : Node) (h : 3 < n.c.length) : n.c[3] = .vs 7 (n.items.map Node.c) n.ir.strip := by have := n.c_eq'; simp only [this]; rfl
@[simp] theorem Node.cg4 (n : Node) (h : 4 < n.c.length) : n.c[4] = .int .i64 n.size := by have := n.c_eq; simp only [this]; rfl
@[simp] theorem Node.cg5 (n : Node) (h : 5 < n.c.length) : n.c[5] = .vs 2 (n.exts.map Ext.c) n.er.strip := by have := n.c_eq'; simp only [this]; rfl
@[simp] theorem Node.cg6 (n : Node) (h : 6 < n.c.length) : n.c[6] = .str n.target := by have := n.c_eq; simp only [this]; rfl
theorem Clone_str_A2 {w0 : World} {S : St} {l : List Str} {r : Rt} (hl : l.length ≤ 100000000) {Q : AV → St → Prop} (hq : ∀ r', okR r' l → Q (.vs 1 (l.map wStr) r') S) : AC w0 F_slices_Clone_s_string_string [.vs 1 (l.map wStr) r] S Q := by
  refine ⟨⟨_, fn_slices_Clone_s_string_string, by kernel_rfl, by kernel_rfl⟩, fun G w hrel hrole args' hlen ha => ?_⟩
  have hr : okR r l := by
    intro e
    have h0 : 0 < args'.size := by rw [hlen]; simp
    obtain ⟨v, hv⟩ : ∃ v, args'[0]? = some v := ⟨_, Array.getElem?_eq_getElem h0⟩
    obtain ⟨h1, h2, h3⟩ := ha 0 _ v rfl hv
    have hr2 : r.strip = r := by simpa [AV.strip, AV.strip2, AV.strip1] using h3
    rw [hr2] at e
    subst e
    generalize he : l.map wStr = es at h1
    have hes : es = [] := by
      cases h1 with
      | vsnil => rfl
      | vs _ _ _ _ _ _ _ hr => exact (hr rfl).elim
      | vse _ _ _ hr => rfl
    rw [hes] at he
    exact List.map_eq_nil_iff.1 he
  exact (Clone_str_A (w0 := w0) hr hl hq).2 G w hrel hrole args' hlen ha
theorem branch_Names_A {w0 : World} {S : St} {id : Nat} {P : List InoP} {i : Int} (hB : Br S id P) (hl : (inoAt P i).names.length ≤ 100000000) {Q : AV → St → Prop} (hq : ∀ r, okR r (inoAt P i).names → Q (.vs 1 ((inoAt P i).names.map wStr) r) S) : AC w0 F_branch_Branch_Names [.ptr id 0, .int .i64 i] S Q := by
  apply branch_Branch_Names_ok
  unfold G_branch_Branch_Names
  refine branch_at_A hB (fun _ _ _ => ?_)
  simp [Ino.c]
  exact Clone_str_A2 hl hq
end Go.Av
set_option linter.unusedVariables false
namespace Go.Av
open Go.Proofs
theorem OnP.len {L : List (List InoP)} : ∀ {p : List Spot} {l : List Node}, OnP L p l → p.length = l.length
  | [], [], _ => rfl
  | _ :: p, _ :: l, h => by simp [OnP.len h.2]
  | [], _ :: _, h => h.elim
  | _ :: _, [], h => h.elim
theorem OnP.get {L : List (List InoP)} : ∀ {p : List Spot} {l : List Node} {k : Nat} {x : Spot}, OnP L p l → p[k]? = some x → ∃ n, l[k]? = some n ∧ Stands L x n
  | [], [], k, x, _, h => by simp at h
  | y :: p, m :: l, 0, x, h, hx => by simp at hx; subst hx; exact ⟨m, rfl, h.1⟩
  | y :: p, m :: l, k + 1, x, h, hx => by simp at hx; obtain ⟨n, h1, h2⟩ := OnP.get h.2 hx; exact ⟨n, by simpa using h1, h2⟩
  | [], _ :: _, _, _, h, _ => h.elim
  | _ :: _, [], _, _, h, _ => h.elim
theorem Stands.at_ {s : Stk} {x : Spot} {n : Node} (h : Stands s.tabs x n) : ∃ m, s.at_ (x.1 : Int) = some m ∧ m ∈ s.l ∧ inoAt m.tab (x.2 : Int) = n.hd x.2 ∧ x.1 < s.l.length := by
  obtain ⟨P, h1, h2⟩ := h
  unfold Stk.tabs at h1
  rw [List.getElem?_map, Option.map_eq_some_iff] at h1
  obtain ⟨m, h3, rfl⟩ := h1
  exact ⟨m, (Stk.at_some h3).1, List.mem_of_getElem? h3, h2.ino, (List.getElem?_eq_some_iff.1 h3).1⟩
end Go.Av
set_option linter.unusedVariables false
namespace Go.Av
open Go.Proofs
def padS (σ : List Ss) (n : Nat) : List Ss := σ ++ List.replicate (n - σ.length) ⟨[], .nil⟩
def Ss.u (x : Ss) : List AV := [.vs 1 (x.l.map wStr) x.r]
theorem Ss.u_len (x : Ss) : x.u.length = 1 := rfl
theorem padS_get {σ : List Ss} {n i : Nat} (hl : σ.length = i) (hi : i < n) : (padS σ n)[i]? = some ⟨[], .nil⟩ := by
  unfold padS
  rw [List.getElem?_append_right (by omega), List.getElem?_replicate, if_pos (by omega)]
theorem padS_set {σ : List Ss} {n i : Nat} (hl : σ.length = i) (hi : i < n) (x : Ss) : (padS σ n).set i x = padS (σ ++ [x]) n := by
  unfold padS
  rw [List.set_append_right _ _ (by omega), hl, Nat.sub_self, List.length_append, hl]
  obtain ⟨k, hk⟩ : ∃ k, n - i = k + 1 := ⟨n - i - 1, by omega⟩
  rw [hk, show n - (i + [x].length) = k by simp; omega, List.replicate_succ, List.set_cons_zero]
  simp
theorem padS_full {σ : List Ss} {n : Nat} (hl : σ.length = n) : padS σ n = σ := by simp [padS, hl]
set_option maxRecDepth 100000 in
theorem merge_List_A {w0 : World} {S : St} {s : Stk} {p : List Spot} {dirs : List Node} {pr : Rt} (hs : s.ok) (hon : s.on S) (hg : goodT s.tabs) (hp : OnP s.tabs p dirs) (hd : ∀ n ∈ dirs, n.ok ∧ n.allB = true ∧ n.names.l.length ≤ 100000) (hpl : p.length ≤ 64) {Q : AV → St → Prop}
    (hq : ∀ S' r, Sx S S' → okR r (listN dirs) → Q (.vs 2 ((listN dirs).map Ent.c) r) S') : AC w0 F_merge_List [.agg s.c, .vs 2 (p.map spC) pr] S Q := by
  have hc : s.c = [.vs 2 (s.l.map Mnt.c) s.r.strip, .int .i64 s.next] := rfl
  have hpd := hp.len
  rw [hc]
  apply merge_List_ok
  unfold G_merge_List
  simp only [← hc]
  have hmk : ∃ A S1, makeSliceA T_s_string false S (.int .i64 (p.length : Int)) (.int .i64 (p.length : Int)) = some (A, S1) ∧ Sx S S1 ∧ ((p = [] ∧ A = .vs 1 [] (.own t_s_string)) ∨ (p ≠ [] ∧ A = .rs 1 S.length 0 p.length ∧ S1[S.length]? = some (.cells (flatE Ss.u (padS [] p.length) ++ []) 0))) := by
    have hlim : (p.length : Int) ≤ lim := by unfold lim; omega
    by_cases c : p = []
    · subst c
      exact ⟨.vs 1 [] (.own t_s_string), S, by simp [makeSliceA], .refl _, .inl ⟨rfl, rfl⟩⟩
    · refine ⟨.rs 1 S.length 0 p.length, S ++ [.cells (List.replicate p.length [.vs 1 [] .nil]).flatten 0], by simp [makeSliceA, hlim, c], .app _ _, .inr ⟨c, rfl, ?_⟩⟩
      have : ∀ n, (List.replicate n [AV.vs 1 [] .nil]).flatten = flatE Ss.u (List.replicate n ⟨[], .nil⟩) := by
        intro n
        induction n with
        | zero => rfl
        | succ n ih => simp only [List.replicate_succ, List.flatten_cons, ih]; rfl
      rw [this]
      simp [padS]
  obtain ⟨A, S1, e1, hx1, hA⟩ := hmk
  simp [e1]
  rw [joinK_eq]
  refine loop_list p (fun i (_ : List Ss) => ([.int .i64 i], [some s.c])) (fun i σ S' => Sx S S' ∧ σ.length = i ∧ σ.map (·.l) = (dirs.map (fun n => n.names.l)).take i ∧ (∀ x ∈ σ, x.r = .nil → x.l = []) ∧ (p = [] ∨ S'[S.length]? = some (.cells (flatE Ss.u (padS σ p.length) ++ []) 0))) [] rfl ⟨hx1, rfl, rfl, by simp, hA.imp (·.1) (·.2.2)⟩ ?_ ?_
  · rintro i σ S' v b x c hxi hdr hcc hmem ⟨hSx, hσl, hσ, hσr, hrow⟩ hv
    simp at hv
    obtain ⟨hv1, hv2⟩ := hv
    obtain ⟨n, hn, hst⟩ := hp.get hxi
    obtain ⟨m, a1, a2, a3, a4⟩ := hst.at_
    have hnm := List.mem_of_getElem? hn
    have hB := hon.mono hSx m a2
    have hnmz : (inoAt m.tab (x.2 : Int)).names = n.names.l := by rw [a3]; rfl
    have hpne : p ≠ [] := by intro e; rw [e] at hxi; simp at hxi
    have hA2 : A = .rs 1 S.length 0 p.length := by rcases hA with ⟨h, _⟩ | ⟨_, h, _⟩; exact absurd h hpne; exact h
    have hrow := hrow.resolve_left hpne
    subst hA2
    simp [hv1, hv2, hcc, hxi, spC]
    refine stack_At_A ?_
    rw [a1]
    simp
    refine branch_Names_A hB (by rw [hnmz]; have := (hd n hnm).2.2; omega) (fun r6 hr6 => ?_)
    rw [hnmz] at hr6 ⊢
    have hst2 := row_store (T := T_s_string) (enc := Ss.u) (n := 1) (⟨n.names.l, r6⟩ : Ss) hrow rfl Ss.u_len (padS_get hσl c) (v := .vs 1 (n.names.l.map wStr) r6) rfl rfl
    rw [Nat.mul_one, padS_set hσl c] at hst2
    simp [c, hst2]
    try simp (disch := omega) only [wrap64]
    have hlt : S.length < S'.length := (List.getElem?_eq_some_iff.1 hrow).1
    refine .next c (σ ++ [⟨n.names.l, r6⟩]) rfl ⟨fun j hj => ?_, by simp [hσl], by rw [List.take_succ, List.getElem?_map, hn, List.map_append, hσ]; rfl, fun y hy => ?_, .inr ?_⟩
    · rw [List.getElem?_set_ne (by omega)]; exact hSx j hj
    · rcases List.mem_append.1 hy with hy | hy
      · exact hσr y hy
      · rw [List.mem_singleton] at hy
        subst hy
        intro e
        exact hr6 (by simp only at e; rw [e]; rfl)
    · simp [List.getElem?_set, hlt]
  · rintro σ S' v b ⟨hSx, hσl, hσ, hσr, hrow⟩ hv N
    simp at hv
    obtain ⟨hv1, hv2⟩ := hv
    simp [hv1, hv2]
    rw [joinK_eq]
    have hσ : σ.map (·.l) = dirs.map (fun n => n.names.l) := by rw [hσ, List.take_of_length_le (by rw [List.length_map]; omega)]
    have hall : ∀ n ∈ dirs, n.allB = true := fun n hn => (hd n hn).2.1
    have hsl : ∀ x ∈ σ, x.l.length ≤ 100000 := fun x hx => by
      obtain ⟨k, hk⟩ := List.getElem?_of_mem hx
      obtain ⟨n, h1, h2⟩ := rows_get hσ hk
      rw [h2]; exact (hd n (List.mem_of_getElem? h1)).2.2
    have htot : totS σ ≤ 6400000 := by
      have h1 : ∀ (l : List Ss), (∀ x ∈ l, x.l.length ≤ 100000) → totS l ≤ l.length * 100000 := by
        intro l
        induction l with
        | nil => intro _; simp [totS]
        | cons x l ih =>
          intro h
          have h2 := ih fun y hy => h y (by simp [hy])
          have h3 := h x (by simp)
          simp only [totS, List.map_cons, List.sum_cons, List.length_cons, Nat.add_mul] at h2 ⊢
          omega
      have h2 := h1 σ hsl
      omega
    have hmerge : ∀ {Q2 : AV → St → Prop}, (∀ S2, Sx S S2 → Q2 (.vs 2 ((mergeS (totS σ) σ).map Item.c) .none) S2) → AC w0 F_heap_Merge [A.strip] S' Q2 := by
      intro Q2 hq2
      rcases hA with ⟨hp0, hA⟩ | ⟨hp0, hA, _⟩
      · have hσ0 : σ = [] := by
          apply List.eq_nil_of_length_eq_zero
          rw [hσl, hp0]; rfl
        subst hσ0
        rw [hA]
        exact heap_Merge_A (rows := []) (r := .none) (by simp) (by simp [totS]) (by simp) fun S2 h2 => hq2 S2 (hSx.trans h2)
      · have hrow := hrow.resolve_left hp0
        rw [hA]
        rw [padS_full hσl, List.append_nil] at hrow
        have hflat : flatE Ss.u σ = (σ.map Ss.u).flatten := by simp [flatE, List.flatMap]
        rw [hflat] at hrow
        refine ACalls.freeze (pre := []) (post := []) (n := p.length) hrow (fun e he => ?_) (by simpa using hσl) ?_
        · obtain ⟨x, _, rfl⟩ := List.mem_map.1 he
          exact ⟨rfl, by simp [Ss.u]⟩
        · have hmm : (σ.map Ss.u).map (·.map AV.strip1) = σ.map Ss.c := by
            rw [List.map_map]
            apply List.map_congr_left
            intro x _
            simp [Ss.u, AV.strip1]
          rw [hmm]
          refine heap_Merge_A (rows := σ) (r := .none) (by omega) (by omega) hσr fun S2 h2 => hq2 S2 fun j hj => ?_
          have hlt : S.length < S'.length := (List.getElem?_eq_some_iff.1 hrow).1
          rw [h2 j (by rw [List.length_set]; omega), List.getElem?_set_ne (by omega)]
          exact hSx j hj
    have hAs : A.strip.free = true ∧ A.strip.strip = A.strip := by rcases hA with ⟨_, rfl⟩ | ⟨_, rfl, _⟩ <;> exact ⟨rfl, rfl⟩
    rw [if_pos hAs.1, hAs.2]
    simp only [optK_some']
    refine hmerge fun S2 hS2 => ?_
    simp
    refine heap_First_A (by have := mergeS_cap (totS σ) σ; omega) (fun r7 hr7 => ?_)
    simp
    have hnames : namesOf (dirs.map (·.names)) = (firstL none (mergeS (totS σ) σ)).map (·.name) := (namesOf_rows hσ hall).symm
    have hlist : listN dirs = ((firstL none (mergeS (totS σ) σ)).map (·.name)).filterMap (entOf dirs) := by rw [listN, hnames]
    have hitem := fun it hit => first_item (it := it) hσ hall hit
    have hfl : (firstL none (mergeS (totS σ) σ)).length ≤ 6400000 := Nat.le_trans (firstL_len _ _) (by have := mergeS_cap (totS σ) σ; omega)
    generalize firstL none (mergeS (totS σ) σ) = items at hnames hlist hitem hfl ⊢
    refine loop_list items (fun i (σ2 : List Ent × Rt) => ([.vs 2 (σ2.1.map Ent.c) σ2.2, .int .i64 i], [some s.c])) (fun i σ2 S' => S' = S2 ∧ listN dirs = σ2.1 ++ ((items.map (·.name)).drop i).filterMap (entOf dirs) ∧ okA σ2.2 σ2.1 ∧ σ2.1.length ≤ i) ([], .nil) rfl ⟨rfl, by rw [hlist]; simp, .inl ⟨rfl, rfl⟩, by simp⟩ ?_ ?_
    · rintro i ⟨out, ro⟩ S3 v2 b2 it c hxi hdr hcc hmem ⟨rfl, he, hro, hol⟩ hv2
      simp at hv2 he hro hol
      obtain ⟨⟨hv9, hv45⟩, hb2⟩ := hv2
      obtain ⟨k, n, y, q1, q2, q3, q4⟩ := hitem it hmem
      have hkp : k < p.length := by have := (List.getElem?_eq_some_iff.1 q2).1; omega
      obtain ⟨x, hx⟩ : ∃ x, p[k]? = some x := ⟨p[k], List.getElem?_eq_getElem hkp⟩
      obtain ⟨n', hn', hst⟩ := hp.get hx
      rw [q2] at hn'
      cases hn'
      obtain ⟨P, hP, hat⟩ := hst
      obtain ⟨m, a1, a2, a3, a4⟩ := (show Stands s.tabs x n from ⟨P, hP, hat⟩).at_
      have hnm := List.mem_of_getElem? q2
      have hmt : m.tab = P := by
        have h1 := hP
        unfold Stk.tabs at h1
        rw [List.getElem?_map, Option.map_eq_some_iff] at h1
        obtain ⟨m', h3, h4⟩ := h1
        have h5 := (Stk.at_some h3).1
        rw [a1] at h5
        cases h5
        exact h4
      have hlk := hat.look (hall n hnm) it.name
      rw [q3] at hlk
      obtain ⟨j, hj1, hj2⟩ := hlk
      have hB := hon.mono hS2 m a2
      have hgd : (inoAt m.tab (x.2 : Int)).good := hg m.tab (by unfold Stk.tabs; exact List.mem_map.2 ⟨m, a2, rfl⟩) _
      have hky : (inoAt m.tab (j : Int)).kind = y.kind := by rw [hmt, hj2.ino]; rfl
      have hdr' : (items.map (·.name)).drop i = it.name :: (items.map (·.name)).drop (i + 1) := by rw [← List.map_drop, hdr, List.map_cons, List.map_drop]
      rw [hdr', List.filterMap_cons, q4] at he
      have hap : ∀ S2 : St, appendA T_merge_Entry S2 (.vs 2 (out.map Ent.c) ro) (.vs 2 [[.str it.name, .int .i64 y.kind]] .full) = some (.vs 2 ((out ++ [(⟨it.name, y.kind⟩ : Ent)]).map Ent.c) (.own (rowTy T_merge_Entry ro))) := fun S2 => by
        simp [appendA, elemsA, hro.ne.1, show out.length + 1 ≤ lim by unfold lim; omega]
      simp [hv9, hv45, hb2, hcc, hxi, q1, hx, spC]
      refine stack_At_A ?_
      rw [a1]
      simp
      refine branch_Look_A hB hgd ?_
      rw [hmt, hj1]
      simp
      refine branch_Kind_A hB ?_
      rw [hky]
      by_cases k4 : y.kind = 4
      · rw [if_pos k4] at he
        simp [joinK_eq, k4]
        try simp (disch := omega) only [wrap64]
        exact .next c (out, ro) (by simp) ⟨rfl, he, hro, by simp; omega⟩
      · rw [if_neg k4] at he
        simp [joinK_eq, k4]
        simp [hap]
        try simp (disch := omega) only [wrap64]
        exact .next c (out ++ [⟨it.name, y.kind⟩], .own (rowTy T_merge_Entry ro)) (by simp) ⟨rfl, by rw [he]; simp, .app, by simp; omega⟩
    · rintro ⟨out, ro⟩ S3 v2 b2 ⟨rfl, he, hro, hol⟩ hv2 N2
      have hz : List.drop items.length (items.map (·.name)) = [] := by rw [List.drop_of_length_le]; simp
      rw [hz] at he
      simp at hv2 he hro
      obtain ⟨⟨hv9, hv45⟩, hb2⟩ := hv2
      simp [hv9, hv45, hb2]
      have := hq S3 ro.strip hS2 (fun e => by
        rw [he]
        rcases hro with ⟨_, h⟩ | ⟨⟨t, rfl⟩, _⟩
        · exact h
        · simp [Rt.strip] at e)
      rw [he] at this
      exact this
end Go.Av
set_option linter.unusedVariables false
namespace Go.Av
open Go.Proofs
theorem merge_Names_A {w0 : World} {S : St} {l : List Ent} {r : Rt} (hl : l.length ≤ 10000000) {Q : AV → St → Prop} (hq : ∀ S' r, Sx S S' → Q (.vs 1 (l.map fun x => wStr x.name) r) S') : AC w0 F_merge_Names [.vs 2 (l.map Ent.c) r] S Q := by
  apply merge_Names_ok
  unfold G_merge_Names
  have hmk : makeSliceA T_string false S (.int .i64 0) (.int .i64 (l.length : Int)) = some (.vs 1 [] (.own t_string), S) := by
    simp [makeSliceA, show (l.length : Int) ≤ lim by unfold lim; omega]
  simp [hmk, joinK_eq]
  refine loop_list l (fun i (ro : Rt) => ([.vs 1 ((l.take i).map fun x => wStr x.name) ro, .int .i64 i], [])) (fun i ro S' => S' = S ∧ ∃ t, ro = .own t) (.own t_string) (by simp) ⟨rfl, _, rfl⟩ ?_ ?_
  · rintro i ro S' v b x c hxi hd hc hmem ⟨rfl, t, rfl⟩ hv
    simp at hv
    obtain ⟨hv1, hv2⟩ := hv
    have htk : l.take (i + 1) = l.take i ++ [x] := by rw [List.take_succ, hxi]; rfl
    have hlen : (l.take i).length = i := by rw [List.length_take]; omega
    have htk2 : List.take (i + 1) (l.map fun x => [AV.str x.name]) = List.take i (l.map fun x => [AV.str x.name]) ++ [[AV.str x.name]] := by rw [← List.map_take, htk, List.map_append, List.map_take]; rfl
    have hap : ∀ S2 : St, appendA T_string S2 (.vs 1 (List.take i (l.map fun x => [AV.str x.name])) (.own t)) (.vs 1 [[.str x.name]] .full) = some (.vs 1 (List.take (i + 1) (l.map fun x => [AV.str x.name])) (.own (rowTy T_string (.own t)))) := fun S2 => by
      rw [htk2]
      simp [appendA, elemsA, show min i l.length + 1 ≤ lim by unfold lim; omega]
    simp [hv1, hv2, hc, hxi, hap]
    try simp (disch := omega) only [wrap64]
    exact .next c (.own (rowTy T_string (.own t))) rfl ⟨rfl, _, rfl⟩
  · rintro ro S' v b ⟨rfl, t, rfl⟩ hv N
    simp at hv
    obtain ⟨hv1, hv2⟩ := hv
    simp [hv1, hv2]
    have := hq S' (Rt.strip (.own t)) (Sx.refl _)
    simpa [Rt.strip] using this
theorem insertN_sorted : ∀ (l : List Str) (s : Str), Sorted l → Sorted (insertN l s)
  | [], s, _ => by simp [insertN, Sorted]
  | x :: l, s, hs => by
    have hs2 := List.pairwise_cons.1 hs
    rw [insertN]
    by_cases e : x = s
    · rw [if_pos e]; exact hs
    · rw [if_neg e]
      by_cases c : slt s x = true
      · rw [if_pos c]
        refine List.pairwise_cons.2 ⟨fun y hy => ?_, hs⟩
        rcases List.mem_cons.1 hy with rfl | hy
        · exact c
        · exact slt_trans c (hs2.1 y hy)
      · rw [if_neg c]
        refine List.pairwise_cons.2 ⟨fun y hy => ?_, insertN_sorted l s hs2.2⟩
        rcases (insertN_mem l s y).1 hy with rfl | hy
        · rcases slt_tri x y with h | h | h
          · exact h
          · exact absurd h e
          · exact absurd h c
        · exact hs2.1 y hy
end Go.Av
set_option linter.unusedVariables false
namespace Go.Av
open Go.Proofs
theorem foldI_sorted : ∀ (ns l : List Str), Sorted l → Sorted (ns.foldl insertN l) ∧ ∀ s, s ∈ ns.foldl insertN l ↔ s ∈ l ∨ s ∈ ns
  | [], l, h => ⟨h, by simp⟩
  | x :: ns, l, h => by
    obtain ⟨h1, h2⟩ := foldI_sorted ns (insertN l x) (insertN_sorted l x h)
    refine ⟨h1, fun s => ?_⟩
    rw [List.foldl_cons, h2, insertN_mem, List.mem_cons]
    constructor
    · rintro ((h | h) | h)
      · exact .inr (.inl h)
      · exact .inl h
      · exact .inr (.inr h)
    · rintro (h | h | h)
      · exact .inl (.inr h)
      · exact .inl (.inl h)
      · exact .inr h
def namesR (dirs : List Node) : List Str := dirs.foldl (fun acc n => n.names.l.foldl insertN acc) []
theorem namesR_gen : ∀ (dirs : List Node) (l : List Str), Sorted l → Sorted (dirs.foldl (fun acc n => n.names.l.foldl insertN acc) l) ∧ ∀ s, s ∈ dirs.foldl (fun acc n => n.names.l.foldl insertN acc) l ↔ s ∈ l ∨ ∃ n ∈ dirs, s ∈ n.names.l
  | [], l, h => ⟨h, by simp⟩
  | n :: dirs, l, h => by
    obtain ⟨h1, h2⟩ := foldI_sorted n.names.l l h
    obtain ⟨h3, h4⟩ := namesR_gen dirs _ h1
    refine ⟨h3, fun s => ?_⟩
    rw [List.foldl_cons, h4, h2]
    constructor
    · rintro ((h | h) | ⟨m, hm, h⟩)
      · exact .inl h
      · exact .inr ⟨n, by simp, h⟩
      · exact .inr ⟨m, by simp [hm], h⟩
    · rintro (h | ⟨m, hm, h⟩)
      · exact .inl (.inl h)
      · rcases List.mem_cons.1 hm with rfl | hm
        · exact .inl (.inr h)
        · exact .inr ⟨m, hm, h⟩
theorem namesR_eq {dirs : List Node} (ha : ∀ n ∈ dirs, n.allB = true) : namesR dirs = namesOf (dirs.map (·.names)) := by
  obtain ⟨h1, h2⟩ := namesR_gen dirs [] .nil
  obtain ⟨h3, h4⟩ := namesOf_spec (rs := dirs.map (·.names)) (fun x hx => by obtain ⟨n, hn, rfl⟩ := List.mem_map.1 hx; exact allB_sorted (ha n hn))
  refine sorted_unique h1 h3 fun s => ?_
  rw [h4]
  show s ∈ dirs.foldl (fun acc n => n.names.l.foldl insertN acc) [] ↔ _
  rw [h2]
  constructor
  · rintro (h | ⟨n, hn, h⟩)
    · cases h
    · exact ⟨n.names, List.mem_map.2 ⟨n, hn, rfl⟩, h⟩
  · rintro ⟨x, hx, h⟩
    obtain ⟨n, hn, rfl⟩ := List.mem_map.1 hx
    exact .inr ⟨n, hn, h⟩
end Go.Av
