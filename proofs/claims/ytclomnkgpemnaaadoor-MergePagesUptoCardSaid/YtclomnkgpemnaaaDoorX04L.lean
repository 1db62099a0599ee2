/- Parts of the proofs of this seat: abstract values over the model, and what the functions of the program do. No condition. -/
import Derived.Test.YtclomnkgpemnaaaDoorXSplit
import Derived.Test.YtclomnkgpemnaaaDoorY05
import Derived.Test.YtclomnkgpemnaaaDoorDRow
import Derived.Test.YtclomnkgpemnaaaDoorY04
import Derived.Test.YtclomnkgpemnaaaDoorY09
set_option linter.all false
set_option linter.unusedVariables false
namespace Go.Av
open Go.Proofs
theorem law_of {w0 : World} {f : Nat} {args : List AV} (h : ∀ Q : AV → St → Prop, (∀ S, Q (.bool true) S) → AC w0 f args [] Q) : AC w0 f args [] fun r _ => r = .bool true := h _ (fun _ => rfl)
abbrev whiteN : Node := .mk 4 false ⟨[], .nil⟩ [] .nil 0 [] .nil []
structure Chain (k : Nat) (d : Node) : Prop where
  ok : d.ok
  kind : d.kind = 2
  count : d.count = k + 1
  depth : d.depth = k
  all : d.allB = true
theorem Chain.zero {q1 q2 : Rt} (k1 : okR q1 ([] : List Str)) (k2 : okR q2 ([] : List Node)) : Chain 0 (dirN false [] q1 [] q2) :=
  ⟨dirN_ok (by simp) (by simp) k1 k2, rfl, rfl, rfl, rfl⟩
theorem Chain.succ {k : Nat} {d : Node} (h : Chain k d) {q1 q2 : Rt} (k1 : okR q1 [([97] : Str)]) (k2 : okR q2 [d]) : Chain (k + 1) (dirN false [[97]] q1 [d] q2) := by
  refine ⟨dirN_ok (by simp) (by simp [h.ok]) k1 k2, rfl, ?_, ?_, ?_⟩
  · rw [Node.count_eq]; show 1 + Node.counts [d] = _; rw [Node.counts, Node.counts, h.count]; omega
  · rw [Node.depth_eq]; show Node.depths [d] = _; rw [Node.depths, Node.depths, h.depth]; omega
  · rw [Node.all_eq]; show (Node.allsB [d] && _) = true; rw [Node.allsB, h.all]; rfl
end Go.Av
set_option linter.unusedVariables false
namespace Go.Av
open Go.Proofs
theorem rightB_all {n : Node} (h : rightB n = true) : n.kind = 2 ∧ n.allB = true ∧ n.count ≤ 4096 ∧ n.depth ≤ 15 := by
  simpa [rightB] using h
end Go.Av
set_option linter.unusedVariables false
namespace Go.Av
open Go.Proofs
def rdC (s : Str) : Obj := .cells [.str s] t_wire_Reader
def RdO (S : St) (rid wid : Nat) (st : RS) : Prop := S[rid]? = some (.cells [.ptr wid 0, .bool st.bad, .int .i64 st.left] t_image_reader) ∧ S[wid]? = some (rdC st.s)
theorem RdO.put {S : St} {rid wid : Nat} {st : RS} (h : RdO S rid wid st) (hne : rid ≠ wid) {s : Str} : RdO (S.set wid (rdC s)) rid wid { st with s := s } :=
  ⟨by rw [getSet_other (Ne.symm hne)]; exact h.1, getSet_self h.2⟩
def okA {α : Type} (r : Rt) (l : List α) : Prop := (r = .nil ∧ l = []) ∨ ((∃ t, r = .own t) ∧ l ≠ [])
theorem okA.ne {α : Type} {r : Rt} {l : List α} (h : okA r l) : r ≠ .none ∧ r ≠ .full := by
  rcases h with ⟨rfl, rfl⟩ | ⟨⟨t, rfl⟩, h⟩ <;> simp
theorem okA.app {α : Type} {t : Nat} {l : List α} {x : α} : okA (.own t) (l ++ [x]) := .inr ⟨⟨t, rfl⟩, by simp⟩
end Go.Av
set_option linter.unusedVariables false
namespace Go.Av
open Go.Proofs
set_option maxRecDepth 100000 in
theorem branch_add_A {w0 : World} (n : Node) : ∀ {S : St} {Q : AV → St → Prop} {id : Nat} {T : List Ino}, n.ok → TabO S id T → T.length + n.count ≤ 1000000 →
    (∀ S' T', TabO S' id (T ++ T') → T'.map Ino.p = n.tab T.length → Kp id S S' → Q (.int .i64 T.length) S') → AC w0 F_branch_Branch_add [.ptr id 0, .agg n.c] S Q := by
  induction n using Node.ind with
  | h n ih =>
    intro S Q id T hok hT hcnt hq
    have hcc := n.c_eq'
    rw [hcc]
    apply branch_Branch_add_ok
    unfold G_branch_Branch_add
    rw [Node.ok_iff] at hok
    obtain ⟨h1, h2, h3, h4, h5, h6, h7⟩ := hok
    rw [Node.count_eq] at hcnt
    simp
    have key : ∀ K : AV → St → Prop, (∀ S1 t, id < t → S1[id]? = some (.cells [.rs 8 t 0 (T.length + 1)] t_branch_Branch) → S1[t]? = some (.cells (flatE Ino.c (T ++ [inoZ])) 0) → Kp id S S1 → K (.int .i64 T.length) S1) →
        optK (loadA T_s_branch_inode S (.ptr id 0)) fun t12 => optK (lenSlA (AV.strip t12)) fun t13 => optK (loadA T_s_branch_inode S (.ptr id 0)) fun t18 =>
          optK (appendR T_branch_inode (stripMem S (.ptr id 0)) (AV.strip0 t18) (.vs 8 [[.int .i64 0, .bool false, .vs 1 [] .nil, .vs 7 [] .nil, .int .i64 0, .vs 2 [] .nil, .str [], .vs 1 [] .nil]] .full)) fun p21 =>
          optK (storeA T_s_branch_inode p21.2 (.ptr id 0) p21.1) fun S1 => K t13 S1 := by
      intro K hK
      rcases hT with ⟨rfl, hS⟩ | ⟨t, ht, hS, hS2⟩
      · have e1 : stripMem S (.ptr id 0) = S := by
          rw [stripMem_ptr hS]
          obtain ⟨hlt, he⟩ := List.getElem?_eq_some_iff.1 hS
          rw [show List.modify [AV.vs 8 [] .nil] 0 AV.strip1 = [AV.vs 8 [] .nil] from rfl, ← he, List.set_getElem_self]
        have hlt := (List.getElem?_eq_some_iff.1 hS).1
        have hS3 : (S ++ [Obj.cells [.int .i64 0, .bool false, .vs 1 [] .nil, .vs 7 [] .nil, .int .i64 0, .vs 2 [] .nil, .str [], .vs 1 [] .nil] 0])[id]? = some (.cells [.vs 8 [] .nil] t_branch_Branch) := by
          rw [List.getElem?_append_left hlt]; exact hS
        simp [loadA_ptr hS, e1, appendR, elemsA, lim, storeA_ptr hS3]
        refine hK _ S.length hlt ?_ ?_ ?_
        · exact getSet_self hS3
        · rw [getSet_other (by omega)]; simp [flatE, Ino.c, inoZ]
        · intro j hj
          rw [getSet_other (by omega), List.getElem?_append_left (by omega)]
      · have e1 : stripMem S (.ptr id 0) = S := by
          rw [stripMem_ptr hS]
          obtain ⟨hlt, he⟩ := List.getElem?_eq_some_iff.1 hS
          rw [show List.modify [AV.rs 8 t 0 T.length] 0 AV.strip1 = [AV.rs 8 t 0 T.length] from rfl, ← he, List.set_getElem_self]
        have hlt := (List.getElem?_eq_some_iff.1 hS).1
        have hl : (flatE Ino.c T).length = T.length * 8 := flatE_len (fun x => x.c_len) T
        have hS3 : (S.set t .dead ++ [Obj.cells (flatE Ino.c T ++ [.int .i64 0, .bool false, .vs 1 [] .nil, .vs 7 [] .nil, .int .i64 0, .vs 2 [] .nil, .str [], .vs 1 [] .nil]) 0])[id]? = some (.cells [.rs 8 t 0 T.length] t_branch_Branch) := by
          rw [List.getElem?_append_left (by simpa using hlt), getSet_other (by omega)]; exact hS
        have hlim : T.length + 1 ≤ lim := by unfold lim; omega
        have htk : (flatE Ino.c T).take (T.length * 8) = flatE Ino.c T := by rw [← hl, List.take_length]
        simp [loadA_ptr hS, e1, appendR, elemsA, objCells, hS2, hl, hlim, htk, storeA_ptr hS3]
        refine hK _ S.length hlt ?_ ?_ ?_
        · exact getSet_self hS3
        · rw [getSet_other (by omega)]
          rw [List.getElem?_append_right (by simp)]
          simp [flatE, Ino.c, inoZ]
        · intro j hj
          rw [getSet_other (by omega), List.getElem?_append_left (by simp; omega), getSet_other (by omega)]
    refine key _ (fun S1 t ht hS1 hS1t hK1 => ?_)
    simp
    have hnames : okR n.names.r.strip n.names.l := fun e => h2.1 (by cases h : n.names.r <;> simp_all [Rt.strip])
    refine joinK_gen (fun j => ∀ (S2 : St) (T2 : List Ino) (r : Rt), TabO S2 id (T ++ inoZ :: T2) → T2.map Ino.p = Node.tabs n.items (T.length + 1) → Kp id S S2 → okA r (Node.idsOf n.items (T.length + 1)) →
      j (some [.int .i64 n.kind, .bool n.opq, .vs 1 (n.names.l.map wStr) n.names.r.strip, .vs 7 (n.items.map Node.c) n.ir.strip, .int .i64 n.size, .vs 2 (n.exts.map Ext.c) n.er.strip, .str n.target, .vs 1 ((Node.idsOf n.items (T.length + 1)).map wNat) r]) S2) ?_ (fun j hj => ?_)
    · intro S2 T2 r hT2 hm hK2 hr
      have hl1 := h2.2.1
      have hl2 := h6.2.1
      simp
      refine Clone_str_A (l := n.names.l) (by simpa [okR] using hnames) (by omega) (fun q1 k1 => ?_)
      refine Clone_ext_A (l := n.exts) (by simpa [okR] using h6.1) (by omega) (fun q2 k2 => ?_)
      simp
      rcases hT2 with ⟨e, _⟩ | ⟨t2, ht2, hS2, hS2t⟩
      · simp at e
      simp [loadA_ptr hS2]
      have hget : (T ++ inoZ :: T2)[T.length]? = some inoZ := by simp
      have hS2t' : S2[t2]? = some (.cells (flatE Ino.c (T ++ inoZ :: T2) ++ []) 0) := by rw [List.append_nil]; exact hS2t
      have hst := row_store (T := T_branch_inode) (enc := Ino.c) (n := 8) (v := .agg (Ino.c ⟨n.hd T.length, q1, q2, r⟩)) ⟨n.hd T.length, q1, q2, r⟩ hS2t' rfl (fun x => x.c_len) hget rfl (by simp [Ino.c])
      have hc8 : Ino.c ⟨n.hd T.length, q1, q2, r⟩ = [.int .i64 n.kind, .bool n.opq, .vs 1 (n.names.l.map wStr) q1.strip, .vs 7 [] .nil, .int .i64 n.size, .vs 2 (n.exts.map Ext.c) q2.strip, .str n.target, .vs 1 ((Node.idsOf n.items (T.length + 1)).map wNat) r.strip] := rfl
      rw [hc8] at hst
      rw [hst]
      have hset : (T ++ inoZ :: T2).set T.length ⟨n.hd T.length, q1, q2, r⟩ = T ++ (⟨n.hd T.length, q1, q2, r⟩ : Ino) :: T2 := by simp
      rw [hset, List.append_nil]
      refine hq _ (⟨n.hd T.length, q1, q2, r⟩ :: T2) (.inr ⟨t2, ht2, ?_, ?_⟩) ?_ ?_
      · rw [getSet_other (by omega), hS2]
        simp
      · exact getSet_self hS2t
      · rw [List.map_cons, hm, Node.tab_eq]
      · exact hK2.trans (Kp.set (by omega))
    · refine loop_list n.items (fun i (r : Rt) => ([.int .i64 i], [some [.int .i64 n.kind, .bool n.opq, .vs 1 (n.names.l.map wStr) n.names.r.strip, .vs 7 (n.items.map Node.c) n.ir.strip, .int .i64 n.size, .vs 2 (n.exts.map Ext.c) n.er.strip, .str n.target, .vs 1 ((Node.idsOf (n.items.take i) (T.length + 1)).map wNat) r]]))
        (fun i r S' => ∃ T2 : List Ino, TabO S' id (T ++ inoZ :: T2) ∧ T2.map Ino.p = Node.tabs (n.items.take i) (T.length + 1) ∧ Kp id S S' ∧ okA r (Node.idsOf (n.items.take i) (T.length + 1))) .nil (by simp [Node.idsOf]) ⟨[], .inr ⟨t, ht, by simpa using hS1, hS1t⟩, by simp [Node.tabs_nil], hK1, .inl ⟨rfl, by simp [Node.idsOf]⟩⟩ ?_ ?_
      · rintro i r S2 v bx x c hxi hd hc hm ⟨T2, hT2, hTm, hK2, hr⟩ hv
        simp at hv
        obtain ⟨hv1, hv2⟩ := hv
        simp [hv1, hv2, hc, hxi]
        have hlen : (T ++ inoZ :: T2).length = T.length + 1 + Node.counts (n.items.take i) := by
          have := congrArg List.length hTm
          rw [List.length_map, Node.tabs_len] at this
          simp; omega
        have hct := Node.counts_take hxi
        have hcl := Node.counts_take_le n.items (i + 1)
        refine ih x hm (h4 x hm) hT2 (by rw [hlen]; omega) (fun S3 T3 hT3 hTm3 hK3 => ?_)
        rw [hlen] at hTm3 ⊢
        obtain ⟨n1, n2⟩ := hr.ne
        have hlim : (Node.idsOf (n.items.take i) (T.length + 1)).length + 1 ≤ lim := by rw [Node.idsOf_len, List.length_take]; unfold lim; omega
        simp [appendA, elemsA, n1, hlim]
        try simp (disch := omega) only [wrap64]
        refine .next c (.own (rowTy T_int r)) ?_ ⟨T2 ++ T3, by simpa using hT3, ?_, hK2.trans hK3, ?_⟩
        · rw [Node.idsOf_take hxi]
          simp
        · rw [List.map_append, hTm, hTm3, Node.tabs_take hxi]
        · rw [Node.idsOf_take hxi]
          exact .app
      · rintro r S2 v bx ⟨T2, hT2, hTm, hK2, hr⟩ hv N
        simp at hv
        obtain ⟨hv1, hv2⟩ := hv
        rw [List.take_length] at hTm hr
        have := hj S2 T2 r hT2 hTm hK2 hr
        simp [hv1, hv2]
        simpa using this
end Go.Av
set_option linter.unusedVariables false
namespace Go.Av
open Go.Proofs
theorem branch_New_A {w0 : World} (hm : MaxL w0) {n : Node} {S : St} (hok : n.ok) {Q : AV → St → Prop}
    (h1 : rightB n = true → ∀ S' id, Sx S S' → S.length ≤ id → Br S' id (n.tab 0) → Q (.tup [.ptr id 0, .int .i64 0]) S') (h2 : rightB n = false → ∀ S', Sx S S' → Q (.tup [.nil, .int .i64 1]) S') : AC w0 F_branch_New [.agg n.c] S Q := by
  have hcc := n.c_eq'
  rw [hcc]
  apply branch_New_ok
  unfold G_branch_New
  simp [← hcc]
  refine tree_Right_A hm hok (fun S1 hS1 => ?_)
  cases hr : rightB n with
  | false =>
    simp
    exact h2 hr _ hS1
  | true =>
    obtain ⟨r1, r2, r3, r4⟩ := rightB_all hr
    simp
    refine branch_add_A n (T := []) hok (.inl ⟨rfl, by simp⟩) (by simp; omega) (fun S2 T2 hT2 hm2 hK => ?_)
    rcases hT2 with ⟨e, _⟩ | ⟨t, ht, hS2, hS2t⟩
    · have := congrArg List.length hm2
      rw [List.length_map, Node.tab_len, Node.count_eq] at this
      simp at e
      subst e
      simp at this
      omega
    refine h1 hr S2 S1.length (fun j hj => ?_) hS1.le ⟨t, T2, ht, by simpa using hS2, by simpa using hS2t, by simpa using hm2⟩
    have := hS1.le
    rw [hK j (by omega), List.getElem?_append_left (by omega)]
    exact hS1 j hj
theorem branch_at_A {w0 : World} {S : St} {id : Nat} {P : List InoP} {i : Int} (hB : Br S id P) {Q : AV → St → Prop} (hq : ∀ nr er ir, Q (.agg (Ino.c ⟨inoAt P i, nr, er, ir⟩)) S) : AC w0 F_branch_Branch_at [.ptr id 0, .int .i64 i] S Q := by
  obtain ⟨t, T, h1, hS, hSt, hm⟩ := hB
  apply branch_Branch_at_ok
  unfold G_branch_Branch_at
  have hl : T.length = P.length := by rw [← hm, List.length_map]
  by_cases c : i < 0
  · have := hq .nil .nil .nil
    simp [joinK_eq, c]
    simpa [inoAt, c, Ino.c, InoP.none] using this
  by_cases c2 : (T.length : Int) ≤ i
  · have hn : P[i.toNat]? = none := by simp; omega
    have := hq .nil .nil .nil
    simp [joinK_eq, c, loadA_ptr hS, c2]
    simpa [inoAt, c, hn, Ino.c, InoP.none] using this
  · obtain ⟨k, rfl⟩ : ∃ k : Nat, i = k := ⟨i.toNat, by omega⟩
    have hk : k < T.length := by omega
    obtain ⟨x, hx⟩ : ∃ x, T[k]? = some x := ⟨T[k], by simp [hk]⟩
    have hpx : P[k]? = some x.p := by rw [← hm]; simp [hx]
    have hSt' : S[t]? = some (.cells (flatE Ino.c T ++ []) 0) := by rw [List.append_nil]; exact hSt
    have hld := row_load (T := T_branch_inode) (enc := Ino.c) (n := 8) hSt' rfl rfl (fun x => x.c_len) hx
    have := hq x.nr x.er x.ir
    have c' : ¬ ((k : Int) < 0) := by omega
    have e : inoAt P (k : Int) = x.p := by simp [inoAt, hpx]; omega
    rw [e] at this
    simp [joinK_eq, c', loadA_ptr hS, c2, hk, hld]
    simpa [Ino.c] using this
theorem branch_Kind_A {w0 : World} {S : St} {id : Nat} {P : List InoP} {i : Int} (hB : Br S id P) {Q : AV → St → Prop} (hq : Q (.int .i64 (inoAt P i).kind) S) : AC w0 F_branch_Branch_Kind [.ptr id 0, .int .i64 i] S Q := by
  apply branch_Branch_Kind_ok
  unfold G_branch_Branch_Kind
  refine branch_at_A hB (fun _ _ _ => ?_)
  simp [Ino.c]
  exact hq
theorem branch_Opaque_A {w0 : World} {S : St} {id : Nat} {P : List InoP} {i : Int} (hB : Br S id P) {Q : AV → St → Prop} (hq : Q (.bool (inoAt P i).opq) S) : AC w0 F_branch_Branch_Opaque [.ptr id 0, .int .i64 i] S Q := by
  apply branch_Branch_Opaque_ok
  unfold G_branch_Branch_Opaque
  refine branch_at_A hB (fun _ _ _ => ?_)
  simp [Ino.c]
  exact hq
def lookP (x : InoP) (s : Str) : Option Nat := (x.names.findIdx? (fun y => decide (y = s))).bind (x.ids[·]?)
def InoP.good (x : InoP) : Prop := x.names.Pairwise (fun a b => slt a b = true) ∧ x.names.length = x.ids.length ∧ x.names.length ≤ 1000000
theorem branch_Look_A {w0 : World} {S : St} {id : Nat} {P : List InoP} {i : Int} {s : Str} (hB : Br S id P) (hg : (inoAt P i).good) {Q : AV → St → Prop}
    (hq : Q (match lookP (inoAt P i) s with | some k => .tup [.int .i64 k, .bool true] | none => .tup [.int .i64 0, .bool false]) S) : AC w0 F_branch_Branch_Look [.ptr id 0, .int .i64 i, .str s] S Q := by
  apply branch_Branch_Look_ok
  unfold G_branch_Branch_Look
  refine branch_at_A hB (fun _ _ _ => ?_)
  obtain ⟨g1, g2, g3⟩ := hg
  simp [Ino.c]
  refine BinarySearch_A (by omega) g1 (fun k hk k1 k2 => ?_)
  have hf := find_pw g1 k1 k2
  unfold lookP at hq
  rw [hf] at hq
  by_cases c : (inoAt P i).names[k]? = some s
  · rw [if_pos c] at hq
    have hkl := (List.getElem?_eq_some_iff.1 c).1
    obtain ⟨x, hx⟩ : ∃ x, (inoAt P i).ids[k]? = some x := ⟨(inoAt P i).ids[k]'(by omega), by simp [show k < (inoAt P i).ids.length by omega]⟩
    simp [hx] at hq
    simp [c, hx]
    exact hq
  · rw [if_neg c] at hq
    simp at hq
    simp [c]
    exact hq
end Go.Av
set_option linter.unusedVariables false
namespace Go.Av
open Go.Proofs
theorem stack_Len_A {w0 : World} {S : St} {s : Stk} {Q : AV → St → Prop} (hq : Q (.int .i64 s.l.length) S) : AC w0 F_stack_Stack_Len [.agg s.c] S Q := by
  unfold Stk.c
  apply stack_Stack_Len_ok
  unfold G_stack_Stack_Len
  simp
  exact hq
def Stk.at_ (s : Stk) (k : Int) : Option Mnt := if k < 0 then Option.none else s.l[k.toNat]?
theorem stack_At_A {w0 : World} {S : St} {s : Stk} {k : Int} {Q : AV → St → Prop} (hq : Q (match s.at_ k with | some m => .ptr m.id 0 | none => .nil) S) : AC w0 F_stack_Stack_At [.agg s.c, .int .i64 k] S Q := by
  unfold Stk.c
  apply stack_Stack_At_ok
  unfold G_stack_Stack_At
  unfold Stk.at_ at hq
  by_cases c : k < 0
  · rw [if_pos c] at hq
    simp [joinK_eq, c]
    exact hq
  rw [if_neg c] at hq
  by_cases c2 : (s.l.length : Int) ≤ k
  · have hn : s.l[k.toNat]? = none := by simp; omega
    rw [hn] at hq
    simp [joinK_eq, c, c2]
    exact hq
  · obtain ⟨i, rfl⟩ : ∃ i : Nat, k = i := ⟨k.toNat, by omega⟩
    have hk : i < s.l.length := by omega
    obtain ⟨x, hx⟩ : ∃ x, s.l[i]? = some x := ⟨s.l[i], by simp [hk]⟩
    simp only [Int.toNat_natCast, hx] at hq
    have c' : ¬ ((i : Int) < 0) := by omega
    simp [joinK_eq, c', c2, hx, Mnt.c]
    exact hq
theorem stack_Add_A {w0 : World} {S : St} {s : Stk} {id : Nat} {P : List InoP} (hs : s.ok) {Q : AV → St → Prop} (h1 : 64 ≤ s.l.length → Q (.tup [.agg s.c, .int .i64 0, .int .i64 6]) S)
    (h2 : s.l.length < 64 → ∀ r, r.strip ≠ .nil → Q (.tup [.agg (Stk.c ⟨⟨s.next, id, P⟩ :: s.l, r, s.next + 1⟩), .int .i64 s.next, .int .i64 0]) S) : AC w0 F_stack_Stack_Add [.agg s.c, .ptr id 0] S Q := by
  unfold Stk.c at *
  apply stack_Stack_Add_ok
  unfold G_stack_Stack_Add
  have hn := hs.next
  by_cases c : 64 ≤ s.l.length
  · have := h1 c
    simp [show (64 : Int) ≤ s.l.length by omega]
    exact this
  · simp [show ¬ (64 : Int) ≤ s.l.length by omega]
    try simp (disch := omega) only [wrap64]
    by_cases e : s.l = []
    · have := h2 (by omega) .full (by simp)
      simp [appendA, elemsA, e, Mnt.c] at this ⊢
      exact this
    · have := h2 (by omega) .none (by simp)
      simp [Mnt.c] at this
      simp [appendA, elemsA, e, show s.l.length + 1 ≤ lim by unfold lim; omega, show 1 + s.l.length ≤ lim by unfold lim; omega]
      exact this
structure StkOf (S0 S : St) (l : List Node) (s : Stk) : Prop where
  ok : s.ok
  on : s.on S
  len : s.l.length = l.length
  next : s.next = l.length
  tabs : s.l.map Mnt.tab = l.reverse.map fun n => n.tab 0
  nums : s.l.map Mnt.num = (List.range l.length).reverse
  ids : ∀ m ∈ s.l, S0.length ≤ m.id
@[simp] theorem Stk.c_len (s : Stk) : s.c.length = 2 := rfl
@[simp] theorem Stk.c_free (s : Stk) : (AV.agg s.c).free = true := by simp [Stk.c]
@[simp] theorem Stk.c_strip (s : Stk) : (AV.agg s.c).strip = .agg s.c := by simp [Stk.c]
@[simp] theorem Stk.c_map (s : Stk) : s.c.map AV.strip1 = s.c := by simp [Stk.c]
@[simp] theorem Stk.c_free1 (s : Stk) : (∀ x ∈ s.c, x.free1 = true) ↔ True := by simp [Stk.c]
@[simp] theorem Stk.c_take (s : Stk) : s.c.take 2 = s.c := rfl
@[simp] theorem Stk.c_drop (s : Stk) : s.c.drop 2 = [] := rfl
set_option maxRecDepth 100000 in
theorem stack_Of_A {w0 : World} (hm : MaxL w0) {l : List Node} {r : Rt} {S : St} (hok : ∀ n ∈ l, n.ok) (hl : l.length ≤ 1000000) {Q : AV → St → Prop}
    (hq : ∀ S', Sx S S' → (ofErr l 0 = 0 → ∀ s, StkOf S S' l s → Q (.tup [.agg s.c, .int .i64 0]) S') ∧ (ofErr l 0 ≠ 0 → Q (.tup [.agg Stk.none.c, .int .i64 (ofErr l 0 : Nat)]) S')) : AC w0 F_stack_Of [.vs 7 (l.map Node.c) r] S Q := by
  apply stack_Of_ok
  unfold G_stack_Of
  simp [joinK_eq]
  refine loop_list l (fun i (s : Stk) => ([.int .i64 i], [some [.vs 2 [] .nil, .int .i64 0], some s.c])) (fun i s S' => Sx S S' ∧ StkOf S S' (l.take i) s ∧ ofErr l 0 = ofErr (l.drop i) i) Stk.none (by simp [Stk.none_c]) ⟨Sx.refl _, ⟨⟨fun _ => rfl, by simp [Stk.none], by simp [Stk.none], by simp [Stk.none]⟩, by simp [Stk.on, Stk.none], by simp [Stk.none], by simp [Stk.none], by simp [Stk.none], by simp [Stk.none], by simp [Stk.none]⟩, by simp⟩ ?_ ?_
  · rintro i s S' v b n c hxi hd hc hmem ⟨hSx, hs, he⟩ hv
    simp at hv
    obtain ⟨hv1, hv2, hv3⟩ := hv
    rw [hd, ofErr] at he
    have hlen : (l.take i).length = i := by rw [List.length_take]; omega
    simp [hv1, hv2, hv3, hc, hxi]
    refine branch_New_A hm (hok n hmem) (fun hr S2 id hS2 hid hB => ?_) (fun hr S2 hS2 => ?_)
    · rw [if_neg (by rw [hr]; simp)] at he
      simp
      have hon := hs.on.mono hS2
      refine stack_Add_A (P := n.tab 0) hs.ok (fun h64 => ?_) (fun h64 r2 hr2 => ?_)
      · rw [hs.len, hlen] at h64
        rw [if_pos h64] at he
        have := (hq S2 (hSx.trans hS2)).2 (by omega)
        rw [he] at this
        simp
        simpa [Stk.none_c] using this
      · rw [hs.len, hlen] at h64
        rw [if_neg (by omega)] at he
        have hok2 : (Stk.mk (⟨s.next, id, n.tab 0⟩ :: s.l) r2 (s.next + 1)).ok := ⟨fun e => absurd e hr2, by simp [hs.len, hlen]; omega, by simp [hs.next, hlen]; omega, fun m hm' => by
          rcases List.mem_cons.1 hm' with rfl | hm'
          · simp [hs.next, hlen]; omega
          · exact hs.ok.num m hm'⟩
        have htk : l.take (i + 1) = l.take i ++ [n] := by rw [List.take_succ, hxi]; rfl
        generalize hs2 : Stk.mk (⟨s.next, id, n.tab 0⟩ :: s.l) r2 (s.next + 1) = s2 at hok2 ⊢
        simp
        try simp (disch := omega) only [wrap64]
        refine .next c s2 rfl ⟨hSx.trans hS2, ?_, he⟩
        subst hs2
        refine ⟨hok2, fun m hm' => ?_, ?_, ?_, ?_, ?_, ?_⟩
        · rcases List.mem_cons.1 hm' with rfl | hm'
          · exact hB
          · exact hon m hm'
        · rw [htk]; simp [hs.len, hlen]
        · rw [htk]; simp [hs.next, hlen]
        · rw [htk]; simp [hs.tabs]
        · rw [htk]; simp [hs.nums, hlen, hs.next, List.range_succ]
        · intro m hm'
          rcases List.mem_cons.1 hm' with rfl | hm'
          · exact Nat.le_trans hSx.le hid
          · exact hs.ids m hm'
    · rw [if_pos hr] at he
      have := (hq S2 (hSx.trans hS2)).2 (by omega)
      rw [he] at this
      simp
      simpa [Stk.none_c] using this
  · rintro s S' v b ⟨hSx, hs, he⟩ hv N
    simp at hv
    obtain ⟨hv1, hv2, hv3⟩ := hv
    rw [List.drop_length, ofErr] at he
    rw [List.take_length] at hs
    simp [hv1, hv2, hv3]
    exact (hq S' hSx).1 he s hs
end Go.Av
set_option linter.unusedVariables false
namespace Go.Av
open Go.Proofs
abbrev Spot := Nat × Nat
def spC (x : Spot) : List AV := [.int .i64 x.1, .int .i64 x.2]
@[simp] theorem spC_len (x : Spot) : (spC x).length = 2 := rfl
structure Fnd where
  kind : Int
  sp : Spot
  dirs : List Spot
  deriving DecidableEq
def Fnd.c (f : Fnd) (r : Rt) : List AV := [.int .i64 f.kind, .int .i64 f.sp.1, .int .i64 f.sp.2, .vs 2 (f.dirs.map spC) r]
def Fnd.none : Fnd := ⟨0, (0, 0), []⟩
def rootP : List (List InoP) → Nat → List Spot
  | [], _ => []
  | P :: L, k => (k, 0) :: if (inoAt P 0).opq = true then [] else rootP L (k + 1)
def Stk.tabs (s : Stk) : List (List InoP) := s.l.map Mnt.tab
def goodT (L : List (List InoP)) : Prop := ∀ P ∈ L, ∀ i, (inoAt P i).good
theorem InoP.none_good : InoP.none.good := ⟨by simp [InoP.none], rfl, by simp [InoP.none]⟩
theorem tab_good (n : Node) : n.ok → n.allB = true → n.count ≤ 1000000 → ∀ b, ∀ p ∈ n.tab b, p.good := by
  induction n using Node.ind with
  | h n ih =>
    intro hok hall hc b p hp
    rw [Node.all_eq] at hall
    simp only [Bool.and_eq_true] at hall
    obtain ⟨ha, ho⟩ := hall
    obtain ⟨hz, hk⟩ := oneB_zero ho
    rw [Node.ok_iff] at hok
    obtain ⟨h1, h2, h3, h4, h5, h6, h7⟩ := hok
    rw [Node.count_eq] at hc
    rw [Node.tab_eq] at hp
    rcases List.mem_cons.1 hp with rfl | hp
    · have hl := counts_mem (l := n.items)
      by_cases k : n.kind = 2
      · have hn : namesB n = true := by simpa [kindB, k] using hk
        obtain ⟨c1, c2⟩ := namesB_iff hn
        obtain ⟨c3, _, _⟩ := chain_pw _ _ c1
        exact ⟨c3, by simp [Node.hd, Node.idsOf_len, c2], by simp only [Node.hd]; rw [c2]; omega⟩
      · have hi := zeroB_items hz k
        have hnm : n.names.l = [] := by simp [zeroB, k] at hz; exact hz.1.1.1.2
        exact ⟨by simp [Node.hd, hnm], by simp [Node.hd, hnm, hi, Node.idsOf], by simp [Node.hd, hnm]⟩
    · have : ∀ (l : List Node) (b : Nat), (∀ x ∈ l, x ∈ n.items) → p ∈ Node.tabs l b → p.good := by
        intro l
        induction l with
        | nil => intro b _ h; rw [Node.tabs_nil] at h; cases h
        | cons x l ihl =>
          intro b hm h
          rw [Node.tabs_cons] at h
          rcases List.mem_append.1 h with h | h
          · have hx := hm x (by simp)
            exact ih x hx (h4 x hx) (alls_mem ha x hx) (by have := (counts_mem (l := n.items)).2 x hx; omega) b p h
          · exact ihl _ (fun y hy => hm y (by simp [hy])) h
      exact this n.items _ (fun _ h => h) hp
theorem inoAt_mem {P : List InoP} {i : Int} : inoAt P i = InoP.none ∨ inoAt P i ∈ P := by
  unfold inoAt
  split
  · exact .inl rfl
  · cases h : P[i.toNat]? with
    | none => exact .inl rfl
    | some x => exact .inr (by simpa using List.mem_of_getElem? h)
theorem right_good {n : Node} (hok : n.ok) (hr : rightB n = true) (i : Int) : (inoAt (n.tab 0) i).good := by
  obtain ⟨r1, r2, r3, r4⟩ := rightB_all hr
  rcases inoAt_mem (P := n.tab 0) (i := i) with h | h
  · rw [h]; exact InoP.none_good
  · exact tab_good n hok r2 (by omega) 0 _ h
theorem ofErr_right : ∀ (l : List Node) (k : Nat), ofErr l k = 0 → ∀ n ∈ l, rightB n = true
  | [], _, _ => by simp
  | n :: l, k, h => by
    rw [ofErr] at h
    split at h
    · cases h
    · rename_i c
      split at h
      · cases h
      · intro x hx
        rcases List.mem_cons.1 hx with rfl | hx
        · simpa using c
        · exact ofErr_right l _ h x hx
theorem StkOf.good {S0 S : St} {l : List Node} {s : Stk} (h : StkOf S0 S l s) (hok : ∀ n ∈ l, n.ok) (he : ofErr l 0 = 0) : goodT s.tabs := by
  intro P hP i
  unfold Stk.tabs at hP
  rw [h.tabs] at hP
  obtain ⟨n, hn, rfl⟩ := List.mem_map.1 hP
  rw [List.mem_reverse] at hn
  exact right_good (hok n hn) (ofErr_right l 0 he n hn) i
theorem Stk.at_some {s : Stk} {k : Nat} {m : Mnt} (h : s.l[k]? = some m) : s.at_ (k : Int) = some m ∧ s.tabs[k]? = some m.tab := by
  have : ¬ ((k : Int) < 0) := by omega
  simp [Stk.at_, Stk.tabs, h]
set_option maxRecDepth 100000 in
theorem seen_Root_A {w0 : World} {S : St} {s : Stk} (hs : s.ok) (hon : s.on S) {Q : AV → St → Prop} (hq : ∀ r, okR r (rootP s.tabs 0) → Q (.vs 2 ((rootP s.tabs 0).map spC) r) S) : AC w0 F_seen_Root [.agg s.c] S Q := by
  have hc : s.c = [.vs 2 (s.l.map Mnt.c) s.r.strip, .int .i64 s.next] := rfl
  rw [hc]
  apply seen_Root_ok
  unfold G_seen_Root
  simp [joinK_eq, ← hc]
  refine stack_Len_A ?_
  have hlen := hs.len
  refine loop_list s.l (fun i (p : List Spot × Rt) => ([.vs 2 (p.1.map spC) p.2, .int .i64 i], [some s.c])) (fun i p S' => S' = S ∧ okA p.2 p.1 ∧ p.1.length = i ∧ rootP s.tabs 0 = p.1 ++ rootP (s.tabs.drop i) i) ([], .nil) (by simp [hc]) ⟨rfl, .inl ⟨rfl, rfl⟩, rfl, by simp⟩ ?_ ?_
  · rintro i ⟨p, r⟩ S' v b m c hxi hd hcc hm ⟨rfl, hr, hpl, he⟩ hv
    simp at hv hr hpl he
    obtain ⟨⟨hv1, hv2⟩, hv3⟩ := hv
    obtain ⟨n1, n2⟩ := hr.ne
    have hlim : p.length + 1 ≤ lim := by unfold lim; omega
    have hdt : s.tabs.drop i = m.tab :: s.tabs.drop (i + 1) := by
      unfold Stk.tabs
      rw [← List.map_drop, hd, List.map_cons, ← List.map_drop]
    rw [hdt, rootP] at he
    obtain ⟨a1, a2⟩ := Stk.at_some hxi
    simp [hv1, hv2, hv3, hcc, appendA, elemsA, n1, hlim]
    refine stack_At_A ?_
    rw [a1]
    simp
    refine branch_Opaque_A (hon m hm) ?_
    cases ho : (inoAt m.tab 0).opq with
    | true =>
      rw [if_pos ho] at he
      have := hq .none okR_none
      rw [he] at this
      simp
      simpa [spC] using this
    | false =>
      rw [if_neg (by rw [ho]; simp)] at he
      simp
      try simp (disch := omega) only [wrap64]
      refine .next c (p ++ [(i, 0)], .own (rowTy T_seen_Spot r)) (by simp [spC]) ⟨rfl, .app, by simp [hpl], ?_⟩
      rw [he]; simp
  · rintro ⟨p, r⟩ S' v b ⟨rfl, hr, hpl, he⟩ hv N
    simp at hv hr hpl he
    obtain ⟨⟨hv1, hv2⟩, hv3⟩ := hv
    have hdl : s.tabs.drop s.l.length = [] := by unfold Stk.tabs; simp
    rw [hdl, rootP, List.append_nil] at he
    have := hq r.strip (fun e => by
      rw [he]
      rcases hr with ⟨_, h⟩ | ⟨⟨t, rfl⟩, _⟩
      · exact h
      · simp [Rt.strip] at e)
    rw [he] at this
    simp [hv1, hv2]
    exact this
end Go.Av
set_option linter.unusedVariables false
namespace Go.Av
theorem idsOf_get : ∀ {l : List Node} {k : Nat} {x : Node} (b : Nat), l[k]? = some x → (Node.idsOf l b)[k]? = some (b + Node.counts (l.take k))
  | [], k, x, b, h => by simp at h
  | y :: l, 0, x, b, h => by simp [Node.idsOf, Node.counts]
  | y :: l, k + 1, x, b, h => by
    simp at h
    have := idsOf_get (b + y.count) h
    simp only [Node.idsOf, List.getElem?_cons_succ, List.take_succ_cons, Node.counts, this]
    rw [Nat.add_assoc]
theorem inoAt_nat (P : List InoP) (i : Nat) : inoAt P (i : Int) = (P[i]?).getD InoP.none := by
  have : ¬ ((i : Int) < 0) := by omega
  simp [inoAt, this]
theorem tab_root (n : Node) : inoAt (n.tab 0) 0 = n.hd 0 := by
  have := inoAt_nat (n.tab 0) 0
  rw [Node.tab_eq] at this ⊢
  simpa using this
structure Less (f g : Fnd) : Prop where
  kind : f.kind = g.kind
  dirs : f.dirs.length = g.dirs.length
  sp : f.kind ≠ 0 → f.sp = (g.sp.1 + 1, g.sp.2)
theorem ofErr_all : ∀ (l : List Node) (k : Nat), (∀ n ∈ l, rightB n = true) → l.length + k ≤ 64 → ofErr l k = 0
  | [], _, _, _ => rfl
  | n :: l, k, h, hk => by
    rw [ofErr, if_neg (by rw [h n (by simp)]; simp), if_neg (by simp at hk; omega), ofErr_all l (k + 1) (fun x hx => h x (by simp [hx])) (by simp at hk; omega)]
end Go.Av
set_option linter.unusedVariables false
namespace Go.Av
def At (P : List InoP) (i : Nat) (n : Node) : Prop := ∀ j, j < n.count → P[i + j]? = (n.tab i)[j]?
theorem tabs_seg : ∀ {l : List Node} {k : Nat} {x : Node} (b : Nat), l[k]? = some x → ∀ j, j < x.count → (Node.tabs l b)[Node.counts (l.take k) + j]? = (x.tab (b + Node.counts (l.take k)))[j]?
  | [], k, x, b, h, _, _ => by simp at h
  | y :: l, 0, x, b, h, j, hj => by
    simp at h
    subst h
    rw [Node.tabs_cons]
    simp only [List.take_zero, Node.counts, Nat.zero_add, Nat.add_zero]
    rw [List.getElem?_append_left (by rw [Node.tab_len]; exact hj)]
  | y :: l, k + 1, x, b, h, j, hj => by
    simp at h
    have := tabs_seg (b + y.count) h j hj
    rw [Node.tabs_cons, List.take_succ_cons, Node.counts, List.getElem?_append_right (by rw [Node.tab_len]; omega), Node.tab_len, show y.count + Node.counts (l.take k) + j - y.count = Node.counts (l.take k) + j by omega, this, Nat.add_assoc]
theorem At.hd {P : List InoP} {i : Nat} {n : Node} (h : At P i n) : P[i]? = some (n.hd i) := by
  have := h 0 (by rw [Node.count_eq]; omega)
  rw [Node.tab_eq] at this
  simpa using this
theorem At.ino {P : List InoP} {i : Nat} {n : Node} (h : At P i n) : inoAt P (i : Nat) = n.hd i := by rw [inoAt_nat, h.hd]; rfl
theorem At.root (n : Node) : At (n.tab 0) 0 n := fun j _ => by rw [Nat.zero_add]
theorem At.kid {P : List InoP} {i : Nat} {n : Node} (h : At P i n) {k : Nat} {x : Node} (hk : n.items[k]? = some x) : At P (i + 1 + Node.counts (n.items.take k)) x := fun j hj => by
  have h1 := tabs_seg (i + 1) hk j hj
  have h2 : Node.counts (n.items.take k) + x.count ≤ Node.counts n.items := by
    have : ∀ (l : List Node) (k : Nat), l[k]? = some x → Node.counts (l.take k) + x.count ≤ Node.counts l := by
      intro l
      induction l with
      | nil => intro k h; simp at h
      | cons y l ih =>
        intro k h
        cases k with
        | zero => simp at h; subst h; simp [Node.counts]
        | succ k => simp at h; have := ih k h; simp only [List.take_succ_cons, Node.counts]; omega
    exact this _ _ hk
  have h3 := h (1 + (Node.counts (n.items.take k) + j)) (by rw [Node.count_eq]; omega)
  rw [Node.tab_eq, Nat.add_comm 1, List.getElem?_cons_succ, h1] at h3
  rw [← h3]
  congr 1
  omega
theorem allB_lens {n : Node} (h : n.allB = true) : n.names.l.length = n.items.length := by
  rw [Node.all_eq] at h
  simp only [Bool.and_eq_true] at h
  obtain ⟨hz, hk⟩ := oneB_zero h.2
  by_cases k : n.kind = 2
  · have hn : namesB n = true := by simpa [kindB, k] using hk
    exact (namesB_iff hn).2
  · have hi := zeroB_items hz k
    have hnm : n.names.l = [] := by simp [zeroB, k] at hz; exact hz.1.1.1.2
    rw [hi, hnm]; rfl
theorem At.look {P : List InoP} {i : Nat} {n : Node} (h : At P i n) (ha : n.allB = true) (s : Str) :
    match n.find s with
    | none => lookP (inoAt P (i : Nat)) s = none
    | some x => ∃ j, lookP (inoAt P (i : Nat)) s = some j ∧ At P j x := by
  rw [h.ino]
  unfold Node.find lookP
  have hl := allB_lens ha
  simp only [Node.hd]
  cases hk : n.names.l.findIdx? (fun x => decide (x = s)) with
  | none => rfl
  | some k =>
    have hlt := (List.findIdx?_eq_some_iff_getElem.1 hk).1
    have hx : n.items[k]? = some n.items[k] := List.getElem?_eq_getElem (by omega)
    simp only [Option.bind_some, hx]
    exact ⟨_, idsOf_get _ hx, h.kid hx⟩
def Stands (L : List (List InoP)) (x : Spot) (n : Node) : Prop := ∃ P, L[x.1]? = some P ∧ At P x.2 n
def OnP (L : List (List InoP)) : List Spot → List Node → Prop
  | [], [] => True
  | x :: p, n :: l => Stands L x n ∧ OnP L p l
  | _, _ => False
def dirsN : List Node → List Node
  | [] => []
  | n :: l => n :: if n.opq = true then [] else dirsN l
def entriesN (dirs : List Node) (s : Str) : List Node := dirs.filterMap (·.find s)
def seenN (dirs : List Node) (s : Str) : List Node :=
  match entriesN dirs s with
  | [] => []
  | x :: l => if x.kind = 4 then [] else if x.kind ≠ 2 then [x] else dirsN ((x :: l).takeWhile fun n => decide (n.kind = 2))
end Go.Av
set_option linter.unusedVariables false
namespace Go.Av
structure Ent where
  name : Str
  kind : Int
  deriving DecidableEq
@[simp] def Ent.c (x : Ent) : List AV := [.str x.name, .int .i64 x.kind]
def entOf (dirs : List Node) (s : Str) : Option Ent := match seenN dirs s with | [] => none | x :: _ => some ⟨s, x.kind⟩
def listN (dirs : List Node) : List Ent := (namesOf (dirs.map (·.names))).filterMap (entOf dirs)
theorem find_none_iff {n : Node} (h : n.names.l.length = n.items.length) (s : Str) : n.find s = none ↔ s ∉ n.names.l := by
  unfold Node.find
  cases hk : n.names.l.findIdx? (fun x => decide (x = s)) with
  | none =>
    simp only [Option.bind_none, true_iff]
    intro hs
    have := List.findIdx?_eq_none_iff.1 hk s hs
    simp at this
  | some k =>
    obtain ⟨hlt, h2, _⟩ := List.findIdx?_eq_some_iff_getElem.1 hk
    have hx : n.items[k]? = some n.items[k] := List.getElem?_eq_getElem (by omega)
    simp only [Option.bind_some, hx, false_iff, Decidable.not_not, reduceCtorEq]
    have : n.names.l[k] = s := by simpa using h2
    rw [← this]
    exact List.getElem_mem _
theorem entries_head : ∀ {dirs : List Node} {s : Str} {k : Nat} {n y : Node}, dirs[k]? = some n → n.find s = some y → (∀ (j : Nat) (m : Node), j < k → dirs[j]? = some m → m.find s = none) → ∃ r, entriesN dirs s = y :: r
  | [], _, _, _, _, h, _, _ => by simp at h
  | d :: dirs, s, 0, n, y, h, hy, _ => by
    simp at h
    subst h
    exact ⟨entriesN dirs s, by simp only [entriesN, List.filterMap_cons, hy]⟩
  | d :: dirs, s, k + 1, n, y, h, hy, hno => by
    simp at h
    obtain ⟨r, hr⟩ := entries_head h hy fun j m hj hm => hno (j + 1) m (by omega) (by simpa using hm)
    have h0 := hno 0 d (by omega) rfl
    exact ⟨r, by rw [← hr]; simp only [entriesN, List.filterMap_cons, h0]⟩
theorem entOf_head {dirs : List Node} {s : Str} {y : Node} {r : List Node} (h : entriesN dirs s = y :: r) : entOf dirs s = if y.kind = 4 then none else some ⟨s, y.kind⟩ := by
  unfold entOf seenN
  rw [h]
  simp only
  by_cases k4 : y.kind = 4
  · rw [if_pos k4, if_pos k4]
  · rw [if_neg k4, if_neg k4]
    by_cases k2 : y.kind = 2
    · rw [if_neg (by simp [k2]), List.takeWhile_cons_of_pos (by simp [k2]), dirsN]
    · rw [if_pos k2]
def insertN : List Str → Str → List Str
  | [], s => [s]
  | x :: l, s => if x = s then x :: l else if slt s x = true then s :: x :: l else x :: insertN l s
theorem insertN_mem : ∀ (l : List Str) (s t : Str), t ∈ insertN l s ↔ t = s ∨ t ∈ l
  | [], s, t => by simp [insertN]
  | x :: l, s, t => by
    rw [insertN]
    split
    · rename_i h; subst h; simp
    · split
      · simp
      · rw [List.mem_cons, insertN_mem l s t, List.mem_cons]
        constructor
        · rintro (h | h | h)
          · exact .inr (.inl h)
          · exact .inl h
          · exact .inr (.inr h)
        · rintro (h | h | h)
          · exact .inr (.inl h)
          · exact .inl h
          · exact .inr (.inr h)
theorem mergeS_cap : ∀ (f : Nat) (rs : List Ss), (mergeS f rs).length ≤ f
  | 0, rs => by simp [mergeS]
  | f + 1, rs => by
    rw [mergeS]
    cases bestG 0 none rs with
    | none => simp
    | some p => have := mergeS_cap f (tailS rs p.1); simp; omega
theorem allB_sorted {n : Node} (h : n.allB = true) : Sorted n.names.l := by
  rw [Node.all_eq] at h
  simp only [Bool.and_eq_true] at h
  obtain ⟨hz, hk⟩ := oneB_zero h.2
  by_cases k : n.kind = 2
  · have hn : namesB n = true := by simpa [kindB, k] using hk
    exact (chain_pw _ _ (namesB_iff hn).1).1
  · have hnm : n.names.l = [] := by simp [zeroB, k] at hz; exact hz.1.1.1.2
    rw [hnm]
    exact .nil
theorem rows_get {dirs : List Node} {rows : List Ss} (hl : rows.map (·.l) = dirs.map (fun n => n.names.l)) {k : Nat} {x : Ss} (hx : rows[k]? = some x) : ∃ n, dirs[k]? = some n ∧ x.l = n.names.l := by
  have := congrArg (fun y => y[k]?) hl
  simp only [List.getElem?_map, hx, Option.map_some] at this
  cases hn : dirs[k]? with
  | none => rw [hn] at this; cases this
  | some n => rw [hn] at this; exact ⟨n, rfl, Option.some.inj this⟩
theorem rows_get' {dirs : List Node} {rows : List Ss} (hl : rows.map (·.l) = dirs.map (fun n => n.names.l)) {k : Nat} {n : Node} (hn : dirs[k]? = some n) : ∃ x, rows[k]? = some x ∧ x.l = n.names.l := by
  have := congrArg (fun y => y[k]?) hl
  simp only [List.getElem?_map, hn, Option.map_some] at this
  cases hx : rows[k]? with
  | none => rw [hx] at this; cases this
  | some x => rw [hx] at this; exact ⟨x, rfl, Option.some.inj this⟩
theorem rows_sorted {dirs : List Node} {rows : List Ss} (hl : rows.map (·.l) = dirs.map (fun n => n.names.l)) (ha : ∀ n ∈ dirs, n.allB = true) : ∀ x ∈ rows, Sorted x.l := fun x hx => by
  obtain ⟨k, hk⟩ := List.getElem?_of_mem hx
  obtain ⟨n, h1, h2⟩ := rows_get hl hk
  rw [h2]
  exact allB_sorted (ha n (List.mem_of_getElem? h1))
theorem namesOf_rows {dirs : List Node} {rows : List Ss} (hl : rows.map (·.l) = dirs.map (fun n => n.names.l)) (ha : ∀ n ∈ dirs, n.allB = true) : namesOf rows = namesOf (dirs.map (·.names)) := by
  obtain ⟨h1, h2⟩ := namesOf_spec (rows_sorted hl ha)
  obtain ⟨h3, h4⟩ := namesOf_spec (rs := dirs.map (·.names)) (fun x hx => by obtain ⟨n, hn, rfl⟩ := List.mem_map.1 hx; exact allB_sorted (ha n hn))
  refine sorted_unique h1 h3 fun s => ?_
  rw [h2, h4]
  constructor
  · rintro ⟨x, hx, hs⟩
    obtain ⟨k, hk⟩ := List.getElem?_of_mem hx
    obtain ⟨n, h5, h6⟩ := rows_get hl hk
    exact ⟨n.names, List.mem_map.2 ⟨n, List.mem_of_getElem? h5, rfl⟩, by rw [← h6]; exact hs⟩
  · rintro ⟨x, hx, hs⟩
    obtain ⟨n, hn, rfl⟩ := List.mem_map.1 hx
    obtain ⟨k, hk⟩ := List.getElem?_of_mem hn
    obtain ⟨x, h5, h6⟩ := rows_get' hl hk
    exact ⟨x, List.mem_of_getElem? h5, by rw [h6]; exact hs⟩
theorem first_item {dirs : List Node} {rows : List Ss} (hl : rows.map (·.l) = dirs.map (fun n => n.names.l)) (ha : ∀ n ∈ dirs, n.allB = true) {it : Item} (hit : it ∈ firstL none (mergeS (totS rows) rows)) :
    ∃ (k : Nat) (n y : Node), it.row = k ∧ dirs[k]? = some n ∧ n.find it.name = some y ∧ entOf dirs it.name = if y.kind = 4 then none else some ⟨it.name, y.kind⟩ := by
  obtain ⟨h1, h2⟩ := mergeS_spec (totS rows) rows (rows_sorted hl ha) (Nat.le_refl _)
  obtain ⟨h3, h4, h5⟩ := firstL_spec _ none h2 (fun _ e => by cases e)
  obtain ⟨h6, h7, h8⟩ := h4 it hit
  obtain ⟨k, x, h9, h10, h11⟩ := (h1 it).1 h6
  obtain ⟨n, h12, h13⟩ := rows_get hl h9
  have hnm := List.mem_of_getElem? h12
  have hlen := allB_lens (ha n hnm)
  cases hy : n.find it.name with
  | none => exact absurd (h13 ▸ h11) ((find_none_iff hlen it.name).1 hy)
  | some y =>
    obtain ⟨r, hr⟩ := entries_head h12 hy fun j m hj hm => by
      refine (find_none_iff (allB_lens (ha m (List.mem_of_getElem? hm))) it.name).2 fun hmem => ?_
      obtain ⟨x', h14, h15⟩ := rows_get' hl hm
      have := h8 ⟨it.name, j⟩ ((h1 ⟨it.name, j⟩).2 ⟨j, x', h14, rfl, by rw [h15]; exact hmem⟩) rfl
      rw [h10] at this
      simp at this
      omega
    exact ⟨k, n, y, h10, h12, hy, entOf_head hr⟩
end Go.Av
