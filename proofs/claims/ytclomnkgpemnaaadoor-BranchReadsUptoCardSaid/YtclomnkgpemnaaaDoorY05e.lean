/- Parts of the proofs of this seat: abstract values over the model, and what the functions of the program do. No condition. -/
import Derived.Test.YtclomnkgpemnaaaDoorY05d
import Derived.Test.YtclomnkgpemnaaaDoorX04L
import Derived.Test.YtclomnkgpemnaaaDoorX05e
import Derived.Test.YtclomnkgpemnaaaDoorXBld
set_option linter.all false
set_option linter.unusedVariables false
namespace Go.Av
theorem magic_len : magicS.length = 7 := rfl
theorem take_magic (t : Str) : (magicS ++ t).take 7 = magicS ∧ (magicS ++ t).drop 7 = t := ⟨by rw [List.take_append_of_le_length (by rw [magic_len]; omega)]; rfl, by rw [List.drop_append_of_le_length (by rw [magic_len]; omega)]; rfl⟩
theorem same_sound {a b : Node} (h : a.sameB b = true) : a.kind = b.kind ∧ a.names.l = b.names.l := by
  rw [Node.same_eq] at h
  simp only [Bool.and_eq_true, decide_eq_true_eq] at h
  exact ⟨h.1, h.2.2.2.2.1⟩
theorem same_zero {a b : Node} (h : a.sameB b = true) : oneB a = oneB b := by
  rw [Node.same_eq] at h
  simp only [Bool.and_eq_true, decide_eq_true_eq] at h
  obtain ⟨h1, h2, h3, h4, h5, h6, h7⟩ := h
  have h8 : a.items.length = b.items.length := samesB_len h7
  simp only [oneB, zeroB, kindB, namesB, h1, h2, h3, h4, h5, h6, h8]
theorem same_all (a : Node) : ∀ b : Node, a.sameB b = true → a.allB = b.allB ∧ a.count = b.count ∧ a.depth = b.depth := by
  induction a using Node.ind with
  | h a ih =>
    intro b h
    have h0 := same_zero h
    rw [Node.same_eq] at h
    simp only [Bool.and_eq_true, decide_eq_true_eq] at h
    have h7 := h.2.2.2.2.2.2
    rw [Node.all_eq, Node.all_eq, Node.count_eq, Node.count_eq, Node.depth_eq, Node.depth_eq, h0]
    have : ∀ (l m : List Node), (∀ x ∈ l, x ∈ a.items) → Node.samesB l m = true → Node.allsB l = Node.allsB m ∧ Node.counts l = Node.counts m ∧ Node.depths l = Node.depths m := by
      intro l
      induction l with
      | nil =>
        intro m _ hm
        cases m with
        | nil => exact ⟨rfl, rfl, rfl⟩
        | cons y m => simp at hm
      | cons x l ihl =>
        intro m hmem hm
        cases m with
        | nil => simp at hm
        | cons y m =>
          rw [Node.sames_cons] at hm
          simp only [Bool.and_eq_true] at hm
          obtain ⟨p1, p2, p3⟩ := ih x (hmem x (by simp)) y hm.1
          obtain ⟨q1, q2, q3⟩ := ihl m (fun z hz => hmem z (by simp [hz])) hm.2
          rw [Node.allsB, Node.allsB, Node.counts, Node.counts, Node.depths, Node.depths, p1, p2, p3, q1, q2, q3]
          exact ⟨rfl, rfl, rfl⟩
    obtain ⟨q1, q2, q3⟩ := this a.items b.items (fun _ h => h) h7
    rw [q1, q2, q3]
    exact ⟨rfl, rfl, rfl⟩
theorem same_right {a b : Node} (h : a.sameB b = true) : rightB a = rightB b := by
  obtain ⟨h1, h2, h3⟩ := same_all a b h
  rw [rightB, rightB, (same_sound h).1, h1, h2, h3]
theorem decS_enc {n : Node} (hok : n.ok) (hr : rightB n = true) (hl : 7 + n.enc.length ≤ 4194304) : ∃ n', decS (magicS ++ n.enc) = some n' ∧ n'.sameB n = true := by
  obtain ⟨r1, r2, r3, r4⟩ := rightB_all hr
  obtain ⟨n', e1, e2⟩ := RS.node_enc n 16 [] 4096 hok r2 r3 (by omega) (by omega)
  obtain ⟨t1, t2⟩ := take_magic n.enc
  refine ⟨n', ?_, e2⟩
  rw [List.append_nil] at e1
  unfold decS
  rw [if_neg (by rw [t1, List.length_append, magic_len]; simp [magicS]; omega), t2, e1]
  simp only
  rw [if_pos (by simp [same_right e2, hr])]
theorem decS_more {n : Node} {more : Str} (hok : n.ok) (hr : rightB n = true) (hm : more ≠ []) : decS (magicS ++ n.enc ++ more) = none := by
  obtain ⟨r1, r2, r3, r4⟩ := rightB_all hr
  obtain ⟨n', e1, e2⟩ := RS.node_enc n 16 more 4096 hok r2 r3 (by omega) (by omega)
  rw [List.append_assoc]
  obtain ⟨t1, t2⟩ := take_magic (n.enc ++ more)
  unfold decS
  split
  · rfl
  · rw [t2, e1]
    simp only
    rw [if_neg (by rintro ⟨_, h, _⟩; exact hm h)]
end Go.Av
set_option linter.unusedVariables false
namespace Go.Av
open Go.Proofs
theorem right_weight {n : Node} (h : n.small = true) : n.weight ≤ 400 ∧ n.depth ≤ 30 ∧ n.count ≤ 400 := by
  obtain ⟨h1, h2⟩ := Node.small_spec h
  have := n.count_weight
  omega
theorem imgOf_small {n : Node} (h : n.small = true) (hr : rightB n = true) : 7 + n.enc.length ≤ 50000 ∧ imgOf n = some (magicS ++ n.enc) := by
  obtain ⟨h1, h2, h3⟩ := right_weight h
  have := enc_len n (rightB_all hr).2.1
  refine ⟨by omega, ?_⟩
  rw [imgOf, if_pos ⟨hr, by omega⟩]
theorem TyV.u16 {t : TypeId} {x : AV} (h : TV t x) (hu : Tryd.prog.underlying t = some (.int .u16)) : ∃ n : Nat, x = .int .u16 n ∧ n < 65536 := by
  obtain ⟨n, e, hw⟩ := (h.one (by simp [isAgg, hu])).int_inv hu
  simp [Lit.wf, IntKind.min, IntKind.max, IntKind.signed, IntKind.bits] at hw
  refine ⟨n.toNat, ?_, by omega⟩
  have : ((n.toNat : Nat) : Int) = n := by omega
  rw [this]
  simpa using e
end Go.Av
set_option linter.unusedVariables false
namespace Go.Av
open Go.Proofs
@[simp] theorem binE_ptr_nn : binE .ptr .eql .nil .nil = some (.bool true) := rfl
@[simp] theorem binE_ptr_pn (i o : Nat) : binE .ptr .eql (.ptr i o) .nil = some (.bool false) := rfl
@[simp] theorem binE_ptr_nn' : binE .ptr .neq .nil .nil = some (.bool false) := rfl
@[simp] theorem binE_ptr_pn' (i o : Nat) : binE .ptr .neq (.ptr i o) .nil = some (.bool true) := rfl
@[simp] theorem Node.cg0 (n : Node) (h : 0 < n.c.length) : n.c[0] = .int .i64 n.kind := by have := n.c_eq; simp only [this]; rfl
@[simp] theorem Node.cg1 (n : Node) (h : 1 < n.c.length) : n.c[1] = .bool n.opq := by have := n.c_eq; simp only [this]; rfl
@[simp] theorem Node.cg2 (n : Node) (h : 2 < n.c.length) : n.c[2] = n.names.v := by have := n.c_eq'; simp only [this]; rfl
@[simp] theorem Node.cg3 (n : Node) (h : 3 < n.c.length) : n.c[3] = .vs 7 (n.items.map Node.c) n.ir.strip := by have := n.c_eq'; simp only [this]; rfl
@[simp] theorem Node.cg4 (n : Node) (h : 4 < n.c.length) : n.c[4] = .int .i64 n.size := by have := n.c_eq; simp only [this]; rfl
@[simp] theorem Node.cg5 (n : Node) (h : 5 < n.c.length) : n.c[5] = .vs 2 (n.exts.map Ext.c) n.er.strip := by have := n.c_eq'; simp only [this]; rfl
@[simp] theorem Node.cg6 (n : Node) (h : 6 < n.c.length) : n.c[6] = .str n.target := by have := n.c_eq; simp only [this]; rfl
theorem Clone_str_A2 {w0 : World} {S : St} {l : List Str} {r : Rt} (hl : l.length ≤ 100000000) {Q : AV → St → Prop} (hq : ∀ r', okR r' l → Q (.vs 1 (l.map wStr) r') S) : AC w0 F_slices_Clone_s_string_string [.vs 1 (l.map wStr) r] S Q := by
  refine ⟨⟨_, fn_slices_Clone_s_string_string, by kernel_rfl, by kernel_rfl⟩, fun G w hrel hrole args' hlen ha => ?_⟩
  have hr : okR r l := by
    intro e
    have h0 : 0 < args'.size := by rw [hlen]; simp
    obtain ⟨v, hv⟩ : ∃ v, args'[0]? = some v := ⟨_, Array.getElem?_eq_getElem h0⟩
    obtain ⟨h1, h2, h3⟩ := ha 0 _ v rfl hv
    have hr2 : r.strip = r := by simpa [AV.strip, AV.strip2, AV.strip1] using h3
    rw [hr2] at e
    subst e
    generalize he : l.map wStr = es at h1
    have hes : es = [] := by
      cases h1 with
      | vsnil => rfl
      | vs _ _ _ _ _ _ _ hr => exact (hr rfl).elim
      | vse _ _ _ hr => rfl
    rw [hes] at he
    exact List.map_eq_nil_iff.1 he
  exact (Clone_str_A (w0 := w0) hr hl hq).2 G w hrel hrole args' hlen ha
theorem branch_Names_A {w0 : World} {S : St} {id : Nat} {P : List InoP} {i : Int} (hB : Br S id P) (hl : (inoAt P i).names.length ≤ 100000000) {Q : AV → St → Prop} (hq : ∀ r, okR r (inoAt P i).names → Q (.vs 1 ((inoAt P i).names.map wStr) r) S) : AC w0 F_branch_Branch_Names [.ptr id 0, .int .i64 i] S Q := by
  apply branch_Branch_Names_ok
  unfold G_branch_Branch_Names
  refine branch_at_A hB (fun _ _ _ => ?_)
  simp [Ino.c]
  exact Clone_str_A2 hl hq
theorem branch_Size_A {w0 : World} {S : St} {id : Nat} {P : List InoP} {i : Int} (hB : Br S id P) {Q : AV → St → Prop} (hq : Q (.int .i64 (inoAt P i).size) S) : AC w0 F_branch_Branch_Size [.ptr id 0, .int .i64 i] S Q := by
  apply branch_Branch_Size_ok
  unfold G_branch_Branch_Size
  refine branch_at_A hB (fun _ _ _ => ?_)
  simp [Ino.c]
  exact hq
theorem branch_Target_A {w0 : World} {S : St} {id : Nat} {P : List InoP} {i : Int} (hB : Br S id P) {Q : AV → St → Prop} (hq : Q (.str (inoAt P i).target) S) : AC w0 F_branch_Branch_Target [.ptr id 0, .int .i64 i] S Q := by
  apply branch_Branch_Target_ok
  unfold G_branch_Branch_Target
  refine branch_at_A hB (fun _ _ _ => ?_)
  simp [Ino.c]
  exact hq
end Go.Av
set_option linter.unusedVariables false
namespace Go.Av
open Go.Proofs
theorem OnP.len {L : List (List InoP)} : ∀ {p : List Spot} {l : List Node}, OnP L p l → p.length = l.length
  | [], [], _ => rfl
  | _ :: p, _ :: l, h => by simp [OnP.len h.2]
  | [], _ :: _, h => h.elim
  | _ :: _, [], h => h.elim
theorem OnP.get {L : List (List InoP)} : ∀ {p : List Spot} {l : List Node} {k : Nat} {x : Spot}, OnP L p l → p[k]? = some x → ∃ n, l[k]? = some n ∧ Stands L x n
  | [], [], k, x, _, h => by simp at h
  | y :: p, m :: l, 0, x, h, hx => by simp at hx; subst hx; exact ⟨m, rfl, h.1⟩
  | y :: p, m :: l, k + 1, x, h, hx => by simp at hx; obtain ⟨n, h1, h2⟩ := OnP.get h.2 hx; exact ⟨n, by simpa using h1, h2⟩
  | [], _ :: _, _, _, h, _ => h.elim
  | _ :: _, [], _, _, h, _ => h.elim
theorem Stands.at_ {s : Stk} {x : Spot} {n : Node} (h : Stands s.tabs x n) : ∃ m, s.at_ (x.1 : Int) = some m ∧ m ∈ s.l ∧ inoAt m.tab (x.2 : Int) = n.hd x.2 ∧ x.1 < s.l.length := by
  obtain ⟨P, h1, h2⟩ := h
  unfold Stk.tabs at h1
  rw [List.getElem?_map, Option.map_eq_some_iff] at h1
  obtain ⟨m, h3, rfl⟩ := h1
  exact ⟨m, (Stk.at_some h3).1, List.mem_of_getElem? h3, h2.ino, (List.getElem?_eq_some_iff.1 h3).1⟩
end Go.Av
set_option linter.unusedVariables false
namespace Go.Av
open Go.Proofs
def fitP (x : InoP) : Prop := 0 ≤ x.size ∧ x.size ≤ 1048576 ∧ (∀ e ∈ x.exts, 0 ≤ e.off ∧ e.off + e.data.length ≤ 1048576) ∧ x.exts.length ≤ 1000000000
theorem fitP_none : fitP InoP.none := ⟨by simp [InoP.none], by simp [InoP.none], by simp [InoP.none], by simp [InoP.none]⟩
theorem allB_fit {n : Node} (hok : n.ok) (h : n.allB = true) (b : Nat) : fitP (n.hd b) := by
  have hx : n.exts.length ≤ 1000000000 := by
    have := ((Node.ok_iff n).1 hok).2.2.2.2.2.1.2.1
    omega
  rw [Node.all_eq] at h
  simp only [Bool.and_eq_true] at h
  obtain ⟨hz, hk⟩ := oneB_zero h.2
  by_cases k : n.kind = 1
  · have he : extOk n.size n.exts = true := by simpa [kindB, k] using hk
    obtain ⟨h1, h2, h3⟩ := extOk_in he
    exact ⟨h1, h2, h3, hx⟩
  · simp [zeroB, k] at hz
    have h1 : n.size = 0 := hz.1.2.1
    have h2 : n.exts = [] := hz.1.2.2
    exact ⟨by simp [Node.hd, h1], by simp [Node.hd, h1], by simp [Node.hd, h2], by simp [Node.hd, h2]⟩
theorem branch_Read_A {w0 : World} {S : St} {id : Nat} {P : List InoP} {i off n : Int} (hB : Br S id P) (hf : fitP (inoAt P i)) {Q : AV → St → Prop} (hq : ∀ S', Sx S S' → Q (.str (readP (inoAt P i).size (inoAt P i).exts off n)) S') :
    AC w0 F_branch_Branch_Read [.ptr id 0, .int .i64 i, .int .i64 off, .int .i64 n] S Q := by
  apply branch_Branch_Read_ok
  unfold G_branch_Branch_Read
  refine branch_at_A hB (fun _ _ _ => ?_)
  simp [Ino.c]
  obtain ⟨f1, f2, f3, f4⟩ := hf
  exact extent_Read_A f3 (by omega) ⟨f1, f2⟩ hq
set_option maxRecDepth 100000 in
theorem ref06_All_A {w0 : World} (n : Node) : ∀ {S : St} {Q : AV → St → Prop}, n.ok → n.count ≤ 1000000 → (∀ r, r ≠ .nil → Q (.vs 7 (n.pre.map Node.c) r) S) → AC w0 F_ref06_All [.agg n.c] S Q := by
  induction n using Node.ind with
  | h n ih =>
    intro S Q hok hn hq
    have hcc := n.c_eq'
    rw [hcc]
    apply ref06_All_ok
    unfold G_ref06_All
    simp [← hcc]
    rw [joinK_eq]
    have hit : ∀ (l : List Node) (k : Nat), (Node.pres (l.take k)).length ≤ (Node.pres l).length := by
      intro l
      induction l with
      | nil => intro k; simp
      | cons x l ihl =>
        intro k
        cases k with
        | zero => simp [Node.pres_nil]
        | succ k => rw [List.take_succ_cons, Node.pres_cons, Node.pres_cons, List.length_append, List.length_append]; have := ihl k; omega
    have hpl : (Node.pres n.items).length + 1 = n.count := by rw [← Node.pre_len, Node.pre_eq]; simp
    have hok' := (Node.ok_iff n).1 hok
    refine loop_list n.items (fun i (r : Rt) => ([.vs 7 ((n :: Node.pres (n.items.take i)).map Node.c) r, .int .i64 i], [some n.c])) (fun i r S' => S' = S ∧ (r = .full ∨ ∃ t, r = .own t)) .full (by simp [Node.pres_nil]) ⟨rfl, .inl rfl⟩ ?_ ?_
    · rintro i r S' v b x c hxi hd hc hmem ⟨rfl, hr⟩ hv
      simp at hv
      obtain ⟨⟨hv1, hv2⟩, hv3⟩ := hv
      have hxc := (counts_mem (l := n.items)).2 x hmem
      rw [Node.count_eq] at hn
      simp [hv1, hv2, hv3, hc, hxi]
      refine ih x hmem (hok'.2.2.2.1 x hmem) (by omega) (fun r2 hr2 => ?_)
      have hrn : r ≠ .none := by rcases hr with rfl | ⟨t, rfl⟩ <;> simp
      have hxn : x.pre ≠ [] := by rw [Node.pre_eq]; simp
      have htk : Node.pres (n.items.take (i + 1)) = Node.pres (n.items.take i) ++ x.pre := by
        have : n.items.take (i + 1) = n.items.take i ++ [x] := by rw [List.take_succ, hxi]; rfl
        rw [this]
        have happ : ∀ (a b : List Node), Node.pres (a ++ b) = Node.pres a ++ Node.pres b := by
          intro a
          induction a with
          | nil => intro b; simp [Node.pres_nil]
          | cons y a iha => intro b; rw [List.cons_append, Node.pres_cons, iha, Node.pres_cons, List.append_assoc]
        rw [happ, Node.pres_cons, Node.pres_nil, List.append_nil]
      have h1 := hit n.items (i + 1)
      rw [htk, List.length_append] at h1
      have hcount : n.count = 1 + Node.counts n.items := Node.count_eq n
      have hap : ∀ S2 : St, appendA T_api_Node S2 (.vs 7 (n.c :: (Node.pres (n.items.take i)).map Node.c) r) (.vs 7 (x.pre.map Node.c) r2) = some (.vs 7 ((n :: Node.pres (n.items.take (i + 1))).map Node.c) (.own (rowTy T_api_Node r))) := fun S2 => by
        simp [appendA, elemsA, hrn, hxn, htk, show (Node.pres (n.items.take i)).length + 1 + x.pre.length ≤ lim by unfold lim; omega]
      simp [hap]
      try simp (disch := omega) only [wrap64]
      exact .next c (.own (rowTy T_api_Node r)) (by simp) ⟨rfl, .inr ⟨_, rfl⟩⟩
    · rintro r S' v b ⟨rfl, hr⟩ hv N
      simp at hv
      obtain ⟨⟨hv1, hv2⟩, hv3⟩ := hv
      simp [hv1, hv2, hv3]
      have := hq r.strip (by rcases hr with rfl | ⟨t, rfl⟩ <;> simp [Rt.strip])
      rw [Node.pre_eq] at this
      simpa using this
set_option maxRecDepth 100000 in
theorem ref06_Entry_A {w0 : World} {S : St} {all : List Node} {r : Rt} {at_ k : Nat} {n : Node} (hat : all[at_]? = some n) (hok : n.ok) (hc : n.count ≤ 1000000) (hk : k ≤ n.items.length) (ha : at_ ≤ 1000000) {Q : AV → St → Prop}
    (hq : Q (.int .i64 ((at_ + 1 + Node.counts (n.items.take k) : Nat) : Int)) S) : AC w0 F_ref06_Entry [.vs 7 (all.map Node.c) r, .int .i64 at_, .int .i64 k] S Q := by
  apply ref06_Entry_ok
  unfold G_ref06_Entry
  rw [joinK_eq]
  have e1 : IntKind.i64.wrap ((at_ : Int) + 1) = (at_ : Int) + 1 := wrap64 (by omega) (by omega)
  have hok' := (Node.ok_iff n).1 hok
  have hlen : (n.items.take k).length = k := by rw [List.length_take]; omega
  have hmn : min k n.items.length = k := by omega
  have hcs : ∀ (l : List Node) (j : Nat), Node.counts (l.take j) ≤ Node.counts l := by
    intro l
    induction l with
    | nil => intro j; simp
    | cons x l ih =>
      intro j
      cases j with
      | zero => simp [Node.counts]
      | succ j => simp only [List.take_succ_cons, Node.counts]; have := ih j; omega
  have hcount : n.count = 1 + Node.counts n.items := Node.count_eq n
  simp [e1]
  refine loop_list (n.items.take k) (fun i (_ : Unit) => ([.int .i64 ((at_ + 1 + Node.counts (n.items.take i) : Nat) : Int), .int .i64 i], [])) (fun i _ S' => S' = S) () (by simp [Node.counts]) rfl ?_ ?_
  · rintro i _ S' v b x c hxi hd hcc hmem rfl hv
    simp at hv
    obtain ⟨hv1, hv2⟩ := hv
    have hik : i < k := by rw [hlen] at c; exact c
    have hx : n.items[i]? = some x := by rw [List.getElem?_take, if_pos hik] at hxi; exact hxi
    have hxm := List.mem_of_getElem? hx
    have hxc := (counts_mem (l := n.items)).2 x hxm
    have htk := Node.counts_take hx
    have hb1 := hcs n.items (i + 1)
    simp [hv1, hv2, hik, hat, hx, hmn]
    refine ref06_All_A x (hok'.2.2.2.1 x hxm) (by omega) (fun r2 _ => ?_)
    simp [Node.pre_len]
    try simp (disch := omega) only [wrap64]
    refine .next (by omega) () ?_ rfl
    rw [htk]
    simp
    omega
  · rintro _ S' v b rfl hv N
    simp at hv
    obtain ⟨hv1, hv2⟩ := hv
    simp [hv1, hv2, hmn]
    simpa using hq
end Go.Av
set_option linter.unusedVariables false
namespace Go.Av
open Go.Proofs
set_option maxRecDepth 100000 in
theorem law06_speaks_A {w0 : World} (hm : MaxL w0) {S : St} {Q : AV → St → Prop} (hq : ∀ S', Sx S S' → Q (.bool true) S') : AC w0 F_law06_speaks [] S Q := by
  apply law06_speaks_ok
  unfold G_law06_speaks
  refine tree_White_A ?_
  simp
  refine tree_Dir_A (l := [[99]]) (items := [whiteN]) okR_full okR_full (by simp) (by simp) (fun q1 q2 k1 k2 => ?_)
  refine tree_Text_A (by simp) (fun r1 hr1 => ?_)
  have hx := textN_ok (s := [120, 121, 122]) (by simp) hr1
  have hok0 := dirN_ok (o := false) (l := [[99]]) (items := [whiteN]) (by simp) (by simp [white_ok]) k1 k2
  have a1 : oneB (textN [120, 121, 122] r1) = true := textN_right (by simp)
  have a2 : (textN [120, 121, 122] r1).allB = true := by rw [Node.all_eq, a1]; rfl
  have a3 : (dirN false [[99]] q1 [whiteN] q2).allB = true := by rfl
  have a4 : (dirN false [[99]] q1 [whiteN] q2).tab 1 = [⟨2, false, [[99]], 0, [], [], [2]⟩, ⟨4, false, [], 0, [], [], []⟩] := by rfl
  have a5 : (dirN false [[99]] q1 [whiteN] q2).count = 2 ∧ (dirN false [[99]] q1 [whiteN] q2).depth = 1 := ⟨by rfl, by rfl⟩
  simp
  refine tree_Dir_A (l := [[97], [98]]) (items := [dirN false [[99]] q1 [whiteN] q2, textN [120, 121, 122] r1]) okR_full okR_full (by simp) (by simp) (fun q3 q4 k3 k4 => ?_)
  have hok1 := dirN_ok (o := false) (l := [[97], [98]]) (items := [dirN false [[99]] q1 [whiteN] q2, textN [120, 121, 122] r1]) (by simp) (by simp [hx, hok0]) k3 k4
  have hr : rightB (dirN false [[97], [98]] q3 [dirN false [[99]] q1 [whiteN] q2, textN [120, 121, 122] r1] q4) = true := by
    have b3 : oneB (dirN false [[97], [98]] q3 [dirN false [[99]] q1 [whiteN] q2, textN [120, 121, 122] r1] q4) = true := by rfl
    have b4 : (dirN false [[97], [98]] q3 [dirN false [[99]] q1 [whiteN] q2, textN [120, 121, 122] r1] q4).allB = true := by
      rw [Node.all_eq, b3]
      show (Node.allsB [_, _] && true) = true
      rw [Node.allsB, a3, Node.allsB, a2]
      rfl
    rw [rightB, b4]
    rfl
  have e1 : (dirN false [[97], [98]] q3 [dirN false [[99]] q1 [whiteN] q2, textN [120, 121, 122] r1] q4).tab 0 = [⟨2, false, [[97], [98]], 0, [], [], [1, 3]⟩, ⟨2, false, [[99]], 0, [], [], [2]⟩, ⟨4, false, [], 0, [], [], []⟩, (textN [120, 121, 122] r1).hd 3] := by rfl
  generalize dirN false [[97], [98]] q3 [dirN false [[99]] q1 [whiteN] q2, textN [120, 121, 122] r1] q4 = d1 at hok1 hr e1 ⊢
  simp
  refine branch_New_A hm hok1 (fun _ S3 id hS3 hid hB => ?_) (fun hno => by rw [hr] at hno; cases hno)
  simp [joinK_eq]
  refine branch_Look_A hB (right_good hok1 hr 0) ?_
  have hl : lookP (inoAt (d1.tab 0) 0) [98] = some 3 := by rw [e1]; rfl
  rw [hl]
  simp
  refine branch_Count_A hB ?_
  rw [e1]
  simp
  refine branch_Kind_A hB ?_
  rw [e1, show (inoAt [⟨2, false, [[97], [98]], 0, [], [], [1, 3]⟩, ⟨2, false, [[99]], 0, [], [], [2]⟩, ⟨4, false, [], 0, [], [], []⟩, (textN [120, 121, 122] r1).hd 3] 2).kind = 4 by rfl]
  simp
  have h3 : inoAt (d1.tab 0) 3 = (textN [120, 121, 122] r1).hd 3 := by rw [e1]; rfl
  refine branch_Size_A hB ?_
  rw [h3, show ((textN [120, 121, 122] r1).hd 3).size = 3 by rfl]
  simp
  refine branch_Read_A hB (by rw [h3]; exact allB_fit hx a2 3) (fun S4 hS4 => ?_)
  have he : ofE 0 [120, 121, 122] = [⟨0, [120, 121, 122]⟩] := by simp [ofE]
  have hrd : readP ((textN [120, 121, 122] r1).hd 3).size ((textN [120, 121, 122] r1).hd 3).exts 1 9 = [121, 122] := by
    show readP 3 (ofE 0 [120, 121, 122]) 1 9 = [121, 122]
    rw [he]
    decide
  rw [h3, hrd]
  simp
  exact hq _ (hS3.trans hS4)
theorem inoAt_out {P : List InoP} {i : Int} (h : ¬ (0 ≤ i ∧ i < P.length)) : inoAt P i = InoP.none := by
  unfold inoAt
  split
  · rfl
  · rw [List.getElem?_eq_none (by omega)]; rfl
set_option maxRecDepth 100000 in
theorem law06_BranchNodes_L (w0 : World) (hm : MaxL w0) (x0 x1 : AV) (h0 : TV t_api_Node x0) (h1 : TV t_int x1) : AC w0 F_law06_BranchNodes [x0, x1] [] fun r _ => r = .bool true := by
  refine law_of fun Q hq => ?_
  obtain ⟨n, rfl, hok⟩ := h0.node
  obtain ⟨i, rfl, hi⟩ := h1.int un_int
  have hcc := n.c_eq'
  rw [hcc]
  apply law06_BranchNodes_ok
  unfold G_law06_BranchNodes
  simp only [← hcc]
  simp
  refine law06_speaks_A hm (fun S _ => ?_)
  simp
  refine law04_Small_A hok (fun S2 hS2 => ?_)
  cases hs : n.small with
  | false => simp [hq]
  | true =>
  obtain ⟨b1, b2⟩ := Node.small_spec hs
  have b3 := n.count_weight
  simp
  refine branch_New_A hm hok (fun hr S3 id hS3 hid hB => ?_) (fun hr S3 hS3 => ?_)
  case refine_2 =>
    simp
    refine ref04_Right_A hok (by omega) (by omega) ?_
    rw [hr]
    simp [joinK_eq, hq]
  simp
  refine ref04_Right_A hok (by omega) (by omega) ?_
  rw [hr]
  simp
  refine ref06_All_A n hok (by omega) (fun r hrn => ?_)
  simp
  try rw [joinK_eq]
  try simp
  have htl : (n.tab 0).length = n.pre.length := by rw [Node.tab_len, Node.pre_len]
  have hpc := Node.pre_len n
  obtain ⟨r1, r2, r3, r4⟩ := rightB_all hr
  refine branch_Count_A hB ?_
  rw [htl]
  simp
  rw [joinK_eq]
  refine loop_list n.pre (fun k (_ : Unit) => ([.int .i64 k], [])) (fun k _ S' => S' = S3) () rfl rfl ?_ ?_
  · rintro k _ S' v b x c hxi hd hc hmem rfl hv
    simp at hv
    have hat : At (n.tab 0) k x := by simpa using (At.root n).pre n hxi
    have hino := hat.ino
    have hxok := pre_ok n hok x hmem
    have k1 : (inoAt (n.tab 0) (k : Nat)).kind = x.kind := by rw [hino]; rfl
    have k2 : (inoAt (n.tab 0) (k : Nat)).opq = x.opq := by rw [hino]; rfl
    have k3 : (inoAt (n.tab 0) (k : Nat)).size = x.size := by rw [hino]; rfl
    have k4 : (inoAt (n.tab 0) (k : Nat)).target = x.target := by rw [hino]; rfl
    have k5 : (inoAt (n.tab 0) (k : Nat)).names = x.names.l := by rw [hino]; rfl
    have hnl : x.names.l.length ≤ 1048576 := ((Node.ok_iff x).1 hxok).2.1.2.1
    simp [hv, hc, hxi]
    refine branch_Kind_A hB ?_
    rw [k1]
    simp
    try rw [joinK_eq]
    try simp
    refine branch_Opaque_A hB ?_
    rw [k2]
    simp
    try rw [joinK_eq]
    try simp
    refine branch_Size_A hB ?_
    rw [k3]
    simp
    try rw [joinK_eq]
    try simp
    refine branch_Target_A hB ?_
    rw [k4]
    simp
    try rw [joinK_eq]
    try simp
    refine branch_Names_A hB (by rw [k5]; omega) (fun r6 _ => ?_)
    rw [k5]
    simp
    refine ref01_Same_A (by omega) ?_
    simp
    try simp (disch := omega) only [wrap64]
    exact .next c () rfl rfl
  · rintro _ S' v b rfl hv N
    simp at hv
    simp [hv]
    rw [joinK_eq]
    by_cases ci : 0 ≤ i ∧ i < (n.pre.length : Int)
    · simp [ci.1, ci.2, hq]
    have hno : inoAt (n.tab 0) i = InoP.none := inoAt_out (by rw [htl]; exact ci)
    have hc2 : (decide (0 ≤ i) && decide (i < (n.pre.length : Int))) = false := by
      simp only [Bool.and_eq_false_iff, decide_eq_false_iff_not]
      omega
    simp [hc2]
    refine branch_Kind_A hB ?_
    rw [hno]
    simp [InoP.none]
    try rw [joinK_eq]
    try simp
    refine branch_Opaque_A hB ?_
    rw [hno]
    simp [InoP.none]
    try rw [joinK_eq]
    try simp
    refine branch_Size_A hB ?_
    rw [hno]
    simp [InoP.none]
    try rw [joinK_eq]
    try simp
    refine branch_Target_A hB ?_
    rw [hno]
    simp [InoP.none]
    try rw [joinK_eq]
    try simp
    refine branch_Names_A hB (by rw [hno]; simp [InoP.none]) (fun r6 _ => ?_)
    rw [hno]
    simp [InoP.none]
    try rw [joinK_eq]
    try simp
    refine branch_Read_A hB (by rw [hno]; exact fitP_none) (fun S6 _ => ?_)
    rw [hno]
    have : readP InoP.none.size InoP.none.exts 0 9 = [] := by decide
    rw [this]
    simp [hq]
set_option maxRecDepth 100000 in
theorem law06_BranchLooks_L (w0 : World) (hm : MaxL w0) (x0 x1 x2 : AV) (h0 : TV t_api_Node x0) (h1 : TV t_string x1) (h2 : TV t_int x2) : AC w0 F_law06_BranchLooks [x0, x1, x2] [] fun r _ => r = .bool true := by
  refine law_of fun Q hq => ?_
  obtain ⟨n, rfl, hok⟩ := h0.node
  obtain ⟨s, rfl, hsl⟩ := h1.str un_string
  obtain ⟨i, rfl, hi⟩ := h2.int un_int
  have hcc := n.c_eq'
  rw [hcc]
  apply law06_BranchLooks_ok
  unfold G_law06_BranchLooks
  simp only [← hcc]
  simp
  refine law06_speaks_A hm (fun S _ => ?_)
  simp
  refine law04_Small_A hok (fun S2 hS2 => ?_)
  cases hs : n.small with
  | false => simp [joinK_eq, hq]
  | true =>
  obtain ⟨b1, b2⟩ := Node.small_spec hs
  have b3 := n.count_weight
  simp
  try rw [joinK_eq]
  try simp
  refine ref04_Right_A hok (by omega) (by omega) ?_
  cases hr : rightB n with
  | false =>
    simp
    try rw [joinK_eq]
    try simp [hq]
  | true =>
  simp
  try rw [joinK_eq]
  try simp
  by_cases c200 : (200 : Int) < s.length
  · simp [c200, hq]
  simp [c200]
  refine branch_New_A hm hok (fun _ S3 id hS3 hid hB => ?_) (fun hno => by rw [hr] at hno; cases hno)
  simp
  try rw [joinK_eq]
  try simp
  refine ref06_All_A n hok (by omega) (fun r hrn => ?_)
  simp
  try rw [joinK_eq]
  try simp
  have htl : (n.tab 0).length = n.pre.length := by rw [Node.tab_len, Node.pre_len]
  have hpc := Node.pre_len n
  obtain ⟨r1, r2, r3, r4⟩ := rightB_all hr
  refine loop_list n.pre (fun k (_ : Unit) => ([.int .i64 k], [])) (fun k _ S' => S' = S3) () rfl rfl ?_ ?_
  · rintro k _ S' v b x c hxi hd hc hmem rfl hv
    simp at hv
    have hat : At (n.tab 0) k x := by simpa using (At.root n).pre n hxi
    have hxok := pre_ok n hok x hmem
    have hxa := pre_all n r2 x hmem
    have hnl : x.names.l.length ≤ 1048576 := ((Node.ok_iff x).1 hxok).2.1.2.1
    have hil := allB_lens hxa
    have happ : ∀ (S : St) (K : AV → Prop), (∀ r, K (.vs 1 ((x.names.l ++ [s]).map wStr) r)) → optK (appendA T_string S (.vs 1 [] .full) (.vs 1 (x.names.l.map wStr) x.names.r.strip)) fun t57 => optK (appendA T_string S t57 (.vs 1 [[.str s]] .full)) K := by
      intro S K hK
      by_cases e : x.names.l = []
      · have := hK (.own (rowTy T_string .full))
        simp [appendA, elemsA, lim, e] at this ⊢
        simpa using this
      · have := hK (.own (rowTy T_string (.own (rowTy T_string .full))))
        simp [appendA, elemsA, e, show x.names.l.length ≤ lim by unfold lim; omega, show x.names.l.length + 1 ≤ lim by unfold lim; omega] at this ⊢
        simpa using this
    have hxcount : x.count ≤ 1000000 := by
      have : ∀ (y : Node), ∀ z ∈ y.pre, z.count ≤ y.count := by
        intro y
        induction y using Node.ind with
        | h y ih =>
          intro z hz
          rw [Node.pre_eq] at hz
          rcases List.mem_cons.1 hz with rfl | hz
          · exact Nat.le_refl _
          · obtain ⟨m, hm⟩ := List.getElem?_of_mem hz
            obtain ⟨j, cc, kk, h1, h2, h3⟩ := pres_get hm
            have hcm := List.mem_of_getElem? h1
            have := ih cc hcm z (List.mem_of_getElem? h3)
            have h4 := (counts_mem (l := y.items)).2 cc hcm
            rw [Node.count_eq y]
            omega
      have := this n x hmem
      omega
    simp [hv, hc, hxi]
    refine happ _ _ (fun r6 => ?_)
    simp
    refine loop_list (x.names.l ++ [s]) (fun j (_ : Unit) => ([.int .i64 j], [some x.c])) (fun j _ S2 => S2 = S') () (by simp) rfl ?_ ?_
    · rintro j _ S2 v2 b2 y c2 hyi hd2 hc2 hmem2 rfl hv2
      simp at hv2
      obtain ⟨hv62, hb11⟩ := hv2
      have hyj : (List.map wStr x.names.l ++ [[AV.str s]])[j]? = some [.str y] := by
        have : (List.map wStr (x.names.l ++ [s]))[j]? = some (wStr y) := by rw [List.getElem?_map, hyi]; rfl
        simpa using this
      have hcj : (j : Int) < (x.names.l.length : Int) + 1 := by simp at c2; omega
      have hnum := hat.number hxa y
      have hino := hat.ino
      simp [hv62, hb11, hcj, hyj]
      refine branch_Look_A hB (right_good hok hr (k : Nat)) ?_
      rw [hnum]
      cases hf : x.names.l.findIdx? (fun z => decide (z = y)) with
      | none =>
        have hjn : ¬ ((j : Int) < x.names.l.length) := by
          intro hj
          have hj' : j < x.names.l.length := by omega
          rw [List.getElem?_append_left hj'] at hyi
          have := List.findIdx?_eq_none_iff.1 hf y (List.mem_of_getElem? hyi)
          simp at this
        have hjn' : ¬ (j < x.names.l.length) := by omega
        simp
        refine ref04_Find_A hxok ?_
        rw [hf]
        simp
        try rw [joinK_eq]
        try simp
        try rw [joinK_eq]
        try simp
        simp [joinK_eq, hjn, hjn']
        try simp (disch := omega) only [wrap64]
        exact .next (by omega) () (by simp) rfl
      | some m =>
        have hm1 := (List.findIdx?_eq_some_iff_getElem.1 hf).1
        simp
        refine ref04_Find_A hxok ?_
        rw [hf]
        simp
        try rw [joinK_eq]
        try simp
        try rw [joinK_eq]
        try simp
        refine ref06_Entry_A hxi hxok hxcount (by omega) (by omega) ?_
        try simp
        try simp [joinK_eq]
        try simp (disch := omega) only [wrap64]
        exact .next (by omega) () (by simp) rfl
    · rintro _ S2 v2 b2 rfl hv2 N
      simp at hv2
      obtain ⟨hv62, hb11⟩ := hv2
      simp [hv62, hb11]
      try simp (disch := omega) only [wrap64]
      exact .next c () rfl rfl
  · rintro _ S' v b rfl hv N
    simp at hv
    simp [hv]
    refine branch_Look_A hB (right_good hok hr i) ?_
    by_cases ci : 0 ≤ i ∧ i < (n.pre.length : Int)
    · cases lookP (inoAt (n.tab 0) i) s <;> simp [joinK_eq, ci.1, ci.2, hq]
    have hno : inoAt (n.tab 0) i = InoP.none := inoAt_out (by rw [htl]; exact ci)
    have hc2 : (decide (0 ≤ i) && decide (i < (n.pre.length : Int))) = false := by
      simp only [Bool.and_eq_false_iff, decide_eq_false_iff_not]
      omega
    rw [hno, show lookP InoP.none s = none by simp [lookP, InoP.none]]
    simp [joinK_eq, hc2, hq]
end Go.Av
set_option linter.unusedVariables false
namespace Go.Av
open Go.Proofs
theorem same_pre (b : Node) : ∀ (a : Node), a.sameB b = true → ∀ (k : Nat) (y : Node), b.pre[k]? = some y → ∃ x, a.pre[k]? = some x ∧ x.sameB y = true := by
  induction b using Node.ind with
  | h b ih =>
    intro a h k y hy
    rw [Node.pre_eq] at hy ⊢
    cases k with
    | zero => simp at hy; subst hy; exact ⟨a, rfl, h⟩
    | succ k =>
      simp only [List.getElem?_cons_succ] at hy ⊢
      have hi : Node.samesB a.items b.items = true := by
        rw [Node.same_eq] at h
        simp only [Bool.and_eq_true] at h
        exact h.2.2.2.2.2.2
      have gen : ∀ (l m : List Node), (∀ z ∈ m, z ∈ b.items) → Node.samesB l m = true → ∀ (k : Nat) (y : Node), (Node.pres m)[k]? = some y → ∃ x, (Node.pres l)[k]? = some x ∧ x.sameB y = true := by
        intro l
        induction l with
        | nil =>
          intro m _ h k y hy
          simp at h
          rw [h, Node.pres_nil] at hy
          simp at hy
        | cons x l ihl =>
          intro m hm h k y hy
          cases m with
          | nil => rw [Node.pres_nil] at hy; simp at hy
          | cons z m =>
            rw [Node.samesB] at h
            simp only [Bool.and_eq_true] at h
            rw [Node.pres_cons] at hy ⊢
            have hcnt : x.pre.length = z.pre.length := by rw [Node.pre_len, Node.pre_len]; exact (same_all x z h.1).2.1
            by_cases c : k < z.pre.length
            · rw [List.getElem?_append_left c] at hy
              rw [List.getElem?_append_left (by omega)]
              exact ih z (hm z (by simp)) x h.1 k y hy
            · rw [List.getElem?_append_right (by omega)] at hy
              rw [List.getElem?_append_right (by omega), hcnt]
              exact ihl m (fun w hw => hm w (by simp [hw])) h.2 _ y hy
      exact gen a.items b.items (fun z hz => hz) hi k y hy
set_option maxRecDepth 100000 in
theorem branch_Open_A {w0 : World} (hm : MaxL w0) {S : St} {s : Str} (hs : s.length ≤ 1048575) {Q : AV → St → Prop}
    (h1 : ∀ n, decS s = some n → n.ok → rightB n = true → ∀ S' id, Sx S S' → Br S' id (n.tab 0) → Q (.tup [.ptr id 0, .int .i64 0]) S') (h2 : decS s = none → ∀ S', Sx S S' → Q (.tup [.nil, .int .i64 1]) S') (h3 : ∀ n, decS s = some n → n.ok → rightB n = true) :
    AC w0 F_branch_Open [.str s] S Q := by
  apply branch_Open_ok
  unfold G_branch_Open
  refine image_Decode_A hm hs (fun S2 hS2 => ⟨fun n hn hok => ?_, fun hn => ?_⟩)
  · have hr := h3 n hn hok
    simp
    refine branch_New_A hm hok (fun _ S3 id hS3 hid hB => ?_) (fun hno => by rw [hr] at hno; cases hno)
    simp
    exact h1 n hn hok hr _ _ (hS2.trans hS3) hB
  · simp
    exact h2 hn _ hS2
set_option maxRecDepth 100000 in
theorem law06_BranchReads_L (w0 : World) (hm : MaxL w0) (x0 x1 x2 : AV) (h0 : TV t_api_Node x0) (h1 : TV t_int x1) (h2 : TV t_int x2) : AC w0 F_law06_BranchReads [x0, x1, x2] [] fun r _ => r = .bool true := by
  refine law_of fun Q hq => ?_
  obtain ⟨n, rfl, hok⟩ := h0.node
  obtain ⟨off, rfl, hoff⟩ := h1.int un_int
  obtain ⟨many, rfl, hmany⟩ := h2.int un_int
  have hcc := n.c_eq'
  rw [hcc]
  apply law06_BranchReads_ok
  unfold G_law06_BranchReads
  simp only [← hcc]
  simp
  refine law06_speaks_A hm (fun S _ => ?_)
  simp
  refine law04_Small_A hok (fun S2 hS2 => ?_)
  cases hs : n.small with
  | false => simp [joinK_eq, hq]
  | true =>
  obtain ⟨b1, b2⟩ := Node.small_spec hs
  have b3 := n.count_weight
  simp
  try rw [joinK_eq]
  try simp
  refine ref04_Right_A hok (by omega) (by omega) ?_
  cases hr : rightB n with
  | false =>
    simp
    try rw [joinK_eq]
    try simp [hq]
  | true =>
  simp
  try rw [joinK_eq]
  try simp
  by_cases c3 : (3000 : Int) < many
  · simp [c3, hq]
  simp [c3]
  refine branch_New_A hm hok (fun _ S3 id hS3 hid hB => ?_) (fun hno => by rw [hr] at hno; cases hno)
  simp
  obtain ⟨hl, hi⟩ := imgOf_small hs hr
  refine ref05_Encode_A hok (by omega) (by omega) (fun S4 hS4 => ?_)
  rw [hi]
  simp
  obtain ⟨n', e1, e2⟩ := decS_enc hok hr (by omega)
  have hr' : rightB n' = true := by rw [same_right e2]; exact hr
  refine branch_Open_A hm (by simp [magic_len]; omega) (fun m hmd hmok hmr S5 id' hS5 hB' => ?_) (fun hn => by rw [e1] at hn; cases hn) (fun m hmd _ => by rw [e1] at hmd; cases hmd; exact hr')
  rw [e1] at hmd
  cases hmd
  have hadd : binA .add (.str (magicS ++ n.enc)) (.str [0]) = some (.str (magicS ++ n.enc ++ [0])) := by
    simp only [binA, strBin]
    rw [if_pos (by rw [List.length_append, magic_len]; simp; omega)]
  have hmore := decS_more (more := [0]) hok hr (by simp)
  simp [hadd]
  try simp only [← List.append_assoc]
  refine branch_Open_A hm (by simp [magic_len]; omega) (fun m hmd _ _ => by rw [hmore] at hmd; cases hmd) (fun _ S6 hS6 => ?_) (fun m hmd _ => by rw [hmore] at hmd; cases hmd)
  simp
  try rw [joinK_eq]
  try simp
  try rw [joinK_eq]
  try simp
  try rw [joinK_eq]
  try simp
  try rw [joinK_eq]
  try simp
  have hcnt : n'.count = n.count := (same_all n' n e2).2.1
  refine branch_Count_A (hB.mono (((hS4.trans hS5).trans hS6))) ?_
  try simp
  refine branch_Count_A (hB'.mono hS6) ?_
  simp [Node.tab_len, hcnt]
  try rw [joinK_eq]
  try simp
  try rw [joinK_eq]
  try simp
  refine ref06_All_A n hok (by omega) (fun r hrn => ?_)
  simp
  have htl : (n.tab 0).length = n.pre.length := by rw [Node.tab_len, Node.pre_len]
  have hpc := Node.pre_len n
  obtain ⟨r1, r2, r3, r4⟩ := rightB_all hr
  obtain ⟨r1', r2', r3', r4'⟩ := rightB_all hr'
  have hB2 := hB.mono (((hS4.trans hS5).trans hS6))
  have hB2' := hB'.mono hS6
  refine loop_list n.pre (fun k (_ : Unit) => ([.int .i64 k], [])) (fun k _ S' => Sx S6 S') () rfl (Sx.refl _) ?_ ?_
  · rintro k _ S' v b x c hxi hd hc hmem hSx hv
    simp at hv
    have hat : At (n.tab 0) k x := by simpa using (At.root n).pre n hxi
    obtain ⟨x', hx', hsame⟩ := same_pre n n' e2 k x hxi
    have hat' : At (n'.tab 0) k x' := by simpa using (At.root n').pre n' hx'
    have hino := hat.ino
    have hino' := hat'.ino
    have hxok := pre_ok n hok x hmem
    have hxa := pre_all n r2 x hmem
    have hxok' := pre_ok n' hmok x' (List.mem_of_getElem? hx')
    have hxa' := pre_all n' r2' x' (List.mem_of_getElem? hx')
    rw [Node.same_eq] at hsame
    simp only [Bool.and_eq_true, decide_eq_true_eq] at hsame
    obtain ⟨s1, s2, s3, s4, s5, s6, s7⟩ := hsame
    have k1 : (inoAt (n.tab 0) (k : Nat)).size = x.size ∧ (inoAt (n.tab 0) (k : Nat)).exts = x.exts := by rw [hino]; exact ⟨rfl, rfl⟩
    have k2 : (inoAt (n'.tab 0) (k : Nat)).size = x.size ∧ (inoAt (n'.tab 0) (k : Nat)).exts = x.exts ∧ (inoAt (n'.tab 0) (k : Nat)).kind = x.kind := by rw [hino']; exact ⟨s3, s6, s1⟩
    obtain ⟨f1, f2, f3, f4⟩ := allB_fit hxok hxa k
    have hrd : readE x.size x.exts off many = readP x.size x.exts off many := by
      rw [Node.all_eq] at hxa
      simp only [Bool.and_eq_true] at hxa
      obtain ⟨hz, hk⟩ := oneB_zero hxa.2
      by_cases kk : x.kind = 1
      · exact (readP_eq (by simpa [kindB, kk] using hk)).symm
      · simp [zeroB, kk] at hz
        have q1 : x.size = 0 := hz.1.2.1
        have q2 : x.exts = [] := hz.1.2.2
        rw [q1, q2]
        exact (readP_eq (by decide)).symm
    simp [hv, hc, hxi]
    refine ref03_Read_A f3 (Nat.le_trans f4 (by decide)) ⟨f1, f2⟩ (by omega) ?_
    rw [hrd]
    refine branch_Read_A (hB2.mono hSx) (by rw [hino]; exact allB_fit hxok hxa k) (fun S8 hS8 => ?_)
    rw [k1.1, k1.2]
    simp
    try rw [joinK_eq]
    try simp
    refine branch_Read_A (hB2'.mono (hSx.trans hS8)) (by rw [hino']; exact allB_fit hxok' hxa' k) (fun S9 hS9 => ?_)
    rw [k2.1, k2.2.1]
    simp
    try rw [joinK_eq]
    try simp
    refine branch_Kind_A (hB2'.mono ((hSx.trans hS8).trans hS9)) ?_
    rw [k2.2.2]
    simp
    try simp (disch := omega) only [wrap64]
    exact .next c () rfl ((hSx.trans hS8).trans hS9)
  · rintro _ S' v b hSx hv N
    simp at hv
    simp [hv, joinK_eq, hq]
end Go.Av
