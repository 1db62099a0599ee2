/- Parts of the proofs of this seat: abstract values over the model, and what the functions of the program do. No condition. -/
import Derived.Test.YtgegfcblacmbeaaDoorXJoin
import Derived.Test.YtgegfcblacmbeaaDoorY03a
set_option linter.all false
set_option linter.unusedVariables false
/-! Trees: the document's sameness; what makes nodes. -/
namespace Go.Av
open Go.Proofs
theorem ref04_Same_A {w0 : World} (a : Node) : ∀ {b : Node} {S : St} {Q : AV → St → Prop}, a.ok → b.ok → Q (.bool (a.sameB b)) S → AC w0 F_ref04_Same [.agg a.c, .agg b.c] S Q := by
  induction a using Node.ind with
  | h a ih =>
    intro b S Q hok hok2 hq
    rw [Node.c_eq a, Node.c_eq b]
    apply ref04_Same_ok
    unfold G_ref04_Same
    rw [Node.same_eq] at hq
    rw [Node.ok_iff] at hok hok2
    obtain ⟨h1, h2, h3, h4, h5, h6, h7⟩ := hok
    obtain ⟨k1, k2, k3, k4, k5, k6, k7⟩ := hok2
    have hl := h2.2.1
    have hl2 := h6.2.1
    by_cases c1 : a.kind = b.kind
    case neg => simp [c1, joinK_eq] at hq ⊢; exact hq
    by_cases c2 : a.opq = b.opq
    case neg =>
      have c2' := beq_eq_false_iff_ne.2 c2
      simp [c1, c2, c2', joinK_eq] at hq ⊢; exact hq
    by_cases c3 : a.size = b.size
    case neg => simp [c1, c2, c3, joinK_eq] at hq ⊢; exact hq
    by_cases c4 : a.target = b.target
    case neg => simp [c1, c2, c3, c4, joinK_eq] at hq ⊢; exact hq
    simp [c1, c2, c3, c4, joinK_eq] at hq ⊢
    refine ref01_Same_A (by omega) ?_
    by_cases c5 : a.names.l = b.names.l
    case neg => simp [c5] at hq ⊢; exact hq
    simp [c5] at hq ⊢
    by_cases c7 : a.items.length = b.items.length
    case neg =>
      have c7' : ¬ ((a.items.length : Int) = b.items.length) := by omega
      rw [Node.sames_len _ _ c7] at hq
      simp [c7'] at hq ⊢
      exact hq
    have c7' : ((a.items.length : Int) = b.items.length) := by omega
    by_cases c8 : a.exts.length = b.exts.length
    case neg =>
      have c8' : ¬ ((a.exts.length : Int) = b.exts.length) := by omega
      have : ¬ a.exts = b.exts := fun e => c8 (by rw [e])
      simp [c7', c8', this] at hq ⊢
      exact hq
    have c8' : ((a.exts.length : Int) = b.exts.length) := by omega
    simp [c7', c8']
    rw [c7] at h3
    refine loop_list a.exts (fun i (_ : Unit) => ([.int .i64 i], [some a.c, some b.c])) (fun i _ S' => S' = S ∧ a.exts.take i = b.exts.take i) () (by rw [Node.c_eq' a, Node.c_eq' b]; simp [c1, c2, c3, c4, c5]) ⟨rfl, by simp⟩ ?_ ?_
    · rintro i _ S' v bx x c hxi hd hc hm ⟨rfl, hx⟩ hv
      obtain ⟨y, hy⟩ : ∃ y, b.exts[i]? = some y := ⟨b.exts[i]'(by omega), by simp [show i < b.exts.length by omega]⟩
      simp at hv
      obtain ⟨hv1, hv2, hv3⟩ := hv
      rw [Node.c_eq'] at hv2 hv3
      simp [hv1, hv2, hv3, hc, hxi, hy]
      by_cases e : x = y
      · subst e
        simp
        try simp (disch := omega) only [wrap64]
        refine .next c () (by rw [Node.c_eq' a, Node.c_eq' b]; simp [c1, c2, c3, c4, c5]) ⟨rfl, ?_⟩
        rw [List.take_add_one, List.take_add_one, hxi, hy, hx]
      · have : ¬ a.exts = b.exts := fun h => e (by rw [h, hy] at hxi; exact (Option.some.inj hxi).symm)
        have e2 : ¬ (x.off = y.off ∧ x.data = y.data) := fun h => e (Ext.eq_iff.2 h)
        simp [this] at hq
        refine ifK_b (fun _ => hq) (fun h => ?_)
        simp at h
        exact (e2 h).elim
    · rintro _ S' v bx ⟨rfl, hx⟩ hv N
      simp at hv
      obtain ⟨hv1, hv2, hv3⟩ := hv
      rw [Node.c_eq'] at hv2 hv3
      simp [hv1, hv2, hv3]
      rw [List.take_length, c8, List.take_length] at hx
      refine loop_list a.items (fun i (_ : Unit) => ([.int .i64 i], [some a.c, some b.c])) (fun i _ S2 => S2 = S' ∧ Node.samesB a.items b.items = Node.samesB (a.items.drop i) (b.items.drop i)) () (by rw [Node.c_eq' a, Node.c_eq' b]; simp [c1, c2, c3, c4, c5]) ⟨rfl, by simp⟩ ?_ ?_
      · rintro i _ S2 v2 bx2 x c hxi hd hc hm ⟨rfl, hx2⟩ hv
        obtain ⟨y, hy⟩ : ∃ y, b.items[i]? = some y := ⟨b.items[i]'(by omega), by simp [show i < b.items.length by omega]⟩
        simp at hv
        obtain ⟨hv1, hv2, hv3⟩ := hv
        rw [Node.c_eq'] at hv2 hv3
        simp [hv1, hv2, hv3, hc, hxi, hy]
        refine ih x hm (h4 x hm) (k4 y (List.mem_of_getElem? hy)) ?_
        rw [Node.sames_drop hxi hy] at hx2
        cases hs : x.sameB y with
        | false =>
          rw [hx2, hs] at hq
          simpa using hq
        | true =>
          rw [hs] at hx2
          simp
          try simp (disch := omega) only [wrap64]
          exact .next (by omega) () (by rw [Node.c_eq' a, Node.c_eq' b]; simp [c1, c2, c3, c4, c5]) ⟨rfl, by simpa using hx2⟩
      · rintro _ S2 v2 bx2 ⟨rfl, hx2⟩ hv N
        simp at hv
        obtain ⟨hv1, hv2, hv3⟩ := hv
        rw [Node.c_eq'] at hv2 hv3
        simp [hv1, hv2, hv3, hx]
        rw [hx2, List.drop_length, c7, List.drop_length] at hq
        simpa [hx] using hq
/-- A right of a copy. -/
def okR {α : Type} (r : Rt) (l : List α) : Prop := r.strip = .nil → l = []
theorem okR_none {α : Type} {l : List α} : okR .none l := fun e => by cases e
theorem okR_full {α : Type} {l : List α} : okR .full l := fun e => by cases e
theorem okR_nil {α : Type} : okR .nil ([] : List α) := fun _ => rfl
theorem clone_gen {ei : TI} {sz : Nat} (hsz : ei.size = sz) {es : List (List AV)} {r : Rt} {S : St} (hr : okR r es) (hl : es.length ≤ lim) {K : AV → Prop} (hq : ∀ r', okR r' es → K (.vs sz es r')) :
    optK (binE .slice .eql (.vs sz es r.strip) (.vs sz [] .nil)) fun t4 => ifK t4 (K (.vs sz [] .nil)) (optK (appendA ei S (.vs sz [] .full) (.vs sz es r.strip)) K) := by
  simp only [binE, eqA, Option.map_some, optK_some']
  by_cases c : r.strip = .nil
  · have e := hr c
    subst e
    have : (r.strip == Rt.nil) = true := by rw [c]; rfl
    rw [this, ifK_true]
    exact hq .nil okR_nil
  · have : (r.strip == Rt.nil) = false := by cases h : r.strip <;> simp_all
    rw [this, ifK_false]
    subst hsz
    by_cases e : es = []
    · subst e
      simp [appendA, elemsA]
      exact hq .full okR_full
    · simp [appendA, elemsA, e, hl]
      exact hq _ (fun e => by cases e)
theorem Clone_str_A {w0 : World} {S : St} {l : List Str} {r : Rt} (hr : okR r l) (hl : l.length ≤ 100000000) {Q : AV → St → Prop} (hq : ∀ r', okR r' l → Q (.vs 1 (l.map wStr) r') S) : AC w0 F_slices_Clone_s_string_string [.vs 1 (l.map wStr) r] S Q := by
  apply slices_Clone_s_string_string_ok
  unfold G_slices_Clone_s_string_string
  exact clone_gen (ei := T_string) (sz := 1) (es := l.map wStr) (K := fun t => Q t S) rfl (fun e => by simp [hr e]) (by simp [lim]; omega) (fun r' h => hq r' (fun e => by simpa using h e))
theorem Clone_node_A {w0 : World} {S : St} {l : List Node} {r : Rt} (hr : okR r l) (hl : l.length ≤ 100000000) {Q : AV → St → Prop} (hq : ∀ r', okR r' l → Q (.vs 7 (l.map Node.c) r') S) : AC w0 F_slices_Clone_s_api_Node_api_Node [.vs 7 (l.map Node.c) r] S Q := by
  apply slices_Clone_s_api_Node_api_Node_ok
  unfold G_slices_Clone_s_api_Node_api_Node
  exact clone_gen (ei := T_api_Node) (sz := 7) (es := l.map Node.c) (K := fun t => Q t S) rfl (fun e => by simp [hr e]) (by simp [lim]; omega) (fun r' h => hq r' (fun e => by simpa using h e))
theorem Clone_ext_A {w0 : World} {S : St} {l : List Ext} {r : Rt} (hr : okR r l) (hl : l.length ≤ 100000000) {Q : AV → St → Prop} (hq : ∀ r', okR r' l → Q (.vs 2 (l.map Ext.c) r') S) : AC w0 F_slices_Clone_s_api_Extent_api_Extent [.vs 2 (l.map Ext.c) r] S Q := by
  apply slices_Clone_s_api_Extent_api_Extent_ok
  unfold G_slices_Clone_s_api_Extent_api_Extent
  exact clone_gen (ei := T_api_Extent) (sz := 2) (es := l.map Ext.c) (K := fun t => Q t S) rfl (fun e => by simp [hr e]) (by simp [lim]; omega) (fun r' h => hq r' (fun e => by simpa using h e))
/-- A directory. -/
def dirN (opq : Bool) (l : List Str) (r1 : Rt) (items : List Node) (r2 : Rt) : Node := .mk 2 opq ⟨l, r1⟩ items r2 0 [] .nil []
theorem dirN_ok {o : Bool} {l : List Str} {items : List Node} {q1 q2 : Rt} (hl : l.length ≤ 1048576 ∧ ∀ s ∈ l, s.length ≤ 1048576) (hi : items.length ≤ 1048576 ∧ ∀ x ∈ items, x.ok) (k1 : okR q1 l) (k2 : okR q2 items) : (dirN o l q1 items q2).ok := by
  rw [Node.ok_iff]
  refine ⟨by simp [dirN, Node.kind, I64], ⟨fun e => k1 (by simp [dirN, Node.names] at e; simp [e]), hl⟩, ⟨k2, hi.1⟩, hi.2, by simp [dirN, Node.size, I64], by simp [dirN, Node.exts, Node.er], by simp [dirN, Node.target]⟩
theorem tree_Dir_A {w0 : World} {S : St} {l : List Str} {items : List Node} {r1 r2 : Rt} (h1 : okR r1 l) (h2 : okR r2 items) (hl1 : l.length ≤ 100000000) (hl2 : items.length ≤ 100000000) {Q : AV → St → Prop}
    (hq : ∀ q1 q2, okR q1 l → okR q2 items → Q (.agg (dirN false l q1 items q2).c) S) : AC w0 F_tree_Dir [.vs 1 (l.map wStr) r1, .vs 7 (items.map Node.c) r2] S Q := by
  apply tree_Dir_ok
  unfold G_tree_Dir
  refine Clone_str_A (fun e => h1 (by simpa using e)) hl1 (fun q1 k1 => ?_)
  refine Clone_node_A (fun e => h2 (by simpa using e)) hl2 (fun q2 k2 => ?_)
  have hq := hq q1 q2 k1 k2
  rw [Node.c_eq] at hq
  simp
  exact hq
theorem tree_White_A {w0 : World} {S : St} {Q : AV → St → Prop} (hq : Q (.agg (Node.mk 4 false ⟨[], .nil⟩ [] .nil 0 [] .nil []).c) S) : AC w0 F_tree_White [] S Q := by
  apply tree_White_ok
  unfold G_tree_White
  rw [Node.c_eq] at hq
  exact hq
theorem tree_Link_A {w0 : World} {S : St} {t : Str} {Q : AV → St → Prop} (hq : Q (.agg (Node.mk 3 false ⟨[], .nil⟩ [] .nil 0 [] .nil t).c) S) : AC w0 F_tree_Link [.str t] S Q := by
  apply tree_Link_ok
  unfold G_tree_Link
  rw [Node.c_eq] at hq
  exact hq
theorem tree_Opaque_A {w0 : World} {S : St} {n : Node} {Q : AV → St → Prop} (hq : Q (.agg (Node.mk n.kind true n.names n.items n.ir n.size n.exts n.er n.target).c) S) : AC w0 F_tree_Opaque [.agg n.c] S Q := by
  rw [Node.c_eq]
  apply tree_Opaque_ok
  unfold G_tree_Opaque
  rw [Node.c_eq] at hq
  simp
  exact hq
theorem tree_Text_A {w0 : World} {S : St} {s : Str} (hl : s.length ≤ 1000000000) {Q : AV → St → Prop} (hq : ∀ r, (r = .nil ∧ ofE 0 s = []) ∨ r = .none → Q (.agg (Node.mk 1 false ⟨[], .nil⟩ [] .nil s.length (ofE 0 s) r []).c) S) : AC w0 F_tree_Text [.str s] S Q := by
  apply tree_Text_ok
  unfold G_tree_Text
  refine extent_Of_A hl (fun r hr => ?_)
  have hq := hq r hr
  rw [Node.c_eq] at hq
  simp
  exact hq
theorem ofE_exts {s : Str} (h : s.length ≤ 1000000) : (ofE 0 s).length ≤ s.length ∧ ∀ x ∈ ofE 0 s, x.ok := by
  obtain ⟨h1, h2, h3, h4⟩ := ofE_spec s.length s 0 (Nat.le_refl _)
  refine ⟨h3, fun x hx => ?_⟩
  have := h1 x hx
  unfold Ext.ok
  omega
/-- A file. -/
def textN (s : Str) (r : Rt) : Node := .mk 1 false ⟨[], .nil⟩ [] .nil s.length (ofE 0 s) r []
theorem textN_ok {s : Str} {r : Rt} (h : s.length ≤ 1000000) (hr : (r = .nil ∧ ofE 0 s = []) ∨ r = .none) : (textN s r).ok := by
  rw [Node.ok_iff]
  obtain ⟨h1, h2⟩ := ofE_exts h
  simp [textN, Node.kind, Node.names, Node.items, Node.ir, Node.size, Node.exts, Node.er, Node.target, I64, Ss.ok]
  refine ⟨by omega, fun e => ?_, by omega, h2⟩
  rcases hr with ⟨_, h⟩ | rfl
  · exact h
  · cases e
theorem white_ok : (Node.mk 4 false ⟨[], .nil⟩ [] .nil 0 [] .nil []).ok := by
  rw [Node.ok_iff]
  simp [Node.kind, Node.names, Node.items, Node.ir, Node.size, Node.exts, Node.er, Node.target, I64, Ss.ok]
theorem textN_right {s : Str} {r : Rt} (h : s.length ≤ 1048576) : oneB (textN s r) = true := by
  have := ofE_ok h
  simp [oneB, zeroB, kindB, textN, Node.kind, Node.opq, Node.names, Node.items, Node.size, Node.exts, Node.target, this]
@[simp] theorem joinK_id {α : Type} {r : α → Prop} {x : α} : joinK r (fun j => j x) = r x := rfl
set_option maxRecDepth 100000 in
theorem law04_speaks_A {w0 : World} (hm : MaxL w0) {S : St} {Q : AV → St → Prop} (hq : ∀ S', Sx S S' → Q (.bool true) S') : AC w0 F_law04_speaks [] S Q := by
  apply law04_speaks_ok
  unfold G_law04_speaks
  refine tree_Text_A (by simp) (fun r hr => ?_)
  refine tree_White_A ?_
  simp
  refine tree_Dir_A (l := [[97], [98]]) (items := [textN [120] r, .mk 4 false ⟨[], .nil⟩ [] .nil 0 [] .nil []]) okR_full okR_full (by simp) (by simp) (fun q1 q2 k1 k2 => ?_)
  have hx := textN_ok (s := [120]) (by simp) hr
  have hd1 : rightB (dirN false [[97], [98]] q1 [textN [120] r, .mk 4 false ⟨[], .nil⟩ [] .nil 0 [] .nil []] q2) = true := by
    have a1 : oneB (textN [120] r) = true := textN_right (by simp)
    have a2 : (textN [120] r).allB = true := by rw [Node.all_eq, a1]; rfl
    have a3 : oneB (dirN false [[97], [98]] q1 [textN [120] r, .mk 4 false ⟨[], .nil⟩ [] .nil 0 [] .nil []] q2) = true := by rfl
    have a4 : (dirN false [[97], [98]] q1 [textN [120] r, .mk 4 false ⟨[], .nil⟩ [] .nil 0 [] .nil []] q2).allB = true := by
      rw [Node.all_eq, a3]
      show (Node.allsB [_, _] && true) = true
      rw [Node.allsB, a2]
      rfl
    rw [rightB, a4]
    rfl
  have hd2 : (dirN false [[97], [98]] q1 [textN [120] r, .mk 4 false ⟨[], .nil⟩ [] .nil 0 [] .nil []] q2).find [97] = some (textN [120] r) := by rfl
  have hd3 : (dirN false [[97], [98]] q1 [textN [120] r, .mk 4 false ⟨[], .nil⟩ [] .nil 0 [] .nil []] q2).count = 3 := by rfl
  have hd4 : namesB (dirN false [[97], [98]] q1 [textN [120] r, .mk 4 false ⟨[], .nil⟩ [] .nil 0 [] .nil []] q2) = true := by rfl
  have hok := dirN_ok (o := false) (l := [[97], [98]]) (items := [textN [120] r, .mk 4 false ⟨[], .nil⟩ [] .nil 0 [] .nil []]) (by simp) (by simp [hx, white_ok]) k1 k2
  generalize dirN false [[97], [98]] q1 _ q2 = d at hd1 hd2 hd3 hd4 hok ⊢
  simp
  refine tree_Find_A hok hd4 ?_
  rw [hd2]
  simp
  refine tree_Right_A hm hok (fun S1 hS1 => ?_)
  rw [hd1]
  simp
  refine tree_White_A (tree_White_A ?_)
  simp
  refine tree_Dir_A (l := [[98], [97]]) (items := [.mk 4 false ⟨[], .nil⟩ [] .nil 0 [] .nil [], .mk 4 false ⟨[], .nil⟩ [] .nil 0 [] .nil []]) okR_full okR_full (by simp) (by simp) (fun q1 q2 k1 k2 => ?_)
  have he1 : rightB (dirN false [[98], [97]] q1 [.mk 4 false ⟨[], .nil⟩ [] .nil 0 [] .nil [], .mk 4 false ⟨[], .nil⟩ [] .nil 0 [] .nil []] q2) = false := by rfl
  have hok2 := dirN_ok (o := false) (l := [[98], [97]]) (items := [.mk 4 false ⟨[], .nil⟩ [] .nil 0 [] .nil [], .mk 4 false ⟨[], .nil⟩ [] .nil 0 [] .nil []]) (by simp) (by simp [hx, white_ok]) k1 k2
  generalize dirN false [[98], [97]] q1 _ q2 = e at he1 hok2 ⊢
  simp
  refine tree_Right_A hm hok2 (fun S2 hS2 => ?_)
  rw [he1]
  have e4 : (textN [120] r).c[4]? = some (.int .i64 1) := by rw [Node.c_eq]; rfl
  have e4' : (textN [120] r).c[4] = .int .i64 1 := (List.getElem?_eq_some_iff.1 e4).2
  simp [e4', joinK_eq]
  refine tree_Count_A d hok (by omega) ?_
  rw [hd3]
  simp
  refine tree_Same_A d hok hok ?_
  rw [Node.same_refl]
  simp
  exact hq _ (hS1.trans hS2)
end Go.Av
