/- Parts of the proofs of this seat: abstract values over the model, and what the functions of the program do. No condition. -/
import Derived.Test.YtclomnkgpemnaaaDoorX05M
import Derived.Test.YtclomnkgpemnaaaDoorX04L
set_option linter.all false
set_option linter.unusedVariables false
namespace Go.Av
open Go.Proofs
theorem rootP_on : ∀ (l : List Node) (L : List (List InoP)) (k : Nat), L.drop k = l.map (fun n => n.tab 0) → OnP L (rootP (l.map fun n => n.tab 0) k) (dirsN l)
  | [], _, _, _ => trivial
  | n :: l, L, k, h => by
    have h0 : L[k]? = some (n.tab 0) := by
      have := congrArg (fun x => x[0]?) h
      simpa using this
    have h1 : L.drop (k + 1) = l.map (fun n => n.tab 0) := by
      have := congrArg (fun x => x.drop 1) h
      simpa [List.drop_drop, Nat.add_comm] using this
    rw [List.map_cons, rootP, dirsN]
    refine ⟨⟨n.tab 0, h0, At.root n⟩, ?_⟩
    have ho : (inoAt (n.tab 0) 0).opq = n.opq := by rw [tab_root]; rfl
    rw [ho]
    split
    · trivial
    · exact rootP_on l L (k + 1) h1
end Go.Av
set_option linter.unusedVariables false
namespace Go.Av
open Go.Proofs
theorem Leads.of {S0 S : St} {l : List Node} {s : Stk} (hs : StkOf S0 S l s) (hok : ∀ n ∈ l, n.ok) (hall : ∀ n ∈ l, rightB n = true) (hl : l.length ≤ 64) : Leads S s l.reverse := by
  have herr := ofErr_all l 0 hall (by omega)
  have hroot := rootP_on l.reverse s.tabs 0 (by rw [stk_tabs hs]; rfl)
  rw [← stk_tabs hs] at hroot
  have hd : (dirsN l.reverse).length ≤ 64 := by
    have := hroot.len
    have h2 := rootP_len s.tabs 0
    have h3 : s.tabs.length = l.length := by rw [stk_tabs hs]; simp
    omega
  refine ⟨hs.ok, hs.on, hs.good hok herr, hroot, fun n hn => ?_, hd⟩
  have hn2 : n ∈ l := by have := dirsN_mem hn; simpa using this
  obtain ⟨q1, q2, q3, q4⟩ := rightB_all (hall n hn2)
  exact ⟨hok n hn2, q2, q1, q4, by omega⟩
theorem Docs.of {l : List Node} (hok : ∀ n ∈ l, n.ok) (hall : ∀ n ∈ l, rightB n = true) (hl : l.length ≤ 64) : Docs l.reverse := by
  have hd : ∀ l : List Node, (dirsN l).length ≤ l.length := by
    intro l
    induction l with
    | nil => simp [dirsN]
    | cons x l ih => rw [dirsN]; split <;> simp; omega
  refine ⟨by simp; omega, fun n hn => hok n (by simpa using hn), fun n hn => ?_, by have := hd l.reverse; simp at this; omega⟩
  have hn2 : n ∈ l := by have := dirsN_mem hn; simpa using this
  exact ⟨hok n hn2, (rightB_all (hall n hn2)).2.1⟩
theorem Ends.short {L : List (List InoP)} {D : List Node} {want : AtN} {t : Fnd} (h : Ends L D want t) : want.names.length ≤ 15 ∧ ∀ x ∈ want.names, nameR x = true := by
  obtain ⟨he, ds, names, hw, hc⟩ := h
  obtain ⟨d, _, _, hd⟩ := hw.last
  rcases hc with ⟨h1, h2, h3⟩ | ⟨s, y, l, hs, h1, h2, h3, h4, h5⟩
  · rw [h1]
    exact ⟨hd.short, hw.nm⟩
  · rw [h1]
    have := (seen_good hd.good h2 y (by simp)).2.2.2.1
    refine ⟨by simp; omega, fun x hx => ?_⟩
    rcases List.mem_append.1 hx with hx | hx
    · exact hw.nm x hx
    · rw [List.mem_singleton] at hx; subst hx; exact hs
set_option maxRecDepth 100000 in
theorem law11_Alike_A {w0 : World} {S : St} {s : Stk} {D : List Node} {want : AtN} {t : Fnd} {r1 r2 rt : Rt} (hL : Leads S s D) (hE : Ends s.tabs D want t) {Q : AV → St → Prop} (hq : Q (.int .i64 1) S) :
    AC w0 F_law11_Alike [.agg s.c, .agg (.str (pathOf want.names) :: t.c rt), .int .i64 0, .agg [.vs 1 (want.names.map wStr) r1, .vs 7 (want.nodes.map Node.c) r2, .int .i64 want.err]] S Q := by
  have hc : s.c = [.vs 2 (s.l.map Mnt.c) s.r.strip, .int .i64 s.next] := rfl
  rw [hc]
  obtain ⟨hs1, hs2⟩ := hE.short
  have hpl := pathOf_len hs1 hs2
  have hf := hE.facts
  apply law11_Alike_ok
  unfold G_law11_Alike
  simp [hE.1, ← hc]
  refine ref01_Join_A (by omega) (by omega) ?_
  simp
  cases hn : want.nodes with
  | nil =>
    rw [hn] at hf
    obtain ⟨rfl, h2⟩ := hf
    rw [h2]
    simp [pathOf, Lib.join_nil]
    exact hq
  | cons y l =>
    rw [hn] at hf
    obtain ⟨h1, h2, h3, h4, h5⟩ := hf
    obtain ⟨m, a1, a2, a3, a4⟩ := h2.at_
    have hB := hL.on m a2
    have hnl : y.names.l.length ≤ 1048576 := ((Node.ok_iff y).1 h3).2.1.2.1
    have hkd : (inoAt m.tab (t.sp.2 : Int)).kind = y.kind := by rw [a3]; rfl
    have hsz : (inoAt m.tab (t.sp.2 : Int)).size = y.size := by rw [a3]; rfl
    have htg : (inoAt m.tab (t.sp.2 : Int)).target = y.target := by rw [a3]; rfl
    have hnm : (inoAt m.tab (t.sp.2 : Int)).names = y.names.l := by rw [a3]; rfl
    have hz : ¬ ((l.length : Int) + 1 = 0) := by omega
    simp [hz, -or_join, -or_pure, -or_joinS]
    refine stack_At_A ?_
    rw [a1]
    simp [-or_join, -or_pure, -or_joinS]
    rw [joinK_eq]
    simp [h1, -or_join, -or_pure, -or_joinS]
    refine branch_Kind_A hB ?_
    rw [hkd]
    simp [-or_join, -or_pure, -or_joinS]
    rw [joinK_eq]
    simp [-or_join, -or_pure, -or_joinS]
    refine branch_Size_A hB ?_
    rw [hsz]
    simp [-or_join, -or_pure, -or_joinS]
    rw [joinK_eq]
    simp [-or_join, -or_pure, -or_joinS]
    refine branch_Target_A hB ?_
    rw [htg]
    simp [-or_join, -or_pure, -or_joinS]
    rw [joinK_eq]
    simp [-or_join, -or_pure, -or_joinS]
    refine branch_Names_A hB (by rw [hnm]; omega) (fun r5 _ => ?_)
    rw [hnm]
    simp
    refine ref01_Same_A (by omega) ?_
    simp
    by_cases k2 : y.kind = 2
    · rw [if_pos k2] at h5
      obtain ⟨h51, h52, h53⟩ := h5
      have hdl := h51.len
      have hdl2 : (t.dirs.length : Int) = (l.length : Int) + 1 := by rw [hdl]; simp
      simp [joinK_eq, k2, hdl2, h52, spC]
      exact hq
    · rw [if_neg k2] at h5
      simp [joinK_eq, k2, h5.1]
      exact hq
end Go.Av
set_option linter.unusedVariables false
namespace Go.Av
open Go.Proofs
def linkN (t : Str) : Node := .mk 3 false ⟨[], .nil⟩ [] .nil 0 [] .nil t
theorem linkN_ok {t : Str} (h : t.length ≤ 1048576) : (linkN t).ok := by
  rw [Node.ok_iff]
  simp [linkN, Node.kind, Node.names, Node.items, Node.ir, Node.size, Node.exts, Node.er, Node.target, I64, Ss.ok]
  omega
theorem walk_no_A {w0 : World} (hm : MaxL w0) {S : St} {s : Stk} {D : List Node} {path : Str} {fl : Bool} {w : AtN} (hL : Leads S s D) (hs : path.length ≤ 1048576) (hw : walkN D path fl = w) (he : w.err ≠ 0) {Q : AV → St → Prop}
    (hq : ∀ S', Sx S S' → Q (.tup [.agg (.str [] :: Fnd.none.c .nil), .int .i64 w.err]) S') : AC w0 F_walk_Walk [.agg s.c, .str path, .bool fl] S Q :=
  walk_Walk_A hm hL hs fun S' h => by rw [hw]; exact ⟨fun _ => hq S' h, fun e => absurd e he⟩
theorem walk_yes_A {w0 : World} (hm : MaxL w0) {S : St} {s : Stk} {D : List Node} {path : Str} {fl : Bool} {w : AtN} (hL : Leads S s D) (hs : path.length ≤ 1048576) (hw : walkN D path fl = w) (he : w.err = 0) {Q : AV → St → Prop}
    (hq : ∀ S', Sx S S' → ∀ (t : Fnd) (r : Rt), Ends s.tabs D w t → Q (.tup [.agg (.str (pathOf w.names) :: t.c r.strip), .int .i64 0]) S') : AC w0 F_walk_Walk [.agg s.c, .str path, .bool fl] S Q :=
  walk_Walk_A hm hL hs fun S' h => by rw [hw]; exact ⟨fun e => absurd he e, fun _ => hq S' h⟩
set_option maxRecDepth 100000 in
theorem law11_speaks_A {w0 : World} (hm : MaxL w0) {S : St} {Q : AV → St → Prop} (hq : ∀ S', Sx S S' → Q (.bool true) S') : AC w0 F_law11_speaks [] S Q := by
  apply law11_speaks_ok
  unfold G_law11_speaks
  refine tree_Link_A ?_
  refine tree_Text_A (by simp) (fun r1 hr1 => ?_)
  refine tree_Link_A ?_
  simp
  refine tree_Dir_A (l := [[97], [98], [99]]) (items := [linkN [97], textN [120] r1, linkN [47, 98]]) okR_full okR_full (by simp) (by simp) (fun q1 q2 k1 k2 => ?_)
  have hx := textN_ok (s := [120]) (by simp) hr1
  have hok1 := dirN_ok (o := false) (l := [[97], [98], [99]]) (items := [linkN [97], textN [120] r1, linkN [47, 98]]) (by simp) (by simp [hx, linkN_ok]) k1 k2
  have a1 : oneB (textN [120] r1) = true := textN_right (by simp)
  have a2 : (textN [120] r1).allB = true := by rw [Node.all_eq, a1]; rfl
  have hr : rightB (dirN false [[97], [98], [99]] q1 [linkN [97], textN [120] r1, linkN [47, 98]] q2) = true := by
    have a3 : oneB (dirN false [[97], [98], [99]] q1 [linkN [97], textN [120] r1, linkN [47, 98]] q2) = true := by rfl
    have a5 : (linkN [97]).allB = true := by rfl
    have a6 : (linkN [47, 98]).allB = true := by rfl
    have a4 : (dirN false [[97], [98], [99]] q1 [linkN [97], textN [120] r1, linkN [47, 98]] q2).allB = true := by
      rw [Node.all_eq, a3]
      show (Node.allsB [_, _, _] && true) = true
      rw [Node.allsB, a5, Node.allsB, a2, Node.allsB, a6]
      rfl
    rw [rightB, a4]
    rfl
  have e1 : walkN [dirN false [[97], [98], [99]] q1 [linkN [97], textN [120] r1, linkN [47, 98]] q2] [97] true = ⟨[], [], 4⟩ := by rfl
  have e2 : walkN [dirN false [[97], [98], [99]] q1 [linkN [97], textN [120] r1, linkN [47, 98]] q2] [99] true = ⟨[[98]], [textN [120] r1], 0⟩ := by rfl
  have e3 : walkN [dirN false [[97], [98], [99]] q1 [linkN [97], textN [120] r1, linkN [47, 98]] q2] [98, 47, 46, 46] true = ⟨[], [], 3⟩ := by rfl
  generalize dirN false [[97], [98], [99]] q1 [linkN [97], textN [120] r1, linkN [47, 98]] q2 = d1 at hok1 hr e1 e2 e3 ⊢
  have h0 := ofErr_all [d1] 0 (by simp [hr]) (by simp)
  simp
  refine stack_Of_A (l := [d1]) hm (by simp [hok1]) (by simp) (fun S1 h1 => ⟨fun _ s hs => ?_, fun h => absurd h0 h⟩)
  have hL : Leads S1 s [d1] := Leads.of hs (by simp [hok1]) (by simp [hr]) (by simp)
  simp
  rw [joinK_eq]
  refine stack_Len_A ?_
  rw [hs.len]
  simp
  refine walk_no_A hm hL (by simp) e1 (by simp) (fun S2 hS2 => ?_)
  simp [Fnd.c]
  refine walk_yes_A hm (hL.mono hS2) (by simp) e2 rfl (fun S3 hS3 t r hE => ?_)
  obtain ⟨f1, _⟩ := hE.facts
  have f2 : t.kind = 1 := f1
  simp [Fnd.c]
  refine walk_no_A hm ((hL.mono hS2).mono hS3) (by simp) e3 (by simp) (fun S4 hS4 => ?_)
  have ep : pathOf [[98]] = [47, 98] := by rfl
  simp [Fnd.c, f2, joinK_eq, ep]
  exact hq _ (((h1.trans hS2).trans hS3).trans hS4)
structure Case11 where
  trees : List Node
  tr : Rt
  path : Str
  follow : Bool
set_option maxRecDepth 100000 in
theorem dec_Case11 {x : AV} (h : TV t_socagelaw11_Case x) : ∃ c : Case11, x = .agg [.vs 7 (c.trees.map Node.c) c.tr.strip, .str c.path, .bool c.follow] ∧ (∀ n ∈ c.trees, n.ok) ∧ c.trees.length ≤ 1048576 ∧ c.path.length ≤ 1048576 ∧ (c.tr.strip = .nil → c.trees = []) := by
  obtain ⟨xs, rfl, h2⟩ := h.agg (by simp [isAgg, un_socagelaw11_Case])
  obtain ⟨hl, hf⟩ := h2.struct_inv un_socagelaw11_Case
  match xs, hl with
  | [a0, a1, a2], _ =>
    obtain ⟨l, lr, e0, hlr, hll, hlok⟩ := (dec_Node_aux (hf _ (List.mem_cons_self))).2 rfl
    obtain ⟨p, e1, hp⟩ := dec_str (hf _ (List.mem_cons_of_mem _ List.mem_cons_self)) un_string
    obtain ⟨f, e2⟩ := dec_bool (hf _ (List.mem_cons_of_mem _ (List.mem_cons_of_mem _ List.mem_cons_self))) un_bool
    cases e0
    cases e1
    cases e2
    have hs : lr.strip = lr ∧ (lr.strip = .nil → l = []) := by
      rcases hlr with ⟨rfl, h0⟩ | rfl
      · exact ⟨rfl, fun _ => h0⟩
      · exact ⟨rfl, fun e => by cases e⟩
    exact ⟨⟨l, lr, p, f⟩, by simp [hs.1], hlok, hll, hp, hs.2⟩
end Go.Av
set_option linter.unusedVariables false
namespace Go.Av
open Go.Proofs
theorem walk_tell_A {w0 : World} (hm : MaxL w0) {S : St} {s : Stk} {D : List Node} {want : AtN} {id : Nat} {w : Wk} {h : Nat} {names : List Str} {nm : Str} {rest : List Str} (hW : WkAt S id w) (g : Going s.tabs D want w h names) (ht : w.todo = nm :: rest) (hnd : nm ≠ dd) (htl : w.todo.length ≤ 100000)
    {f : Fnd} {rf : Rt} (hf : f = lookS s.tabs nm (placeP s.tabs names) Fnd.none) {target : Str} (htg : target.length ≤ 1048576) (hty : f.kind = 3 → ∀ y l, seenN (hereN D names) nm = y :: l → target = y.target) {k : AV → St → Prop}
    (hk : ∀ S' e, Exo id S S' → (e ≠ 0 → want.err = e → k (.int .i64 e) S') ∧ (e = 0 → ∀ w2, WkAt S' id w2 → ((∃ h' names', Going s.tabs D want w2 h' names' ∧ (w2.todo = rest ∧ h' = h ∨ h = h' + 1 ∧ ∃ p, p.length ≤ 128 ∧ w2.todo = p ++ rest)) ∨
      (∃ gg nms, WkOn s.tabs D w2.dirs nms ∧ w2.fin = some (pathOf want.names, gg) ∧ w2.todo = [] ∧ Ends s.tabs D want gg)) → k (.int .i64 0) S')) :
    AC w0 F_walk_Walker_Tell [.ptr id 0, .agg (f.c rf.strip), .bool (!decide (f.kind = 0)), .str target] S k := by
  obtain ⟨d, d1, d2, hd⟩ := g.on.last
  have hdl : w.dirs.length ≤ 16 := by
    have := hd.short
    have := g.on.len
    omega
  have hdn : w.dirs ≠ [] := fun e => by have := g.on.len; rw [e] at this; simp at this
  have hnl : nm.length ≤ 64 := by
    have := (g.td nm (by rw [ht]; simp)).resolve_left hnd
    exact (nameR_facts this).2.2.2.1
  have hpth : d.path.length ≤ 1000 := by rw [hd.path]; exact pathOf_len hd.short g.on.nm
  have hhd : w.todo.head? ≠ some dd := by rw [ht]; simpa using hnd
  have hdec : (!decide (f.kind = 0)) = decide (f.kind ≠ 0) := by simp
  rw [hdec]
  refine walk_Tell_A hm hW g.fin hdn (by omega) (by have := g.hops; omega) htl htg hhd (fun e => by rw [ht] at e; cases e) (fun s' rest' d' e1 e2 => ?_)
  rw [ht] at e1
  cases e1
  rw [d1] at e2
  cases e2
  refine ⟨by omega, fun S5 hE5 hW5 => ?_⟩
  obtain ⟨d2, k1, k2, k3, k4, k5⟩ := g.step (fr := rf) ht hnd hf hty
  rw [d1] at k1
  cases k1
  rw [k2] at hW5 ⊢
  generalize w.tell (pathOf names) nm rest f rf (decide (f.kind ≠ 0)) target = te at k5 hW5 ⊢
  obtain ⟨w2, e⟩ := te
  simp only at k5 hW5 ⊢
  obtain ⟨k6, k7⟩ := k5
  refine (hk S5 e hE5).elim fun q1 q2 => ?_
  by_cases he : e = 0
  · subst he
    refine q2 rfl w2 hW5 ?_
    rcases k7 rfl with ⟨h', nm2, g2, hc⟩ | ⟨gg, c1, c2, c3, c4⟩
    · exact .inl ⟨h', nm2, g2, hc⟩
    · exact .inr ⟨gg, names, by rw [c4]; exact g.on, c1, by rw [c4], c2⟩
  · exact q1 he (k6 he)
theorem walk_Tell_end_A {w0 : World} {S : St} {id : Nat} {w : Wk} (h : WkAt S id w) (hne : w.dirs ≠ []) (hl : w.dirs.length ≤ 100000) (he : w.fin ≠ none ∨ w.ask.todo = []) {Q : AV → St → Prop} (hq : ∀ S', Exo id S S' → WkAt S' id w.ask → Q (.int .i64 1) S') :
    AC w0 F_walk_Walker_Tell [.ptr id 0, .agg [.int .i64 0, .int .i64 0, .int .i64 0, .vs 2 [] .nil], .bool false, .str []] S Q := by
  apply walk_Walker_Tell_ok
  unfold G_walk_Walker_Tell
  simp
  refine walk_Ask_A h hne (by omega) (fun S1 hS1 hW => ⟨fun hf s t d e => ?_, fun _ => ?_⟩)
  · rcases he with he | he
    · exact absurd hf he
    · rw [he] at e; cases e
  · simp
    exact hq S1 hS1 hW
theorem ask_ask (w : Wk) : w.ask.ask = w.ask := by
  unfold Wk.ask
  cases hf : w.fin with
  | none =>
    have : w.pop.fin = none := hf
    simp only [this]
    exact Going.pop_idem
  | some p => simp only [hf]
def SInv (s : Stk) (D : List Node) (want : AtN) (base : St) (i : Nat) (S' : St) : Prop :=
  Sx base S' ∧ base.length < S'.length ∧ ∃ w, WkAt S' base.length w ∧ ((∃ h names, Going s.tabs D want w h names ∧ i + w.todo.length + 128 * h ≤ 5632) ∨ (i ≤ 5632 ∧ ∃ g names, WkOn s.tabs D w.dirs names ∧ w.fin = some (pathOf want.names, g) ∧ w.todo = [] ∧ Ends s.tabs D want g))
set_option maxRecDepth 100000 in
theorem law11_WalkSteps_L (w0 : World) (hm : MaxL w0) (x0 : AV) (h0 : TV t_socagelaw11_Case x0) : AC w0 F_law11_WalkSteps [x0] [] fun r _ => r = .bool true := by
  refine law_of fun Q hq => ?_
  obtain ⟨c, rfl, hlok, hll, hpl, htr⟩ := dec_Case11 h0
  apply law11_WalkSteps_ok
  unfold G_law11_WalkSteps
  simp
  refine law11_speaks_A hm (fun S _ => ?_)
  simp
  refine law08_May_A hlok (fun S2 hS2 => ?_)
  cases hmay : mayB c.trees with
  | false => simp [joinK_eq, hq]
  | true =>
  simp
  by_cases hp : 1100 < c.path.length
  · have : (1100 : Int) < c.path.length := by omega
    simp [joinK_eq, this, hq]
  have hpi : ¬ (1100 : Int) < c.path.length := by omega
  obtain ⟨h8, hall⟩ := mayB_iff.1 hmay
  have hright : ∀ n ∈ c.trees, rightB n = true := fun n hn => (hall n hn).2
  simp [hpi]
  refine law08_Stack_A hm hlok hmay (fun S3 s hS3 hs => ?_)
  have hL : Leads S3 s c.trees.reverse := Leads.of hs hlok hright (by omega)
  have hD : Docs c.trees.reverse := Docs.of hlok hright (by omega)
  simp
  refine law08_Above_A (by omega) (fun r3 => ?_)
  simp
  try rw [← List.map_reverse]
  refine ref11_Walk_A hD (by omega) (fun r1 r2 => ?_)
  simp
  refine seen_Root_A hL.ok hL.on (fun r hr => ?_)
  simp
  refine walk_New_A hm (by omega) ?_
  generalize hwant : walkN c.trees.reverse c.path c.follow = want
  unfold walkN at hwant
  cases hsp : splitP c.path with
  | none =>
    rw [hsp] at hwant
    simp only at hwant
    subst hwant
    simp [joinK_eq, hq]
  | some l =>
    rw [hsp] at hwant
    simp only at hwant
    intro S4 hS4 hlt hW
    have htwo := splitP_two hsp
    have hsh := splitP_short hsp
    simp [-or_join, -or_pure, -or_joinS]
    try rw [joinK_eq]
    have hwerr : ∀ t, Ends s.tabs c.trees.reverse want t → want.err = 0 := fun t h => h.1
    refine loopQ_by (fun i : Nat => ([.int .i64 i], [some s.c, some [.vs 1 (want.names.map wStr) r1.strip, .vs 7 (want.nodes.map Node.c) r2.strip, .int .i64 want.err]])) (fun n i S' => SInv s c.trees.reverse want S3 i S' ∧ n = 6000 - i) 6000 0 rfl
      ⟨⟨hS4, hlt, _, hW, .inl ⟨40, [], ⟨hL.start _, rfl, fun x hx => splitP_mem hsp x hx, rfl, hwant⟩, by simp only; omega⟩⟩, rfl⟩ ?_
    rintro n i S5 v b ⟨⟨hS5, hlt5, w, hW5, hcase⟩, hn⟩ hv
    simp at hv
    obtain ⟨hv1, hv2, hv3⟩ := hv
    have hi : i ≤ 5632 := by rcases hcase with ⟨h, names, g, h2⟩ | ⟨h, _⟩ <;> omega
    have hi2 : (i : Int) < 5760 := by omega
    have hL5 := hL.mono hS5
    have hdirs : ∃ names, WkOn s.tabs c.trees.reverse w.dirs names := by
      rcases hcase with ⟨h, names, g, _⟩ | ⟨_, _, names, h, _⟩
      · exact ⟨names, g.on⟩
      · exact ⟨names, h⟩
    obtain ⟨nm0, hon0⟩ := hdirs
    have hdl : w.dirs.length ≤ 16 := by
      obtain ⟨d, _, _, h3⟩ := hon0.last
      have := h3.short
      have := hon0.len
      omega
    have hdn : w.dirs ≠ [] := fun e => by have := hon0.len; rw [e] at this; simp at this
    simp [hv1, hv2, hv3, hi2, -or_join, -or_pure, -or_joinS]
    refine walk_Ask_A hW5 hdn (by omega) (fun S6 hE6 hW6 => ?_)
    have hS6 : Sx S3 S6 := hE6.Sx_of hS5 (Nat.le_refl _)
    have hlt6 : S3.length < S6.length := Nat.lt_of_lt_of_le hlt5 hE6.1
    have hL6 := hL.mono hS6
    rcases hcase with ⟨h, names, g, hm2⟩ | ⟨hi3, g, names, hg1, hg2, hg4, hg3⟩
    · have hf := g.fin
      have hask : w.ask = w.pop := by rw [Wk.ask, hf]
      obtain ⟨names', g'⟩ := g.pop
      rw [← hask] at g'
      have hhd : w.ask.todo.head? ≠ some dd := by rw [hask]; exact popTD_head _ _
      have hpl : w.ask.todo.length ≤ w.todo.length := by rw [hask]; exact popTD_len _ _
      have haa := ask_ask w
      generalize w.ask = w1 at hW6 g' hhd hpl haa ⊢
      have hdl1 : w1.dirs.length ≤ 16 := by
        obtain ⟨d, _, _, h3⟩ := g'.on.last
        have := h3.short
        have := g'.on.len
        omega
      have hdn1 : w1.dirs ≠ [] := fun e => by have := g'.on.len; rw [e] at this; simp at this
      cases ht : w1.todo with
      | nil =>
        refine ⟨fun _ s' t' d e => (by cases e), fun _ => ?_⟩
        simp [-or_join, -or_pure, -or_joinS]
        refine walk_Ask_A hW6 hdn1 (by omega) (fun S7 hE7 hW7 => ?_)
        have hS7 : Sx S3 S7 := hE7.Sx_of hS6 (Nat.le_refl _)
        rw [haa] at hW7 ⊢
        rw [ht]
        refine ⟨fun _ s' t' d e => (by cases e), fun _ => ?_⟩
        simp [joinK_eq]
        refine walk_Tell_end_A hW7 hdn1 (by omega) (.inr (by rw [haa]; exact ht)) (fun S8 hE8 hW8 => ?_)
        have hS8 : Sx S3 S8 := hE8.Sx_of hS7 (Nat.le_refl _)
        rw [haa] at hW8
        simp
        refine walk_Target_A hW8 hdn1 (by omega) ?_
        rw [g'.fin]
        intro d r5 hd
        obtain ⟨d', e1, e2, e3⟩ := g'.end ht
        rw [hd] at e1
        cases e1
        rw [e2]
        simp [Fnd.c]
        refine law11_Alike_A (t := dirF d.place) (rt := r5.strip) (hL.mono hS8) e3 ?_
        simp
        refine walk_Left_A hW8 ?_
        rw [ht]
        simp [hq]
      | cons nm rest =>
        refine ⟨fun _ s' t' d e hd => ?_, fun e => by rcases e with e | e; exact absurd hf e; cases e⟩
        cases e
        have hnd : nm ≠ dd := fun e => hhd (by rw [ht, e]; rfl)
        simp [-or_join, -or_pure, -or_joinS]
        refine walk_Ask_A hW6 hdn1 (by omega) (fun S7 hE7 hW7 => ?_)
        have hS7 : Sx S3 S7 := hE7.Sx_of hS6 (Nat.le_refl _)
        have hlt7 : S3.length < S7.length := Nat.lt_of_lt_of_le hlt6 hE7.1
        have hL7 := hL.mono hS7
        rw [haa] at hW7 ⊢
        rw [ht]
        refine ⟨fun _ s' t' d' e hd' => ?_, fun e => by rcases e with e | e; exact absurd g'.fin e; cases e⟩
        cases e
        rw [hd] at hd'
        cases hd'
        simp
        obtain ⟨d0, d01, d02, hd0⟩ := g'.on.last
        rw [hd] at d01
        cases d01
        have hon := hd0.on
        have hfew := hd0.few
        rw [← hon.len] at hfew
        have hag := look_agrees s.tabs nm _ _ hon (fun n hn => (hd0.good n hn).2.1)
        have hdp := hd0.at_
        rw [hdp] at hon hfew hag ⊢
        refine seen_Look_A hL.ok hL7.on hL.good (by omega) (fun rf hrf => ?_)
        obtain ⟨f, hf'⟩ : ∃ f, f = lookS s.tabs nm (placeP s.tabs names') Fnd.none := ⟨_, rfl⟩
        rw [← hf'] at hag hrf ⊢
        have tell := fun (target : Str) htg hty (k : AV → St → Prop) hk => walk_tell_A (rf := rf) hm hW7 g' ht hnd (by omega) hf' (target := target) htg hty (k := k) hk
        simp [Fnd.c]
        refine joinK_gen (fun j => ∀ target : Str, target.length ≤ 1048576 → (f.kind = 3 → ∀ y l, seenN (hereN c.trees.reverse names') nm = y :: l → target = y.target) → j (.str target) S7) (fun target h1 h2 => ?_) (fun j hj => ?_)
        · simp
          have := tell target h1 h2
          simp only [Fnd.c] at this
          refine this _ (fun S8 e hE8 => ⟨fun he hw2 => ?_, fun he w2 hW2 hc2 => ?_⟩)
          · simp [he, hw2, hq]
          · subst he
            simp
            try simp (disch := omega) only [wrap64]
            have hS8 := hE8.Sx_of hS7 (Nat.le_refl _)
            have hlt8 : S3.length < S8.length := Nat.lt_of_lt_of_le hlt7 hE8.1
            have hll2 : w1.todo.length = rest.length + 1 := by rw [ht]; rfl
            have h40 := g'.hops
            have hhh := g.hops
            refine ⟨6000 - (i + 1), i + 1, by omega, by simp, ⟨hS8, hlt8, w2, hW2, ?_⟩, rfl⟩
            rcases hc2 with ⟨h', nm2, g2, hc3⟩ | ⟨gg, nms, c1, c2, c3, c4⟩
            · refine .inl ⟨h', nm2, g2, ?_⟩
              rcases hc3 with ⟨c1, c2⟩ | ⟨c1, pp, c2, c3⟩
              · rw [c1, c2]; omega
              · rw [c3, List.length_append]; omega
            · exact .inr ⟨by omega, gg, nms, c1, c2, c3, c4⟩
        · by_cases k3 : f.kind = 3
          · simp [k3]
            cases hsn : seenN (hereN c.trees.reverse names') nm with
            | nil =>
              rw [hsn] at hag
              rw [show f = Fnd.none from hag] at k3
              cases k3
            | cons y l2 =>
              rw [hsn] at hag
              obtain ⟨a1, a2, a3, a4, a5, a6, a7, a8⟩ := hag
              obtain ⟨m, b1, b2, b3, b4⟩ := a4.at_
              refine stack_At_A ?_
              rw [b1]
              simp
              refine branch_Target_A (hL7.on m b2) ?_
              rw [b3]
              have hty := splitP_target a5 (a1 ▸ k3)
              obtain ⟨pp, hp1, hp2⟩ := hty
              refine hj _ (by show y.target.length ≤ _; omega) (fun _ y' l' e => by rw [hsn] at e; cases e; rfl)
          · simp [k3]
            exact hj _ (by simp) (fun e => absurd e k3)
    · have hask : w.ask = w := by rw [Wk.ask, hg2]
      rw [hask] at hW6 ⊢
      refine ⟨fun e => (by rw [hg2] at e; cases e), fun _ => ?_⟩
      simp [-or_join, -or_pure, -or_joinS]
      refine walk_Ask_A hW6 hdn (by omega) (fun S7 hE7 hW7 => ?_)
      have hS7 : Sx S3 S7 := hE7.Sx_of hS6 (Nat.le_refl _)
      rw [hask] at hW7 ⊢
      refine ⟨fun e => (by rw [hg2] at e; cases e), fun _ => ?_⟩
      simp [joinK_eq]
      refine walk_Tell_end_A hW7 hdn (by omega) (.inl (by rw [hg2]; simp)) (fun S8 hE8 hW8 => ?_)
      have hS8 : Sx S3 S8 := hE8.Sx_of hS7 (Nat.le_refl _)
      rw [hask] at hW8
      simp
      refine walk_Target_A hW8 hdn (by omega) ?_
      rw [hg2]
      intro r5
      simp [Fnd.c]
      refine law11_Alike_A (t := g) (rt := r5.strip) (hL.mono hS8) hg3 ?_
      simp
      refine walk_Left_A hW8 ?_
      rw [hg4]
      simp [hq]
end Go.Av
