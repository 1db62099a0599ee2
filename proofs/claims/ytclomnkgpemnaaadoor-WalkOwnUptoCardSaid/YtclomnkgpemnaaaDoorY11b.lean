/- Parts of the proofs of this seat: abstract values over the model, and what the functions of the program do. No condition. -/
import Derived.Test.YtclomnkgpemnaaaDoorX04L
import Derived.Test.YtclomnkgpemnaaaDoorX08d
set_option linter.all false
set_option linter.unusedVariables false
namespace Go.Av
theorem splitS_append : ∀ (a t : Str), splitS (a ++ 47 :: t) = splitS a ++ splitS t
  | [], t => by simp [splitS]
  | c :: a, t => by
    have ih := splitS_append a t
    have hc : ∀ l : Str, splitS (c :: l) = if c = 47 then [] :: splitS l else match splitS l with | h :: t => (c :: h) :: t | [] => [[c]] := fun l => by rw [splitS]; rfl
    rw [List.cons_append, hc, hc]
    by_cases e : c = 47
    · simp only [e, if_true]
      rw [ih]
      rfl
    · simp only [e, if_false]
      rw [ih]
      cases hs : splitS a with
      | nil => exact absurd hs (splitS_ne a)
      | cons x l => rfl
theorem partsP_append : ∀ (a b : List Str) {p q : List Str}, partsP a = some p → partsP b = some q → partsP (a ++ b) = some (p ++ q)
  | [], b, p, q, h, k => by simp [partsP] at h; subst h; simpa using k
  | s :: a, b, p, q, h, k => by
    rw [List.cons_append]
    rw [partsP] at h ⊢
    split at h
    · rename_i c; rw [if_pos c]; exact partsP_append a b h k
    · rename_i c
      rw [if_neg c]
      split at h
      · rename_i c2
        rw [if_pos c2]
        rw [Option.map_eq_some_iff] at h
        obtain ⟨p', h1, rfl⟩ := h
        rw [partsP_append a b h1 k]
        rfl
      · cases h
theorem own_paths {l : List Str} (hl : l.length ≤ 15) (h : ∀ s ∈ l, nameR s = true) : splitP (46 :: pathOf l) = some l ∧ splitP ([46, 46, 47, 46, 47, 47] ++ (pathOf l ++ [47, 46])) = some (dd :: l) := by
  have h1 := splitP_pathOf hl h
  have h2 := pathOf_len hl h
  have h3 : partsP (splitS (pathOf l)) = some l := by
    unfold splitP at h1
    split at h1
    · cases h1
    · exact h1
  have hj : partsP (splitS (Lib.join l [47])) = some l := by
    rw [pathOf, show (47 :: Lib.join l [47] : Str) = [] ++ 47 :: Lib.join l [47] from rfl, splitS_append] at h3
    simpa [splitS, partsP] using h3
  constructor
  · have e : splitS (46 :: pathOf l) = [[46]] ++ splitS (Lib.join l [47]) := by
      rw [pathOf, show (46 :: 47 :: Lib.join l [47] : Str) = [46] ++ 47 :: Lib.join l [47] from rfl, splitS_append]
      rfl
    rw [splitP, if_neg (by simp; omega), e]
    exact partsP_append [[46]] _ (by rfl) hj
  · have e : splitS ([46, 46, 47, 46, 47, 47] ++ (pathOf l ++ [47, 46])) = [[46, 46], [46], [], []] ++ (splitS (Lib.join l [47]) ++ [[46]]) := by
      rw [pathOf, show (([46, 46, 47, 46, 47, 47] ++ ((47 :: Lib.join l [47]) ++ [47, 46])) : Str) = [46, 46] ++ 47 :: ([46] ++ 47 :: ([] ++ 47 :: ([] ++ 47 :: (Lib.join l [47] ++ 47 :: [46])))) by simp]
      rw [splitS_append, splitS_append, splitS_append, splitS_append, splitS_append]
      rfl
    rw [splitP, if_neg (by simp at h2 ⊢; omega), e]
    exact partsP_append [[46, 46], [46], [], []] _ (p := [dd]) (by rfl) (by simpa using partsP_append _ [[46]] hj (q := []) (by rfl))
end Go.Av
set_option linter.unusedVariables false
namespace Go.Av
open Go.Proofs
def linkN (t : Str) : Node := .mk 3 false ⟨[], .nil⟩ [] .nil 0 [] .nil t
theorem linkN_ok {t : Str} (h : t.length ≤ 1048576) : (linkN t).ok := by
  rw [Node.ok_iff]
  simp [linkN, Node.kind, Node.names, Node.items, Node.ir, Node.size, Node.exts, Node.er, Node.target, I64, Ss.ok]
  omega
theorem walk_no_A {w0 : World} (hm : MaxL w0) {S : St} {s : Stk} {D : List Node} {path : Str} {fl : Bool} {w : AtN} (hL : Leads S s D) (hs : path.length ≤ 1048576) (hw : walkN D path fl = w) (he : w.err ≠ 0) {Q : AV → St → Prop}
    (hq : ∀ S', Sx S S' → Q (.tup [.agg (.str [] :: Fnd.none.c .nil), .int .i64 w.err]) S') : AC w0 F_walk_Walk [.agg s.c, .str path, .bool fl] S Q :=
  walk_Walk_A hm hL hs fun S' h => by rw [hw]; exact ⟨fun _ => hq S' h, fun e => absurd e he⟩
theorem walk_yes_A {w0 : World} (hm : MaxL w0) {S : St} {s : Stk} {D : List Node} {path : Str} {fl : Bool} {w : AtN} (hL : Leads S s D) (hs : path.length ≤ 1048576) (hw : walkN D path fl = w) (he : w.err = 0) {Q : AV → St → Prop}
    (hq : ∀ S', Sx S S' → ∀ (t : Fnd) (r : Rt), Ends s.tabs D w t → Q (.tup [.agg (.str (pathOf w.names) :: t.c r.strip), .int .i64 0]) S') : AC w0 F_walk_Walk [.agg s.c, .str path, .bool fl] S Q :=
  walk_Walk_A hm hL hs fun S' h => by rw [hw]; exact ⟨fun e => absurd he e, fun _ => hq S' h⟩
set_option maxRecDepth 100000 in
theorem law11_speaks_A {w0 : World} (hm : MaxL w0) {S : St} {Q : AV → St → Prop} (hq : ∀ S', Sx S S' → Q (.bool true) S') : AC w0 F_law11_speaks [] S Q := by
  apply law11_speaks_ok
  unfold G_law11_speaks
  refine tree_Link_A ?_
  refine tree_Text_A (by simp) (fun r1 hr1 => ?_)
  refine tree_Link_A ?_
  simp
  refine tree_Dir_A (l := [[97], [98], [99]]) (items := [linkN [97], textN [120] r1, linkN [47, 98]]) okR_full okR_full (by simp) (by simp) (fun q1 q2 k1 k2 => ?_)
  have hx := textN_ok (s := [120]) (by simp) hr1
  have hok1 := dirN_ok (o := false) (l := [[97], [98], [99]]) (items := [linkN [97], textN [120] r1, linkN [47, 98]]) (by simp) (by simp [hx, linkN_ok]) k1 k2
  have a1 : oneB (textN [120] r1) = true := textN_right (by simp)
  have a2 : (textN [120] r1).allB = true := by rw [Node.all_eq, a1]; rfl
  have hr : rightB (dirN false [[97], [98], [99]] q1 [linkN [97], textN [120] r1, linkN [47, 98]] q2) = true := by
    have a3 : oneB (dirN false [[97], [98], [99]] q1 [linkN [97], textN [120] r1, linkN [47, 98]] q2) = true := by rfl
    have a5 : (linkN [97]).allB = true := by rfl
    have a6 : (linkN [47, 98]).allB = true := by rfl
    have a4 : (dirN false [[97], [98], [99]] q1 [linkN [97], textN [120] r1, linkN [47, 98]] q2).allB = true := by
      rw [Node.all_eq, a3]
      show (Node.allsB [_, _, _] && true) = true
      rw [Node.allsB, a5, Node.allsB, a2, Node.allsB, a6]
      rfl
    rw [rightB, a4]
    rfl
  have e1 : walkN [dirN false [[97], [98], [99]] q1 [linkN [97], textN [120] r1, linkN [47, 98]] q2] [97] true = ⟨[], [], 4⟩ := by rfl
  have e2 : walkN [dirN false [[97], [98], [99]] q1 [linkN [97], textN [120] r1, linkN [47, 98]] q2] [99] true = ⟨[[98]], [textN [120] r1], 0⟩ := by rfl
  have e3 : walkN [dirN false [[97], [98], [99]] q1 [linkN [97], textN [120] r1, linkN [47, 98]] q2] [98, 47, 46, 46] true = ⟨[], [], 3⟩ := by rfl
  generalize dirN false [[97], [98], [99]] q1 [linkN [97], textN [120] r1, linkN [47, 98]] q2 = d1 at hok1 hr e1 e2 e3 ⊢
  have h0 := ofErr_all [d1] 0 (by simp [hr]) (by simp)
  simp
  refine stack_Of_A (l := [d1]) hm (by simp [hok1]) (by simp) (fun S1 h1 => ⟨fun _ s hs => ?_, fun h => absurd h0 h⟩)
  have hL : Leads S1 s [d1] := Leads.of hs (by simp [hok1]) (by simp [hr]) (by simp)
  simp
  rw [joinK_eq]
  refine stack_Len_A ?_
  rw [hs.len]
  simp
  refine walk_no_A hm hL (by simp) e1 (by simp) (fun S2 hS2 => ?_)
  simp [Fnd.c]
  refine walk_yes_A hm (hL.mono hS2) (by simp) e2 rfl (fun S3 hS3 t r hE => ?_)
  obtain ⟨f1, _⟩ := hE.facts
  have f2 : t.kind = 1 := f1
  simp [Fnd.c]
  refine walk_no_A hm ((hL.mono hS2).mono hS3) (by simp) e3 (by simp) (fun S4 hS4 => ?_)
  have ep : pathOf [[98]] = [47, 98] := by rfl
  simp [Fnd.c, f2, joinK_eq, ep]
  exact hq _ (((h1.trans hS2).trans hS3).trans hS4)
structure Case11 where
  trees : List Node
  tr : Rt
  path : Str
  follow : Bool
set_option maxRecDepth 100000 in
theorem dec_Case11 {x : AV} (h : TV t_socagelaw11_Case x) : ∃ c : Case11, x = .agg [.vs 7 (c.trees.map Node.c) c.tr.strip, .str c.path, .bool c.follow] ∧ (∀ n ∈ c.trees, n.ok) ∧ c.trees.length ≤ 1048576 ∧ c.path.length ≤ 1048576 ∧ (c.tr.strip = .nil → c.trees = []) := by
  obtain ⟨xs, rfl, h2⟩ := h.agg (by simp [isAgg, un_socagelaw11_Case])
  obtain ⟨hl, hf⟩ := h2.struct_inv un_socagelaw11_Case
  match xs, hl with
  | [a0, a1, a2], _ =>
    obtain ⟨l, lr, e0, hlr, hll, hlok⟩ := (dec_Node_aux (hf _ (List.mem_cons_self))).2 rfl
    obtain ⟨p, e1, hp⟩ := dec_str (hf _ (List.mem_cons_of_mem _ List.mem_cons_self)) un_string
    obtain ⟨f, e2⟩ := dec_bool (hf _ (List.mem_cons_of_mem _ (List.mem_cons_of_mem _ List.mem_cons_self))) un_bool
    cases e0
    cases e1
    cases e2
    have hs : lr.strip = lr ∧ (lr.strip = .nil → l = []) := by
      rcases hlr with ⟨rfl, h0⟩ | rfl
      · exact ⟨rfl, fun _ => h0⟩
      · exact ⟨rfl, fun e => by cases e⟩
    exact ⟨⟨l, lr, p, f⟩, by simp [hs.1], hlok, hll, hp, hs.2⟩
theorem law11_WalkLeads_L (w0 : World) (hm : MaxL w0) (x0 : AV) (h0 : TV t_socagelaw11_Case x0) : AC w0 F_law11_WalkLeads [x0] [] fun r _ => r = .bool true := by
  refine law_of fun Q hq => ?_
  obtain ⟨c, rfl, hlok, hll, hpl, htr⟩ := dec_Case11 h0
  apply law11_WalkLeads_ok
  unfold G_law11_WalkLeads
  simp
  refine law11_speaks_A hm (fun S _ => ?_)
  simp
  refine law08_May_A hlok (fun S2 hS2 => ?_)
  cases hmay : mayB c.trees with
  | false => simp [joinK_eq, hq]
  | true =>
  simp
  by_cases hp : 1100 < c.path.length
  · have : (1100 : Int) < c.path.length := by omega
    simp [joinK_eq, this, hq]
  have hpi : ¬ (1100 : Int) < c.path.length := by omega
  obtain ⟨h8, hall⟩ := mayB_iff.1 hmay
  have hright : ∀ n ∈ c.trees, rightB n = true := fun n hn => (hall n hn).2
  simp [joinK_eq, hpi]
  refine law08_Stack_A hm hlok hmay (fun S3 s hS3 hs => ?_)
  have hL : Leads S3 s c.trees.reverse := Leads.of hs hlok hright (by omega)
  have hD : Docs c.trees.reverse := Docs.of hlok hright (by omega)
  simp
  refine walk_Walk_A hm hL (by omega) (fun S4 hS4 => ⟨fun he => ?_, fun he t r hE => ?_⟩)
  · simp [Fnd.c, Fnd.none]
    refine law08_Above_A (by omega) (fun r3 => ?_)
    simp
    try rw [← List.map_reverse]
    refine ref11_Walk_A hD (by omega) (fun r1 r2 => ?_)
    simp
    have := law11_Alike_err_A (w0 := w0) (S := S4) (s := s) (want := walkN c.trees.reverse c.path c.follow) (r1 := r1.strip) (r2 := r2.strip) he (Q := fun r S' => optK (binA .eql r (.int .i64 1)) fun t48 => Q t48 S') (by simp [hq])
    simpa [Fnd.c, Fnd.none] using this
  · simp [Fnd.c]
    refine law08_Above_A (by omega) (fun r3 => ?_)
    simp
    try rw [← List.map_reverse]
    refine ref11_Walk_A hD (by omega) (fun r1 r2 => ?_)
    simp
    have := law11_Alike_A (w0 := w0) (r1 := r1.strip) (r2 := r2.strip) (rt := r.strip) (hL.mono hS4) hE (Q := fun r S' => optK (binA .eql r (.int .i64 1)) fun t48 => Q t48 S') (by simp [hq])
    simpa [Fnd.c] using this
theorem Ends.paths {L : List (List InoP)} {D : List Node} {want : AtN} {t : Fnd} (h : Ends L D want t) :
    ∀ p ∈ [pathOf want.names, 46 :: pathOf want.names, [46, 46, 47, 46, 47, 47] ++ (pathOf want.names ++ [47, 46])], p.length ≤ 1010 ∧ walkN D p false = want := by
  obtain ⟨h1, h2⟩ := h.short
  have h3 := pathOf_len h1 h2
  obtain ⟨h4, h5⟩ := own_paths h1 h2
  have h6 := splitP_pathOf h1 h2
  have h7 := h.own 40
  intro p hp
  simp only [List.mem_cons, List.not_mem_nil, or_false] at hp
  rcases hp with rfl | rfl | rfl
  · exact ⟨by omega, by rw [walkN, h6]; exact h7⟩
  · exact ⟨by simp; omega, by rw [walkN, h4]; exact h7⟩
  · refine ⟨by simp; omega, ?_⟩
    rw [walkN, h5]
    simp only
    rw [alongN_eq, alongS, if_pos rfl, ← alongN_eq]
    exact h7
set_option maxRecDepth 100000 in
theorem law11_WalkOwn_L (w0 : World) (hm : MaxL w0) (x0 : AV) (h0 : TV t_socagelaw11_Case x0) : AC w0 F_law11_WalkOwn [x0] [] fun r _ => r = .bool true := by
  refine law_of fun Q hq => ?_
  obtain ⟨c, rfl, hlok, hll, hpl, htr⟩ := dec_Case11 h0
  apply law11_WalkOwn_ok
  unfold G_law11_WalkOwn
  simp
  refine law11_speaks_A hm (fun S _ => ?_)
  simp
  refine law08_May_A hlok (fun S2 hS2 => ?_)
  cases hmay : mayB c.trees with
  | false => simp [joinK_eq, hq]
  | true =>
  simp
  by_cases hp : 1100 < c.path.length
  · have : (1100 : Int) < c.path.length := by omega
    simp [joinK_eq, this, hq]
  have hpi : ¬ (1100 : Int) < c.path.length := by omega
  obtain ⟨h8, hall⟩ := mayB_iff.1 hmay
  have hright : ∀ n ∈ c.trees, rightB n = true := fun n hn => (hall n hn).2
  simp [hpi]
  refine law08_Stack_A hm hlok hmay (fun S3 s hS3 hs => ?_)
  have hL : Leads S3 s c.trees.reverse := Leads.of hs hlok hright (by omega)
  simp
  refine walk_Walk_A hm hL (by omega) (fun S4 hS4 => ⟨fun he => ?_, fun he t r hE => ?_⟩)
  · simp [Fnd.c, Fnd.none, he, hq]
  · have hpaths := hE.paths
    generalize walkN c.trees.reverse c.path c.follow = want at he hE hpaths
    have hpl2 := pathOf_len hE.short.1 hE.short.2
    simp [Fnd.c]
    rw [joinK_eq]
    rw [binA_add_str (by simp; omega), binA_add_str (by simp; omega)]
    simp
    rw [binA_add_str (by simp; omega)]
    simp
    have e3 : ([46, 46, 47, 46, 47, 47] ++ (pathOf want.names ++ [47, 46]) : Str) = 46 :: 46 :: 47 :: 46 :: 47 :: 47 :: (pathOf want.names ++ [47, 46]) := rfl
    rw [e3] at hpaths
    generalize hes : ([[AV.str (pathOf want.names)], [AV.str (46 :: pathOf want.names)], [AV.str (46 :: 46 :: 47 :: 46 :: 47 :: 47 :: (pathOf want.names ++ [47, 46]))]] : List (List AV)) = es
    generalize hps : ([pathOf want.names, 46 :: pathOf want.names, 46 :: 46 :: 47 :: 46 :: 47 :: 47 :: (pathOf want.names ++ [47, 46])] : List Str) = ps at hpaths
    have hep : es = ps.map wStr := by rw [← hes, ← hps]; rfl
    have hpn : (3 : Int) = ps.length := by rw [← hps]; rfl
    subst hep
    rw [hpn]
    have hp3 : ps.length = 3 := by omega
    have hL4 := hL.mono hS4
    refine loop_list ps (fun i (_ : Unit) => ([.int .i64 i], [some s.c, some [.str (pathOf want.names), .int .i64 t.kind, .int .i64 t.sp.1, .int .i64 t.sp.2, .vs 2 (t.dirs.map spC) r.strip]])) (fun i _ S' => Sx S4 S') () rfl (Sx.refl _) ?_ ?_
    · rintro i _ S5 v b p hi hxi hdr hcc hmem hS5 hv
      simp at hv
      obtain ⟨hv1, hv2, hv3⟩ := hv
      obtain ⟨hp1, hp2⟩ := hpaths p hmem
      simp [hv1, hv2, hv3, hcc, hxi]
      refine walk_yes_A hm (hL4.mono hS5) (by omega) hp2 he (fun S6 hS6 u r6 hU => ?_)
      have htu := hE.same hU
      subst htu
      have hp1' : (p.length : Int) ≤ 1024 := by omega
      simp [Fnd.c, hp1']
      try simp [joinK_eq]
      try simp (disch := omega) only [wrap64]
      exact .next hi () rfl (hS5.trans hS6)
    · rintro _ S5 v b hS5 hv N
      simp at hv
      obtain ⟨hv1, hv2, hv3⟩ := hv
      simp [hv1, hv2, hv3, hq]
end Go.Av
