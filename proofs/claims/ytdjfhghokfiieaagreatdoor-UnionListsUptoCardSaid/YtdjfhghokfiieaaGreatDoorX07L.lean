/- Parts of the proofs of this seat: abstract values over the model, and what the functions of the program do. No condition. -/
import Derived.Test.YtdjfhghokfiieaaGreatDoorX04L
import Derived.Test.YtdjfhghokfiieaaGreatDoorM8
import Derived.Test.YtdjfhghokfiieaaGreatDoorM9
import Derived.Test.YtdjfhghokfiieaaGreatDoorD0
import Derived.Test.YtdjfhghokfiieaaGreatDoorM5
import Derived.Test.YtdjfhghokfiieaaGreatDoorXDelR
import Derived.Test.YtdjfhghokfiieaaGreatDoorY19
import Derived.Test.YtdjfhghokfiieaaGreatDoorY11b
import Derived.Test.YtdjfhghokfiieaaGreatDoorX10d
import Derived.Shelf.SlLaysE0
import Derived.Shelf.RegionOpenPlain
import Derived.WalkKit
import Derived.Deep.LoopGhost
import Derived.Deep.RegionLaw
import Derived.Lib.Walk
import Derived.Sort.WalkB12
import Derived.Lib.SliceRun
import Derived.Shelf.Lay
import Derived.Shelf.LaySoft
import Derived.Shelf.SlGeneric
import Derived.Ground.SlgnProg
import Derived.Shelf.SlicesE.Clone
set_option linter.all false
set_option linter.unusedVariables false
namespace Go.Av
open Go.Proofs
theorem StkOf.get {S0 S : St} {l : List Node} {s : Stk} (h : StkOf S0 S l s) {k : Nat} (hk : k < l.length) : ∃ m n, s.l[k]? = some m ∧ l[l.length - 1 - k]? = some n ∧ m.num = l.length - 1 - k ∧ m.tab = n.tab 0 ∧ m ∈ s.l := by
  have h1 : k < s.l.length := by rw [h.len]; exact hk
  have hm : s.l[k]? = some s.l[k] := List.getElem?_eq_getElem h1
  have hn : l[l.length - 1 - k]? = some (l[l.length - 1 - k]'(by omega)) := List.getElem?_eq_getElem (by omega)
  refine ⟨_, _, hm, hn, ?_, ?_, List.getElem_mem h1⟩
  · have := congrArg (fun x => x[k]?) h.nums
    simp only [List.getElem?_map, hm, Option.map_some] at this
    rw [List.getElem?_reverse (by simpa using hk), List.length_range, List.getElem?_range (by omega)] at this
    exact Option.some.inj this
  · have := congrArg (fun x => x[k]?) h.tabs
    simp only [List.getElem?_map, hm, Option.map_some] at this
    rw [List.getElem?_reverse hk, hn] at this
    exact Option.some.inj this
end Go.Av
set_option linter.unusedVariables false
namespace Go.Av
open Go.Proofs
theorem StkD.of {S0 S : St} {l : List Node} {s : Stk} (hs : StkOf S0 S l s) (hok : ∀ n ∈ l, n.ok) (hall : ∀ n ∈ l, rightB n = true) (hl : l.length ≤ 64) : StkD S s l.reverse (fun k => ((((List.range l.length).map fun i : Nat => ((l.length - 1 - i : Nat) : Int))[k]?).getD 0)) := by
  refine ⟨Leads.of hs hok hall hl, stk_tabs hs, fun k m hm => ?_⟩
  have hk : k < l.length := by have := (List.getElem?_eq_some_iff.1 hm).1; rw [hs.len] at this; exact this
  obtain ⟨m', n, h1, h2, h3, h4, h5⟩ := hs.get hk
  rw [h1] at hm
  cases hm
  simp [hk, h3]
theorem ofE_xyz : ofE 0 [120, 121, 122] = [⟨0, [120, 121, 122]⟩] := by
  rw [ofE]
  simp [ofE]
set_option maxRecDepth 100000 in
theorem law12_speaks_A {w0 : World} (hm : MaxL w0) {S : St} {Q : AV → St → Prop} (hq : ∀ S', Sx S S' → Q (.bool true) S') : AC w0 F_law12_speaks [] S Q := by
  apply law12_speaks_ok
  unfold G_law12_speaks
  refine tree_Text_A (by simp) (fun r1 hr1 => ?_)
  refine tree_Dir_A (l := []) (items := []) okR_nil okR_nil (by simp) (by simp) (fun q1 q2 k1 k2 => ?_)
  simp
  refine tree_Dir_A (l := [[97], [100]]) (items := [textN [120, 121, 122] r1, dirN false [] q1 [] q2]) okR_full okR_full (by simp) (by simp) (fun q3 q4 k3 k4 => ?_)
  have hx := textN_ok (s := [120, 121, 122]) (by simp) hr1
  have hok0 := dirN_ok (o := false) (l := []) (items := []) (by simp) (by simp) k1 k2
  have hok1 := dirN_ok (o := false) (l := [[97], [100]]) (items := [textN [120, 121, 122] r1, dirN false [] q1 [] q2]) (by simp) (by simp [hx, hok0]) k3 k4
  have a1 : oneB (textN [120, 121, 122] r1) = true := textN_right (by simp)
  have a2 : (textN [120, 121, 122] r1).allB = true := by rw [Node.all_eq, a1]; rfl
  have hr : rightB (dirN false [[97], [100]] q3 [textN [120, 121, 122] r1, dirN false [] q1 [] q2] q4) = true := by
    have a3 : oneB (dirN false [[97], [100]] q3 [textN [120, 121, 122] r1, dirN false [] q1 [] q2] q4) = true := by rfl
    have a5 : (dirN false [] q1 [] q2).allB = true := by rfl
    have a4 : (dirN false [[97], [100]] q3 [textN [120, 121, 122] r1, dirN false [] q1 [] q2] q4).allB = true := by
      rw [Node.all_eq, a3]
      show (Node.allsB [_, _] && true) = true
      rw [Node.allsB, a2, Node.allsB, a5]
      rfl
    rw [rightB, a4]
    rfl
  have e1 : ∀ ids, (doR [dirN false [[97], [100]] q3 [textN [120, 121, 122] r1, dirN false [] q1 [] q2] q4] ids ⟨4, [97], 1, 9, 0, []⟩).text = [121, 122] := fun ids => by
    show readP 3 (ofE 0 [120, 121, 122]) 1 9 = [121, 122]
    rw [ofE_xyz]
    decide
  have e2 : ∀ ids, (doR [dirN false [[97], [100]] q3 [textN [120, 121, 122] r1, dirN false [] q1 [] q2] q4] ids ⟨4, [100], 0, 0, 0, []⟩).err = 5 := fun ids => by rfl
  have e3 : ∀ ids, (doR [dirN false [[97], [100]] q3 [textN [120, 121, 122] r1, dirN false [] q1 [] q2] q4] ids ⟨3, [97], 0, 0, 0, []⟩).err = 1 := fun ids => by rfl
  generalize dirN false [[97], [100]] q3 [textN [120, 121, 122] r1, dirN false [] q1 [] q2] q4 = d1 at hok1 hr e1 e2 e3 ⊢
  have h0 := ofErr_all [d1] 0 (by simp [hr]) (by simp)
  simp
  refine stack_Of_A (l := [d1]) hm (by simp [hok1]) (by simp) (fun S1 h1 => ⟨fun _ s hs => ?_, fun h => absurd h0 h⟩)
  have hL := StkD.of hs (by simp [hok1]) (by simp [hr]) (by simp)
  simp
  rw [joinK_eq]
  refine stack_Len_A ?_
  rw [hs.len]
  simp
  refine union_Do_A (o := ⟨4, [97], 1, 9, 0, []⟩) hm hL (by simp) (fun S2 hS2 => ?_)
  simp [ResN.c]
  refine union_Do_A (o := ⟨4, [100], 0, 0, 0, []⟩) hm (hL.mono hS2) (by simp) (fun S3 hS3 => ?_)
  simp [ResN.c]
  refine union_Do_A (o := ⟨3, [97], 0, 0, 0, []⟩) hm ((hL.mono hS2).mono hS3) (by simp) (fun S4 hS4 => ?_)
  have e1' := e1 (fun k => ((((List.range [d1].length).map fun i : Nat => (([d1].length - 1 - i : Nat) : Int))[k]?).getD 0))
  have e2' := e2 (fun k => ((((List.range [d1].length).map fun i : Nat => (([d1].length - 1 - i : Nat) : Int))[k]?).getD 0))
  have e3' := e3 (fun k => ((((List.range [d1].length).map fun i : Nat => (([d1].length - 1 - i : Nat) : Int))[k]?).getD 0))
  simp at e1' e2' e3'
  simp [ResN.c, e1', e2', e3', joinK_eq]
  exact hq _ (((h1.trans hS2).trans hS3).trans hS4)
end Go.Av
set_option linter.unusedVariables false
namespace Go.Av
open Go.Proofs
def listErr (w : AtN) : Int := if w.err ≠ 0 then w.err else match w.nodes with | y :: _ => if y.kind = 2 then 0 else 3 | [] => 0
set_option maxRecDepth 100000 in
theorem union_List_A {w0 : World} (hm : MaxL w0) {S : St} {s : Stk} {D : List Node} {path : Str} (hL : Leads S s D) (hp : path.length ≤ 1048576) {Q : AV → St → Prop}
    (hq : ∀ S', Sx S S' → (listErr (walkN D path true) ≠ 0 → Q (.tup [.str [], .vs 2 [] .nil, .int .i64 (listErr (walkN D path true))]) S') ∧
      (listErr (walkN D path true) = 0 → (∃ t, Ends s.tabs D (walkN D path true) t) → ∀ r : Rt, Q (.tup [.str (pathOf (walkN D path true).names), .vs 2 ((listN (walkN D path true).nodes).map Ent.c) r, .int .i64 0]) S')) : AC w0 F_union_List [.agg s.c, .str path] S Q := by
  have hc : s.c = [.vs 2 (s.l.map Mnt.c) s.r.strip, .int .i64 s.next] := rfl
  rw [hc]
  apply union_List_ok
  unfold G_union_List
  simp [← hc]
  refine walk_Walk_A hm hL hp (fun S2 hS2 => ⟨fun he => ?_, fun he t r hE => ?_⟩)
  · have e : listErr (walkN D path true) = (walkN D path true).err := by rw [listErr, if_pos he]
    have h0 := (hq S2 hS2).1 (by rw [e]; exact he)
    rw [e] at h0
    simp [Fnd.c, Fnd.none, he]
    exact h0
  · have e : listErr (walkN D path true) = match (walkN D path true).nodes with | y :: _ => if y.kind = 2 then 0 else 3 | [] => 0 := by rw [listErr, if_neg (by rw [he]; simp)]
    have hq1 := (hq S2 hS2).1
    have hq3 := fun S3 (hS3 : Sx S2 S3) h => (hq S3 (hS2.trans hS3)).2 h ⟨t, hE⟩
    rw [e] at hq1 hq3
    generalize walkN D path true = want at hq1 hq3 hE
    have hf := hE.facts
    have hLn := hL.mono hS2
    cases hn : want.nodes with
    | nil =>
      rw [hn] at hf hq3
      obtain ⟨rfl, h2⟩ := hf
      simp [Fnd.c]
      refine merge_List_A (p := []) (dirs := []) hLn.ok hLn.on hLn.good trivial (by simp) (by simp) (fun S3 r3 hS3 hr3 => ?_)
      have := hq3 S3 hS3 rfl r3
      simpa using this
    | cons y l =>
      rw [hn] at hf hq3 hq1
      obtain ⟨h1, h2, h3, h4, h5⟩ := hf
      by_cases k2 : y.kind = 2
      · rw [if_pos k2] at h5
        obtain ⟨h51, h52, h53⟩ := h5
        have hpl : t.dirs.length ≤ 64 := by
          rw [h51.len]
          obtain ⟨ds, hw, hh⟩ := hE.way (fun y' l' e' => by rw [hn] at e'; cases e'; exact k2)
          obtain ⟨d, _, _, hd⟩ := hw.last
          have := hd.few
          rw [← hh, hn] at this
          exact this
        simp [Fnd.c, h1, k2]
        refine merge_List_A hLn.ok hLn.on hLn.good h51 (fun n hn => ?_) hpl (fun S3 r3 hS3 hr3 => ?_)
        · obtain ⟨g1, g2, g3, g4⟩ := h53 n hn
          refine ⟨g1, g2, ?_⟩
          rw [allB_lens g2]
          have := (counts_mem (l := n.items)).1
          rw [Node.count_eq] at g4
          omega
        · have := hq3 S3 hS3 (by simp [k2]) r3
          simpa using this
      · simp only [if_neg k2] at hq1
        simp [Fnd.c, h1, k2]
        exact hq1 (by simp)
set_option maxRecDepth 100000 in
theorem ref12_List_A {w0 : World} {S : St} {s : Stk} {D : List Node} {dr : Rt} {path : Str} (hL : Leads S s D) (hD : Docs D) (hp : path.length ≤ 1048576) {Q : AV → St → Prop}
    (hq1 : listErr (walkN D path true) ≠ 0 → Q (.tup [.vs 1 [] .nil, .vs 2 [] .nil, .int .i64 (listErr (walkN D path true))]) S)
    (hq2 : listErr (walkN D path true) = 0 → ∀ r r2 : Rt, Q (.tup [.vs 1 ((walkN D path true).names.map wStr) r.strip, .vs 2 ((listN (walkN D path true).nodes).map Ent.c) r2, .int .i64 0]) S) : AC w0 F_ref12_List [.vs 7 (D.map Node.c) dr, .str path] S Q := by
  apply ref12_List_ok
  unfold G_ref12_List
  refine ref11_Walk_A hD hp (fun r1 r2 => ?_)
  have hex := hL.ends (path := path) (fl := true)
  unfold listErr at hq1 hq2
  generalize walkN D path true = want at hq1 hq2 hex
  by_cases he : want.err ≠ 0
  · rw [if_pos he] at hq1
    simp [he]
    exact hq1 he
  rw [if_neg he] at hq1 hq2
  have he0 : want.err = 0 := by simpa using he
  obtain ⟨t, hE⟩ := hex he0
  have hf := hE.facts
  simp [he0]
  cases hn : want.nodes with
  | nil =>
    rw [hn] at hq1 hq2
    simp [joinK_eq]
    refine ref10_List_A (dirs := []) (by simp) (by simp) (fun r => ?_)
    simpa using hq2 rfl r1 r
  | cons y l =>
    rw [hn] at hq1 hq2 hf
    obtain ⟨f1, f2, f3, f4, f5⟩ := hf
    have c0 : y.c[0]? = some (.int .i64 y.kind) := by rw [Node.c_eq]; rfl
    have cl : y.c.length = 7 := by rw [Node.c_eq]; rfl
    simp [c0, cl, joinK_eq]
    by_cases k2 : y.kind = 2
    · rw [if_pos k2] at f5
      obtain ⟨h51, h52, h53⟩ := f5
      have hpl : (y :: l).length ≤ 64 := by
        obtain ⟨ds, hw, hh⟩ := hE.way (fun y' l' e' => by rw [hn] at e'; cases e'; exact k2)
        obtain ⟨d, _, _, hd⟩ := hw.last
        have := hd.few
        rw [← hh, hn] at this
        exact this
      simp [k2]
      refine ref10_List_A (dirs := y :: l) hpl (fun n hn => ?_) (fun r => ?_)
      · obtain ⟨g1, g2, g3, g4⟩ := h53 n hn
        refine ⟨g1, g2, ?_⟩
        rw [allB_lens g2]
        have := (counts_mem (l := n.items)).1
        rw [Node.count_eq] at g4
        omega
      · simpa using hq2 (by simp [k2]) r1 r
    · simp only [if_neg k2] at hq1
      simp [k2]
      exact hq1 (by simp)
end Go.Av
set_option linter.unusedVariables false
namespace Go.Av
open Go.Proofs
theorem listErr_zero {w : AtN} (h : listErr w = 0) : w.err = 0 ∧ ∀ y l, w.nodes = y :: l → y.kind = 2 := by
  unfold listErr at h
  by_cases he : w.err = 0
  · rw [if_neg (by simp [he])] at h
    refine ⟨he, fun y l e => ?_⟩
    rw [e] at h
    simp only at h
    by_cases k : y.kind = 2
    · exact k
    · rw [if_neg k] at h; cases h
  · rw [if_pos he] at h
    exact absurd h he
theorem lookO_c (p : Str) : (lookO p).c = [.int .i64 1, .str p, .int .i64 0, .int .i64 0, .int .i64 0, .str []] := rfl
theorem WkOn.entry {L : List (List InoP)} {D : List Node} {ds : List Drx} {names : List Str} (hw : WkOn L D ds names) {x : Ent} (hx : x ∈ listN (hereN D names)) : nameR x.name = true ∧ ∃ y l, seenN (hereN D names) x.name = y :: l ∧ x.kind = y.kind := by
  obtain ⟨d, _, _, hd⟩ := hw.last
  obtain ⟨y, l, h1, h2⟩ := listN_mem hx
  exact ⟨seenN_nameR (fun n hn => (hd.good n hn).2.1) h1, y, l, h1, h2⟩
theorem WkOn.listed {L : List (List InoP)} {D : List Node} {ds : List Drx} {names : List Str} (hw : WkOn L D ds names) : (listN (hereN D names)).length ≤ 6400000 := by
  obtain ⟨d, _, _, hd⟩ := hw.last
  have := listN_len (hereN D names) 100000 (fun n hn => by
    obtain ⟨q1, q2, q3, q4, q5⟩ := hd.good n hn
    rw [allB_lens q2]
    have := (counts_mem (l := n.items)).1
    rw [Node.count_eq] at q5
    omega)
  have := hd.few
  omega
set_option maxRecDepth 100000 in
theorem law12_UnionLists_L (w0 : World) (hm : MaxL w0) (x0 x1 : AV) (h0 : TV t_s_api_Node x0) (h1 : TV t_string x1) : AC w0 F_law12_UnionLists [x0, x1] [] fun r _ => r = .bool true := by
  refine law_of fun Q hq => ?_
  obtain ⟨l, lr, e1, hlr, hll, hlok⟩ := (dec_Node_aux (h0.one (by simp [isAgg, un_s_api_Node]))).2 rfl
  have e1' : x0 = .vs 7 (l.map Node.c) lr := by simpa using e1
  subst e1'
  obtain ⟨path, rfl, hpl⟩ := h1.str un_string
  apply law12_UnionLists_ok
  unfold G_law12_UnionLists
  refine law12_speaks_A hm (fun S _ => ?_)
  simp
  refine law08_May_A hlok (fun S2 hS2 => ?_)
  cases hmay : mayB l with
  | false => simp [joinK_eq, hq]
  | true =>
  simp
  by_cases hp : 1100 < path.length
  · have : (1100 : Int) < path.length := by omega
    simp [this, hq, joinK_eq]
  have hpi : ¬ (1100 : Int) < path.length := by omega
  obtain ⟨h8, hall⟩ := mayB_iff.1 hmay
  have hright : ∀ n ∈ l, rightB n = true := fun n hn => (hall n hn).2
  simp [hpi, joinK_eq]
  refine law08_Stack_A hm hlok hmay (fun S3 s hS3 hs => ?_)
  have hL := StkD.of hs hlok hright (by omega)
  have hD : Docs l.reverse := Docs.of hlok hright (by omega)
  simp
  refine union_List_A hm hL.leads (by omega) (fun S4 hS4 => ⟨fun he => ?_, fun he hex r => ?_⟩)
  · simp
    refine law08_Above_A (by omega) (fun r3 => ?_)
    try rw [← List.map_reverse]
    refine ref12_List_A (hL.mono hS4).leads hD (by omega) (fun _ => ?_) (fun h => absurd h he)
    simp [he, joinK_eq]
    exact hq _
  · simp
    refine law08_Above_A (by omega) (fun r3 => ?_)
    try rw [← List.map_reverse]
    refine ref12_List_A (hL.mono hS4).leads hD (by omega) (fun h => absurd he h) (fun _ r4 r5 => ?_)
    obtain ⟨t, hE⟩ := hex
    obtain ⟨ds, hw, hh⟩ := hE.way (listErr_zero he).2
    obtain ⟨hs1, hs2⟩ := hE.short
    generalize walkN l.reverse path true = want at hE hw hh hs1 hs2
    rw [hh]
    have hll := hw.listed
    have hent := fun x hx => hw.entry (x := x) hx
    simp [joinK_eq]
    have hpn := pathOf_len hs1 hs2
    refine ref01_Join_A (by omega) (by omega) ?_
    simp [joinK_eq]
    generalize hLL : listN (hereN l.reverse want.names) = L at hll hent
    refine loop_list L (fun i (_ : Unit) => ([.int .i64 i], [some s.c])) (fun i _ S' => Sx S4 S') () rfl (Sx.refl _) ?_ ?_
    · rintro i _ S' v b e c hxi hdr hcc hmem hSx hv
      simp at hv
      obtain ⟨hv1, hv2⟩ := hv
      obtain ⟨hnm, y, t', hsn, hyk⟩ := hent e hmem
      have hnl := (nameR_facts hnm).2.2.2.1
      simp [hv1, hv2, hcc, hxi, binE, eqA, typedCells, cellsEq, cellEq, joinK_eq]
      rw [binA_add_str (by simp; omega)]
      simp
      rw [binA_add_str (by simp; omega)]
      simp
      try rw [← lookO_c]
      have hcl : ((pathOf want.names ++ 47 :: e.name).length : Int) = (pathOf want.names).length + (e.name.length + 1) := by simp
      refine union_Do_A (o := lookO (pathOf want.names ++ 47 :: e.name)) hm ((hL.mono hS4).mono hSx) (by simp [lookO]; omega) (fun S5 hS5 => ?_)
      by_cases hlen : (pathOf want.names ++ 47 :: e.name).length ≤ 1024
      · have hsp := splitP_child hs2 hnm hs1 hlen
        rw [doR_look (walkN_snoc hw hsp hnm hsn)]
        have hci : ((pathOf want.names).length : Int) + (e.name.length + 1) ≤ 1024 := by omega
        simp [ResN.c, hci, hyk]
        try simp (disch := omega) only [wrap64]
        exact .next c () rfl (hSx.trans hS5)
      · have hci : ¬ ((pathOf want.names).length : Int) + (e.name.length + 1) ≤ 1024 := by omega
        simp [ResN.c, hci]
        try simp (disch := omega) only [wrap64]
        exact .next c () rfl (hSx.trans hS5)
    · rintro _ S' v b hSx hv N
      simp at hv
      obtain ⟨hv1, hv2⟩ := hv
      simp [hv1, hv2]
      exact hq _
end Go.Av
