/- Parts of the proofs of this seat: abstract values over the model, and what the functions of the program do. No condition. -/
import Derived.Test.YtdjfhghokfiieaaGreatDoorX04L
import Derived.Test.YtdjfhghokfiieaaGreatDoorM8
import Derived.Test.YtdjfhghokfiieaaGreatDoorM9
import Derived.Test.YtdjfhghokfiieaaGreatDoorD0
import Derived.Test.YtdjfhghokfiieaaGreatDoorM5
import Derived.Test.YtdjfhghokfiieaaGreatDoorXDelR
import Derived.Test.YtdjfhghokfiieaaGreatDoorY19
import Derived.Test.YtdjfhghokfiieaaGreatDoorX10d
import Derived.Test.YtdjfhghokfiieaaGreatDoorX11d
import Derived.Shelf.SlLaysE0
import Derived.Shelf.RegionOpenPlain
import Derived.WalkKit
import Derived.Deep.LoopGhost
import Derived.Deep.RegionLaw
import Derived.Lib.Walk
import Derived.Sort.WalkB12
import Derived.Lib.SliceRun
import Derived.Shelf.Lay
import Derived.Shelf.LaySoft
import Derived.Shelf.SlGeneric
import Derived.Ground.SlgnProg
import Derived.Shelf.SlicesE.Clone
set_option linter.all false
set_option linter.unusedVariables false
namespace Go.Av
open Go.Proofs
theorem StkOf.get {S0 S : St} {l : List Node} {s : Stk} (h : StkOf S0 S l s) {k : Nat} (hk : k < l.length) : ∃ m n, s.l[k]? = some m ∧ l[l.length - 1 - k]? = some n ∧ m.num = l.length - 1 - k ∧ m.tab = n.tab 0 ∧ m ∈ s.l := by
  have h1 : k < s.l.length := by rw [h.len]; exact hk
  have hm : s.l[k]? = some s.l[k] := List.getElem?_eq_getElem h1
  have hn : l[l.length - 1 - k]? = some (l[l.length - 1 - k]'(by omega)) := List.getElem?_eq_getElem (by omega)
  refine ⟨_, _, hm, hn, ?_, ?_, List.getElem_mem h1⟩
  · have := congrArg (fun x => x[k]?) h.nums
    simp only [List.getElem?_map, hm, Option.map_some] at this
    rw [List.getElem?_reverse (by simpa using hk), List.length_range, List.getElem?_range (by omega)] at this
    exact Option.some.inj this
  · have := congrArg (fun x => x[k]?) h.tabs
    simp only [List.getElem?_map, hm, Option.map_some] at this
    rw [List.getElem?_reverse hk, hn] at this
    exact Option.some.inj this
end Go.Av
set_option linter.unusedVariables false
namespace Go.Av
open Go.Proofs
theorem StkD.of {S0 S : St} {l : List Node} {s : Stk} (hs : StkOf S0 S l s) (hok : ∀ n ∈ l, n.ok) (hall : ∀ n ∈ l, rightB n = true) (hl : l.length ≤ 64) : StkD S s l.reverse (fun k => ((((List.range l.length).map fun i : Nat => ((l.length - 1 - i : Nat) : Int))[k]?).getD 0)) := by
  refine ⟨Leads.of hs hok hall hl, stk_tabs hs, fun k m hm => ?_⟩
  have hk : k < l.length := by have := (List.getElem?_eq_some_iff.1 hm).1; rw [hs.len] at this; exact this
  obtain ⟨m', n, h1, h2, h3, h4, h5⟩ := hs.get hk
  rw [h1] at hm
  cases hm
  simp [hk, h3]
end Go.Av
set_option linter.unusedVariables false
namespace Go.Av
open Go.Proofs
def listErr (w : AtN) : Int := if w.err ≠ 0 then w.err else match w.nodes with | y :: _ => if y.kind = 2 then 0 else 3 | [] => 0
set_option maxRecDepth 100000 in
theorem union_List_A {w0 : World} (hm : MaxL w0) {S : St} {s : Stk} {D : List Node} {path : Str} (hL : Leads S s D) (hp : path.length ≤ 1048576) {Q : AV → St → Prop}
    (hq : ∀ S', Sx S S' → (listErr (walkN D path true) ≠ 0 → Q (.tup [.str [], .vs 2 [] .nil, .int .i64 (listErr (walkN D path true))]) S') ∧
      (listErr (walkN D path true) = 0 → (∃ t, Ends s.tabs D (walkN D path true) t) → ∀ r : Rt, Q (.tup [.str (pathOf (walkN D path true).names), .vs 2 ((listN (walkN D path true).nodes).map Ent.c) r, .int .i64 0]) S')) : AC w0 F_union_List [.agg s.c, .str path] S Q := by
  have hc : s.c = [.vs 2 (s.l.map Mnt.c) s.r.strip, .int .i64 s.next] := rfl
  rw [hc]
  apply union_List_ok
  unfold G_union_List
  simp [← hc]
  refine walk_Walk_A hm hL hp (fun S2 hS2 => ⟨fun he => ?_, fun he t r hE => ?_⟩)
  · have e : listErr (walkN D path true) = (walkN D path true).err := by rw [listErr, if_pos he]
    have h0 := (hq S2 hS2).1 (by rw [e]; exact he)
    rw [e] at h0
    simp [Fnd.c, Fnd.none, he]
    exact h0
  · have e : listErr (walkN D path true) = match (walkN D path true).nodes with | y :: _ => if y.kind = 2 then 0 else 3 | [] => 0 := by rw [listErr, if_neg (by rw [he]; simp)]
    have hq1 := (hq S2 hS2).1
    have hq3 := fun S3 (hS3 : Sx S2 S3) h => (hq S3 (hS2.trans hS3)).2 h ⟨t, hE⟩
    rw [e] at hq1 hq3
    generalize walkN D path true = want at hq1 hq3 hE
    have hf := hE.facts
    have hLn := hL.mono hS2
    cases hn : want.nodes with
    | nil =>
      rw [hn] at hf hq3
      obtain ⟨rfl, h2⟩ := hf
      simp [Fnd.c]
      refine merge_List_A (p := []) (dirs := []) hLn.ok hLn.on hLn.good trivial (by simp) (by simp) (fun S3 r3 hS3 hr3 => ?_)
      have := hq3 S3 hS3 rfl r3
      simpa using this
    | cons y l =>
      rw [hn] at hf hq3 hq1
      obtain ⟨h1, h2, h3, h4, h5⟩ := hf
      by_cases k2 : y.kind = 2
      · rw [if_pos k2] at h5
        obtain ⟨h51, h52, h53⟩ := h5
        have hpl : t.dirs.length ≤ 64 := by
          rw [h51.len]
          obtain ⟨ds, hw, hh⟩ := hE.way (fun y' l' e' => by rw [hn] at e'; cases e'; exact k2)
          obtain ⟨d, _, _, hd⟩ := hw.last
          have := hd.few
          rw [← hh, hn] at this
          exact this
        simp [Fnd.c, h1, k2]
        refine merge_List_A hLn.ok hLn.on hLn.good h51 (fun n hn => ?_) hpl (fun S3 r3 hS3 hr3 => ?_)
        · obtain ⟨g1, g2, g3, g4⟩ := h53 n hn
          refine ⟨g1, g2, ?_⟩
          rw [allB_lens g2]
          have := (counts_mem (l := n.items)).1
          rw [Node.count_eq] at g4
          omega
        · have := hq3 S3 hS3 (by simp [k2]) r3
          simpa using this
      · simp only [if_neg k2] at hq1
        simp [Fnd.c, h1, k2]
        exact hq1 (by simp)
end Go.Av
set_option linter.unusedVariables false
namespace Go.Av
open Go.Proofs
theorem lookO_c (p : Str) : (lookO p).c = [.int .i64 1, .str p, .int .i64 0, .int .i64 0, .int .i64 0, .str []] := rfl
theorem WkOn.entry {L : List (List InoP)} {D : List Node} {ds : List Drx} {names : List Str} (hw : WkOn L D ds names) {x : Ent} (hx : x ∈ listN (hereN D names)) : nameR x.name = true ∧ ∃ y l, seenN (hereN D names) x.name = y :: l ∧ x.kind = y.kind := by
  obtain ⟨d, _, _, hd⟩ := hw.last
  obtain ⟨y, l, h1, h2⟩ := listN_mem hx
  exact ⟨seenN_nameR (fun n hn => (hd.good n hn).2.1) h1, y, l, h1, h2⟩
theorem WkOn.listed {L : List (List InoP)} {D : List Node} {ds : List Drx} {names : List Str} (hw : WkOn L D ds names) : (listN (hereN D names)).length ≤ 6400000 := by
  obtain ⟨d, _, _, hd⟩ := hw.last
  have := listN_len (hereN D names) 100000 (fun n hn => by
    obtain ⟨q1, q2, q3, q4, q5⟩ := hd.good n hn
    rw [allB_lens q2]
    have := (counts_mem (l := n.items)).1
    rw [Node.count_eq] at q5
    omega)
  have := hd.few
  omega
end Go.Av
set_option linter.unusedVariables false
namespace Go.Av
open Go.Proofs
theorem tell_fin {w : Wk} {path s : Str} {rest : List Str} {f g : Fnd} {fr : Rt} {there : Bool} {target p : Str} (h : (w.tell path s rest f fr there target).1.fin = some (p, g)) (hw : w.fin = none) : g = f ∧ ¬ (f.kind = 3 ∧ (rest ≠ [] ∨ w.follow = true)) := by
  unfold Wk.tell at h
  split at h
  · rw [hw] at h; cases h
  · split at h
    · split at h
      · rw [hw] at h; cases h
      · split at h <;> (simp only at h; rw [hw] at h; cases h)
    · rename_i c
      split at h
      · simp only at h; rw [hw] at h; cases h
      · split at h
        · simp only at h; rw [hw] at h; cases h
        · simp only [Option.some.injEq, Prod.mk.injEq] at h
          exact ⟨h.2.symm, c⟩
theorem tell_follow {w : Wk} {path s : Str} {rest : List Str} {f : Fnd} {fr : Rt} {there : Bool} {target : Str} : (w.tell path s rest f fr there target).1.follow = w.follow := by
  unfold Wk.tell
  repeat' split
  all_goals rfl
theorem Going.nolink {L : List (List InoP)} {D : List Node} {want : AtN} : ∀ (n : Nat) {w : Wk} {h : Nat} {names : List Str}, Going L D want w h names → w.follow = true → w.todo.length + 129 * h ≤ n → want.err = 0 → ∃ t, Ends L D want t ∧ t.kind ≠ 3 := by
  intro n
  induction n with
  | zero =>
    intro w h names g hfo hn he
    have : w.todo = [] := List.eq_nil_of_length_eq_zero (by omega)
    obtain ⟨d, _, _, h3⟩ := g.end this
    exact ⟨_, h3, by simp [dirF]⟩
  | succ n ih =>
    intro w h names g hfo hn he
    obtain ⟨names', g'⟩ := g.pop
    have hhd : w.pop.todo.head? ≠ some dd := popTD_head _ _
    have hpl : w.pop.todo.length ≤ w.todo.length := popTD_len _ _
    have hfo2 : w.pop.follow = true := hfo
    generalize w.pop = w1 at g' hhd hpl hfo2
    cases ht : w1.todo with
    | nil =>
      obtain ⟨d, _, _, h3⟩ := g'.end ht
      exact ⟨_, h3, by simp [dirF]⟩
    | cons s rest =>
      have hnd : s ≠ dd := fun e => hhd (by rw [ht, e]; rfl)
      have hll : w1.todo.length = rest.length + 1 := by rw [ht]; rfl
      obtain ⟨d, k1, k2, k3, k4, k5⟩ := g'.step (fr := .none) (target := match seenN (hereN D names') s with | y :: _ => y.target | [] => []) ht hnd rfl (fun _ y l e => by rw [e])
      have hfol := fun tg : Str => tell_follow (w := w1) (path := pathOf names') (s := s) (rest := rest) (f := lookS L s (placeP L names') Fnd.none) (fr := .none) (there := decide ((lookS L s (placeP L names') Fnd.none).kind ≠ 0)) (target := tg)
      have hfin := fun (tg p : Str) (g : Fnd) h => tell_fin (w := w1) (path := pathOf names') (s := s) (rest := rest) (f := lookS L s (placeP L names') Fnd.none) (g := g) (fr := .none) (there := decide ((lookS L s (placeP L names') Fnd.none).kind ≠ 0)) (target := tg) (p := p) h g'.fin
      have hfol := hfol (match seenN (hereN D names') s with | y :: _ => y.target | [] => [])
      have hfin := hfin (match seenN (hereN D names') s with | y :: _ => y.target | [] => [])
      generalize w1.tell (pathOf names') s rest (lookS L s (placeP L names') Fnd.none) .none (decide ((lookS L s (placeP L names') Fnd.none).kind ≠ 0)) _ = te at k5 hfol hfin
      obtain ⟨w2, e⟩ := te
      simp only at k5 hfol hfin
      obtain ⟨k6, k7⟩ := k5
      by_cases e0 : e = 0
      · rcases k7 e0 with ⟨h', nm2, g2, hc⟩ | ⟨gg, c1, c2, c3, c4⟩
        · refine ih g2 (hfol.trans hfo2) ?_ he
          rcases hc with ⟨c1, c2⟩ | ⟨c1, pp, c2, c3⟩
          · rw [c1, c2]; omega
          · rw [c3, List.length_append]; omega
        · obtain ⟨q1, q2⟩ := hfin _ _ c1
          exact ⟨gg, c2, fun k3 => q2 ⟨by rw [← q1]; exact k3, .inr hfo2⟩⟩
      · exact absurd he (by rw [k6 e0]; exact e0)
theorem Leads.nolink {S : St} {s : Stk} {D : List Node} (hL : Leads S s D) {path : Str} (he : (walkN D path true).err = 0) : ∃ t, Ends s.tabs D (walkN D path true) t ∧ t.kind ≠ 3 := by
  unfold walkN at he ⊢
  cases hsp : splitP path with
  | none => rw [hsp] at he; cases he
  | some l =>
    rw [hsp] at he
    exact Going.nolink (l.length + 129 * 40) (w := ⟨l, [⟨[47], rootP s.tabs 0, .none⟩], true, 0, none⟩) (h := 40) (names := []) ⟨hL.start _, rfl, fun x hx => splitP_mem hsp x hx, rfl, rfl⟩ rfl (Nat.le_refl _) he
theorem Ends.own2 {L : List (List InoP)} {D : List Node} {want : AtN} {t : Fnd} (h : Ends L D want t) (h3 : t.kind ≠ 3) (k : Nat) : alongN D true k want.names [] = want := by
  have hfx := h.facts
  obtain ⟨he, ds, names, hw, hc⟩ := h
  rw [alongN_eq]
  rcases hc with ⟨h1, h2, _⟩ | ⟨s, y, l, hs, h1, h2, h3', h4, h5⟩
  · have := along_dirs (follow := true) (next := nextN D true k) [] names [] (ds := ds) (by simpa using hw)
    rw [List.append_nil, List.nil_append] at this
    rw [h1, this, alongS]
    cases want
    simp_all
  · have := along_dirs (follow := true) (next := nextN D true k) [s] names [] (ds := ds) (by simpa using hw)
    rw [List.nil_append] at this
    rw [h4] at hfx
    have hy3 : y.kind ≠ 3 := by rw [← hfx.1]; exact h3
    rw [h1, this, alongS, if_neg (nameR_facts hs).2.2.1, h2]
    simp only [h3', if_false]
    rw [if_neg (by simp [hy3]), if_neg (by simp)]
    cases want
    simp_all
set_option maxRecDepth 100000 in
theorem top_all_A {w0 : World} (hm : MaxL w0) : ∀ (d : Nat) {S : St} {s : Stk} {D : List Node} {ids : Nat → Int} {ds : List Drx} {names : List Str} {Q : AV → St → Prop}, StkD S s D ids → WkOn s.tabs D ds names → names.length + d = 16 →
    (∀ S', Sx S S' → Q (.bool true) S') → AC w0 F_top_all [.agg s.c, .str (pathOf names)] S Q := by
  intro d
  induction d using Nat.strongRecOn with
  | ind d ih =>
    intro S s D ids ds names Q hL hw hd hq
    have hc : s.c = [.vs 2 (s.l.map Mnt.c) s.r.strip, .int .i64 s.next] := rfl
    obtain ⟨dx, _, _, hdx⟩ := hw.last
    have hsh := hdx.short
    have hpn := pathOf_len hsh hw.nm
    have hsp := splitP_pathOf hsh hw.nm
    have hwn := walkN_dir hw hsp true
    have hle : listErr (walkN D (pathOf names) true) = 0 := by
      rw [hwn, listErr, if_neg (by simp)]
      simp only
      split
      · rename_i y l e
        rw [if_pos (hdx.good y (by rw [e]; simp)).2.2.1]
      · rfl
    rw [hc]
    apply top_all_ok
    unfold G_top_all
    simp [← hc]
    refine union_List_A hm hL.leads (by omega) (fun S1 hS1 => ⟨fun h => absurd hle h, fun _ _ r => ?_⟩)
    rw [hwn]
    simp
    try rw [joinK_eq]
    have hll := hw.listed
    have hent := fun x hx => hw.entry (x := x) hx
    generalize hLL : listN (hereN D names) = L at hll hent
    refine loop_list L (fun i (_ : Unit) => ([.int .i64 i], [some s.c])) (fun i _ S' => Sx S S') () rfl hS1 ?_ ?_
    · rintro i _ S' v b e c hxi hdr hcc hmem hSx hv
      simp at hv
      obtain ⟨hv1, hv2⟩ := hv
      obtain ⟨hnm, y, t', hsn, hyk⟩ := hent e hmem
      have hnl := (nameR_facts hnm).2.2.2.1
      have hch := pathOf_child (s := e.name) hw.nm
      have hLx := hL.mono hSx
      have hgd := seen_good hdx.good hsn y (by simp)
      have hsh1 : (names ++ [e.name]).length ≤ 15 := by simp; omega
      have hnm1 : ∀ x ∈ names ++ [e.name], nameR x = true := fun x hx => by
        rcases List.mem_append.1 hx with hx | hx
        · exact hw.nm x hx
        · rw [List.mem_singleton] at hx; subst hx; exact hnm
      have hpn1 := pathOf_len hsh1 hnm1
      have hsp1 := splitP_pathOf hsh1 hnm1
      have hwn1 := walkN_snoc hw hsp1 hnm hsn
      simp [hv1, hv2, hcc, hxi]
      rw [binA_add_str (by simp; omega)]
      simp
      rw [binA_add_str (by simp; omega)]
      simp
      refine joinK_gen (fun j => j (.str (pathOf (names ++ [e.name])))) ?_ (fun j hj => ?_)
      rotate_left
      · by_cases c1 : pathOf names = [47]
        · rw [if_pos c1] at hch
          simp [c1]
          rw [binA_add_str (by simp; omega)]
          rw [c1] at hch
          simp at hch ⊢
          rw [hch]
          exact hj
        · rw [if_neg c1] at hch
          simp [c1]
          rw [hch]
          exact hj
      simp [joinK_eq]
      refine walk_Walk_A hm hLx.leads (by omega) (fun S2 hS2 => ⟨fun he => absurd (by rw [hwn1]) he, fun _ t r hE => ?_⟩)
      rw [hwn1] at hE ⊢
      have hf := hE.facts
      simp only at hf
      obtain ⟨f1, f2, f3, f4, f5⟩ := hf
      have hlv0 := hE
      rw [hLx.tabs] at hlv0
      have hlv := hlv0.level (by simp)
      obtain ⟨m, a1, a2, a3, a4⟩ := f2.at_
      have hid : ids t.sp.1 = (m.num : Int) := by
        refine hL.ids t.sp.1 m ?_
        have := a1
        unfold Stk.at_ at this
        rw [if_neg (by omega)] at this
        simpa using this
      simp [Fnd.c]
      rw [← lookO_c]
      refine union_Do_A (o := lookO (pathOf (names ++ [e.name]))) hm (hLx.mono hS2) (by simp [lookO]; omega) (fun S5 hS5 => ?_)
      rw [doR_look hwn1]
      simp only at hlv
      simp [ResN.c, hlv, f1, hyk, hid]
      refine stack_ID_A ?_
      rw [a1]
      simp
      have hSx5 := (hSx.trans hS2).trans hS5
      by_cases k2 : y.kind = 2
      · simp [k2]
        obtain ⟨ds', hw', hh'⟩ := hE.way (fun y' l' e' => by cases e'; exact k2)
        refine ih (16 - (names ++ [e.name]).length) (by simp; omega) (ids := ids) (hL.mono hSx5) hw' (by simp at hsh1 ⊢; omega) (fun S6 hS6 => ?_)
        simp
        try simp (disch := omega) only [wrap64]
        exact .next c () rfl (hSx5.trans hS6)
      · simp [k2]
        try simp (disch := omega) only [wrap64]
        exact .next c () rfl hSx5
    · rintro _ S' v b hSx hv N
      simp at hv
      obtain ⟨hv1, hv2⟩ := hv
      simp [hv1, hv2]
      exact hq _ hSx
end Go.Av
set_option linter.unusedVariables false
namespace Go.Av
open Go.Proofs
set_option maxRecDepth 100000 in
theorem top_one_A {w0 : World} (hm : MaxL w0) {S : St} {Q : AV → St → Prop} (hq : ∀ S', Sx S S' → Q (.bool true) S') : AC w0 F_top_one [] S Q := by
  apply top_one_ok
  unfold G_top_one
  refine tree_Text_A (by simp) (fun r1 hr1 => ?_)
  simp
  refine tree_Dir_A (l := [[97]]) (items := [textN [120] r1]) okR_full okR_full (by simp) (by simp) (fun q3 q4 k3 k4 => ?_)
  have hx := textN_ok (s := [120]) (by simp) hr1
  have hok1 := dirN_ok (o := false) (l := [[97]]) (items := [textN [120] r1]) (by simp) (by simp [hx]) k3 k4
  have a1 : oneB (textN [120] r1) = true := textN_right (by simp)
  have a2 : (textN [120] r1).allB = true := by rw [Node.all_eq, a1]; rfl
  have hr : rightB (dirN false [[97]] q3 [textN [120] r1] q4) = true := by
    have a3 : oneB (dirN false [[97]] q3 [textN [120] r1] q4) = true := by rfl
    have a4 : (dirN false [[97]] q3 [textN [120] r1] q4).allB = true := by
      rw [Node.all_eq, a3]
      show (Node.allsB [_] && true) = true
      rw [Node.allsB, a2]
      rfl
    rw [rightB, a4]
    rfl
  generalize dirN false [[97]] q3 [textN [120] r1] q4 = d1 at hok1 hr ⊢
  have h0 := ofErr_all [d1] 0 (by simp [hr]) (by simp)
  simp
  refine stack_Of_A (l := [d1]) hm (by simp [hok1]) (by simp) (fun S1 h1 => ⟨fun _ s hs => ?_, fun h => absurd h0 h⟩)
  simp [joinK_eq]
  refine stack_Len_A ?_
  rw [hs.len]
  simp
  exact hq _ h1
set_option maxRecDepth 100000 in
theorem top_WholePaths_L (w0 : World) (hm : MaxL w0) (x0 x1 x2 : AV) (h0 : TV t_socagelaw11_Case x0) (h1 : TV t_int x1) (h2 : TV t_int x2) : AC w0 F_top_WholePaths [x0, x1, x2] [] fun r _ => r = .bool true := by
  refine law_of fun Q hq => ?_
  obtain ⟨c, rfl, hlok, hll, hpl, htr⟩ := dec_Case11 h0
  obtain ⟨off, rfl, hoff⟩ := h1.int un_int
  obtain ⟨many, rfl, hmany⟩ := h2.int un_int
  apply top_WholePaths_ok
  unfold G_top_WholePaths
  simp
  refine top_one_A hm (fun S _ => ?_)
  simp
  refine law08_May_A hlok (fun S2 hS2 => ?_)
  cases hmay : mayB c.trees with
  | false => simp [joinK_eq, hq]
  | true =>
  simp
  by_cases hp : 1000 < c.path.length
  · have : (1000 : Int) < c.path.length := by omega
    simp [joinK_eq, this, hq]
  have hpi : ¬ (1000 : Int) < c.path.length := by omega
  by_cases hmn : 3000 < many
  · simp [joinK_eq, hpi, hmn, hq]
  obtain ⟨h8, hall⟩ := mayB_iff.1 hmay
  have hright : ∀ n ∈ c.trees, rightB n = true := fun n hn => (hall n hn).2
  simp [joinK_eq, hpi, hmn]
  refine law08_Stack_A hm hlok hmay (fun S3 s hS3 hs => ?_)
  obtain ⟨ids, hL⟩ : ∃ ids, StkD S3 s c.trees.reverse ids := ⟨_, StkD.of hs hlok hright (by omega)⟩
  simp
  have h47 : ([47] : Str) = pathOf [] := by simp [pathOf, Lib.join_nil]
  rw [h47]
  refine top_all_A hm 16 hL (hL.leads.start .none) rfl (fun S4 hS4 => ?_)
  simp
  have hL4 := hL.mono hS4
  have ho : ∀ p : Str, [AV.int .i64 4, .str p, .int .i64 off, .int .i64 many, .int .i64 0, .str []] = (⟨4, p, off, many, 0, []⟩ : OpN).c := fun p => rfl
  have hdo : ∀ p : Str, doR c.trees.reverse ids ⟨4, p, off, many, 0, []⟩ = if (off < 0 ∨ many < 0) then faultR 1 else if (walkN c.trees.reverse p true).err ≠ 0 then faultR (walkN c.trees.reverse p true).err else finishR c.trees.reverse ids ⟨4, p, off, many, 0, []⟩ (walkN c.trees.reverse p true) := fun p => by
    unfold doR
    rw [if_neg (by simp [isK])]
    have e : followsK 4 = true := by decide
    simp only [e]
    by_cases h : off < 0 ∨ many < 0
    · rw [if_pos (by simpa [badOp] using h), if_pos h]
    · rw [if_neg (by simpa [badOp] using h), if_neg h]
  have hfin : ∀ p q w, finishR c.trees.reverse ids ⟨4, p, off, many, 0, []⟩ w = finishR c.trees.reverse ids ⟨4, q, off, many, 0, []⟩ w := fun p q w => rfl
  refine walk_Walk_A hm hL4.leads (by omega) (fun S5 hS5 => ⟨fun he => ?_, fun he t r hE => ?_⟩)
  · simp [Fnd.c, Fnd.none, he]
    rw [ho]
    refine union_Do_A (o := ⟨4, c.path, off, many, 0, []⟩) hm (hL4.mono hS5) (by simp; omega) (fun S6 hS6 => ?_)
    rw [hdo]
    by_cases hb : off < 0 ∨ many < 0
    · rw [if_pos hb]
      by_cases h1 : (walkN c.trees.reverse c.path true).err = 1
      · simp [ResN.c, faultR, h1, hq]
      · have h1' : ¬ 1 = (walkN c.trees.reverse c.path true).err := fun e => h1 e.symm
        rcases hb with hb | hb
        · simp [ResN.c, faultR, h1', hb, hq]
        · by_cases ho0 : off < 0 <;> simp [ResN.c, faultR, h1', hb, ho0, hq]
    · rw [if_neg hb, if_pos he]
      simp [ResN.c, faultR, hq]
  · obtain ⟨u, hU, hu3⟩ := hL4.leads.nolink he
    have hpn := pathOf_len hE.short.1 hE.short.2
    have hsp := splitP_pathOf hE.short.1 hE.short.2
    have hown : walkN c.trees.reverse (pathOf (walkN c.trees.reverse c.path true).names) true = walkN c.trees.reverse c.path true := by
      rw [walkN, hsp]
      exact hU.own2 hu3 40
    have hw2 := hdo c.path
    have hw3 := hdo (pathOf (walkN c.trees.reverse c.path true).names)
    rw [hown, hfin _ c.path] at hw3
    have hsame := hw2.trans hw3.symm
    clear hw2 hw3
    generalize pathOf (walkN c.trees.reverse c.path true).names = p2 at hpn hsame ⊢
    simp [Fnd.c]
    rw [ho]
    refine union_Do_A (o := ⟨4, c.path, off, many, 0, []⟩) hm (hL4.mono hS5) (by simp; omega) (fun S6 hS6 => ?_)
    simp [ResN.c]
    rw [ho]
    refine union_Do_A (o := ⟨4, p2, off, many, 0, []⟩) hm ((hL4.mono hS5).mono hS6) (by simp; omega) (fun S7 hS7 => ?_)
    rw [← hsame]
    simp [ResN.c, hq]
end Go.Av
