/- Parts of the proofs of this seat: abstract values over the model, and what the functions of the program do. No condition. -/
import Derived.Test.YtclomnkgpemnaaaDoorX05M
set_option linter.all false
set_option linter.unusedVariables false
namespace Go.Av
open Go.Proofs
theorem rootP_on : ∀ (l : List Node) (L : List (List InoP)) (k : Nat), L.drop k = l.map (fun n => n.tab 0) → OnP L (rootP (l.map fun n => n.tab 0) k) (dirsN l)
  | [], _, _, _ => trivial
  | n :: l, L, k, h => by
    have h0 : L[k]? = some (n.tab 0) := by
      have := congrArg (fun x => x[0]?) h
      simpa using this
    have h1 : L.drop (k + 1) = l.map (fun n => n.tab 0) := by
      have := congrArg (fun x => x.drop 1) h
      simpa [List.drop_drop, Nat.add_comm] using this
    rw [List.map_cons, rootP, dirsN]
    refine ⟨⟨n.tab 0, h0, At.root n⟩, ?_⟩
    have ho : (inoAt (n.tab 0) 0).opq = n.opq := by rw [tab_root]; rfl
    rw [ho]
    split
    · trivial
    · exact rootP_on l L (k + 1) h1
end Go.Av
set_option linter.unusedVariables false
namespace Go.Av
open Go.Proofs
theorem Leads.of {S0 S : St} {l : List Node} {s : Stk} (hs : StkOf S0 S l s) (hok : ∀ n ∈ l, n.ok) (hall : ∀ n ∈ l, rightB n = true) (hl : l.length ≤ 64) : Leads S s l.reverse := by
  have herr := ofErr_all l 0 hall (by omega)
  have hroot := rootP_on l.reverse s.tabs 0 (by rw [stk_tabs hs]; rfl)
  rw [← stk_tabs hs] at hroot
  have hd : (dirsN l.reverse).length ≤ 64 := by
    have := hroot.len
    have h2 := rootP_len s.tabs 0
    have h3 : s.tabs.length = l.length := by rw [stk_tabs hs]; simp
    omega
  refine ⟨hs.ok, hs.on, hs.good hok herr, hroot, fun n hn => ?_, hd⟩
  have hn2 : n ∈ l := by have := dirsN_mem hn; simpa using this
  obtain ⟨q1, q2, q3, q4⟩ := rightB_all (hall n hn2)
  exact ⟨hok n hn2, q2, q1, q4, by omega⟩
theorem Docs.of {l : List Node} (hok : ∀ n ∈ l, n.ok) (hall : ∀ n ∈ l, rightB n = true) (hl : l.length ≤ 64) : Docs l.reverse := by
  have hd : ∀ l : List Node, (dirsN l).length ≤ l.length := by
    intro l
    induction l with
    | nil => simp [dirsN]
    | cons x l ih => rw [dirsN]; split <;> simp; omega
  refine ⟨by simp; omega, fun n hn => hok n (by simpa using hn), fun n hn => ?_, by have := hd l.reverse; simp at this; omega⟩
  have hn2 : n ∈ l := by have := dirsN_mem hn; simpa using this
  exact ⟨hok n hn2, (rightB_all (hall n hn2)).2.1⟩
theorem Ends.short {L : List (List InoP)} {D : List Node} {want : AtN} {t : Fnd} (h : Ends L D want t) : want.names.length ≤ 15 ∧ ∀ x ∈ want.names, nameR x = true := by
  obtain ⟨he, ds, names, hw, hc⟩ := h
  obtain ⟨d, _, _, hd⟩ := hw.last
  rcases hc with ⟨h1, h2, h3⟩ | ⟨s, y, l, hs, h1, h2, h3, h4, h5⟩
  · rw [h1]
    exact ⟨hd.short, hw.nm⟩
  · rw [h1]
    have := (seen_good hd.good h2 y (by simp)).2.2.2.1
    refine ⟨by simp; omega, fun x hx => ?_⟩
    rcases List.mem_append.1 hx with hx | hx
    · exact hw.nm x hx
    · rw [List.mem_singleton] at hx; subst hx; exact hs
set_option maxRecDepth 100000 in
theorem law11_Alike_err_A {w0 : World} {S : St} {s : Stk} {want : AtN} {r1 r2 : Rt} (he : want.err ≠ 0) {Q : AV → St → Prop} (hq : Q (.int .i64 1) S) :
    AC w0 F_law11_Alike [.agg s.c, .agg (.str [] :: Fnd.none.c .nil), .int .i64 want.err, .agg [.vs 1 (want.names.map wStr) r1, .vs 7 (want.nodes.map Node.c) r2, .int .i64 want.err]] S Q := by
  have hc : s.c = [.vs 2 (s.l.map Mnt.c) s.r.strip, .int .i64 s.next] := rfl
  rw [hc]
  apply law11_Alike_ok
  unfold G_law11_Alike
  simp [he]
  exact hq
set_option maxRecDepth 100000 in
theorem law11_Alike_A {w0 : World} {S : St} {s : Stk} {D : List Node} {want : AtN} {t : Fnd} {r1 r2 rt : Rt} (hL : Leads S s D) (hE : Ends s.tabs D want t) {Q : AV → St → Prop} (hq : Q (.int .i64 1) S) :
    AC w0 F_law11_Alike [.agg s.c, .agg (.str (pathOf want.names) :: t.c rt), .int .i64 0, .agg [.vs 1 (want.names.map wStr) r1, .vs 7 (want.nodes.map Node.c) r2, .int .i64 want.err]] S Q := by
  have hc : s.c = [.vs 2 (s.l.map Mnt.c) s.r.strip, .int .i64 s.next] := rfl
  rw [hc]
  obtain ⟨hs1, hs2⟩ := hE.short
  have hpl := pathOf_len hs1 hs2
  have hf := hE.facts
  apply law11_Alike_ok
  unfold G_law11_Alike
  simp [hE.1, ← hc]
  refine ref01_Join_A (by omega) (by omega) ?_
  simp
  cases hn : want.nodes with
  | nil =>
    rw [hn] at hf
    obtain ⟨rfl, h2⟩ := hf
    rw [h2]
    simp [pathOf, Lib.join_nil]
    exact hq
  | cons y l =>
    rw [hn] at hf
    obtain ⟨h1, h2, h3, h4, h5⟩ := hf
    obtain ⟨m, a1, a2, a3, a4⟩ := h2.at_
    have hB := hL.on m a2
    have hnl : y.names.l.length ≤ 1048576 := ((Node.ok_iff y).1 h3).2.1.2.1
    have hkd : (inoAt m.tab (t.sp.2 : Int)).kind = y.kind := by rw [a3]; rfl
    have hsz : (inoAt m.tab (t.sp.2 : Int)).size = y.size := by rw [a3]; rfl
    have htg : (inoAt m.tab (t.sp.2 : Int)).target = y.target := by rw [a3]; rfl
    have hnm : (inoAt m.tab (t.sp.2 : Int)).names = y.names.l := by rw [a3]; rfl
    have hz : ¬ ((l.length : Int) + 1 = 0) := by omega
    simp [hz, -or_join, -or_pure, -or_joinS]
    refine stack_At_A ?_
    rw [a1]
    simp [-or_join, -or_pure, -or_joinS]
    rw [joinK_eq]
    simp [h1, -or_join, -or_pure, -or_joinS]
    refine branch_Kind_A hB ?_
    rw [hkd]
    simp [-or_join, -or_pure, -or_joinS]
    rw [joinK_eq]
    simp [-or_join, -or_pure, -or_joinS]
    refine branch_Size_A hB ?_
    rw [hsz]
    simp [-or_join, -or_pure, -or_joinS]
    rw [joinK_eq]
    simp [-or_join, -or_pure, -or_joinS]
    refine branch_Target_A hB ?_
    rw [htg]
    simp [-or_join, -or_pure, -or_joinS]
    rw [joinK_eq]
    simp [-or_join, -or_pure, -or_joinS]
    refine branch_Names_A hB (by rw [hnm]; omega) (fun r5 _ => ?_)
    rw [hnm]
    simp
    refine ref01_Same_A (by omega) ?_
    simp
    by_cases k2 : y.kind = 2
    · rw [if_pos k2] at h5
      obtain ⟨h51, h52, h53⟩ := h5
      have hdl := h51.len
      have hdl2 : (t.dirs.length : Int) = (l.length : Int) + 1 := by rw [hdl]; simp
      simp [joinK_eq, k2, hdl2, h52, spC]
      exact hq
    · rw [if_neg k2] at h5
      simp [joinK_eq, k2, h5.1]
      exact hq
end Go.Av
