/- Parts of the proofs of this seat: abstract values over the model, and what the functions of the program do. No condition. -/
import Derived.Test.YtdjfhghokfiieaaGreatDoorX04L
import Derived.Test.YtdjfhghokfiieaaGreatDoorM8
import Derived.Test.YtdjfhghokfiieaaGreatDoorM9
import Derived.Test.YtdjfhghokfiieaaGreatDoorD0
import Derived.Test.YtdjfhghokfiieaaGreatDoorM5
import Derived.Test.YtdjfhghokfiieaaGreatDoorXDelR
import Derived.Test.YtdjfhghokfiieaaGreatDoorY19
import Derived.Test.YtdjfhghokfiieaaGreatDoorDOp
import Derived.Test.YtdjfhghokfiieaaGreatDoorY10
import Derived.Test.YtdjfhghokfiieaaGreatDoorX08d
import Derived.Shelf.SlLaysE0
import Derived.Shelf.RegionOpenPlain
import Derived.WalkKit
import Derived.Deep.LoopGhost
import Derived.Deep.RegionLaw
import Derived.Lib.Walk
import Derived.Sort.WalkB12
import Derived.Lib.SliceRun
import Derived.Shelf.Lay
import Derived.Shelf.LaySoft
import Derived.Shelf.SlGeneric
import Derived.Ground.SlgnProg
import Derived.Shelf.SlicesE.Clone
set_option linter.all false
set_option linter.unusedVariables false
namespace Go.Av
open Go.Proofs
theorem StkOf.get {S0 S : St} {l : List Node} {s : Stk} (h : StkOf S0 S l s) {k : Nat} (hk : k < l.length) : ∃ m n, s.l[k]? = some m ∧ l[l.length - 1 - k]? = some n ∧ m.num = l.length - 1 - k ∧ m.tab = n.tab 0 ∧ m ∈ s.l := by
  have h1 : k < s.l.length := by rw [h.len]; exact hk
  have hm : s.l[k]? = some s.l[k] := List.getElem?_eq_getElem h1
  have hn : l[l.length - 1 - k]? = some (l[l.length - 1 - k]'(by omega)) := List.getElem?_eq_getElem (by omega)
  refine ⟨_, _, hm, hn, ?_, ?_, List.getElem_mem h1⟩
  · have := congrArg (fun x => x[k]?) h.nums
    simp only [List.getElem?_map, hm, Option.map_some] at this
    rw [List.getElem?_reverse (by simpa using hk), List.length_range, List.getElem?_range (by omega)] at this
    exact Option.some.inj this
  · have := congrArg (fun x => x[k]?) h.tabs
    simp only [List.getElem?_map, hm, Option.map_some] at this
    rw [List.getElem?_reverse hk, hn] at this
    exact Option.some.inj this
end Go.Av
set_option linter.unusedVariables false
namespace Go.Av
open Go.Proofs
theorem StkD.of {S0 S : St} {l : List Node} {s : Stk} (hs : StkOf S0 S l s) (hok : ∀ n ∈ l, n.ok) (hall : ∀ n ∈ l, rightB n = true) (hl : l.length ≤ 64) : StkD S s l.reverse (fun k => ((((List.range l.length).map fun i : Nat => ((l.length - 1 - i : Nat) : Int))[k]?).getD 0)) := by
  refine ⟨Leads.of hs hok hall hl, stk_tabs hs, fun k m hm => ?_⟩
  have hk : k < l.length := by have := (List.getElem?_eq_some_iff.1 hm).1; rw [hs.len] at this; exact this
  obtain ⟨m', n, h1, h2, h3, h4, h5⟩ := hs.get hk
  rw [h1] at hm
  cases hm
  simp [hk, h3]
theorem finishR_names (D : List Node) (ids : Nat → Int) (o : OpN) (w : AtN) : (finishR D ids o w).names = [] := by
  unfold finishR faultR
  repeat' split
  all_goals rfl
theorem doR_names (D : List Node) (ids : Nat → Int) (o : OpN) : (doR D ids o).names = [] := by
  unfold doR
  split
  · rfl
  · split
    · rfl
    · split
      · rfl
      · exact finishR_names ..
theorem ofE_xyz : ofE 0 [120, 121, 122] = [⟨0, [120, 121, 122]⟩] := by
  rw [ofE]
  simp [ofE]
set_option maxRecDepth 100000 in
theorem law12_speaks_A {w0 : World} (hm : MaxL w0) {S : St} {Q : AV → St → Prop} (hq : ∀ S', Sx S S' → Q (.bool true) S') : AC w0 F_law12_speaks [] S Q := by
  apply law12_speaks_ok
  unfold G_law12_speaks
  refine tree_Text_A (by simp) (fun r1 hr1 => ?_)
  refine tree_Dir_A (l := []) (items := []) okR_nil okR_nil (by simp) (by simp) (fun q1 q2 k1 k2 => ?_)
  simp
  refine tree_Dir_A (l := [[97], [100]]) (items := [textN [120, 121, 122] r1, dirN false [] q1 [] q2]) okR_full okR_full (by simp) (by simp) (fun q3 q4 k3 k4 => ?_)
  have hx := textN_ok (s := [120, 121, 122]) (by simp) hr1
  have hok0 := dirN_ok (o := false) (l := []) (items := []) (by simp) (by simp) k1 k2
  have hok1 := dirN_ok (o := false) (l := [[97], [100]]) (items := [textN [120, 121, 122] r1, dirN false [] q1 [] q2]) (by simp) (by simp [hx, hok0]) k3 k4
  have a1 : oneB (textN [120, 121, 122] r1) = true := textN_right (by simp)
  have a2 : (textN [120, 121, 122] r1).allB = true := by rw [Node.all_eq, a1]; rfl
  have hr : rightB (dirN false [[97], [100]] q3 [textN [120, 121, 122] r1, dirN false [] q1 [] q2] q4) = true := by
    have a3 : oneB (dirN false [[97], [100]] q3 [textN [120, 121, 122] r1, dirN false [] q1 [] q2] q4) = true := by rfl
    have a5 : (dirN false [] q1 [] q2).allB = true := by rfl
    have a4 : (dirN false [[97], [100]] q3 [textN [120, 121, 122] r1, dirN false [] q1 [] q2] q4).allB = true := by
      rw [Node.all_eq, a3]
      show (Node.allsB [_, _] && true) = true
      rw [Node.allsB, a2, Node.allsB, a5]
      rfl
    rw [rightB, a4]
    rfl
  have e1 : ∀ ids, (doR [dirN false [[97], [100]] q3 [textN [120, 121, 122] r1, dirN false [] q1 [] q2] q4] ids ⟨4, [97], 1, 9, 0, []⟩).text = [121, 122] := fun ids => by
    show readP 3 (ofE 0 [120, 121, 122]) 1 9 = [121, 122]
    rw [ofE_xyz]
    decide
  have e2 : ∀ ids, (doR [dirN false [[97], [100]] q3 [textN [120, 121, 122] r1, dirN false [] q1 [] q2] q4] ids ⟨4, [100], 0, 0, 0, []⟩).err = 5 := fun ids => by rfl
  have e3 : ∀ ids, (doR [dirN false [[97], [100]] q3 [textN [120, 121, 122] r1, dirN false [] q1 [] q2] q4] ids ⟨3, [97], 0, 0, 0, []⟩).err = 1 := fun ids => by rfl
  generalize dirN false [[97], [100]] q3 [textN [120, 121, 122] r1, dirN false [] q1 [] q2] q4 = d1 at hok1 hr e1 e2 e3 ⊢
  have h0 := ofErr_all [d1] 0 (by simp [hr]) (by simp)
  simp
  refine stack_Of_A (l := [d1]) hm (by simp [hok1]) (by simp) (fun S1 h1 => ⟨fun _ s hs => ?_, fun h => absurd h0 h⟩)
  have hL := StkD.of hs (by simp [hok1]) (by simp [hr]) (by simp)
  simp
  rw [joinK_eq]
  refine stack_Len_A ?_
  rw [hs.len]
  simp
  refine union_Do_A (o := ⟨4, [97], 1, 9, 0, []⟩) hm hL (by simp) (fun S2 hS2 => ?_)
  simp [ResN.c]
  refine union_Do_A (o := ⟨4, [100], 0, 0, 0, []⟩) hm (hL.mono hS2) (by simp) (fun S3 hS3 => ?_)
  simp [ResN.c]
  refine union_Do_A (o := ⟨3, [97], 0, 0, 0, []⟩) hm ((hL.mono hS2).mono hS3) (by simp) (fun S4 hS4 => ?_)
  have e1' := e1 (fun k => ((((List.range [d1].length).map fun i : Nat => (([d1].length - 1 - i : Nat) : Int))[k]?).getD 0))
  have e2' := e2 (fun k => ((((List.range [d1].length).map fun i : Nat => (([d1].length - 1 - i : Nat) : Int))[k]?).getD 0))
  have e3' := e3 (fun k => ((((List.range [d1].length).map fun i : Nat => (([d1].length - 1 - i : Nat) : Int))[k]?).getD 0))
  simp at e1' e2' e3'
  simp [ResN.c, e1', e2', e3', joinK_eq]
  exact hq _ (((h1.trans hS2).trans hS3).trans hS4)
set_option maxRecDepth 100000 in
theorem law12_UnionDoes_L (w0 : World) (hm : MaxL w0) (x0 x1 : AV) (h0 : TV t_s_api_Node x0) (h1 : TV t_api_Op x1) : AC w0 F_law12_UnionDoes [x0, x1] [] fun r _ => r = .bool true := by
  refine law_of fun Q hq => ?_
  obtain ⟨l, lr, e1, hlr, hll, hlok⟩ := (dec_Node_aux (h0.one (by simp [isAgg, un_s_api_Node]))).2 rfl
  have e1' : x0 = .vs 7 (l.map Node.c) lr := by simpa using e1
  subst e1'
  obtain ⟨o, rfl, hok, hpl, hil⟩ := h1.opN
  have ho : o.c = [.int .i64 o.kind, .str o.path, .int .i64 o.off, .int .i64 o.n, .int .i64 o.id, .str o.image] := rfl
  rw [ho]
  apply law12_UnionDoes_ok
  unfold G_law12_UnionDoes
  simp
  refine law12_speaks_A hm (fun S _ => ?_)
  simp
  refine law08_May_A hlok (fun S2 hS2 => ?_)
  cases hmay : mayB l with
  | false => simp [joinK_eq, hq]
  | true =>
  simp
  by_cases hp : 1100 < o.path.length
  · have : (1100 : Int) < o.path.length := by omega
    simp [this, hq]
  have hpi : ¬ (1100 : Int) < o.path.length := by omega
  by_cases hn : 3000 < o.n
  · simp [hn, hpi, hq]
  obtain ⟨h8, hall⟩ := mayB_iff.1 hmay
  have hright : ∀ n ∈ l, rightB n = true := fun n hn => (hall n hn).2
  simp [hpi, hn]
  refine law08_Stack_A hm hlok hmay (fun S3 s hS3 hs => ?_)
  have hL := StkD.of hs hlok hright (by omega)
  have hD : Docs l.reverse := Docs.of hlok hright (by omega)
  simp
  rw [← ho]
  refine union_Do_A hm hL hpl (fun S4 hS4 => ?_)
  refine law08_Above_A (by omega) (fun r3 => ?_)
  refine law12_IDs_A (by omega) (fun r4 => ?_)
  simp
  rw [show (List.range l.length).map (fun i : Nat => [AV.int .i64 ((l.length - 1 - i : Nat) : Int)]) = ((List.range l.length).map fun i : Nat => ((l.length - 1 - i : Nat) : Int)).map fun i => [AV.int .i64 i] from (by rw [List.map_map]; rfl)]
  try rw [← List.map_reverse]
  have hL4 := hL.mono hS4
  refine ref12_Do_A (D := l.reverse) (ids := (List.range l.length).map fun i : Nat => ((l.length - 1 - i : Nat) : Int)) hL4.leads hL4.tabs hD (fun n hn => ⟨hlok n (by simpa using hn), (rightB_all (hright n (by simpa using hn))).2.1⟩) (by simp) hpl (hok.off.2) hL4.leads.ends ?_
  simp
  have hnm := doR_names l.reverse (fun k => ((List.range l.length).map fun i : Nat => ((l.length - 1 - i : Nat) : Int))[k]?.getD 0) o
  simp at hnm
  generalize doR l.reverse _ o = a at hnm ⊢
  have e : a.c .nil = [.int .i64 a.err, .int .i64 a.kind, .int .i64 a.size, .int .i64 a.where_, .int .i64 a.id, .str a.text, .vs 1 (a.names.map wStr) .nil, .bool a.end_] := rfl
  simp [e]
  rw [← e]
  exact ref12_Same_A (a := a) (by rw [hnm]; simp) (hq _)
end Go.Av
