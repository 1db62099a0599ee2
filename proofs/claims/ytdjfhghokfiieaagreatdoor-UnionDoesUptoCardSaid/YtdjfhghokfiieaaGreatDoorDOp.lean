/- Parts of the proofs of this seat: abstract values over the model, and what the functions of the program do. No condition. -/
import Derived.Test.YtdjfhghokfiieaaGreatDoorD0
import Derived.Test.YtdjfhghokfiieaaGreatDoorY19
set_option linter.all false
set_option linter.unusedVariables false
namespace Go.Av
open Go.Proofs
set_option maxRecDepth 100000 in
theorem dec_OpN (ys : List AV) (h : TT t_api_Op ys) : ∃ o : OpN, ys = o.c ∧ (o.ok ∧ o.path.length ≤ 1048576 ∧ o.image.length ≤ 1048576) := by
  obtain ⟨h1, h2⟩ := h.struct_inv un_api_Op
  match ys, h1 with
  | [a0, a1, a2, a3, a4, a5], _ =>
    obtain ⟨k, e0, hk⟩ := dec_int (h2 _ (List.mem_cons_self)) un_int
    obtain ⟨p, e1, hp⟩ := dec_str (h2 _ (List.mem_cons_of_mem _ List.mem_cons_self)) un_string
    obtain ⟨of_, e2, ho⟩ := dec_int (h2 _ (List.mem_cons_of_mem _ (List.mem_cons_of_mem _ List.mem_cons_self))) un_int
    obtain ⟨n, e3, hn⟩ := dec_int (h2 _ (List.mem_cons_of_mem _ (List.mem_cons_of_mem _ (List.mem_cons_of_mem _ List.mem_cons_self)))) un_int
    obtain ⟨i, e4, hi⟩ := dec_int (h2 _ (List.mem_cons_of_mem _ (List.mem_cons_of_mem _ (List.mem_cons_of_mem _ (List.mem_cons_of_mem _ List.mem_cons_self))))) un_int
    obtain ⟨m, e5, hm⟩ := dec_str (h2 _ (List.mem_cons_of_mem _ (List.mem_cons_of_mem _ (List.mem_cons_of_mem _ (List.mem_cons_of_mem _ (List.mem_cons_of_mem _ List.mem_cons_self)))))) un_string
    cases e0; cases e1; cases e2; cases e3; cases e4; cases e5
    exact ⟨⟨k, p, of_, n, i, m⟩, rfl, ⟨hk, ho, hn, hi⟩, hp, hm⟩
theorem TyV.opN {x : AV} (h : TV t_api_Op x) : ∃ o : OpN, x = .agg o.c ∧ o.ok ∧ o.path.length ≤ 1048576 ∧ o.image.length ≤ 1048576 := by
  obtain ⟨xs, rfl, h2⟩ := h.agg (by simp [isAgg, un_api_Op])
  obtain ⟨o, rfl, ho⟩ := dec_OpN xs h2
  exact ⟨o, rfl, ho⟩
end Go.Av
