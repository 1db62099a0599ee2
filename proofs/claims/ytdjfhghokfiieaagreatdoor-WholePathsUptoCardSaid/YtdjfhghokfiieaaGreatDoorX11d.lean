/- Parts of the proofs of this seat: abstract values over the model, and what the functions of the program do. No condition. -/
import Derived.Test.YtdjfhghokfiieaaGreatDoorX08d
import Derived.Test.YtdjfhghokfiieaaGreatDoorX04L
set_option linter.all false
set_option linter.unusedVariables false
namespace Go.Av
open Go.Proofs
structure Case11 where
  trees : List Node
  tr : Rt
  path : Str
  follow : Bool
set_option maxRecDepth 100000 in
theorem dec_Case11 {x : AV} (h : TV t_socagelaw11_Case x) : ∃ c : Case11, x = .agg [.vs 7 (c.trees.map Node.c) c.tr.strip, .str c.path, .bool c.follow] ∧ (∀ n ∈ c.trees, n.ok) ∧ c.trees.length ≤ 1048576 ∧ c.path.length ≤ 1048576 ∧ (c.tr.strip = .nil → c.trees = []) := by
  obtain ⟨xs, rfl, h2⟩ := h.agg (by simp [isAgg, un_socagelaw11_Case])
  obtain ⟨hl, hf⟩ := h2.struct_inv un_socagelaw11_Case
  match xs, hl with
  | [a0, a1, a2], _ =>
    obtain ⟨l, lr, e0, hlr, hll, hlok⟩ := (dec_Node_aux (hf _ (List.mem_cons_self))).2 rfl
    obtain ⟨p, e1, hp⟩ := dec_str (hf _ (List.mem_cons_of_mem _ List.mem_cons_self)) un_string
    obtain ⟨f, e2⟩ := dec_bool (hf _ (List.mem_cons_of_mem _ (List.mem_cons_of_mem _ List.mem_cons_self))) un_bool
    cases e0
    cases e1
    cases e2
    have hs : lr.strip = lr ∧ (lr.strip = .nil → l = []) := by
      rcases hlr with ⟨rfl, h0⟩ | rfl
      · exact ⟨rfl, fun _ => h0⟩
      · exact ⟨rfl, fun e => by cases e⟩
    exact ⟨⟨l, lr, p, f⟩, by simp [hs.1], hlok, hll, hp, hs.2⟩
end Go.Av
