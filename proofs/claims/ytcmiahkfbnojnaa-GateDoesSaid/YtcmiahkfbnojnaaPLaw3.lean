/- A part of the proof of a law of this seat: a text of its own. No condition. -/
import Derived.Test.YtcmiahkfbnojnaaRows
import Derived.WalkKit
import Derived.ProofKit
import Derived.OpenShut
import Derived.Below
import Derived.Test.YtcmiahkfbnojnaaPGate4
import Derived.Test.YtcmiahkfbnojnaaA33
set_option linter.all false
namespace Go.Proofs.Ytcmiahkfbnojnaa.gateDoes
open Go.ChangeShapes Go.WideShapes Go.ChangeAt Go.RowKit Go.Av
set_option linter.unusedVariables false
theorem own : ownKnob Try.prog.godebug = none := by kernel_rfl
set_option maxRecDepth 100000 in
theorem law (w0 : World) (xs : List AV) (hl : xs.length = Try.f3.params.size) (hx : ∀ (j : Nat) (t : TypeId) (x : AV), Try.f3.params[j]? = some t → xs[j]? = some x → TyV Try.prog t x) :
    ACalls (En w0) 3 xs [] fun r _ => r = .bool true := by
  rw [Try.params3] at hl hx
  match xs, (show xs.length = 1 from hl) with
  | [x], _ =>
    obtain ⟨es, r, e, _, _, he⟩ := ((hx 0 22 x rfl rfl).one (by kernel_rfl)).slice_inv Try.underlying22
    cases e
    refine f3 fun e hm => ?_
    obtain ⟨h1, h2⟩ := (he e hm).struct_inv Try.underlying31
    match e, h1 with
    | [a, b], _ =>
      obtain ⟨n, h3, h4⟩ := (h2 _ (List.mem_cons_self)).int_inv Try.underlying5
      obtain ⟨m, h5, h6⟩ := (h2 _ (List.mem_cons_of_mem _ List.mem_cons_self)).int_inv Try.underlying5
      obtain ⟨k, rfl, hk⟩ := nat_u8 h4
      obtain ⟨j, rfl, hj⟩ := nat_u8 h6
      cases h3
      cases h5
      exact ⟨k, j, rfl, hk, hj⟩
set_option maxRecDepth 100000 in
theorem lifted (os : Os) (started : os.Started) (H : Type) (enc : TypeId × Value → H) :
    ReturnsInHanded {} Try.checked os 3 .any (Rows.gateDoesSpec.pre6 enc Try.prog Try.f3 Rows.gateDoesRow.domain false) (Rows.gateDoesSpec.post enc Try.prog Try.f3 false true false false) := by
  refine returnsInHanded_of_change (C := Try.checked) own started (by kernel_rfl) Try.func3
    (ChangeSpec.witness6 (enc := enc) (C := Try.checked) false ⟨#[], #[.slice none 0 0], []⟩ 8 (by kernel_rfl) (by kernel_rfl) (by kernel_rfl) (by kernel_rfl)) ?_
  intro W base args ds gs before hval hW _ _
  exact law_contract (E := En W) (fn := Try.f3) (L := [22, 31, 5]) (tb := 4) (by kernel_rfl) (by kernel_rfl) (by kernel_rfl) rfl Try.underlying4 rfl
    (fun ds hd => by
      match ds, hd with
      | [d], _ => exact ⟨rfl, rfl, rfl⟩) (law W) hval hW

theorem over : Rows.gateDoesRow.holds Try.pinned (OpenSpec.ofChange Rows.gateDoesSpec) :=
  OpenClaim.holds_of_wide 3 Try.f3 rfl rfl rfl rfl rfl rfl rfl ⟨rfl, rfl, rfl, rfl, rfl⟩ rfl rfl rfl rfl rfl (by kernel_rfl) Try.func3 (by kernel_rfl)
    (of_decide_eq_true (by kernel_rfl)) (by unfold Func.isWrapper; first | (rw [if_pos (by decide +kernel)]; kernel_rfl) | (rw [if_neg (by decide +kernel)]; exact ⟨rfl, rfl⟩))
    (fun os started H enc _ => lifted os started H enc)
theorem proved : Rows.GateDoesSaid := over
#print axioms proved
end Go.Proofs.Ytcmiahkfbnojnaa.gateDoes
