/- The statement HeapPartsUptoSaid is proved: whatever comes in (of bulk at most 1048576), the law answers true. No condition but that bulk. -/
import Derived.Test.YtcmiahkfbnojnaaRows
import Derived.WalkKit
import Derived.ProofKit
import Derived.OpenShut
import Derived.Below
import Derived.JoinedCond
import Derived.Test.YtcmiahkfbnojnaaX09L
import Derived.Test.YtcmiahkfbnojnaaM9
namespace Go.Proofs.Ytcmiahkfbnojnaa.heapParts
open Go.ChangeShapes Go.WideShapes Go.ChangeAt Go.RowKit Go.Av
set_option linter.unusedVariables false
set_option linter.unusedSimpArgs false
theorem own : ownKnob Try.prog.godebug = none := by kernel_rfl
theorem bulk_len {H : Type} : ∀ (l : List (DataW H)), l.length ≤ Rows.uptoBulkAll l ∧ ∀ d ∈ l, Rows.uptoBulk d ≤ Rows.uptoBulkAll l
  | [] => ⟨Nat.zero_le _, by simp⟩
  | d :: l => by
    obtain ⟨h1, h2⟩ := bulk_len l
    have h3 : 1 ≤ Rows.uptoBulk d := by
      cases d with
      | lit l => cases l <;> simp [Rows.uptoBulk]
      | _ => simp [Rows.uptoBulk]
    refine ⟨by simp only [Rows.uptoBulkAll, List.length_cons]; omega, fun e he => ?_⟩
    simp only [Rows.uptoBulkAll]
    rcases List.mem_cons.1 he with rfl | he
    · omega
    · have := h2 e he; omega
theorem bdd {H : Type} : Bdd 1048576 (fun d : DataW H => Rows.uptoBulk d ≤ 1048576) where
  str l h := by simp only [Rows.uptoBulk] at h; omega
  sl e s h := by
    simp only [Rows.uptoBulk] at h
    obtain ⟨h1, h2⟩ := bulk_len e
    obtain ⟨h3, h4⟩ := bulk_len s
    exact ⟨by omega, fun d hd => by have := h2 d hd; omega, fun d hd => by have := h4 d hd; omega⟩
  agg ps h d hd := by
    simp only [Rows.uptoBulk] at h
    have := (bulk_len ps).2 d hd
    omega
set_option maxRecDepth 100000 in
theorem law (w0 : World) (xs : List AV) (hl : xs.length = Try.f6.params.size) (hx : ∀ (j : Nat) (t : TypeId) (x : AV), Try.f6.params[j]? = some t → xs[j]? = some x → TyV Try.prog 1048576 t x) :
    ACalls (En w0) 6 xs [] fun r _ => r = .bool true := by
  rw [Try.params6] at hl hx
  match xs, (show xs.length = 2 from hl) with
  | [x0, x1], _ => exact law09_HeapParts_L w0 x0 x1 (hx 0 39 x0 rfl rfl) (hx 1 5 x1 rfl rfl)
set_option maxRecDepth 100000 in
theorem lifted (os : Os) (started : os.Started) (H : Type) (enc : TypeId × Value → H) (F : Stop.Interp) :
    ReturnsInHanded {} Try.checked os 6 .any ((Rows.OpenSpec.upto Rows.heapPartsSpec).pre6 enc Try.prog Try.f6 Rows.heapPartsUptoRow.domain false) (((Rows.OpenSpec.upto Rows.heapPartsSpec).at F).post enc Try.prog Try.f6 false true false false) := by
  refine returnsInHanded_of_cond (C := Try.checked) (s := Rows.OpenSpec.upto Rows.heapPartsSpec) (k := Rows.uptoSmall) rfl own started (by kernel_rfl) Try.func6
    (OpenSpec.witness (enc := enc) (C := Try.checked) (s := Rows.OpenSpec.upto Rows.heapPartsSpec) (k := Rows.uptoSmall) rfl false ⟨#[], #[.slice none 0 0, .int .u8 0], []⟩ 8 (by kernel_rfl) (by kernel_rfl) (by kernel_rfl)
      (x := ([.nil, .lit (.int .u8 0)], [], [])) (by kernel_rfl) rfl (by kernel_rfl)) ?_
  intro W base args ds gs before hval hW _ hk _
  have hk2 : Rows.uptoBulkAll (ds ++ gs) ≤ 1048576 := of_decide_eq_true hk
  exact law_contract bdd (E := En W) (fn := Try.f6) (L := [39, 40, 9, 5]) (tb := 4) (by kernel_rfl) (by kernel_rfl) (by kernel_rfl) rfl Try.underlying4 rfl
    (fun ds hd => by
      match ds, hd with
      | [d0, d1], _ => exact ⟨rfl, rfl, rfl⟩) (law W) hval hW (fun d hd => Nat.le_trans ((bulk_len (ds ++ gs)).2 d (List.mem_append_left _ hd)) hk2)
theorem over : Rows.heapPartsUptoRow.holds Try.pinned (Rows.OpenSpec.upto Rows.heapPartsSpec) :=
  OpenClaim.holds_of_cond 6 Try.f6 rfl rfl rfl rfl rfl rfl rfl ⟨rfl, rfl, rfl, rfl, rfl⟩ rfl rfl rfl rfl rfl (by kernel_rfl) Try.func6 (by kernel_rfl)
    (of_decide_eq_true (by kernel_rfl)) (by unfold Func.isWrapper; first | (rw [if_pos (by decide +kernel)]; kernel_rfl) | (rw [if_neg (by decide +kernel)]; exact ⟨rfl, rfl⟩))
    (fun os started H enc _ F => lifted os started H enc F)
theorem proved : Rows.HeapPartsUptoSaid := over
#print axioms proved
end Go.Proofs.Ytcmiahkfbnojnaa.heapParts
