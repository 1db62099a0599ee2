/- The card of MergePages (upto) is proved: whatever comes in (of bulk at most 1048576), the law answers true. No condition but that bulk. -/
import Derived.Test.YtclomnkgpemnaaaDoorCards
import Derived.Test.YtclomnkgpemnaaaDoorTie
import Derived.WalkKit
import Derived.ProofKit
import Derived.OpenShut
import Derived.Below
import Derived.JoinedCond
import Derived.Deep.DeepHandedRow
import Derived.Deep.DeepWitnessRowRef
import Derived.Lib.LaidTab
import Derived.Test.YtclomnkgpemnaaaDoorX08d
import Derived.Test.YtclomnkgpemnaaaDoorM11
import Derived.Test.YtclomnkgpemnaaaDoorXSplit
namespace Go.Proofs.YtclomnkgpemnaaaDoor.mergePages
open Go.ChangeShapes Go.WideShapes Go.ChangeAt Go.RowKit Go.Av
set_option linter.unusedVariables false
set_option linter.unusedSimpArgs false
theorem own : ownKnob Tryd.prog.godebug = none := by kernel_rfl
theorem bulk_len {H : Type} : ∀ (l : List (DataW H)), l.length ≤ Rows.uptoBulkAll l ∧ ∀ d ∈ l, Rows.uptoBulk d ≤ Rows.uptoBulkAll l
  | [] => ⟨Nat.zero_le _, by simp⟩
  | d :: l => by
    obtain ⟨h1, h2⟩ := bulk_len l
    have h3 : 1 ≤ Rows.uptoBulk d := by
      cases d with
      | lit l => cases l <;> simp [Rows.uptoBulk]
      | _ => simp [Rows.uptoBulk]
    refine ⟨by simp only [Rows.uptoBulkAll, List.length_cons]; omega, fun e he => ?_⟩
    simp only [Rows.uptoBulkAll]
    rcases List.mem_cons.1 he with rfl | he
    · omega
    · have := h2 e he; omega
theorem bdd {H : Type} : Bdd 1048576 (fun d : DataW H => Rows.uptoBulk d ≤ 1048576) where
  str l h := by simp only [Rows.uptoBulk] at h; omega
  sl e s h := by
    simp only [Rows.uptoBulk] at h
    obtain ⟨h1, h2⟩ := bulk_len e
    obtain ⟨h3, h4⟩ := bulk_len s
    exact ⟨by omega, fun d hd => by have := h2 d hd; omega, fun d hd => by have := h4 d hd; omega⟩
  agg ps h d hd := by
    simp only [Rows.uptoBulk] at h
    have := (bulk_len ps).2 d hd
    omega
set_option maxRecDepth 100000 in
theorem law (w0 : World) (hm : MaxL w0) (xs : List AV) (hl : xs.length = Tryd.f8.params.size) (hx : ∀ (j : Nat) (t : TypeId) (x : AV), Tryd.f8.params[j]? = some t → xs[j]? = some x → TyV Tryd.prog 1048576 t x) :
    ACalls (En w0) 8 xs [] fun r _ => r = .bool true := by
  rw [Tryd.params8] at hl hx
  match xs, (show xs.length = 2 from hl) with
  | [x0, x1], _ => exact law10_MergePages_L w0 hm x0 x1 (hx 0 23 x0 rfl rfl) (hx 1 79 x1 rfl rfl)
def put (h : Array Go.Obj) (g : Nat) (cs : List Value) : Array Go.Obj := h.modify g fun
  | .cells _ t fz => .cells cs.toArray t fz
  | o => o
/-- A world in which the listed variables hold what their initialisers lay. -/
noncomputable def laidWorld (os : Os) : World := { World.holding Tryd.prog os ⟨#[], #[], []⟩ with heap := (put (put (World.holding Tryd.prog os ⟨#[], #[], []⟩).heap 2 ([128, 191, 160, 191, 128, 159, 144, 191, 128, 143, 0, 0, 0, 0, 0, 0, 0, 0, 0, 0, 0, 0, 0, 0, 0, 0, 0, 0, 0, 0, 0, 0].map fun n : Nat => Value.int .u8 (n : Int))) 1 (Go.Pinned.utf8FirstZ.map fun n : Nat => Value.int .u8 (n : Int))) }
theorem laid_met (os : Os) : laidMet Tryd.prog Rows.mergePagesUptoRow.laid ((laidWorld os).forCall (fun _ _ => 0) ⟨#[], #[.slice none 0 0, .slice none 0 0], []⟩).memory :=
  laidMet_of_run' 8 (by kernel_rfl) (by kernel_rfl)
theorem reads (os : Os) {H : Type} (enc : TypeId × Value → H) : ∃ places, DataW.whole enc Tryd.prog ((laidWorld os).forCall (fun _ _ => 0) ⟨#[], #[.slice none 0 0, .slice none 0 0], []⟩).memory Tryd.f8.params.toList Rows.mergePagesSpec.vars false #[.slice none 0 0, .slice none 0 0].toList 8 = some ([.nil, .nil], [], places) :=
  ⟨[], by kernel_rfl⟩
set_option maxRecDepth 100000 in
theorem lifted (os : Os) (started : os.Started) (H : Type) (enc : TypeId × Value → H) (F : Stop.Interp) :
    ReturnsInHanded {} Tryd.checked os 8 .any ((Rows.OpenSpec.upto Rows.mergePagesSpec).preRow enc Tryd.prog Tryd.f8 Rows.mergePagesUptoRow.domain false Rows.mergePagesUptoRow.laid) (((Rows.OpenSpec.upto Rows.mergePagesSpec).at F).post enc Tryd.prog Tryd.f8 false true false false) := by
  obtain ⟨places, hx⟩ := reads os enc
  refine returnsInHanded_of_row (C := Tryd.checked) (s := Rows.OpenSpec.upto Rows.mergePagesSpec) own started (by kernel_rfl) Tryd.func8
    (witness_row_atRef (enc := enc) (C := Tryd.checked) false (laidWorld os) #[.slice none 0 0, .slice none 0 0] rfl (by kernel_rfl) (by kernel_rfl) (by kernel_rfl)
      (OpenSpec.preRow_of_cond 8 hx (by kernel_rfl) (fun k hk => by cases hk; kernel_rfl) (by kernel_rfl) (laid_met os))) ?_
  intro W base args ds gs before hval hW _ hk _ _ hsh _
  have hk2 : Rows.uptoBulkAll (ds ++ gs) ≤ 1048576 := of_decide_eq_true (hk _ rfl)
  exact law_contract bdd (E := En W) (fn := Tryd.f8) (L := [23, 9, 79, 5]) (tb := 4) (by kernel_rfl) (by kernel_rfl) (by kernel_rfl) rfl Tryd.underlying4 rfl
    (fun ds hd => by
      match ds, hd with
      | [d0, d1], _ => exact ⟨rfl, rfl, rfl⟩) (law W (maxL_shaped hsh)) hval hW (fun d hd => Nat.le_trans ((bulk_len (ds ++ gs)).2 d (List.mem_append_left _ hd)) hk2)
theorem over : Rows.MergePagesUptoSaid :=
  OpenClaim.holds_of_cond 8 Tryd.f8 rfl rfl rfl rfl rfl rfl rfl ⟨rfl, rfl, rfl, rfl, rfl⟩ rfl rfl rfl rfl rfl (by kernel_rfl) Tryd.func8 (by kernel_rfl)
    (of_decide_eq_true (by kernel_rfl)) (by unfold Func.isWrapper; first | (rw [if_pos (by decide +kernel)]; kernel_rfl) | (rw [if_neg (by decide +kernel)]; exact ⟨rfl, rfl⟩))
    (fun os started H enc _ F => by rw [OpenClaim.pre_eq_preRow]; exact lifted os started H enc F)
theorem plain (f : FuncId) (fn : Func) (hf : Tryd.pinned.checked.prog.funcNamed "socage/socagelaw10.MergePages" = some f) (hfn : Tryd.pinned.checked.prog.funcs[f]? = some fn) :
    false = Tryd.pinned.checked.prog.looks [] ∧ ∀ (j : Nat) t, fn.params[j]? = some t → Tryd.pinned.checked.prog.wantsStandIn t = false := by
  obtain rfl : f = 8 := Option.some.inj ((show Tryd.prog.funcNamed "socage/socagelaw10.MergePages" = some 8 by kernel_rfl).symm.trans hf) |>.symm
  obtain rfl : fn = Tryd.f8 := (Option.some.inj (Tryd.func8.symm.trans hfn)).symm
  refine ⟨by kernel_rfl, fun j t ht => ?_⟩
  rw [Tryd.params8] at ht
  have h : ([23, 79].all fun t => !Tryd.prog.wantsStandIn t) = true := by kernel_rfl
  have h2 := List.all_eq_true.1 h t (by simpa using Array.mem_of_getElem? ht)
  exact (show Tryd.prog.wantsStandIn t = false by simpa using h2)
theorem proved : Rows.MergePagesUptoCardSaid :=
  Claim7.holds_tied_plain_at .later [] _ _ _ _ over (fun _ h => by cases h) (by kernel_rfl) (fun _ h => by cases h) mergePagesUpto_row_tie rfl ⟨rfl, rfl⟩ (by kernel_rfl) rfl plain (by kernel_rfl)
#print axioms proved
end Go.Proofs.YtclomnkgpemnaaaDoor.mergePages
