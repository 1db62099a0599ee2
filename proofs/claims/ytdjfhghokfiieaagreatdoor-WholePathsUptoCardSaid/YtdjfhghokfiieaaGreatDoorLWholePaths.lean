/- The card of WholePaths (upto) is proved: whatever comes in (of bulk at most 1048576), the law answers true. No condition but that bulk. -/
import Derived.Test.YtdjfhghokfiieaaGreatDoorCards
import Derived.Test.YtdjfhghokfiieaaGreatDoorTie
import Derived.WalkKit
import Derived.ProofKit
import Derived.OpenShut
import Derived.Below
import Derived.JoinedCond
import Derived.Deep.DeepHandedRow
import Derived.Deep.DeepWitnessRowRef
import Derived.Lib.LaidTab
import Derived.Test.YtdjfhghokfiieaaGreatDoorX07L
import Derived.Test.YtdjfhghokfiieaaGreatDoorM11
import Derived.Test.YtdjfhghokfiieaaGreatDoorXSplit
namespace Go.Proofs.YtdjfhghokfiieaaGreatDoor.wholePaths
open Go.ChangeShapes Go.WideShapes Go.ChangeAt Go.RowKit Go.Av
set_option linter.unusedVariables false
set_option linter.unusedSimpArgs false
theorem own : ownKnob Tryz.prog.godebug = none := by kernel_rfl
theorem bulk_len {H : Type} : ∀ (l : List (DataW H)), l.length ≤ Rows.uptoBulkAll l ∧ ∀ d ∈ l, Rows.uptoBulk d ≤ Rows.uptoBulkAll l
  | [] => ⟨Nat.zero_le _, by simp⟩
  | d :: l => by
    obtain ⟨h1, h2⟩ := bulk_len l
    have h3 : 1 ≤ Rows.uptoBulk d := by
      cases d with
      | lit l => cases l <;> simp [Rows.uptoBulk]
      | _ => simp [Rows.uptoBulk]
    refine ⟨by simp only [Rows.uptoBulkAll, List.length_cons]; omega, fun e he => ?_⟩
    simp only [Rows.uptoBulkAll]
    rcases List.mem_cons.1 he with rfl | he
    · omega
    · have := h2 e he; omega
theorem bdd {H : Type} : Bdd 1048576 (fun d : DataW H => Rows.uptoBulk d ≤ 1048576) where
  str l h := by simp only [Rows.uptoBulk] at h; omega
  sl e s h := by
    simp only [Rows.uptoBulk] at h
    obtain ⟨h1, h2⟩ := bulk_len e
    obtain ⟨h3, h4⟩ := bulk_len s
    exact ⟨by omega, fun d hd => by have := h2 d hd; omega, fun d hd => by have := h4 d hd; omega⟩
  agg ps h d hd := by
    simp only [Rows.uptoBulk] at h
    have := (bulk_len ps).2 d hd
    omega
set_option maxRecDepth 100000 in
theorem law (w0 : World) (hm : MaxL w0) (xs : List AV) (hl : xs.length = Tryz.f3.params.size) (hx : ∀ (j : Nat) (t : TypeId) (x : AV), Tryz.f3.params[j]? = some t → xs[j]? = some x → TyV Tryz.prog 1048576 t x) :
    ACalls (En w0) 3 xs [] fun r _ => r = .bool true := by
  rw [Tryz.params3] at hl hx
  match xs, (show xs.length = 3 from hl) with
  | [x0, x1, x2], _ => exact top_WholePaths_L w0 hm x0 x1 x2 (hx 0 24 x0 rfl rfl) (hx 1 3 x1 rfl rfl) (hx 2 3 x2 rfl rfl)
def put (h : Array Go.Obj) (g : Nat) (cs : List Value) : Array Go.Obj := h.modify g fun
  | .cells _ t fz => .cells cs.toArray t fz
  | o => o
/-- A world in which the listed variables hold what their initialisers lay. -/
noncomputable def laidWorld (os : Os) : World := { World.holding Tryz.prog os ⟨#[], #[], []⟩ with heap := (put (put (World.holding Tryz.prog os ⟨#[], #[], []⟩).heap 2 ([128, 191, 160, 191, 128, 159, 144, 191, 128, 143, 0, 0, 0, 0, 0, 0, 0, 0, 0, 0, 0, 0, 0, 0, 0, 0, 0, 0, 0, 0, 0, 0].map fun n : Nat => Value.int .u8 (n : Int))) 1 (Go.Pinned.utf8FirstZ.map fun n : Nat => Value.int .u8 (n : Int))) }
theorem laid_met (os : Os) : laidMet Tryz.prog Rows.wholePathsUptoRow.laid ((laidWorld os).forCall (fun _ _ => 0) ⟨#[], #[.agg #[.slice none 0 0, .string .empty, .bool false], .int .i64 0, .int .i64 0], []⟩).memory :=
  laidMet_of_run' 8 (by kernel_rfl) (by kernel_rfl)
theorem reads (os : Os) {H : Type} (enc : TypeId × Value → H) : ∃ places, DataW.whole enc Tryz.prog ((laidWorld os).forCall (fun _ _ => 0) ⟨#[], #[.agg #[.slice none 0 0, .string .empty, .bool false], .int .i64 0, .int .i64 0], []⟩).memory Tryz.f3.params.toList Rows.wholePathsSpec.vars false #[.agg #[.slice none 0 0, .string .empty, .bool false], .int .i64 0, .int .i64 0].toList 8 = some ([.agg [.nil, .lit (.string []), .lit (.bool false)], .lit (.int .i64 0), .lit (.int .i64 0)], [], places) :=
  ⟨[], by kernel_rfl⟩
set_option maxRecDepth 100000 in
theorem lifted (os : Os) (started : os.Started) (H : Type) (enc : TypeId × Value → H) (F : Stop.Interp) :
    ReturnsInHanded {} Tryz.checked os 3 .any ((Rows.OpenSpec.upto Rows.wholePathsSpec).preRow enc Tryz.prog Tryz.f3 Rows.wholePathsUptoRow.domain false Rows.wholePathsUptoRow.laid) (((Rows.OpenSpec.upto Rows.wholePathsSpec).at F).post enc Tryz.prog Tryz.f3 false true false false) := by
  obtain ⟨places, hx⟩ := reads os enc
  refine returnsInHanded_of_row (C := Tryz.checked) (s := Rows.OpenSpec.upto Rows.wholePathsSpec) own started (by kernel_rfl) Tryz.func3
    (witness_row_atRef (enc := enc) (C := Tryz.checked) false (laidWorld os) #[.agg #[.slice none 0 0, .string .empty, .bool false], .int .i64 0, .int .i64 0] rfl (by kernel_rfl) (by kernel_rfl) (by kernel_rfl)
      (OpenSpec.preRow_of_cond 8 hx (by kernel_rfl) (fun k hk => by cases hk; kernel_rfl) (by kernel_rfl) (laid_met os))) ?_
  intro W base args ds gs before hval hW _ hk _ _ hsh _
  have hk2 : Rows.uptoBulkAll (ds ++ gs) ≤ 1048576 := of_decide_eq_true (hk _ rfl)
  exact law_contract bdd (E := En W) (fn := Tryz.f3) (L := [24, 22, 73, 3, 4, 44, 9, 71, 172]) (tb := 4) (by kernel_rfl) (by kernel_rfl) (by kernel_rfl) rfl Tryz.underlying4 rfl
    (fun ds hd => by
      match ds, hd with
      | [d0, d1, d2], _ => exact ⟨rfl, rfl, rfl⟩) (law W (maxL_shaped hsh)) hval hW (fun d hd => Nat.le_trans ((bulk_len (ds ++ gs)).2 d (List.mem_append_left _ hd)) hk2)
theorem over : Rows.WholePathsUptoSaid :=
  OpenClaim.holds_of_cond 3 Tryz.f3 rfl rfl rfl rfl rfl rfl rfl ⟨rfl, rfl, rfl, rfl, rfl⟩ rfl rfl rfl rfl rfl (by kernel_rfl) Tryz.func3 (by kernel_rfl)
    (of_decide_eq_true (by kernel_rfl)) (by unfold Func.isWrapper; first | (rw [if_pos (by decide +kernel)]; kernel_rfl) | (rw [if_neg (by decide +kernel)]; exact ⟨rfl, rfl⟩))
    (fun os started H enc _ F => by rw [OpenClaim.pre_eq_preRow]; exact lifted os started H enc F)
theorem plain (f : FuncId) (fn : Func) (hf : Tryz.pinned.checked.prog.funcNamed "socage/socagetop.WholePaths" = some f) (hfn : Tryz.pinned.checked.prog.funcs[f]? = some fn) :
    true = Tryz.pinned.checked.prog.looks [] ∧ ∀ (j : Nat) t, fn.params[j]? = some t → Tryz.pinned.checked.prog.wantsStandIn t = false := by
  obtain rfl : f = 3 := Option.some.inj ((show Tryz.prog.funcNamed "socage/socagetop.WholePaths" = some 3 by kernel_rfl).symm.trans hf) |>.symm
  obtain rfl : fn = Tryz.f3 := (Option.some.inj (Tryz.func3.symm.trans hfn)).symm
  refine ⟨by kernel_rfl, fun j t ht => ?_⟩
  rw [Tryz.params3] at ht
  have h : ([24, 3, 3].all fun t => !Tryz.prog.wantsStandIn t) = true := by kernel_rfl
  have h2 := List.all_eq_true.1 h t (by simpa using Array.mem_of_getElem? ht)
  exact (show Tryz.prog.wantsStandIn t = false by simpa using h2)
theorem proved : Rows.WholePathsUptoCardSaid :=
  Claim7.holds_tied_plain_at .later [] _ _ _ _ over (fun _ h => by cases h) (by kernel_rfl) (fun _ h => by cases h) wholePathsUpto_row_tie rfl ⟨rfl, rfl⟩ (by kernel_rfl) rfl plain (by kernel_rfl)
#print axioms proved
end Go.Proofs.YtdjfhghokfiieaaGreatDoor.wholePaths
