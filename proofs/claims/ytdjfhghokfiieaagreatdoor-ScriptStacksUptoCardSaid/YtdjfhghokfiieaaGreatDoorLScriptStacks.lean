/- The card of ScriptStacks (upto) is proved: whatever comes in (of bulk at most 1048576), the law answers true. No condition but that bulk. -/
import Derived.Test.YtdjfhghokfiieaaGreatDoorCards
import Derived.Test.YtdjfhghokfiieaaGreatDoorTie
import Derived.WalkKit
import Derived.ProofKit
import Derived.OpenShut
import Derived.Below
import Derived.JoinedCond
import Derived.Deep.DeepHandedRow
import Derived.Deep.DeepWitnessRowRef
import Derived.Lib.LaidTab
import Derived.Test.YtdjfhghokfiieaaGreatDoorX07L
import Derived.Test.YtdjfhghokfiieaaGreatDoorM11
import Derived.Test.YtdjfhghokfiieaaGreatDoorXLaid
import Derived.Test.YtdjfhghokfiieaaGreatDoorXSplit
set_option linter.all false
namespace Go.Proofs.YtdjfhghokfiieaaGreatDoor.scriptStacks
open Go.ChangeShapes Go.WideShapes Go.ChangeAt Go.RowKit Go.Av
theorem own : ownKnob Tryz.prog.godebug = none := by kernel_rfl
theorem I8 {H : Type} : ∀ (l : List (DataW H)), l.length ≤ Rows.uptoBulkAll l ∧ ∀ d ∈ l, Rows.uptoBulk d ≤ Rows.uptoBulkAll l
 | [] => ⟨Nat.zero_le _, by simp⟩
 | d :: l => by
  obtain ⟨h1, h2⟩ := I8 l
  have h3 : 1 ≤ Rows.uptoBulk d := by
   cases d with
   | lit l => cases l <;> simp [Rows.uptoBulk]
   | _ => simp [Rows.uptoBulk]
  refine ⟨by simp only [Rows.uptoBulkAll, List.length_cons]; omega, fun e he => ?_⟩
  simp only [Rows.uptoBulkAll]
  rcases List.mem_cons.1 he with rfl | he
  ·omega
  ·have := h2 e he; omega
theorem bdd {H : Type} : Bdd 1048576 (fun d : DataW H => Rows.uptoBulk d ≤ 1048576) where
 str l h := by simp only [Rows.uptoBulk] at h; omega
 sl e s h := by
  simp only [Rows.uptoBulk] at h
  obtain ⟨h1, h2⟩ := I8 e
  obtain ⟨h3, h4⟩ := I8 s
  exact ⟨by omega, fun d hd => by have := h2 d hd; omega, fun d hd => by have := h4 d hd; omega⟩
 agg ps h d hd := by
  simp only [Rows.uptoBulk] at h
  have := (I8 ps).2 d hd
  omega
set_option maxRecDepth 100000 in
theorem law (w0 : World) (hm : If w0) (ht : P0 w0) (he : AtL w0) (xs : List AV) (hl : xs.length = Tryz.f7.params.size) (hx : ∀ (j : Nat) (t : TypeId) (x : AV), Tryz.f7.params[j]? = some t → xs[j]? = some x → TyV Tryz.prog 1048576 t x) :
  AM (En w0) 7 xs [] fun r _ => r = .bool true := by
 rw [Tryz.params7] at hl hx
 match xs, (show xs.length = 3 from hl) with
 | [x0, x1, x2], _ => exact JO w0 hm ht he x0 x1 x2 (hx 0 22 x0 rfl rfl) (hx 1 9 x1 rfl rfl) (hx 2 5 x2 rfl rfl)
def put (h : Array Go.Obj) (g : Nat) (cs : List Value) : Array Go.Obj := h.modify g fun
 | .cells _ t fz => .cells cs.toArray t fz
 | o => o
noncomputable def base (os : Os) : Array Go.Obj := (put (put (put (put (put (World.holding Tryz.prog os ⟨#[], #[], []⟩).heap 6 ([0, 1, 28, 2, 29, 14, 24, 3, 30, 22, 20, 15, 25, 17, 4, 8, 31, 27, 13, 23, 21, 19, 16, 7, 26, 12, 18, 6, 11, 5, 10, 9].map fun n : Nat => Value.int .u8 (n : Int))) 7 ([0, 1, 56, 2, 57, 49, 28, 3, 61, 58, 42, 50, 38, 29, 17, 4, 62, 47, 59, 36, 45, 43, 51, 22, 53, 39, 33, 30, 24, 18, 12, 5, 63, 55, 48, 27, 60, 41, 37, 16, 46, 35, 44, 21, 52, 32, 23, 11, 54, 26, 40, 15, 34, 20, 31, 10, 25, 14, 19, 9, 13, 8, 7, 6].map fun n : Nat => Value.int .u8 (n : Int))) 5 ([1, 10, 100, 1000, 10000, 100000, 1000000, 10000000, 100000000, 1000000000, 10000000000, 100000000000, 1000000000000, 10000000000000, 100000000000000, 1000000000000000, 10000000000000000, 100000000000000000, 1000000000000000000, 10000000000000000000].map fun n : Nat => Value.int .u64 (n : Int))) 2 ([128, 191, 160, 191, 128, 159, 144, 191, 128, 143, 0, 0, 0, 0, 0, 0, 0, 0, 0, 0, 0, 0, 0, 0, 0, 0, 0, 0, 0, 0, 0, 0].map fun n : Nat => Value.int .u8 (n : Int))) 1 (Go.Pinned.utf8FirstZ.map fun n : Nat => Value.int .u8 (n : Int)))
noncomputable def ME (os : Os) : World := { World.holding Tryz.prog os ⟨#[], #[], []⟩ with heap := (((put (put (base os) 4 [.iface 290 (.pointer (some ⟨(base os).size + 0, 0, none⟩))]) 3 [.iface 290 (.pointer (some ⟨(base os).size + 1, 0, none⟩))]).push (.cells #[.string ⟨#[118, 97, 108, 117, 101, 32, 111, 117, 116, 32, 111, 102, 32, 114, 97, 110, 103, 101]⟩] 292 (0, 0))).push (.cells #[.string ⟨#[105, 110, 118, 97, 108, 105, 100, 32, 115, 121, 110, 116, 97, 120]⟩] 292 (0, 0))) }
theorem W9 (os : Os) : laidMet Tryz.prog Rows.scriptStacksUptoRow.laid ((ME os).forCall (fun _ _ => 0) ⟨#[], #[.slice none 0 0, .string .empty, .int .u8 0], []⟩).memory :=
 laidMet_of_run' 8 (by kernel_rfl) (by kernel_rfl)
theorem reads (os : Os) {H : Type} (enc : TypeId × Value → H) : ∃ places, DataW.whole enc Tryz.prog ((ME os).forCall (fun _ _ => 0) ⟨#[], #[.slice none 0 0, .string .empty, .int .u8 0], []⟩).memory Tryz.f7.params.toList Rows.scriptStacksSpec.vars false #[.slice none 0 0, .string .empty, .int .u8 0].toList 8 = some ([.nil, .lit (.string []), .lit (.int .u8 0)], [], places) :=
 ⟨[], by kernel_rfl⟩
set_option maxRecDepth 100000 in
theorem lifted (os : Os) (started : os.Started) (H : Type) (enc : TypeId × Value → H) (F : Stop.Interp) :
  ReturnsInHanded {} Tryz.checked os 7 .any ((Rows.OpenSpec.upto Rows.scriptStacksSpec).preRow enc Tryz.prog Tryz.f7 Rows.scriptStacksUptoRow.domain false Rows.scriptStacksUptoRow.laid) (((Rows.OpenSpec.upto Rows.scriptStacksSpec).at F).post enc Tryz.prog Tryz.f7 false true false false) := by
 obtain ⟨places, hx⟩ := reads os enc
 refine returnsInHanded_of_row (C := Tryz.checked) (s := Rows.OpenSpec.upto Rows.scriptStacksSpec) own started (by kernel_rfl) Tryz.func7
  (witness_row_atRef (enc := enc) (C := Tryz.checked) false (ME os) #[.slice none 0 0, .string .empty, .int .u8 0] rfl (by kernel_rfl) (by kernel_rfl) (by kernel_rfl)
   (OpenSpec.preRow_of_cond 8 hx (by kernel_rfl) (fun k hk => by cases hk; kernel_rfl) (by kernel_rfl) (W9 os))) ?_
 intro W base args ds gs before hval hW _ hk _ hlaid hsh _
 have hl : laidMet Tryz.prog Rows.scriptStacksUptoRow.laid W := hlaid
 have hk2 : Rows.uptoBulkAll (ds ++ gs) ≤ 1048576 := of_decide_eq_true (hk _ rfl)
 exact RO bdd (E := En W) (fn := Tryz.f7) (L := [22, 73, 3, 4, 44, 9, 71, 172, 5]) (tb := 4) (by kernel_rfl) (by kernel_rfl) (by kernel_rfl) rfl Tryz.underlying4 rfl
  (fun ds hd => by
   match ds, hd with
   | [d0, d1, d2], _ => exact ⟨rfl, rfl, rfl⟩) (law W (TE hsh) (So hl (n := "internal/strconv.uint64pow10") (g := 5) (k := .u64) (zs := Lib.pow10Tab) (List.mem_of_getElem? (i := 2) (by kernel_rfl)) (by kernel_rfl) (by kernel_rfl) Tryz.underlying294 Tryz.underlying247 (by kernel_rfl) (by kernel_rfl)) ⟨Mi hl (n := "strconv.ErrSyntax") (g := 3) (d := Rows.laid_strconv_ErrSyntax) (List.mem_of_getElem? (i := 5) (by kernel_rfl)) (by kernel_rfl) (by kernel_rfl) Tryz.underlying185, Mi hl (n := "strconv.ErrRange") (g := 4) (d := Rows.laid_strconv_ErrRange) (List.mem_of_getElem? (i := 4) (by kernel_rfl)) (by kernel_rfl) (by kernel_rfl) Tryz.underlying185⟩) hval hW (fun d hd => Nat.le_trans ((I8 (ds ++ gs)).2 d (List.mem_append_left _ hd)) hk2)
theorem over : Rows.ScriptStacksUptoSaid :=
 OpenClaim.holds_of_cond 7 Tryz.f7 rfl rfl rfl rfl rfl rfl rfl ⟨rfl, rfl, rfl, rfl, rfl⟩ rfl rfl rfl rfl rfl (by kernel_rfl) Tryz.func7 (by kernel_rfl)
  (of_decide_eq_true (by kernel_rfl)) (by unfold Func.isWrapper; first | (rw [if_pos (by decide +kernel)]; kernel_rfl) | (rw [if_neg (by decide +kernel)]; exact ⟨rfl, rfl⟩))
  (fun os started H enc _ F => by rw [OpenClaim.pre_eq_preRow]; exact lifted os started H enc F)
theorem plain (f : FuncId) (fn : Func) (hf : Tryz.pinned.checked.prog.funcNamed "socage/socagelaw25.ScriptStacks" = some f) (hfn : Tryz.pinned.checked.prog.funcs[f]? = some fn) :
  true = Tryz.pinned.checked.prog.looks [] ∧ ∀ (j : Nat) t, fn.params[j]? = some t → Tryz.pinned.checked.prog.wantsStandIn t = false := by
 obtain rfl : f = 7 := Option.some.inj ((show Tryz.prog.funcNamed "socage/socagelaw25.ScriptStacks" = some 7 by kernel_rfl).symm.trans hf) |>.symm
 obtain rfl : fn = Tryz.f7 := (Option.some.inj (Tryz.func7.symm.trans hfn)).symm
 refine ⟨by kernel_rfl, fun j t ht => ?_⟩
 rw [Tryz.params7] at ht
 have h : ([22, 9, 5].all fun t => !Tryz.prog.wantsStandIn t) = true := by kernel_rfl
 have h2 := List.all_eq_true.1 h t (by simpa using Array.mem_of_getElem? ht)
 exact (show Tryz.prog.wantsStandIn t = false by simpa using h2)
theorem proved : Rows.ScriptStacksUptoCardSaid :=
 Claim7.holds_tied_plain_at .later [] _ _ _ _ over (fun _ h => by cases h) (by kernel_rfl) (fun _ h => by cases h) scriptStacksUpto_row_tie rfl ⟨rfl, rfl⟩ (by kernel_rfl) rfl plain (by kernel_rfl)
#print axioms proved
end Go.Proofs.YtdjfhghokfiieaaGreatDoor.scriptStacks
