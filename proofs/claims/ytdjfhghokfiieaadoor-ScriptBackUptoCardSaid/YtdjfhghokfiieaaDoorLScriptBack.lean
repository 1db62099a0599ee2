/- The card of ScriptBack (upto) is proved: whatever comes in (of bulk at most 1048576), the law answers true. No condition but that bulk. -/
import Derived.Test.YtdjfhghokfiieaaDoorCards
import Derived.Test.YtdjfhghokfiieaaDoorTie
import Derived.WalkKit
import Derived.ProofKit
import Derived.OpenShut
import Derived.Below
import Derived.JoinedCond
import Derived.Deep.DeepHandedRow
import Derived.Deep.DeepWitnessRowRef
import Derived.Lib.LaidTab
import Derived.Test.YtdjfhghokfiieaaDoorXSplC
import Derived.Test.YtdjfhghokfiieaaDoorM10
import Derived.Test.YtdjfhghokfiieaaDoorXLaid
import Derived.Test.YtdjfhghokfiieaaDoorXSplit
set_option linter.all false
namespace Go.Proofs.YtdjfhghokfiieaaDoor.scriptBack
open Go.ChangeShapes Go.WideShapes Go.ChangeAt Go.RowKit Go.Av
theorem own : ownKnob Tryd.prog.godebug = none := by kernel_rfl
theorem CW {H : Type} : ∀ (l : List (DataW H)), l.length ≤ Rows.uptoBulkAll l ∧ ∀ d ∈ l, Rows.uptoBulk d ≤ Rows.uptoBulkAll l
 | [] => ⟨Nat.zero_le _, by simp⟩
 | d :: l => by
  obtain ⟨h1, h2⟩ := CW l
  have h3 : 1 ≤ Rows.uptoBulk d := by
   cases d with
   | lit l => cases l <;> simp [Rows.uptoBulk]
   | _ => simp [Rows.uptoBulk]
  refine ⟨by simp only [Rows.uptoBulkAll, List.length_cons]; omega, fun e he => ?_⟩
  simp only [Rows.uptoBulkAll]
  rcases List.mem_cons.1 he with rfl | he
  ·omega
  ·have := h2 e he; omega
theorem bdd {H : Type} : Bdd 1048576 (fun d : DataW H => Rows.uptoBulk d ≤ 1048576) where
 str l h := by simp only [Rows.uptoBulk] at h; omega
 sl e s h := by
  simp only [Rows.uptoBulk] at h
  obtain ⟨h1, h2⟩ := CW e
  obtain ⟨h3, h4⟩ := CW s
  exact ⟨by omega, fun d hd => by have := h2 d hd; omega, fun d hd => by have := h4 d hd; omega⟩
 agg ps h d hd := by
  simp only [Rows.uptoBulk] at h
  have := (CW ps).2 d hd
  omega
set_option maxRecDepth 100000 in
theorem law (w0 : World) (hm : Ix w0) (ht : Hx w0) (he : AtL w0) (xs : List AV) (hl : xs.length = Tryd.f8.params.size) (hx : ∀ (j : Nat) (t : TypeId) (x : AV), Tryd.f8.params[j]? = some t → xs[j]? = some x → TyV Tryd.prog 1048576 t x) :
  AW (En w0) 8 xs [] fun r _ => r = .bool true := by
 rw [Tryd.params8] at hl hx
 match xs, (show xs.length = 1 from hl) with
 | [x0], _ => exact Hr w0 hm ht he x0 (hx 0 48 x0 rfl rfl)
def put (h : Array Go.Obj) (g : Nat) (cs : List Value) : Array Go.Obj := h.modify g fun
 | .cells _ t fz => .cells cs.toArray t fz
 | o => o
noncomputable def base (os : Os) : Array Go.Obj := (put (put (put (put (put (World.holding Tryd.prog os ⟨#[], #[], []⟩).heap 6 ([0, 1, 28, 2, 29, 14, 24, 3, 30, 22, 20, 15, 25, 17, 4, 8, 31, 27, 13, 23, 21, 19, 16, 7, 26, 12, 18, 6, 11, 5, 10, 9].map fun n : Nat => Value.int .u8 (n : Int))) 7 ([0, 1, 56, 2, 57, 49, 28, 3, 61, 58, 42, 50, 38, 29, 17, 4, 62, 47, 59, 36, 45, 43, 51, 22, 53, 39, 33, 30, 24, 18, 12, 5, 63, 55, 48, 27, 60, 41, 37, 16, 46, 35, 44, 21, 52, 32, 23, 11, 54, 26, 40, 15, 34, 20, 31, 10, 25, 14, 19, 9, 13, 8, 7, 6].map fun n : Nat => Value.int .u8 (n : Int))) 3 ([1, 10, 100, 1000, 10000, 100000, 1000000, 10000000, 100000000, 1000000000, 10000000000, 100000000000, 1000000000000, 10000000000000, 100000000000000, 1000000000000000, 10000000000000000, 100000000000000000, 1000000000000000000, 10000000000000000000].map fun n : Nat => Value.int .u64 (n : Int))) 5 ([128, 191, 160, 191, 128, 159, 144, 191, 128, 143, 0, 0, 0, 0, 0, 0, 0, 0, 0, 0, 0, 0, 0, 0, 0, 0, 0, 0, 0, 0, 0, 0].map fun n : Nat => Value.int .u8 (n : Int))) 4 (Go.Pinned.utf8FirstZ.map fun n : Nat => Value.int .u8 (n : Int)))
noncomputable def Dh (os : Os) : World := { World.holding Tryd.prog os ⟨#[], #[], []⟩ with heap := (((put (put (base os) 2 [.iface 125 (.pointer (some ⟨(base os).size + 0, 0, none⟩))]) 1 [.iface 125 (.pointer (some ⟨(base os).size + 1, 0, none⟩))]).push (.cells #[.string ⟨#[118, 97, 108, 117, 101, 32, 111, 117, 116, 32, 111, 102, 32, 114, 97, 110, 103, 101]⟩] 127 (0, 0))).push (.cells #[.string ⟨#[105, 110, 118, 97, 108, 105, 100, 32, 115, 121, 110, 116, 97, 120]⟩] 127 (0, 0))) }
theorem Kc (os : Os) : laidMet Tryd.prog Rows.scriptBackUptoRow.laid ((Dh os).forCall (fun _ _ => 0) ⟨#[], #[.agg #[.int .i64 0, .int .i64 0, .int .i64 0, .slice none 0 0, .slice none 0 0, .slice none 0 0]], []⟩).memory :=
 laidMet_of_run' 8 (by kernel_rfl) (by kernel_rfl)
theorem reads (os : Os) {H : Type} (enc : TypeId × Value → H) : ∃ places, DataW.whole enc Tryd.prog ((Dh os).forCall (fun _ _ => 0) ⟨#[], #[.agg #[.int .i64 0, .int .i64 0, .int .i64 0, .slice none 0 0, .slice none 0 0, .slice none 0 0]], []⟩).memory Tryd.f8.params.toList Rows.scriptBackSpec.vars false #[.agg #[.int .i64 0, .int .i64 0, .int .i64 0, .slice none 0 0, .slice none 0 0, .slice none 0 0]].toList 8 = some ([.agg [.agg [.lit (.int .i64 0), .lit (.int .i64 0), .lit (.int .i64 0)], .nil, .nil, .nil]], [], places) :=
 ⟨[], by kernel_rfl⟩
set_option maxRecDepth 100000 in
theorem lifted (os : Os) (started : os.Started) (H : Type) (enc : TypeId × Value → H) (F : Stop.Interp) :
  ReturnsInHanded {} Tryd.checked os 8 .any ((Rows.OpenSpec.upto Rows.scriptBackSpec).preRow enc Tryd.prog Tryd.f8 Rows.scriptBackUptoRow.domain false Rows.scriptBackUptoRow.laid) (((Rows.OpenSpec.upto Rows.scriptBackSpec).at F).post enc Tryd.prog Tryd.f8 false true false false) := by
 obtain ⟨places, hx⟩ := reads os enc
 refine returnsInHanded_of_row (C := Tryd.checked) (s := Rows.OpenSpec.upto Rows.scriptBackSpec) own started (by kernel_rfl) Tryd.func8
  (witness_row_atRef (enc := enc) (C := Tryd.checked) false (Dh os) #[.agg #[.int .i64 0, .int .i64 0, .int .i64 0, .slice none 0 0, .slice none 0 0, .slice none 0 0]] rfl (by kernel_rfl) (by kernel_rfl) (by kernel_rfl)
   (OpenSpec.preRow_of_cond 8 hx (by kernel_rfl) (fun k hk => by cases hk; kernel_rfl) (by kernel_rfl) (Kc os))) ?_
 intro W base args ds gs before hval hW _ hk _ hlaid hsh _
 have hl : laidMet Tryd.prog Rows.scriptBackUptoRow.laid W := hlaid
 have hk2 : Rows.uptoBulkAll (ds ++ gs) ≤ 1048576 := of_decide_eq_true (hk _ rfl)
 exact H6 bdd (E := En W) (fn := Tryd.f8) (L := [48, 44, 3, 38, 9, 45, 81, 24, 46]) (tb := 4) (by kernel_rfl) (by kernel_rfl) (by kernel_rfl) rfl Tryd.underlying4 rfl
  (fun ds hd => by
   match ds, hd with
   | [d0], _ => exact ⟨rfl, rfl, rfl⟩) (law W (JD hsh) (JK hl (n := "internal/strconv.uint64pow10") (g := 3) (k := .u64) (zs := Lib.pow10Tab) (List.mem_of_getElem? (i := 2) (by kernel_rfl)) (by kernel_rfl) (by kernel_rfl) Tryd.underlying129 Tryd.underlying110 (by kernel_rfl) (by kernel_rfl)) ⟨E5 hl (n := "strconv.ErrSyntax") (g := 1) (d := Rows.laid_strconv_ErrSyntax) (List.mem_of_getElem? (i := 5) (by kernel_rfl)) (by kernel_rfl) (by kernel_rfl) Tryd.underlying75, E5 hl (n := "strconv.ErrRange") (g := 2) (d := Rows.laid_strconv_ErrRange) (List.mem_of_getElem? (i := 4) (by kernel_rfl)) (by kernel_rfl) (by kernel_rfl) Tryd.underlying75⟩) hval hW (fun d hd => Nat.le_trans ((CW (ds ++ gs)).2 d (List.mem_append_left _ hd)) hk2)
theorem over : Rows.ScriptBackUptoSaid :=
 OpenClaim.holds_of_cond 8 Tryd.f8 rfl rfl rfl rfl rfl rfl rfl ⟨rfl, rfl, rfl, rfl, rfl⟩ rfl rfl rfl rfl rfl (by kernel_rfl) Tryd.func8 (by kernel_rfl)
  (of_decide_eq_true (by kernel_rfl)) (by unfold Func.isWrapper; first | (rw [if_pos (by decide +kernel)]; kernel_rfl) | (rw [if_neg (by decide +kernel)]; exact ⟨rfl, rfl⟩))
  (fun os started H enc _ F => by rw [OpenClaim.pre_eq_preRow]; exact lifted os started H enc F)
theorem plain (f : FuncId) (fn : Func) (hf : Tryd.pinned.checked.prog.funcNamed "socage/socagelaw25.ScriptBack" = some f) (hfn : Tryd.pinned.checked.prog.funcs[f]? = some fn) :
  true = Tryd.pinned.checked.prog.looks [] ∧ ∀ (j : Nat) t, fn.params[j]? = some t → Tryd.pinned.checked.prog.wantsStandIn t = false := by
 obtain rfl : f = 8 := Option.some.inj ((show Tryd.prog.funcNamed "socage/socagelaw25.ScriptBack" = some 8 by kernel_rfl).symm.trans hf) |>.symm
 obtain rfl : fn = Tryd.f8 := (Option.some.inj (Tryd.func8.symm.trans hfn)).symm
 refine ⟨by kernel_rfl, fun j t ht => ?_⟩
 rw [Tryd.params8] at ht
 have h : ([48].all fun t => !Tryd.prog.wantsStandIn t) = true := by kernel_rfl
 have h2 := List.all_eq_true.1 h t (by simpa using Array.mem_of_getElem? ht)
 exact (show Tryd.prog.wantsStandIn t = false by simpa using h2)
theorem proved : Rows.ScriptBackUptoCardSaid :=
 Claim7.holds_tied_plain_at .later [] _ _ _ _ over (fun _ h => by cases h) (by kernel_rfl) (fun _ h => by cases h) scriptBackUpto_row_tie rfl ⟨rfl, rfl⟩ (by kernel_rfl) rfl plain (by kernel_rfl)
#print axioms proved
end Go.Proofs.YtdjfhghokfiieaaDoor.scriptBack
