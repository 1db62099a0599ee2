/- Parts of the proofs of this seat: abstract values over the model, and what the functions of the program do. No condition. -/
import Derived.Test.YtdjfhghokfiieaaDoorM8
import Derived.Test.YtdjfhghokfiieaaDoorD0
import Derived.Test.YtdjfhghokfiieaaDoorM10
import Derived.Test.YtdjfhghokfiieaaDoorM1
import Derived.Test.YtdjfhghokfiieaaDoorY19
import Derived.Lib.Split
import Derived.Shelf.Strings.Split
import Derived.Shelf.Lay
import Derived.Shelf.Vars
import Derived.Shelf.LaySoft
import Derived.Shelf.Strconv.Itoa3
import Derived.Lib.AppendIntMem
import Derived.Shelf.Strconv.AtoiAll
import Derived.Lib.AtoiErrMem
set_option linter.all false
set_option maxRecDepth 100000
namespace Go.Proofs
open Go.Shelf Go.Av
shelf_lay Lays.n146 Nm 146 at Tryd as Tryd.lays146
end Go.Proofs
namespace Go.Av
open Go.Proofs Go.Shelf
def Ix (w0 : World) : Prop := ∃ m, w0.cell? ⟨Tryd.lays146_ren.g 1, 0, none⟩ = some (.int .i64 m)
theorem JD {W : World} (h : W.ShapedOpen Tryd.prog) : Ix W := cell_of_shapedOpen_int (zero := #[.int .i64 0]) (t := PA) h (of_decide_eq_true (by kernel_rfl)) (by kernel_rfl) rfl (by kernel_rfl) (by kernel_rfl) Fh
theorem Gv {E : Env} {G : Gh} {w : World} {S : St} (h : Rel E G w S) {b o : Nat} {v : Value} (hc : E.w0.cell? ⟨b, o, none⟩ = some v) : w.cell? ⟨b, o, none⟩ = some v := by
 have hlt : b < E.w0.heap.size := by
  unfold World.cell? at hc
  split at hc
  ·rename_i c e fz hh
   exact (Array.getElem?_eq_some_iff.1 hh).1
  ·cases hc
 rw [← hc]
 exact World.cell?_of_block (w := E.w0) (h.old b hlt).1
end Go.Av
set_option maxRecDepth 100000
namespace Go.Proofs
open Go.Shelf Go.Av
shelf_lay LaysM.n171 Nm 171 at Tryd as Tryd.lays171
end Go.Proofs
namespace Go.Av
open Go.Proofs Go.Shelf Go.RowKit
def Hx (w0 : World) : Prop := Lib.TabIs Tryd.prog w0 "internal/strconv.uint64pow10" .u64 Lib.pow10Tab
theorem RY {E : Env} {G : Gh} {w : World} {S : St} (h : Rel E G w S) {P : Program} {name : String} {cs : Array Value} (hv : E.w0.var? P name = some cs) : w.var? P name = some cs := by
 unfold World.var? at hv ⊢
 cases hg : P.globalNamed name with
 | none => rw [hg] at hv; cases hv
 | some g =>
  rw [hg] at hv
  simp only [Option.bind_some] at hv ⊢
  have hlt : g < E.w0.heap.size := by
   split at hv
   ·rename_i hh; exact (Array.getElem?_eq_some_iff.1 hh).1
   ·cases hv
  rw [(h.old g hlt).1]
  exact hv
set_option maxRecDepth 100000 in
theorem GL {w0 : World} {S : St} {n : Int} (ht : Hx w0) (hn : Cj n) {Q : AV → St → Prop} (hq : Q (.str (BT n)) S) : AC w0 BV [.int .i64 n] S Q := by
 refine AW.of_below_rel Je (by kernel_rfl) (by kernel_rfl) fun G w args' hr hl' ha => ?_
 obtain ⟨v, rfl⟩ : ∃ v, args' = #[v] := by
  match args', hl' with
  | ⟨[v]⟩, _ => exact ⟨v, rfl⟩
 have h0' := ha 0 _ v rfl rfl
 cases h0'
 refine (Any.strconv_Itoa Tryd.lays171 n hn.1 hn.2 w (RY hr ht)).mono ?_
 rintro e w' ⟨rfl, k, os, rfl⟩
 exact ⟨_, .str (BT n), rfl, Lib.below_grow _ w (Nat.le_refl _) k os, .str _, rfl, hq⟩
end Go.Av
set_option maxRecDepth 100000
namespace Go.Proofs
open Go.Shelf Go.Av
shelf_lay LaysC.n172 Nm 172 at Tryd as Tryd.lays172
end Go.Proofs
namespace Go.Av
open Go.Proofs Go.Shelf Go.RowKit
def Uq (w0 : World) (g : Nat) : Prop := ∃ ev, w0.cell? ⟨g, 0, none⟩ = some ev ∧ (ev = .nilIface ∨ ∃ te pe, ev = .iface te pe)
def AtL (w0 : World) : Prop := Uq w0 (Tryd.lays172_ren.g 15) ∧ Uq w0 (Tryd.lays172_ren.g 16)
def KF (s : Str) : Int := match Lib.atoiAll s with | .ok v => v | .«syntax» => 0 | .range => Lib.atoiSat s
def QY (s : Str) : AV := match Lib.atoiAll s with | .ok _ => .nilifc | _ => .ifc (Tryd.lays172_ren.t 168) .undef
set_option maxRecDepth 100000 in
theorem Su {w0 : World} {S : St} {s : Str} (he : AtL w0) (hs : s.length ≤ 281474976710656) {Q : AV → St → Prop} (hq : Q (.tup [.int .i64 (KF s), QY s]) S) : AC w0 GZ [.str s] S Q := by
 refine AW.of_below_tup Jb (by kernel_rfl) (by kernel_rfl) fun G w args' hr hl' ha => ?_
 obtain ⟨v, rfl⟩ : ∃ v, args' = #[v] := by
  match args', hl' with
  | ⟨[v]⟩, _ => exact ⟨v, rfl⟩
 have h0' := ha 0 _ v rfl rfl
 cases h0'
 unfold KF QY at hq
 have hsz : (⟨s.toArray⟩ : ByteArray).size ≤ 281474976710656 := by simpa [ByteArray.size] using hs
 cases hat : Lib.atoiAll s with
 | ok v =>
  rw [hat] at hq
  refine (Any.strconv_Atoi_ok Tryd.lays172 ⟨s.toArray⟩ (by omega) v hat w).mono ?_
  rintro e w' ⟨rfl, hw⟩
  have hb : Below w.heap.size w w' := by
   rcases hw with rfl | ⟨t, rfl⟩
   ·exact Below.refl _ _
   ·exact Lib.bytesWorld_below _ _ _
  refine ⟨_, [.int .i64 v, .nilifc], rfl, hb, .tup _ _ rfl ?_, by simp [AV.cell1, AV.free1, AV.own], hq⟩
  intro i x u hx hv
  match i, hx, hv with
  | 0, hx, hv => cases hx; cases hv; exact .int _ _
  | 1, hx, hv => cases hx; cases hv; exact .nilifc
 | «syntax» =>
  rw [hat] at hq
  obtain ⟨ev, h1, h2⟩ := he.1
  refine (Any.strconv_Atoi_syntax Tryd.lays172 ⟨s.toArray⟩ hsz hat ev w (Gv hr h1) h2).mono ?_
  rintro e w' ⟨N, rfl, _, _, hb⟩
  refine ⟨_, [.int .i64 0, .ifc (Tryd.lays172_ren.t 168) .undef], rfl, hb, .tup _ _ rfl ?_, by simp [AV.cell1, AV.free1, AV.own], hq⟩
  intro i x u hx hv
  match i, hx, hv with
  | 0, hx, hv => cases hx; cases hv; exact .int _ _
  | 1, hx, hv => cases hx; cases hv; exact .ifc _ _ _ (.undef _)
 | range =>
  rw [hat] at hq
  obtain ⟨ev, h1, h2⟩ := he.2
  refine (Any.strconv_Atoi_range Tryd.lays172 ⟨s.toArray⟩ hsz hat ev w (Gv hr h1) h2).mono ?_
  rintro e w' ⟨N, rfl, _, _, hb⟩
  refine ⟨_, [.int .i64 (Lib.atoiSat s), .ifc (Tryd.lays172_ren.t 168) .undef], rfl, hb, .tup _ _ rfl ?_, by simp [AV.cell1, AV.free1, AV.own], hq⟩
  intro i x u hx hv
  match i, hx, hv with
  | 0, hx, hv => cases hx; cases hv; exact .int _ _
  | 1, hx, hv => cases hx; cases hv; exact .ifc _ _ _ (.undef _)
theorem Cx {w0 : World} {S : St} {s : Str} (ht : Hx w0) (he : AtL w0) (hs : s.length ≤ 1048576000) {Q : AV → St → Prop} (hq : Q (.tup [.int .i64 (KF s), .bool (numOf s).isSome]) S) : AC w0 Cs [.str s] S Q := by
 apply Kt
 unfold FE
 refine Su he (by omega) ?_
 unfold numOf at hq
 unfold KF QY
 unfold KF at hq
 cases hat : Lib.atoiAll s with
 | ok v =>
  rw [hat] at hq
  simp [HH, eqA, AJ]
  refine GL ht (Lib.atoiAll_bounds hat) ?_
  by_cases e : BT v = s
  ·simp [e] at hq ⊢
   exact hq
  ·simp [e] at hq ⊢
   exact hq
 | «syntax» =>
  rw [hat] at hq
  simp [HH, eqA, AJ]
  exact hq
 | range =>
  rw [hat] at hq
  simp [HH, eqA, AJ]
  exact hq
theorem FJ {s : Str} {n : Int} (h : numOf s = some n) : KF s = n := by
 unfold numOf at h
 unfold KF
 cases hat : Lib.atoiAll s with
 | ok v => rw [hat] at h; simp only at h ⊢; split at h <;> cases h; rfl
 | «syntax» => rw [hat] at h; cases h
 | range => rw [hat] at h; cases h
end Go.Av
