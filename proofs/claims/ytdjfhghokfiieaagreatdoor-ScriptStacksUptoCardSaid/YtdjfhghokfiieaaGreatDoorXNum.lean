/- Parts of the proofs of this seat: abstract values over the model, and what the functions of the program do. No condition. -/
import Derived.Test.YtdjfhghokfiieaaGreatDoorXSplit
import Derived.Test.YtdjfhghokfiieaaGreatDoorM11
import Derived.Test.YtdjfhghokfiieaaGreatDoorY19
import Derived.Test.YtdjfhghokfiieaaGreatDoorXBldB
import Derived.Test.YtdjfhghokfiieaaGreatDoorXCut
import Derived.Test.YtdjfhghokfiieaaGreatDoorD0
import Derived.Test.YtdjfhghokfiieaaGreatDoorY19r
import Derived.Test.YtdjfhghokfiieaaGreatDoorXSplC
import Derived.Test.YtdjfhghokfiieaaGreatDoorDRow
import Derived.Test.YtdjfhghokfiieaaGreatDoorXFrz
import Derived.Shelf.Strconv.Itoa3
import Derived.Lib.AppendIntMem
import Derived.Shelf.Strconv.AtoiAll
import Derived.Lib.AtoiErrMem
set_option linter.all false
set_option maxRecDepth 100000
namespace Go.Proofs
open Go.Shelf Go.Av
shelf_lay LaysM.n171 Nm 171 at Tryz as Tryz.lays171
end Go.Proofs
namespace Go.Av
open Go.Proofs Go.Shelf Go.RowKit
def P0 (w0 : World) : Prop := Lib.TabIs Tryz.prog w0 "internal/strconv.uint64pow10" .u64 Lib.pow10Tab
theorem Yu {E : Env} {G : Gh} {w : World} {S : St} (h : Rel E G w S) {P : Program} {name : String} {cs : Array Value} (hv : E.w0.var? P name = some cs) : w.var? P name = some cs := by
 unfold World.var? at hv ⊢
 cases hg : P.globalNamed name with
 | none => rw [hg] at hv; cases hv
 | some g =>
  rw [hg] at hv
  simp only [Option.bind_some] at hv ⊢
  have hlt : g < E.w0.heap.size := by
   split at hv
   ·rename_i hh; exact (Array.getElem?_eq_some_iff.1 hh).1
   ·cases hv
  rw [(h.old g hlt).1]
  exact hv
set_option maxRecDepth 100000 in
theorem bL {w0 : World} {S : St} {n : Int} (ht : P0 w0) (hn : GG n) {Q : AV → St → Prop} (hq : Q (.str (DJ n)) S) : AC w0 Jj [.int .i64 n] S Q := by
 refine AM.of_below_rel NB (by kernel_rfl) (by kernel_rfl) fun G w args' hr hl' ha => ?_
 obtain ⟨v, rfl⟩ : ∃ v, args' = #[v] := by
  match args', hl' with
  | ⟨[v]⟩, _ => exact ⟨v, rfl⟩
 have h0' := ha 0 _ v rfl rfl
 cases h0'
 refine (Any.strconv_Itoa Tryz.lays171 n hn.1 hn.2 w (Yu hr ht)).mono ?_
 rintro e w' ⟨rfl, k, os, rfl⟩
 exact ⟨_, .str (DJ n), rfl, Lib.below_grow _ w (Nat.le_refl _) k os, .str _, rfl, hq⟩
end Go.Av
set_option maxRecDepth 100000
namespace Go.Proofs
open Go.Shelf Go.Av
shelf_lay LaysC.n172 Nm 172 at Tryz as Tryz.lays172
end Go.Proofs
namespace Go.Av
open Go.Proofs Go.Shelf Go.RowKit
def dG (w0 : World) (g : Nat) : Prop := ∃ ev, w0.cell? ⟨g, 0, none⟩ = some ev ∧ (ev = .nilIface ∨ ∃ te pe, ev = .iface te pe)
def AtL (w0 : World) : Prop := dG w0 (Tryz.lays172_ren.g 15) ∧ dG w0 (Tryz.lays172_ren.g 16)
def OY (s : Str) : Int := match Lib.atoiAll s with | .ok v => v | .«syntax» => 0 | .range => Lib.atoiSat s
def XT (s : Str) : AV := match Lib.atoiAll s with | .ok _ => .nilifc | _ => .ifc (Tryz.lays172_ren.t 168) .undef
set_option maxRecDepth 100000 in
theorem bU {w0 : World} {S : St} {s : Str} (he : AtL w0) (hs : s.length ≤ 281474976710656) {Q : AV → St → Prop} (hq : Q (.tup [.int .i64 (OY s), XT s]) S) : AC w0 JF [.str s] S Q := by
 refine AM.of_below_tup NY (by kernel_rfl) (by kernel_rfl) fun G w args' hr hl' ha => ?_
 obtain ⟨v, rfl⟩ : ∃ v, args' = #[v] := by
  match args', hl' with
  | ⟨[v]⟩, _ => exact ⟨v, rfl⟩
 have h0' := ha 0 _ v rfl rfl
 cases h0'
 unfold OY XT at hq
 have hsz : (⟨s.toArray⟩ : ByteArray).size ≤ 281474976710656 := by simpa [ByteArray.size] using hs
 cases hat : Lib.atoiAll s with
 | ok v =>
  rw [hat] at hq
  refine (Any.strconv_Atoi_ok Tryz.lays172 ⟨s.toArray⟩ (by omega) v hat w).mono ?_
  rintro e w' ⟨rfl, hw⟩
  have hb : Below w.heap.size w w' := by
   rcases hw with rfl | ⟨t, rfl⟩
   ·exact Below.refl _ _
   ·exact Lib.bytesWorld_below _ _ _
  refine ⟨_, [.int .i64 v, .nilifc], rfl, hb, .tup _ _ rfl ?_, by simp [AV.cell1, AV.free1, AV.own], hq⟩
  intro i x u hx hv
  match i, hx, hv with
  | 0, hx, hv => cases hx; cases hv; exact .int _ _
  | 1, hx, hv => cases hx; cases hv; exact .nilifc
 | «syntax» =>
  rw [hat] at hq
  obtain ⟨ev, h1, h2⟩ := he.1
  refine (Any.strconv_Atoi_syntax Tryz.lays172 ⟨s.toArray⟩ hsz hat ev w (H9 hr h1) h2).mono ?_
  rintro e w' ⟨N, rfl, _, _, hb⟩
  refine ⟨_, [.int .i64 0, .ifc (Tryz.lays172_ren.t 168) .undef], rfl, hb, .tup _ _ rfl ?_, by simp [AV.cell1, AV.free1, AV.own], hq⟩
  intro i x u hx hv
  match i, hx, hv with
  | 0, hx, hv => cases hx; cases hv; exact .int _ _
  | 1, hx, hv => cases hx; cases hv; exact .ifc _ _ _ (.undef _)
 | range =>
  rw [hat] at hq
  obtain ⟨ev, h1, h2⟩ := he.2
  refine (Any.strconv_Atoi_range Tryz.lays172 ⟨s.toArray⟩ hsz hat ev w (H9 hr h1) h2).mono ?_
  rintro e w' ⟨N, rfl, _, _, hb⟩
  refine ⟨_, [.int .i64 (Lib.atoiSat s), .ifc (Tryz.lays172_ren.t 168) .undef], rfl, hb, .tup _ _ rfl ?_, by simp [AV.cell1, AV.free1, AV.own], hq⟩
  intro i x u hx hv
  match i, hx, hv with
  | 0, hx, hv => cases hx; cases hv; exact .int _ _
  | 1, hx, hv => cases hx; cases hv; exact .ifc _ _ _ (.undef _)
theorem EC {w0 : World} {S : St} {s : Str} (ht : P0 w0) (he : AtL w0) (hs : s.length ≤ 1048576000) {Q : AV → St → Prop} (hq : Q (.tup [.int .i64 (OY s), .bool (numOf s).isSome]) S) : AC w0 EO [.str s] S Q := by
 apply PC
 unfold Hd
 refine bU he (by omega) ?_
 unfold numOf at hq
 unfold OY XT
 unfold OY at hq
 cases hat : Lib.atoiAll s with
 | ok v =>
  rw [hat] at hq
  simp [F4, eqA, AD]
  refine bL ht (Lib.atoiAll_bounds hat) ?_
  by_cases e : DJ v = s
  ·simp [e] at hq ⊢
   exact hq
  ·simp [e] at hq ⊢
   exact hq
 | «syntax» =>
  rw [hat] at hq
  simp [F4, eqA, AD]
  exact hq
 | range =>
  rw [hat] at hq
  simp [F4, eqA, AD]
  exact hq
theorem H4 {s : Str} {n : Int} (h : numOf s = some n) : OY s = n := by
 unfold numOf at h
 unfold OY
 cases hat : Lib.atoiAll s with
 | ok v => rw [hat] at h; simp only at h ⊢; split at h <;> cases h; rfl
 | «syntax» => rw [hat] at h; cases h
 | range => rw [hat] at h; cases h
set_option maxRecDepth 100000
open Go.Proofs
theorem YC {n : Nat} (h : n < 256) : IntKind.u8.wrap (n : Int) = (n : Int) := by
 simp [IntKind.wrap, IntKind.bits, IntKind.signed]
 omega
theorem V7 (s : Str) (c : UInt8) : G8 (s ++ [c]) = G8 s ++ [QH (c.toNat / 16), QH (c.toNat % 16)] := by
 induction s with
 | nil => rfl
 | cons x s ih => rw [List.cons_append, G8, ih]; rfl
set_option maxRecDepth 100000
open Go.Proofs
theorem PJ (l : Str) : bytesOf (byteCells l) = some l := by
 induction l with
 | nil => rfl
 | cons x l ih =>
  simp only [byteCells, List.map_cons] at ih ⊢
  simp only [bytesOf, ih]
  simp
set_option maxRecDepth 100000
open Go.Proofs
theorem Vw (c : UInt8) : Lib.indexByte [48, 49, 50, 51, 52, 53, 54, 55, 56, 57, 97, 98, 99, 100, 101, 102] c = match Kn c with | some d => (d : Int) | none => -1 := by
 have : ∀ n : Nat, n < 256 → Lib.indexByte [48, 49, 50, 51, 52, 53, 54, 55, 56, 57, 97, 98, 99, 100, 101, 102] (UInt8.ofNat n) = match Kn (UInt8.ofNat n) with | some d => (d : Int) | none => -1 := by decide +kernel
 have h := this c.toNat c.toNat_lt
 rwa [UInt8.ofNat_toNat] at h
theorem dY {x y : Nat} (hx : x < 16) (hy : y < 16) : (AI .shl (.int .i64 (x : Int)) (.int .u64 4)).bind (fun t => AI .or t (.int .i64 (y : Int))) = some (.int .i64 ((x * 16 + y : Nat) : Int)) := by
 have h1 : AI .shl (.int .i64 (x : Int)) (.int .u64 4) = some (.int .i64 ((x * 16 : Nat) : Int)) := by
  simp only [AI]
  rw [if_neg (by omega)]
  simp only [IntKind.bits]
  have : (x : Int) * 2 ^ (min (Int.toNat 4) 64) = ((x * 16 : Nat) : Int) := by
   rw [show (min (Int.toNat 4) 64) = 4 from rfl]; omega
  rw [this, wrap64 (by omega) (by omega)]
 rw [h1]
 simp only [Option.bind_some, AI, if_true, Dq]
 have e : ∀ x : Nat, x < 16 → ∀ y : Nat, y < 16 → (BitVec.ofInt 64 ((x * 16 : Nat) : Int) ||| BitVec.ofInt 64 (y : Int)).toNat = x * 16 + y := by decide +kernel
 show some (AV.int .i64 (IntKind.i64.wrap (((BitVec.ofInt 64 ((x * 16 : Nat) : Int) ||| BitVec.ofInt 64 (y : Int)).toNat : Nat) : Int))) = _
 rw [e x hx y hy, wrap64 (by omega) (by omega)]
theorem cg {x : Nat} (hx : x < 16) : AI .shl (.int .i64 (x : Int)) (.int .u64 4) = some (.int .i64 ((x * 16 : Nat) : Int)) := by
 simp only [AI]
 rw [if_neg (by omega)]
 simp only [IntKind.bits]
 have : (x : Int) * 2 ^ (min (Int.toNat 4) 64) = ((x * 16 : Nat) : Int) := by
  rw [show (min (Int.toNat 4) 64) = 4 from rfl]; omega
 rw [this, wrap64 (by omega) (by omega)]
theorem or4 {x y : Nat} (hx : x < 16) (hy : y < 16) : AI .or (.int .i64 ((x * 16 : Nat) : Int)) (.int .i64 (y : Int)) = some (.int .i64 ((x * 16 + y : Nat) : Int)) := by
 have := dY hx hy
 rw [cg hx] at this
 exact this
theorem QT : ∀ (out : Str) (t : Str), unhex (G8 out ++ t) = (unhex t).map (out ++ ·)
 | [], t => by simp [G8]
 | b :: l, t => by
  have hb := b.toNat_lt
  rw [G8, List.cons_append, List.cons_append, unhex, J7 (by omega), J7 (by omega), QT l t]
  simp only [Option.map_map]
  congr 1
  funext x
  simp only [Function.comp_apply, List.cons_append]
  congr 1
  apply UInt8.toNat_inj.1
  rw [UInt8.toNat_ofNat']
  omega
set_option maxRecDepth 100000 in
theorem L0 {w0 : World} {S : St} {s : Str} (hs : s.length ≤ 100000000) {Q : AV → St → Prop} (hq : ∀ c, (∀ x, FX s = some x → c = x) → Q (.tup [.str c, .bool (FX s).isSome]) S) : AC w0 GI [.str s] S Q := by
 apply QL
 unfold IZ
 unfold FX at hq
 by_cases h : s = [45]
 ·subst h
  have := hq [] (by simp)
  simpa using this
 rw [if_neg h] at hq
 have hb : (s == [45]) = false := by simpa using h
 have ht : ((s.length : Int).tdiv 2) = ((s.length / 2 : Nat) : Int) := by rw [Int.tdiv_eq_ediv_of_nonneg (by omega)]; omega
 have hw : IntKind.i64.wrap ((s.length : Int).tdiv 2) = ((s.length / 2 : Nat) : Int) := by rw [ht, wrap64 (by omega) (by omega)]
 have hlim : ((s.length / 2 : Nat) : Int) ≤ (lim : Nat) := by unfold lim; omega
 rw [hw]
 have hmk : DQ Dh false S (.int .i64 0) (.int .i64 ((s.length / 2 : Nat) : Int)) = some (.vs 1 [] (.own KA), S) := by
  simp only [DQ]
  rw [if_pos (by omega)]
  rfl
 rw [hmk]
 simp [hb]
 rw [AD]
 refine EH (fun σ : Str × Rt => ([.vs 1 (byteCells σ.1) σ.2, .int .i64 ((2 * σ.1.length : Nat) : Int)], [])) (fun k σ S2 => S2 = S ∧ σ.2 ≠ .none ∧ (∃ t, s = G8 σ.1 ++ t) ∧ k = s.length - σ.1.length) s.length ([], .own KA) (by simp [byteCells]) ⟨rfl, by simp, ⟨s, by simp [G8]⟩, by simp⟩ ?_
 rintro k ⟨out, r⟩ S2 v b ⟨rfl, hr, ⟨t, ht⟩, hk⟩ hv
 simp at hv hr hk ht
 obtain ⟨hv1, hv2⟩ := hv
 have hfl := XM out
 have hsl : s.length = 2 * out.length + t.length := by rw [ht, List.length_append, hfl]
 have hw1 : IntKind.i64.wrap (2 * (out.length : Int) + 1) = 2 * (out.length : Int) + 1 := wrap64 (by omega) (by omega)
 have hw2 : IntKind.i64.wrap (2 * (out.length : Int) + 2) = 2 * (out.length : Int) + 2 := wrap64 (by omega) (by omega)
 simp [hv1, hv2, hw1, hw2]
 have hun : unhex s = (unhex t).map (out ++ ·) := by rw [ht, QT]
 match t, ht, hsl, hun with
 | [], ht, hsl, hun =>
  have hlt : ¬ (2 * (out.length : Int) + 1 < s.length) := by simp at hsl; omega
  have hm : ((s.length : Int).tmod 2) = 0 := by rw [Int.tmod_eq_emod_of_nonneg (by omega)]; simp at hsl; omega
  simp [hlt, Dt, Lq, PJ, hm]
  have := hq out (fun x hx => by
   split at hx
   ·cases hx
   ·rw [hun] at hx; simpa [unhex] using hx)
  by_cases h0 : s = []
  ·simp [h0] at this ⊢
   exact this
  ·have hem : s.isEmpty = false := by cases s with | nil => exact absurd rfl h0 | cons _ _ => rfl
   simp [h0, hun, unhex] at this
   rw [hem]
   exact this
 | [a], ht, hsl, hun =>
  have hlt : ¬ (2 * (out.length : Int) + 1 < s.length) := by simp at hsl; omega
  have hm : ¬ ((s.length : Int).tmod 2) = 0 := by rw [Int.tmod_eq_emod_of_nonneg (by omega)]; simp at hsl; omega
  simp [hlt, Dt, Lq, PJ, hm]
  have := hq out (fun x hx => by
   split at hx
   ·cases hx
   ·rw [hun] at hx; simp [unhex] at hx)
  by_cases h0 : s = []
  ·simp [h0] at this ⊢
   exact this
  ·simp [h0, hun, unhex] at this ⊢
   exact this
 | a :: b :: t', ht, hsl, hun =>
  have hs0 : s ≠ [] := by rw [ht]; simp
  rw [if_neg hs0] at hq
  have hlt : 2 * (out.length : Int) + 1 < s.length := by simp at hsl; omega
  have ga : s[2 * out.length]? = some a := by rw [ht, List.getElem?_append_right (by omega), hfl]; simp
  have gb : s[2 * out.length + 1]? = some b := by rw [ht, List.getElem?_append_right (by omega), hfl]; simp
  have ca : DI (.str s) (.int .i64 (2 * (out.length : Int))) = some (.int .u8 a.toNat) := by
   rw [show 2 * (out.length : Int) = ((2 * out.length : Nat) : Int) by omega, MO, ga]; rfl
  have cb : DI (.str s) (.int .i64 (2 * (out.length : Int) + 1)) = some (.int .u8 b.toNat) := by
   rw [show 2 * (out.length : Int) + 1 = ((2 * out.length + 1 : Nat) : Int) by omega, MO, gb]; rfl
  simp [hlt, ca, cb]
  refine M3 ?_
  refine M3 ?_
  rw [Vw, Vw]
  have hbad : (Kn a = none ∨ Kn b = none) → Q (.tup [.str [], .bool false]) S2 := fun hc => by
   have hn : unhex s = none := by
    rw [hun, unhex]
    rcases hc with hc | hc
    ·rw [hc]; rfl
    ·rw [hc]; cases Kn a <;> rfl
   have := hq [] (fun x hx => by rw [hn] at hx; cases hx)
   rw [hn] at this
   exact this
  cases ha : Kn a with
  | none =>
   simp [AD]
   exact hbad (.inl ha)
  | some x =>
   cases hbv : Kn b with
   | none =>
    have : ¬ (x : Int) < 0 := by omega
    simp [AD, this]
    exact hbad (.inr hbv)
   | some y =>
    obtain ⟨hx, hxa⟩ := J0 ha
    obtain ⟨hy, hyb⟩ := J0 hbv
    have n1 : ¬ (x : Int) < 0 := by omega
    have n2 : ¬ (y : Int) < 0 := by omega
    have hu := YC (n := x * 16 + y) (by omega)
    have hbl : (byteCells out).length = out.length := by simp [byteCells]
    simp [AD, n1, n2]
    rw [cg hx]
    rw [C2, or4 hx hy]
    simp [hu]
    simp [Ao, A6, hr, hbl, show out.length + 1 ≤ lim by unfold lim; omega]
    refine ⟨s.length - (out.length + 1), (out ++ [UInt8.ofNat (x * 16 + y)], .own (Cy Dh r)), by simp at hsl; omega, ?_, rfl, by simp, ⟨t', ?_⟩, by simp⟩
    ·have e : (UInt8.ofNat (x * 16 + y)).toNat = x * 16 + y := by rw [UInt8.toNat_ofNat']; omega
     have hu2 : IntKind.u8.wrap ((x : Int) * 16 + y) = ((UInt8.ofNat (x * 16 + y)).toNat : Int) := by rw [e]; simpa using hu
     simp [byteCells, hu2]
     omega
    ·have e : (UInt8.ofNat (x * 16 + y)).toNat = x * 16 + y := by rw [UInt8.toNat_ofNat']; omega
     rw [ht, V7, e, show (x * 16 + y) / 16 = x by omega, show (x * 16 + y) % 16 = y by omega, ← hxa, ← hyb]
     simp
set_option maxRecDepth 100000
open Go.Proofs
def nmA : List AV := [.str [], .str [108, 111, 111, 107, 117, 112], .str [115, 116, 97, 116], .str [114, 101, 97, 100, 108, 105, 110, 107], .str [114, 101, 97, 100], .str [111, 112, 101, 110], .str [112, 97, 103, 101], .str [99, 108, 111, 115, 101], .str [97, 100, 100], .str [114, 101, 109, 111, 118, 101]]
theorem R7 {w0 : World} {S : St} {Q : AV → St → Prop} (hq : Q (.agg nmA) S) : AC w0 Ik [] S Q := by
 apply Pr
 unfold IC
 exact hq
theorem ZY {k : Int} (h0 : 0 ≤ k) (h9 : k ≤ 9) : O2 10 AF (.agg nmA) (.int .i64 k) = some (.str (B4 k)) := by
 have : k = 0 ∨ k = 1 ∨ k = 2 ∨ k = 3 ∨ k = 4 ∨ k = 5 ∨ k = 6 ∨ k = 7 ∨ k = 8 ∨ k = 9 := by omega
 rcases this with rfl | rfl | rfl | rfl | rfl | rfl | rfl | rfl | rfl | rfl <;> rfl
set_option maxRecDepth 100000
open Go.Proofs
theorem N9 : ∀ (k : Nat) (s : Str), ∀ w ∈ F9 k s, w.length ≤ s.length
 | 0, s, w, h => by simp [F9] at h; subst h; exact Nat.le_refl _
 | k + 1, s, w, h => by
  rw [F9] at h
  cases hc : DG s with
  | none => rw [hc] at h; simp at h; subst h; exact Nat.le_refl _
  | some p =>
   rw [hc] at h
   have hl := OB hc
   simp only [List.mem_cons] at h
   rcases h with rfl | h
   ·omega
   ·have := N9 k p.2 w h
    omega
def Tm (x y : Int) (r : Rt) : AV := .vs 1 [[.int .i64 x], [.int .i64 y]] r
set_option maxRecDepth 100000 in
theorem JQ {w0 : World} (hm : If w0) (ht : P0 w0) (he : AtL w0) {S : St} {s : Str} {rest : Bool} (hs : s.length ≤ 100000000) {Q : AV → St → Prop}
  (hq : match Dk rest s with | some (x, y, p) => ∀ r : Rt, Q (.tup [Tm x y r.strip, .str p, .bool true]) S | none => Q (.tup [.vs 1 [] .nil, .str [], .bool false]) S) : AC w0 FB [.str s, .int .i64 2, .bool rest] S Q := by
 apply NW
 unfold G4
 cases rest with
 | true =>
  rw [QG] at hq
  simp [AD]
  try rw [show IntKind.i64.wrap (2 + 1) = ((3 : Nat) : Int) from by rw [wrap64 (by omega) (by omega)]; rfl]
  try rw [show IntKind.i64.wrap 3 = ((3 : Nat) : Int) from by rw [wrap64 (by omega) (by omega)]; rfl]
  refine Sw (n := 3) hm (by omega) (by omega) (by omega) ?_
  have hmem := N9 2 s
  rw [show 3 - 1 = 2 from rfl]
  rcases hL : F9 2 s with _ | ⟨a, _ | ⟨b, _ | ⟨p, _ | ⟨q, l⟩⟩⟩⟩
  ·rw [hL] at hq
   simp
   exact hq
  ·rw [hL] at hq
   simp
   exact hq
  ·rw [hL] at hq
   simp
   exact hq
  ·rw [hL] at hq
   simp at hq
   simp [Cm, bnd]
   have hal : a.length ≤ 100000000 := by have := hmem a (by rw [hL]; simp); omega
   have hbl : b.length ≤ 100000000 := by have := hmem b (by rw [hL]; simp); omega
   have hbad : (numOf a = none ∨ numOf b = none) → Q (.tup [.vs 1 [] .nil, .str [], .bool false]) S := fun hc => by
    rcases hc with hc | hc
    ·rw [hc] at hq; exact hq
    ·rw [hc] at hq
     cases hn : numOf a with
     | none => rw [hn] at hq; exact hq
     | some x => rw [hn] at hq; exact hq
   rw [show ([[AV.str a], [AV.str b]] : List (List AV)) = ([a, b] : List Str).map CH from rfl]
   refine BI [a, b] (fun i (σ : List Int × Rt) => ([.vs 1 (σ.1.map fun n => [.int .i64 n]) σ.2, .int .i64 i], [])) (fun i σ S' => S' = S ∧ σ.2 ≠ .none ∧ ([a, b].take i).map numOf = σ.1.map some) ([], .nil) rfl ⟨rfl, by simp, rfl⟩ ?_ ?_
   ·rintro i ⟨ns, r⟩ S' v bx w hi hxi hd hcc hmem2 ⟨rfl, hr, hns⟩ hv
    simp at hv hr hns
    obtain ⟨hv1, hv2⟩ := hv
    have hwl : w.length ≤ 100000000 := by
     simp at hmem2
     rcases hmem2 with rfl | rfl <;> assumption
    have hnl : ns.length ≤ 2 := by
     have := congrArg List.length hns
     simp at this
     simp at hi
     omega
    have hrow : ([[AV.str a], [AV.str b]] : List (List AV))[i]? = some [AV.str w] := by
     have : (([a, b] : List Str).map CH)[i]? = some (CH w) := by rw [List.getElem?_map, hxi]; rfl
     exact this
    have hi2 : (i : Int) < 2 := by simp at hi; omega
    simp [hv1, hv2, hcc, hrow, hi2]
    refine EC (s := w) ht he (by omega) ?_
    cases hw : numOf w with
    | none =>
     simp
     refine hbad ?_
     simp at hmem2
     rcases hmem2 with rfl | rfl
     ·exact .inl hw
     ·exact .inr hw
    | some n =>
     rw [H4 hw]
     simp [Ao, A6, hr, show ns.length + 1 ≤ lim by unfold lim; omega]
     try simp (disch := omega) only [wrap64]
     refine .next hi (ns ++ [n], .own (Cy Aj r)) (by simp) ⟨rfl, by simp, ?_⟩
     have hns2 : ([a, b].take i).map numOf = ns.map some := by rw [List.map_take]; exact hns
     have e2 : [numOf a, numOf b].take (i + 1) = ([a, b].take (i + 1)).map numOf := by rw [List.map_take]; rfl
     rw [e2, List.take_succ, hxi, List.map_append, hns2]
     simp [hw]
   ·rintro ⟨ns, r⟩ S' v bx ⟨rfl, hr, hns⟩ hv N
    simp at hv hns
    obtain ⟨hv1, hv2⟩ := hv
    obtain ⟨x, y, rfl⟩ : ∃ x y, ns = [x, y] := by
     match ns, hns with
     | [x, y], _ => exact ⟨x, y, rfl⟩
     | [], hns => simp at hns
     | [_], hns => simp at hns
     | _ :: _ :: _ :: _, hns => simp at hns
    simp at hns
    rw [hns.1, hns.2] at hq
    simp [hv1, hv2]
    simpa [Tm] using hq r
  ·rw [hL] at hq
   have hne : ¬ ((l.length : Int) + 1 + 1 + 1 + 1 = 3) := by omega
   simp [hne]
   exact hq
 | false =>
  rw [OV] at hq
  simp [AD]
  try rw [show IntKind.i64.wrap (2 + 1) = ((3 : Nat) : Int) from by rw [wrap64 (by omega) (by omega)]; rfl]
  try rw [show IntKind.i64.wrap 3 = ((3 : Nat) : Int) from by rw [wrap64 (by omega) (by omega)]; rfl]
  refine Sw (n := 2) hm (by omega) (by omega) (by omega) ?_
  have hmem := N9 1 s
  rw [show 2 - 1 = 1 from rfl]
  rcases hL : F9 1 s with _ | ⟨a, _ | ⟨b, _ | ⟨p, _ | ⟨q, l⟩⟩⟩⟩
  ·rw [hL] at hq
   simp
   exact hq
  ·rw [hL] at hq
   simp
   exact hq
  ·rw [hL] at hq
   simp at hq
   simp [Cm, bnd]
   have hal : a.length ≤ 100000000 := by have := hmem a (by rw [hL]; simp); omega
   have hbl : b.length ≤ 100000000 := by have := hmem b (by rw [hL]; simp); omega
   have hbad : (numOf a = none ∨ numOf b = none) → Q (.tup [.vs 1 [] .nil, .str [], .bool false]) S := fun hc => by
    rcases hc with hc | hc
    ·rw [hc] at hq; exact hq
    ·rw [hc] at hq
     cases hn : numOf a with
     | none => rw [hn] at hq; exact hq
     | some x => rw [hn] at hq; exact hq
   rw [show ([[AV.str a], [AV.str b]] : List (List AV)) = ([a, b] : List Str).map CH from rfl]
   refine BI [a, b] (fun i (σ : List Int × Rt) => ([.vs 1 (σ.1.map fun n => [.int .i64 n]) σ.2, .int .i64 i], [])) (fun i σ S' => S' = S ∧ σ.2 ≠ .none ∧ ([a, b].take i).map numOf = σ.1.map some) ([], .nil) rfl ⟨rfl, by simp, rfl⟩ ?_ ?_
   ·rintro i ⟨ns, r⟩ S' v bx w hi hxi hd hcc hmem2 ⟨rfl, hr, hns⟩ hv
    simp at hv hr hns
    obtain ⟨hv1, hv2⟩ := hv
    have hwl : w.length ≤ 100000000 := by
     simp at hmem2
     rcases hmem2 with rfl | rfl <;> assumption
    have hnl : ns.length ≤ 2 := by
     have := congrArg List.length hns
     simp at this
     simp at hi
     omega
    have hrow : ([[AV.str a], [AV.str b]] : List (List AV))[i]? = some [AV.str w] := by
     have : (([a, b] : List Str).map CH)[i]? = some (CH w) := by rw [List.getElem?_map, hxi]; rfl
     exact this
    have hi2 : (i : Int) < 2 := by simp at hi; omega
    simp [hv1, hv2, hcc, hrow, hi2]
    refine EC (s := w) ht he (by omega) ?_
    cases hw : numOf w with
    | none =>
     simp
     refine hbad ?_
     simp at hmem2
     rcases hmem2 with rfl | rfl
     ·exact .inl hw
     ·exact .inr hw
    | some n =>
     rw [H4 hw]
     simp [Ao, A6, hr, show ns.length + 1 ≤ lim by unfold lim; omega]
     try simp (disch := omega) only [wrap64]
     refine .next hi (ns ++ [n], .own (Cy Aj r)) (by simp) ⟨rfl, by simp, ?_⟩
     have hns2 : ([a, b].take i).map numOf = ns.map some := by rw [List.map_take]; exact hns
     have e2 : [numOf a, numOf b].take (i + 1) = ([a, b].take (i + 1)).map numOf := by rw [List.map_take]; rfl
     rw [e2, List.take_succ, hxi, List.map_append, hns2]
     simp [hw]
   ·rintro ⟨ns, r⟩ S' v bx ⟨rfl, hr, hns⟩ hv N
    simp at hv hns
    obtain ⟨hv1, hv2⟩ := hv
    obtain ⟨x, y, rfl⟩ : ∃ x y, ns = [x, y] := by
     match ns, hns with
     | [x, y], _ => exact ⟨x, y, rfl⟩
     | [], hns => simp at hns
     | [_], hns => simp at hns
     | _ :: _ :: _ :: _, hns => simp at hns
    simp at hns
    rw [hns.1, hns.2] at hq
    simp [hv1, hv2]
    simpa [Tm] using hq r
  ·rw [hL] at hq
   simp
   exact hq
  ·rw [hL] at hq
   have hne : ¬ ((l.length : Int) + 1 + 1 + 1 + 1 = 2) := by omega
   simp [hne]
   exact hq
set_option maxRecDepth 100000
open Go.Proofs
def kf (w : Str) : Nat → Int
 | 0 => 0
 | i + 1 => if 0 < i ∧ B4 i = w then i else kf w i
theorem bN (w : Str) : kf w 10 = kindOf w := by
 by_cases h1 : w = B4 1
 ·subst h1; decide
 by_cases h2 : w = B4 2
 ·subst h2; decide
 by_cases h3 : w = B4 3
 ·subst h3; decide
 by_cases h4 : w = B4 4
 ·subst h4; decide
 by_cases h5 : w = B4 5
 ·subst h5; decide
 by_cases h6 : w = B4 6
 ·subst h6; decide
 by_cases h7 : w = B4 7
 ·subst h7; decide
 by_cases h8 : w = B4 8
 ·subst h8; decide
 by_cases h9 : w = B4 9
 ·subst h9; decide
 have e : ∀ k : Int, ¬ w = B4 k → ¬ B4 k = w := fun k h h' => h h'.symm
 unfold kindOf
 rw [if_neg h1, if_neg h2, if_neg h3, if_neg h4, if_neg h5, if_neg h6, if_neg h7, if_neg h8, if_neg h9]
 simp only [kf]
 simp [e 1 h1, e 2 h2, e 3 h3, e 4 h4, e 5 h5, e 6 h6, e 7 h7, e 8 h8, e 9 h9]
def VC (line : Str) : AV := match Ff line with | some o => .tup [.agg o.c, .bool true] | none => .tup [.agg OpN.zero.c, .bool false]
set_option maxRecDepth 100000 in
theorem SJ {w0 : World} (hm : If w0) (ht : P0 w0) (he : AtL w0) {S : St} {line : Str} (hs : line.length ≤ 100000000) {Q : AV → St → Prop} (hq : Q (VC line) S) : AC w0 IW [.str line] S Q := by
 apply Pf
 unfold Ie
 unfold VC at hq
 rw [WK] at hq
 refine df hm (by omega) ?_
 cases hc : DG line with
 | none =>
  rw [hc] at hq
  simp [AD]
  exact hq
 | some wr =>
  obtain ⟨w, rest⟩ := wr
  rw [hc] at hq
  have hl := OB hc
  simp only at hq hl
  simp
  rw [AD]
  refine Uk ?_
  by_cases h10 : 10 ∈ line
  ·rw [if_pos h10] at hq
   simp [h10]
   exact hq
  rw [if_neg h10] at hq
  simp [h10]
  rw [AD]
  refine R7 ?_
  refine EH (fun i : Nat => ([.int .i64 i], [some [.int .i64 (kf w i), .str [], .int .i64 0, .int .i64 0, .int .i64 0, .str []]])) (fun k i S2 => S2 = S ∧ i ≤ 10 ∧ k = 10 - i) 10 0 rfl ⟨rfl, by omega, rfl⟩ ?_
  rintro k i S2 v b ⟨rfl, hi, hk⟩ hv
  simp at hv
  obtain ⟨hv1, hv2⟩ := hv
  by_cases h : i < 10
  ·have hi2 : (i : Int) < 10 := by omega
   simp [hv1, hv2, hi2]
   rw [AD, ZY (by omega) (by omega)]
   have hkf : kf w (i + 1) = if 0 < i ∧ B4 i = w then (i : Int) else kf w i := rfl
   by_cases h0 : 0 < i
   ·have h0' : (0 : Int) < i := by omega
    by_cases hn : B4 i = w
    ·rw [if_pos ⟨h0, hn⟩] at hkf
     simp [h0, h0', hn, AD]
     try simp (disch := omega) only [wrap64]
     exact ⟨10 - (i + 1), i + 1, by omega, by simp [hkf], rfl, by omega, rfl⟩
    ·rw [if_neg (fun h => hn h.2)] at hkf
     simp [h0, h0', hn, AD]
     try simp (disch := omega) only [wrap64]
     exact ⟨10 - (i + 1), i + 1, by omega, by simp [hkf], rfl, by omega, rfl⟩
   ·have h0' : ¬ (0 : Int) < i := by omega
    rw [if_neg (fun h => h0 h.1)] at hkf
    simp [h0, h0', AD]
    try simp (disch := omega) only [wrap64]
    exact ⟨10 - (i + 1), i + 1, by omega, by simp [hkf], rfl, by omega, rfl⟩
  ·have e : i = 10 := by omega
   subst e
   simp [hv1, hv2]
   rw [bN]
   generalize hkd : kindOf w = kd at hq ⊢
   by_cases k0 : kd = 0
   ·rw [if_pos k0] at hq
    simp [k0, AD]
    exact hq
   rw [if_neg k0] at hq
   by_cases k4 : kd = 4
   ·rw [if_pos k4] at hq
    simp [k4, AD]
    refine JQ hm ht he (by omega) ?_
    cases hn : Dk true rest with
    | none =>
     rw [hn] at hq
     simp
     exact hq
    | some t =>
     obtain ⟨x, y, p⟩ := t
     rw [hn] at hq
     intro r
     simp [Tm]
     exact hq
   rw [if_neg k4] at hq
   by_cases k6 : kd = 6
   ·rw [if_pos k6] at hq
    simp [k6, AD]
    refine JQ hm ht he (by omega) ?_
    cases hn : Dk false rest with
    | none =>
     rw [hn] at hq
     simp
     exact hq
    | some t =>
     obtain ⟨x, y, p⟩ := t
     rw [hn] at hq
     intro r
     simp [Tm]
     exact hq
   rw [if_neg k6] at hq
   by_cases k79 : kd = 7 ∨ kd = 9
   ·rw [if_pos k79] at hq
    rcases k79 with k7 | k9
    ·simp [k7, AD]
     refine EC ht he (by omega) ?_
     cases hn : numOf rest with
     | none => rw [hn] at hq; simp; exact hq
     | some x => rw [hn] at hq; rw [H4 hn]; simp; subst k7; exact hq
    ·simp [k9, AD]
     refine EC ht he (by omega) ?_
     cases hn : numOf rest with
     | none => rw [hn] at hq; simp; exact hq
     | some x => rw [hn] at hq; rw [H4 hn]; simp; subst k9; exact hq
   rw [if_neg k79] at hq
   have k7 : ¬ kd = 7 := fun h => k79 (.inl h)
   have k9 : ¬ kd = 9 := fun h => k79 (.inr h)
   by_cases k8 : kd = 8
   ·rw [if_pos k8] at hq
    simp [k8, AD]
    refine L0 (by omega) (fun c hcx => ?_)
    cases hn : FX rest with
    | none => rw [hn] at hq; simp; exact hq
    | some x => rw [hn] at hq; rw [hcx x hn]; simp; exact hq
   rw [if_neg k8] at hq
   simp [k0, k4, k6, k7, k9, k8, AD]
   exact hq
set_option maxRecDepth 100000
open Go.Proofs
structure WT.ok (r : WT) : Prop where
 err : GG r.err
 kind : GG r.kind
 size : GG r.size
 where_ : GG r.where_
 id : GG r.id
set_option maxRecDepth 100000
open Go.Proofs
theorem ZK {w0 : World} {f : Nat} {args : List AV} (h : ∀ Q : AV → St → Prop, (∀ S, Q (.bool true) S) → AC w0 f args [] Q) : AC w0 f args [] fun r _ => r = .bool true := h _ (fun _ => rfl)
set_option maxRecDepth 100000
open Go.Proofs
def nC (n : Int) : List AV := [.int .i64 n]
set_option maxRecDepth 100000 in
theorem Jp {w0 : World} (ht : P0 w0) (he : AtL w0) {S : St} {l : List Str} {r : Rt} (hl : l.length ≤ 1000000) (hs : ∀ s ∈ l, s.length ≤ 100000000) {Q : AV → St → Prop}
  (hq : match ET l with | some ns => ∀ r : Rt, (r.strip = .nil → ns = []) → Q (.tup [.vs 1 (ns.map nC) r.strip, .bool true]) S | none => Q (.tup [.vs 1 [] .nil, .bool false]) S) : AC w0 Ey [.vs 1 (l.map CH) r] S Q := by
 apply NK
 unfold Gu
 rw [AD]
 simp
 have hpre : ∀ (a : List Str) (ns : List Int), a.map numOf = ns.map some → ET a = some ns := by
  intro a
  induction a with
  | nil => intro ns h; cases ns with | nil => rfl | cons _ _ => simp at h
  | cons w a ih =>
   intro ns h
   cases ns with
   | nil => simp at h
   | cons n ns =>
    simp at h
    rw [ET, h.1, ih ns h.2]
    rfl
 have hbad : ∀ (a : List Str) (w : Str), w ∈ a → numOf w = none → ET a = none := by
  intro a
  induction a with
  | nil => intro w h; cases h
  | cons x a ih =>
   intro w h hw
   rw [ET]
   rcases List.mem_cons.1 h with rfl | h
   ·rw [hw]
   ·rw [ih w h hw]
    cases numOf x <;> rfl
 refine BI l (fun i (σ : List Int × Rt) => ([.vs 1 (σ.1.map nC) σ.2, .int .i64 i], [])) (fun i σ S' => S' = S ∧ σ.2 ≠ .none ∧ (σ.2 = .nil → σ.1 = []) ∧ (l.take i).map numOf = σ.1.map some) ([], .nil) rfl ⟨rfl, by simp, by simp, rfl⟩ ?_ ?_
 ·rintro i ⟨ns, r⟩ S' v bx w hi hxi hd hcc hmem ⟨rfl, hr, hrn, hns⟩ hv
  simp at hv hr hrn
  simp only at hns
  obtain ⟨hv1, hv2⟩ := hv
  have hwl := hs w hmem
  have hnl : ns.length ≤ l.length := by
   have := congrArg List.length hns
   simp at this
   omega
  simp [hv1, hv2, hcc, hxi]
  refine EC (s := w) ht he (by omega) ?_
  cases hw : numOf w with
  | none =>
   rw [hbad l w hmem hw] at hq
   simp
   exact hq
  | some n =>
   rw [H4 hw]
   simp [Ao, A6, hr, show ns.length + 1 ≤ lim by unfold lim; omega]
   try simp (disch := omega) only [wrap64]
   refine .next hi (ns ++ [n], .own (Cy Aj r)) (by simp [nC]) ⟨rfl, by simp, by simp, ?_⟩
   have e2 : (l.map numOf).take (i + 1) = (l.take (i + 1)).map numOf := by rw [List.map_take]
   rw [e2, List.take_succ, hxi, List.map_append, hns]
   simp [hw]
 ·rintro ⟨ns, r⟩ S' v bx ⟨rfl, hr, hrn, hns⟩ hv N
  simp at hv hr hrn
  simp only [List.take_length] at hns
  obtain ⟨hv1, hv2⟩ := hv
  rw [hpre l ns hns] at hq
  simp [hv1, hv2]
  exact hq r (fun e => hrn (by cases r <;> first | rfl | cases e))
set_option maxRecDepth 100000
open Go.Proofs
abbrev Cl := List OpN × Rt
def Cl.c (x : Cl) : List AV := [.vs 6 (x.1.map OpN.c) x.2]
theorem Cl.len (x : Cl) : (Cl.c x).length = 1 := rfl
structure Rdr (S : St) (R lo k : Nat) (r : RdS) (ri rp : Rt) (x : AV) (cl : List Cl) (o : Option Nat) : Prop where
 obj : S[R]? = some (.cells [.int .i64 r.sc.sh, .int .i64 r.sc.room, .int .i64 r.sc.cur, .vs 1 (r.sc.images.map CH) ri, x, .vs 1 (r.sc.picks.map nC) rp, .int .i64 (r.part : Int)] CW)
 row : FS Cl.c 1 S x cl o
 cls : cl.map (·.1) = r.sc.clients
 own : ∀ j, o = some j → lo ≤ j ∧ j ≠ R
 ri : ri ≠ .none ∧ (ri = .nil → r.sc.images = [])
 rp : rp = .nil → r.sc.picks = []
 rc : ∀ c ∈ cl, c.2 ≠ .none ∧ (c.2 = .nil → c.1 = [])
 few : r.sc.images.length ≤ k ∧ r.sc.clients.length ≤ k ∧ ∀ c ∈ r.sc.clients, c.length ≤ k
 lo : lo ≤ R
 part : r.part ≤ 4
 ne : r.part = 3 → r.sc.clients ≠ []
theorem Jm (c : UInt8) : ∀ (s : Str), (BO c s).length ≤ s.length + 1 ∧ ∀ p ∈ BO c s, p.length ≤ s.length
 | [] => by simp [BO]
 | x :: s => by
  obtain ⟨h1, h2⟩ := Jm c s
  rw [DP]
  split
  ·refine ⟨by simp; omega, fun p hp => ?_⟩
   rcases List.mem_cons.1 hp with rfl | hp
   ·simp
   ·have := h2 p hp; simp; omega
  ·cases hs : BO c s with
   | nil => exact absurd hs (GN c s)
   | cons a t =>
    rw [hs] at h1 h2
    refine ⟨by simp at h1 ⊢; omega, fun p hp => ?_⟩
    rcases List.mem_cons.1 hp with rfl | hp
    ·have := h2 a (by simp); simp; omega
    ·have := h2 p (by simp [hp]); simp; omega
def Cl.v (x : Cl) : AV := .vs 6 (x.1.map OpN.c) x.2
theorem Vi (cl : List Cl) : Aw Cl.c cl = cl.map Cl.v := by
 induction cl with
 | nil => rfl
 | cons x l ih =>
  have : Aw Cl.c (x :: l) = Cl.c x ++ Aw Cl.c l := by simp [Aw]
  rw [this, ih]
  rfl
theorem Xs {cl : List Cl} {i : Nat} {y : Cl} (hi : cl[i]? = some y) : (Aw Cl.c cl).modify i AV.strip1 = Aw Cl.c (cl.set i (y.1, y.2.strip)) := by
 rw [Vi, Vi]
 apply List.ext_getElem?
 intro j
 rw [List.getElem?_modify, List.getElem?_map, List.getElem?_map]
 by_cases e : i = j
 ·subst e
  have hl := (List.getElem?_eq_some_iff.1 hi).1
  rw [List.getElem?_set_self hl, hi]
  simp [Cl.v, AV.strip1]
 ·rw [List.getElem?_set_ne e]
  simp [e]
theorem Xp {cl : List Cl} {i : Nat} (hi : i + 1 = cl.length) (a z : Cl) : (cl.set i a).set i z = cl.dropLast ++ [z] := by
 rw [List.set_set]
 apply List.ext_getElem?
 intro j
 by_cases e : i = j
 ·subst e
  rw [List.getElem?_set_self (by omega), List.getElem?_append_right (by simp; omega)]
  simp
  have : i - (cl.length - 1) = 0 := by omega
  rw [this]
  rfl
 ·rw [List.getElem?_set_ne e]
  by_cases h : j < i
  ·rw [List.getElem?_append_left (by simp; omega), List.getElem?_dropLast, if_pos (by omega)]
  ·rw [List.getElem?_eq_none (by omega), List.getElem?_eq_none (by simp; omega)]
set_option maxRecDepth 100000 in
theorem QP {w0 : World} (hm : If w0) (ht : P0 w0) (he : AtL w0) {S : St} {R lo k : Nat} {r : RdS} {ri rp : Rt} {x : AV} {cl : List Cl} {o : Option Nat} {s : Str} (h : Rdr S R lo k r ri rp x cl o) (hs : s.length ≤ 1000000) (hk : k ≤ 1000000) {Q : AV → St → Prop}
  (hq : ∀ S', (∀ j, j < lo → S'[j]? = S[j]?) → match D2 r s with | some r' => ∀ ri' rp' x' cl' o', Rdr S' R lo (k + 1) r' ri' rp' x' cl' o' → Q (.bool true) S' | none => Q (.bool false) S') : AC w0 Dl [.ptr R 0, .str s] S Q := by
 obtain ⟨hob, hrow, hcls, hown, hri, hrp, hrc, hfew, hlo, hpart, hne⟩ := h
 apply H8
 unfold DR
 refine Ta hm (by omega) ?_
 obtain ⟨hl1, hl2⟩ := Jm 32 s
 obtain ⟨w, tl, hsp⟩ : ∃ w tl, BO 32 s = w :: tl := by
  cases hs : BO 32 s with
  | nil => exact absurd hs (GN 32 s)
  | cons w tl => exact ⟨w, tl, rfl⟩
 unfold D2 at hq
 rw [hsp] at hq hl1 hl2
 rw [hsp]
 simp only [List.tail_cons, List.head?_cons] at hq
 simp [AQ hob]
 have hwl : ∀ p ∈ tl, p.length ≤ 100000000 := fun p hp => by have := hl2 p (by simp [hp]); omega
 have htl : tl.length ≤ 1000000 := by simp at hl1; omega
 by_cases h0 : r.part = 0
 ·rw [if_pos h0] at hq
  simp [h0]
  refine Jp ht he htl hwl ?_
  cases hw : ET tl with
  | none =>
   rw [hw] at hq
   simp only at hq
   have hf := hq S (fun _ _ => rfl)
   by_cases hr : w = [114, 111, 111, 109]
   ·subst hr; simp [AD]; exact hf
   ·simp [AD, hr]; exact hf
  | some ns =>
   rw [hw] at hq
   intro r1 hr1
   by_cases hr : w = [114, 111, 111, 109]
   ·subst hr
    by_cases h3 : ns.length = 3
    ·obtain ⟨a, b, c, rfl⟩ : ∃ a b c, ns = [a, b, c] := by
      match ns, h3 with
      | [a, b, c], _ => exact ⟨a, b, c, rfl⟩
     simp only at hq
     simp [AD, nC]
     rw [Ae hob]
     simp
     rw [Ae (Ar hob)]
     simp
     have hS := hq (S.set R (.cells [.int .i64 a, .int .i64 b, .int .i64 c, .vs 1 (r.sc.images.map CH) ri, x, .vs 1 (r.sc.picks.map nC) rp, .int .i64 1] CW)) (fun j hj => List.getElem?_set_ne (by omega))
     simp only [if_true] at hS
     refine hS ri rp x cl o ⟨Ar hob, hrow.mono fun id e => List.getElem?_set_ne (Ne.symm (hown id e).2), hcls, hown, hri, hrp, hrc, ⟨Nat.le_succ_of_le hfew.1, Nat.le_succ_of_le hfew.2.1, fun c hc => Nat.le_succ_of_le (hfew.2.2 c hc)⟩, hlo, by simp, by simp⟩
    ·have h3i : ¬ (ns.length : Int) = 3 := by omega
     have hf : Q (.bool false) S := by
      have := hq S (fun _ _ => rfl)
      match ns, h3, this with
      | [], _, this => exact this
      | [_], _, this => exact this
      | [_, _], _, this => exact this
      | _ :: _ :: _ :: _ :: _, _, this => exact this
     simp [AD, h3i]; exact hf
   ·have hf : Q (.bool false) S := by
     have := hq S (fun _ _ => rfl)
     have hwr : ¬ (some w = some Kc) := by simpa using hr
     match ns, this with
     | [], this => exact this
     | [_], this => exact this
     | [_, _], this => exact this
     | [a, b, c], this => simpa [hwr, hr] using this
     | _ :: _ :: _ :: _ :: _, this => exact this
    simp [AD, hr]; exact hf
 rw [if_neg h0] at hq
 simp [h0]
 have hp0 := hpart
 by_cases hi : r.part < 3 ∧ w = Ho ∧ tl.length = 1
 ·obtain ⟨hi1, rfl, hi3⟩ := hi
  obtain ⟨y, rfl⟩ : ∃ y, tl = [y] := by
   match tl, hi3 with
   | [y], _ => exact ⟨y, rfl⟩
  have hyl := hwl y (by simp)
  have hi2 : (r.part : Int) < 3 := by omega
  rw [if_pos (by exact ⟨hi1, by simp, rfl⟩)] at hq
  simp [hi2]
  refine L0 (by omega) (fun c hc => ?_)
  have hlim : r.sc.images.length + 1 ≤ lim := by have := hfew.1; unfold lim; omega
  simp [AQ hob, Ct hob, Ao, A6, hri.1, hlim]
  rw [Ae (Ar hob)]
  simp
  rw [Ae (Ar hob)]
  simp
  have hS := hq (S.set R (.cells [.int .i64 r.sc.sh, .int .i64 r.sc.room, .int .i64 r.sc.cur, .vs 1 ((r.sc.images ++ [c]).map CH) (.own (Cy AF ri)), x, .vs 1 (r.sc.picks.map nC) rp, .int .i64 2] CW)) (fun j hj => List.getElem?_set_ne (by omega))
  have e1 : (([Ho, y] : List Str)[1]?).getD [] = y := rfl
  rw [e1] at hS
  cases hb : FX y with
  | none =>
   rw [hb] at hS
   simp at hS ⊢
   exact hS
  | some z =>
   rw [hb] at hS
   obtain rfl := hc z hb
   simp at hS ⊢
   refine hS (.own (Cy AF ri)) rp x cl o ⟨by rw [Ar hob]; simp, hrow.mono fun id e => List.getElem?_set_ne (Ne.symm (hown id e).2), hcls, hown, ⟨by simp, by simp⟩, hrp, hrc, ⟨by simp; exact hfew.1, Nat.le_succ_of_le hfew.2.1, fun c hc => Nat.le_succ_of_le (hfew.2.2 c hc)⟩, hlo, by simp, by simp⟩
 rw [if_neg (by simpa using hi)] at hq
 have hin : (decide ((r.part : Int) < 3) && decide (w = [105, 109, 97, 103, 101]) && decide ((tl.length : Int) + 1 = 2)) = false := by
  rw [Bool.eq_false_iff]
  intro hc
  simp only [Bool.and_eq_true, decide_eq_true_eq] at hc
  exact hi ⟨by omega, hc.1.2, by omega⟩
 simp [hin]
 have hRl : R < S.length := (List.getElem?_eq_some_iff.1 hob).1
 by_cases hcl : r.part < 4 ∧ s = C8
 ·rw [if_pos (by exact hcl)] at hq
  obtain ⟨hc1, hc2⟩ := hcl
  have hc3 : (r.part : Int) < 4 := by omega
  have hx1 : x.strip1 = x ∧ x.strip0 = x := by
   cases o with
   | none => obtain ⟨rfl, _⟩ := hrow; exact ⟨rfl, rfl⟩
   | some id => obtain ⟨rfl, _⟩ := hrow; exact ⟨rfl, rfl⟩
  have hst : stripMem S (.ptr R 4) = S := by
   rw [Ct hob]
   simp [hx1.1]
   apply List.ext_getElem?
   intro j
   by_cases e : R = j
   ·subst e; rw [Ar hob]; exact hob.symm
   ·exact List.getElem?_set_ne e
  have hlim : cl.length + ([([], .nil)] : List Cl).length ≤ lim := by
   have h1 := hfew.2.1
   have h2 := congrArg List.length hcls
   simp at h2
   unfold lim
   simp
   omega
  obtain ⟨x', S', o', a1, a2, a3, a4, a5⟩ := hrow.append (T := BS) Cl.len rfl (y := .vs 1 [[.vs 6 [] .nil]] .full) (m := [([], .nil)]) (by simp [A6, Cl.c]) hlim
  have hR' : S'[R]? = S[R]? := a3 R hRl (fun e => (hown R e).2 rfl)
  rw [hob] at hR'
  simp [hc3, hc2, hst, hx1.2]
  rw [a1]
  simp
  have hx'f : x'.cells = [x'] ∧ x'.free = true ∧ x'.strip = x' := by
   cases o' with
   | none => obtain ⟨rfl, _⟩ := a2; exact ⟨rfl, rfl, rfl⟩
   | some id => obtain ⟨rfl, _⟩ := a2; exact ⟨rfl, rfl, rfl⟩
  rw [Ae hR']
  simp [hx'f.1, hx'f.2.1]
  rw [Ae (Ar hR')]
  simp
  have hS := hq (S'.set R (.cells [.int .i64 r.sc.sh, .int .i64 r.sc.room, .int .i64 r.sc.cur, .vs 1 (r.sc.images.map CH) ri, x', .vs 1 (r.sc.picks.map nC) rp, .int .i64 3] CW)) (fun j hj => by
   rw [List.getElem?_set_ne (by omega)]
   exact a3 j (by omega) (fun e => by have := (hown j e).1; omega))
  refine hS ri rp x' (cl ++ [([], .nil)]) o' ⟨Ar hR', a2.mono fun id e => List.getElem?_set_ne (fun e2 => ?_), by simp [hcls], fun j e => ?_, hri, hrp, fun c hc => ?_, ⟨Nat.le_succ_of_le hfew.1, by simp; exact hfew.2.1, fun c hc => ?_⟩, hlo, by simp, by simp⟩
  ·rcases a5 id e with h | h
   ·exact (hown id h).2 e2.symm
   ·omega
  ·rcases a5 j e with h | h
   ·exact hown j h
   ·exact ⟨by omega, by omega⟩
  ·rcases List.mem_append.1 hc with hc | hc
   ·exact hrc c hc
   ·rw [List.mem_singleton] at hc; subst hc; exact ⟨by simp, fun _ => rfl⟩
  ·rcases List.mem_append.1 hc with hc | hc
   ·exact Nat.le_succ_of_le (hfew.2.2 c hc)
   ·rw [List.mem_singleton] at hc; subst hc; simp
 rw [if_neg (by exact hcl)] at hq
 have hcn : (decide ((r.part : Int) < 4) && decide (s = [99, 108, 105, 101, 110, 116])) = false := by
  rw [Bool.eq_false_iff]
  intro hc
  simp only [Bool.and_eq_true, decide_eq_true_eq] at hc
  exact hcl ⟨by omega, hc.2⟩
 simp [hcn]
 by_cases hpk : r.part < 4 ∧ w = LU ∧ tl ≠ []
 ·obtain ⟨hp1, rfl, hp3⟩ := hpk
  have hp2 : (r.part : Int) < 4 := by omega
  have htn : 1 < (tl.length : Int) + 1 := by
   have : 0 < tl.length := List.length_pos_iff.2 hp3
   omega
  rw [if_pos (by refine ⟨hp1, by simp, ?_⟩; have : 0 < tl.length := List.length_pos_iff.2 hp3; simp; omega)] at hq
  simp [hp2, htn]
  refine Jp ht he htl hwl ?_
  cases hw : ET tl with
  | none =>
   rw [hw] at hq
   simp
   rw [Ae hob]
   simp
   rw [Ae (Ar hob)]
   simp
   exact hq _ (fun j hj => List.getElem?_set_ne (by omega))
  | some ns =>
   rw [hw] at hq
   intro r1 hr1
   simp
   rw [Ae hob]
   simp
   rw [Ae (Ar hob)]
   simp
   have hS := hq (S.set R (.cells [.int .i64 r.sc.sh, .int .i64 r.sc.room, .int .i64 r.sc.cur, .vs 1 (r.sc.images.map CH) ri, x, .vs 1 (ns.map nC) r1.strip, .int .i64 4] CW)) (fun j hj => List.getElem?_set_ne (by omega))
   refine hS ri r1.strip x cl o ⟨Ar hob, hrow.mono fun id e => List.getElem?_set_ne (Ne.symm (hown id e).2), hcls, hown, hri, hr1, hrc, ⟨Nat.le_succ_of_le hfew.1, Nat.le_succ_of_le hfew.2.1, fun c hc => Nat.le_succ_of_le (hfew.2.2 c hc)⟩, hlo, by simp, by simp⟩
 rw [if_neg (by
  rintro ⟨q1, q2, q3⟩
  refine hpk ⟨q1, by simpa using q2, fun e => ?_⟩
  subst e
  simp at q3)] at hq
 have hpn : (decide ((r.part : Int) < 4) && decide (w = [112, 105, 99, 107]) && decide (1 < (tl.length : Int) + 1)) = false := by
  rw [Bool.eq_false_iff]
  intro hc
  simp only [Bool.and_eq_true, decide_eq_true_eq] at hc
  refine hpk ⟨by omega, hc.1.2, fun e => ?_⟩
  subst e
  simp at hc
 simp [hpn]
 refine SJ hm ht he (by omega) ?_
 unfold VC
 cases hps : Ff s with
 | none =>
  rw [hps] at hq
  have hzc : OpN.zero.c = [.int .i64 0, .str [], .int .i64 0, .int .i64 0, .int .i64 0, .str []] := rfl
  simp [hzc, AD]
  exact hq S (fun _ _ => rfl)
 | some op =>
  rw [hps] at hq
  have hoc : op.c = [.int .i64 op.kind, .str op.path, .int .i64 op.off, .int .i64 op.n, .int .i64 op.id, .str op.image] := rfl
  by_cases h3 : r.part = 3
  ·simp only [if_pos h3] at hq
   have h3i : (r.part : Int) = 3 := by omega
   simp [hoc, AQ hob, h3i, AD]
   have hcn0 := hne h3
   have hcl0 : cl ≠ [] := fun e => hcn0 (by rw [← hcls, e]; rfl)
   obtain ⟨id, rfl⟩ := hrow.is_some hcl0
   obtain ⟨hid1, hid2⟩ := hown id rfl
   obtain ⟨n, hn⟩ : ∃ n, n + 1 = cl.length := ⟨cl.length - 1, by have := List.length_pos_iff.2 hcl0; omega⟩
   obtain ⟨y, hy⟩ : ∃ y, cl[n]? = some y := ⟨_, List.getElem?_eq_getElem (by omega)⟩
   have hym := List.mem_of_getElem? hy
   obtain ⟨hy1, hy2⟩ := hrc y hym
   have hyk : y.1.length ≤ k := hfew.2.2 y.1 (by rw [← hcls]; exact List.mem_map_of_mem hym)
   have hlk : cl.length ≤ k := by have := congrArg List.length hcls; simp at this; omega
   obtain ⟨s1, s2, s3, s4⟩ := hrow.strip
   have hw1 : IntKind.i64.wrap ((cl.length : Int) - 1) = (n : Int) := by rw [wrap64 (by omega) (by omega)]; omega
   have hidx : Aq BS x (.int .i64 (n : Int)) = some (.ptr id (n * 1)) := hrow.idx (T := BS) rfl (i := n) (by omega) (k := .i64)
   have hload := hrow.cell (T := BS) Cl.len rfl (i := n) (k := 0) hy (by omega)
   have hrow2 := hrow.2
   have hst : stripMem S (.ptr id (n * 1)) = S.set id (.cells (Aw Cl.c (cl.set n (y.1, y.2.strip))) 0) := by
    rw [Ct hrow2, Nat.mul_one, Xs hy]
   generalize hS2 : S.set id (.cells (Aw Cl.c (cl.set n (y.1, y.2.strip))) 0) = S2 at hst
   have hR2 : S2[R]? = S[R]? := by rw [← hS2]; exact List.getElem?_set_ne hid2
   rw [hob] at hR2
   have hr2 : FS Cl.c 1 S2 x (cl.set n (y.1, y.2.strip)) (some id) := by
    refine ⟨by rw [hrow.1]; simp, ?_⟩
    rw [← hS2]
    exact Ar hrow2
   have hy' : (cl.set n (y.1, y.2.strip))[n]? = some (y.1, y.2.strip) := List.getElem?_set_self (by omega)
   obtain ⟨S3, b1, b2, b3, b4⟩ := hr2.put (T := BS) Cl.len rfl (i := n) (k := 0) (z := (y.1 ++ [op], .own (Cy Bl y.2))) hy' (by omega) (v := Cl.v (y.1 ++ [op], .own (Cy Bl y.2))) rfl rfl rfl
   rw [Xp hn] at b2
   have hlim : y.1.length + 1 ≤ lim := by unfold lim; omega
   simp only [s1, s4, C2, XJ, hw1]
   rw [show (AV.int .i64 (n : Int)).strip = .int .i64 (n : Int) from rfl, hidx, C2]
   rw [Nat.add_zero] at hload b1
   have hl0 : Ad BS S (.ptr id (n * 1)) = some (Cl.v y) := hload
   rw [hl0, C2, hst]
   refine ⟨by simp [AQ hR2, s1], ?_⟩
   have happ : Ao Bl S2 (Cl.v y).strip0 (.vs 6 [op.c] .full) = some (Cl.v (y.1 ++ [op], .own (Cy Bl y.2))) := by
    simp [Cl.v, AV.strip0, Ao, A6, hy1, hlim]
   rw [hoc] at happ
   rw [happ, C2, C2, b1, C2]
   have hR3 : S3[R]? = S2[R]? := b4 R (Ne.symm hid2)
   have hlast : r.sc.clients.getLast? = some y.1 := by
    rw [← hcls, List.getLast?_map, List.getLast?_eq_getElem?, show cl.length - 1 = n by omega, hy]
    rfl
   have hadd : ER r.sc.clients op = (cl.dropLast ++ [(y.1 ++ [op], Rt.own (Cy Bl y.2))]).map (·.1) := by
    unfold ER
    rw [hlast, ← hcls]
    simp
   have hS := hq S3 (fun j hj => by
    rw [b4 j (by omega), ← hS2]
    exact List.getElem?_set_ne (by omega))
   refine hS ri rp x _ (some id) ⟨by rw [hR3, hR2, h3], b2, hadd.symm, hown, hri, hrp, fun c hc => ?_, ⟨Nat.le_succ_of_le hfew.1, ?_, fun c hc => ?_⟩, hlo, by simp, fun _ => ?_⟩
   ·rcases List.mem_append.1 hc with hc | hc
    ·exact hrc c (List.dropLast_subset _ hc)
    ·rw [List.mem_singleton] at hc; subst hc; exact ⟨by simp, fun e => (by cases e)⟩
   ·show (ER r.sc.clients op).length ≤ k + 1
    rw [hadd]
    simp
    omega
   ·have hc2 : c ∈ ER r.sc.clients op := hc
    rw [hadd] at hc2
    obtain ⟨d, hd, rfl⟩ := List.mem_map.1 hc2
    rcases List.mem_append.1 hd with hd | hd
    ·exact Nat.le_succ_of_le (hfew.2.2 d.1 (by rw [← hcls]; exact List.mem_map_of_mem (List.dropLast_subset _ hd)))
    ·rw [List.mem_singleton] at hd; subst hd; simp; exact hyk
   ·show ER r.sc.clients op ≠ []
    simp [ER]
  ·simp only [if_neg h3] at hq
   have h3i : ¬ (r.part : Int) = 3 := by omega
   simp [hoc, AQ hob, h3i, AD]
   exact hq S (fun _ _ => rfl)
set_option maxRecDepth 100000
open Go.Proofs
def scC (s : ScN) (ri rp rc : Rt) (cl : List Cl) : List AV := [.int .i64 s.sh, .int .i64 s.room, .int .i64 s.cur, .vs 1 (s.images.map CH) ri, .vs 1 (cl.map Cl.c) rc, .vs 1 (s.picks.map nC) rp]
theorem Wn (r : RdS) (ls : List Str) (i : Nat) (s : Str) (hs : ls[i]? = some s) {r1 : RdS} (h : Em r (ls.take i) 0 = .inl r1) : Em r (ls.take (i + 1)) 0 = match D2 r1 s with | some r' => .inl r' | none => .inr i := by
 have hl := (List.getElem?_eq_some_iff.1 hs).1
 rw [List.take_succ, hs, Ed, h]
 simp only [Option.toList, List.length_take, Nat.min_eq_left (Nat.le_of_lt hl), Nat.zero_add]
 rw [Em]
 cases D2 r1 s <;> rfl
theorem Wo (r : RdS) (ls : List Str) (i k : Nat) (h : Em r (ls.take i) 0 = .inr k) : Em r ls 0 = .inr k := by
 have : ls = ls.take i ++ ls.drop i := (List.take_append_drop i ls).symm
 rw [this, Ed, h]
set_option maxRecDepth 100000 in
theorem Ji {w0 : World} (hm : If w0) (ht : P0 w0) (he : AtL w0) {S : St} {text : Str} (hs : text.length ≤ 900000) {Q : AV → St → Prop}
  (hq : ∀ S', Sx S S' → ((GT text).2 ≠ 0 → Q (.tup [.agg (scC ScN.zero .nil .nil .nil []), .int .i64 (((GT text).2 : Nat) : Int)]) S') ∧
   ((GT text).2 = 0 → ∀ (ri rp rc : Rt) (cl : List Cl), cl.map (·.1) = (GT text).1.clients → Q (.tup [.agg (scC (GT text).1 ri rp rc cl), .int .i64 0]) S')) : AC w0 Eq [.str text] S Q := by
 refine AM.freezeR (E := En w0) ?_
 apply NV
 unfold Gb
 refine Ta hm (by omega) ?_
 have hne := GN 10 text
 obtain ⟨hl1, hl2⟩ := Jm 10 text
 obtain ⟨n, hn⟩ : ∃ n, n + 1 = (BO 10 text).length := ⟨(BO 10 text).length - 1, by have := List.length_pos_iff.2 hne; omega⟩
 obtain ⟨a, ha, hsp⟩ := OH hne
 unfold GT at hq
 generalize hps : BO 10 text = ps at hq hl1 hl2 hn hne ha hsp
 have hdl : ps.dropLast = ps.take n := by rw [List.dropLast_eq_take]; congr 1; omega
 have hw1 : IntKind.i64.wrap ((ps.length : Int) - 1) = (n : Int) := by rw [wrap64 (by omega) (by omega)]; omega
 have hw2 : IntKind.i64.wrap ((n : Int) + 1 - 1) = (n : Int) := by rw [wrap64 (by omega) (by omega)]; omega
 rw [hdl] at hq hsp
 have hnl : n ≤ ps.length := by omega
 have hnp : ¬ n = ps.length := by omega
 simp [hw1, Cm, bnd, hnl, hnp]
 rw [AD]
 rw [← List.map_take]
 have hll : (ps.take n).length = n := by simp; omega
 have hlast : ps[n]? = some a := by rw [List.getLast?_eq_getElem?] at ha; rw [← ha]; congr 1; omega
 have hmem : ∀ p ∈ ps.take n, p.length ≤ text.length := fun p hp => hl2 p (List.take_subset _ _ hp)
 have hzs : scC ScN.zero .nil .nil .nil [] = [.int .i64 0, .int .i64 0, .int .i64 0, .vs 1 [] .nil, .vs 1 [] .nil, .vs 1 [] .nil] := rfl
 generalize hls : ps.take n = ls at hq hsp hll hmem
 rw [show (n : Int) = (ls.length : Int) from by rw [hll]]
 refine BI ls (fun i (_ : Unit) => ([.int .i64 i], [some [.int .i64 0, .int .i64 0, .int .i64 0, .vs 1 [] .nil, .vs 1 [] .nil, .vs 1 [] .nil]])) (fun i _ S' => (∀ j, j < S.length → S'[j]? = S[j]?) ∧ ∃ r ri rp x cl o, Rdr S' S.length S.length i r ri rp x cl o ∧ Em RdS.zero (ls.take i) 0 = .inl r) () rfl ?_ ?_ ?_
 ·refine ⟨fun j hj => List.getElem?_append_left hj, RdS.zero, .nil, .nil, .vs 1 [] .nil, [], none, ⟨by simp [RdS.zero, ScN.zero], ⟨rfl, rfl⟩, rfl, fun j e => (by cases e), ⟨by simp, fun _ => rfl⟩, fun _ => rfl, by simp, ⟨by simp [RdS.zero, ScN.zero], by simp [RdS.zero, ScN.zero], by simp [RdS.zero, ScN.zero]⟩, Nat.le_refl _, by simp [RdS.zero], fun e => (by cases e)⟩, rfl⟩
 ·rintro i _ S' v bx w hi hxi hd hcc hm2 ⟨hfr, r, ri, rp, x, cl, o, hR, hrun⟩ hv
  simp at hv
  obtain ⟨hv1, hv2⟩ := hv
  have hwl := hmem w hm2
  have hi2 : (i : Int) < ls.length := by omega
  simp [hv1, hv2, hcc, hxi]
  refine QP hm ht he hR (by omega) (by omega) (fun S2 hS2 => ?_)
  have hsn := Wn RdS.zero ls i w hxi hrun
  have hfr2 : ∀ j, j < S.length → S2[j]? = S[j]? := fun j hj => (hS2 j hj).trans (hfr j hj)
  cases hln : D2 r w with
  | none =>
   rw [hln] at hsn
   have hst := Wo RdS.zero ls (i + 1) i hsn
   rw [hst] at hq
   simp
   left
   have := (hq S2 hfr2).1 (by simp)
   rw [hzs] at this
   have hwi : IntKind.i64.wrap ((i : Int) + 1) = ((i + 1 : Nat) : Int) := by rw [wrap64 (by omega) (by omega)]; omega
   rw [hwi]
   exact this
  | some r' =>
   rw [hln] at hsn
   intro ri' rp' x' cl' o' hR'
   simp
   try simp (disch := omega) only [wrap64]
   exact .next hi () rfl ⟨hfr2, r', ⟨ri', rp', x', cl', o', hR'⟩, hsn⟩
 ·rintro _ S' v bx ⟨hfr, r, ri, rp, x, cl, o, hR, hrun⟩ hv N
  rw [List.take_length] at hrun
  rw [hrun] at hq
  simp at hv
  obtain ⟨hv1, hv2⟩ := hv
  obtain ⟨hob, hrow, hcls, hown, hri, hrp, hrc, hfew, hlo, hpart, hne2⟩ := hR
  have hw3 : IntKind.i64.wrap ((ps.length : Int) - 1) = (n : Int) := hw1
  simp [hv1, hv2, hw1, hlast, AQ hob]
  by_cases hz : a ≠ [] ∨ r.part = 0
  ·have hzb : (!decide (a = []) || decide (r.part = 0)) = true := by
    rcases hz with h | h <;> simp [h]
   have hcond : ps.getLast? ≠ some [] ∨ r.part = 0 := by
    rw [ha]
    rcases hz with h | h
    ·exact .inl (by simpa using h)
    ·exact .inr h
   simp only [if_pos hcond] at hq
   simp [hzb]
   left
   have := (hq S' hfr).1 (by omega)
   rw [hzs] at this
   exact this
  ·have hz1 : a = [] := by
    by_cases h : a = []
    ·exact h
    ·exact absurd (.inl h) hz
   have hz2 : ¬ r.part = 0 := fun h => hz (.inr h)
   have hcond : ¬ (ps.getLast? ≠ some [] ∨ r.part = 0) := by
    rw [ha, hz1]
    simp [hz2]
   simp only [if_neg hcond] at hq
   have hx1 : x.strip1 = x ∧ x.free1 = true := by
    cases o with
    | none => obtain ⟨rfl, _⟩ := hrow; exact ⟨rfl, rfl⟩
    | some id => obtain ⟨rfl, _⟩ := hrow; exact ⟨rfl, rfl⟩
   simp [hz1, hz2, hx1.1, hx1.2]
   cases o with
   | none =>
    obtain ⟨rfl, rfl⟩ := hrow
    left
    exact (hq S' hfr).2 (by trivial) ri.strip rp.strip .nil [] hcls
   | some id =>
    obtain ⟨hx2, hob2⟩ := hrow
    obtain ⟨hid1, hid2⟩ := hown id rfl
    right
    refine ⟨id, 0, 1, cl.length, cl.map Cl.c, ?_, ?_, by simp, ?_⟩
    ·rw [hob2]
     simp [Aw, List.flatMap]
    ·intro e he
     obtain ⟨c, _, rfl⟩ := List.mem_map.1 he
     exact ⟨rfl, fun y hy => by rw [Cl.c, List.mem_singleton] at hy; subst hy; rfl⟩
    ·have hfr3 : Sx S (S'.set id .dead) := fun j hj => by
      rw [List.getElem?_set_ne (by omega)]
      exact hfr j hj
     have := (hq _ hfr3).2 (by trivial) ri.strip rp.strip .none (cl.map fun c => (c.1, c.2.strip)) (by rw [List.map_map]; exact hcls)
     have e1 : (cl.map Cl.c).map (fun y => y.map AV.strip1) = (cl.map fun c => ((c.1, c.2.strip) : Cl)).map Cl.c := by
      rw [List.map_map, List.map_map]
      rfl
     rw [e1, hx2]
     have e2 : (AV.rs 1 id 0 cl.length).frz1 1 id cl.length (.vs 1 ((cl.map fun c => ((c.1, c.2.strip) : Cl)).map Cl.c) .none) = .vs 1 ((cl.map fun c => ((c.1, c.2.strip) : Cl)).map Cl.c) .none := by
      rw [Lu, if_pos ⟨rfl, rfl, rfl, rfl⟩]
     simp only [AV.frz3, AV.frz2, List.map_cons, List.map_nil, e2]
     exact this
set_option maxRecDepth 100000
open Go.Proofs
theorem n1 : DJ 1 = [49] := by rw [Ls (by decide) (by decide)]; rfl
theorem n2 : DJ 2 = [50] := by rw [Ls (by decide) (by decide)]; rfl
theorem n3 : DJ 3 = [51] := by rw [Ls (by decide) (by decide)]; rfl
theorem n5 : DJ 5 = [53] := by rw [Ls (by decide) (by decide)]; rfl
def opC : OpN := ⟨7, [], 0, 0, 5, []⟩
def OA : ScN := ⟨1, 2, 3, [], [[opC]], []⟩
theorem XN : Kc ++ numsL [1, 2, 3] = [114, 111, 111, 109, 32, 49, 32, 50, 32, 51] := by
 simp only [numsL, n1, n2, n3]
 rfl
theorem eI : Cc opC = [99, 108, 111, 115, 101, 32, 53] := by
 unfold Cc opC
 simp only [n5]
 rfl
theorem VD : RE OA = [114, 111, 111, 109, 32, 49, 32, 50, 32, 51, 10, 99, 108, 105, 101, 110, 116, 10, 99, 108, 111, 115, 101, 32, 53, 10] := by
 have h : F7 OA = [Kc ++ numsL [1, 2, 3], C8, Cc opC] := rfl
 rw [RE, h, XN, eI]
 rfl
theorem VY : Rf OA = true ∧ OA.ok := by
 refine ⟨by decide, ⟨by decide, by decide⟩, ⟨by decide, by decide⟩, ⟨by decide, by decide⟩, by simp [OA], ?_⟩
 intro ops h o ho
 simp [OA] at h
 subst h
 simp at ho
 subst ho
 exact ⟨⟨by decide, by decide⟩, ⟨by decide, by decide⟩, ⟨by decide, by decide⟩, ⟨by decide, by decide⟩⟩
theorem Nw : GT [114, 111, 111, 109, 32, 49, 32, 50, 32, 51, 10, 99, 108, 105, 101, 110, 116, 10, 99, 108, 111, 115, 101, 32, 53, 10] = (OA, 0) := by
 rw [← VD]
 exact TW VY.1 VY.2
theorem Oi : (GT [114, 111, 111, 109, 32, 49, 32, 50, 32, 51, 10, 99, 108, 105, 101, 110, 116, 10, 99, 108, 111, 115, 101, 10]).2 = 3 := by
 have h : ([114, 111, 111, 109, 32, 49, 32, 50, 32, 51, 10, 99, 108, 105, 101, 110, 116, 10, 99, 108, 111, 115, 101, 10] : Str) = txt [Kc ++ numsL [1, 2, 3], C8, [99, 108, 111, 115, 101]] := by
  rw [XN]; rfl
 rw [h, Qb (by rw [XN]; decide)]
 have e1 : D2 RdS.zero (Kc ++ numsL [1, 2, 3]) = some ⟨⟨1, 2, 3, [], [], []⟩, 1⟩ := QV ⟨by decide, by decide⟩ ⟨by decide, by decide⟩ ⟨by decide, by decide⟩
 have e2 : D2 ⟨⟨1, 2, 3, [], [], []⟩, 1⟩ C8 = some ⟨⟨1, 2, 3, [], [[]], []⟩, 3⟩ := Mb (r := ⟨⟨1, 2, 3, [], [], []⟩, 1⟩) ⟨by decide, by decide⟩
 have e3 : D2 ⟨⟨1, 2, 3, [], [[]], []⟩, 3⟩ [99, 108, 111, 115, 101] = none := by rfl
 simp only [Em, e1, e2, e3]
set_option maxRecDepth 100000 in
theorem Om {w0 : World} (hm : If w0) (ht : P0 w0) (he : AtL w0) {S : St} {Q : AV → St → Prop} (hq : ∀ S', Sx S S' → Q (.bool true) S') : AC w0 G5 [] S Q := by
 apply NM
 unfold G7
 refine Ji hm ht he (by simp) (fun S1 h1 => ⟨fun h => absurd (by rw [Nw]) h, fun _ ri rp rc cl hcl => ?_⟩)
 rw [Nw] at hcl ⊢
 refine Ji hm ht he (by simp) (fun S2 h2 => ⟨fun _ => ?_, fun h => absurd h (by rw [Oi]; simp)⟩)
 rw [Oi]
 obtain ⟨r0, rfl⟩ : ∃ r0, cl = [([opC], r0)] := by
  match cl, hcl with
  | [(os, r0)], hcl =>
   simp [OA] at hcl
   subst hcl
   exact ⟨r0, rfl⟩
  | [], hcl => simp [OA] at hcl
  | _ :: _ :: _, hcl => simp [OA] at hcl
 simp [scC, Cl.c, OA, ScN.zero, AD, opC, OpN.c, F4, eqA, Am, BE, Du]
 exact hq _ (h1.trans h2)
end Go.Av
