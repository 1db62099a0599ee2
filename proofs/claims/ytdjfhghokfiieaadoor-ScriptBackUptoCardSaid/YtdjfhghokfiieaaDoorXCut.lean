/- Parts of the proofs of this seat: abstract values over the model, and what the functions of the program do. No condition. -/
import Derived.Test.YtdjfhghokfiieaaDoorXSplit
import Derived.Test.YtdjfhghokfiieaaDoorM10
import Derived.Test.YtdjfhghokfiieaaDoorY19
import Derived.Test.YtdjfhghokfiieaaDoorXBldB
import Derived.Test.YtdjfhghokfiieaaDoorD1
import Derived.Shelf.Strings.Cut
import Derived.Shelf.Strings.Search3
import Derived.Shelf.Small.Strs
set_option linter.all false
set_option maxRecDepth 100000
namespace Go.Proofs
open Go.Shelf Go.Av
shelf_lay Lays.n145 Nm 145 at Tryd as Tryd.lays145
shelf_lay Lays.n144 Nm 144 at Tryd as Tryd.lays144
shelf_lay Lays.n137 Nm 137 at Tryd as Tryd.lays137
shelf_lay Lays.n143 Nm 143 at Tryd as Tryd.lays143
end Go.Proofs
namespace Go.Av
open Go.Proofs Go.Shelf Go.RowKit
theorem OL (x c : UInt8) (l : Str) : Lib.index (x :: l) [c] = if x = c then 0 else if Lib.index l [c] == -1 then -1 else Lib.index l [c] + 1 := by
 by_cases hc : x = c
 ·subst hc; simp [Lib.index, List.isPrefixOf]
 ·have hp : ([c] : List UInt8).isPrefixOf (x :: l) = false := by
   simp [List.isPrefixOf]
   exact fun h => hc h.symm
  conv => lhs; unfold Lib.index
  rw [hp, if_neg hc]
  rfl
theorem Ht : ∀ s : Str, match Bv s with | some p => Lib.index s [32] = (p.1.length : Int) ∧ s = p.1 ++ 32 :: p.2 | none => Lib.index s [32] = -1
 | [] => by simp [Bv, Lib.index]
 | x :: s => by
  have ih := Ht s
  rw [Bv, OL]
  by_cases e : x = 32
  ·subst e; simp
  ·rw [if_neg e, if_neg e]
   cases hc : Bv s with
   | none =>
    rw [hc] at ih
    simp only at ih
    simp [ih]
   | some p =>
    rw [hc] at ih
    obtain ⟨h1, h2⟩ := ih
    have : ¬ (Lib.index s [32] == -1) = true := by rw [h1]; simp
    rw [if_neg this]
    simp only [Option.map_some, List.length_cons, List.cons_append, h1]
    exact ⟨by omega, by rw [← h2]⟩
theorem Td (s : Str) : Lib.cut s [32] = match Bv s with | some p => (p.1, p.2, true) | none => (s, [], false) := by
 have h := Ht s
 unfold Lib.cut
 cases hc : Bv s with
 | none =>
  rw [hc] at h
  simp only at h
  rw [h]
  rfl
 | some p =>
  rw [hc] at h
  obtain ⟨h1, h2⟩ := h
  rw [h1, if_pos (by omega)]
  have e : ((p.1.length : Int)).toNat = p.1.length := by simp
  rw [e]
  conv => lhs; rw [h2]
  simp
theorem Lk (c : UInt8) : ∀ s : Str, decide (0 ≤ Lib.indexByte s c) = decide (c ∈ s)
 | [] => by simp [Lib.indexByte]
 | x :: s => by
  have ih := Lk c s
  rw [Lib.indexByte]
  by_cases e : x = c
  ·subst e; simp
  ·have hb : (x == c) = false := by simpa using e
   have hc : ¬ c = x := fun h => e h.symm
   rw [hb]
   simp only [Bool.false_eq_true, if_false, List.mem_cons, hc, false_or]
   have hg := Lib.indexByte_ge s c
   by_cases h : Lib.indexByte s c = -1
   ·rw [h] at ih ⊢
    simpa using ih
   ·rw [if_neg (by simpa using h)]
    have : (0 ≤ Lib.indexByte s c + 1) = (0 ≤ Lib.indexByte s c) := propext (by omega)
    rw [decide_eq_decide] at ih ⊢
    rw [this]; exact ih
set_option maxRecDepth 100000 in
theorem VD {w0 : World} {S : St} {s : Str} (hm : Ix w0) (hs : s.length < 4294967281) {Q : AV → St → Prop}
  (hq : Q (match Bv s with | some p => .tup [.str p.1, .str p.2, .bool true] | none => .tup [.str s, .str [], .bool false]) S) : AC w0 HP [.str s, .str [32]] S Q := by
 refine AW.of_below_tup Kh (by kernel_rfl) (by kernel_rfl) fun G w args' hr hl' ha => ?_
 obtain ⟨v, u, rfl⟩ : ∃ v u, args' = #[v, u] := by
  match args', hl' with
  | ⟨[v, u]⟩, _ => exact ⟨v, u, rfl⟩
 have h0' := ha 0 _ v rfl rfl
 have h1' := ha 1 _ u rfl rfl
 cases h0'
 cases h1'
 obtain ⟨m, hm⟩ := hm
 refine (Any.strings_Cut Tryd.lays145 ⟨s.toArray⟩ ⟨#[32]⟩ m w (by simpa [ByteArray.size] using hs) (Gv hr hm)).mono ?_
 rintro e w' ⟨rfl, n, rfl⟩
 have hce : Lib.cut (⟨s.toArray⟩ : ByteArray).data.toList (⟨#[32]⟩ : ByteArray).data.toList = match Bv s with | some p => (p.1, p.2, true) | none => (s, [], false) := Td s
 rw [hce]
 have hb : Below w.heap.size w (w.drewN n) := ⟨rfl, rfl, rfl, Nat.le_refl _, fun _ _ => rfl⟩
 cases hc : Bv s with
 | none =>
  rw [hc] at hq
  refine ⟨_, [.str s, .str [], .bool false], rfl, hb, .tup _ _ rfl ?_, by simp [AV.cell1, AV.free1, AV.own], hq⟩
  intro i x v hx hv
  match i, hx, hv with
  | 0, hx, hv => cases hx; cases hv; exact .str s
  | 1, hx, hv => cases hx; cases hv; exact .str []
  | 2, hx, hv => cases hx; cases hv; exact .bool false
 | some p =>
  rw [hc] at hq
  refine ⟨_, [.str p.1, .str p.2, .bool true], rfl, hb, .tup _ _ rfl ?_, by simp [AV.cell1, AV.free1, AV.own], hq⟩
  intro i x v hx hv
  match i, hx, hv with
  | 0, hx, hv => cases hx; cases hv; exact .str p.1
  | 1, hx, hv => cases hx; cases hv; exact .str p.2
  | 2, hx, hv => cases hx; cases hv; exact .bool true
theorem Ob {w0 : World} {S : St} {s : Str} {c : UInt8} {Q : AV → St → Prop} (hq : Q (.bool (decide (c ∈ s))) S) : AC w0 Ej [.str s, .str [c]] S Q := by
 refine AW.of_below HL (by kernel_rfl) (by kernel_rfl) fun G w args' hl' ha => ?_
 obtain ⟨v, u, rfl⟩ : ∃ v u, args' = #[v, u] := by
  match args', hl' with
  | ⟨[v, u]⟩, _ => exact ⟨v, u, rfl⟩
 have h0' := ha 0 _ v rfl rfl
 have h1' := ha 1 _ u rfl rfl
 cases h0'
 cases h1'
 refine (Any.strings_Contains_one Tryd.lays144 ⟨s.toArray⟩ c w).mono ?_
 rintro e w' ⟨rfl, rfl⟩
 have he : decide (0 ≤ Lib.indexByte (⟨s.toArray⟩ : ByteArray).data.toList c) = decide (c ∈ s) := Lk c s
 rw [he]
 exact ⟨_, .bool (decide (c ∈ s)), rfl, Below.refl _ _, .bool _, rfl, hq⟩
theorem JA {w0 : World} {S : St} {s : Str} {c : UInt8} {Q : AV → St → Prop} (hq : Q (.int .i64 (Lib.indexByte s c)) S) : AC w0 Cq [.str s, .int .u8 c.toNat] S Q := by
 refine AW.of_below Gt (by kernel_rfl) (by kernel_rfl) fun G w args' hl' ha => ?_
 obtain ⟨v, u, rfl⟩ : ∃ v u, args' = #[v, u] := by
  match args', hl' with
  | ⟨[v, u]⟩, _ => exact ⟨v, u, rfl⟩
 have h0' := ha 0 _ v rfl rfl
 have h1' := ha 1 _ u rfl rfl
 cases h0'
 cases h1'
 refine (Any.strings_IndexByte Tryd.lays137 ⟨s.toArray⟩ (c.toNat : Int) w).mono ?_
 rintro e w' ⟨rfl, rfl⟩
 have hc : (c.toNat : Int).toNat.toUInt8 = c := by simp
 have he : Lib.indexByte (⟨s.toArray⟩ : ByteArray).data.toList (c.toNat : Int).toNat.toUInt8 = Lib.indexByte s c := by rw [hc]
 rw [he]
 exact ⟨_, .int .i64 (Lib.indexByte s c), rfl, Below.refl _ _, .int _ _, rfl, hq⟩
set_option maxRecDepth 100000
open Go.Proofs
theorem hexd {d : Nat} (h : d < 16) : ([48, 49, 50, 51, 52, 53, 54, 55, 56, 57, 97, 98, 99, 100, 101, 102] : Str)[d]? = some (Hk d) := by
 have : ∀ d, d < 16 → ([48, 49, 50, 51, 52, 53, 54, 55, 56, 57, 97, 98, 99, 100, 101, 102] : Str)[d]? = some (Hk d) := by decide
 exact this d h
theorem Vi {n : Nat} : AF .shr (.int .u8 (n : Int)) (.int .u64 4) = some (.int .u8 ((n / 16 : Nat) : Int)) := by
 simp only [AF]
 rw [if_neg (by omega)]
 simp only [IntKind.bits]
 have h5 : (2 : Int) ^ (min (Int.toNat 4) 8) = ((16 : Nat) : Int) := rfl
 rw [h5, Int.fdiv_eq_ediv_of_nonneg _ (Int.natCast_nonneg _)]
 rfl
theorem FO {n : Nat} (h : n < 256) : IntKind.u8.wrap (n : Int) = (n : Int) := by
 simp [IntKind.wrap, IntKind.bits, IntKind.signed]
 omega
theorem Un {n : Nat} (h : n < 256) : AF .and (.int .u8 (n : Int)) (.int .u8 15) = some (.int .u8 ((n % 16 : Nat) : Int)) := by
 simp only [AF, if_true, Co]
 have e : ∀ n : Nat, n < 256 → (BitVec.ofInt 8 (n : Int) &&& BitVec.ofInt 8 15).toNat = n % 16 := by decide +kernel
 show some (AV.int .u8 (IntKind.u8.wrap (((BitVec.ofInt 8 (n : Int) &&& BitVec.ofInt 8 15).toNat : Nat) : Int))) = _
 rw [e n h, FO (by omega)]
theorem Uk (c : UInt8) : Cw (.str [48, 49, 50, 51, 52, 53, 54, 55, 56, 57, 97, 98, 99, 100, 101, 102]) (.int .u8 ((c.toNat : Int) / 16)) = some (.int .u8 ((Hk (c.toNat / 16)).toNat : Int)) := by
 have hlt := c.toNat_lt
 rw [show (c.toNat : Int) / 16 = ((c.toNat / 16 : Nat) : Int) by omega, FZ, hexd (by omega)]
 rfl
theorem U4 (c : UInt8) : Cw (.str [48, 49, 50, 51, 52, 53, 54, 55, 56, 57, 97, 98, 99, 100, 101, 102]) (.int .u8 ((c.toNat : Int) % 16)) = some (.int .u8 ((Hk (c.toNat % 16)).toNat : Int)) := by
 have hlt := c.toNat_lt
 rw [show (c.toNat : Int) % 16 = ((c.toNat % 16 : Nat) : Int) by omega, FZ, hexd (by omega)]
 rfl
theorem Iy (s : Str) (c : UInt8) : DU (s ++ [c]) = DU s ++ [Hk (c.toNat / 16), Hk (c.toNat % 16)] := by
 induction s with
 | nil => rfl
 | cons x s ih => rw [List.cons_append, DU, ih]; rfl
set_option maxRecDepth 100000 in
theorem KV {w0 : World} {S : St} {s : Str} (hs : s.length ≤ 100000000) {Q : AV → St → Prop} (hq : ∀ S', Sx S S' → Q (.str (C4 s)) S') : AC w0 Fw [.str s] S Q := by
 apply NI
 unfold Hc
 unfold C4 at hq
 by_cases h : s = []
 ·subst h
  simpa using hq S (Sx.refl _)
 rw [if_neg h] at hq
 have hb : (s == []) = false := by simpa using h
 simp [hb, h]
 rw [AJ]
 refine A1 s (fun i (_ : Unit) => ([.int .i64 i], [])) (fun i _ S' => Sx S S' ∧ Bld S' S.length (DU (s.take i))) () rfl ⟨.app _ _, by simpa [DU] using RP S⟩ ?_ ?_
 ·rintro i _ S' v b c hi hxi hd hcc hmem ⟨hSx, hB⟩ hv
  simp at hv
  have hlt := c.toNat_lt
  have hfl := FM (s.take i)
  have htl : (s.take i).length ≤ s.length := by simp; omega
  simp [hv, hcc, hxi]
  rw [Vi]
  simp [Uk]
  refine EH hB (by unfold lim; omega) (fun S2 h1 h2 h3 => ?_)
  rw [Un hlt]
  simp [U4]
  refine EH h3 (by unfold lim; simp; omega) (fun S3 k1 k2 k3 => ?_)
  try simp (disch := omega) only [wrap64]
  refine .next hi () rfl ⟨fun j hj => ?_, ?_⟩
  ·rw [k2 j (by omega), h2 j (by omega), hSx j hj]
  ·have e : s.take (i + 1) = s.take i ++ [c] := by rw [List.take_succ, hxi]; rfl
   rw [e, Iy]
   simpa using k3
 ·rintro _ S' v b ⟨hSx, hB⟩ hv N
  simp at hv
  rw [List.take_length] at hB
  have hfl := FM s
  simp [hv]
  refine Io hB (by unfold lim; omega) (fun S3 h4 h5 => ?_)
  exact hq _ fun j hj => by
   have := hB.lt
   rw [h5 j (by omega), hSx j hj]
set_option maxRecDepth 100000
open Go.Proofs
theorem HR {w0 : World} {S : St} {d : Nat} (hd : d < 16) {Q : AV → St → Prop} (hq : Q (.int .u8 ((Hk d).toNat : Int)) S) : AC w0 Dx [.int .i64 d] S Q := by
 apply KM
 unfold FB
 rw [EU hd] at hq
 by_cases h : d < 10
 ·have hc : (d : Int) < 10 := by omega
  rw [if_pos h] at hq
  have e : IntKind.u8.wrap (IntKind.i64.wrap (48 + (d : Int))) = ((48 + d : Nat) : Int) := by
   rw [wrap64 (by omega) (by omega), show (48 + (d : Int)) = ((48 + d : Nat) : Int) by omega, FO (by omega)]
  rw [e]
  simp [hc]
  simpa using hq
 ·have hc : ¬ (d : Int) < 10 := by omega
  rw [if_neg h] at hq
  have e : IntKind.u8.wrap (IntKind.i64.wrap (IntKind.i64.wrap (97 + (d : Int)) - 10)) = ((87 + d : Nat) : Int) := by
   rw [wrap64 (n := 97 + (d : Int)) (by omega) (by omega), wrap64 (by omega) (by omega), show (97 + (d : Int) - 10) = ((87 + d : Nat) : Int) by omega, FO (by omega)]
  rw [e]
  simp [hc]
  simpa using hq
theorem HY (l : Str) : bytesOf (byteCells l) = some l := by
 induction l with
 | nil => rfl
 | cons x l ih =>
  simp only [byteCells, List.map_cons] at ih ⊢
  simp only [bytesOf, ih]
  simp
set_option maxRecDepth 100000 in
theorem JB {w0 : World} {S : St} {s : Str} (hs : s.length ≤ 100000000) {Q : AV → St → Prop} (hq : Q (.str (C4 s)) S) : AC w0 E4 [.str s] S Q := by
 apply M1
 unfold GY
 unfold C4 at hq
 by_cases h : s = []
 ·subst h
  simpa using hq
 rw [if_neg h] at hq
 have hb : (s == []) = false := by simpa using h
 simp [hb, h]
 rw [AJ]
 refine A1 s (fun i (r : Rt) => ([.vs 1 (byteCells (DU (s.take i))) r, .int .i64 i], [])) (fun i r S' => S' = S ∧ r ≠ .none) .full (by simp [DU, byteCells]) ⟨rfl, by simp⟩ ?_ ?_
 ·rintro i r S' v b c hi hxi hd hcc hmem ⟨rfl, hr⟩ hv
  simp at hv
  have hlt := c.toNat_lt
  have hfl := FM (s.take i)
  have htl : (s.take i).length ≤ s.length := by simp; omega
  have e1 : AF .quo (.int .i64 (c.toNat : Int)) (.int .i64 16) = some (.int .i64 ((c.toNat / 16 : Nat) : Int)) := by
   simp [AF, Co]
   exact wrap64 (by omega) (by omega)
  have e2 : AF .rem (.int .i64 (c.toNat : Int)) (.int .i64 16) = some (.int .i64 ((c.toNat % 16 : Nat) : Int)) := by
   simp [AF, Co]
   exact Int.tmod_eq_emod_of_nonneg (by omega)
  have e0 : IntKind.i64.wrap (c.toNat : Int) = (c.toNat : Int) := wrap64 (by omega) (by omega)
  simp only [hv, hcc, hxi]
  simp [hv, hcc, hxi, e0]
  rw [e1, e2]
  obtain ⟨d1, hd1⟩ : ∃ d1, d1 = c.toNat / 16 := ⟨_, rfl⟩
  obtain ⟨d2, hd2⟩ : ∃ d2, d2 = c.toNat % 16 := ⟨_, rfl⟩
  rw [← hd1, ← hd2]
  simp
  refine HR (by omega) ?_
  simp
  refine HR (by omega) ?_
  have hbl : (byteCells (DU (s.take i))).length = (DU (s.take i)).length := by simp [byteCells]
  have e : s.take (i + 1) = s.take i ++ [c] := by rw [List.take_succ, hxi]; rfl
  simp [Bl, BH, hr, hbl, show (DU (s.take i)).length + 2 ≤ lim by unfold lim; omega]
  try simp (disch := omega) only [wrap64]
  exact .next hi (.own (DE CN r)) (by rw [e, Iy, ← hd1, ← hd2]; simp [byteCells]) ⟨rfl, by simp⟩
 ·rintro r S' v b ⟨rfl, hr⟩ hv N
  simp at hv
  simp [hv, Ba, Ez, HY]
  exact hq
theorem MS : ∀ (k u : Nat), u < 10 ^ (k + 1) → (Lib.decDigits u).length ≤ k + 1
 | 0, u, h => by rw [D3, if_pos (by omega)]; simp
 | k + 1, u, h => by
  rw [D3]
  split
  ·simp
  ·rw [List.length_append, List.length_singleton]
   have := MS k (u / 10) (by rw [Nat.pow_succ] at h; omega)
   omega
theorem BP {n : Int} (h : Cj n) : (BT n).length ≤ 20 := by
 have h1 := MS 18 n.natAbs (by omega)
 have h2 := MS 18 n.toNat (by omega)
 simp only [BT, Lib.itoa]
 split <;> simp <;> omega
theorem Uh {n : Int} (h : n < 0) : UInt8.ofNat (IntKind.u8.wrap (IntKind.i64.wrap (48 - n.tmod 10))).toNat = Il ((-n).toNat % 10) := by
 have hm : n.tmod 10 = -(((-n).toNat % 10 : Nat) : Int) := by
  have h1 : n = -((-n).toNat : Int) := by omega
  conv => lhs; rw [h1]
  rw [Int.neg_tmod, Int.tmod_eq_emod_of_nonneg (by omega)]
  omega
 rw [hm, wrap64 (by omega) (by omega), show (48 - -(((-n).toNat % 10 : Nat) : Int)) = ((48 + (-n).toNat % 10 : Nat) : Int) by omega, FO (by omega)]
 rfl
theorem Ug {n : Int} (h : ¬ n < 0) : UInt8.ofNat (IntKind.u8.wrap (IntKind.i64.wrap (48 + n.tmod 10))).toNat = Il (n.toNat % 10) := by
 have hm : n.tmod 10 = ((n.toNat % 10 : Nat) : Int) := by
  rw [Int.tmod_eq_emod_of_nonneg (by omega)]
  omega
 rw [hm, wrap64 (by omega) (by omega), show (48 + ((n.toNat % 10 : Nat) : Int)) = ((48 + n.toNat % 10 : Nat) : Int) by omega, FO (by omega)]
 rfl
set_option maxRecDepth 100000 in
theorem Bo {w0 : World} : ∀ (k : Nat) {S : St} {n : Int} {Q : AV → St → Prop}, Cj n → n.natAbs < k → Q (.str (BT n)) S → AC w0 BJ [.int .i64 n] S Q := by
 intro k
 induction k with
 | zero => intro S n Q hn hk; omega
 | succ k ih =>
  intro S n Q hn hk hq
  apply Mc
  unfold GQ
  have hn' : Cj n := hn
  obtain ⟨hn1, hn2⟩ := hn
  by_cases h0 : n < 0
  ·simp [h0, Ba, Ez, bytesOf]
   rw [Uh h0]
   by_cases h1 : -10 < n
   ·rw [QK h1 h0] at hq
    simp [h1]
    rw [AE (by simp)]
    have e : (-n).toNat % 10 = (-n).toNat := by omega
    rw [e]
    exact hq
   ·rw [QI (by omega)] at hq
    have hd : n.tdiv 10 = -(((-n).toNat / 10 : Nat) : Int) := by
     have h2 : n = -((-n).toNat : Int) := by omega
     conv => lhs; rw [h2]
     rw [Int.neg_tdiv, Int.tdiv_eq_ediv_of_nonneg (by omega)]
     simp
    have hr : Cj (n.tdiv 10) := ⟨by omega, by omega⟩
    have hl := BP hr
    simp [h1]
    rw [wrap64 hr.1 hr.2]
    refine ih hr (by omega) ?_
    rw [AE (by simp; omega)]
    exact hq
  ·simp [h0, Ba, Ez, bytesOf]
   rw [Ug h0]
   by_cases h1 : n < 10
   ·rw [GW (by omega) h1] at hq
    simp [h1]
    have e : n.toNat % 10 = n.toNat := by omega
    rw [e]
    exact hq
   ·rw [QT (by omega)] at hq
    have hd : n.tdiv 10 = ((n.toNat / 10 : Nat) : Int) := by rw [Int.tdiv_eq_ediv_of_nonneg (by omega)]; omega
    have hr : Cj (n.tdiv 10) := ⟨by omega, by omega⟩
    have hl := BP hr
    simp [h1]
    rw [wrap64 hr.1 hr.2]
    refine ih hr (by omega) ?_
    rw [AE (by simp; omega)]
    exact hq
set_option maxRecDepth 100000
open Go.Proofs
theorem O4 (c : UInt8) : Lib.indexByte [48, 49, 50, 51, 52, 53, 54, 55, 56, 57, 97, 98, 99, 100, 101, 102] c = match Hl c with | some d => (d : Int) | none => -1 := by
 have : ∀ n : Nat, n < 256 → Lib.indexByte [48, 49, 50, 51, 52, 53, 54, 55, 56, 57, 97, 98, 99, 100, 101, 102] (UInt8.ofNat n) = match Hl (UInt8.ofNat n) with | some d => (d : Int) | none => -1 := by decide +kernel
 have h := this c.toNat c.toNat_lt
 rwa [UInt8.ofNat_toNat] at h
theorem Uz {x y : Nat} (hx : x < 16) (hy : y < 16) : (AF .shl (.int .i64 (x : Int)) (.int .u64 4)).bind (fun t => AF .or t (.int .i64 (y : Int))) = some (.int .i64 ((x * 16 + y : Nat) : Int)) := by
 have h1 : AF .shl (.int .i64 (x : Int)) (.int .u64 4) = some (.int .i64 ((x * 16 : Nat) : Int)) := by
  simp only [AF]
  rw [if_neg (by omega)]
  simp only [IntKind.bits]
  have : (x : Int) * 2 ^ (min (Int.toNat 4) 64) = ((x * 16 : Nat) : Int) := by
   rw [show (min (Int.toNat 4) 64) = 4 from rfl]; omega
  rw [this, wrap64 (by omega) (by omega)]
 rw [h1]
 simp only [Option.bind_some, AF, if_true, Co]
 have e : ∀ x : Nat, x < 16 → ∀ y : Nat, y < 16 → (BitVec.ofInt 64 ((x * 16 : Nat) : Int) ||| BitVec.ofInt 64 (y : Int)).toNat = x * 16 + y := by decide +kernel
 show some (AV.int .i64 (IntKind.i64.wrap (((BitVec.ofInt 64 ((x * 16 : Nat) : Int) ||| BitVec.ofInt 64 (y : Int)).toNat : Nat) : Int))) = _
 rw [e x hx y hy, wrap64 (by omega) (by omega)]
theorem Ux {x : Nat} (hx : x < 16) : AF .shl (.int .i64 (x : Int)) (.int .u64 4) = some (.int .i64 ((x * 16 : Nat) : Int)) := by
 simp only [AF]
 rw [if_neg (by omega)]
 simp only [IntKind.bits]
 have : (x : Int) * 2 ^ (min (Int.toNat 4) 64) = ((x * 16 : Nat) : Int) := by
  rw [show (min (Int.toNat 4) 64) = 4 from rfl]; omega
 rw [this, wrap64 (by omega) (by omega)]
theorem or4 {x y : Nat} (hx : x < 16) (hy : y < 16) : AF .or (.int .i64 ((x * 16 : Nat) : Int)) (.int .i64 (y : Int)) = some (.int .i64 ((x * 16 + y : Nat) : Int)) := by
 have := Uz hx hy
 rw [Ux hx] at this
 exact this
theorem MG : ∀ (out : Str) (t : Str), unhex (DU out ++ t) = (unhex t).map (out ++ ·)
 | [], t => by simp [DU]
 | b :: l, t => by
  have hb := b.toNat_lt
  rw [DU, List.cons_append, List.cons_append, unhex, Gz (by omega), Gz (by omega), MG l t]
  simp only [Option.map_map]
  congr 1
  funext x
  simp only [Function.comp_apply, List.cons_append]
  congr 1
  apply UInt8.toNat_inj.1
  rw [UInt8.toNat_ofNat']
  omega
set_option maxRecDepth 100000 in
theorem Ie {w0 : World} {S : St} {s : Str} (hs : s.length ≤ 100000000) {Q : AV → St → Prop} (hq : ∀ c, (∀ x, Ds s = some x → c = x) → Q (.tup [.str c, .bool (Ds s).isSome]) S) : AC w0 EI [.str s] S Q := by
 apply LQ
 unfold Fx
 unfold Ds at hq
 by_cases h : s = [45]
 ·subst h
  have := hq [] (by simp)
  simpa using this
 rw [if_neg h] at hq
 have hb : (s == [45]) = false := by simpa using h
 have ht : ((s.length : Int).tdiv 2) = ((s.length / 2 : Nat) : Int) := by rw [Int.tdiv_eq_ediv_of_nonneg (by omega)]; omega
 have hw : IntKind.i64.wrap ((s.length : Int).tdiv 2) = ((s.length / 2 : Nat) : Int) := by rw [ht, wrap64 (by omega) (by omega)]
 have hlim : ((s.length / 2 : Nat) : Int) ≤ (lim : Nat) := by unfold lim; omega
 rw [hw]
 have hmk : DA CN false S (.int .i64 0) (.int .i64 ((s.length / 2 : Nat) : Int)) = some (.vs 1 [] (.own HD), S) := by
  simp only [DA]
  rw [if_pos (by omega)]
  rfl
 rw [hmk]
 simp [hb]
 rw [AJ]
 refine K8 (fun σ : Str × Rt => ([.vs 1 (byteCells σ.1) σ.2, .int .i64 ((2 * σ.1.length : Nat) : Int)], [])) (fun k σ S2 => S2 = S ∧ σ.2 ≠ .none ∧ (∃ t, s = DU σ.1 ++ t) ∧ k = s.length - σ.1.length) s.length ([], .own HD) (by simp [byteCells]) ⟨rfl, by simp, ⟨s, by simp [DU]⟩, by simp⟩ ?_
 rintro k ⟨out, r⟩ S2 v b ⟨rfl, hr, ⟨t, ht⟩, hk⟩ hv
 simp at hv hr hk ht
 obtain ⟨hv1, hv2⟩ := hv
 have hfl := FM out
 have hsl : s.length = 2 * out.length + t.length := by rw [ht, List.length_append, hfl]
 have hw1 : IntKind.i64.wrap (2 * (out.length : Int) + 1) = 2 * (out.length : Int) + 1 := wrap64 (by omega) (by omega)
 have hw2 : IntKind.i64.wrap (2 * (out.length : Int) + 2) = 2 * (out.length : Int) + 2 := wrap64 (by omega) (by omega)
 simp [hv1, hv2, hw1, hw2]
 have hun : unhex s = (unhex t).map (out ++ ·) := by rw [ht, MG]
 match t, ht, hsl, hun with
 | [], ht, hsl, hun =>
  have hlt : ¬ (2 * (out.length : Int) + 1 < s.length) := by simp at hsl; omega
  have hm : ((s.length : Int).tmod 2) = 0 := by rw [Int.tmod_eq_emod_of_nonneg (by omega)]; simp at hsl; omega
  simp [hlt, Ba, Ez, HY, hm]
  have := hq out (fun x hx => by
   split at hx
   ·cases hx
   ·rw [hun] at hx; simpa [unhex] using hx)
  by_cases h0 : s = []
  ·simp [h0] at this ⊢
   exact this
  ·have hem : s.isEmpty = false := by cases s with | nil => exact absurd rfl h0 | cons _ _ => rfl
   simp [h0, hun, unhex] at this
   rw [hem]
   exact this
 | [a], ht, hsl, hun =>
  have hlt : ¬ (2 * (out.length : Int) + 1 < s.length) := by simp at hsl; omega
  have hm : ¬ ((s.length : Int).tmod 2) = 0 := by rw [Int.tmod_eq_emod_of_nonneg (by omega)]; simp at hsl; omega
  simp [hlt, Ba, Ez, HY, hm]
  have := hq out (fun x hx => by
   split at hx
   ·cases hx
   ·rw [hun] at hx; simp [unhex] at hx)
  by_cases h0 : s = []
  ·simp [h0] at this ⊢
   exact this
  ·simp [h0, hun, unhex] at this ⊢
   exact this
 | a :: b :: t', ht, hsl, hun =>
  have hs0 : s ≠ [] := by rw [ht]; simp
  rw [if_neg hs0] at hq
  have hlt : 2 * (out.length : Int) + 1 < s.length := by simp at hsl; omega
  have ga : s[2 * out.length]? = some a := by rw [ht, List.getElem?_append_right (by omega), hfl]; simp
  have gb : s[2 * out.length + 1]? = some b := by rw [ht, List.getElem?_append_right (by omega), hfl]; simp
  have ca : Cw (.str s) (.int .i64 (2 * (out.length : Int))) = some (.int .u8 a.toNat) := by
   rw [show 2 * (out.length : Int) = ((2 * out.length : Nat) : Int) by omega, FZ, ga]; rfl
  have cb : Cw (.str s) (.int .i64 (2 * (out.length : Int) + 1)) = some (.int .u8 b.toNat) := by
   rw [show 2 * (out.length : Int) + 1 = ((2 * out.length + 1 : Nat) : Int) by omega, FZ, gb]; rfl
  simp [hlt, ca, cb]
  refine JA ?_
  refine JA ?_
  rw [O4, O4]
  have hbad : (Hl a = none ∨ Hl b = none) → Q (.tup [.str [], .bool false]) S2 := fun hc => by
   have hn : unhex s = none := by
    rw [hun, unhex]
    rcases hc with hc | hc
    ·rw [hc]; rfl
    ·rw [hc]; cases Hl a <;> rfl
   have := hq [] (fun x hx => by rw [hn] at hx; cases hx)
   rw [hn] at this
   exact this
  cases ha : Hl a with
  | none =>
   simp [AJ]
   exact hbad (.inl ha)
  | some x =>
   cases hbv : Hl b with
   | none =>
    have : ¬ (x : Int) < 0 := by omega
    simp [AJ, this]
    exact hbad (.inr hbv)
   | some y =>
    obtain ⟨hx, hxa⟩ := HB ha
    obtain ⟨hy, hyb⟩ := HB hbv
    have n1 : ¬ (x : Int) < 0 := by omega
    have n2 : ¬ (y : Int) < 0 := by omega
    have hu := FO (n := x * 16 + y) (by omega)
    have hbl : (byteCells out).length = out.length := by simp [byteCells]
    simp [AJ, n1, n2]
    rw [Ux hx]
    rw [C5, or4 hx hy]
    simp [hu]
    simp [Bl, BH, hr, hbl, show out.length + 1 ≤ lim by unfold lim; omega]
    refine ⟨s.length - (out.length + 1), (out ++ [UInt8.ofNat (x * 16 + y)], .own (DE CN r)), by simp at hsl; omega, ?_, rfl, by simp, ⟨t', ?_⟩, by simp⟩
    ·have e : (UInt8.ofNat (x * 16 + y)).toNat = x * 16 + y := by rw [UInt8.toNat_ofNat']; omega
     have hu2 : IntKind.u8.wrap ((x : Int) * 16 + y) = ((UInt8.ofNat (x * 16 + y)).toNat : Int) := by rw [e]; simpa using hu
     simp [byteCells, hu2]
     omega
    ·have e : (UInt8.ofNat (x * 16 + y)).toNat = x * 16 + y := by rw [UInt8.toNat_ofNat']; omega
     rw [ht, Iy, e, show (x * 16 + y) / 16 = x by omega, show (x * 16 + y) % 16 = y by omega, ← hxa, ← hyb]
     simp
end Go.Av
