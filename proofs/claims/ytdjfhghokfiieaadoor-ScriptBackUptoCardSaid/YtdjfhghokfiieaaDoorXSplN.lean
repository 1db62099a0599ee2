/- Parts of the proofs of this seat: abstract values over the model, and what the functions of the program do. No condition. -/
import Derived.Test.YtdjfhghokfiieaaDoorXCut
import Derived.Test.YtdjfhghokfiieaaDoorA39b
import Derived.Test.YtdjfhghokfiieaaDoorY19c
import Derived.Test.YtdjfhghokfiieaaDoorY19
set_option linter.all false
set_option maxRecDepth 100000
namespace Go.Proofs
open Go.Shelf Go.Av
shelf_lay Lays.n147 Nm 147 at Tryd as Tryd.lays147
end Go.Proofs
namespace Go.Av
open Go.Proofs Go.Shelf Go.RowKit
theorem KQ : ∀ (k : Nat) (s : Str), Lib.splitK [32] 0 k s = EF k s
 | 0, s => rfl
 | k + 1, s => by
  have h := Ht s
  rw [Lib.splitK, EF]
  cases hc : Bv s with
  | none =>
   rw [hc] at h
   simp only at h
   rw [h]
   rfl
  | some p =>
   rw [hc] at h
   obtain ⟨h1, h2⟩ := h
   have e : ¬ (Lib.index s [32] == -1) = true := by rw [h1]; simp
   rw [if_neg e, h1]
   have e2 : ((p.1.length : Int)).toNat = p.1.length := by simp
   rw [e2]
   have e3 : s.take (p.1.length + 0) = p.1 := by conv => lhs; rw [h2]; simp
   have e4 : s.drop (p.1.length + [(32 : UInt8)].length) = p.2 := by
    conv => lhs; rw [h2]
    simp
   rw [e3, e4, KQ k p.2]
set_option maxRecDepth 100000 in
theorem Ns {w0 : World} {S : St} {s : Str} {n : Nat} (hm : Ix w0) (hs : s.length < 4294967281) (hn : 1 ≤ n) (hn2 : n ≤ 1000000) {Q : AV → St → Prop} (hq : Q (.vs 1 ((EF (n - 1) s).map fun s => [.str s]) .none) S) :
  AC w0 FS [.str s, .str [32], .int .i64 n] S Q := by
 refine AW.of_strsC IM (by kernel_rfl) (by kernel_rfl) fun G w args' hr hl' ha => ?_
 obtain ⟨v, u, t, rfl⟩ : ∃ v u t, args' = #[v, u, t] := by
  match args', hl' with
  | ⟨[v, u, t]⟩, _ => exact ⟨v, u, t, rfl⟩
 have h0' := ha 0 _ v rfl rfl
 have h1' := ha 1 _ u rfl rfl
 have h2' := ha 2 _ t rfl rfl
 cases h0'
 cases h1'
 cases h2'
 obtain ⟨m, hm⟩ := hm
 refine (Any.strings_SplitN Tryd.lays147 (by kernel_rfl) ⟨s.toArray⟩ ⟨#[32]⟩ n m w (by simpa [ByteArray.size] using hs) (Gv hr hm) (by decide) hn (by omega)).mono ?_
 rintro e w' ⟨rfl, rfl⟩
 have hsz : (⟨s.toArray⟩ : ByteArray).size = s.length := by simp [ByteArray.size]
 rw [hsz]
 have hd : (Lib.splitB ⟨#[32]⟩ 0 (min n (s.length + 1) - 1) ⟨s.toArray⟩).map (·.data.toList) = EF (n - 1) s := by
  rw [Lib.splitB_data]
  show Lib.splitK [32] 0 _ s = _
  rw [KQ, QC n s hn]
 have hlen : (EF (n - 1) s).length = (Lib.splitB ⟨#[32]⟩ 0 (min n (s.length + 1) - 1) ⟨s.toArray⟩).length := by
  rw [← hd, List.length_map]
 have he : (Lib.splitB ⟨#[32]⟩ 0 (min n (s.length + 1) - 1) ⟨s.toArray⟩).map Value.string = (EF (n - 1) s).map fun s => Value.string ⟨s.toArray⟩ := by
  rw [← hd, List.map_map]
  rfl
 refine ⟨EF (n - 1) s, List.replicate (min n (s.length + 1) - (EF (n - 1) s).length) (Value.string ByteArray.empty), min n (s.length + 1), Tryd.lays147_ren.t 9, ?_, ?_, ?_, hq⟩
 ·rw [hlen]
  have := Lib.splitB_length_le ⟨#[32]⟩ 0 (min n (s.length + 1) - 1) ⟨s.toArray⟩
  omega
 ·rw [hlen]
 ·rw [Lib.cellsOf, ← hlen, he]
set_option maxRecDepth 100000
open Go.Proofs
def nmA : List AV := [.str [], .str [108, 111, 111, 107, 117, 112], .str [115, 116, 97, 116], .str [114, 101, 97, 100, 108, 105, 110, 107], .str [114, 101, 97, 100], .str [111, 112, 101, 110], .str [112, 97, 103, 101], .str [99, 108, 111, 115, 101], .str [97, 100, 100], .str [114, 101, 109, 111, 118, 101]]
theorem IC {w0 : World} {S : St} {Q : AV → St → Prop} (hq : Q (.agg nmA) S) : AC w0 EN [] S Q := by
 apply La
 unfold Fg
 exact hq
theorem PH {k : Int} (h0 : 0 ≤ k) (h9 : k ≤ 9) : I2 10 AL (.agg nmA) (.int .i64 k) = some (.str (A7 k)) := by
 have : k = 0 ∨ k = 1 ∨ k = 2 ∨ k = 3 ∨ k = 4 ∨ k = 5 ∨ k = 6 ∨ k = 7 ∨ k = 8 ∨ k = 9 := by omega
 rcases this with rfl | rfl | rfl | rfl | rfl | rfl | rfl | rfl | rfl | rfl <;> rfl
theorem Mm {w0 : World} {S : St} {k : Int} (h1 : 1 ≤ k) (h9 : k ≤ 9) {Q : AV → St → Prop} (hq : Q (.str (A7 k)) S) : AC w0 Fz [.int .i64 k] S Q := by
 apply LG
 unfold Fi
 have : k = 1 ∨ k = 2 ∨ k = 3 ∨ k = 4 ∨ k = 5 ∨ k = 6 ∨ k = 7 ∨ k = 8 ∨ k = 9 := by omega
 rcases this with rfl | rfl | rfl | rfl | rfl | rfl | rfl | rfl | rfl <;> exact hq
theorem I0 (k : Int) : (A7 k).length ≤ 8 := by
 unfold A7
 repeat' split
 all_goals decide
theorem FK (s : Str) : (C4 s).length ≤ 2 * s.length + 1 := by
 unfold C4
 split
 ·simp
 ·rw [FM]; omega
set_option maxRecDepth 100000 in
theorem Nz {w0 : World} (ht : Hx w0) {S : St} {o : OpN} (ho : o.ok) (hp : o.path.length ≤ 1048576) (hi : o.image.length ≤ 1048576) {Q : AV → St → Prop} (hq : ∀ S', Sx S S' → Q (.str (Aj o)) S') : AC w0 Gd [.agg o.c] S Q := by
 unfold OpN.c
 apply Mx
 unfold GJ
 unfold Aj at hq
 simp
 by_cases h1 : o.kind < 1
 ·rw [if_pos (.inl h1)] at hq
  simp [h1, AJ]
  exact hq S (Sx.refl _)
 by_cases h9 : 9 < o.kind
 ·rw [if_pos (.inr h9)] at hq
  simp [h1, h9, AJ]
  exact hq S (Sx.refl _)
 rw [if_neg (by omega)] at hq
 simp [h1, h9, AJ]
 refine IC ?_
 rw [PH (by omega) (by omega)]
 have hn := I0 o.kind
 simp
 rw [AE (by simp; omega)]
 simp
 have hl1 := BP ho.off
 have hl2 := BP ho.n
 have hl3 := BP ho.id
 generalize A7 o.kind = nm at hn hq ⊢
 by_cases k4 : o.kind = 4
 ·rw [if_pos k4] at hq
  simp [k4]
  refine GL ht ho.off ?_
  rw [AE (by simp; omega)]
  simp
  rw [AE (by simp; omega)]
  simp
  refine GL ht ho.n ?_
  rw [AE (by simp; omega)]
  simp
  rw [AE (by simp; omega)]
  simp
  rw [AE (by simp; omega)]
  simp
  exact hq S (Sx.refl _)
 rw [if_neg k4] at hq
 by_cases k6 : o.kind = 6
 ·rw [if_pos k6] at hq
  simp [k6]
  refine GL ht ho.id ?_
  rw [AE (by simp; omega)]
  simp
  rw [AE (by simp; omega)]
  simp
  refine GL ht ho.n ?_
  rw [AE (by simp; omega)]
  simp
  exact hq S (Sx.refl _)
 rw [if_neg k6] at hq
 by_cases k7 : o.kind = 7
 ·rw [if_pos (.inl k7)] at hq
  simp [k7]
  refine GL ht ho.id ?_
  rw [AE (by simp; omega)]
  simp
  exact hq S (Sx.refl _)
 by_cases k9 : o.kind = 9
 ·rw [if_pos (.inr k9)] at hq
  simp [k9]
  refine GL ht ho.id ?_
  rw [AE (by simp; omega)]
  simp
  exact hq S (Sx.refl _)
 rw [if_neg (by omega)] at hq
 by_cases k8 : o.kind = 8
 ·rw [if_pos k8] at hq
  simp [k8]
  have hhl := FK o.image
  refine KV (by omega) (fun S2 hS2 => ?_)
  rw [AE (by simp; omega)]
  simp
  exact hq S2 hS2
 rw [if_neg k8] at hq
 simp [k4, k6, k7, k9, k8]
 rw [AE (by simp; omega)]
 simp
 exact hq S (Sx.refl _)
set_option maxRecDepth 100000 in
theorem MK {w0 : World} {S : St} {o : OpN} (ho : o.ok) (hp : o.path.length ≤ 1048576) (hi : o.image.length ≤ 1048576) {Q : AV → St → Prop} (hq : Q (.str (Aj o)) S) : AC w0 F1 [.agg o.c] S Q := by
 unfold OpN.c
 apply LE
 unfold F2
 unfold Aj at hq
 simp
 by_cases h1 : o.kind < 1
 ·rw [if_pos (.inl h1)] at hq
  simp [h1, AJ]
  exact hq
 by_cases h9 : 9 < o.kind
 ·rw [if_pos (.inr h9)] at hq
  simp [h1, h9, AJ]
  exact hq
 rw [if_neg (by omega)] at hq
 simp [h1, h9, AJ]
 refine Mm (by omega) (by omega) ?_
 have hn := I0 o.kind
 rw [AE (by simp; omega)]
 simp
 have hl1 := BP ho.off
 have hl2 := BP ho.n
 have hl3 := BP ho.id
 generalize A7 o.kind = nm at hn hq ⊢
 by_cases k4 : o.kind = 4
 ·rw [if_pos k4] at hq
  simp [k4]
  refine Bo _ ho.off (Nat.lt_succ_self _) ?_
  rw [AE (by simp; omega)]
  simp
  rw [AE (by simp; omega)]
  simp
  refine Bo _ ho.n (Nat.lt_succ_self _) ?_
  rw [AE (by simp; omega)]
  simp
  rw [AE (by simp; omega)]
  simp
  rw [AE (by simp; omega)]
  simp
  exact hq
 rw [if_neg k4] at hq
 by_cases k6 : o.kind = 6
 ·rw [if_pos k6] at hq
  simp [k6]
  refine Bo _ ho.id (Nat.lt_succ_self _) ?_
  rw [AE (by simp; omega)]
  simp
  rw [AE (by simp; omega)]
  simp
  refine Bo _ ho.n (Nat.lt_succ_self _) ?_
  rw [AE (by simp; omega)]
  simp
  exact hq
 rw [if_neg k6] at hq
 by_cases k7 : o.kind = 7
 ·rw [if_pos (.inl k7)] at hq
  simp [k7]
  refine Bo _ ho.id (Nat.lt_succ_self _) ?_
  rw [AE (by simp; omega)]
  simp
  exact hq
 by_cases k9 : o.kind = 9
 ·rw [if_pos (.inr k9)] at hq
  simp [k9]
  refine Bo _ ho.id (Nat.lt_succ_self _) ?_
  rw [AE (by simp; omega)]
  simp
  exact hq
 rw [if_neg (by omega)] at hq
 by_cases k8 : o.kind = 8
 ·rw [if_pos k8] at hq
  simp [k8]
  have hhl := FK o.image
  refine JB (by omega) ?_
  rw [AE (by simp; omega)]
  simp
  exact hq
 rw [if_neg k8] at hq
 simp [k4, k6, k7, k9, k8]
 rw [AE (by simp; omega)]
 simp
 exact hq
set_option maxRecDepth 100000
open Go.Proofs
theorem Kj : ∀ (k : Nat) (s : Str), ∀ w ∈ EF k s, w.length ≤ s.length
 | 0, s, w, h => by simp [EF] at h; subst h; exact Nat.le_refl _
 | k + 1, s, w, h => by
  rw [EF] at h
  cases hc : Bv s with
  | none => rw [hc] at h; simp at h; subst h; exact Nat.le_refl _
  | some p =>
   rw [hc] at h
   have hl := FV hc
   simp only [List.mem_cons] at h
   rcases h with rfl | h
   ·omega
   ·have := Kj k p.2 w h
    omega
def OE (x y : Int) (r : Rt) : AV := .vs 1 [[.int .i64 x], [.int .i64 y]] r
set_option maxRecDepth 100000 in
theorem GO {w0 : World} (hm : Ix w0) (ht : Hx w0) (he : AtL w0) {S : St} {s : Str} {rest : Bool} (hs : s.length ≤ 100000000) {Q : AV → St → Prop}
  (hq : match CA rest s with | some (x, y, p) => ∀ r : Rt, Q (.tup [OE x y r.strip, .str p, .bool true]) S | none => Q (.tup [.vs 1 [] .nil, .str [], .bool false]) S) : AC w0 DQ [.str s, .int .i64 2, .bool rest] S Q := by
 apply JX
 unfold Ek
 cases rest with
 | true =>
  rw [LR] at hq
  simp [AJ]
  try rw [show IntKind.i64.wrap (2 + 1) = ((3 : Nat) : Int) from by rw [wrap64 (by omega) (by omega)]; rfl]
  try rw [show IntKind.i64.wrap 3 = ((3 : Nat) : Int) from by rw [wrap64 (by omega) (by omega)]; rfl]
  refine Ns (n := 3) hm (by omega) (by omega) (by omega) ?_
  have hmem := Kj 2 s
  rw [show 3 - 1 = 2 from rfl]
  rcases hL : EF 2 s with _ | ⟨a, _ | ⟨b, _ | ⟨p, _ | ⟨q, l⟩⟩⟩⟩
  ·rw [hL] at hq
   simp
   exact hq
  ·rw [hL] at hq
   simp
   exact hq
  ·rw [hL] at hq
   simp
   exact hq
  ·rw [hL] at hq
   simp at hq
   simp [Bt, bnd]
   have hal : a.length ≤ 100000000 := by have := hmem a (by rw [hL]; simp); omega
   have hbl : b.length ≤ 100000000 := by have := hmem b (by rw [hL]; simp); omega
   have hbad : (numOf a = none ∨ numOf b = none) → Q (.tup [.vs 1 [] .nil, .str [], .bool false]) S := fun hc => by
    rcases hc with hc | hc
    ·rw [hc] at hq; exact hq
    ·rw [hc] at hq
     cases hn : numOf a with
     | none => rw [hn] at hq; exact hq
     | some x => rw [hn] at hq; exact hq
   rw [show ([[AV.str a], [AV.str b]] : List (List AV)) = ([a, b] : List Str).map Dj from rfl]
   refine A1 [a, b] (fun i (σ : List Int × Rt) => ([.vs 1 (σ.1.map fun n => [.int .i64 n]) σ.2, .int .i64 i], [])) (fun i σ S' => S' = S ∧ σ.2 ≠ .none ∧ ([a, b].take i).map numOf = σ.1.map some) ([], .nil) rfl ⟨rfl, by simp, rfl⟩ ?_ ?_
   ·rintro i ⟨ns, r⟩ S' v bx w hi hxi hd hcc hmem2 ⟨rfl, hr, hns⟩ hv
    simp at hv hr hns
    obtain ⟨hv1, hv2⟩ := hv
    have hwl : w.length ≤ 100000000 := by
     simp at hmem2
     rcases hmem2 with rfl | rfl <;> assumption
    have hnl : ns.length ≤ 2 := by
     have := congrArg List.length hns
     simp at this
     simp at hi
     omega
    have hrow : ([[AV.str a], [AV.str b]] : List (List AV))[i]? = some [AV.str w] := by
     have : (([a, b] : List Str).map Dj)[i]? = some (Dj w) := by rw [List.getElem?_map, hxi]; rfl
     exact this
    have hi2 : (i : Int) < 2 := by simp at hi; omega
    simp [hv1, hv2, hcc, hrow, hi2]
    refine Cx (s := w) ht he (by omega) ?_
    cases hw : numOf w with
    | none =>
     simp
     refine hbad ?_
     simp at hmem2
     rcases hmem2 with rfl | rfl
     ·exact .inl hw
     ·exact .inr hw
    | some n =>
     rw [FJ hw]
     simp [Bl, BH, hr, show ns.length + 1 ≤ lim by unfold lim; omega]
     try simp (disch := omega) only [wrap64]
     refine .next hi (ns ++ [n], .own (DE Af r)) (by simp) ⟨rfl, by simp, ?_⟩
     have hns2 : ([a, b].take i).map numOf = ns.map some := by rw [List.map_take]; exact hns
     have e2 : [numOf a, numOf b].take (i + 1) = ([a, b].take (i + 1)).map numOf := by rw [List.map_take]; rfl
     rw [e2, List.take_succ, hxi, List.map_append, hns2]
     simp [hw]
   ·rintro ⟨ns, r⟩ S' v bx ⟨rfl, hr, hns⟩ hv N
    simp at hv hns
    obtain ⟨hv1, hv2⟩ := hv
    obtain ⟨x, y, rfl⟩ : ∃ x y, ns = [x, y] := by
     match ns, hns with
     | [x, y], _ => exact ⟨x, y, rfl⟩
     | [], hns => simp at hns
     | [_], hns => simp at hns
     | _ :: _ :: _ :: _, hns => simp at hns
    simp at hns
    rw [hns.1, hns.2] at hq
    simp [hv1, hv2]
    simpa [OE] using hq r
  ·rw [hL] at hq
   have hne : ¬ ((l.length : Int) + 1 + 1 + 1 + 1 = 3) := by omega
   simp [hne]
   exact hq
 | false =>
  rw [Kn] at hq
  simp [AJ]
  try rw [show IntKind.i64.wrap (2 + 1) = ((3 : Nat) : Int) from by rw [wrap64 (by omega) (by omega)]; rfl]
  try rw [show IntKind.i64.wrap 3 = ((3 : Nat) : Int) from by rw [wrap64 (by omega) (by omega)]; rfl]
  refine Ns (n := 2) hm (by omega) (by omega) (by omega) ?_
  have hmem := Kj 1 s
  rw [show 2 - 1 = 1 from rfl]
  rcases hL : EF 1 s with _ | ⟨a, _ | ⟨b, _ | ⟨p, _ | ⟨q, l⟩⟩⟩⟩
  ·rw [hL] at hq
   simp
   exact hq
  ·rw [hL] at hq
   simp
   exact hq
  ·rw [hL] at hq
   simp at hq
   simp [Bt, bnd]
   have hal : a.length ≤ 100000000 := by have := hmem a (by rw [hL]; simp); omega
   have hbl : b.length ≤ 100000000 := by have := hmem b (by rw [hL]; simp); omega
   have hbad : (numOf a = none ∨ numOf b = none) → Q (.tup [.vs 1 [] .nil, .str [], .bool false]) S := fun hc => by
    rcases hc with hc | hc
    ·rw [hc] at hq; exact hq
    ·rw [hc] at hq
     cases hn : numOf a with
     | none => rw [hn] at hq; exact hq
     | some x => rw [hn] at hq; exact hq
   rw [show ([[AV.str a], [AV.str b]] : List (List AV)) = ([a, b] : List Str).map Dj from rfl]
   refine A1 [a, b] (fun i (σ : List Int × Rt) => ([.vs 1 (σ.1.map fun n => [.int .i64 n]) σ.2, .int .i64 i], [])) (fun i σ S' => S' = S ∧ σ.2 ≠ .none ∧ ([a, b].take i).map numOf = σ.1.map some) ([], .nil) rfl ⟨rfl, by simp, rfl⟩ ?_ ?_
   ·rintro i ⟨ns, r⟩ S' v bx w hi hxi hd hcc hmem2 ⟨rfl, hr, hns⟩ hv
    simp at hv hr hns
    obtain ⟨hv1, hv2⟩ := hv
    have hwl : w.length ≤ 100000000 := by
     simp at hmem2
     rcases hmem2 with rfl | rfl <;> assumption
    have hnl : ns.length ≤ 2 := by
     have := congrArg List.length hns
     simp at this
     simp at hi
     omega
    have hrow : ([[AV.str a], [AV.str b]] : List (List AV))[i]? = some [AV.str w] := by
     have : (([a, b] : List Str).map Dj)[i]? = some (Dj w) := by rw [List.getElem?_map, hxi]; rfl
     exact this
    have hi2 : (i : Int) < 2 := by simp at hi; omega
    simp [hv1, hv2, hcc, hrow, hi2]
    refine Cx (s := w) ht he (by omega) ?_
    cases hw : numOf w with
    | none =>
     simp
     refine hbad ?_
     simp at hmem2
     rcases hmem2 with rfl | rfl
     ·exact .inl hw
     ·exact .inr hw
    | some n =>
     rw [FJ hw]
     simp [Bl, BH, hr, show ns.length + 1 ≤ lim by unfold lim; omega]
     try simp (disch := omega) only [wrap64]
     refine .next hi (ns ++ [n], .own (DE Af r)) (by simp) ⟨rfl, by simp, ?_⟩
     have hns2 : ([a, b].take i).map numOf = ns.map some := by rw [List.map_take]; exact hns
     have e2 : [numOf a, numOf b].take (i + 1) = ([a, b].take (i + 1)).map numOf := by rw [List.map_take]; rfl
     rw [e2, List.take_succ, hxi, List.map_append, hns2]
     simp [hw]
   ·rintro ⟨ns, r⟩ S' v bx ⟨rfl, hr, hns⟩ hv N
    simp at hv hns
    obtain ⟨hv1, hv2⟩ := hv
    obtain ⟨x, y, rfl⟩ : ∃ x y, ns = [x, y] := by
     match ns, hns with
     | [x, y], _ => exact ⟨x, y, rfl⟩
     | [], hns => simp at hns
     | [_], hns => simp at hns
     | _ :: _ :: _ :: _, hns => simp at hns
    simp at hns
    rw [hns.1, hns.2] at hq
    simp [hv1, hv2]
    simpa [OE] using hq r
  ·rw [hL] at hq
   simp
   exact hq
  ·rw [hL] at hq
   have hne : ¬ ((l.length : Int) + 1 + 1 + 1 + 1 = 2) := by omega
   simp [hne]
   exact hq
set_option maxRecDepth 100000
open Go.Proofs
def kf (w : Str) : Nat → Int
 | 0 => 0
 | i + 1 => if 0 < i ∧ A7 i = w then i else kf w i
theorem TW (w : Str) : kf w 10 = kindOf w := by
 by_cases h1 : w = A7 1
 ·subst h1; decide
 by_cases h2 : w = A7 2
 ·subst h2; decide
 by_cases h3 : w = A7 3
 ·subst h3; decide
 by_cases h4 : w = A7 4
 ·subst h4; decide
 by_cases h5 : w = A7 5
 ·subst h5; decide
 by_cases h6 : w = A7 6
 ·subst h6; decide
 by_cases h7 : w = A7 7
 ·subst h7; decide
 by_cases h8 : w = A7 8
 ·subst h8; decide
 by_cases h9 : w = A7 9
 ·subst h9; decide
 have e : ∀ k : Int, ¬ w = A7 k → ¬ A7 k = w := fun k h h' => h h'.symm
 unfold kindOf
 rw [if_neg h1, if_neg h2, if_neg h3, if_neg h4, if_neg h5, if_neg h6, if_neg h7, if_neg h8, if_neg h9]
 simp only [kf]
 simp [e 1 h1, e 2 h2, e 3 h3, e 4 h4, e 5 h5, e 6 h6, e 7 h7, e 8 h8, e 9 h9]
def OR (line : Str) : AV := match DS line with | some o => .tup [.agg o.c, .bool true] | none => .tup [.agg OpN.zero.c, .bool false]
set_option maxRecDepth 100000 in
theorem Me {w0 : World} (hm : Ix w0) (ht : Hx w0) (he : AtL w0) {S : St} {line : Str} (hs : line.length ≤ 100000000) {Q : AV → St → Prop} (hq : Q (OR line) S) : AC w0 F8 [.str line] S Q := by
 apply LH
 unfold Fq
 unfold OR at hq
 rw [Lh] at hq
 refine VD hm (by omega) ?_
 cases hc : Bv line with
 | none =>
  rw [hc] at hq
  simp [AJ]
  exact hq
 | some wr =>
  obtain ⟨w, rest⟩ := wr
  rw [hc] at hq
  have hl := FV hc
  simp only at hq hl
  simp
  rw [AJ]
  refine Ob ?_
  by_cases h10 : 10 ∈ line
  ·rw [if_pos h10] at hq
   simp [h10]
   exact hq
  rw [if_neg h10] at hq
  simp [h10]
  rw [AJ]
  refine IC ?_
  refine K8 (fun i : Nat => ([.int .i64 i], [some [.int .i64 (kf w i), .str [], .int .i64 0, .int .i64 0, .int .i64 0, .str []]])) (fun k i S2 => S2 = S ∧ i ≤ 10 ∧ k = 10 - i) 10 0 rfl ⟨rfl, by omega, rfl⟩ ?_
  rintro k i S2 v b ⟨rfl, hi, hk⟩ hv
  simp at hv
  obtain ⟨hv1, hv2⟩ := hv
  by_cases h : i < 10
  ·have hi2 : (i : Int) < 10 := by omega
   simp [hv1, hv2, hi2]
   rw [AJ, PH (by omega) (by omega)]
   have hkf : kf w (i + 1) = if 0 < i ∧ A7 i = w then (i : Int) else kf w i := rfl
   by_cases h0 : 0 < i
   ·have h0' : (0 : Int) < i := by omega
    by_cases hn : A7 i = w
    ·rw [if_pos ⟨h0, hn⟩] at hkf
     simp [h0, h0', hn, AJ]
     try simp (disch := omega) only [wrap64]
     exact ⟨10 - (i + 1), i + 1, by omega, by simp [hkf], rfl, by omega, rfl⟩
    ·rw [if_neg (fun h => hn h.2)] at hkf
     simp [h0, h0', hn, AJ]
     try simp (disch := omega) only [wrap64]
     exact ⟨10 - (i + 1), i + 1, by omega, by simp [hkf], rfl, by omega, rfl⟩
   ·have h0' : ¬ (0 : Int) < i := by omega
    rw [if_neg (fun h => h0 h.1)] at hkf
    simp [h0, h0', AJ]
    try simp (disch := omega) only [wrap64]
    exact ⟨10 - (i + 1), i + 1, by omega, by simp [hkf], rfl, by omega, rfl⟩
  ·have e : i = 10 := by omega
   subst e
   simp [hv1, hv2]
   rw [TW]
   generalize hkd : kindOf w = kd at hq ⊢
   by_cases k0 : kd = 0
   ·rw [if_pos k0] at hq
    simp [k0, AJ]
    exact hq
   rw [if_neg k0] at hq
   by_cases k4 : kd = 4
   ·rw [if_pos k4] at hq
    simp [k4, AJ]
    refine GO hm ht he (by omega) ?_
    cases hn : CA true rest with
    | none =>
     rw [hn] at hq
     simp
     exact hq
    | some t =>
     obtain ⟨x, y, p⟩ := t
     rw [hn] at hq
     intro r
     simp [OE]
     exact hq
   rw [if_neg k4] at hq
   by_cases k6 : kd = 6
   ·rw [if_pos k6] at hq
    simp [k6, AJ]
    refine GO hm ht he (by omega) ?_
    cases hn : CA false rest with
    | none =>
     rw [hn] at hq
     simp
     exact hq
    | some t =>
     obtain ⟨x, y, p⟩ := t
     rw [hn] at hq
     intro r
     simp [OE]
     exact hq
   rw [if_neg k6] at hq
   by_cases k79 : kd = 7 ∨ kd = 9
   ·rw [if_pos k79] at hq
    rcases k79 with k7 | k9
    ·simp [k7, AJ]
     refine Cx ht he (by omega) ?_
     cases hn : numOf rest with
     | none => rw [hn] at hq; simp; exact hq
     | some x => rw [hn] at hq; rw [FJ hn]; simp; subst k7; exact hq
    ·simp [k9, AJ]
     refine Cx ht he (by omega) ?_
     cases hn : numOf rest with
     | none => rw [hn] at hq; simp; exact hq
     | some x => rw [hn] at hq; rw [FJ hn]; simp; subst k9; exact hq
   rw [if_neg k79] at hq
   have k7 : ¬ kd = 7 := fun h => k79 (.inl h)
   have k9 : ¬ kd = 9 := fun h => k79 (.inr h)
   by_cases k8 : kd = 8
   ·rw [if_pos k8] at hq
    simp [k8, AJ]
    refine Ie (by omega) (fun c hcx => ?_)
    cases hn : Ds rest with
    | none => rw [hn] at hq; simp; exact hq
    | some x => rw [hn] at hq; rw [hcx x hn]; simp; exact hq
   rw [if_neg k8] at hq
   simp [k0, k4, k6, k7, k9, k8, AJ]
   exact hq
set_option maxRecDepth 100000
open Go.Proofs
theorem Iw {o : OpN} (ho : o.ok) : (Aj o).length ≤ 100 + o.path.length + 2 * o.image.length := by
 have hl1 := BP ho.off
 have hl2 := BP ho.n
 have hl3 := BP ho.id
 have hn := I0 o.kind
 have hh := FK o.image
 unfold Aj
 split
 ·simp
 ·repeat' split
  all_goals simp only [List.length_append, List.length_cons]
  all_goals omega
set_option maxRecDepth 100000 in
theorem Ma {w0 : World} {S : St} {o : OpN} (hp : o.path.length ≤ 1048576) {Q : AV → St → Prop} (hq : Q (.bool (CD o)) S) : AC w0 Ft [.agg o.c] S Q := by
  unfold OpN.c
  apply LL
  unfold F6
  unfold CD at hq
  simp
  rw [AJ]
  refine K8 (fun i : Nat => ([.int .i64 i], [some o.c])) (fun k i S2 => S2 = S ∧ i ≤ o.path.length ∧ k = o.path.length - i ∧ 10 ∉ o.path.take i) o.path.length 0 (by simp [OpN.c]) ⟨rfl, by omega, by simp, by simp⟩ ?_
  rintro k i S2 v b ⟨rfl, hi, hk, hno⟩ hv
  simp at hv
  obtain ⟨hv1, hv2⟩ := hv
  have ho : o.c = [.int .i64 o.kind, .str o.path, .int .i64 o.off, .int .i64 o.n, .int .i64 o.id, .str o.image] := rfl
  by_cases h : i < o.path.length
  · have hi2 : (i : Int) < o.path.length := by omega
    obtain ⟨c, hc⟩ : ∃ c, o.path[i]? = some c := ⟨_, List.getElem?_eq_getElem h⟩
    simp [hv1, hv2, ho, hi2, hc]
    by_cases h10 : c = 10
    · subst h10
      have hm : 10 ∈ o.path := List.mem_of_getElem? hc
      simp [hm] at hq
      simp
      exact hq
    · have hcn : ¬ (c.toNat : Int) = 10 := fun e => h10 (UInt8.toNat_inj.1 (by have : c.toNat = 10 := by omega
                                                                               rw [this]; rfl))
      simp [hcn]
      try simp (disch := omega) only [wrap64]
      refine ⟨o.path.length - (i + 1), i + 1, by omega, by simp [ho], rfl, h, rfl, ?_⟩
      rw [List.take_succ, hc]
      simp [hno]
      exact fun e => h10 e.symm
  · have e : i = o.path.length := by omega
    subst e
    rw [List.take_length] at hno
    have hno' : decide (10 ∉ o.path) = true := by simpa using hno
    rw [hno'] at hq
    simp [hv1, hv2, ho]
    simp only [Bool.true_and] at hq
    by_cases k1 : o.kind = 1
    · simp [k1, AJ] at hq ⊢
      simpa [Bool.and_assoc] using hq
    by_cases k2 : o.kind = 2
    · simp [k2, AJ] at hq ⊢
      simpa [Bool.and_assoc] using hq
    by_cases k3 : o.kind = 3
    · simp [k3, AJ] at hq ⊢
      simpa [Bool.and_assoc] using hq
    by_cases k5 : o.kind = 5
    · simp [k5, AJ] at hq ⊢
      simpa [Bool.and_assoc] using hq
    by_cases k4 : o.kind = 4
    · simp [k4, AJ] at hq ⊢
      simpa [Bool.and_assoc] using hq
    by_cases k6 : o.kind = 6
    · simp [k6, AJ] at hq ⊢
      simpa [Bool.and_assoc] using hq
    by_cases k7 : o.kind = 7
    · simp [k7, AJ] at hq ⊢
      simpa [Bool.and_assoc] using hq
    by_cases k9 : o.kind = 9
    · simp [k9, AJ] at hq ⊢
      simpa [Bool.and_assoc] using hq
    by_cases k8 : o.kind = 8
    · simp [k8, AJ] at hq ⊢
      simpa [Bool.and_assoc] using hq
    simp [k1, k2, k3, k5, k4, k6, k7, k9, k8, AJ] at hq ⊢
    exact hq
set_option maxRecDepth 100000
open Go.Proofs
structure PP.ok (r : PP) : Prop where
 err : Cj r.err
 kind : Cj r.kind
 size : Cj r.size
 where_ : Cj r.where_
 id : Cj r.id
set_option maxRecDepth 100000
open Go.Proofs
theorem PG {w0 : World} {f : Nat} {args : List AV} (h : ∀ Q : AV → St → Prop, (∀ S, Q (.bool true) S) → AC w0 f args [] Q) : AC w0 f args [] fun r _ => r = .bool true := h _ (fun _ => rfl)
theorem MR {rest : Bool} {s : Str} {t : Int × Int × Str} (h : CA rest s = some t) : t.2.2.length ≤ s.length := by
 unfold CA at h
 cases hc : Bv s with
 | none => rw [hc] at h; cases h
 | some p =>
  obtain ⟨a, r2⟩ := p
  have hl := FV hc
  rw [hc] at h
  simp only at h hl
  split at h
  ·cases hc2 : Bv r2 with
   | none => rw [hc2] at h; cases h
   | some q =>
    obtain ⟨b, p⟩ := q
    have hl2 := FV hc2
    rw [hc2] at h
    simp only at h hl2
    cases hx : numOf a with
    | none => rw [hx] at h; cases h
    | some x =>
     cases hy : numOf b with
     | none => rw [hx, hy] at h; cases h
     | some y => rw [hx, hy] at h; cases h; simp only; omega
  ·cases hx : numOf a with
   | none => rw [hx] at h; cases h
   | some x =>
    cases hy : numOf r2 with
    | none => rw [hx, hy] at h; cases h
    | some y => rw [hx, hy] at h; cases h; simp
theorem PD (s : Str) : s.length ≤ (C4 s).length := by
 unfold C4
 split
 ·rename_i h; rw [h]; simp
 ·rw [FM]; omega
theorem Or {line : Str} {o : OpN} (h : DS line = some o) : o.path.length ≤ line.length ∧ o.image.length ≤ line.length := by
 rw [Lh] at h
 cases hc : Bv line with
 | none => rw [hc] at h; cases h
 | some wr =>
  obtain ⟨w, rest⟩ := wr
  have hl := FV hc
  rw [hc] at h
  simp only at h hl
  split at h
  ·cases h
  split at h
  ·cases h
  split at h
  ·obtain ⟨t, ht, rfl⟩ := Option.map_eq_some_iff.1 h
   have := MR ht
   exact ⟨by simp only; omega, by simp⟩
  split at h
  ·obtain ⟨t, ht, rfl⟩ := Option.map_eq_some_iff.1 h
   simp
  split at h
  ·obtain ⟨t, ht, rfl⟩ := Option.map_eq_some_iff.1 h
   simp
  split at h
  ·obtain ⟨t, ht, rfl⟩ := Option.map_eq_some_iff.1 h
   have h1 := Hi ht
   have h2 := PD t
   rw [← h1] at h2
   exact ⟨by simp, by simp only; omega⟩
  ·cases h
   exact ⟨by simp only; omega, by simp⟩
end Go.Av
