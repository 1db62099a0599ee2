/- Parts of the proofs of this seat: abstract values over the model, and what the functions of the program do. No condition. -/
import Derived.Test.YtdjfhghokfiieaaDoorXCut
import Derived.Test.YtdjfhghokfiieaaDoorY25
import Derived.Test.YtdjfhghokfiieaaDoorD1
import Derived.Test.YtdjfhghokfiieaaDoorXSplN
import Derived.Test.YtdjfhghokfiieaaDoorDRow
import Derived.Test.YtdjfhghokfiieaaDoorY19
import Derived.Test.YtdjfhghokfiieaaDoorXFrz
import Derived.Test.YtdjfhghokfiieaaDoorXJoin
set_option linter.all false
set_option maxRecDepth 100000
namespace Go.Av
open Go.Proofs Go.Shelf Go.RowKit
set_option maxRecDepth 100000 in
theorem KI {w0 : World} {S : St} {s : Str} {c : UInt8} (hm : Ix w0) (hs : s.length < 4294967281) {Q : AV → St → Prop} (hq : Q (.vs 1 ((Ac c s).map Dj) .full) S) :
  AC w0 Cy [.str s, .str [c]] S Q := by
 refine AW.of_strs Iq (by kernel_rfl) (by kernel_rfl) fun G w args' hr hl' ha => ?_
 obtain ⟨v, u, rfl⟩ : ∃ v u, args' = #[v, u] := by
  match args', hl' with
  | ⟨[v, u]⟩, _ => exact ⟨v, u, rfl⟩
 have h0' := ha 0 _ v rfl rfl
 have h1' := ha 1 _ u rfl rfl
 cases h0'
 cases h1'
 obtain ⟨m, hm⟩ := hm
 have hne : (⟨#[c]⟩ : ByteArray).size ≠ 0 := by simp [ByteArray.size]
 refine (Any.strings_Split Tryd.lays146 (by kernel_rfl) ⟨s.toArray⟩ ⟨#[c]⟩ m w (by simpa [ByteArray.size] using hs) (Gv hr hm) (by simp [ByteArray.size])).mono ?_
 rintro e w' ⟨rfl, rfl⟩
 have hd : (Lib.splitB ⟨#[c]⟩ 0 (Lib.countB ⟨s.toArray⟩ ⟨#[c]⟩) ⟨s.toArray⟩).map (·.data.toList) = Ac c s := by
  rw [Lib.splitB_data]
  exact Lo c s
 have hlen : (Ac c s).length = Lib.countB ⟨s.toArray⟩ ⟨#[c]⟩ + 1 := by
  rw [← hd, List.length_map]
  exact Lib.splitB_all ⟨#[c]⟩ (by simp [ByteArray.size]) 0 _ ⟨s.toArray⟩ rfl
 have he : (Lib.splitB ⟨#[c]⟩ 0 (Lib.countB ⟨s.toArray⟩ ⟨#[c]⟩) ⟨s.toArray⟩).map Value.string = (Ac c s).map fun s => Value.string ⟨s.toArray⟩ := by
  rw [← hd, List.map_map]
  rfl
 refine ⟨Ac c s, Tryd.lays146_ren.t 9, ?_, ?_, hq⟩
 ·rw [hlen]
 ·rw [he]
set_option maxRecDepth 100000
open Go.Proofs
def nC (n : Int) : List AV := [.int .i64 n]
set_option maxRecDepth 100000 in
theorem GX {w0 : World} (ht : Hx w0) (he : AtL w0) {S : St} {l : List Str} {r : Rt} (hl : l.length ≤ 1000000) (hs : ∀ s ∈ l, s.length ≤ 100000000) {Q : AV → St → Prop}
  (hq : match C8 l with | some ns => ∀ r : Rt, (r.strip = .nil → ns = []) → Q (.tup [.vs 1 (ns.map nC) r.strip, .bool true]) S | none => Q (.tup [.vs 1 [] .nil, .bool false]) S) : AC w0 DW [.vs 1 (l.map Dj) r] S Q := by
 apply JU
 unfold Ec
 rw [AJ]
 simp
 have hpre : ∀ (a : List Str) (ns : List Int), a.map numOf = ns.map some → C8 a = some ns := by
  intro a
  induction a with
  | nil => intro ns h; cases ns with | nil => rfl | cons _ _ => simp at h
  | cons w a ih =>
   intro ns h
   cases ns with
   | nil => simp at h
   | cons n ns =>
    simp at h
    rw [C8, h.1, ih ns h.2]
    rfl
 have hbad : ∀ (a : List Str) (w : Str), w ∈ a → numOf w = none → C8 a = none := by
  intro a
  induction a with
  | nil => intro w h; cases h
  | cons x a ih =>
   intro w h hw
   rw [C8]
   rcases List.mem_cons.1 h with rfl | h
   ·rw [hw]
   ·rw [ih w h hw]
    cases numOf x <;> rfl
 refine A1 l (fun i (σ : List Int × Rt) => ([.vs 1 (σ.1.map nC) σ.2, .int .i64 i], [])) (fun i σ S' => S' = S ∧ σ.2 ≠ .none ∧ (σ.2 = .nil → σ.1 = []) ∧ (l.take i).map numOf = σ.1.map some) ([], .nil) rfl ⟨rfl, by simp, by simp, rfl⟩ ?_ ?_
 ·rintro i ⟨ns, r⟩ S' v bx w hi hxi hd hcc hmem ⟨rfl, hr, hrn, hns⟩ hv
  simp at hv hr hrn
  simp only at hns
  obtain ⟨hv1, hv2⟩ := hv
  have hwl := hs w hmem
  have hnl : ns.length ≤ l.length := by
   have := congrArg List.length hns
   simp at this
   omega
  simp [hv1, hv2, hcc, hxi]
  refine Cx (s := w) ht he (by omega) ?_
  cases hw : numOf w with
  | none =>
   rw [hbad l w hmem hw] at hq
   simp
   exact hq
  | some n =>
   rw [FJ hw]
   simp [Bl, BH, hr, show ns.length + 1 ≤ lim by unfold lim; omega]
   try simp (disch := omega) only [wrap64]
   refine .next hi (ns ++ [n], .own (DE Af r)) (by simp [nC]) ⟨rfl, by simp, by simp, ?_⟩
   have e2 : (l.map numOf).take (i + 1) = (l.take (i + 1)).map numOf := by rw [List.map_take]
   rw [e2, List.take_succ, hxi, List.map_append, hns]
   simp [hw]
 ·rintro ⟨ns, r⟩ S' v bx ⟨rfl, hr, hrn, hns⟩ hv N
  simp at hv hr hrn
  simp only [List.take_length] at hns
  obtain ⟨hv1, hv2⟩ := hv
  rw [hpre l ns hns] at hq
  simp [hv1, hv2]
  exact hq r (fun e => hrn (by cases r <;> first | rfl | cases e))
set_option maxRecDepth 100000 in
theorem Fc {w0 : World} (ht : Hx w0) {S : St} {s : Str} {ns : List Int} {r : Rt} (hl : ns.length ≤ 1000000) (hs : s.length ≤ 1000000) (hn : ∀ n ∈ ns, Cj n) {Q : AV → St → Prop} (hq : Q (.str (s ++ numsL ns ++ [10])) S) : AC w0 Ch [.str s, .vs 1 (ns.map nC) r] S Q := by
 apply IX
 unfold Dm
 rw [AJ]
 simp
 have hlen : ∀ a : List Int, (∀ n ∈ a, Cj n) → (numsL a).length ≤ 21 * a.length := by
  intro a
  induction a with
  | nil => intro _; simp [numsL]
  | cons n a ih =>
   intro h
   have h1 := BP (h n (by simp))
   have h2 := ih fun x hx => h x (by simp [hx])
   simp only [numsL, List.length_cons, List.length_append]
   omega
 have hsnoc : ∀ (a : List Int) (n : Int), numsL (a ++ [n]) = numsL a ++ 32 :: BT n := by
  intro a n
  induction a with
  | nil => simp [numsL]
  | cons x a ih => rw [List.cons_append, numsL, ih, numsL]; simp
 refine A1 ns (fun i (_ : Unit) => ([.str (s ++ numsL (ns.take i)), .int .i64 i], [])) (fun i _ S' => S' = S) () (by simp [numsL]) rfl ?_ ?_
 ·rintro i _ S' v bx n hi hxi hd hcc hmem rfl hv
  simp at hv
  obtain ⟨hv1, hv2⟩ := hv
  have h1 := BP (hn n hmem)
  have h2 := hlen (ns.take i) fun x hx => hn x (List.take_subset _ _ hx)
  have h3 : (ns.take i).length ≤ ns.length := by simp; omega
  simp [hv1, hv2, hcc, hxi, nC]
  refine GL ht (hn n hmem) ?_
  rw [AE (by simp; omega)]
  simp
  rw [AE (by simp; omega)]
  simp
  try simp (disch := omega) only [wrap64]
  refine .next hi () ?_ rfl
  rw [List.take_succ, hxi]
  simp [hsnoc]
 ·rintro _ S' v bx rfl hv N
  simp at hv
  obtain ⟨hv1, hv2⟩ := hv
  have h2 := hlen ns hn
  simp [hv1, hv2]
  rw [AE (by simp; omega)]
  simpa using hq
set_option maxRecDepth 100000
open Go.Proofs
abbrev Cl := List OpN × Rt
def Cl.c (x : Cl) : List AV := [.vs 6 (x.1.map OpN.c) x.2]
theorem Cl.len (x : Cl) : (Cl.c x).length = 1 := rfl
structure Rdr (S : St) (R lo k : Nat) (r : RdS) (ri rp : Rt) (x : AV) (cl : List Cl) (o : Option Nat) : Prop where
 obj : S[R]? = some (.cells [.int .i64 r.sc.sh, .int .i64 r.sc.room, .int .i64 r.sc.cur, .vs 1 (r.sc.images.map Dj) ri, x, .vs 1 (r.sc.picks.map nC) rp, .int .i64 (r.part : Int)] Bc)
 row : Df Cl.c 1 S x cl o
 cls : cl.map (·.1) = r.sc.clients
 own : ∀ j, o = some j → lo ≤ j ∧ j ≠ R
 ri : ri ≠ .none ∧ (ri = .nil → r.sc.images = [])
 rp : rp = .nil → r.sc.picks = []
 rc : ∀ c ∈ cl, c.2 ≠ .none ∧ (c.2 = .nil → c.1 = [])
 few : r.sc.images.length ≤ k ∧ r.sc.clients.length ≤ k ∧ ∀ c ∈ r.sc.clients, c.length ≤ k
 lo : lo ≤ R
 part : r.part ≤ 4
 ne : r.part = 3 → r.sc.clients ≠ []
theorem Ey (c : UInt8) : ∀ (s : Str), (Ac c s).length ≤ s.length + 1 ∧ ∀ p ∈ Ac c s, p.length ≤ s.length
 | [] => by simp [Ac]
 | x :: s => by
  obtain ⟨h1, h2⟩ := Ey c s
  rw [Bw]
  split
  ·refine ⟨by simp; omega, fun p hp => ?_⟩
   rcases List.mem_cons.1 hp with rfl | hp
   ·simp
   ·have := h2 p hp; simp; omega
  ·cases hs : Ac c s with
   | nil => exact absurd hs (B7 c s)
   | cons a t =>
    rw [hs] at h1 h2
    refine ⟨by simp at h1 ⊢; omega, fun p hp => ?_⟩
    rcases List.mem_cons.1 hp with rfl | hp
    ·have := h2 a (by simp); simp; omega
    ·have := h2 p (by simp [hp]); simp; omega
def Cl.v (x : Cl) : AV := .vs 6 (x.1.map OpN.c) x.2
theorem O0 (cl : List Cl) : Am Cl.c cl = cl.map Cl.v := by
 induction cl with
 | nil => rfl
 | cons x l ih =>
  have : Am Cl.c (x :: l) = Cl.c x ++ Am Cl.c l := by simp [Am]
  rw [this, ih]
  rfl
theorem P9 {cl : List Cl} {i : Nat} {y : Cl} (hi : cl[i]? = some y) : (Am Cl.c cl).modify i AV.strip1 = Am Cl.c (cl.set i (y.1, y.2.strip)) := by
 rw [O0, O0]
 apply List.ext_getElem?
 intro j
 rw [List.getElem?_modify, List.getElem?_map, List.getElem?_map]
 by_cases e : i = j
 ·subst e
  have hl := (List.getElem?_eq_some_iff.1 hi).1
  rw [List.getElem?_set_self hl, hi]
  simp [Cl.v, AV.strip1]
 ·rw [List.getElem?_set_ne e]
  simp [e]
theorem Qc {cl : List Cl} {i : Nat} (hi : i + 1 = cl.length) (a z : Cl) : (cl.set i a).set i z = cl.dropLast ++ [z] := by
 rw [List.set_set]
 apply List.ext_getElem?
 intro j
 by_cases e : i = j
 ·subst e
  rw [List.getElem?_set_self (by omega), List.getElem?_append_right (by simp; omega)]
  simp
  have : i - (cl.length - 1) = 0 := by omega
  rw [this]
  rfl
 ·rw [List.getElem?_set_ne e]
  by_cases h : j < i
  ·rw [List.getElem?_append_left (by simp; omega), List.getElem?_dropLast, if_pos (by omega)]
  ·rw [List.getElem?_eq_none (by omega), List.getElem?_eq_none (by simp; omega)]
set_option maxRecDepth 100000 in
theorem LS {w0 : World} (hm : Ix w0) (ht : Hx w0) (he : AtL w0) {S : St} {R lo k : Nat} {r : RdS} {ri rp : Rt} {x : AV} {cl : List Cl} {o : Option Nat} {s : Str} (h : Rdr S R lo k r ri rp x cl o) (hs : s.length ≤ 1000000) (hk : k ≤ 1000000) {Q : AV → St → Prop}
  (hq : ∀ S', (∀ j, j < lo → S'[j]? = S[j]?) → match CT r s with | some r' => ∀ ri' rp' x' cl' o', Rdr S' R lo (k + 1) r' ri' rp' x' cl' o' → Q (.bool true) S' | none => Q (.bool false) S') : AC w0 CV [.ptr R 0, .str s] S Q := by
 obtain ⟨hob, hrow, hcls, hown, hri, hrp, hrc, hfew, hlo, hpart, hne⟩ := h
 apply FR
 unfold CI
 refine KI hm (by omega) ?_
 obtain ⟨hl1, hl2⟩ := Ey 32 s
 obtain ⟨w, tl, hsp⟩ : ∃ w tl, Ac 32 s = w :: tl := by
  cases hs : Ac 32 s with
  | nil => exact absurd hs (B7 32 s)
  | cons w tl => exact ⟨w, tl, rfl⟩
 unfold CT at hq
 rw [hsp] at hq hl1 hl2
 rw [hsp]
 simp only [List.tail_cons, List.head?_cons] at hq
 simp [Ck hob]
 have hwl : ∀ p ∈ tl, p.length ≤ 100000000 := fun p hp => by have := hl2 p (by simp [hp]); omega
 have htl : tl.length ≤ 1000000 := by simp at hl1; omega
 by_cases h0 : r.part = 0
 ·rw [if_pos h0] at hq
  simp [h0]
  refine GX ht he htl hwl ?_
  cases hw : C8 tl with
  | none =>
   rw [hw] at hq
   simp only at hq
   have hf := hq S (fun _ _ => rfl)
   by_cases hr : w = [114, 111, 111, 109]
   ·subst hr; simp [AJ]; exact hf
   ·simp [AJ, hr]; exact hf
  | some ns =>
   rw [hw] at hq
   intro r1 hr1
   by_cases hr : w = [114, 111, 111, 109]
   ·subst hr
    by_cases h3 : ns.length = 3
    ·obtain ⟨a, b, c, rfl⟩ : ∃ a b c, ns = [a, b, c] := by
      match ns, h3 with
      | [a, b, c], _ => exact ⟨a, b, c, rfl⟩
     simp only at hq
     simp [AJ, nC]
     rw [BZ hob]
     simp
     rw [BZ (A3 hob)]
     simp
     have hS := hq (S.set R (.cells [.int .i64 a, .int .i64 b, .int .i64 c, .vs 1 (r.sc.images.map Dj) ri, x, .vs 1 (r.sc.picks.map nC) rp, .int .i64 1] Bc)) (fun j hj => List.getElem?_set_ne (by omega))
     simp only [if_true] at hS
     refine hS ri rp x cl o ⟨A3 hob, hrow.mono fun id e => List.getElem?_set_ne (Ne.symm (hown id e).2), hcls, hown, hri, hrp, hrc, ⟨Nat.le_succ_of_le hfew.1, Nat.le_succ_of_le hfew.2.1, fun c hc => Nat.le_succ_of_le (hfew.2.2 c hc)⟩, hlo, by simp, by simp⟩
    ·have h3i : ¬ (ns.length : Int) = 3 := by omega
     have hf : Q (.bool false) S := by
      have := hq S (fun _ _ => rfl)
      match ns, h3, this with
      | [], _, this => exact this
      | [_], _, this => exact this
      | [_, _], _, this => exact this
      | _ :: _ :: _ :: _ :: _, _, this => exact this
     simp [AJ, h3i]; exact hf
   ·have hf : Q (.bool false) S := by
     have := hq S (fun _ _ => rfl)
     have hwr : ¬ (some w = some FL) := by simpa using hr
     match ns, this with
     | [], this => exact this
     | [_], this => exact this
     | [_, _], this => exact this
     | [a, b, c], this => simpa [hwr, hr] using this
     | _ :: _ :: _ :: _ :: _, this => exact this
    simp [AJ, hr]; exact hf
 rw [if_neg h0] at hq
 simp [h0]
 have hp0 := hpart
 by_cases hi : r.part < 3 ∧ w = CX ∧ tl.length = 1
 ·obtain ⟨hi1, rfl, hi3⟩ := hi
  obtain ⟨y, rfl⟩ : ∃ y, tl = [y] := by
   match tl, hi3 with
   | [y], _ => exact ⟨y, rfl⟩
  have hyl := hwl y (by simp)
  have hi2 : (r.part : Int) < 3 := by omega
  rw [if_pos (by exact ⟨hi1, by simp, rfl⟩)] at hq
  simp [hi2]
  refine Ie (by omega) (fun c hc => ?_)
  have hlim : r.sc.images.length + 1 ≤ lim := by have := hfew.1; unfold lim; omega
  simp [Ck hob, EO hob, Bl, BH, hri.1, hlim]
  rw [BZ (A3 hob)]
  simp
  rw [BZ (A3 hob)]
  simp
  have hS := hq (S.set R (.cells [.int .i64 r.sc.sh, .int .i64 r.sc.room, .int .i64 r.sc.cur, .vs 1 ((r.sc.images ++ [c]).map Dj) (.own (DE AL ri)), x, .vs 1 (r.sc.picks.map nC) rp, .int .i64 2] Bc)) (fun j hj => List.getElem?_set_ne (by omega))
  have e1 : (([CX, y] : List Str)[1]?).getD [] = y := rfl
  rw [e1] at hS
  cases hb : Ds y with
  | none =>
   rw [hb] at hS
   simp at hS ⊢
   exact hS
  | some z =>
   rw [hb] at hS
   obtain rfl := hc z hb
   simp at hS ⊢
   refine hS (.own (DE AL ri)) rp x cl o ⟨by rw [A3 hob]; simp, hrow.mono fun id e => List.getElem?_set_ne (Ne.symm (hown id e).2), hcls, hown, ⟨by simp, by simp⟩, hrp, hrc, ⟨by simp; exact hfew.1, Nat.le_succ_of_le hfew.2.1, fun c hc => Nat.le_succ_of_le (hfew.2.2 c hc)⟩, hlo, by simp, by simp⟩
 rw [if_neg (by simpa using hi)] at hq
 have hin : (decide ((r.part : Int) < 3) && decide (w = [105, 109, 97, 103, 101]) && decide ((tl.length : Int) + 1 = 2)) = false := by
  rw [Bool.eq_false_iff]
  intro hc
  simp only [Bool.and_eq_true, decide_eq_true_eq] at hc
  exact hi ⟨by omega, hc.1.2, by omega⟩
 simp [hin]
 have hRl : R < S.length := (List.getElem?_eq_some_iff.1 hob).1
 by_cases hcl : r.part < 4 ∧ s = Aw
 ·rw [if_pos (by exact hcl)] at hq
  obtain ⟨hc1, hc2⟩ := hcl
  have hc3 : (r.part : Int) < 4 := by omega
  have hx1 : x.strip1 = x ∧ x.strip0 = x := by
   cases o with
   | none => obtain ⟨rfl, _⟩ := hrow; exact ⟨rfl, rfl⟩
   | some id => obtain ⟨rfl, _⟩ := hrow; exact ⟨rfl, rfl⟩
  have hst : stripMem S (.ptr R 4) = S := by
   rw [EO hob]
   simp [hx1.1]
   apply List.ext_getElem?
   intro j
   by_cases e : R = j
   ·subst e; rw [A3 hob]; exact hob.symm
   ·exact List.getElem?_set_ne e
  have hlim : cl.length + ([([], .nil)] : List Cl).length ≤ lim := by
   have h1 := hfew.2.1
   have h2 := congrArg List.length hcls
   simp at h2
   unfold lim
   simp
   omega
  obtain ⟨x', S', o', a1, a2, a3, a4, a5⟩ := hrow.append (T := AM) Cl.len rfl (y := .vs 1 [[.vs 6 [] .nil]] .full) (m := [([], .nil)]) (by simp [BH, Cl.c]) hlim
  have hR' : S'[R]? = S[R]? := a3 R hRl (fun e => (hown R e).2 rfl)
  rw [hob] at hR'
  simp [hc3, hc2, hst, hx1.2]
  rw [a1]
  simp
  have hx'f : x'.cells = [x'] ∧ x'.free = true ∧ x'.strip = x' := by
   cases o' with
   | none => obtain ⟨rfl, _⟩ := a2; exact ⟨rfl, rfl, rfl⟩
   | some id => obtain ⟨rfl, _⟩ := a2; exact ⟨rfl, rfl, rfl⟩
  rw [BZ hR']
  simp [hx'f.1, hx'f.2.1]
  rw [BZ (A3 hR')]
  simp
  have hS := hq (S'.set R (.cells [.int .i64 r.sc.sh, .int .i64 r.sc.room, .int .i64 r.sc.cur, .vs 1 (r.sc.images.map Dj) ri, x', .vs 1 (r.sc.picks.map nC) rp, .int .i64 3] Bc)) (fun j hj => by
   rw [List.getElem?_set_ne (by omega)]
   exact a3 j (by omega) (fun e => by have := (hown j e).1; omega))
  refine hS ri rp x' (cl ++ [([], .nil)]) o' ⟨A3 hR', a2.mono fun id e => List.getElem?_set_ne (fun e2 => ?_), by simp [hcls], fun j e => ?_, hri, hrp, fun c hc => ?_, ⟨Nat.le_succ_of_le hfew.1, by simp; exact hfew.2.1, fun c hc => ?_⟩, hlo, by simp, by simp⟩
  ·rcases a5 id e with h | h
   ·exact (hown id h).2 e2.symm
   ·omega
  ·rcases a5 j e with h | h
   ·exact hown j h
   ·exact ⟨by omega, by omega⟩
  ·rcases List.mem_append.1 hc with hc | hc
   ·exact hrc c hc
   ·rw [List.mem_singleton] at hc; subst hc; exact ⟨by simp, fun _ => rfl⟩
  ·rcases List.mem_append.1 hc with hc | hc
   ·exact Nat.le_succ_of_le (hfew.2.2 c hc)
   ·rw [List.mem_singleton] at hc; subst hc; simp
 rw [if_neg (by exact hcl)] at hq
 have hcn : (decide ((r.part : Int) < 4) && decide (s = [99, 108, 105, 101, 110, 116])) = false := by
  rw [Bool.eq_false_iff]
  intro hc
  simp only [Bool.and_eq_true, decide_eq_true_eq] at hc
  exact hcl ⟨by omega, hc.2⟩
 simp [hcn]
 by_cases hpk : r.part < 4 ∧ w = Cm ∧ tl ≠ []
 ·obtain ⟨hp1, rfl, hp3⟩ := hpk
  have hp2 : (r.part : Int) < 4 := by omega
  have htn : 1 < (tl.length : Int) + 1 := by
   have : 0 < tl.length := List.length_pos_iff.2 hp3
   omega
  rw [if_pos (by refine ⟨hp1, by simp, ?_⟩; have : 0 < tl.length := List.length_pos_iff.2 hp3; simp; omega)] at hq
  simp [hp2, htn]
  refine GX ht he htl hwl ?_
  cases hw : C8 tl with
  | none =>
   rw [hw] at hq
   simp
   rw [BZ hob]
   simp
   rw [BZ (A3 hob)]
   simp
   exact hq _ (fun j hj => List.getElem?_set_ne (by omega))
  | some ns =>
   rw [hw] at hq
   intro r1 hr1
   simp
   rw [BZ hob]
   simp
   rw [BZ (A3 hob)]
   simp
   have hS := hq (S.set R (.cells [.int .i64 r.sc.sh, .int .i64 r.sc.room, .int .i64 r.sc.cur, .vs 1 (r.sc.images.map Dj) ri, x, .vs 1 (ns.map nC) r1.strip, .int .i64 4] Bc)) (fun j hj => List.getElem?_set_ne (by omega))
   refine hS ri r1.strip x cl o ⟨A3 hob, hrow.mono fun id e => List.getElem?_set_ne (Ne.symm (hown id e).2), hcls, hown, hri, hr1, hrc, ⟨Nat.le_succ_of_le hfew.1, Nat.le_succ_of_le hfew.2.1, fun c hc => Nat.le_succ_of_le (hfew.2.2 c hc)⟩, hlo, by simp, by simp⟩
 rw [if_neg (by
  rintro ⟨q1, q2, q3⟩
  refine hpk ⟨q1, by simpa using q2, fun e => ?_⟩
  subst e
  simp at q3)] at hq
 have hpn : (decide ((r.part : Int) < 4) && decide (w = [112, 105, 99, 107]) && decide (1 < (tl.length : Int) + 1)) = false := by
  rw [Bool.eq_false_iff]
  intro hc
  simp only [Bool.and_eq_true, decide_eq_true_eq] at hc
  refine hpk ⟨by omega, hc.1.2, fun e => ?_⟩
  subst e
  simp at hc
 simp [hpn]
 refine Me hm ht he (by omega) ?_
 unfold OR
 cases hps : DS s with
 | none =>
  rw [hps] at hq
  have hzc : OpN.zero.c = [.int .i64 0, .str [], .int .i64 0, .int .i64 0, .int .i64 0, .str []] := rfl
  simp [hzc, AJ]
  exact hq S (fun _ _ => rfl)
 | some op =>
  rw [hps] at hq
  have hoc : op.c = [.int .i64 op.kind, .str op.path, .int .i64 op.off, .int .i64 op.n, .int .i64 op.id, .str op.image] := rfl
  by_cases h3 : r.part = 3
  ·simp only [if_pos h3] at hq
   have h3i : (r.part : Int) = 3 := by omega
   simp [hoc, Ck hob, h3i, AJ]
   have hcn0 := hne h3
   have hcl0 : cl ≠ [] := fun e => hcn0 (by rw [← hcls, e]; rfl)
   obtain ⟨id, rfl⟩ := hrow.is_some hcl0
   obtain ⟨hid1, hid2⟩ := hown id rfl
   obtain ⟨n, hn⟩ : ∃ n, n + 1 = cl.length := ⟨cl.length - 1, by have := List.length_pos_iff.2 hcl0; omega⟩
   obtain ⟨y, hy⟩ : ∃ y, cl[n]? = some y := ⟨_, List.getElem?_eq_getElem (by omega)⟩
   have hym := List.mem_of_getElem? hy
   obtain ⟨hy1, hy2⟩ := hrc y hym
   have hyk : y.1.length ≤ k := hfew.2.2 y.1 (by rw [← hcls]; exact List.mem_map_of_mem hym)
   have hlk : cl.length ≤ k := by have := congrArg List.length hcls; simp at this; omega
   obtain ⟨s1, s2, s3, s4⟩ := hrow.strip
   have hw1 : IntKind.i64.wrap ((cl.length : Int) - 1) = (n : Int) := by rw [wrap64 (by omega) (by omega)]; omega
   have hidx : Ae AM x (.int .i64 (n : Int)) = some (.ptr id (n * 1)) := hrow.idx (T := AM) rfl (i := n) (by omega) (k := .i64)
   have hload := hrow.cell (T := AM) Cl.len rfl (i := n) (k := 0) hy (by omega)
   have hrow2 := hrow.2
   have hst : stripMem S (.ptr id (n * 1)) = S.set id (.cells (Am Cl.c (cl.set n (y.1, y.2.strip))) 0) := by
    rw [EO hrow2, Nat.mul_one, P9 hy]
   generalize hS2 : S.set id (.cells (Am Cl.c (cl.set n (y.1, y.2.strip))) 0) = S2 at hst
   have hR2 : S2[R]? = S[R]? := by rw [← hS2]; exact List.getElem?_set_ne hid2
   rw [hob] at hR2
   have hr2 : Df Cl.c 1 S2 x (cl.set n (y.1, y.2.strip)) (some id) := by
    refine ⟨by rw [hrow.1]; simp, ?_⟩
    rw [← hS2]
    exact A3 hrow2
   have hy' : (cl.set n (y.1, y.2.strip))[n]? = some (y.1, y.2.strip) := List.getElem?_set_self (by omega)
   obtain ⟨S3, b1, b2, b3, b4⟩ := hr2.put (T := AM) Cl.len rfl (i := n) (k := 0) (z := (y.1 ++ [op], .own (DE Ad y.2))) hy' (by omega) (v := Cl.v (y.1 ++ [op], .own (DE Ad y.2))) rfl rfl rfl
   rw [Qc hn] at b2
   have hlim : y.1.length + 1 ≤ lim := by unfold lim; omega
   simp only [s1, s4, C5, QB, hw1]
   rw [show (AV.int .i64 (n : Int)).strip = .int .i64 (n : Int) from rfl, hidx, C5]
   rw [Nat.add_zero] at hload b1
   have hl0 : Al AM S (.ptr id (n * 1)) = some (Cl.v y) := hload
   rw [hl0, C5, hst]
   refine ⟨by simp [Ck hR2, s1], ?_⟩
   have happ : Bl Ad S2 (Cl.v y).strip0 (.vs 6 [op.c] .full) = some (Cl.v (y.1 ++ [op], .own (DE Ad y.2))) := by
    simp [Cl.v, AV.strip0, Bl, BH, hy1, hlim]
   rw [hoc] at happ
   rw [happ, C5, C5, b1, C5]
   have hR3 : S3[R]? = S2[R]? := b4 R (Ne.symm hid2)
   have hlast : r.sc.clients.getLast? = some y.1 := by
    rw [← hcls, List.getLast?_map, List.getLast?_eq_getElem?, show cl.length - 1 = n by omega, hy]
    rfl
   have hadd : C1 r.sc.clients op = (cl.dropLast ++ [(y.1 ++ [op], Rt.own (DE Ad y.2))]).map (·.1) := by
    unfold C1
    rw [hlast, ← hcls]
    simp
   have hS := hq S3 (fun j hj => by
    rw [b4 j (by omega), ← hS2]
    exact List.getElem?_set_ne (by omega))
   refine hS ri rp x _ (some id) ⟨by rw [hR3, hR2, h3], b2, hadd.symm, hown, hri, hrp, fun c hc => ?_, ⟨Nat.le_succ_of_le hfew.1, ?_, fun c hc => ?_⟩, hlo, by simp, fun _ => ?_⟩
   ·rcases List.mem_append.1 hc with hc | hc
    ·exact hrc c (List.dropLast_subset _ hc)
    ·rw [List.mem_singleton] at hc; subst hc; exact ⟨by simp, fun e => (by cases e)⟩
   ·show (C1 r.sc.clients op).length ≤ k + 1
    rw [hadd]
    simp
    omega
   ·have hc2 : c ∈ C1 r.sc.clients op := hc
    rw [hadd] at hc2
    obtain ⟨d, hd, rfl⟩ := List.mem_map.1 hc2
    rcases List.mem_append.1 hd with hd | hd
    ·exact Nat.le_succ_of_le (hfew.2.2 d.1 (by rw [← hcls]; exact List.mem_map_of_mem (List.dropLast_subset _ hd)))
    ·rw [List.mem_singleton] at hd; subst hd; simp; exact hyk
   ·show C1 r.sc.clients op ≠ []
    simp [C1]
  ·simp only [if_neg h3] at hq
   have h3i : ¬ (r.part : Int) = 3 := by omega
   simp [hoc, Ck hob, h3i, AJ]
   exact hq S (fun _ _ => rfl)
set_option maxRecDepth 100000
open Go.Proofs
def scC (s : ScN) (ri rp rc : Rt) (cl : List Cl) : List AV := [.int .i64 s.sh, .int .i64 s.room, .int .i64 s.cur, .vs 1 (s.images.map Dj) ri, .vs 1 (cl.map Cl.c) rc, .vs 1 (s.picks.map nC) rp]
theorem Ph (r : RdS) (ls : List Str) (i : Nat) (s : Str) (hs : ls[i]? = some s) {r1 : RdS} (h : B4 r (ls.take i) 0 = .inl r1) : B4 r (ls.take (i + 1)) 0 = match CT r1 s with | some r' => .inl r' | none => .inr i := by
 have hl := (List.getElem?_eq_some_iff.1 hs).1
 rw [List.take_succ, hs, DB, h]
 simp only [Option.toList, List.length_take, Nat.min_eq_left (Nat.le_of_lt hl), Nat.zero_add]
 rw [B4]
 cases CT r1 s <;> rfl
theorem Pl (r : RdS) (ls : List Str) (i k : Nat) (h : B4 r (ls.take i) 0 = .inr k) : B4 r ls 0 = .inr k := by
 have : ls = ls.take i ++ ls.drop i := (List.take_append_drop i ls).symm
 rw [this, DB, h]
set_option maxRecDepth 100000 in
theorem B5 {w0 : World} (hm : Ix w0) (ht : Hx w0) (he : AtL w0) {S : St} {text : Str} (hs : text.length ≤ 900000) {Q : AV → St → Prop}
  (hq : ∀ S', Sx S S' → ((Bs text).2 ≠ 0 → Q (.tup [.agg (scC ScN.zero .nil .nil .nil []), .int .i64 (((Bs text).2 : Nat) : Int)]) S') ∧
   ((Bs text).2 = 0 → ∀ (ri rp rc : Rt) (cl : List Cl), cl.map (·.1) = (Bs text).1.clients → Q (.tup [.agg (scC (Bs text).1 ri rp rc cl), .int .i64 0]) S')) : AC w0 BY [.str text] S Q := by
 refine AW.freezeR (E := En w0) ?_
 apply JW
 unfold Ee
 refine KI hm (by omega) ?_
 have hne := B7 10 text
 obtain ⟨hl1, hl2⟩ := Ey 10 text
 obtain ⟨n, hn⟩ : ∃ n, n + 1 = (Ac 10 text).length := ⟨(Ac 10 text).length - 1, by have := List.length_pos_iff.2 hne; omega⟩
 obtain ⟨a, ha, hsp⟩ := He hne
 unfold Bs at hq
 generalize hps : Ac 10 text = ps at hq hl1 hl2 hn hne ha hsp
 have hdl : ps.dropLast = ps.take n := by rw [List.dropLast_eq_take]; congr 1; omega
 have hw1 : IntKind.i64.wrap ((ps.length : Int) - 1) = (n : Int) := by rw [wrap64 (by omega) (by omega)]; omega
 have hw2 : IntKind.i64.wrap ((n : Int) + 1 - 1) = (n : Int) := by rw [wrap64 (by omega) (by omega)]; omega
 rw [hdl] at hq hsp
 have hnl : n ≤ ps.length := by omega
 have hnp : ¬ n = ps.length := by omega
 simp [hw1, Bt, bnd, hnl, hnp]
 rw [AJ]
 rw [← List.map_take]
 have hll : (ps.take n).length = n := by simp; omega
 have hlast : ps[n]? = some a := by rw [List.getLast?_eq_getElem?] at ha; rw [← ha]; congr 1; omega
 have hmem : ∀ p ∈ ps.take n, p.length ≤ text.length := fun p hp => hl2 p (List.take_subset _ _ hp)
 have hzs : scC ScN.zero .nil .nil .nil [] = [.int .i64 0, .int .i64 0, .int .i64 0, .vs 1 [] .nil, .vs 1 [] .nil, .vs 1 [] .nil] := rfl
 generalize hls : ps.take n = ls at hq hsp hll hmem
 rw [show (n : Int) = (ls.length : Int) from by rw [hll]]
 refine A1 ls (fun i (_ : Unit) => ([.int .i64 i], [some [.int .i64 0, .int .i64 0, .int .i64 0, .vs 1 [] .nil, .vs 1 [] .nil, .vs 1 [] .nil]])) (fun i _ S' => (∀ j, j < S.length → S'[j]? = S[j]?) ∧ ∃ r ri rp x cl o, Rdr S' S.length S.length i r ri rp x cl o ∧ B4 RdS.zero (ls.take i) 0 = .inl r) () rfl ?_ ?_ ?_
 ·refine ⟨fun j hj => List.getElem?_append_left hj, RdS.zero, .nil, .nil, .vs 1 [] .nil, [], none, ⟨by simp [RdS.zero, ScN.zero], ⟨rfl, rfl⟩, rfl, fun j e => (by cases e), ⟨by simp, fun _ => rfl⟩, fun _ => rfl, by simp, ⟨by simp [RdS.zero, ScN.zero], by simp [RdS.zero, ScN.zero], by simp [RdS.zero, ScN.zero]⟩, Nat.le_refl _, by simp [RdS.zero], fun e => (by cases e)⟩, rfl⟩
 ·rintro i _ S' v bx w hi hxi hd hcc hm2 ⟨hfr, r, ri, rp, x, cl, o, hR, hrun⟩ hv
  simp at hv
  obtain ⟨hv1, hv2⟩ := hv
  have hwl := hmem w hm2
  have hi2 : (i : Int) < ls.length := by omega
  simp [hv1, hv2, hcc, hxi]
  refine LS hm ht he hR (by omega) (by omega) (fun S2 hS2 => ?_)
  have hsn := Ph RdS.zero ls i w hxi hrun
  have hfr2 : ∀ j, j < S.length → S2[j]? = S[j]? := fun j hj => (hS2 j hj).trans (hfr j hj)
  cases hln : CT r w with
  | none =>
   rw [hln] at hsn
   have hst := Pl RdS.zero ls (i + 1) i hsn
   rw [hst] at hq
   simp
   left
   have := (hq S2 hfr2).1 (by simp)
   rw [hzs] at this
   have hwi : IntKind.i64.wrap ((i : Int) + 1) = ((i + 1 : Nat) : Int) := by rw [wrap64 (by omega) (by omega)]; omega
   rw [hwi]
   exact this
  | some r' =>
   rw [hln] at hsn
   intro ri' rp' x' cl' o' hR'
   simp
   try simp (disch := omega) only [wrap64]
   exact .next hi () rfl ⟨hfr2, r', ⟨ri', rp', x', cl', o', hR'⟩, hsn⟩
 ·rintro _ S' v bx ⟨hfr, r, ri, rp, x, cl, o, hR, hrun⟩ hv N
  rw [List.take_length] at hrun
  rw [hrun] at hq
  simp at hv
  obtain ⟨hv1, hv2⟩ := hv
  obtain ⟨hob, hrow, hcls, hown, hri, hrp, hrc, hfew, hlo, hpart, hne2⟩ := hR
  have hw3 : IntKind.i64.wrap ((ps.length : Int) - 1) = (n : Int) := hw1
  simp [hv1, hv2, hw1, hlast, Ck hob]
  by_cases hz : a ≠ [] ∨ r.part = 0
  ·have hzb : (!decide (a = []) || decide (r.part = 0)) = true := by
    rcases hz with h | h <;> simp [h]
   have hcond : ps.getLast? ≠ some [] ∨ r.part = 0 := by
    rw [ha]
    rcases hz with h | h
    ·exact .inl (by simpa using h)
    ·exact .inr h
   simp only [if_pos hcond] at hq
   simp [hzb]
   left
   have := (hq S' hfr).1 (by omega)
   rw [hzs] at this
   exact this
  ·have hz1 : a = [] := by
    by_cases h : a = []
    ·exact h
    ·exact absurd (.inl h) hz
   have hz2 : ¬ r.part = 0 := fun h => hz (.inr h)
   have hcond : ¬ (ps.getLast? ≠ some [] ∨ r.part = 0) := by
    rw [ha, hz1]
    simp [hz2]
   simp only [if_neg hcond] at hq
   have hx1 : x.strip1 = x ∧ x.free1 = true := by
    cases o with
    | none => obtain ⟨rfl, _⟩ := hrow; exact ⟨rfl, rfl⟩
    | some id => obtain ⟨rfl, _⟩ := hrow; exact ⟨rfl, rfl⟩
   simp [hz1, hz2, hx1.1, hx1.2]
   cases o with
   | none =>
    obtain ⟨rfl, rfl⟩ := hrow
    left
    exact (hq S' hfr).2 (by trivial) ri.strip rp.strip .nil [] hcls
   | some id =>
    obtain ⟨hx2, hob2⟩ := hrow
    obtain ⟨hid1, hid2⟩ := hown id rfl
    right
    refine ⟨id, 0, 1, cl.length, cl.map Cl.c, ?_, ?_, by simp, ?_⟩
    ·rw [hob2]
     simp [Am, List.flatMap]
    ·intro e he
     obtain ⟨c, _, rfl⟩ := List.mem_map.1 he
     exact ⟨rfl, fun y hy => by rw [Cl.c, List.mem_singleton] at hy; subst hy; rfl⟩
    ·have hfr3 : Sx S (S'.set id .dead) := fun j hj => by
      rw [List.getElem?_set_ne (by omega)]
      exact hfr j hj
     have := (hq _ hfr3).2 (by trivial) ri.strip rp.strip .none (cl.map fun c => (c.1, c.2.strip)) (by rw [List.map_map]; exact hcls)
     have e1 : (cl.map Cl.c).map (fun y => y.map AV.strip1) = (cl.map fun c => ((c.1, c.2.strip) : Cl)).map Cl.c := by
      rw [List.map_map, List.map_map]
      rfl
     rw [e1, hx2]
     have e2 : (AV.rs 1 id 0 cl.length).frz1 1 id cl.length (.vs 1 ((cl.map fun c => ((c.1, c.2.strip) : Cl)).map Cl.c) .none) = .vs 1 ((cl.map fun c => ((c.1, c.2.strip) : Cl)).map Cl.c) .none := by
      rw [IG, if_pos ⟨rfl, rfl, rfl, rfl⟩]
     simp only [AV.frz3, AV.frz2, List.map_cons, List.map_nil, e2]
     exact this
set_option maxRecDepth 100000
open Go.Proofs
theorem n1 : BT 1 = [49] := by rw [GW (by decide) (by decide)]; rfl
theorem n2 : BT 2 = [50] := by rw [GW (by decide) (by decide)]; rfl
theorem n3 : BT 3 = [51] := by rw [GW (by decide) (by decide)]; rfl
theorem n5 : BT 5 = [53] := by rw [GW (by decide) (by decide)]; rfl
def opC : OpN := ⟨7, [], 0, 0, 5, []⟩
def Ko : ScN := ⟨1, 2, 3, [], [[opC]], []⟩
theorem P7 : FL ++ numsL [1, 2, 3] = [114, 111, 111, 109, 32, 49, 32, 50, 32, 51] := by
 simp only [numsL, n1, n2, n3]
 rfl
theorem Vh : Aj opC = [99, 108, 111, 115, 101, 32, 53] := by
 unfold Aj opC
 simp only [n5]
 rfl
theorem Ou : Bi Ko = [114, 111, 111, 109, 32, 49, 32, 50, 32, 51, 10, 99, 108, 105, 101, 110, 116, 10, 99, 108, 111, 115, 101, 32, 53, 10] := by
 have h : BM Ko = [FL ++ numsL [1, 2, 3], Aw, Aj opC] := rfl
 rw [Bi, h, P7, Vh]
 rfl
theorem Oy : HJ Ko = true ∧ Ko.ok := by
 refine ⟨by decide, ⟨by decide, by decide⟩, ⟨by decide, by decide⟩, ⟨by decide, by decide⟩, by simp [Ko], ?_⟩
 intro ops h o ho
 simp [Ko] at h
 subst h
 simp at ho
 subst ho
 exact ⟨⟨by decide, by decide⟩, ⟨by decide, by decide⟩, ⟨by decide, by decide⟩, ⟨by decide, by decide⟩⟩
theorem Kq : Bs [114, 111, 111, 109, 32, 49, 32, 50, 32, 51, 10, 99, 108, 105, 101, 110, 116, 10, 99, 108, 111, 115, 101, 32, 53, 10] = (Ko, 0) := by
 rw [← Ou]
 exact JE Oy.1 Oy.2
theorem KJ : (Bs [114, 111, 111, 109, 32, 49, 32, 50, 32, 51, 10, 99, 108, 105, 101, 110, 116, 10, 99, 108, 111, 115, 101, 10]).2 = 3 := by
 have h : ([114, 111, 111, 109, 32, 49, 32, 50, 32, 51, 10, 99, 108, 105, 101, 110, 116, 10, 99, 108, 111, 115, 101, 10] : Str) = txt [FL ++ numsL [1, 2, 3], Aw, [99, 108, 111, 115, 101]] := by
  rw [P7]; rfl
 rw [h, G6 (by rw [P7]; decide)]
 have e1 : CT RdS.zero (FL ++ numsL [1, 2, 3]) = some ⟨⟨1, 2, 3, [], [], []⟩, 1⟩ := Lw ⟨by decide, by decide⟩ ⟨by decide, by decide⟩ ⟨by decide, by decide⟩
 have e2 : CT ⟨⟨1, 2, 3, [], [], []⟩, 1⟩ Aw = some ⟨⟨1, 2, 3, [], [[]], []⟩, 3⟩ := I7 (r := ⟨⟨1, 2, 3, [], [], []⟩, 1⟩) ⟨by decide, by decide⟩
 have e3 : CT ⟨⟨1, 2, 3, [], [[]], []⟩, 3⟩ [99, 108, 111, 115, 101] = none := by rfl
 simp only [B4, e1, e2, e3]
set_option maxRecDepth 100000 in
theorem GS {w0 : World} (hm : Ix w0) (ht : Hx w0) (he : AtL w0) {S : St} {Q : AV → St → Prop} (hq : ∀ S', Sx S S' → Q (.bool true) S') : AC w0 DO [] S Q := by
 apply Jm
 unfold Ed
 refine B5 hm ht he (by simp) (fun S1 h1 => ⟨fun h => absurd (by rw [Kq]) h, fun _ ri rp rc cl hcl => ?_⟩)
 rw [Kq] at hcl ⊢
 refine B5 hm ht he (by simp) (fun S2 h2 => ⟨fun _ => ?_, fun h => absurd h (by rw [KJ]; simp)⟩)
 rw [KJ]
 obtain ⟨r0, rfl⟩ : ∃ r0, cl = [([opC], r0)] := by
  match cl, hcl with
  | [(os, r0)], hcl =>
   simp [Ko] at hcl
   subst hcl
   exact ⟨r0, rfl⟩
  | [], hcl => simp [Ko] at hcl
  | _ :: _ :: _, hcl => simp [Ko] at hcl
 simp [scC, Cl.c, Ko, ScN.zero, AJ, opC, OpN.c, HH, eqA, Ai, BK, Cp]
 exact hq _ (h1.trans h2)
set_option maxRecDepth 100000
open Go.Proofs
theorem G4 {s : ScN} {a b : List Str} (h : BM s = a ++ b) (hB : (Bi s).length ≤ 1000000000) : (txt a).length ≤ 1000000000 := by
 unfold Bi at hB
 rw [h, B3, List.length_append] at hB
 omega
theorem FW (a : List Str) (x : Str) : txt (a ++ [x]) = txt a ++ x ++ [10] := by
 rw [B3]; simp [txt]
set_option maxRecDepth 100000 in
theorem K4 {w0 : World} (ht : Hx w0) {S : St} {s : ScN} {ri rp rc : Rt} {cl : List Cl} (hok : s.ok) (hcl : cl.map (·.1) = s.clients) (hB : (Bi s).length ≤ 1000000000) (hi : ∀ x ∈ s.images, x.length ≤ 1048576) (hp : s.picks.length ≤ 1000000) (hni : s.images.length ≤ 1000000) (hnc : s.clients.length ≤ 1000000) (hno : ∀ os ∈ s.clients, os.length ≤ 1000000)
  (ho : ∀ os ∈ s.clients, ∀ o ∈ os, o.path.length ≤ 1048576 ∧ o.image.length ≤ 1048576) {Q : AV → St → Prop} (hq : ∀ S', Sx S S' → Q (.str (Bi s)) S') : AC w0 El [.agg (scC s ri rp rc cl)] S Q := by
 unfold scC
 apply JV
 unfold EX
 simp
 have hrow : ([[AV.int .i64 s.sh], [.int .i64 s.room], [.int .i64 s.cur]] : List (List AV)) = ([s.sh, s.room, s.cur] : List Int).map nC := rfl
 rw [hrow]
 refine Fc ht (by simp) (by simp) (by
  intro n hn
  simp at hn
  rcases hn with rfl | rfl | rfl
  ·exact hok.sh
  ·exact hok.room
  ·exact hok.cur) ?_
 rw [AJ]
 simp
 obtain ⟨IL, hIL⟩ : ∃ IL : Str → Str, IL = fun x => CX ++ 32 :: C4 x := ⟨_, rfl⟩
 obtain ⟨CL, hCL⟩ : ∃ CL : List OpN → List Str, CL = fun ops => Aw :: ops.map Aj := ⟨_, rfl⟩
 obtain ⟨L0, hL0⟩ : ∃ L0 : Str, L0 = FL ++ numsL [s.sh, s.room, s.cur] := ⟨_, rfl⟩
 have hlin : BM s = L0 :: (s.images.map IL ++ (s.clients.flatMap CL ++ (if s.picks = [] then [] else [Cm ++ numsL s.picks]))) := by rw [hIL, hCL, hL0]; rfl
 refine A1 s.images (fun i (_ : Unit) => ([.str (txt (L0 :: (s.images.map IL).take i)), .int .i64 i], [])) (fun i _ S' => Sx S S') () (by rw [hL0]; simp [txt]) (Sx.refl _) ?_ ?_
 ·rintro i _ S' v bx w hii hxi hd hcc hmem hSx hv
  simp at hv
  obtain ⟨hv1, hv2⟩ := hv
  have hwl := hi w hmem
  have hhl := FK w
  have hpre := G4 (a := L0 :: (s.images.map IL).take i) (b := (s.images.map IL).drop i ++ (s.clients.flatMap CL ++ (if s.picks = [] then [] else [Cm ++ numsL s.picks]))) (by
   rw [hlin]
   simp only [List.cons_append]
   rw [← List.append_assoc ((s.images.map IL).take i), List.take_append_drop]) hB
  simp [hv1, hv2, hcc, hxi]
  refine KV (by omega) (fun S2 hS2 => ?_)
  rw [AE (by simp; omega)]
  simp
  rw [AE (by simp; omega)]
  simp
  rw [AE (by simp; omega)]
  simp
  try simp (disch := omega) only [wrap64]
  refine .next hii () ?_ (hSx.trans hS2)
  have e : (s.images.map IL).take (i + 1) = (s.images.map IL).take i ++ [IL w] := by rw [List.take_succ, List.getElem?_map, hxi]; rfl
  have e2 : txt (L0 :: ((s.images.map IL).take i ++ [IL w])) = txt (L0 :: (s.images.map IL).take i) ++ IL w ++ [10] := by rw [← List.cons_append, FW]
  rw [e, e2]
  have e3 : IL w = CX ++ 32 :: C4 w := by rw [hIL]
  rw [e3]
  simp
 ·rintro _ S1 v bx hSx hv N
  simp at hv
  obtain ⟨hv1, hv2⟩ := hv
  obtain ⟨P, hP⟩ : ∃ P, P = L0 :: s.images.map IL := ⟨_, rfl⟩
  have hte : (s.images.map IL).take s.images.length = s.images.map IL := List.take_of_length_le (by simp)
  simp [hv1, hv2, hte]
  rw [AJ]
  have hcf : s.clients.flatMap CL = cl.flatMap fun c => CL c.1 := by rw [← hcl, List.flatMap_map]
  obtain ⟨PK, hPK⟩ : ∃ PK : List Str, PK = (if s.picks = [] then [] else [Cm ++ numsL s.picks]) := ⟨_, rfl⟩
  have hlin2 : BM s = P ++ ((cl.flatMap fun c => CL c.1) ++ PK) := by rw [hlin, hP, hcf, hPK]; rfl
  have hclen : cl.length ≤ 1000000 := by have := congrArg List.length hcl; simp at this; omega
  rw [← hP]
  refine A1 cl (fun i (_ : Unit) => ([.str (txt (P ++ (cl.take i).flatMap fun c => CL c.1)), .int .i64 i], [])) (fun i _ S' => Sx S S') () (by simp) hSx ?_ ?_
  ·rintro i _ S' v bx c hii hxi hd hcc hmem hSx hv
   simp at hv
   obtain ⟨hv1, hv2⟩ := hv
   have hcm : c.1 ∈ s.clients := by rw [← hcl]; exact List.mem_map_of_mem hmem
   have hc1 := ho c.1 hcm
   have hc2 := hok.ops c.1 hcm
   have hc3 := hno c.1 hcm
   have htk : (cl.take (i + 1)).flatMap (fun c => CL c.1) = (cl.take i).flatMap (fun c => CL c.1) ++ CL c.1 := by
    rw [List.take_succ, hxi]; simp
   have hsp : (cl.flatMap fun c => CL c.1) = (cl.take i).flatMap (fun c => CL c.1) ++ (CL c.1 ++ (cl.drop (i + 1)).flatMap (fun c => CL c.1)) := by
    conv => lhs; rw [← List.take_append_drop (i + 1) cl]
    rw [List.flatMap_append, htk, List.append_assoc]
   obtain ⟨A, hA⟩ : ∃ A, A = P ++ (cl.take i).flatMap (fun c => CL c.1) := ⟨_, rfl⟩
   have hlin3 : BM s = A ++ (CL c.1 ++ ((cl.drop (i + 1)).flatMap (fun c => CL c.1) ++ PK)) := by rw [hlin2, hsp, hA]; simp
   have hpA := G4 hlin3 hB
   simp [hcc, hv1, hv2]
   rw [← hA]
   refine Ir (fun j => ∀ S2, Sx S S2 → j (.str (txt (A ++ CL c.1))) S2) (fun S2 h2 => ?_) (fun j hj => ?_)
   ·try simp (disch := omega) only [wrap64]
    refine .next hii () ?_ h2
    rw [htk, ← List.append_assoc, ← hA]
    simp
   ·have hacc : txt A ++ [99, 108, 105, 101, 110, 116, 10] = txt (A ++ [Aw]) := by rw [FW]; simp
    simp [hxi, Cl.c]
    rw [AE (by simp; omega), hacc]
    simp
    refine A1 c.1 (fun q (_ : Unit) => ([.str (txt (A ++ Aw :: (c.1.map Aj).take q)), .int .i64 q], [])) (fun q _ S' => Sx S S') () (by simp) hSx ?_ ?_
    ·rintro q _ S3 v3 b3 op hqi hxq hdq hcq hmq hSq hv3
     simp at hv3
     obtain ⟨w1, w2⟩ := hv3
     obtain ⟨o1, o2⟩ := hc1 op hmq
     have hok2 := hc2 op hmq
     have htl := Iw hok2
     have hoc : op.c = [.int .i64 op.kind, .str op.path, .int .i64 op.off, .int .i64 op.n, .int .i64 op.id, .str op.image] := rfl
     have hpre := G4 (a := A ++ Aw :: (c.1.map Aj).take q) (b := (c.1.map Aj).drop q ++ ((cl.drop (i + 1)).flatMap (fun c => CL c.1) ++ PK)) (by
      rw [hlin3, hCL]
      simp only [List.append_assoc, List.cons_append]
      rw [← List.append_assoc ((c.1.map Aj).take q), List.take_append_drop]) hB
     simp [w1, w2, hcq, hxq, hoc]
     rw [← hoc]
     refine Nz ht hok2 o1 o2 (fun S4 hS4 => ?_)
     rw [AE (by simp; omega)]
     simp
     rw [AE (by simp; omega)]
     simp
     try simp (disch := omega) only [wrap64]
     refine .next hqi () ?_ (hSq.trans hS4)
     have e : (c.1.map Aj).take (q + 1) = (c.1.map Aj).take q ++ [Aj op] := by rw [List.take_succ, List.getElem?_map, hxq]; rfl
     have e2 : txt (A ++ Aw :: ((c.1.map Aj).take q ++ [Aj op])) = txt (A ++ Aw :: (c.1.map Aj).take q) ++ Aj op ++ [10] := by
      rw [← List.cons_append, ← List.append_assoc, FW]
     rw [e, e2]
     simp
    ·rintro _ S3 v3 b3 hSq hv3 N3
     simp at hv3
     obtain ⟨w1, w2⟩ := hv3
     have hte3 : (c.1.map Aj).take c.1.length = c.1.map Aj := List.take_of_length_le (by simp)
     simp [w1, w2, hte3]
     have := hj S3 hSq
     rw [hCL] at this
     exact this
  ·rintro _ S2 v bx hS2 hv N2
   simp at hv
   obtain ⟨hv1, hv2⟩ := hv
   simp [hv1, hv2, AJ]
   have hfin : Bi s = txt (P ++ cl.flatMap fun c => CL c.1) ++ txt PK := by
    rw [Bi, hlin2, ← List.append_assoc, B3]
   by_cases hpk : s.picks = []
   ·have : PK = [] := by rw [hPK, if_pos hpk]
    rw [this] at hfin
    simp [txt] at hfin
    simp [hpk]
    rw [← hfin]
    exact hq S2 hS2
   ·have hpos : 0 < s.picks.length := List.length_pos_iff.2 hpk
    have hPK2 : txt PK = Cm ++ numsL s.picks ++ [10] := by rw [hPK, if_neg hpk]; simp [txt]
    rw [hPK2] at hfin
    simp [hpos]
    refine Fc ht hp (by simp) hok.picks ?_
    have hl := congrArg List.length hfin
    simp at hl
    rw [AE (by simp; omega)]
    simp
    have := hq S2 hS2
    rw [hfin] at this
    simpa using this
set_option maxRecDepth 100000
open Go.Proofs
theorem IZ : ∀ (a b : List Int), numsL (a ++ b) = numsL a ++ numsL b
 | [], b => rfl
 | n :: a, b => by simp [numsL, IZ a b]
theorem FQ : ∀ {l : List Int}, (∀ n ∈ l, Cj n) → (numsL l).length ≤ 21 * l.length
 | [], _ => by simp [numsL]
 | n :: l, h => by
  have h1 := BP (h n (by simp))
  have h2 := FQ (l := l) (fun x hx => h x (by simp [hx]))
  simp [numsL]
  omega
theorem Jr : ∀ {l : List Str} {s : Str}, s ∈ l → s.length + 1 ≤ (txt l).length
 | [], _, h => by cases h
 | a :: l, s, h => by
  simp only [txt, List.length_append, List.length_cons]
  rcases List.mem_cons.1 h with rfl | h
  ·omega
  ·have := Jr h; omega
theorem Ly : ∀ (l : List Str), l.length ≤ (txt l).length
 | [] => by simp
 | a :: l => by
  have := Ly l
  simp only [txt, List.length_append, List.length_cons]
  omega
theorem Ia {s : ScN} (hm : HJ s = true) (hok : s.ok) {B : Nat} (hB : (Bi s).length ≤ B) : (∀ x ∈ s.images, x.length ≤ B) ∧ s.picks.length ≤ B ∧ s.images.length ≤ B ∧ s.clients.length ≤ B ∧ (∀ os ∈ s.clients, os.length ≤ B) ∧ (∀ os ∈ s.clients, ∀ o ∈ os, o.path.length ≤ B ∧ o.image.length ≤ B) := by
 have hc := Ly (BM s)
 unfold Bi at hB
 have hlen : (BM s).length = 1 + (s.images.length + ((s.clients.flatMap fun ops => Aw :: ops.map Aj).length + (if s.picks = [] then ([] : List Str) else [Cm ++ numsL s.picks]).length)) := by simp [BM]; omega
 have hfl : ∀ (l : List (List OpN)), l.length ≤ (l.flatMap fun ops => Aw :: ops.map Aj).length ∧ ∀ os ∈ l, os.length ≤ (l.flatMap fun ops => Aw :: ops.map Aj).length := by
  intro l
  induction l with
  | nil => simp
  | cons a l ih =>
   simp at ih ⊢
   refine ⟨by omega, by omega, fun os hos => ?_⟩
   have := ih.2 os hos
   omega
 obtain ⟨f1, f2⟩ := hfl s.clients
 have hcl : ∀ x ∈ (s.clients.flatMap fun ops => Aw :: ops.map Aj), x ∈ BM s := fun x hx => by simp only [BM, List.mem_cons, List.mem_append]; exact .inr (.inr (.inl hx))
 refine ⟨fun x hx => ?_, ?_, by omega, by omega, fun os hos => by have := f2 os hos; omega, fun os hos o ho => ?_⟩
 ·have h1 : CX ++ 32 :: C4 x ∈ BM s := by
   simp only [BM, List.mem_cons, List.mem_append, List.mem_map]
   exact .inr (.inl ⟨x, hx, rfl⟩)
  have := Jr h1
  have h2 := PD x
  simp at this
  omega
 ·by_cases hp : s.picks = []
  ·simp [hp]
  ·have h1 : Cm ++ numsL s.picks ∈ BM s := by
    simp only [BM, List.mem_cons, List.mem_append, if_neg hp]
    simp
   have := Jr h1
   have h2 : ∀ l : List Int, l.length ≤ (numsL l).length := fun l => by
    induction l with
    | nil => simp
    | cons n l ih => simp [numsL]; omega
   have h3 := h2 s.picks
   simp at this
   omega
 ·have h1 : Aj o ∈ BM s := hcl _ (List.mem_flatMap.2 ⟨os, hos, by simp; exact .inr ⟨o, ho, rfl⟩⟩)
  have := Jr h1
  have ho1 : CD o = true := by
   unfold HJ at hm
   rw [List.all_eq_true] at hm
   have := hm os hos
   rw [List.all_eq_true] at this
   exact this o ho
  have h3 := Or (Kl ho1 (hok.ops os hos o ho))
  omega
set_option maxRecDepth 100000 in
theorem Eb {w0 : World} {S : St} {s : ScN} {ri rp rc : Rt} {cl : List Cl} {Q : AV → St → Prop} (hq : ∀ ri rp rc : Rt, Q (.agg (scC s ri rp rc cl)) S) : AC w0 C6 [.agg (scC s ri rp rc cl)] S Q := by
 unfold scC
 apply Ny
 unfold Hm
 simp
 exact hq _ _ _
set_option maxRecDepth 100000 in
theorem JT {w0 : World} {S : St} {s : ScN} {ri rp rc : Rt} {cl : List Cl} (hcl : cl.map (·.1) = s.clients) (ho : ∀ os ∈ s.clients, os.length ≤ 1000000 ∧ ∀ o ∈ os, o.path.length ≤ 1048576) (hl : s.clients.length ≤ 1000000) {Q : AV → St → Prop} (hq : Q (.bool (HJ s)) S) : AC w0 D5 [.agg (scC s ri rp rc cl)] S Q := by
 have hlen : cl.length = s.clients.length := by rw [← hcl, List.length_map]
 have hall : HJ s = cl.all fun c => c.1.all CD := by rw [HJ, ← hcl, List.all_map]; rfl
 rw [hall] at hq
 unfold scC
 apply Mr
 unfold GV
 simp
 rw [AJ]
 refine A1 cl (fun i (_ : Unit) => ([.int .i64 i], [some (scC s ri rp rc cl)])) (fun i _ S' => S' = S ∧ ∀ c ∈ cl.take i, (c.1.all CD) = true) () (by simp [scC]) ⟨rfl, by simp⟩ ?_ ?_
 ·rintro i _ S' v bx c hii hxi hd hcc hmem ⟨rfl, hal⟩ hv
  simp at hv
  obtain ⟨hv1, hv2⟩ := hv
  have hcm : c.1 ∈ s.clients := by rw [← hcl]; exact List.mem_map_of_mem hmem
  obtain ⟨ho1, ho2⟩ := ho c.1 hcm
  have htk : cl.take (i + 1) = cl.take i ++ [c] := by rw [List.take_succ, hxi]; rfl
  simp [hv1, hv2, scC, hcc]
  refine Ir (fun j => c.1.all CD = true → j (some (scC s ri rp rc cl)) S') (fun hc => ?_) (fun j hj => ?_)
  ·simp [scC]
   try simp (disch := omega) only [wrap64]
   have hnew : ∀ x ∈ cl.take (i + 1), x.1.all CD = true := fun x hx => by
    rw [htk] at hx
    rcases List.mem_append.1 hx with hx | hx
    ·exact hal x hx
    ·rw [List.mem_singleton] at hx; subst hx; exact hc
   refine .next hii () (by simp [scC]) ⟨rfl, ?_⟩
   simpa using hnew
  ·refine A1 c.1 (fun q (_ : Unit) => ([.int .i64 q], [some (scC s ri rp rc cl)])) (fun q _ S2 => S2 = S' ∧ ∀ o ∈ c.1.take q, CD o = true) () (by simp [scC]) ⟨rfl, by simp⟩ ?_ ?_
   ·rintro q _ S3 v3 b3 o hqi hxq hdq hcq hmq ⟨rfl, hal3⟩ hv3
    simp at hv3
    obtain ⟨w1, w2⟩ := hv3
    have hoc : o.c = [.int .i64 o.kind, .str o.path, .int .i64 o.off, .int .i64 o.n, .int .i64 o.id, .str o.image] := rfl
    simp [w1, w2, scC, hxi, Cl.c, hcq, hxq, hoc]
    rw [← hoc]
    refine Ma (ho2 o hmq) ?_
    cases hon : CD o with
    | false =>
     have e : (cl.all fun c => c.1.all CD) = false := by
      rw [← Bool.not_eq_true, List.all_eq_true]
      intro h
      have := h c hmem
      rw [List.all_eq_true] at this
      rw [this o hmq] at hon
      cases hon
     rw [e] at hq
     simp
     exact hq
    | true =>
     simp
     try simp (disch := omega) only [wrap64]
     refine .next hqi () (by simp [scC]) ⟨rfl, fun x hx => ?_⟩
     rw [List.take_succ, hxq] at hx
     rcases List.mem_append.1 hx with hx | hx
     ·exact hal3 x hx
     ·simp at hx; subst hx; exact hon
   ·rintro _ S3 v3 b3 ⟨rfl, hal3⟩ hv3 N3
    simp at hv3
    obtain ⟨w1, w2⟩ := hv3
    rw [List.take_length] at hal3
    simp [w1, w2, scC, hxi, Cl.c]
    have := hj (List.all_eq_true.2 hal3)
    simpa [scC] using this
 ·rintro _ S' v bx ⟨rfl, hal⟩ hv N
  simp at hv
  obtain ⟨hv1, hv2⟩ := hv
  rw [List.take_length] at hal
  rw [List.all_eq_true.2 hal] at hq
  simp [hv1, hv2, scC]
  exact hq
set_option maxRecDepth 100000 in
theorem HM {w0 : World} {S : St} {s : ScN} {ri rp rc : Rt} {cl : List Cl} (hok : s.ok) (hcl : cl.map (·.1) = s.clients) (hB : (Bi s).length ≤ 1000000000) (hi : ∀ x ∈ s.images, x.length ≤ 1048576) (hp : s.picks.length ≤ 1000000) (hni : s.images.length ≤ 1000000) (hnc : s.clients.length ≤ 1000000) (hno : ∀ os ∈ s.clients, os.length ≤ 1000000)
  (ho : ∀ os ∈ s.clients, ∀ o ∈ os, o.path.length ≤ 1048576 ∧ o.image.length ≤ 1048576) {Q : AV → St → Prop} (hq : Q (.str (Bi s)) S) : AC w0 CK [.agg (scC s ri rp rc cl)] S Q := by
 obtain ⟨k0, hk0⟩ : ∃ k, k = scC s ri rp rc cl := ⟨_, rfl⟩
 have hsc : scC s ri rp rc cl = [.int .i64 s.sh, .int .i64 s.room, .int .i64 s.cur, .vs 1 (s.images.map Dj) ri, .vs 1 (cl.map Cl.c) rc, .vs 1 (s.picks.map nC) rp] := rfl
 unfold scC
 apply Kw
 unfold FG
 simp
 refine Bo (s.sh.natAbs + 1) hok.sh (by omega) ?_
 try simp
 have l1 := BP hok.sh
 have l2 := BP hok.room
 have l3 := BP hok.cur
 rw [AE (by first | omega | (simp; omega))]
 simp
 rw [AE (by first | omega | (simp; omega))]
 simp
 refine Bo (s.room.natAbs + 1) hok.room (by omega) ?_
 rw [AE (by first | omega | (simp; omega))]
 simp
 rw [AE (by first | omega | (simp; omega))]
 simp
 refine Bo (s.cur.natAbs + 1) hok.cur (by omega) ?_
 rw [AE (by first | omega | (simp; omega))]
 simp
 rw [AE (by first | omega | (simp; omega))]
 simp
 rw [AJ]
 obtain ⟨IL, hIL⟩ : ∃ IL : Str → Str, IL = fun x => CX ++ 32 :: C4 x := ⟨_, rfl⟩
 obtain ⟨CL, hCL⟩ : ∃ CL : List OpN → List Str, CL = fun ops => Aw :: ops.map Aj := ⟨_, rfl⟩
 obtain ⟨L0, hL0⟩ : ∃ L0 : Str, L0 = FL ++ numsL [s.sh, s.room, s.cur] := ⟨_, rfl⟩
 have hlin : BM s = L0 :: (s.images.map IL ++ (s.clients.flatMap CL ++ (if s.picks = [] then [] else [Cm ++ numsL s.picks]))) := by rw [hIL, hCL, hL0]; rfl
 refine A1 s.images (fun i (_ : Unit) => ([.str (txt (L0 :: (s.images.map IL).take i)), .int .i64 i], [some (scC s ri rp rc cl)])) (fun i _ S' => S' = S) () (by rw [hL0, hsc]; simp [txt, numsL]) rfl ?_ ?_
 ·rintro i _ S' v bx w hii hxi hd hcc hmem rfl hv
  simp at hv
  obtain ⟨⟨hv1, hv2⟩, hv3⟩ := hv
  have hwl := hi w hmem
  have hhl := FK w
  have hpre := G4 (a := L0 :: (s.images.map IL).take i) (b := (s.images.map IL).drop i ++ (s.clients.flatMap CL ++ (if s.picks = [] then [] else [Cm ++ numsL s.picks]))) (by
   rw [hlin]
   simp only [List.cons_append]
   rw [← List.append_assoc ((s.images.map IL).take i), List.take_append_drop]) hB
  simp [hv1, hv2, hv3, scC, hcc, hxi]
  rw [AE (by first | omega | (simp; omega))]
  simp
  refine JB (by omega) ?_
  rw [AE (by first | omega | (simp; omega))]
  simp
  rw [AE (by first | omega | (simp; omega))]
  simp
  try simp (disch := omega) only [wrap64]
  refine .next hii () ?_ rfl
  have e : (s.images.map IL).take (i + 1) = (s.images.map IL).take i ++ [IL w] := by rw [List.take_succ, List.getElem?_map, hxi]; rfl
  have e2 : txt (L0 :: ((s.images.map IL).take i ++ [IL w])) = txt (L0 :: (s.images.map IL).take i) ++ IL w ++ [10] := by rw [← List.cons_append, FW]
  rw [e, e2]
  have e3 : IL w = CX ++ 32 :: C4 w := by rw [hIL]
  rw [e3]
  simp [hsc]
 ·rintro _ S1 v bx rfl hv N
  simp at hv
  obtain ⟨⟨hv1, hv2⟩, hv3⟩ := hv
  obtain ⟨P, hP⟩ : ∃ P, P = L0 :: s.images.map IL := ⟨_, rfl⟩
  have hte : (s.images.map IL).take s.images.length = s.images.map IL := List.take_of_length_le (by simp)
  simp [hv1, hv2, hv3, scC, hte]
  rw [AJ]
  have hcf : s.clients.flatMap CL = cl.flatMap fun c => CL c.1 := by rw [← hcl, List.flatMap_map]
  obtain ⟨PK, hPK⟩ : ∃ PK : List Str, PK = (if s.picks = [] then [] else [Cm ++ numsL s.picks]) := ⟨_, rfl⟩
  have hlin2 : BM s = P ++ ((cl.flatMap fun c => CL c.1) ++ PK) := by rw [hlin, hP, hcf, hPK]; rfl
  have hclen : cl.length ≤ 1000000 := by have := congrArg List.length hcl; simp at this; omega
  rw [← hP]
  refine A1 cl (fun i (_ : Unit) => ([.str (txt (P ++ (cl.take i).flatMap fun c => CL c.1)), .int .i64 i], [some (scC s ri rp rc cl)])) (fun i _ S' => S' = S1) () (by simp [hsc]) rfl ?_ ?_
  ·rintro i _ S' v bx c hii hxi hd hcc hmem rfl hv
   simp at hv
   obtain ⟨⟨hv1, hv2⟩, hv3⟩ := hv
   have hcm : c.1 ∈ s.clients := by rw [← hcl]; exact List.mem_map_of_mem hmem
   have hc1 := ho c.1 hcm
   have hc2 := hok.ops c.1 hcm
   have hc3 := hno c.1 hcm
   have htk : (cl.take (i + 1)).flatMap (fun c => CL c.1) = (cl.take i).flatMap (fun c => CL c.1) ++ CL c.1 := by
    rw [List.take_succ, hxi]; simp
   have hsp : (cl.flatMap fun c => CL c.1) = (cl.take i).flatMap (fun c => CL c.1) ++ (CL c.1 ++ (cl.drop (i + 1)).flatMap (fun c => CL c.1)) := by
    conv => lhs; rw [← List.take_append_drop (i + 1) cl]
    rw [List.flatMap_append, htk, List.append_assoc]
   obtain ⟨A, hA⟩ : ∃ A, A = P ++ (cl.take i).flatMap (fun c => CL c.1) := ⟨_, rfl⟩
   have hlin3 : BM s = A ++ (CL c.1 ++ ((cl.drop (i + 1)).flatMap (fun c => CL c.1) ++ PK)) := by rw [hlin2, hsp, hA]; simp
   have hpA := G4 hlin3 hB
   simp [hcc, hv1, hv2, hv3, scC]
   rw [← hA]
   refine Ir (fun j => j (.str (txt (A ++ CL c.1))) (some (scC s ri rp rc cl)) S') ?_ (fun j hj => ?_)
   ·try simp [scC]
    try simp (disch := omega) only [wrap64]
    refine .next hii () ?_ rfl
    rw [htk, ← List.append_assoc, ← hA]
    simp [hsc]
   ·have hacc : txt A ++ [99, 108, 105, 101, 110, 116, 10] = txt (A ++ [Aw]) := by rw [FW]; simp
    rw [AE (by simp; omega), hacc]
    simp
    refine A1 c.1 (fun q (_ : Unit) => ([.str (txt (A ++ Aw :: (c.1.map Aj).take q)), .int .i64 q], [some (scC s ri rp rc cl)])) (fun q _ S2 => S2 = S') () (by simp [hsc]) rfl ?_ ?_
    ·rintro q _ S3 v3 b3 op hqi hxq hdq hcq hmq rfl hv3
     simp at hv3
     obtain ⟨⟨w1, w2⟩, w3⟩ := hv3
     obtain ⟨o1, o2⟩ := hc1 op hmq
     have hok2 := hc2 op hmq
     have htl := Iw hok2
     have hoc : op.c = [.int .i64 op.kind, .str op.path, .int .i64 op.off, .int .i64 op.n, .int .i64 op.id, .str op.image] := rfl
     have hpre := G4 (a := A ++ Aw :: (c.1.map Aj).take q) (b := (c.1.map Aj).drop q ++ ((cl.drop (i + 1)).flatMap (fun c => CL c.1) ++ PK)) (by
      rw [hlin3, hCL]
      simp only [List.append_assoc, List.cons_append]
      rw [← List.append_assoc ((c.1.map Aj).take q), List.take_append_drop]) hB
     simp [w1, w2, w3, scC, hxi, Cl.c, hcq, hxq, hoc]
     rw [← hoc]
     refine MK hok2 o1 o2 ?_
     rw [AE (by first | omega | (simp; omega))]
     simp
     rw [AE (by first | omega | (simp; omega))]
     simp
     try simp (disch := omega) only [wrap64]
     refine .next hqi () ?_ rfl
     have e : (c.1.map Aj).take (q + 1) = (c.1.map Aj).take q ++ [Aj op] := by rw [List.take_succ, List.getElem?_map, hxq]; rfl
     have e2 : txt (A ++ Aw :: ((c.1.map Aj).take q ++ [Aj op])) = txt (A ++ Aw :: (c.1.map Aj).take q) ++ Aj op ++ [10] := by
      rw [← List.cons_append, ← List.append_assoc, FW]
     rw [e, e2]
     simp [hsc, Cl.c]
    ·rintro _ S3 v3 b3 rfl hv3 N3
     simp at hv3
     obtain ⟨⟨w1, w2⟩, w3⟩ := hv3
     have hte3 : (c.1.map Aj).take c.1.length = c.1.map Aj := List.take_of_length_le (by simp)
     simp [w1, w2, w3, scC, hxi, Cl.c, hte3]
     have := hj
     rw [hCL] at this
     simpa [scC, Cl.c] using this
  ·rintro _ S2 v bx rfl hv N2
   simp at hv
   obtain ⟨⟨hv1, hv2⟩, hv3⟩ := hv
   simp [hv1, hv2, hv3, scC, AJ]
   have hfin : Bi s = txt (P ++ cl.flatMap fun c => CL c.1) ++ txt PK := by
    rw [Bi, hlin2, ← List.append_assoc, B3]
   by_cases hpk : s.picks = []
   ·have : PK = [] := by rw [hPK, if_pos hpk]
    rw [this] at hfin
    simp [txt] at hfin
    simp [hpk]
    rw [← hfin]
    exact hq
   ·have hpos : 0 < s.picks.length := List.length_pos_iff.2 hpk
    have hPK2 : txt PK = Cm ++ numsL s.picks ++ [10] := by rw [hPK, if_neg hpk]; simp [txt]
    rw [hPK2] at hfin
    obtain ⟨T, hT⟩ : ∃ T, T = txt (P ++ cl.flatMap fun c => CL c.1) := ⟨_, rfl⟩
    rw [← hT] at hfin ⊢
    have hl := congrArg List.length hfin
    simp at hl
    have hnl := FQ hok.picks
    simp [hpos]
    rw [AE (by first | omega | (simp; omega))]
    simp
    refine A1 s.picks (fun q (_ : Unit) => ([.str (T ++ Cm ++ numsL (s.picks.take q)), .int .i64 q], [some (scC s ri rp rc cl)])) (fun q _ S3 => S3 = S2) () (by simp [hsc, numsL]) rfl ?_ ?_
    ·rintro q _ S3 v3 b3 n hqi hxq hdq hcq hmq rfl hv3
     simp at hv3
     obtain ⟨⟨w1, w2⟩, w3⟩ := hv3
     have hn := hok.picks n hmq
     have hnn := BP hn
     have htq : numsL (s.picks.take (q + 1)) = numsL (s.picks.take q) ++ (32 :: BT n) := by rw [List.take_succ, hxq, IZ]; simp [numsL]
     have hql : (numsL (s.picks.take q)).length ≤ 21 * s.picks.length := by
      have := FQ (l := s.picks.take q) (fun x hx => hok.picks x (List.take_subset _ _ hx))
      rw [List.length_take] at this
      have h2 : min q s.picks.length ≤ s.picks.length := Nat.min_le_right _ _
      have h3 := Nat.mul_le_mul_left 21 h2
      omega
     simp [w1, w2, w3, scC, hcq, hxq, nC]
     rw [AE (by first | omega | (simp; omega))]
     simp
     refine Bo (n.natAbs + 1) hn (by omega) ?_
     rw [AE (by first | omega | (simp; omega))]
     simp
     try simp (disch := omega) only [wrap64]
     refine .next hqi () ?_ rfl
     rw [htq]
     simp [hsc, nC]
    ·rintro _ S3 v3 b3 rfl hv3 N3
     simp at hv3
     obtain ⟨⟨w1, w2⟩, w3⟩ := hv3
     simp [w1, w2, w3, scC]
     rw [AE (by first | omega | (simp; omega))]
     simp
     have := hq
     rw [hfin] at this
     simpa using this
open Go.Proofs
theorem inR.ok {r : Rt} {α : Type} {l : List α} (h : inR r l) : r.strip = r ∧ (r = .nil → l = []) := by
 rcases h with ⟨rfl, h⟩ | rfl
 ·exact ⟨rfl, fun _ => h⟩
 ·exact ⟨rfl, fun e => by cases e⟩
theorem Sp (ys : List AV) (h : TT Hw ys) : ∃ c : Cl, ys = Cl.c c ∧ (c.1.length ≤ 1048576 ∧ ∀ o ∈ c.1, o.ok ∧ o.path.length ≤ 1048576 ∧ o.image.length ≤ 1048576) := by
 obtain ⟨l, r, rfl, hr, hl, ho⟩ := FT (enc := OpN.c) (ok := fun o => o.ok ∧ o.path.length ≤ 1048576 ∧ o.image.length ≤ 1048576) h Na PX Rs
 exact ⟨(l, r), rfl, hl, ho⟩
theorem TD (ys : List AV) (h : TT PA ys) : ∃ n : Int, ys = nC n ∧ Cj n := by
 obtain ⟨n, rfl, h1, h2⟩ := EL h Fh
 exact ⟨n, rfl, h1, h2⟩
set_option maxRecDepth 100000 in
theorem TyV.script {x : AV} (h : TV EE x) : ∃ (s : ScN) (ri rp rc : Rt) (cl : List Cl), x = .agg (scC s ri rp rc cl) ∧ cl.map (·.1) = s.clients ∧ s.ok ∧
  (s.images.length ≤ 1048576 ∧ s.clients.length ≤ 1048576 ∧ s.picks.length ≤ 1048576 ∧ (∀ t ∈ s.images, t.length ≤ 1048576) ∧ ∀ os ∈ s.clients, os.length ≤ 1048576 ∧ ∀ o ∈ os, o.path.length ≤ 1048576 ∧ o.image.length ≤ 1048576) := by
 obtain ⟨xs, rfl, h2⟩ := h.agg (by simp [isAgg, Fd])
 obtain ⟨hl, hf⟩ := h2.struct_inv Fd
 match xs, hl with
 | [a0, a1, a2, a3, a4, a5], _ =>
  have m0 := hf _ (List.mem_cons_self)
  have m1 := hf _ (List.mem_cons_of_mem _ List.mem_cons_self)
  have m2 := hf _ (List.mem_cons_of_mem _ (List.mem_cons_of_mem _ List.mem_cons_self))
  have m3 := hf _ (List.mem_cons_of_mem _ (List.mem_cons_of_mem _ (List.mem_cons_of_mem _ List.mem_cons_self)))
  obtain ⟨_, hg⟩ := m0.struct_inv Ih
  obtain ⟨k0, e0, q0⟩ := EL (hg _ (List.mem_cons_self)) Fh
  obtain ⟨k1, e1, q1⟩ := EL (hg _ (List.mem_cons_of_mem _ List.mem_cons_self)) Fh
  obtain ⟨k2, e2, q2⟩ := EL (hg _ (List.mem_cons_of_mem _ (List.mem_cons_of_mem _ List.mem_cons_self))) Fh
  obtain ⟨im, ri, e3, _, hil, hio⟩ := FT (enc := Dj) (ok := fun s => s.length ≤ 1048576) m1 NK Pf Ra
  obtain ⟨cl, rc, e4, _, hcl, hco⟩ := FT (enc := Cl.c) (ok := fun c => c.1.length ≤ 1048576 ∧ ∀ o ∈ c.1, o.ok ∧ o.path.length ≤ 1048576 ∧ o.image.length ≤ 1048576) m2 Lc Nk Sp
  obtain ⟨pk, rp, e5, _, hpl, hpo⟩ := FT (enc := nC) (ok := fun n => Cj n) m3 Qv TX TD
  cases e0; cases e1; cases e2; cases e3; cases e4; cases e5
  refine ⟨⟨k0, k1, k2, im, cl.map (·.1), pk⟩, ri, rp, rc, cl, rfl, rfl, ⟨q0, q1, q2, hpo, ?_⟩, hil, by simpa using hcl, hpl, hio, ?_⟩
  ·intro ops hops o ho
   obtain ⟨c, hc, rfl⟩ := List.mem_map.1 hops
   exact ((hco c hc).2 o ho).1
  ·intro ops hops
   obtain ⟨c, hc, rfl⟩ := List.mem_map.1 hops
   exact ⟨(hco c hc).1, fun o ho => ((hco c hc).2 o ho).2⟩
set_option maxRecDepth 100000
open Go.Proofs
def P4 (s : ScN) : Prop := s.images.length ≤ 20 ∧ s.clients.length ≤ 70 ∧ s.picks.length ≤ 500 ∧ (∀ x ∈ s.images, x.length ≤ 3000) ∧ s.clients.flatten.length ≤ 100 ∧ ∀ o ∈ s.clients.flatten, IK o = true
theorem QF {l : List (List OpN)} {os : List OpN} (h : os ∈ l) : os.length ≤ l.flatten.length := by
 induction l with
 | nil => cases h
 | cons a l ih =>
  rw [List.flatten_cons, List.length_append]
  rcases List.mem_cons.1 h with rfl | h
  ·omega
  ·have := ih h; omega
theorem Pj {s : ScN} (h : P4 s) (hok : s.ok) : (Bi s).length ≤ 900000 := by
 obtain ⟨h1, h2, h3, h4, h5, h6⟩ := h
 have a1 : ∀ l : List Str, (∀ x ∈ l, x.length ≤ 3000) → (txt (l.map fun x => CX ++ 32 :: C4 x)).length ≤ 6010 * l.length := by
  intro l
  induction l with
  | nil => intro _; simp [txt]
  | cons x l ih =>
   intro hx
   have := ih (fun y hy => hx y (by simp [hy]))
   have h0 := hx x (by simp)
   have := FK x
   simp [txt] at *
   omega
 have a2 : ∀ l : List OpN, (∀ o ∈ l, IK o = true ∧ o.ok) → (txt (l.map Aj)).length ≤ 5201 * l.length := by
  intro l
  induction l with
  | nil => intro _; simp [txt]
  | cons o l ih =>
   intro ho
   have := ih (fun y hy => ho y (by simp [hy]))
   obtain ⟨h0, h01⟩ := ho o (by simp)
   have := Iw h01
   have := Nw.1 h0
   simp [txt]
   omega
 have a3 : ∀ l : List (List OpN), (∀ os ∈ l, ∀ o ∈ os, IK o = true ∧ o.ok) → (txt (l.flatMap fun ops => Aw :: ops.map Aj)).length ≤ 7 * l.length + 5201 * l.flatten.length := by
  intro l
  induction l with
  | nil => intro _; simp [txt]
  | cons os l ih =>
   intro ho
   have := ih (fun y hy => ho y (by simp [hy]))
   have h0 := a2 os (ho os (by simp))
   rw [List.flatMap_cons, B3, List.length_append]
   simp [txt] at *
   omega
 have b1 := a1 s.images h4
 have b2 := a3 s.clients (fun os hos o ho => ⟨h6 o (List.mem_flatten.2 ⟨os, hos, ho⟩), hok.ops os hos o ho⟩)
 have b3 : (txt (if s.picks = [] then ([] : List Str) else [Cm ++ numsL s.picks])).length ≤ 21 * s.picks.length + 10 := by
  have := FQ hok.picks
  split
  ·simp [txt]
  ·simp [txt]; omega
 have b4 : (numsL [s.sh, s.room, s.cur]).length ≤ 63 := by
  have := FQ (l := [s.sh, s.room, s.cur]) (by
   intro n hn
   simp at hn
   rcases hn with rfl | rfl | rfl
   ·exact hok.sh
   ·exact hok.room
   ·exact hok.cur)
  simpa using this
 have e : Bi s = (FL ++ numsL [s.sh, s.room, s.cur]) ++ 10 :: (txt (s.images.map fun x => CX ++ 32 :: C4 x) ++ (txt (s.clients.flatMap fun ops => Aw :: ops.map Aj) ++ txt (if s.picks = [] then ([] : List Str) else [Cm ++ numsL s.picks]))) := by
  rw [Bi, BM, txt, B3, B3]
 rw [e]
 simp only [List.length_append, List.length_cons, List.length_nil]
 omega
set_option maxRecDepth 100000 in
theorem LO {w0 : World} {S : St} {s : ScN} {ri rp rc : Rt} {cl : List Cl} (hcl : cl.map (·.1) = s.clients) (hl : ∀ os ∈ s.clients, os.length ≤ 1048576) {Q : AV → St → Prop} (h1 : Q (.bool false) S) (h2 : P4 s → Q (.bool true) S) : AC w0 E9 [.agg (scC s ri rp rc cl)] S Q := by
 have hlen : cl.length = s.clients.length := by rw [← hcl, List.length_map]
 unfold scC
 apply KB
 unfold E8
 by_cases c1 : 20 < s.images.length
 ·simp [AJ, show (20 : Int) < s.images.length by omega]
  exact h1
 by_cases c2 : 70 < cl.length
 ·simp [AJ, show ¬ (20 : Int) < s.images.length by omega, show (70 : Int) < cl.length by omega]
  exact h1
 by_cases c3 : 500 < s.picks.length
 ·simp [AJ, show ¬ (20 : Int) < s.images.length by omega, show ¬ (70 : Int) < cl.length by omega, show (500 : Int) < s.picks.length by omega]
  exact h1
 simp [AJ, show ¬ (20 : Int) < s.images.length by omega, show ¬ (70 : Int) < cl.length by omega, show ¬ (500 : Int) < s.picks.length by omega]
 refine A1 s.images (fun i (_ : Unit) => ([.int .i64 i], [])) (fun i _ S' => S' = S ∧ ∀ x ∈ s.images.take i, x.length ≤ 3000) () rfl ⟨rfl, by simp⟩ ?_ ?_
 ·rintro i _ S' v bx w hii hxi hd hcc hmem ⟨rfl, hal⟩ hv
  simp at hv
  simp [hv, hcc, hxi]
  by_cases c4 : 3000 < w.length
  ·simp [show (3000 : Int) < w.length by omega]
   exact h1
  ·simp [show ¬ (3000 : Int) < w.length by omega]
   try simp (disch := omega) only [wrap64]
   refine .next hii () rfl ⟨rfl, fun x hx => ?_⟩
   rw [List.take_succ, hxi] at hx
   rcases List.mem_append.1 hx with hx | hx
   ·exact hal x hx
   ·simp at hx; subst hx; omega
 ·rintro _ S' v bx ⟨rfl, hal⟩ hv N
  simp at hv
  rw [List.take_length] at hal
  simp [hv]
  refine A1 cl (fun i (n : Nat) => ([.int .i64 n, .int .i64 i], [])) (fun i n S2 => S2 = S' ∧ n ≤ 100 ∧ n = ((cl.take i).flatMap (·.1)).length ∧ ∀ o ∈ (cl.take i).flatMap (·.1), IK o = true) 0 rfl ⟨rfl, by omega, by simp, by simp⟩ ?_ ?_
  ·rintro i n S2 v2 b2 c hii hxi hd hcc hmem ⟨rfl, hn, hne, hal2⟩ hv2
   simp at hv2
   obtain ⟨w1, w2⟩ := hv2
   have hc1 := hl c.1 (by rw [← hcl]; exact List.mem_map_of_mem hmem)
   simp [w1, w2, hcc, hxi, Cl.c]
   try simp (disch := omega) only [wrap64]
   by_cases c5 : 100 < n + c.1.length
   ·simp [show (100 : Int) < (n : Int) + c.1.length by omega]
    exact h1
   ·simp [show ¬ (100 : Int) < (n : Int) + c.1.length by omega]
    refine N7 (by omega) ?_
    by_cases c6 : Of c.1 100 = true
    ·simp [c6]
     try simp (disch := omega) only [wrap64]
     have htk : (cl.take (i + 1)).flatMap (·.1) = (cl.take i).flatMap (·.1) ++ c.1 := by rw [List.take_succ, hxi]; simp
     have hnew : ∀ o ∈ (cl.take (i + 1)).flatMap (·.1), IK o = true := fun o ho => by
      rw [htk] at ho
      rcases List.mem_append.1 ho with ho | ho
      ·exact hal2 o ho
      ·exact (IW.1 c6).2 o ho
     have hne2 : n + c.1.length = ((cl.take (i + 1)).flatMap (·.1)).length := by rw [htk, List.length_append, ← hne]
     refine .next hii (n + c.1.length) (by simp) ⟨rfl, by omega, by simpa using hne2, by simpa using hnew⟩
    ·simp [c6]
     exact h1
  ·rintro n S2 v2 b2 ⟨rfl, hn, hne, hal2⟩ hv2 N2
   simp at hv2
   obtain ⟨w1, w2⟩ := hv2
   have hff : s.clients.flatten = cl.flatMap (·.1) := by rw [← hcl, List.flatMap_def]
   rw [List.take_length] at hal2 hne
   simp [w1, w2]
   exact h2 ⟨by omega, by omega, by omega, hal, by rw [hff]; omega, by rw [hff]; exact hal2⟩
set_option maxRecDepth 100000 in
theorem IY {w0 : World} {S : St} {s : ScN} {ri rp rc ri2 rp2 rc2 : Rt} {cl cl2 : List Cl} (hcl : cl.map (·.1) = s.clients) (hcl2 : cl2.map (·.1) = s.clients) (hb : s.images.length ≤ 1048576 ∧ s.clients.length ≤ 1048576 ∧ s.picks.length ≤ 1048576 ∧ ∀ os ∈ s.clients, os.length ≤ 1048576) {Q : AV → St → Prop} (hq : Q (.bool true) S) : AC w0 EJ [.agg (scC s ri rp rc cl), .agg (scC s ri2 rp2 rc2 cl2)] S Q := by
 obtain ⟨b1, b2, b3, b4⟩ := hb
 have hlen : cl.length = s.clients.length := by rw [← hcl, List.length_map]
 have hlen2 : cl2.length = s.clients.length := by rw [← hcl2, List.length_map]
 obtain ⟨X, hX⟩ : ∃ X, X = scC s ri rp rc cl := ⟨_, rfl⟩
 obtain ⟨Y, hY⟩ : ∃ Y, Y = scC s ri2 rp2 rc2 cl2 := ⟨_, rfl⟩
 have hX2 : X = [.int .i64 s.sh, .int .i64 s.room, .int .i64 s.cur, .vs 1 (s.images.map Dj) ri, .vs 1 (cl.map Cl.c) rc, .vs 1 (s.picks.map nC) rp] := hX
 have hY2 : Y = [.int .i64 s.sh, .int .i64 s.room, .int .i64 s.cur, .vs 1 (s.images.map Dj) ri2, .vs 1 (cl2.map Cl.c) rc2, .vs 1 (s.picks.map nC) rp2] := hY
 unfold scC
 apply LF
 unfold Fj
 simp [AJ, hlen, hlen2, HH, eqA, Ai, BK, Cp]
 refine A1 s.images (fun i (_ : Unit) => ([.int .i64 i], [some X, some Y])) (fun i _ S' => S' = S) () (by simp [hX2, hY2]) rfl ?_ ?_
 ·rintro i _ S' v bx w hii hxi hd hcc hmem rfl hv
  simp at hv
  obtain ⟨hv1, hv2, hv3⟩ := hv
  simp [hv1, hv2, hv3, hcc, hxi, hX2, hY2]
  try simp (disch := omega) only [wrap64]
  exact .next hii () (by simp [hX2, hY2]) rfl
 ·rintro _ S' v bx rfl hv N
  simp at hv
  obtain ⟨hv1, hv2, hv3⟩ := hv
  simp [hv1, hv2, hv3, hX2, hY2]
  refine A1 s.picks (fun i (_ : Unit) => ([.int .i64 i], [some X, some Y])) (fun i _ S2 => S2 = S') () (by simp [hX2, hY2]) rfl ?_ ?_
  ·rintro i _ S2 v2 b2 n hii hxi hd hcc hmem rfl hv2
   simp at hv2
   obtain ⟨w1, w2, w3⟩ := hv2
   simp [w1, w2, w3, hcc, hxi, hX2, hY2, nC]
   try simp (disch := omega) only [wrap64]
   exact .next hii () (by simp [hX2, hY2, nC]) rfl
  ·rintro _ S2 v2 b2 rfl hv2 N2
   simp at hv2
   obtain ⟨w1, w2, w3⟩ := hv2
   simp [w1, w2, w3, hX2, hY2]
   refine A1 cl (fun i (_ : Unit) => ([.int .i64 i], [some X, some Y])) (fun i _ S3 => S3 = S2) () (by simp [hX2, hY2]) rfl ?_ ?_
   ·rintro i _ S3 v3 b3' c hii hxi hd hcc hmem rfl hv3
    simp at hv3
    obtain ⟨x1, x2, x3⟩ := hv3
    have hsi : s.clients[i]? = some c.1 := by rw [← hcl, List.getElem?_map, hxi]; rfl
    obtain ⟨c2, hc2, hc21⟩ : ∃ c2, cl2[i]? = some c2 ∧ c2.1 = c.1 := by
     rw [← hcl2, List.getElem?_map] at hsi
     cases h : cl2[i]? with
     | none => rw [h] at hsi; cases hsi
     | some c2 => rw [h] at hsi; exact ⟨c2, rfl, by simpa using hsi⟩
    obtain ⟨ops, r1⟩ := c
    obtain ⟨ops2, r2⟩ := c2
    simp only at hc21
    subst hc21
    have hol := b4 ops2 (List.mem_of_getElem? hsi)
    simp [x1, x2, x3, hcc, hxi, hc2, hX2, hY2, Cl.c]
    refine A1 ops2 (fun q (_ : Unit) => ([.int .i64 q], [some X, some Y])) (fun q _ S4 => S4 = S3) () (by simp [hX2, hY2, Cl.c]) rfl ?_ ?_
    ·rintro q _ S4 v4 b4' o hqi hxq hdq hcq hmq rfl hv4
     simp at hv4
     obtain ⟨y1, y2, y3⟩ := hv4
     have hoc : o.c = [.int .i64 o.kind, .str o.path, .int .i64 o.off, .int .i64 o.n, .int .i64 o.id, .str o.image] := rfl
     simp [y1, y2, y3, hcq, hxq, hxi, hc2, hX2, hY2, Cl.c, hoc, Ai, BK, Cp]
     try simp (disch := omega) only [wrap64]
     exact .next hqi () (by simp [hX2, hY2, Cl.c]) rfl
    ·rintro _ S4 v4 b4' rfl hv4 N4
     simp at hv4
     obtain ⟨y1, y2, y3⟩ := hv4
     simp [y1, y2, y3, hX2, hY2, hxi, Cl.c]
     try simp (disch := omega) only [wrap64]
     exact .next hii () (by simp [hX2, hY2, Cl.c]) rfl
   ·rintro _ S3 v3 b3' rfl hv3 N3
    simp at hv3
    obtain ⟨x1, x2, x3⟩ := hv3
    simp [x1, x2, x3, hX2, hY2, hlen]
    exact hq
set_option maxRecDepth 100000 in
theorem Hr (w0 : World) (hm : Ix w0) (ht : Hx w0) (he : AtL w0) (x0 : AV) (h0 : TV EE x0) : AC w0 Ep [x0] [] fun r _ => r = .bool true := by
 refine PG fun Q hq => ?_
 obtain ⟨s, ri, rp, rc, cl, rfl, hcl, hok, b1, b2, b3, b4, b5⟩ := h0.script
 have hsc : scC s ri rp rc cl = [.int .i64 s.sh, .int .i64 s.room, .int .i64 s.cur, .vs 1 (s.images.map Dj) ri, .vs 1 (cl.map Cl.c) rc, .vs 1 (s.picks.map nC) rp] := rfl
 rw [hsc]
 apply HG
 unfold C9
 simp
 refine GS hm ht he (fun S _ => ?_)
 simp [← hsc]
 refine LO hcl (fun os hos => (b5 os hos).1) (by simp [AJ, hq]) (fun hsm => ?_)
 have hB := Pj hsm hok
 obtain ⟨s1, s2, s3, s4, s5, s6⟩ := hsm
 have s7 : ∀ os ∈ s.clients, os.length ≤ 100 := fun os hos => by have := QF hos; omega
 have s8 : ∀ os ∈ s.clients, ∀ o ∈ os, o.path.length ≤ 1048576 ∧ o.image.length ≤ 1048576 := fun os hos => (b5 os hos).2
 simp
 rw [AJ]
 refine Eb (fun ri3 rp3 rc3 => ?_)
 simp
 refine JT hcl (fun os hos => ⟨by have := s7 os hos; omega, fun o ho => ((b5 os hos).2 o ho).1⟩) (by omega) ?_
 cases hmay : HJ s with
 | false => simp [hq]
 | true =>
 have hpp := JE hmay hok
 simp
 refine K4 ht hok hcl (by omega) b4 (by omega) (by omega) (by omega) (fun os hos => by have := s7 os hos; omega) s8 (fun S2 hS2 => ?_)
 simp
 refine B5 hm ht he hB (fun S3 hS3 => ⟨fun h => absurd (by rw [hpp]) h, fun _ ri4 rp4 rc4 cl4 hcl4 => ?_⟩)
 rw [hpp] at hcl4 ⊢
 simp
 refine Eb (fun ri5 rp5 rc5 => ?_)
 simp
 refine HM hok hcl (by omega) b4 (by omega) (by omega) (by omega) (fun os hos => by have := s7 os hos; omega) s8 ?_
 simp [AJ]
 refine IY hcl4 hcl ⟨b1, b2, b3, fun os hos => (b5 os hos).1⟩ ?_
 simp [hq]
set_option maxRecDepth 100000
open Go.Proofs
theorem KZ (c : UInt8) : ∀ l : List Str, Lib.join l [c] = GC c l
 | [] => rfl
 | [s] => by rw [Lib.join_one]; rfl
 | s :: t :: l => by
  rw [Do c s (by simp), ← KZ c (t :: l), Lib.join_cons, Lib.join_cons]
  simp [Lib.joinTail]
@[simp] theorem Vb (s : ScN) (ri rp rc : Rt) (cl : List Cl) : (scC s ri rp rc cl).length = 6 := rfl
@[simp] theorem VO (s : ScN) (ri rp rc : Rt) (cl : List Cl) : (scC s ri rp rc cl).map AV.strip1 = scC s ri.strip rp.strip rc.strip cl := rfl
@[simp] theorem Tn (s : ScN) (ri rp rc : Rt) (cl : List Cl) : (∀ x ∈ scC s ri rp rc cl, x.free1 = true) ↔ True := by simp [scC, AV.free1]
@[simp] theorem VE (s : ScN) (ri rp rc : Rt) (cl : List Cl) : (scC s ri rp rc cl).take 6 = scC s ri rp rc cl := rfl
@[simp] theorem VK (s : ScN) (ri rp rc : Rt) (cl : List Cl) (a b c d e f : AV) : scC s ri rp rc cl ++ List.drop 6 [a, b, c, d, e, f] = scC s ri rp rc cl := by simp
theorem Qb (l : List Str) (k : Nat) : (txt (l.take k)).length ≤ (txt l).length := by
 have h : txt l = txt (l.take k) ++ txt (l.drop k) := by rw [← B3, List.take_append_drop]
 rw [h, List.length_append]; omega
theorem HS (text : Str) (k : Nat) : (txt ((Ac 10 text).take k)).length ≤ text.length + 1 := by
 refine Nat.le_trans (Qb _ _) ?_
 rw [← NW (B7 10 text), Fp]
 simp
set_option maxRecDepth 100000 in
theorem Nq {w0 : World} {S : St} {text : Str} {s : ScN} (h : Bs text = (s, 0)) (ht : text.length ≤ 900000) {ri rp rc : Rt} {cl : List Cl} (hcl : cl.map (·.1) = s.clients) {Q : AV → St → Prop} (hq : Q (.str text) S) : AC w0 CK [.agg (scC s ri rp rc cl)] S Q := by
 obtain ⟨h1, h2, h3⟩ := No h
 obtain ⟨b1, b2, b3, b4, b5, b6⟩ := Ia h1 h3 (B := 900000) (by rw [h2]; omega)
 rw [← h2] at hq
 exact HM h3 hcl (by rw [h2]; omega) (fun x hx => by have := b1 x hx; omega) (by omega) (by omega) (by omega) (fun os hos => by have := b5 os hos; omega) (fun os hos o ho => by have := b6 os hos o ho; omega) hq
theorem ND {w0 : World} {S : St} {text : Str} {s : ScN} (h : Bs text = (s, 0)) (ht : text.length ≤ 900000) {ri rp rc : Rt} {cl : List Cl} (hcl : cl.map (·.1) = s.clients) {Q : AV → St → Prop} (hq : Q (.bool true) S) : AC w0 D5 [.agg (scC s ri rp rc cl)] S Q := by
 obtain ⟨h1, h2, h3⟩ := No h
 obtain ⟨b1, b2, b3, b4, b5, b6⟩ := Ia h1 h3 (B := 900000) (by rw [h2]; omega)
 rw [← h1] at hq
 exact JT hcl (fun os hos => ⟨by have := b5 os hos; omega, fun o ho => by have := b6 os hos o ho; omega⟩) (by omega) hq
set_option maxRecDepth 100000 in
theorem Gn (w0 : World) (hm : Ix w0) (ht : Hx w0) (he : AtL w0) (x0 : AV) (h0 : TV IQ x0) : AC w0 D1 [x0] [] fun r _ => r = .bool true := by
 refine PG fun Q hq => ?_
 obtain ⟨text, rfl, htl⟩ := h0.str HC
 apply GF
 unfold Ce
 refine GS hm ht he (fun S _ => ?_)
 simp
 by_cases c1 : 6000 < text.length
 ·simp [show (6000 : Int) < text.length by omega, hq]
 have c1i : ¬ (6000 : Int) < text.length := by omega
 simp [c1i]
 obtain ⟨s, k, hps⟩ : ∃ s k, Bs text = (s, k) := ⟨_, _, rfl⟩
 refine B5 hm ht he (by omega) (fun S2 hS2 => ⟨fun hk => ?_, fun hk ri rp rc cl hcl => ?_⟩)
 ·rw [hps] at hk ⊢
  simp only at hk
  obtain ⟨hz, hkl, hah, hag⟩ := Pt hps hk
  simp [hk]
  have hz0 : scC ScN.zero .nil .nil .nil [] = [.int .i64 0, .int .i64 0, .int .i64 0, .vs 1 [] .nil, .vs 1 [] .nil, .vs 1 [] .nil] := rfl
  refine KI (s := text) hm (by omega) ?_
  have hll := (Ey 10 text).1
  generalize hL : Ac 10 text = L at hkl hah hag hll
  simp [AJ, show ¬ (k : Int) < 1 by omega, show ¬ (L.length : Int) < k by omega]
  rw [← hz0]
  refine IY (by rfl) (by rfl) (by simp [ScN.zero]) ?_
  simp
  by_cases k1 : k = 1
  ·simp [k1, hq]
  have k1i : ¬ (k : Int) = 1 := by omega
  obtain ⟨x, hx1, hx2⟩ := hah k1
  obtain ⟨m, rfl⟩ : ∃ m, k = m + 1 := ⟨k - 1, by omega⟩
  simp only [Nat.add_sub_cancel] at hx1 hx2
  have hw : IntKind.i64.wrap (((m + 1 : Nat) : Int) - 1) = (m : Int) := by rw [wrap64 (by omega) (by omega)]; omega
  have hmle : m ≤ L.length := by omega
  have hmne : ¬ m = L.length := by omega
  have hw2 : IntKind.i64.wrap (m : Int) = (m : Int) := by rw [wrap64 (by omega) (by omega)]
  have k1m : ¬ (m : Int) + 1 = 1 := by omega
  simp [k1m, hw2, Bt, bnd, hmle, hmne]
  rw [← List.map_take]
  have hne : L.take m ≠ [] := fun e => by
   have := congrArg List.length e
   rw [List.length_take] at this
   simp only [List.length_nil] at this
   omega
  have hj := NW hne
  have htk := HS text m
  have htk2 := HS text (m + 1)
  rw [hL] at htk htk2
  have hjl := congrArg List.length hj
  simp at hjl
  refine SY (l := L.take m) (by simp; omega) (by rw [KZ]; omega) ?_
  rw [KZ]
  rw [AE (by simp; omega), hj]
  simp
  refine B5 hm ht he (by omega) (fun S3 hS3 => ⟨fun h => absurd (by rw [hx1]) h, fun _ ri2 rp2 rc2 cl2 hcl2 => ?_⟩)
  rw [hx1] at hcl2 ⊢
  simp
  refine Eb (fun ri3 rp3 rc3 => ?_)
  simp
  refine Nq hx1 (by omega) hcl2 ?_
  simp
  obtain ⟨y, hy⟩ : ∃ y, L[m]? = some y := ⟨L[m], by simp⟩
  have htm : txt (L.take (m + 1)) = txt (L.take m) ++ y ++ [10] := by
   rw [List.take_succ, hy, B3]; simp [txt]
  have hlm := congrArg List.length htm
  simp at hlm
  simp [hy]
  rw [AE (by omega)]
  simp
  rw [AE (by simp; omega)]
  simp
  have htm2 : txt (L.take m) ++ (y ++ [10]) = txt (L.take (m + 1)) := by rw [htm]; simp
  rw [htm2]
  obtain ⟨s4, k4, hp4⟩ : ∃ s k, Bs (txt (L.take (m + 1))) = (s, k) := ⟨_, _, rfl⟩
  rw [hp4] at hag
  have hag' : ¬ (m + 1 = L.length) → k4 = m + 1 := fun h => by
   rcases hag with h' | h'
   ·exact absurd h' h
   ·exact h'
  refine B5 hm ht he (by omega) (fun S4 hS4 => ⟨fun h4 => ?_, fun h4 ri4 rp4 rc4 cl4 hcl4 => ?_⟩)
  ·rw [hp4]
   simp
   by_cases e4 : m + 1 = L.length
   ·simp [show (m : Int) + 1 = L.length by omega, AJ]
    by_cases e5 : (k4 : Int) = L.length
    ·simp [e5, hq]
    ·simp [e5, hq]
   ·rw [hag' e4]
    simp [hq]
  ·rw [hp4] at h4 hcl4 ⊢
   simp only at h4
   subst h4
   simp
   by_cases e4 : m + 1 = L.length
   ·simp [show (m : Int) + 1 = L.length by omega, show ¬ (0 : Int) = L.length by omega, show ¬ L = [] by intro h; simp [h] at e4, hq]
   ·exact absurd (hag' e4) (by omega)
 ·rw [hps] at hk hcl ⊢
  simp only at hk hcl
  subst hk
  simp
  refine Eb (fun ri3 rp3 rc3 => ?_)
  simp
  refine ND hps (by omega) hcl ?_
  simp [AJ]
  refine Eb (fun ri5 rp5 rc5 => ?_)
  simp
  refine Nq hps (by omega) hcl ?_
  simp [hq]
end Go.Av
