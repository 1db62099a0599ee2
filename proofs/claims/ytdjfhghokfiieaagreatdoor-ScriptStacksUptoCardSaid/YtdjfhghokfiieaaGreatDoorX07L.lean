/- Parts of the proofs of this seat: abstract values over the model, and what the functions of the program do. No condition. -/
import Derived.Test.YtdjfhghokfiieaaGreatDoorY05d
import Derived.Test.YtdjfhghokfiieaaGreatDoorM9
import Derived.Test.YtdjfhghokfiieaaGreatDoorD0
import Derived.Test.YtdjfhghokfiieaaGreatDoorM6
import Derived.Test.YtdjfhghokfiieaaGreatDoorXDelR
import Derived.Test.YtdjfhghokfiieaaGreatDoorX05e
import Derived.Test.YtdjfhghokfiieaaGreatDoorX04L
import Derived.Test.YtdjfhghokfiieaaGreatDoorXNum
import Derived.Test.YtdjfhghokfiieaaGreatDoorY05e
import Derived.Test.YtdjfhghokfiieaaGreatDoorY05f
import Derived.Shelf.SlLaysE0
import Derived.Shelf.RegionOpenPlain
import Derived.WalkKit
import Derived.Deep.LoopGhost
import Derived.Deep.RegionLaw
import Derived.Lib.Walk
import Derived.Sort.WalkB12
import Derived.Lib.SliceRun
import Derived.Shelf.Lay
import Derived.Shelf.LaySoft
import Derived.Shelf.SlGeneric
import Derived.Ground.SlgnProg
import Derived.Shelf.SlicesE.Clone
set_option linter.all false
namespace Go.Av
open Go.Proofs
theorem Oo.get {S0 S : St} {l : List Node} {s : Stk} (h : Oo S0 S l s) {k : Nat} (hk : k < l.length) : ∃ m n, s.l[k]? = some m ∧ l[l.length - 1 - k]? = some n ∧ m.num = l.length - 1 - k ∧ m.tab = n.tab 0 ∧ m ∈ s.l := by
 have h1 : k < s.l.length := by rw [h.len]; exact hk
 have hm : s.l[k]? = some s.l[k] := List.getElem?_eq_getElem h1
 have hn : l[l.length - 1 - k]? = some (l[l.length - 1 - k]'(by omega)) := List.getElem?_eq_getElem (by omega)
 refine ⟨_, _, hm, hn, ?_, ?_, List.getElem_mem h1⟩
 ·have := congrArg (fun x => x[k]?) h.nums
  simp only [List.getElem?_map, hm, Option.map_some] at this
  rw [List.getElem?_reverse (by simpa using hk), List.length_range, List.getElem?_range (by omega)] at this
  exact Option.some.inj this
 ·have := congrArg (fun x => x[k]?) h.tabs
  simp only [List.getElem?_map, hm, Option.map_some] at this
  rw [List.getElem?_reverse hk, hn] at this
  exact Option.some.inj this
set_option maxRecDepth 100000
open Go.Proofs
theorem UR {s : Str} {n : Node} (h : Cw s = some n) : BT n = true := (Qx h).2.1
def HG : List Str → Nat → Nat
 | [], _ => 0
 | x :: l, k => match Cw x with
  | none => 1
  | some _ => if 64 ≤ k then 6 else HG l (k + 1)
set_option maxRecDepth 100000 in
theorem GS {w0 : World} (hm : If w0) {S : St} {l : List Str} {r : Rt} (hl : l.length ≤ 1000000) (hs : ∀ x ∈ l, x.length ≤ 1048575) {Q : AV → St → Prop}
  (hq : ∀ S', Sx S S' → (HG l 0 = 0 → ∀ s, Oo S S' (l.filterMap Cw) s → (∀ n ∈ l.filterMap Cw, n.ok ∧ BT n = true) → (l.filterMap Cw).length = l.length → Q (.tup [.agg s.c, .int .i64 0]) S') ∧ (HG l 0 ≠ 0 → Q (.tup [.agg Stk.none.c, .int .i64 (HG l 0 : Nat)]) S')) :
  AC w0 E6 [.vs 1 (l.map CH) r] S Q := by
 apply Nd
 unfold Gx
 rw [AD]
 refine BI l (fun i (s : Stk) => ([.int .i64 i], [some Stk.none.c, some s.c])) (fun i s S' => Sx S S' ∧ Oo S S' ((l.take i).filterMap Cw) s ∧ (∀ n ∈ (l.take i).filterMap Cw, n.ok ∧ BT n = true) ∧ ((l.take i).filterMap Cw).length = i ∧ HG l 0 = HG (l.drop i) i) Stk.none (by simp [Stk.none_c])
  ⟨Sx.refl _, ⟨⟨fun _ => rfl, by simp [Stk.none], by simp [Stk.none], by simp [Stk.none]⟩, by simp [Stk.on, Stk.none], by simp [Stk.none], by simp [Stk.none], by simp [Stk.none], by simp [Stk.none], by simp [Stk.none]⟩, by simp, by simp, by simp⟩ ?_ ?_
 ·rintro i s S' v b x c hxi hd hc hmem ⟨hSx, hk, hno, hlen, he⟩ hv
  simp at hv
  obtain ⟨hv1, hv2, hv3⟩ := hv
  rw [hd, HG] at he
  have hxl := hs x hmem
  simp [hv1, hv2, hv3, hc, hxi]
  refine P1 hm hxl (fun n hn hnok hnr S2 id hS2 hid hB => ?_) (fun hn S2 hS2 => ?_) (fun n hn _ => UR hn)
  ·rw [hn] at he
   simp only at he
   have htk : (l.take (i + 1)).filterMap Cw = (l.take i).filterMap Cw ++ [n] := by rw [List.take_succ, hxi]; simp [hn]
   have hon := hk.on.mono hS2
   simp
   refine TN (P := n.tab 0) hk.ok (fun h64 => ?_) (fun h64 r2 hr2 => ?_)
   ·rw [hk.len, hlen] at h64
    rw [if_pos h64] at he
    have := (hq S2 (hSx.trans hS2)).2 (by omega)
    rw [he] at this
    simp
    simpa [Stk.none_c] using this
   ·rw [hk.len, hlen] at h64
    rw [if_neg (by omega)] at he
    have hok2 : (Stk.mk (⟨s.next, id, n.tab 0⟩ :: s.l) r2 (s.next + 1)).ok := ⟨fun e => absurd e hr2, by simp [hk.len, hlen]; omega, by simp [hk.next, hlen]; omega, fun m hm' => by
     rcases List.mem_cons.1 hm' with rfl | hm'
     ·simp [hk.next, hlen]; omega
     ·exact hk.ok.num m hm'⟩
    have hst : Oo S S2 ((l.take (i + 1)).filterMap Cw) (Stk.mk (⟨s.next, id, n.tab 0⟩ :: s.l) r2 (s.next + 1)) := by
     refine ⟨hok2, fun m hm' => ?_, ?_, ?_, ?_, ?_, ?_⟩
     ·rcases List.mem_cons.1 hm' with rfl | hm'
      ·exact hB
      ·exact hon m hm'
     ·rw [htk]; simp [hk.len, hlen]
     ·rw [htk]; simp [hk.next, hlen]
     ·rw [htk]; simp [hk.tabs]
     ·rw [htk]; simp [hk.nums, hlen, hk.next, List.range_succ]
     ·intro m hm'
      rcases List.mem_cons.1 hm' with rfl | hm'
      ·exact Nat.le_trans hSx.le hid
      ·exact hk.ids m hm'
    have hno2 : ∀ m ∈ (l.take (i + 1)).filterMap Cw, m.ok ∧ BT m = true := fun m hm' => by
     rw [htk] at hm'
     rcases List.mem_append.1 hm' with hm' | hm'
     ·exact hno m hm'
     ·rw [List.mem_singleton] at hm'; subst hm'; exact ⟨hnok, hnr⟩
    have hln2 : ((l.take (i + 1)).filterMap Cw).length = i + 1 := by rw [htk, List.length_append, hlen]; rfl
    generalize hs2 : Stk.mk (⟨s.next, id, n.tab 0⟩ :: s.l) r2 (s.next + 1) = s2 at hok2 hst ⊢
    simp
    try simp (disch := omega) only [wrap64]
    exact .next c s2 rfl ⟨hSx.trans hS2, hst, by simpa using hno2, by simpa using hln2, he⟩
  ·rw [hn] at he
   simp only at he
   have := (hq S2 (hSx.trans hS2)).2 (by omega)
   rw [he] at this
   simp
   simpa [Stk.none_c] using this
 ·rintro s S' v b ⟨hSx, hk, hno, hlen, he⟩ hv N
  simp at hv
  obtain ⟨hv1, hv2, hv3⟩ := hv
  rw [List.drop_length, HG] at he
  rw [List.take_length] at hk hno hlen
  simp [hv1, hv2, hv3]
  have := (hq S' hSx).1 he s hk hno hlen
  simpa [Stk.none_c] using this
set_option maxRecDepth 100000
open Go.Proofs
theorem Oh : ∀ (l : List Str) (k : Nat), (∀ x ∈ l, Cw x ≠ none) → k + l.length ≤ 64 → HG l k = 0
 | [], _, _, _ => rfl
 | x :: l, k, h, hk => by
  rw [HG]
  have hx := h x (by simp)
  simp only [List.length_cons] at hk
  cases e : Cw x with
  | none => exact absurd e hx
  | some n =>
   simp only
   rw [if_neg (by omega)]
   exact Oh l (k + 1) (fun y hy => h y (by simp [hy])) (by omega)
theorem Ql : ∀ (a b : List Str) (o : Str) (k : Nat), (∀ x ∈ a, Cw x ≠ none) → Cw o = none → k + a.length ≤ 64 → HG (a ++ o :: b) k = 1
 | [], b, o, k, _, ho, _ => by rw [List.nil_append, HG, ho]
 | x :: a, b, o, k, h, ho, hk => by
  rw [List.cons_append, HG]
  have hx := h x (by simp)
  simp only [List.length_cons] at hk
  cases e : Cw x with
  | none => exact absurd e hx
  | some n =>
   simp only
   rw [if_neg (by omega)]
   exact Ql a b o (k + 1) (fun y hy => h y (by simp [hy])) ho (by omega)
theorem Kr {ei : TI} (hei : ei.size = 1) {S : St} {es ys : List (List AV)} {r r' : Rt} (hr : r ≠ .none) (hl : es.length + ys.length ≤ lim) : ∃ q, q ≠ .none ∧ Ao ei S (.vs 1 es r) (.vs 1 ys r') = some (.vs 1 (es ++ ys) q) := by
 by_cases h : ys = []
 ·exact ⟨r, hr, by simp [Ao, A6, hei, h]⟩
 ·exact ⟨.own (Cy ei r), by simp, by simp [Ao, A6, hei, h, hr, hl]⟩
set_option maxRecDepth 100000 in
theorem JO (w0 : World) (hm : If w0) (ht : P0 w0) (he : AtL w0) (x0 x1 x2 : AV) (h0 : TV IL x0) (h1 : TV CN x1) (h2 : TV KA x2) : AC w0 Fu [x0, x1, x2] [] fun r _ => r = .bool true := by
 refine ZK fun Q hq => ?_
 obtain ⟨l, lr, e1, hlr, hll, hlok⟩ := (Lj (h0.one (by simp [isAgg, Ci]))).2 rfl
 have e1' : x0 = .vs 7 (l.map Node.c) lr := by simpa using e1
 subst e1'
 obtain ⟨odd, rfl, hol⟩ := h1.str J9
 obtain ⟨at_, rfl, hat⟩ := h2.u8 YT
 apply I5
 unfold Do
 refine Om hm ht he (fun S _ => ?_)
 simp
 refine Sq hlok (fun S2 hS2 => ?_)
 cases hmay : SK l with
 | false => simp [AD, hq]
 | true =>
 simp
 by_cases c1 : 500 < odd.length
 ·simp [AD, show (500 : Int) < odd.length by omega, hq]
 obtain ⟨h8, hall⟩ := X5.1 hmay
 have henc : ∀ n ∈ l, ∃ n', Cw (Co ++ n.enc) = some n' ∧ (Co ++ n.enc).length ≤ 50000 := fun n hn => by
  obtain ⟨hs, hr⟩ := hall n hn
  obtain ⟨hl, hi⟩ := Mq hs hr
  obtain ⟨n', e1, e2⟩ := Su (hlok n hn) hr (by omega)
  exact ⟨n', e1, by simp [Fg]; omega⟩
 obtain ⟨IM, hIM⟩ : ∃ IM : List Str, IM = l.map fun n => Co ++ n.enc := ⟨_, rfl⟩
 have hIMl : IM.length = l.length := by rw [hIM, List.length_map]
 have hIMd : ∀ x ∈ IM, Cw x ≠ none ∧ x.length ≤ 50000 := fun x hx => by
  rw [hIM] at hx
  obtain ⟨n, hn, rfl⟩ := List.mem_map.1 hx
  obtain ⟨n', e1, e2⟩ := henc n hn
  exact ⟨by rw [e1]; simp, e2⟩
 simp [show ¬ (500 : Int) < odd.length by omega]
 rw [AD]
 simp
 refine BI l (fun i (r : Rt) => ([.vs 1 ((IM.take i).map CH) r, .int .i64 i], [])) (fun i r S' => Sx S2 S' ∧ r ≠ .none ∧ (r = .nil → i = 0)) .nil (by simp) ⟨Sx.refl _, by simp, by simp⟩ ?_ ?_
 ·rintro i r S' v b n hi hxi hd hcc hmem ⟨hSx, hr, hrn⟩ hv
  simp at hv
  obtain ⟨hv1, hv2⟩ := hv
  obtain ⟨hs, hrt⟩ := hall n hmem
  obtain ⟨b1, b2⟩ := Node.small_spec hs
  obtain ⟨hl, himg⟩ := Mq hs hrt
  have hnc := n.c_eq
  simp [hv1, hv2, hcc, hxi]
  refine O7 (hlok n hmem) (by omega) (by omega) (fun S4 hS4 => ?_)
  rw [himg]
  have htk : (IM.map CH).take (i + 1) = (IM.map CH).take i ++ [[.str (Co ++ n.enc)]] := by
   have : IM[i]? = some (Co ++ n.enc) := by rw [hIM, List.getElem?_map, hxi]; rfl
   rw [List.take_succ, List.getElem?_map, this]; rfl
  have hlt : (IM.take i).length = i := by rw [List.length_take]; omega
  have hap : Ao AF S4 (.vs 1 ((IM.map CH).take i) r) (.vs 1 [[.str (Co ++ n.enc)]] .full) = some (.vs 1 ((IM.map CH).take (i + 1)) (.own (Cy AF r))) := by
   rw [htk]
   simp [Ao, A6, hr, show min i IM.length + 1 ≤ lim by unfold lim; omega]
  simp [hap]
  try simp (disch := omega) only [wrap64]
  exact .next hi (.own (Cy AF r)) (by simp) ⟨hSx.trans hS4, by simp, by simp⟩
 ·rintro r S' v b ⟨hSx, hr, hrn⟩ hv N
  simp at hv
  obtain ⟨hv1, hv2⟩ := hv
  rw [List.take_of_length_le (by simp [hIMl])] at hv1
  have hrs : ∀ k : Nat, k ≤ IM.length → (IM.take k).length = k := fun k hk => by rw [List.length_take]; omega
  simp [hv1, hv2]
  refine GS hm (by omega) (fun x hx => by have := (hIMd x hx).2; omega) (fun S3 hS3 => ⟨fun _ s hst hno hfl => ?_, fun h => absurd (Oh IM 0 (fun x hx => (hIMd x hx).1) (by omega)) h⟩)
  simp
  rw [AD]
  refine JZ ?_
  rw [hst.len, hfl, hIMl]
  simp
  obtain ⟨k, hk, hkl⟩ : ∃ k : Nat, AI .rem (.int .i64 (IntKind.i64.wrap (at_ : Int))) (.int .i64 (IntKind.i64.wrap ((IM.length : Int) + 1))) = some (.int .i64 (k : Int)) ∧ k ≤ IM.length := by
   refine ⟨at_ % (IM.length + 1), ?_, by have := Nat.mod_lt at_ (show 0 < IM.length + 1 by omega); omega⟩
   rw [wrap64 (by omega) (by omega), wrap64 (by omega) (by omega)]
   have hne : ¬ ((IM.length : Int) + 1 = 0) := by omega
   simp only [AI, if_true, Dq, if_neg hne]
   congr 2
  obtain ⟨M, hM⟩ : ∃ M : List Str, M = IM.take k ++ odd :: IM.drop k := ⟨_, rfl⟩
  have hMl : M.length = IM.length + 1 := by rw [hM]; simp; omega
  have happ : ∀ S' : St, ∃ (a b d e : AV) (r5 : Rt), Cm AF (.vs 1 (IM.map CH) r.strip) none (some (.int .i64 (k : Int))) none = some a ∧ Ao AF S' (.vs 1 [] .full) a = some b ∧ Ao AF S' b (.vs 1 [[.str odd]] .full) = some d ∧
    Cm AF (.vs 1 (IM.map CH) r.strip) (some (.int .i64 (k : Int))) none none = some e ∧ Ao AF S' d e = some (.vs 1 (M.map CH) r5) := fun S' => by
   have hnil : r.strip = .nil → (IM.map CH) = [] := fun h => by
    have h2 : r = .nil := by cases r <;> simp [Rt.strip] at h <;> rfl
    have h3 := hrn h2
    have : IM = [] := List.length_eq_zero_iff.1 (by omega)
    simp [this]
   have hc1 := UW AF 1 (IM.map CH) r.strip .i64 k
   rw [if_pos ⟨rfl, by simpa using hkl, hnil⟩] at hc1
   have hc2 := Uh AF 1 (IM.map CH) r.strip .i64 k
   rw [if_pos ⟨rfl, by simpa using hkl, hnil⟩] at hc2
   obtain ⟨q1, g1, g2⟩ := Kr (ei := AF) rfl (S := S') (es := []) (ys := (IM.map CH).take k) (r := .full) (r' := if k = (IM.map CH).length then r.strip else .none) (by simp) (by simp [lim]; omega)
   obtain ⟨q2, g3, g4⟩ := Kr (ei := AF) rfl (S := S') (es := [] ++ (IM.map CH).take k) (ys := [[.str odd]]) (r' := .full) g1 (by simp [lim]; omega)
   obtain ⟨q3, g5, g6⟩ := Kr (ei := AF) rfl (S := S') (es := ([] ++ (IM.map CH).take k) ++ [[.str odd]]) (ys := (IM.map CH).drop k) (r' := r.strip) g3 (by simp [lim]; omega)
   refine ⟨_, _, _, _, q3, hc1, g2, g4, hc2, ?_⟩
   rw [g6, hM]
   simp
  obtain ⟨xa, xb, xd, xe, r5, k1, k2, k3, k4, k5⟩ := happ S3
  rw [hIMl] at hk
  simp [-UW, -Uh, hk, k1, k2, k3, k4, k5]
  have hMb : ∀ x ∈ M, x.length ≤ 1048575 := fun x hx => by
   rw [hM] at hx
   rcases List.mem_append.1 hx with hx | hx
   ·have := (hIMd x (List.mem_of_mem_take hx)).2; omega
   ·rcases List.mem_cons.1 hx with rfl | hx
    ·omega
    ·have := (hIMd x (List.mem_of_mem_drop hx)).2; omega
  have hde := bD (s := odd) (by omega)
  refine PS (by omega) ⟨fun n hn hnok => ?_, fun hn => ?_⟩
  ·rw [hde] at hn
   have hall2 : ∀ x ∈ M, Cw x ≠ none := fun x hx => by
    rw [hM] at hx
    rcases List.mem_append.1 hx with hx | hx
    ·exact (hIMd x (List.mem_of_mem_take hx)).1
    ·rcases List.mem_cons.1 hx with rfl | hx
     ·rw [hn]; simp
     ·exact (hIMd x (List.mem_of_mem_drop hx)).1
   have hnc := n.c_eq
   simp
   refine GS hm (by omega) hMb (fun S5 hS5 => ⟨fun _ s5 hst5 hno5 hfl5 => ?_, fun h => absurd (Oh M 0 hall2 (by omega)) h⟩)
   simp [AD]
   refine JZ ?_
   rw [hst5.len, hfl5]
   simp [hq]
  ·rw [hde] at hn
   have hbad : HG M 0 = 1 := by
    rw [hM]
    exact Ql _ _ _ 0 (fun x hx => (hIMd x (List.mem_of_mem_take hx)).1) hn (by rw [List.length_take]; omega)
   simp
   refine GS hm (by omega) hMb (fun S5 hS5 => ⟨fun h => absurd h (by rw [hbad]; simp), fun _ => ?_⟩)
   rw [hbad]
   simp [AD]
   try simp only [← Stk.none_c]
   refine JZ ?_
   simp [Stk.none, hq]
end Go.Av
