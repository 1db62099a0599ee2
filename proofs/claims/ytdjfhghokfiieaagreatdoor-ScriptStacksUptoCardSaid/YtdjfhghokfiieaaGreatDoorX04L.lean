/- Parts of the proofs of this seat: abstract values over the model, and what the functions of the program do. No condition. -/
import Derived.Test.YtdjfhghokfiieaaGreatDoorX04
import Derived.Test.YtdjfhghokfiieaaGreatDoorY05b
set_option linter.all false
namespace Go.Av
open Go.Proofs
structure Chain (k : Nat) (d : Node) : Prop where
 ok : d.ok
 kind : d.kind = 2
 count : d.count = k + 1
 depth : d.depth = k
 all : d.allB = true
theorem Chain.zero {q1 q2 : Rt} (k1 : okR q1 ([] : List Str)) (k2 : okR q2 ([] : List Node)) : Chain 0 (TO false [] q1 [] q2) :=
 ⟨VW (by simp) (by simp) k1 k2, rfl, rfl, rfl, rfl⟩
theorem Chain.succ {k : Nat} {d : Node} (h : Chain k d) {q1 q2 : Rt} (k1 : okR q1 [([97] : Str)]) (k2 : okR q2 [d]) : Chain (k + 1) (TO false [[97]] q1 [d] q2) := by
 refine ⟨VW (by simp) (by simp [h.ok]) k1 k2, rfl, ?_, ?_, ?_⟩
 ·rw [Node.count_eq]; show 1 + Node.counts [d] = _; rw [Node.counts, Node.counts, h.count]; omega
 ·rw [Node.depth_eq]; show Node.depths [d] = _; rw [Node.depths, Node.depths, h.depth]; omega
 ·rw [Node.all_eq]; show (Node.allsB [d] && _) = true; rw [Node.allsB, h.all]; rfl
open Go.Proofs
theorem MC : ∀ l : List Ext, (EM l).length = 8 * l.length + (l.map fun x => x.data.length).sum
 | [] => rfl
 | x :: l => by
  have := MC l
  simp [EM, Xc, Ep] at this ⊢
  rw [this]; omega
theorem TF : ∀ (l : List Node) (ss : List Str), (∀ s ∈ ss, s.length ≤ 64) → (∀ n ∈ l, n.enc.length ≤ 100 * n.weight) → (Node.encs l ss).length ≤ 65 * ss.length + 100 * Node.weights l
 | [], ss, _, _ => by simp
 | n :: l, [], _, _ => by simp
 | n :: l, s :: ss, h1, h2 => by
  have := TF l ss (fun y hy => h1 y (by simp [hy])) (fun y hy => h2 y (by simp [hy]))
  have h3 := h1 s (by simp)
  have h4 := h2 n (by simp)
  simp [Ep, Node.weights] at this ⊢
  omega
theorem Vn (n : Node) : n.allB = true → n.enc.length ≤ 100 * n.weight := by
 induction n using Node.ind with
 | h n ih =>
  intro hall
  rw [Node.all_eq] at hall
  simp only [Bool.and_eq_true] at hall
  obtain ⟨ha, ho⟩ := hall
  obtain ⟨hz, hk⟩ := GM ho
  rw [Node.weight_eq]
  unfold Node.own
  rcases XD ho with k | k | k | k
  ·rw [Node.enc_file k]
   have := MC n.exts
   simp
   omega
  ·have hk' := hk
   simp only [CK, k] at hk'
   have hn : Dd n = true := by simpa using hk'
   obtain ⟨c1, c2⟩ := Gw hn
   obtain ⟨_, _, c3⟩ := Hw _ _ c1
   rw [Node.enc_dir k]
   have := TF n.items n.names.l (fun s hs => J3 (c3 s hs)) (fun x hx => ih x hx (Lf ha x hx))
   simp
   omega
  ·rw [Node.enc_link k]
   simp [Ep]
   omega
  ·rw [Node.enc_other (by omega) (by omega) (by omega)]
   simp
   omega
def Co : Str := [115, 111, 99, 97, 103, 101, 49]
theorem ES {n : Node} (h : BT n = true) : n.kind = 2 ∧ n.allB = true ∧ n.count ≤ 4096 ∧ n.depth ≤ 15 := by
 simpa [BT] using h
def VU (n : Node) : Option Str := if BT n = true ∧ 7 + n.enc.length ≤ 4194304 then some (Co ++ n.enc) else none
theorem O7 {w0 : World} {n : Node} {S : St} (hok : n.ok) (hl : n.weight ≤ 1000000) (hd : n.depth ≤ 1000000) {Q : AV → St → Prop}
  (hq : ∀ S', Sx S S' → Q (match VU n with | some s => .tup [.str s, .bool true] | none => .tup [.str [], .bool false]) S') : AC w0 GU [.agg n.c] S Q := by
 have hc' := Node.c_eq' n
 have hcw := n.count_weight
 rw [hc']
 apply NC
 unfold Gk
 simp [← hc']
 refine Ha hok (by omega) (by omega) ?_
 unfold VU at hq
 cases hr : BT n with
 | false =>
  rw [hr] at hq
  simp at hq ⊢
  exact hq _ (Sx.refl _)
 | true =>
  rw [hr] at hq
  obtain ⟨r1, r2, r3, r4⟩ := ES hr
  have hel := Vn n r2
  simp
  refine TY n hok r2 r3 (by omega) (fun S1 h1 => ?_)
  rw [GL (by simp; omega)]
  have hq := hq _ h1
  simp only [C2]
  by_cases c : 7 + n.enc.length ≤ 4194304
  ·have c' : ¬ (4194304 : Int) < (n.enc.length : Int) + 1 + 1 + 1 + 1 + 1 + 1 + 1 := by omega
   simp [c] at hq
   simp [c']
   simpa [Co] using hq
  ·have c' : (4194304 : Int) < (n.enc.length : Int) + 1 + 1 + 1 + 1 + 1 + 1 + 1 := by omega
   simp [c] at hq
   simp [c']
   exact hq
end Go.Av
