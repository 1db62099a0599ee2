/- Parts of the proofs of this seat: abstract values over the model, and what the functions of the program do. No condition. -/
import Derived.Test.YtdjfhghokfiieaaGreatDoorM9
import Derived.Test.YtdjfhghokfiieaaGreatDoorDExt
import Derived.Test.YtdjfhghokfiieaaGreatDoorY04
import Derived.Test.YtdjfhghokfiieaaGreatDoorXLess
import Derived.Test.YtdjfhghokfiieaaGreatDoorXSplit
import Derived.Test.YtdjfhghokfiieaaGreatDoorD0
import Derived.Test.YtdjfhghokfiieaaGreatDoorM11
import Derived.Test.YtdjfhghokfiieaaGreatDoorY01
import Derived.Test.YtdjfhghokfiieaaGreatDoorY04b
import Derived.Test.YtdjfhghokfiieaaGreatDoorDEq
import Derived.Test.YtdjfhghokfiieaaGreatDoorX03
import Derived.Shelf.Lay
import Derived.Shelf.LaySoft
import Derived.Shelf.Strings.OnBuilder
import Derived.Shelf.Strings.LastIndex
import Derived.Lib.Join
set_option linter.all false
namespace Go.Av
open Go.Proofs
@[simp] theorem Node.c_len (n : Node) : n.c.length = 7 := by rw [Node.c_eq]; rfl
@[simp] theorem Node.c_free (n : Node) : (AV.agg n.c).free = true := by rw [Node.c_eq]; simp
@[simp] theorem Node.c_strip (n : Node) : (AV.agg n.c).strip = .agg n.c := by rw [Node.c_eq]; simp
@[simp] theorem Node.c_cells (n : Node) : (AV.agg n.c).cells = n.c := rfl
@[simp] theorem Node.c_map (n : Node) : n.c.map AV.strip1 = n.c := by rw [Node.c_eq]; simp
@[simp] theorem Node.c_free1 (n : Node) : (∀ x ∈ n.c, x.free1 = true) ↔ True := by rw [Node.c_eq]; simp
@[simp] theorem Node.c_take (n : Node) : n.c.take 7 = n.c := by rw [Node.c_eq]; rfl
@[simp] theorem cE (S : St) (n : Node) : Ad AB S (.ep n.c 0) = some (.agg n.c) := by rw [Node.c_eq]; simp
theorem P7 {w0 : World} (n : Node) : ∀ {S : St} {Q : AV → St → Prop}, n.ok → n.count ≤ 1000000000000 → Q (.int .i64 n.count) S → AC w0 Fn [.agg n.c] S Q := by
 induction n using Node.ind with
 | h n ih =>
  intro S Q hok hn hq
  rw [Node.c_eq]
  apply PE
  unfold He
  rw [Node.count_eq] at hn hq
  rw [Node.ok_iff] at hok
  obtain ⟨h1, h2, h3, h4, h5, h6, h7⟩ := hok
  simp [AD]
  refine BI n.items (fun i (_ : Unit) => ([.int .i64 ((1 + Node.counts (n.items.take i) : Nat) : Int), .int .i64 i], [some [.int .i64 n.kind, .bool n.opq, .vs 1 (n.names.l.map CH) n.names.r.strip, .vs 7 (n.items.map Node.c) n.ir.strip, .int .i64 n.size, .vs 2 (n.exts.map Ext.c) n.er.strip, .str n.target]])) (fun i _ S' => S' = S) () (by simp [Node.counts]) rfl ?_ ?_
  ·rintro i _ S' v b x c hxi hd hc hm rfl hv
   simp at hv
   simp [hv, hc, hxi]
   have hk := Node.counts_take hxi
   have hle := Node.counts_take_le n.items (i + 1)
   refine ih x hm (h4 x hm) (by omega) ?_
   simp
   try simp (disch := omega) only [wrap64]
   exact .next c () (by rw [hk]; simp; omega) rfl
  ·rintro _ S' v b rfl hv N
   simp at hv
   simp [hv]
   simpa using hq
theorem QN {w0 : World} (n : Node) : ∀ {S : St} {Q : AV → St → Prop}, n.ok → n.depth ≤ 1000000000000 → Q (.int .i64 n.depth) S → AC w0 Fk [.agg n.c] S Q := by
 induction n using Node.ind with
 | h n ih =>
  intro S Q hok hn hq
  rw [Node.c_eq]
  apply OR
  unfold HX
  rw [Node.depth_eq] at hn hq
  rw [Node.ok_iff] at hok
  obtain ⟨h1, h2, h3, h4, h5, h6, h7⟩ := hok
  simp [AD]
  refine BI n.items (fun i (_ : Unit) => ([.int .i64 (Node.depths (n.items.take i) : Int), .int .i64 i], [some [.int .i64 n.kind, .bool n.opq, .vs 1 (n.names.l.map CH) n.names.r.strip, .vs 7 (n.items.map Node.c) n.ir.strip, .int .i64 n.size, .vs 2 (n.exts.map Ext.c) n.er.strip, .str n.target]])) (fun i _ S' => S' = S) () (by simp [Node.depths]) rfl ?_ ?_
  ·rintro i _ S' v b x c hxi hd hc hm rfl hv
   simp at hv
   simp [hv, hc, hxi]
   have hk := Node.depths_take hxi
   have hle := Node.depths_take_le n.items (i + 1)
   refine ih x hm (h4 x hm) (by omega) ?_
   simp
   try simp (disch := omega) only [wrap64]
   by_cases c1 : Node.depths (n.items.take i) < x.depth + 1
   ·have c2 : (Node.depths (n.items.take i) : Int) < x.depth + 1 := by omega
    simp [c2]
    try simp (disch := omega) only [wrap64]
    exact .next c () (by rw [hk, Nat.max_eq_right (by omega)]; simp) rfl
   ·have c2 : ¬ (Node.depths (n.items.take i) : Int) < x.depth + 1 := by omega
    simp [c2]
    try simp (disch := omega) only [wrap64]
    exact .next c () (by rw [hk, Nat.max_eq_left (by omega)]; simp) rfl
  ·rintro _ S' v b rfl hv N
   simp at hv
   simp [hv]
   simpa using hq
theorem TC {w0 : World} {n : Node} {S : St} {Q : AV → St → Prop} (hq : Q (.bool (Cg n)) S) : AC w0 Jr [.agg n.c] S Q := by
 rw [Node.c_eq]
 apply Rw
 unfold I9
 have p0 : ∀ {α : Type} {l : List α}, l ≠ [] → 0 < l.length := fun h => List.length_pos_iff.2 h
 have fin : ∀ b : Bool, Cg n = b → Q (.bool b) S := fun b h => h ▸ hq
 have k12 : n.kind = 2 → n.kind ≠ 1 ∧ n.kind ≠ 3 := fun h => by omega
 have k13 : n.kind = 1 → n.kind ≠ 3 := fun h => by omega
 by_cases k2 : n.kind = 2
 ·have k1 := (k12 k2).1
  have k3 := (k12 k2).2
  by_cases s0 : n.size = 0
  ·by_cases e0 : n.exts = []
   ·simp [k2, s0, e0, AD]
    exact fin _ (by simp [Cg, k2, s0, e0])
   ·have := p0 e0
    simp [k2, s0, this, AD]
    exact fin _ (by simp [Cg, k2, s0, e0])
  ·simp [k2, s0, AD]
   exact fin _ (by simp [Cg, k2, s0])
 ·cases o : n.opq with
  | true =>
   simp [k2, o, AD]
   exact fin _ (by simp [Cg, k2, o])
  | false =>
   by_cases a0 : n.names.l = []
   ·by_cases i0 : n.items = []
    ·by_cases k1 : n.kind = 1
     ·have k3 := k13 k1
      simp [k1, o, a0, i0, AD]
      exact fin _ (by simp [Cg, k1, o, a0, i0])
     ·by_cases s0 : n.size = 0
      ·by_cases e0 : n.exts = []
       ·by_cases k3 : n.kind = 3
        ·simp [k3, o, a0, i0, s0, e0, AD]
         exact fin _ (by simp [Cg, k3, o, a0, i0, s0, e0])
        ·simp [k1, k2, k3, o, a0, i0, s0, e0, AD]
         exact fin _ (by simp [Cg, k1, k2, k3, o, a0, i0, s0, e0])
       ·have := p0 e0
        simp [k1, k2, o, a0, i0, s0, this, AD]
        exact fin _ (by simp [Cg, k1, k2, e0])
      ·simp [k1, k2, o, a0, i0, s0, AD]
       exact fin _ (by simp [Cg, k1, k2, s0])
    ·have := p0 i0
     simp [k2, o, a0, this, AD]
     exact fin _ (by simp [Cg, k2, i0])
   ·have := p0 a0
    simp [k2, o, this, AD]
    exact fin _ (by simp [Cg, k2, a0])
def I1 (l : List Str) (i : Nat) : Option Str := if i = 0 then none else l[i - 1]?
theorem IQ {l : List Str} {i : Nat} {x : Str} (h : l[i]? = some x) : I1 l (i + 1) = some x := by simp [I1, h]
theorem NX {w0 : World} {n : Node} {S : St} (hok : n.ok) {Q : AV → St → Prop} (hq : Q (.bool (Dd n)) S) : AC w0 F8 [.agg n.c] S Q := by
 rw [Node.c_eq]
 apply ML
 unfold F5
 rw [Node.ok_iff] at hok
 obtain ⟨h1, h2, h3, h4, h5, h6, h7⟩ := hok
 unfold Dd at hq
 by_cases hl : n.names.l.length = n.items.length
 ·have hl' : ((n.names.l.length : Int) = (n.items.length : Int)) := by omega
  simp [hl', hl, AD] at hq ⊢
  have hlen := h2.2.1
  refine BI n.names.l (fun i (_ : Unit) => ([.int .i64 i], [some [.int .i64 n.kind, .bool n.opq, .vs 1 (n.names.l.map CH) n.names.r.strip, .vs 7 (n.items.map Node.c) n.ir.strip, .int .i64 n.size, .vs 2 (n.exts.map Ext.c) n.er.strip, .str n.target]])) (fun i _ S' => S' = S ∧ nchain none n.names.l = nchain (I1 n.names.l i) (n.names.l.drop i)) () rfl (by simp [I1]) ?_ ?_
  ·rintro i _ S' v b x c hxi hd hc hm ⟨rfl, hx⟩ hv
   simp at hv
   simp [hv, hc, hxi, ← hl]
   rw [hd, Jv] at hx
   refine Hg (h2.2.2 x hm) ?_
   cases hr : FN x with
   | false =>
    rw [hx, hr] at hq
    simpa using hq
   | true =>
    rw [hr] at hx
    by_cases hi : i = 0
    ·subst hi
     simp [I1] at hx
     simp
     try simp (disch := omega) only [wrap64]
     exact .next c () rfl ⟨rfl, by rw [IQ hxi]; simpa using hx⟩
    ·have hi' : (0 : Int) < i := by omega
     have hi0 : 0 < i := by omega
     obtain ⟨q, hqi⟩ : ∃ q, n.names.l[i - 1]? = some q := ⟨n.names.l[i - 1]'(by omega), by simp [show i - 1 < n.names.l.length by omega]⟩
     have hp : I1 n.names.l i = some q := by simp [I1, hi, hqi]
     have hi1 : (i : Int) - 1 = ((i - 1 : Nat) : Int) := by omega
     rw [hp] at hx
     simp [hi', hi0]
     try simp (disch := omega) only [wrap64]
     rw [hi1]
     simp [hqi, hxi]
     refine R6 (by have := h2.2.2 q (List.mem_of_getElem? hqi); omega) (by have := h2.2.2 x hm; omega) ?_
     cases hs : slt q x with
     | false =>
      rw [hx] at hq
      simp [hs] at hq
      simpa using hq
     | true =>
      simp
      try simp (disch := omega) only [wrap64]
      exact .next c () rfl ⟨rfl, by rw [IQ hxi, hx]; simp [hs]⟩
  ·rintro _ S' v b ⟨rfl, hx⟩ hv N
   simp at hv
   simp [hv]
   rw [hx, List.drop_length] at hq
   simpa [nchain, hl] using hq
 ·have hl' : ¬ ((n.names.l.length : Int) = (n.items.length : Int)) := by omega
  simp [hl', hl] at hq ⊢
  exact hq
theorem RA {w0 : World} {n : Node} {S : St} (hok : n.ok) {Q : AV → St → Prop} (hq : Q (.bool (Dd n)) S) : AC w0 IX [.agg n.c] S Q := by
 rw [Node.c_eq]
 apply Px
 unfold Iv
 rw [Node.ok_iff] at hok
 obtain ⟨h1, h2, h3, h4, h5, h6, h7⟩ := hok
 unfold Dd at hq
 simp [AD]
 have hlen := h2.2.1
 refine BI n.names.l (fun i (_ : Unit) => ([.int .i64 i], [some [.int .i64 n.kind, .bool n.opq, .vs 1 (n.names.l.map CH) n.names.r.strip, .vs 7 (n.items.map Node.c) n.ir.strip, .int .i64 n.size, .vs 2 (n.exts.map Ext.c) n.er.strip, .str n.target]])) (fun i _ S' => S' = S ∧ nchain none n.names.l = nchain (I1 n.names.l i) (n.names.l.drop i)) () rfl (by simp [I1]) ?_ ?_
 ·rintro i _ S' v b x c hxi hd hc hm ⟨rfl, hx⟩ hv
  simp at hv
  simp [hv, hc, hxi]
  rw [hd, Jv] at hx
  refine LZ (by have := h2.2.2 x hm; omega) ?_
  cases hr : FN x with
  | false =>
   rw [hx, hr] at hq
   simpa using hq
  | true =>
   rw [hr] at hx
   by_cases hi : i = 0
   ·subst hi
    simp [I1] at hx
    simp
    try simp (disch := omega) only [wrap64]
    exact .next c () rfl ⟨rfl, by rw [IQ hxi]; simpa using hx⟩
   ·have hi' : (0 : Int) < i := by omega
    have hi0 : 0 < i := by omega
    obtain ⟨q, hqi⟩ : ∃ q, n.names.l[i - 1]? = some q := ⟨n.names.l[i - 1]'(by omega), by simp [show i - 1 < n.names.l.length by omega]⟩
    have hp : I1 n.names.l i = some q := by simp [I1, hi, hqi]
    have hi1 : (i : Int) - 1 = ((i - 1 : Nat) : Int) := by omega
    rw [hp] at hx
    simp [hi', hi0]
    try simp (disch := omega) only [wrap64]
    rw [hi1]
    simp [hqi, hxi]
    cases hs : slt q x with
    | false =>
     rw [hx] at hq
     simp [hs] at hq
     simpa [slt, hs] using hq
    | true =>
     simp [show Op.bytesLess q x = true from hs]
     try simp (disch := omega) only [wrap64]
     exact .next c () rfl ⟨rfl, by rw [IQ hxi, hx]; simp [hs]⟩
 ·rintro _ S' v b ⟨rfl, hx⟩ hv N
  simp at hv
  simp [hv]
  rw [hx, List.drop_length] at hq
  simp [nchain] at hq
  have e : ((n.names.l.length : Int) = (n.items.length : Int)) = (n.names.l.length = n.items.length) := propext (by omega)
  simpa [e] using hq
theorem XV (k : Int) : ((k = 1) = True ∧ (k = 2) = False ∧ (k = 3) = False ∧ (k = 4) = False) ∨ ((k = 1) = False ∧ (k = 2) = True ∧ (k = 3) = False ∧ (k = 4) = False) ∨ ((k = 1) = False ∧ (k = 2) = False ∧ (k = 3) = True ∧ (k = 4) = False) ∨
  ((k = 1) = False ∧ (k = 2) = False ∧ (k = 3) = False ∧ (k = 4) = True) ∨ ((k = 1) = False ∧ (k = 2) = False ∧ (k = 3) = False ∧ (k = 4) = False) := by
 by_cases h1 : k = 1
 ·subst h1; simp
 by_cases h2 : k = 2
 ·subst h2; simp
 by_cases h3 : k = 3
 ·subst h3; simp
 by_cases h4 : k = 4
 ·subst h4; simp
 simp [h1, h2, h3, h4]
theorem Vu {n : Node} (hok : n.ok) : aa n.exts := by
 rw [Node.ok_iff] at hok
 obtain ⟨h1, h2, h3, h4, h5, h6, h7⟩ := hok
 exact ⟨fun x hx => ⟨(h6.2.2 x hx).1, (h6.2.2 x hx).2.1, by have := (h6.2.2 x hx).2.2; omega⟩, by omega⟩
set_option maxRecDepth 100000 in
theorem T1 {w0 : World} {n : Node} {S : St} (hok : n.ok) {Q : AV → St → Prop} (hq : Q (.bool (JC n)) S) : AC w0 JY [.agg n.c] S Q := by
  have hex := Vu hok
  have hen := @NX w0 n S hok
  rw [Node.c_eq] at hen ⊢
  apply RI
  unfold Ja
  rw [Node.ok_iff] at hok
  obtain ⟨h1, h2, h3, h4, h5, h6, h7⟩ := hok
  have fin : ∀ b : Bool, JC n = b → Q (.bool b) S := fun b h => h ▸ hq
  have p0 : ∀ {α : Type} {l : List α}, l ≠ [] → ¬ l.length = 0 := fun h e => h (List.length_eq_zero_iff.1 e)
  obtain ⟨bn, hbn⟩ : ∃ bn, bn = (!n.opq && decide (n.names.l.length = 0) && decide (n.items.length = 0)) := ⟨_, rfl⟩
  obtain ⟨be, hbe⟩ : ∃ be, be = (decide (n.size = 0) && decide (n.exts.length = 0)) := ⟨_, rfl⟩
  have hone : JC n = ((decide (n.kind = 2) || bn) && (decide (n.kind = 1) || be) && (decide (n.kind = 3) || decide (n.target = [])) && CK n) := by rw [JC, Cg, ← hbn, ← hbe]
  have hb : (n.opq = true ∧ bn = false) ∨ (n.opq = false ∧ (n.names.l = []) = False ∧ bn = false) ∨ (n.opq = false ∧ (n.names.l = []) = True ∧ (n.items = []) = False ∧ bn = false) ∨ (n.opq = false ∧ (n.names.l = []) = True ∧ (n.items = []) = True ∧ bn = true) := by
    cases o : n.opq with
    | true => left; exact ⟨rfl, by rw [hbn, o]; rfl⟩
    | false =>
      right
      by_cases a : n.names.l = []
      · right
        by_cases i0 : n.items = []
        · right; exact ⟨rfl, eq_true a, eq_true i0, by rw [hbn, o, a, i0]; rfl⟩
        · left; exact ⟨rfl, eq_true a, eq_false i0, by rw [hbn]; simp [i0]⟩
      · left; exact ⟨rfl, eq_false a, by rw [hbn]; simp [a]⟩
  have he : ((n.size = 0) = False ∧ be = false) ∨ ((n.size = 0) = True ∧ (n.exts = []) = False ∧ be = false) ∨ ((n.size = 0) = True ∧ (n.exts = []) = True ∧ be = true) := by
    by_cases a : n.size = 0
    · right
      by_cases b : n.exts = []
      · right; exact ⟨eq_true a, eq_true b, by rw [hbe, a, b]; rfl⟩
      · left; exact ⟨eq_true a, eq_false b, by rw [hbe]; simp [b]⟩
    · left; exact ⟨eq_false a, by rw [hbe]; simp [a]⟩
  clear hbn hbe
  have go3 : ∀ (P' : AV → St → Prop), (∀ (r2 : AV) (c : Bool), c = (IV n.target).isSome → P' (.tup [r2, .bool c]) S) → AC w0 Fl [.str n.target] S P' := fun P' hP => by
    refine Pk h7 ?_
    cases hsp : IV n.target with
    | none => exact hP _ _ (by rw [hsp]; rfl)
    | some l => exact fun r _ _ => hP _ _ (by rw [hsp]; rfl)
  rcases hb with ⟨o, hbn⟩ | ⟨o, a0, hbn⟩ | ⟨o, a0, i0, hbn⟩ | ⟨o, a0, i0, hbn⟩ <;> rcases he with ⟨s0, hbe⟩ | ⟨s0, e0, hbe⟩ | ⟨s0, e0, hbe⟩
  all_goals (
    rw [hbn, hbe] at hone
    rw [o] at hen
    simp only [AD]
    (first | simp [o, s0, a0, i0, e0] | simp [o, s0, a0, i0] | simp [o, s0, a0, e0] | simp [o, s0, a0] | simp [o, s0, e0] | simp [o, s0])
    )
  all_goals (
    obtain hk | hk | hk | hk | hk := XV n.kind
    all_goals (
      obtain ⟨q1, q2, q3, q4⟩ := hk
      obtain ⟨ct, tg⟩ : ∃ ct : Prop, (n.target = []) = ct ∧ (ct = True ∨ ct = False) := ⟨_, rfl, by by_cases tg : n.target = []; (left; exact eq_true tg); (right; exact eq_false tg)⟩
      obtain ⟨tg, hct⟩ := tg
      rcases hct with hct | hct
      all_goals (
        rw [hct] at tg
        simp only [q1, q2, q3, q4, tg, decide_true, decide_false, OS, MD]
        first
          | exact fin _ (by simp [hone, CK, q1, q2, q3, q4, tg])
          | (simp; exact fin _ (by simp [hone, CK, q1, q2, q3, q4, tg]))
          | (refine go3 _ (fun r2 c hc => ?_)
             simp
             exact fin _ (by simp [hone, CK, q1, q2, q3, q4, tg]))
          | (refine go3 _ (fun r2 c hc => ?_)
             have kb : CK n = (c && decide (n.target.length ≤ 256)) := by rw [hc, CK]; simp only [q1, q2, q3, if_false, if_true]
             cases c with
             | false => simp; exact fin _ (by rw [hone, kb]; simp)
             | true => simp; exact fin _ (by rw [hone, kb]; simp [q1, q2, q3, q4, tg] <;> omega))
          | (simp; refine Pz h5 hex ?_; simp; exact fin _ (by simp [hone, CK, q1, q2, q3, q4, tg]))
          | (simp; refine hen ?_; simp; exact fin _ (by simp [hone, CK, q1, q2, q3, q4, tg])))))
theorem T0 {w0 : World} (n : Node) : ∀ {S : St} {Q : AV → St → Prop}, n.ok → Q (.bool n.allB) S → AC w0 HO [.agg n.c] S Q := by
 induction n using Node.ind with
 | h n ih =>
  intro S Q hok hq
  have hone := @T1 w0 n S hok
  rw [Node.c_eq] at hone ⊢
  apply SM
  unfold Jg
  rw [Node.all_eq] at hq
  rw [Node.ok_iff] at hok
  obtain ⟨h1, h2, h3, h4, h5, h6, h7⟩ := hok
  simp [AD]
  refine BI n.items (fun i (_ : Unit) => ([.int .i64 i], [some [.int .i64 n.kind, .bool n.opq, .vs 1 (n.names.l.map CH) n.names.r.strip, .vs 7 (n.items.map Node.c) n.ir.strip, .int .i64 n.size, .vs 2 (n.exts.map Ext.c) n.er.strip, .str n.target]])) (fun i _ S' => S' = S ∧ Node.allsB n.items = Node.allsB (n.items.drop i)) () (by simp) (by simp) ?_ ?_
  ·rintro i _ S' v b x c hxi hd hc hm ⟨rfl, hx⟩ hv
   simp at hv
   simp [hv, hc, hxi]
   rw [Node.alls_drop hxi] at hx
   refine ih x hm (h4 x hm) ?_
   cases ha : x.allB with
   | false =>
    rw [hx, ha] at hq
    simpa using hq
   | true =>
    rw [ha] at hx
    simp
    try simp (disch := omega) only [wrap64]
    exact .next c () rfl ⟨rfl, by simpa using hx⟩
  ·rintro _ S' v b ⟨rfl, hx⟩ hv N
   simp at hv
   simp [hv]
   rw [hx, List.drop_length] at hq
   exact hone (by simpa [Node.allsB] using hq)
theorem Ha {w0 : World} {n : Node} {S : St} (hok : n.ok) (hc : n.count ≤ 1000000000000) (hd : n.depth ≤ 1000000000000) {Q : AV → St → Prop} (hq : Q (.bool (BT n)) S) : AC w0 D8 [.agg n.c] S Q := by
 have h1 := @T0 w0 n S
 have h2 := @P7 w0 n S
 have h3 := @QN w0 n S
 rw [Node.c_eq] at h1 h2 h3 ⊢
 apply OP
 unfold HU
 unfold BT at hq
 by_cases k : n.kind = 2
 ·have k' : (n.kind = 2) = True := eq_true k
  simp only [k', decide_true, Bool.true_and] at hq
  simp [k', AD]
  refine h1 hok ?_
  cases ha : n.allB with
  | false =>
   rw [ha] at hq
   simpa using hq
  | true =>
   rw [ha] at hq
   simp
   refine h2 hok hc ?_
   simp
   by_cases hcc : n.count ≤ 4096
   ·have hcc' : (n.count : Int) ≤ 4096 := by omega
    simp [hcc', hcc] at hq ⊢
    refine h3 hok hd ?_
    have e : ((n.depth : Int) ≤ 15) = (n.depth ≤ 15) := propext (by omega)
    simpa [e] using hq
   ·have hcc' : ¬ (n.count : Int) ≤ 4096 := by omega
    simp [hcc', hcc] at hq ⊢
    exact hq
 ·have k' : (n.kind = 2) = False := eq_false k
  simp only [k', decide_false, Bool.false_and] at hq
  simp [k', AD]
  exact hq
open Go.Proofs
set_option maxRecDepth 100000 in
theorem Rv {w0 : World} (hm0 : If w0) (n : Node) : ∀ {S : St} {Q : AV → St → Prop} {id d : Nat} {left : Int}, n.ok → S[id]? = some (.cells [.int .i64 left] DH) → d ≤ 1000 → 0 ≤ left → left ≤ 1000000000000 →
  Q (.bool (n.rgt d left).1) (S.set id (.cells [.int .i64 (n.rgt d left).2] DH)) → AC w0 GJ [.agg n.c, .int .i64 d, .ptr id 0] S Q := by
 induction n using Node.ind with
 | h n ih =>
  intro S Q id d left hok hS hd hl1 hl2 hq
  have hex := Vu hok
  have hz := @TC w0 n
  have hn := fun S => @RA w0 n S hok
  rw [Node.c_eq] at hz hn ⊢
  apply Pa
  unfold Ih
  rw [Node.rgt_eq] at hq
  rw [Node.ok_iff] at hok
  obtain ⟨h1, h2, h3, h4, h5, h6, h7⟩ := hok
  have hS1 := Ar (o' := .cells [.int .i64 (left - 1)] DH) hS
  simp [AQ hS, AD]
  try simp (disch := omega) only [wrap64]
  simp [Ae hS]
  generalize hS' : S.set id (.cells [.int .i64 (left - 1)] DH) = S' at hS1 ⊢
  have hback : ∀ v, S'.set id (.cells [.int .i64 v] DH) = S.set id (.cells [.int .i64 v] DH) := fun v => by rw [← hS', List.set_set]
  simp [AQ hS1]
  by_cases c1 : left - 1 < 0
  ·rw [if_pos (.inl c1), hS'] at hq
   have c1' : left < 1 := by omega
   simp [c1, c1']
   exact hq
  have c1' : ¬ left < 1 := by omega
  by_cases c2 : 15 < d
  ·rw [if_pos (.inr (.inl c2)), hS'] at hq
   have c2' : (15 : Int) < d := by omega
   simp [c1, c1', c2, c2']
   exact hq
  have c2' : ¬ (15 : Int) < d := by omega
  simp [c1, c1', c2, c2']
  refine hz ?_
  cases c3 : Cg n with
  | false =>
   rw [if_pos (by simp [c3]), hS'] at hq
   simp
   exact hq
  | true =>
   rw [if_neg (by simp [c1, c2, c3])] at hq
   simp
   obtain hk | hk | hk | hk | hk := XV n.kind
   all_goals (
    obtain ⟨q1, q2, q3, q4⟩ := hk
    simp only [q1, q2, q3, q4, decide_true, decide_false, OS, MD]
    simp only [q2, if_false, if_true] at hq)
   ·rw [hS'] at hq
    refine OW h5 hex ?_
    simpa [CK, q1] using hq
   ·refine hn _ ?_
    cases c5 : Dd n with
    | false =>
     rw [c5] at hq
     simp only [Bool.false_eq_true, if_false, hS'] at hq
     simpa using hq
    | true =>
     rw [c5] at hq
     simp only [if_true] at hq
     simp
     refine BI n.items (fun i (_ : Unit) => ([.int .i64 i], [])) (fun i _ S2 => ∃ lf : Int, 0 ≤ lf ∧ lf ≤ left ∧ S2 = S.set id (.cells [.int .i64 lf] DH) ∧ Node.rgts n.items (d + 1) (left - 1) = Node.rgts (n.items.drop i) (d + 1) lf) () rfl ⟨left - 1, by omega, by omega, hS'.symm, by simp⟩ ?_ ?_
     ·rintro i _ S2 v b x c hxi hd2 hc hm ⟨lf, l1, l2, rfl, hx⟩ hv
      simp at hv
      simp [hv, hc, hxi]
      have hS2 := Ar (o' := .cells [.int .i64 lf] DH) hS
      rw [Node.rgts_drop hxi] at hx
      obtain ⟨r1, r2, r3, r4⟩ := x.rgt_spec (d + 1) lf l1
      have e1 : ((d : Int) + 1) = ((d + 1 : Nat) : Int) := by omega
      rw [e1]
      refine ih x hm (h4 x hm) hS2 (by omega) l1 (by omega) ?_
      rw [List.set_set]
      cases hb : (x.rgt (d + 1) lf).1 with
      | false =>
       rw [hx, hb] at hq
       simpa using hq
      | true =>
       rw [hb] at hx
       simp
       try simp (disch := omega) only [wrap64]
       refine .next c () rfl ⟨(x.rgt (d + 1) lf).2, ?_, by omega, rfl, by simpa using hx⟩
       have := r2 hb
       rw [hb] at r1
       have r1 := r1.symm
       simp only [Bool.and_eq_true, decide_eq_true_eq] at r1
       omega
     ·rintro _ S2 v b ⟨lf, l1, l2, rfl, hx⟩ hv N
      simp at hv
      simp [hv]
      rw [hx, List.drop_length] at hq
      simpa [Node.rgts] using hq
   ·rw [hS'] at hq
    refine RY hm0 h7 ?_
    have kb : CK n = ((IV n.target).isSome && decide (n.target.length ≤ 256)) := by rw [CK]; simp only [q1, q2, q3, if_false, if_true]
    rw [kb] at hq
    cases hsp : IV n.target with
    | none =>
     rw [hsp] at hq
     simpa using hq
    | some l =>
     rw [hsp] at hq
     intro r _ _
     have e : ((n.target.length : Int) ≤ 256) = (n.target.length ≤ 256) := propext (by omega)
     simp [e]
     simpa using hq
   ·rw [hS'] at hq
    have kb : CK n = true := by rw [CK]; simp only [q1, q2, q3, q4, if_false, if_true]
    rwa [kb] at hq
   ·rw [hS'] at hq
    have kb : CK n = false := by rw [CK]; simp only [q1, q2, q3, q4, if_false, if_true]
    rwa [kb] at hq
theorem L2 {w0 : World} (hm0 : If w0) {n : Node} {S : St} (hok : n.ok) {Q : AV → St → Prop} (hq : ∀ S', Sx S S' → Q (.bool (BT n)) S') : AC w0 GD [.agg n.c] S Q := by
 have h1 := @Rv w0 hm0 n (S ++ [.cells [.int .i64 4096] DH])
 rw [← UM] at hq
 rw [Node.c_eq] at h1 ⊢
 apply QK
 unfold Il
 have hS : (S ++ [Obj.cells [.int .i64 0] DH])[S.length]? = some (.cells [.int .i64 0] DH) := by simp
 simp [Ae hS, AD]
 by_cases k : n.kind = 2
 ·have k' : (n.kind = 2) = True := eq_true k
  simp only [k', decide_true, Bool.true_and] at hq
  simp [k']
  refine h1 (d := 0) (left := 4096) hok (by simp) (by omega) (by omega) (by omega) ?_
  simp
  exact hq _ (Sx.app _ _)
 ·have k' : (n.kind = 2) = False := eq_false k
  simp only [k', decide_false, Bool.false_and] at hq
  simp [k']
  exact hq _ (Sx.app _ _)
open Go.Proofs
theorem Node.c_eq' (n : Node) : n.c = [.int .i64 n.kind, .bool n.opq, .vs 1 (n.names.l.map CH) n.names.r.strip, .vs 7 (n.items.map Node.c) n.ir.strip, .int .i64 n.size, .vs 2 (n.exts.map Ext.c) n.er.strip, .str n.target] := n.c_eq
@[simp] theorem Node.c_drop (n : Node) : n.c.drop 7 = [] := by rw [Node.c_eq]; rfl
@[simp] theorem Node.zero_c (n : Node) : 7 = n.c.length := by simp
def HD (l : List Ext) : Nat := (l.map fun x => x.data.length).sum
theorem WG (l : List Ext) {i : Nat} {x : Ext} (h : l[i]? = some x) : HD (l.take (i + 1)) = HD (l.take i) + x.data.length := by
 rw [List.take_succ, h]
 simp [HD]
theorem N0 {n : Nat} : ∀ (l : List Ext), (∀ x ∈ l, x.data.length ≤ n) → HD l ≤ l.length * n
 | [], _ => by simp [HD]
 | x :: l, h => by
  have h1 := N0 l fun y hy => h y (by simp [hy])
  have h2 := h x (by simp)
  simp only [HD, List.map_cons, List.sum_cons, List.length_cons, Nat.add_mul] at h1 ⊢
  omega
theorem SG (l : List Ext) (i : Nat) : HD (l.take i) ≤ HD l := by
 have : HD (l.take i ++ l.drop i) = HD (l.take i) + HD (l.drop i) := by simp only [HD, List.map_append, List.sum_append]
 rw [List.take_append_drop] at this
 omega
theorem Node.own_le {n : Node} (hok : n.ok) : n.own ≤ 3000000000000 ∧ HD n.exts ≤ 1099511627776 := by
 rw [Node.ok_iff] at hok
 obtain ⟨h1, h2, h3, h4, h5, h6, h7⟩ := hok
 have h8 := N0 (n := 1048576) n.exts (fun x hx => (h6.2.2 x hx).2.2)
 have h9 : n.exts.length * 1048576 ≤ 1048576 * 1048576 := Nat.mul_le_mul_right _ h6.2.1
 have h10 := h2.2.1
 have h11 := h6.2.1
 unfold Node.own
 unfold HD at h8 ⊢
 exact ⟨by omega, by omega⟩
theorem QE {w0 : World} (n : Node) : ∀ {S : St} {Q : AV → St → Prop} {id : Nat} {d left : Int}, n.ok → S[id]? = some (.cells [.int .i64 left] DH) → -1000000 ≤ d → d ≤ 1000000 → 0 ≤ left → left ≤ 1000000000 →
  Q (.bool (n.sml d left).1) (S.set id (.cells [.int .i64 (n.sml d left).2] DH)) → AC w0 Fj [.agg n.c, .int .i64 d, .ptr id 0] S Q := by
 induction n using Node.ind with
 | h n ih =>
  intro S Q id d left hok hS hd1 hd2 hl1 hl2 hq
  have hown := Node.own_le hok
  rw [Node.c_eq]
  apply Od
  unfold HZ
  rw [Node.sml_eq] at hq
  rw [Node.ok_iff] at hok
  obtain ⟨h1, h2, h3, h4, h5, h6, h7⟩ := hok
  have hl2' := h2.2.1
  have hl6' := h6.2.1
  simp [AQ hS, AD]
  try simp (disch := omega) only [wrap64]
  simp [Ae hS]
  have e0 : ∀ i, HD (n.exts.take i) ≤ HD n.exts := SG n.exts
  have how : n.own = 1 + n.names.l.length + n.exts.length + HD n.exts + n.target.length := rfl
  refine BI n.exts (fun i (_ : Unit) => ([.int .i64 i], [])) (fun i _ S2 => S2 = S.set id (.cells [.int .i64 (left - (1 + n.names.l.length + n.exts.length) - HD (n.exts.take i))] DH)) () rfl (by simp [HD]) ?_ ?_
  ·rintro i _ S2 v b x c hxi hd hc hm rfl hv
   simp at hv
   have hS2 := Ar (o' := .cells [.int .i64 (left - (1 + n.names.l.length + n.exts.length) - HD (n.exts.take i))] DH) hS
   have e1 := e0 i
   have e2 := e0 (i + 1)
   have e3 := (h6.2.2 x hm).2.2
   simp [hv, hc, hxi, AQ hS2]
   try simp (disch := omega) only [wrap64]
   simp [Ae hS2]
   try simp (disch := omega) only [wrap64]
   refine .next c () rfl ?_
   rw [WG _ hxi]
   congr 4
   omega
  ·rintro _ S2 v b rfl hv N
   simp at hv
   have hS2 := Ar (o' := .cells [.int .i64 (left - (1 + n.names.l.length + n.exts.length) - HD (n.exts.take n.exts.length))] DH) hS
   rw [List.take_length] at hS2
   have e1 := e0 n.exts.length
   simp [hv, AQ hS2]
   try simp (disch := omega) only [wrap64]
   simp [Ae hS2]
   have e4 : left - (1 + (n.names.l.length : Int) + (n.exts.length : Int)) - (HD n.exts : Int) - (n.target.length : Int) = left - n.own := by omega
   rw [e4]
   have hS3 := Ar (o' := .cells [.int .i64 (left - n.own)] DH) hS
   simp [AQ hS3]
   by_cases c1 : left - n.own < 0
   ·rw [if_pos (.inl c1)] at hq
    have c1' : left < n.own := by omega
    simp [c1, c1']
    exact hq
   have c1' : ¬ left < n.own := by omega
   by_cases c2 : d < 0
   ·rw [if_pos (.inr c2)] at hq
    simp [c1, c1', c2]
    exact hq
   rw [if_neg (by simp [c1, c2])] at hq
   simp [c1, c1', c2]
   refine BI n.items (fun i (_ : Unit) => ([.int .i64 i], [])) (fun i _ S2 => ∃ lf : Int, 0 ≤ lf ∧ lf ≤ left ∧ S2 = S.set id (.cells [.int .i64 lf] DH) ∧ Node.smls n.items (d - 1) (left - n.own) = Node.smls (n.items.drop i) (d - 1) lf) () rfl ⟨left - n.own, by omega, by omega, rfl, by simp⟩ ?_ ?_
   ·rintro i _ S2 v b x c hxi hd3 hc hm ⟨lf, l1, l2, rfl, hx⟩ hv
    simp at hv
    simp [hv, hc, hxi]
    have hS2 := Ar (o' := .cells [.int .i64 lf] DH) hS
    rw [Node.smls_drop hxi] at hx
    try simp (disch := omega) only [wrap64]
    refine ih x hm (h4 x hm) hS2 (by omega) (by omega) l1 (by omega) ?_
    rw [List.set_set]
    cases hb : (x.sml (d - 1) lf).1 with
    | false =>
     rw [hx, hb] at hq
     simpa using hq
    | true =>
     rw [hb] at hx
     simp
     try simp (disch := omega) only [wrap64]
     obtain ⟨r1, r2, r3⟩ := x.sml_spec (d - 1) lf l1 hb
     exact .next c () rfl ⟨(x.sml (d - 1) lf).2, r2, by omega, rfl, by simpa using hx⟩
   ·rintro _ S2 v b ⟨lf, l1, l2, rfl, hx⟩ hv N
    simp at hv
    simp [hv]
    rw [hx, List.drop_length] at hq
    simpa [Node.smls] using hq
theorem QD {w0 : World} {n : Node} {S : St} (hok : n.ok) {Q : AV → St → Prop} (hq : ∀ S', Sx S S' → Q (.int .i64 (if n.small = true then 1 else 0)) S') : AC w0 Hf [.agg n.c] S Q := by
 have h1 := @QE w0 n (S ++ [.cells [.int .i64 400] DH])
 unfold Node.small at hq
 rw [Node.c_eq] at h1 ⊢
 apply Ob
 unfold HW
 have hS : (S ++ [Obj.cells [.int .i64 0] DH])[S.length]? = some (.cells [.int .i64 0] DH) := by simp
 simp [Ae hS]
 refine h1 (d := 30) (left := 400) hok (by simp) (by omega) (by omega) (by omega) (by omega) ?_
 simp
 have hq := hq _ (Sx.app S [.cells [.int .i64 (n.sml 30 400).2] DH])
 cases hb : (n.sml 30 400).1 with
 | false => rw [hb] at hq; simpa using hq
 | true => rw [hb] at hq; simpa using hq
theorem Hw : ∀ (l : List Str) (p : Option Str), nchain p l = true → l.Pairwise (fun a b => slt a b = true) ∧ (∀ q, p = some q → ∀ x ∈ l, slt q x = true) ∧ ∀ x ∈ l, FN x = true
 | [], p, h => by simp
 | s :: l, p, h => by
  rw [Jv] at h
  simp only [Bool.and_eq_true] at h
  obtain ⟨⟨h1, h2⟩, h3⟩ := h
  obtain ⟨k1, k2, k3⟩ := Hw l (some s) h3
  refine ⟨List.pairwise_cons.2 ⟨k2 s rfl, k1⟩, fun q e x hx => ?_, fun x hx => ?_⟩
  ·subst e
   rcases List.mem_cons.1 hx with rfl | hx
   ·exact h2
   ·exact Q9 h2 (k2 s rfl x hx)
  ·rcases List.mem_cons.1 hx with rfl | hx
   ·exact h1
   ·exact k3 x hx
def Node.none : Node := .mk 0 false ⟨[], .nil⟩ [] .nil 0 [] .nil []
theorem Node.none_c : Node.none.c = [.int .i64 0, .bool false, .vs 1 [] .nil, .vs 7 [] .nil, .int .i64 0, .vs 2 [] .nil, .str []] := by rw [Node.c_eq]; rfl
theorem Node.none_ok : Node.none.ok := by
 rw [Node.ok_iff]
 simp [Node.none, Node.kind, Node.names, Node.items, Node.ir, Node.size, Node.exts, Node.er, Node.target, I64, Ss.ok]
theorem Gw {n : Node} (h : Dd n = true) : nchain Option.none n.names.l = true ∧ n.names.l.length = n.items.length := by
 simpa [Dd] using h
open Go.Proofs
def okR {α : Type} (r : Rt) (l : List α) : Prop := r.strip = .nil → l = []
theorem X9 {α : Type} {l : List α} : okR .full l := fun e => by cases e
theorem Zc {α : Type} : okR .nil ([] : List α) := fun _ => rfl
theorem QQ {ei : TI} {sz : Nat} (hsz : ei.size = sz) {es : List (List AV)} {r : Rt} {S : St} (hr : okR r es) (hl : es.length ≤ lim) {K : AV → Prop} (hq : ∀ r', okR r' es → K (.vs sz es r')) :
  AA (F4 .slice .eql (.vs sz es r.strip) (.vs sz [] .nil)) fun t4 => ifK t4 (K (.vs sz [] .nil)) (AA (Ao ei S (.vs sz [] .full) (.vs sz es r.strip)) K) := by
 simp only [F4, eqA, Option.map_some, C2]
 by_cases c : r.strip = .nil
 ·have e := hr c
  subst e
  have : (r.strip == Rt.nil) = true := by rw [c]; rfl
  rw [this, OS]
  exact hq .nil Zc
 ·have : (r.strip == Rt.nil) = false := by cases h : r.strip <;> simp_all
  rw [this, MD]
  subst hsz
  by_cases e : es = []
  ·subst e
   simp [Ao, A6]
   exact hq .full X9
  ·simp [Ao, A6, e, hl]
   exact hq _ (fun e => by cases e)
theorem T4 {w0 : World} {S : St} {l : List Str} {r : Rt} (hr : okR r l) (hl : l.length ≤ 100000000) {Q : AV → St → Prop} (hq : ∀ r', okR r' l → Q (.vs 1 (l.map CH) r') S) : AC w0 CI [.vs 1 (l.map CH) r] S Q := by
 apply FM
 unfold CG
 exact QQ (ei := AF) (sz := 1) (es := l.map CH) (K := fun t => Q t S) rfl (fun e => by simp [hr e]) (by simp [lim]; omega) (fun r' h => hq r' (fun e => by simpa using h e))
theorem ST {w0 : World} {S : St} {l : List Ext} {r : Rt} (hr : okR r l) (hl : l.length ≤ 100000000) {Q : AV → St → Prop} (hq : ∀ r', okR r' l → Q (.vs 2 (l.map Ext.c) r') S) : AC w0 Bp [.vs 2 (l.map Ext.c) r] S Q := by
 apply Dj
 unfold Bo
 exact QQ (ei := Ah) (sz := 2) (es := l.map Ext.c) (K := fun t => Q t S) rfl (fun e => by simp [hr e]) (by simp [lim]; omega) (fun r' h => hq r' (fun e => by simpa using h e))
def TO (opq : Bool) (l : List Str) (r1 : Rt) (items : List Node) (r2 : Rt) : Node := .mk 2 opq ⟨l, r1⟩ items r2 0 [] .nil []
theorem VW {o : Bool} {l : List Str} {items : List Node} {q1 q2 : Rt} (hl : l.length ≤ 1048576 ∧ ∀ s ∈ l, s.length ≤ 1048576) (hi : items.length ≤ 1048576 ∧ ∀ x ∈ items, x.ok) (k1 : okR q1 l) (k2 : okR q2 items) : (TO o l q1 items q2).ok := by
 rw [Node.ok_iff]
 refine ⟨by simp [TO, Node.kind, I64], ⟨fun e => k1 (by simp [TO, Node.names] at e; simp [e]), hl⟩, ⟨k2, hi.1⟩, hi.2, by simp [TO, Node.size, I64], by simp [TO, Node.exts, Node.er], by simp [TO, Node.target]⟩
@[simp] theorem dI {α : Type} {r : α → Prop} {x : α} : AJ r (fun j => j x) = r x := rfl
end Go.Av
