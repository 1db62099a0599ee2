/- Parts of the proofs of this seat: abstract values over the model, and what the functions of the program do. No condition. -/
import Derived.Test.YtdjfhghokfiieaaGreatDoorM9
import Derived.Test.YtdjfhghokfiieaaGreatDoorD0
import Derived.Test.YtdjfhghokfiieaaGreatDoorM22
import Derived.DataReads
set_option linter.all false
namespace Go.Av
open Go.Proofs
def DZ (size : Int) : Int → List Ext → Bool
 | _, [] => true
 | at_, x :: l => decide (at_ ≤ x.off ∧ x.data ≠ [] ∧ x.off + x.data.length ≤ size) && DZ size (x.off + x.data.length) l
def C6 (size : Int) (l : List Ext) : Bool := decide (0 ≤ size ∧ size ≤ 1048576) && DZ size 0 l
def aa (l : List Ext) : Prop := (∀ x ∈ l, -9223372036854775808 ≤ x.off ∧ x.off ≤ 9223372036854775807 ∧ x.data.length ≤ 1000000000000000) ∧ l.length ≤ 1000000000000000
theorem OW {w0 : World} {size : Int} {l : List Ext} {r : Rt} {S : St} {Q : AV → St → Prop} (hs : -9223372036854775808 ≤ size ∧ size ≤ 9223372036854775807) (hb : aa l)
   (hq : Q (.bool (C6 size l)) S) : AC w0 GV [.int .i64 size, .vs 2 (l.map Ext.c) r] S Q := by
  apply NP
  unfold Gr
  simp
  rw [AD]
  obtain ⟨hb1, hb2⟩ := hb
  by_cases hneg : size < 0
  · have hf : C6 size l = false := by simp [C6]; omega
    rw [hf] at hq
    refine BI l (fun i at_ => ([.int .i64 at_, .int .i64 i], [])) (fun i at_ S' => S' = S) 0 rfl rfl ?_ ?_
    · rintro i at_ S' v b x c hxi hd hc hm rfl hv
      simp at hv
      simp [hv, hc, hxi]
      refine Zz (fun h => hq) (fun h => ?_)
      try simp (disch := omega) only [wrap64]
      exact .next c _ rfl rfl
    · rintro at_ S' v b rfl hv N
      simp at hv
      simpa [hv, show ¬ 0 ≤ size by omega] using hq
  refine BI l (fun i at_ => ([.int .i64 at_, .int .i64 i], [])) (fun i at_ S' => S' = S ∧ 0 ≤ at_ ∧ DZ size 0 l = DZ size at_ (l.drop i)) 0 rfl (by simp) ?_ ?_
  · rintro i at_ S' v b x c hxi hd hc hm ⟨rfl, h0, hx⟩ hv
    simp at hv
    obtain ⟨h1, h2, h3⟩ := hb1 x hm
    simp [hv, hc, hxi]
    rw [hd, DZ] at hx
    by_cases c1 : x.off < at_
    · have : C6 size l = false := by simp [C6, hx]; omega
      simpa [c1, this] using hq
    by_cases c2 : x.data = []
    · have : C6 size l = false := by simp [C6, hx, c2]
      simpa [c1, c2, this] using hq
    try simp (disch := omega) only [wrap64]
    by_cases c3 : size - x.off < x.data.length
    · have : C6 size l = false := by simp [C6, hx]; omega
      simpa [c1, c2, c3, this] using hq
    simp [c1, c2, c3]
    try simp (disch := omega) only [wrap64]
    exact .next c _ rfl ⟨rfl, by omega, by simp [hx, c2]; omega⟩
  · rintro at_ S' v b ⟨rfl, h0, hx⟩ hv N
    simp at hv
    simp [hv]
    simpa [C6, hx, DZ] using hq
def Mh (l : List Ext) (i : Nat) : Int := if i = 0 then 0 else match l[i - 1]? with | some x => x.off + x.data.length | none => 0
theorem Pz {w0 : World} {size : Int} {l : List Ext} {r : Rt} {S : St} {Q : AV → St → Prop} (hs : -9223372036854775808 ≤ size ∧ size ≤ 9223372036854775807) (hb : aa l)
   (hq : Q (.bool (C6 size l)) S) : AC w0 HY [.int .i64 size, .vs 2 (l.map Ext.c) r] S Q := by
  apply O5
  unfold Hp
  simp
  obtain ⟨hb1, hb2⟩ := hb
  refine Zz (fun h => ?_) (fun h => ?_) <;> simp at h
  · have : C6 size l = false := by simp [C6]; omega
    rwa [this] at hq
  rw [AD]
  refine BI l (fun i (_ : Unit) => ([.int .i64 i], [])) (fun i _ S' => S' = S ∧ (0 ≤ Mh l i ∧ Mh l i ≤ size) ∧ DZ size 0 l = DZ size (Mh l i) (l.drop i)) () rfl (by simp [Mh]; omega) ?_ ?_
  · rintro i _ S' v b x c hxi hd hc hm ⟨rfl, h0, hx⟩ hv
    simp at hv
    obtain ⟨h1, h2, h3⟩ := hb1 x hm
    simp [hv, hc, hxi]
    rw [hd, DZ] at hx
    by_cases c1 : x.off < 0
    · have : C6 size l = false := by simp [C6, hx]; omega
      simpa [c1, this] using hq
    by_cases c2 : size < x.off
    · have : C6 size l = false := by simp [C6, hx]; omega
      simpa [c1, c2, this] using hq
    by_cases c3 : x.data = []
    · have : C6 size l = false := by simp [C6, hx, c3]
      simpa [c1, c2, c3, this] using hq
    have c3' : ¬ ((x.data.length : Int) < 1) := by have := List.length_pos_iff.2 c3; omega
    simp [c1, c2, c3, c3']
    try simp (disch := omega) only [wrap64]
    by_cases c4 : size < x.off + x.data.length
    · have : C6 size l = false := by simp [C6, hx]; omega
      simpa [c4, this] using hq
    simp [c4]
    cases i with
    | zero =>
      simp [Mh] at h0 hx ⊢
      refine .next c () rfl ⟨rfl, ?_⟩
      simp [Mh] at hxi ⊢
      simp [hxi, hx, c3]
      omega
    | succ i =>
      obtain ⟨y, hyi⟩ : ∃ y, l[i]? = some y := ⟨l[i]'(by omega), by simp⟩
      obtain ⟨g1, g2, g3⟩ := hb1 y (List.mem_of_getElem? hyi)
      simp [Mh, hyi] at h0 hx ⊢
      try simp (disch := omega) only [wrap64]
      by_cases c5 : x.off < y.off + y.data.length
      · have : C6 size l = false := by simp [C6, hx]; omega
        simpa [c5, this] using hq
      simp [c5]
      refine .next c () (by simp) ⟨rfl, ?_⟩
      simp [Mh, hxi, hx, c3]
      omega
  · rintro _ S' v b ⟨rfl, h0, hx⟩ hv N
    simp at hv
    simp [hv]
    have : C6 size l = true := by simp [C6, hx, DZ]; omega
    rwa [this] at hq
theorem L3 (l : Str) : bytesOf (byteCells l) = some l := by
 induction l with
 | nil => rfl
 | cons x l ih =>
  simp only [byteCells, List.map_cons] at ih ⊢
  simp only [bytesOf, ih]
  simp
abbrev has (x : Ext) (p : Int) : Prop := x.off ≤ p ∧ p < x.off + x.data.length
theorem TM {size : Int} : ∀ {l : List Ext} {a : Int}, DZ size a l = true → ∀ y ∈ l, a ≤ y.off ∧ y.off + y.data.length ≤ size ∧ y.data ≠ []
 | [], _, _, y, hy => by simp at hy
 | x :: l, a, h, y, hy => by
  simp only [DZ, Bool.and_eq_true, decide_eq_true_eq] at h
  rcases List.mem_cons.1 hy with rfl | hy
  ·exact ⟨h.1.1, h.1.2.2, h.1.2.1⟩
  ·have := TM h.2 y hy
   exact ⟨by omega, this.2⟩
theorem N8 {size : Int} {l : List Ext} (h : C6 size l = true) : 0 ≤ size ∧ size ≤ 1048576 ∧ ∀ x ∈ l, 0 ≤ x.off ∧ x.off + x.data.length ≤ 1048576 := by
 simp [C6] at h
 refine ⟨h.1.1, h.1.2, fun x hx => ?_⟩
 have := TM h.2 x hx
 omega
end Go.Av
