/- Parts of the proofs of this seat: abstract values over the model, and what the functions of the program do. No condition. -/
import Derived.Test.YtcmiahkfbnojnaaX09b
set_option linter.all false
set_option linter.unusedVariables false
/-! Merged rows: in order, each name of each row; the first ones. -/
namespace Go.Av
def itLt (a b : Item) : Prop := slt a.name b.name = true ∨ (a.name = b.name ∧ a.row < b.row)
abbrev Sorted (l : List Str) : Prop := l.Pairwise fun a b => slt a b = true
theorem rises_iff : ∀ (l : List Str), risesL l = true ↔ Sorted l
  | [] => by simp [risesL]
  | [a] => by simp [risesL]
  | a :: b :: t => by
    have ih := rises_iff (b :: t)
    simp only [risesL, Bool.and_eq_true, ih]
    constructor
    · rintro ⟨h1, h2⟩
      refine List.pairwise_cons.2 ⟨fun x hx => ?_, h2⟩
      rcases List.mem_cons.1 hx with rfl | hx
      · exact h1
      · exact slt_trans h1 ((List.pairwise_cons.1 h2).1 x hx)
    · intro h
      have := List.pairwise_cons.1 h
      exact ⟨this.1 b (by simp), this.2⟩
theorem sorted_unique : ∀ {a b : List Str}, Sorted a → Sorted b → (∀ s, s ∈ a ↔ s ∈ b) → a = b
  | [], [], _, _, _ => rfl
  | [], y :: b, _, _, h => by have := (h y).2 (by simp); simp at this
  | x :: a, [], _, _, h => by have := (h x).1 (by simp); simp at this
  | x :: a, y :: b, ha, hb, h => by
    have ha' := List.pairwise_cons.1 ha
    have hb' := List.pairwise_cons.1 hb
    have hxy : x = y := by
      rcases List.mem_cons.1 ((h x).1 (by simp)) with e | e
      · exact e
      · rcases List.mem_cons.1 ((h y).2 (by simp)) with e2 | e2
        · exact e2.symm
        · have h1 := hb'.1 x e
          have h2 := ha'.1 y e2
          have := slt_trans h1 h2
          rw [slt_irrefl] at this; cases this
    subst hxy
    rw [sorted_unique ha'.2 hb'.2 fun s => ?_]
    constructor
    · intro hs
      rcases List.mem_cons.1 ((h s).1 (by simp [hs])) with e | e
      · subst e
        have := ha'.1 s hs; rw [slt_irrefl] at this; cases this
      · exact e
    · intro hs
      rcases List.mem_cons.1 ((h s).2 (by simp [hs])) with e | e
      · subst e
        have := hb'.1 s hs; rw [slt_irrefl] at this; cases this
      · exact e
theorem tailS_get {rs : List Ss} {j i : Nat} {x : Ss} (h : (tailS rs j)[i]? = some x) : ∃ y, rs[i]? = some y ∧ x = if i = j then ⟨y.l.tail, y.r⟩ else y := by
  unfold tailS at h
  cases hj : rs[j]? with
  | none =>
    rw [hj] at h
    have : i ≠ j := fun e => by rw [e, hj] at h; cases h
    exact ⟨x, h, by simp [this]⟩
  | some r =>
    rw [hj] at h
    simp only at h
    rw [List.getElem?_set] at h
    split at h
    · rename_i e
      subst e
      split at h
      · cases h
        exact ⟨r, hj, by simp⟩
      · cases h
    · rename_i e
      exact ⟨x, h, by simp [Ne.symm e]⟩
theorem tailS_get' {rs : List Ss} {j i : Nat} {y : Ss} (h : rs[i]? = some y) : (tailS rs j)[i]? = some (if i = j then ⟨y.l.tail, y.r⟩ else y) := by
  unfold tailS
  by_cases e : i = j
  · subst e
    rw [h]
    simp [(List.getElem?_eq_some_iff.1 h).1]
  · cases hj : rs[j]? with
    | none => simp [e, h]
    | some r => simp [e, h, Ne.symm e]
theorem mergeS_spec : ∀ (f : Nat) (rs : List Ss), (∀ x ∈ rs, Sorted x.l) → totS rs ≤ f →
    (∀ it : Item, it ∈ mergeS f rs ↔ ∃ (i : Nat) (x : Ss), rs[i]? = some x ∧ it.row = i ∧ it.name ∈ x.l) ∧ (mergeS f rs).Pairwise itLt
  | 0, rs, hg, hf => by
    simp only [mergeS, List.not_mem_nil, false_iff]
    refine ⟨fun it => ?_, .nil⟩
    rintro ⟨i, x, h1, h2, h3⟩
    have h4 := totS_take h1
    have h5 := totS_le rs (i + 1)
    have := List.length_pos_of_mem h3
    omega
  | f + 1, rs, hg, hf => by
    obtain ⟨b1, b2⟩ := bestG_spec rs 0 none (fun _ _ e => by cases e)
    cases hb : bestG 0 none rs with
    | none =>
      simp only [mergeS, hb, List.not_mem_nil, false_iff]
      refine ⟨fun it => ?_, .nil⟩
      rintro ⟨i, x, h1, h2, h3⟩
      rw [(b1 hb).2 x (List.mem_of_getElem? h1)] at h3
      simp at h3
    | some p =>
      obtain ⟨j, t⟩ := p
      obtain ⟨c1, _, c3⟩ := b2 j t hb
      rcases c1 with c1 | ⟨k', r, tl, f1, f2, f3⟩
      · cases c1
      have f3 : j = k' := by omega
      subst f3
      have hgr := hg r (List.mem_of_getElem? f1)
      rw [f2] at hgr
      have hgr' := List.pairwise_cons.1 hgr
      have hg2 : ∀ x ∈ tailS rs j, Sorted x.l := fun x hx => by
        obtain ⟨i, hi⟩ := List.mem_iff_getElem?.1 hx
        obtain ⟨y, h1, h2⟩ := tailS_get hi
        have hy := hg y (List.mem_of_getElem? h1)
        rw [h2]
        split
        · cases hl : y.l with
          | nil => exact .nil
          | cons s tt => rw [hl] at hy; exact (List.pairwise_cons.1 hy).2
        · exact hy
      obtain ⟨i1, i2⟩ := mergeS_spec f (tailS rs j) hg2 (by have := totS_tail f1 f2; omega)
      simp only [mergeS, hb]
      constructor
      · intro it
        rw [List.mem_cons, i1]
        constructor
        · rintro (rfl | ⟨i, x, h1, h2, h3⟩)
          · exact ⟨j, r, f1, rfl, by rw [f2]; simp⟩
          · obtain ⟨y, h4, h5⟩ := tailS_get h1
            refine ⟨i, y, h4, h2, ?_⟩
            rw [h5] at h3
            split at h3
            · exact List.mem_of_mem_tail h3
            · exact h3
        · rintro ⟨i, x, h1, h2, h3⟩
          by_cases e : i = j
          · subst e
            rw [f1] at h1; cases h1
            rw [f2] at h3
            rcases List.mem_cons.1 h3 with h3 | h3
            · left
              cases it
              simp at h2 h3 ⊢
              exact ⟨h3, h2⟩
            · exact .inr ⟨i, ⟨r.l.tail, r.r⟩, by rw [tailS_get' f1]; simp, h2, by rw [f2]; exact h3⟩
          · exact .inr ⟨i, x, by rw [tailS_get' h1]; simp [e], h2, h3⟩
      · refine List.pairwise_cons.2 ⟨fun it hit => ?_, i2⟩
        obtain ⟨i, x, h1, h2, h3⟩ := (i1 it).1 hit
        obtain ⟨y, h4, h5⟩ := tailS_get h1
        unfold itLt
        by_cases e : i = j
        · subst e
          rw [f1] at h4; cases h4
          rw [h5] at h3
          simp only [if_true, f2, List.tail_cons] at h3
          exact .inl (hgr'.1 _ h3)
        · rw [if_neg e] at h5
          subst h5
          cases hl : x.l with
          | nil => rw [hl] at h3; simp at h3
          | cons s tt =>
            obtain ⟨d1, d2⟩ := c3 i x s tt h4 hl
            have hy := hg x (List.mem_of_getElem? h4)
            rw [hl] at hy h3
            have hy' := (List.pairwise_cons.1 hy).1
            rcases slt_tri t s with q | q | q
            · rcases List.mem_cons.1 h3 with h3 | h3
              · left; rw [h3]; exact q
              · left; exact slt_trans q (hy' _ h3)
            · rcases List.mem_cons.1 h3 with h3 | h3
              · right
                refine ⟨by rw [h3]; exact q, ?_⟩
                have := d2 q.symm
                simp only [h2]; omega
              · left; rw [q]; exact hy' _ h3
            · rw [d1] at q; cases q
theorem firstL_spec : ∀ (l : List Item) (p : Option Str), l.Pairwise itLt → (∀ n, p = some n → ∀ it ∈ l, slt n it.name = true ∨ n = it.name) →
    Sorted ((firstL p l).map (·.name)) ∧ (∀ it ∈ firstL p l, it ∈ l ∧ (∀ n, p = some n → slt n it.name = true) ∧ ∀ it' ∈ l, it'.name = it.name → it.row ≤ it'.row) ∧
    ∀ it ∈ l, p = some it.name ∨ ∃ it' ∈ firstL p l, it'.name = it.name
  | [], _, _, _ => by simp [firstL]
  | x :: l, p, hp, hn => by
    have hp' := List.pairwise_cons.1 hp
    have hx : ∀ it ∈ l, slt x.name it.name = true ∨ x.name = it.name := fun it hit => (hp'.1 it hit).imp _root_.id (·.1)
    obtain ⟨h1, h2, h3⟩ := firstL_spec l (some x.name) hp'.2 (fun n e it hit => by cases e; exact hx it hit)
    simp only [firstL]
    have hle : ∀ it' ∈ l, it'.name = x.name → x.row ≤ it'.row := fun it' hit e => by
      rcases hp'.1 it' hit with h | h
      · rw [e, slt_irrefl] at h; cases h
      · omega
    by_cases e : p = some x.name
    · rw [if_pos e]
      refine ⟨h1, fun it hit => ?_, fun it hit => ?_⟩
      · obtain ⟨k1, k2, k3⟩ := h2 it hit
        refine ⟨by simp [k1], fun n hn => by rw [e] at hn; cases hn; exact k2 _ rfl, fun it' hit' en => ?_⟩
        rcases List.mem_cons.1 hit' with rfl | hit'
        · have := k2 _ rfl
          rw [en, slt_irrefl] at this; cases this
        · exact k3 it' hit' en
      · rcases List.mem_cons.1 hit with rfl | hit
        · exact .inl e
        · rcases h3 it hit with h | h
          · exact .inl (e.trans h)
          · exact .inr h
    · rw [if_neg e]
      have hxp : ∀ n, p = some n → slt n x.name = true := fun n en => (hn n en x (by simp)).resolve_right fun h => e (by rw [en, h])
      refine ⟨?_, fun it hit => ?_, fun it hit => ?_⟩
      · simp only [List.map_cons]
        refine List.pairwise_cons.2 ⟨fun s hs => ?_, h1⟩
        obtain ⟨it, hit, rfl⟩ := List.mem_map.1 hs
        exact (h2 it hit).2.1 _ rfl
      · rcases List.mem_cons.1 hit with rfl | hit
        · refine ⟨by simp, hxp, fun it' hit' en => ?_⟩
          rcases List.mem_cons.1 hit' with rfl | hit'
          · omega
          · exact hle it' hit' en
        · obtain ⟨k1, k2, k3⟩ := h2 it hit
          refine ⟨by simp [k1], fun n en => slt_trans (hxp n en) (k2 _ rfl), fun it' hit' en => ?_⟩
          rcases List.mem_cons.1 hit' with rfl | hit'
          · have := k2 _ rfl
            rw [en, slt_irrefl] at this; cases this
          · exact k3 it' hit' en
      · rcases List.mem_cons.1 hit with rfl | hit
        · exact .inr ⟨_, by simp, rfl⟩
        · rcases h3 it hit with h | ⟨it', h, h'⟩
          · exact .inr ⟨x, by simp, Option.some.inj h⟩
          · exact .inr ⟨it', by simp [h], h'⟩
/-- The names of rows, each once. -/
def namesOf (rs : List Ss) : List Str := (firstL none (mergeS (totS rs) rs)).map (·.name)
theorem namesOf_spec {rs : List Ss} (h : ∀ x ∈ rs, Sorted x.l) : Sorted (namesOf rs) ∧ ∀ s, s ∈ namesOf rs ↔ ∃ x ∈ rs, s ∈ x.l := by
  obtain ⟨h1, h2⟩ := mergeS_spec (totS rs) rs h (Nat.le_refl _)
  obtain ⟨h3, h4, h5⟩ := firstL_spec _ none h2 (fun _ e => by cases e)
  refine ⟨h3, fun s => ?_⟩
  simp only [namesOf, List.mem_map]
  constructor
  · rintro ⟨it, h6, rfl⟩
    obtain ⟨i, x, k1, k2, k3⟩ := (h1 it).1 (h4 it h6).1
    exact ⟨x, List.mem_of_getElem? k1, k3⟩
  · rintro ⟨x, hx, hs⟩
    obtain ⟨i, hi⟩ := List.mem_iff_getElem?.1 hx
    rcases h5 ⟨s, i⟩ ((h1 _).2 ⟨i, x, hi, rfl, hs⟩) with e | ⟨it', h, h'⟩
    · cases e
    · exact ⟨it', h, h'⟩
end Go.Av
