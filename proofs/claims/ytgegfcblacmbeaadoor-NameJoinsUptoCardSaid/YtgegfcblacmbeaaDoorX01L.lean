/- Parts of the proofs of this seat: abstract values over the model, and what the functions of the program do. No condition. -/
import Derived.Test.YtgegfcblacmbeaaDoorX01b
set_option linter.all false
set_option linter.unusedVariables false
/-! Laws of names and paths. -/
namespace Go.Av
open Go.Proofs
theorem law01_speaks_A {w0 : World} {S : St} (hm : MaxL w0) {Q : AV → St → Prop} (hq : Q (.bool true) S) : AC w0 F_law01_speaks [] S Q := by
  apply law01_speaks_ok
  unfold G_law01_speaks
  refine name_Split_A hm (by simp) ?_
  have e : splitP [97, 47, 47, 46, 47, 98, 47, 46, 46, 47, 99] = some [[97], [98], [46, 46], [99]] := by decide
  rw [e]
  intro r hr1 hr2
  have n1 : nameR [97] = true := by decide
  have n2 : nameR [46, 46] = false := by decide
  simp [joinK_eq]
  refine ref01_Same_A (a := [[97], [98], [46, 46], [99]]) (b := [[97], [98], [46, 46], [99]]) (by simp) ?_
  simp
  refine name_Right_A (by simp) ?_
  simp [n1]
  refine name_Right_A (by simp) ?_
  simp [n2]
  refine name_Child_A (by simp) ?_
  simp
  refine name_Parent_A (d := [47, 97]) (s := [98]) (by simp) (by simp) ?_
  simpa using hq
theorem law01_NameSplits_L (w0 : World) (hm : MaxL w0) (x0 : AV) (h0 : TV t_string x0) : AC w0 F_law01_NameSplits [x0] [] fun r _ => r = .bool true := by
  obtain ⟨s, rfl, hs⟩ := h0.str un_string
  apply law01_NameSplits_ok
  unfold G_law01_NameSplits
  refine law01_speaks_A hm ?_
  simp [joinK_eq]
  refine ifK_b (fun _ => by simp) (fun h70 => ?_)
  refine name_Split_A hm hs ?_
  cases hsp : splitP s with
  | none =>
    simp
    refine ref01_Split_A hs ?_
    rw [hsp]
    simp
  | some l =>
    intro r hr1 hr2
    simp
    refine ref01_Split_A hs ?_
    rw [hsp]
    intro r' hr1' hr2'
    obtain ⟨c, tl, rfl⟩ : ∃ c tl, s = c :: tl := by
      cases s with
      | nil => simp [splitP] at hsp
      | cons c tl => exact ⟨c, tl, rfl⟩
    have e47 : ((c.toNat : Int) = 47) = (c.toNat = 47) := propext (by omega)
    have hll : l.length ≤ 1000000000000 := by
      have h1 : splitP (c :: tl) = partsP (splitS (c :: tl)) := by
        rw [splitP] at hsp ⊢
        split at hsp
        · cases hsp
        · rename_i h; rw [if_neg h]
      rw [hsp] at h1
      have h2 := (splitS_len (c :: tl)).1
      have : ∀ (l p : List Str), partsP l = some p → p.length ≤ l.length := by
        intro l
        induction l with
        | nil => intro p hp; cases hp; simp
        | cons x l ih =>
          intro p hp
          rw [partsP] at hp
          split at hp
          · have := ih p hp; simp; omega
          · split at hp
            · obtain ⟨q, hq, rfl⟩ := Option.map_eq_some_iff.1 hp
              have := ih q hq; simp; omega
            · cases hp
      have := this _ _ h1.symm
      simp at h2 hs ⊢
      omega
    simp
    refine ref01_Same_A hll ?_
    simp [u8_beq, e47]
theorem law01_NameRight_L (w0 : World) (hm : MaxL w0) (x0 : AV) (h0 : TV t_string x0) : AC w0 F_law01_NameRight [x0] [] fun r _ => r = .bool true := by
  obtain ⟨s, rfl, hs⟩ := h0.str un_string
  apply law01_NameRight_ok
  unfold G_law01_NameRight
  refine law01_speaks_A hm ?_
  simp [joinK_eq]
  refine ifK_b (fun _ => by simp) (fun h70 => ?_)
  have h70 : s.length ≤ 300 := by simp at h70; omega
  have hns := nameR_split h70
  refine name_Split_A hm hs ?_
  cases hsp : splitP s with
  | none =>
    have hf : nameR s = false := by
      cases h : nameR s with
      | false => rfl
      | true => have := (hns.1 h).1; rw [hsp] at this; cases this
    simp
    refine name_Right_A (by omega) (ref01_Right_A hs ?_)
    simp
    refine name_Right_A (by omega) ?_
    simp [hf]
  | some l =>
    intro r hr1 hr2
    rw [hsp] at hns
    by_cases c1 : s.head? = some 47
    · have hf : nameR s = false := by
        cases h : nameR s with
        | false => rfl
        | true => exact absurd c1 (hns.1 h).2.1
      simp [c1]
      refine name_Right_A (by omega) (ref01_Right_A hs ?_)
      simp
      refine name_Right_A (by omega) ?_
      simp [hf]
    have b1 : (s.head? == some 47) = false := beq_eq_false_iff_ne.2 c1
    by_cases c2 : l.length = 1
    · obtain ⟨y, rfl⟩ : ∃ y, l = [y] := by
        match l, c2 with
        | [y], _ => exact ⟨y, rfl⟩
      by_cases c3 : y = s
      · subst c3
        have hb : nameR y = !decide (y = [46, 46]) := by
          rw [Bool.eq_iff_iff, hns]
          simp [c1]
        simp [b1]
        refine name_Right_A (by omega) (ref01_Right_A hs ?_)
        simp
        refine name_Right_A (by omega) ?_
        simp [hb]
      · have hf : nameR s = false := by
          cases h : nameR s with
          | false => rfl
          | true => exact absurd (by have := (hns.1 h).1; simpa using this) c3
        simp [b1, c3]
        refine name_Right_A (by omega) (ref01_Right_A hs ?_)
        simp
        refine name_Right_A (by omega) ?_
        simp [hf]
    · have hf : nameR s = false := by
        cases h : nameR s with
        | false => rfl
        | true => exact absurd (by have := (hns.1 h).1; simp at this; rw [this]; rfl) c2
      have c2' : ¬ (l.length : Int) = 1 := by omega
      simp [b1, c2, c2']
      refine name_Right_A (by omega) (ref01_Right_A hs ?_)
      simp
      refine name_Right_A (by omega) ?_
      simp [hf]
theorem law01_NameJoins_L (w0 : World) (hm : MaxL w0) (x0 : AV) (h0 : TV t_s_string x0) : AC w0 F_law01_NameJoins [x0] [] fun r _ => r = .bool true := by
  obtain ⟨l, r, rfl, hr, hl, hx⟩ := h0.slice (enc := wStr) (ok := fun s => s.length ≤ 1048576) un_s_string ce_string dec_Str
  apply law01_NameJoins_ok
  unfold G_law01_NameJoins
  refine law01_speaks_A hm ?_
  simp
  refine ifK_b (fun _ => by simp) (fun h70 => ?_)
  have h15 : l.length ≤ 15 := by simp at h70; omega
  refine joinK_gen (fun j => (∀ s ∈ l, nameR s = true) → j []) (fun hn => ?_) (fun j hj => ?_)
  · have hpl := pathOf_len h15 hn
    refine name_Join_A (by omega) (by omega) ?_
    simp
    refine name_Split_A hm (by omega) ?_
    rw [splitP_pathOf h15 hn]
    intro r2 hr2 hr2'
    simp
    refine ref01_Join_A (by omega) (by omega) ?_
    have hhead : (pathOf l).head? = some 47 := rfl
    simp [joinK_eq]
    refine ref01_Same_A (by omega) ?_
    simp [hhead]
    refine loop_list l (fun i (q : Rt) => ([.vs 1 (l.map wStr) q, .str (pathOf (l.take i)), .int .i64 i], [])) (fun i q S' => S' = [] ∧ inR q l) r (by simp [pathOf, Lib.join_nil]) ⟨rfl, hr⟩ ?_ ?_
    · rintro i q S' v b x c hxi hd hc hm' ⟨rfl, hI⟩ hv
      simp at hv
      obtain rfl : q = .none := by
        rcases hI with ⟨_, h⟩ | h
        · rw [h] at c; simp at c
        · exact h
      have hnx := nameR_facts (hn x hm')
      have hle := pathOf_take_len l i
      have hle2 := pathOf_take_len l (i + 1)
      have hs : pathOf (l.take (i + 1)) = if l.take i = [] then 47 :: x else pathOf (l.take i) ++ 47 :: x := by
        rw [List.take_add_one, hxi, ← pathOf_snoc]
        rfl
      have htk : l.take i = [] ↔ pathOf (l.take i) = [47] := by
        constructor
        · intro h; rw [h]; rfl
        · intro h
          by_cases hi : i = 0
          · simp [hi]
          · exfalso
            obtain ⟨y, hy⟩ : ∃ y, l[i - 1]? = some y := ⟨l[i - 1]'(by omega), by simp [show i - 1 < l.length by omega]⟩
            have e : l.take i = l.take (i - 1) ++ [y] := by
              have : i = i - 1 + 1 := by omega
              rw [this, List.take_add_one, hy]
              rfl
            have hyn := nameR_facts (hn y (List.mem_of_getElem? hy))
            rw [e, pathOf_snoc] at h
            split at h
            · simp at h; exact hyn.1 h
            · have := congrArg List.length h
              simp at this
              have := List.length_pos_iff.2 hyn.1
              omega
      have hch : (if pathOf (l.take i) = [47] then pathOf (l.take i) ++ x else pathOf (l.take i) ++ 47 :: x) = pathOf (l.take (i + 1)) := by
        rw [hs]
        by_cases h : l.take i = []
        · rw [if_pos (htk.1 h), if_pos h, htk.1 h]; rfl
        · rw [if_neg (fun e => h (htk.2 e)), if_neg h]
      simp [hv, hc, hxi]
      try simp (disch := omega) only [wrap64]
      refine name_Child_A (by omega) ?_
      rw [hch, show ((i : Int) + 1) = ((i + 1 : Nat) : Int) from rfl]
      have hc1 : i + 1 ≤ l.length := c
      rw [cutA_h, if_pos ⟨rfl, by simpa using hc1, by simp⟩]
      have e2 : (l.map wStr).take (i + 1) = (l.take (i + 1)).map wStr := by rw [List.map_take]
      rw [e2]
      have hq2 : (if i + 1 = (l.map wStr).length then Rt.none else Rt.none) = .none := by split <;> rfl
      rw [hq2]
      simp [-List.map_take]
      refine ref01_Join_A (l := l.take (i + 1)) (by simp; omega) (by omega) ?_
      simp
      have hpar : pathOf (l.take (i + 1)) = (if l.take i = [] then [] else pathOf (l.take i)) ++ 47 :: x := by
        rw [hs]
        split <;> rfl
      rw [hpar]
      refine name_Parent_A (by rw [← hpar]; omega) hnx.2.2.2.2 ?_
      have hback : (if (if l.take i = [] then [] else pathOf (l.take i)) = [] then [47] else (if l.take i = [] then [] else pathOf (l.take i))) = pathOf (l.take i) := by
        by_cases h : l.take i = []
        · rw [if_pos h, if_pos rfl, h]; rfl
        · rw [if_neg h, if_neg (by simp [pathOf])]
      rw [hback, ← hpar]
      simp
      exact .next c .none (by simp) ⟨rfl, .inr rfl⟩
    · rintro q S' v b ⟨rfl, hI⟩ hv N
      simp at hv
      simp [hv]
      refine name_Parent_A (d := []) (s := []) (by simp) (by simp) ?_
      simp
  · refine loop_list l (fun i (_ : Unit) => ([.int .i64 i], [])) (fun i _ S' => S' = [] ∧ ∀ s ∈ l.take i, nameR s = true) () rfl (by simp) ?_ ?_
    · rintro i _ S' v b x c hxi hd hc hm' ⟨rfl, hI⟩ hv
      simp at hv
      simp [hv, hc, hxi]
      refine ref01_Right_A (hx x hm') ?_
      cases hnx : nameR x with
      | false => simp
      | true =>
        simp
        try simp (disch := omega) only [wrap64]
        refine .next c () rfl ⟨rfl, fun s hs => ?_⟩
        rw [List.take_add_one, hxi] at hs
        rcases List.mem_append.1 hs with hs | hs
        · exact hI s hs
        · simp at hs; rw [hs]; exact hnx
    · rintro _ S' v b ⟨rfl, hI⟩ hv N
      simp at hv
      simp [hv]
      rw [List.take_length] at hI
      exact hj hI
end Go.Av
