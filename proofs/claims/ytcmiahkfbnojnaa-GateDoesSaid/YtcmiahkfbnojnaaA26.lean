/- A part of the proof of a law of this seat: Drawn regions: one order for all, shown. No condition. -/
import Derived.Test.YtcmiahkfbnojnaaA25
set_option linter.all false
set_option linter.unusedVariables false
set_option linter.unusedSimpArgs false
/-! Drawn regions: one order for all, shown. -/
namespace Go.Av
section
variable {C : Ctx} {Ca : Nat → List AV → St → (AV → St → Prop) → Prop} {f : Nat} {ops : Array Oper} {fr g : Fr} {S : St} {K : Fr → St → Prop} {B B2 : List Oper} {T : List Nat}

theorem watchK_iff {P : Prop} : ∀ {l : List Oper}, watchK C Ca f ops B fr S P l ↔ (∀ y ∈ l, stable C Ca f ops y B fr S) ∧ P
  | [] => by simp [watchK]
  | y :: l => by
    simp only [watchK, watchK_iff (l := l), List.mem_cons, forall_eq_or_imp]
    exact ⟨fun h => ⟨⟨h.1, h.2.1⟩, h.2.2⟩, fun h => ⟨h.1.1, h.1.2, h.2⟩⟩
theorem mem_pick {y : Oper} {l : List Nat} : y ∈ pick ops l ↔ ∃ i ∈ l, ops[i]? = some y := by simp [pick, List.mem_filterMap]
theorem mem_ops {i : Nat} {o : Oper} (h : ops[i]? = some o) : o ∈ ops.toList := List.mem_of_getElem? (by simpa using h)

theorem eagerW_same (hCa : CaMono Ca) (hs : ssa ops.toList) : ∀ {l seen : List Nat} {B B2 : List Oper} {fr : Fr} {S : St}, In ops.toList B → B.length + l.length ≤ ops.size → Same C f B B2 → eagerW C Ca f ops T K seen l B fr S → eagerW C Ca f ops T K seen l B2 fr S
  | [], seen, B, B2, fr, S, _, _, _, h => h
  | i :: l, seen, B, B2, fr, S, hB, hl, hsm, h => by
    simp only [eagerW] at h ⊢
    cases hi : ops[i]? with
    | none => rw [hi] at h; exact h
    | some o =>
      rw [hi] at h
      simp only at h ⊢
      simp only [List.length_cons] at hl
      refine oneW_same hCa hs hB hsm (fun m fr' S' hm hk => ?_) h
      rw [watchK_iff] at hk ⊢
      have hBm : In ops.toList (m :: B) := hB.cons (mem_ops hi) hm (by simp; omega)
      exact ⟨fun y hy => stable_same hCa hs hBm (hsm.cons m) (hk.1 y hy), eagerW_same hCa hs hBm (by simp; omega) (hsm.cons m) hk.2⟩
theorem eagerW_seen (hCa : CaMono Ca) (hs : ssa ops.toList) : ∀ {l seen seen' : List Nat} {B : List Oper} {fr : Fr} {S : St}, In ops.toList B → B.length + l.length ≤ ops.size → (∀ y ∈ seen', y ∈ seen) → eagerW C Ca f ops T K seen l B fr S → eagerW C Ca f ops T K seen' l B fr S
  | [], seen, seen', B, fr, S, _, _, _, h => h
  | i :: l, seen, seen', B, fr, S, hB, hl, hsub, h => by
    simp only [eagerW] at h ⊢
    cases hi : ops[i]? with
    | none => rw [hi] at h; exact h
    | some o =>
      rw [hi] at h
      simp only at h ⊢
      simp only [List.length_cons] at hl
      refine oneW_mono0 hCa hs hB (fun m fr' S' hm hk => ?_) h
      rw [watchK_iff] at hk ⊢
      have hBm : In ops.toList (m :: B) := hB.cons (mem_ops hi) hm (by simp; omega)
      refine ⟨fun y hy => hk.1 y ?_, eagerW_seen hCa hs hBm (by simp; omega) (fun y hy => ?_) hk.2⟩
      · obtain ⟨j, hj, e⟩ := mem_pick.1 hy
        rw [List.mem_filter] at hj
        exact mem_pick.2 ⟨j, List.mem_filter.2 ⟨hsub j hj.1, hj.2⟩, e⟩
      · unfold addSeen at hy ⊢
        cases hr : rS C f ops o with
        | true =>
          rw [hr] at hy
          simp only [List.mem_cons] at hy ⊢
          exact hy.imp id (hsub y)
        | false => rw [hr] at hy; exact hsub y hy

/-- Each slot has one operation. -/
def uniq (ops : Array Oper) : Prop := ∀ (i j : Nat) (o o' : Oper) (d : Nat), ops[i]? = some o → ops[j]? = some o' → o.dst = some d → o'.dst = some d → i = j
theorem uniq.ssa (h : uniq ops) : ssa ops.toList := by
  intro o ho o' ho' d e e'
  obtain ⟨i, hi⟩ := List.getElem?_of_mem ho
  obtain ⟨j, hj⟩ := List.getElem?_of_mem ho'
  have := h i j o o' d (by simpa using hi) (by simpa using hj) e e'
  subst this
  rw [hi] at hj
  exact Option.some.inj hj

theorem bubble (hCa : CaMono Ca) (hu : uniq ops) {i : Nat} {oi : Oper} (hi : ops[i]? = some oi) {l2 : List Nat} : ∀ {l1 seen : List Nat} {B : List Oper} {fr : Fr} {S : St}, In ops.toList B → B.length + (l1 ++ i :: l2).length ≤ ops.size →
    (∀ x ∈ l1, ∃ ox, ops[x]? = some ox ∧ canPass C f ops ox oi = true ∧ x ≠ i ∧ Nat.testBit (T.getD i 0) x = false) →
    (∀ y ∈ seen, ∀ x ∈ l1, ∀ ox oy, ops[x]? = some ox → ops[y]? = some oy → need C f ops T y i = true → x ≠ y ∧ quiet C f ops ox oy = true) →
    (∀ y x, [y, x].Sublist l1 → ∀ ox oy, ops[x]? = some ox → ops[y]? = some oy → need C f ops T y i = true → x ≠ y ∧ quiet C f ops ox oy = true) →
    (∀ y, y ∈ seen ∨ y ∈ l1 → ∀ oy, ops[y]? = some oy → need C f ops T y i = true → watchable C f ops oy = true) →
    eagerW C Ca f ops T K seen (l1 ++ i :: l2) B fr S →
    oneW C Ca f ops B oi (fun B' fr' S' => (∀ y ∈ pick ops (seen.filter fun y => need C f ops T y i), stable C Ca f ops y B' fr' S') ∧ eagerW C Ca f ops T K seen (l1 ++ l2) B' fr' S') fr S
  | [], seen, B, fr, S, hB, hl, _, _, _, _, h => by
    have hs := hu.ssa
    simp only [List.nil_append, eagerW, hi] at h
    simp only [List.nil_append, List.length_cons] at hl
    refine oneW_mono0 hCa hs hB (fun m fr' S' hm hk => ?_) h
    rw [watchK_iff] at hk
    have hBm : In ops.toList (m :: B) := hB.cons (mem_ops hi) hm (by simp; omega)
    refine ⟨hk.1, eagerW_seen hCa hs hBm (by simp; omega) (fun y hy => ?_) hk.2⟩
    unfold addSeen
    split
    · exact List.mem_cons_of_mem _ hy
    · exact hy
  | x :: l1, seen, B, fr, S, hB, hl, hp, hq, ht, hw, h => by
    have hs := hu.ssa
    obtain ⟨ox, hx, hcp, hne, htb⟩ := hp x (by simp)
    have hD : dD C f ops ox = true := by
      unfold canPass at hcp
      simp only [Bool.and_eq_true] at hcp
      exact hcp.1
    have hnil : ∀ l : List Nat, l.filter (fun y => need C f ops T y x) = [] := fun l => by
      rw [List.filter_eq_nil_iff]
      intro y _
      unfold need
      rw [hx]
      split
      · rename_i e; cases e; simp [hD]
      · simp
    simp only [List.cons_append, eagerW, hx] at h
    simp only [List.cons_append, List.length_cons, List.length_append] at hl
    generalize hseen : addSeen C f ops ox x seen = seen' at h
    have hsub : ∀ y ∈ seen, y ∈ seen' := fun y hy => by
      rw [← hseen]; unfold addSeen; split
      · exact List.mem_cons_of_mem _ hy
      · exact hy
    have hsub' : ∀ y ∈ seen', y = x ∨ y ∈ seen := fun y hy => by
      rw [← hseen] at hy
      unfold addSeen at hy
      split at hy
      · simpa using hy
      · exact .inr hy
    let KK : List Oper → Fr → St → Prop := fun B fr S => ∃ B0, In ops.toList B0 ∧ B0.length + (l1 ++ l2).length ≤ ops.size ∧ Same C f B0 B ∧ eagerW C Ca f ops T K seen' (l1 ++ l2) B0 fr S
    have hstep : oneW C Ca f ops B ox (fun B1 fr1 S1 => oneW C Ca f ops B1 oi (fun B2 fr2 S2 => (∀ y ∈ pick ops (seen'.filter fun y => need C f ops T y i), stable C Ca f ops y B2 fr2 S2) ∧ KK B2 fr2 S2) fr1 S1) fr S := by
      refine oneW_mono0 hCa hs hB (fun m fr1 S1 hm hk => ?_) h
      rw [watchK_iff] at hk
      have hBm : In ops.toList (m :: B) := hB.cons (mem_ops hx) hm (by simp; omega)
      have := bubble hCa hu hi (l1 := l1) (seen := seen') hBm (by simp; omega) (fun x' hx' => hp x' (List.mem_cons_of_mem _ hx')) (fun y hy x' hx' ox' oy e1 e2 e3 => ?_)
        (fun y x' hsl => ht y x' (hsl.trans (List.sublist_cons_self _ _))) (fun y hy => hw y ?_) hk.2
      · refine oneW_mono0 hCa hs hBm (fun n fr2 S2 hn hk2 => ⟨hk2.1, ?_⟩) this
        exact ⟨n :: m :: B, hBm.cons (mem_ops hi) hn (by simp; omega), by simp; omega, fun y => rfl, hk2.2⟩
      · rcases hsub' y hy with rfl | hy
        · exact ht y x' (by simpa using hx') ox' oy e1 e2 e3
        · exact hq y hy x' (List.mem_cons_of_mem _ hx') ox' oy e1 e2 e3
      · rcases hy with hy | hy
        · rcases hsub' y hy with rfl | hy
          · exact .inr (by simp)
          · exact .inl hy
        · exact .inr (List.mem_cons_of_mem _ hy)
    have hws : ∀ y ∈ pick ops (seen'.filter fun y => need C f ops T y i), y ≠ ox → quiet C f ops ox y = true ∧ watchable C f ops y = true := by
      intro oy hy hyx
      obtain ⟨y, hy1, hy2⟩ := mem_pick.1 hy
      rw [List.mem_filter] at hy1
      rcases hsub' y hy1.1 with rfl | hys
      · rw [hx] at hy2; exact (hyx (Option.some.inj hy2).symm).elim
      · exact ⟨(hq y hys x (by simp) ox oy hx hy2 hy1.2).2, hw y (.inl hys) oy hy2 hy1.2⟩
    have hsw := swap (K := KK) hCa hs hB (mem_ops hx) (mem_ops hi) (by omega) (fun d e1 e2 => hne (hu x i ox oi d hx hi e1 e2)) hcp _ (fun e1 e2 => mem_pick.2 ⟨x, List.mem_filter.2 ⟨by rw [← hseen]; unfold addSeen; rw [e1]; simp, by
        unfold need; rw [hx, hi]; simp only [e1, e2, htb]; rfl⟩, hx⟩) hws (fun B1 B2 fr S hsm ⟨B0, k1, k2, k3, k4⟩ => ⟨B0, k1, k2, fun y => (hsm y).trans (k3 y), k4⟩) hstep
    refine oneW_mono0 hCa hs hB (fun m fr1 S1 hm hk => ⟨fun oy hy => ?_, ?_⟩) hsw
    · obtain ⟨y, hy1, hy2⟩ := mem_pick.1 hy
      rw [List.mem_filter] at hy1
      refine hk.1 oy (mem_pick.2 ⟨y, List.mem_filter.2 ⟨hsub y hy1.1, hy1.2⟩, hy2⟩) fun e => ?_
      have hne' := (hq y hy1.1 x (by simp) ox oy hx hy2 hy1.2).1
      have hwt := hw y (.inl hy1.1) oy hy2 hy1.2
      unfold watchable at hwt
      simp only [Bool.and_eq_true] at hwt
      obtain ⟨d, hd⟩ := Option.isSome_iff_exists.1 hwt.2
      exact hne' (hu x y ox oy d hx hy2 (e ▸ hd) hd)
    · have hBm : In ops.toList (m :: B) := hB.cons (mem_ops hi) hm (by simp; omega)
      simp only [List.cons_append, eagerW, hx, hseen, hnil, pick, List.filterMap_nil, watchK]
      refine oneW_mono0 hCa hs hBm (fun n fr2 S2 hn ⟨B0, k1, k2, k3, k4⟩ => eagerW_same hCa hs k1 k2 k3 k4) hk.2
end
end Go.Av
