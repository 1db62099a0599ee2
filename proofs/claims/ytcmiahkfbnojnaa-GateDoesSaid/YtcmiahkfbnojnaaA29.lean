/- A part of the proof of a law of this seat: Drawn regions: the one order, as it is printed (guards decided once; what is watched, slot by slot). No condition. -/
import Derived.Test.YtcmiahkfbnojnaaA27
set_option linter.all false
set_option linter.unusedVariables false
set_option linter.unusedSimpArgs false
/-! Drawn regions: the one order, as it is printed (guards decided once; what is watched, slot by slot). -/
namespace Go.Av
section
variable (C : Ctx) (Ca : Nat → List AV → St → (AV → St → Prop) → Prop) (f : Nat) (ops : Array Oper)
/-- It reads the same once more: its slot. -/
def stab (o : Oper) (B : List Oper) (fr : Fr) (S : St) : Prop :=
  match o.dst with
  | some d => oneW C Ca f ops B o (fun _ fr' _ => fr'.v d = fr.v d) fr S
  | none => False
def watch0 (B : List Oper) (fr : Fr) (S : St) (P : Prop) : List Oper → Prop
  | [] => P
  | y :: l => stab C Ca f ops y B fr S ∧ watch0 B fr S P l
def keepD (o : Oper) (dec : List (Nat × Option Bool)) : List (Nat × Option Bool) := dec.filter fun p => match (ops[p.1]?).bind (·.dst) with | some d => !((SW C ops o).elem d) | none => true
def eag (T : List Nat) (K : Fr → St → Prop) : List Nat → List (Nat × Option Bool) → List Nat → List Oper → Fr → St → Prop
  | _, _, [], _, fr, S => K fr S
  | seen, dec, i :: l, B, fr, S => match ops[i]? with
    | some o =>
      let nxt (dec : List (Nat × Option Bool)) : List Oper → Fr → St → Prop := fun B' fr' S' => watch0 C Ca f ops B' fr' S' (eag T K (addSeen C f ops o i seen) (keepD C ops o dec) l B' fr' S') (pick ops (seen.filter fun y => need C f ops T y i))
      match o.guard with
      | none => runW C Ca f ops B o (nxt dec) fr S
      | some (j, want) => match decided j dec with
        | some (some b) => match b, want with
          | true, true | false, false => runW C Ca f ops B o (nxt dec) fr S
          | _, _ => skipW C f B o (nxt dec) fr S
        | some none => skipW C f B o (nxt dec) fr S
        | none => match want with
          | true => gG ((ops[j]?).bind (·.guard)) (yieldedA ops fr j) (runW C Ca f ops B o (nxt ((j, some true) :: dec)) fr S) (skipW C f B o (nxt ((j, some false) :: dec)) fr S) (skipW C f B o (nxt ((j, none) :: dec)) fr S)
          | false => gG ((ops[j]?).bind (·.guard)) (yieldedA ops fr j) (skipW C f B o (nxt ((j, some true) :: dec)) fr S) (runW C Ca f ops B o (nxt ((j, some false) :: dec)) fr S) (skipW C f B o (nxt ((j, none) :: dec)) fr S)
    | none => False
def drGo (T order : List Nat) (K : Fr → St → Prop) (fr : Fr) (S : St) : Prop :=
  match drOk C f ops T order with
  | true => eag C Ca f ops T K [] [] order [] fr S
  | false => False
end
section
variable (C : Ctx) (Ca : Nat → List AV → St → (AV → St → Prop) → Prop) (f : Nat)
/-- What stands for a drawn region. -/
def Drw (ops : Array Oper) (K : Fr → St → Prop) (fr : Fr) (S : St) : Prop :=
  drGo C Ca f ops (mkT ops.toList []) (orderGo ops.size 0 (entries C f ops (mkT ops.toList []) 0 ops.toList)) K fr S
end
section
variable {C : Ctx} {Ca : Nat → List AV → St → (AV → St → Prop) → Prop} {f : Nat} {ops : Array Oper} {fr g : Fr} {S : St} {K : Fr → St → Prop} {B B2 : List Oper} {T order : List Nat} {o y : Oper}

theorem decided_in : ∀ {dec : List (Nat × Option Bool)} {j : Nat} {b : Option Bool}, decided j dec = some b → (j, b) ∈ dec
  | [], j, b, h => by simp [decided] at h
  | p :: l, j, b, h => by
    simp only [decided] at h
    split at h
    · rename_i e
      cases h
      have := Nat.eq_of_beq_eq_true e
      rw [← this]; simp
    · exact List.mem_cons_of_mem _ (decided_in h)

theorem stab_stable (hCa : CaMono Ca) (hs : ssa ops.toList) (hB : In ops.toList B) (hw : watchable C f ops y = true) (h : stab C Ca f ops y B fr S) : stable C Ca f ops y B fr S := by
  obtain ⟨d1, d2, d3, _⟩ := watchable_D hw
  unfold watchable at hw
  simp only [Bool.and_eq_true, disj_iff] at hw
  obtain ⟨⟨⟨⟨_, s1⟩, s2⟩, s3⟩, s4⟩ := hw
  obtain ⟨d, hd⟩ := Option.isSome_iff_exists.1 s4
  unfold stab at h
  rw [hd] at h d2 d3 s3
  simp only at h
  obtain ⟨m, L, LB, k1, k2, kd, k3, k4, k5⟩ := oneW_det hs hB d1 h
  refine k5 B fr S _ (fun _ _ => rfl) (fun _ _ => rfl) (fun _ _ => rfl) (fun _ => rfl) ⟨Fr.ext' (fun t => ?_) (fun t => ?_), rfl⟩
  · by_cases e : t ∈ L.map (·.1)
    · obtain ⟨p, hp, rfl⟩ := List.mem_map.1 e
      have := d2 _ (k2 p hp)
      simp at this
      rw [this]; exact k4
    · exact upd_v_not e
  · refine upd_b_not fun e => ?_
    obtain ⟨p, hp, rfl⟩ := List.mem_map.1 e
    have h1 := d3 _ (k3 p hp).1
    have h2 := List.all_eq_true.1 s3 _ h1
    rw [(k3 p hp).2] at h2
    cases h2

theorem watch0_iff {P : Prop} : ∀ {l : List Oper}, watch0 C Ca f ops B fr S P l ↔ (∀ y ∈ l, stab C Ca f ops y B fr S) ∧ P
  | [] => by simp [watch0]
  | y :: l => by
    simp only [watch0, watch0_iff (l := l), List.mem_cons, forall_eq_or_imp]
    exact ⟨fun h => ⟨⟨h.1, h.2.1⟩, h.2.2⟩, fun h => ⟨h.1.1, h.1.2, h.2⟩⟩

theorem runW_oneW_none (hg : o.guard = none) {K : List Oper → Fr → St → Prop} (h : runW C Ca f ops B o K fr S) : oneW C Ca f ops B o K fr S := by
  unfold oneW; rw [hg]; exact h
def decA : Option Bool → AV | some b => .bool b | none => .tup []
def DecOk (ops : Array Oper) (fr : Fr) (p : Nat × Option Bool) : Prop := yieldedA ops fr p.1 = decA p.2 ∧ (p.2 = none → ((ops[p.1]?).bind (·.guard)).isSome = true)
theorem runW_oneW {j : Nat} {b : Bool} (hg : o.guard = some (j, b)) (hy : yieldedA ops fr j = .bool b) {K : List Oper → Fr → St → Prop} (h : runW C Ca f ops B o K fr S) : oneW C Ca f ops B o K fr S := by
  unfold oneW; rw [hg]; cases b <;> simp only [hy] <;> first | exact gG_true h | exact gG_false h
theorem skipW_oneW {j : Nat} {q : Option Bool} {w : Bool} (hg : o.guard = some (j, w)) (hne : q ≠ some w) (hd : DecOk ops fr (j, q)) {K : List Oper → Fr → St → Prop} (h : skipW C f B o K fr S) : oneW C Ca f ops B o K fr S := by
  obtain ⟨hy, hgs⟩ := hd
  simp only at hy hgs
  unfold oneW; rw [hg]
  cases q with
  | none => cases w <;> simp only [hy, decA] <;> exact gG_tup (hgs rfl) h
  | some b => cases b <;> cases w <;> simp only [hy, decA] <;> first | exact (hne rfl).elim | exact gG_true h | exact gG_false h

theorem eag_eager (hCa : CaMono Ca) (hs : ssa ops.toList) : ∀ {l seen : List Nat} {dec : List (Nat × Option Bool)} {B : List Oper} {fr : Fr} {S : St}, In ops.toList B → B.length + l.length ≤ ops.size →
    (∀ p ∈ dec, DecOk ops fr p) → (∀ y ∈ seen, ∀ i ∈ l, ∀ oy, ops[y]? = some oy → need C f ops T y i = true → watchable C f ops oy = true) →
    (∀ y i, [y, i].Sublist l → ∀ oy, ops[y]? = some oy → need C f ops T y i = true → watchable C f ops oy = true) →
    eag C Ca f ops T K seen dec l B fr S → eagerW C Ca f ops T K seen l B fr S
  | [], seen, dec, B, fr, S, _, _, _, _, _, h => h
  | i :: l, seen, dec, B, fr, S, hB, hl, hdec, hw1, hw2, h => by
    simp only [eag] at h
    simp only [eagerW]
    cases hi : ops[i]? with
    | none => rw [hi] at h; exact h
    | some o =>
      rw [hi] at h
      simp only at h ⊢
      simp only [List.length_cons] at hl
      -- one step
      have fin : ∀ dec', (∀ p ∈ dec', DecOk ops fr p) → oneW C Ca f ops B o (fun B' fr' S' => watch0 C Ca f ops B' fr' S' (eag C Ca f ops T K (addSeen C f ops o i seen) (keepD C ops o dec') l B' fr' S') (pick ops (seen.filter fun y => need C f ops T y i))) fr S →
          oneW C Ca f ops B o (fun B' fr' S' => watchK C Ca f ops B' fr' S' (eagerW C Ca f ops T K (addSeen C f ops o i seen) l B' fr' S') (pick ops (seen.filter fun y => need C f ops T y i))) fr S := by
        intro dec' hdec' h
        refine oneW_mono hCa hs hB (fun m fr' S' hm g1 g2 g3 hk => ?_) h
        rw [watch0_iff] at hk
        rw [watchK_iff]
        have hBm : In ops.toList (m :: B) := hB.cons (mem_ops hi) hm (by simp; omega)
        refine ⟨fun oy hy => ?_, eag_eager hCa hs hBm (by simp; omega) (fun p hp => ?_) (fun y hy i' hi' => ?_) (fun y i' hsl => hw2 y i' (hsl.trans (List.sublist_cons_self _ _))) hk.2⟩
        · obtain ⟨y, hy1, hy2⟩ := mem_pick.1 hy
          rw [List.mem_filter] at hy1
          exact stab_stable hCa hs hBm (hw1 y hy1.1 i (by simp) oy hy2 hy1.2) (hk.1 oy hy)
        · unfold keepD at hp
          rw [List.mem_filter] at hp
          obtain ⟨h1, h0⟩ := hdec' p hp.1
          have h2 := hp.2
          refine ⟨?_, h0⟩
          unfold yieldedA at h1 ⊢
          cases hq : (ops[p.1]?).bind (·.dst) with
          | none => rw [hq] at h1; exact h1
          | some d =>
            rw [hq] at h1 h2
            simp only at h1 h2 ⊢
            rw [g1 d (by simpa using h2)]
            exact h1
        · unfold addSeen at hy
          split at hy
          · rcases List.mem_cons.1 hy with rfl | hy
            · exact hw2 _ i' (List.Sublist.cons_cons _ (by simpa using hi'))
            · exact hw1 y hy i' (List.mem_cons_of_mem _ hi')
          · exact hw1 y hy i' (List.mem_cons_of_mem _ hi')
      cases hg : o.guard with
      | none => rw [hg] at h; exact fin _ hdec (runW_oneW_none hg h)
      | some p =>
        obtain ⟨j, want⟩ := p
        rw [hg] at h
        simp only at h
        have hmore : ∀ q, DecOk ops fr (j, q) → ∀ p ∈ (j, q) :: dec, DecOk ops fr p := fun q hq p hp => by
          rcases List.mem_cons.1 hp with rfl | hp
          · exact hq
          · exact hdec p hp
        cases hd : decided j dec with
        | some q =>
          rw [hd] at h
          have hy := hdec _ (decided_in hd)
          cases q with
          | none => exact fin _ hdec (skipW_oneW (q := none) hg (by simp) hy h)
          | some b => cases b <;> cases want <;> first | exact fin _ hdec (runW_oneW hg hy.1 h) | exact fin _ hdec (skipW_oneW hg (by simp) hy h)
        | none =>
          rw [hd] at h
          simp only at h
          cases want with
          | true =>
            rcases gG_cases h with ⟨hy, h⟩ | ⟨hy, h⟩ | ⟨hy, hgs, h⟩
            · exact fin _ (hmore (some true) ⟨hy, by simp⟩) (runW_oneW hg hy h)
            · exact fin _ (hmore (some false) ⟨hy, by simp⟩) (skipW_oneW (q := some false) hg (by simp) ⟨hy, by simp⟩ h)
            · exact fin _ (hmore none ⟨hy, fun _ => hgs⟩) (skipW_oneW (q := none) hg (by simp) ⟨hy, fun _ => hgs⟩ h)
          | false =>
            rcases gG_cases h with ⟨hy, h⟩ | ⟨hy, h⟩ | ⟨hy, hgs, h⟩
            · exact fin _ (hmore (some true) ⟨hy, by simp⟩) (skipW_oneW (q := some true) hg (by simp) ⟨hy, by simp⟩ h)
            · exact fin _ (hmore (some false) ⟨hy, by simp⟩) (runW_oneW hg hy h)
            · exact fin _ (hmore none ⟨hy, fun _ => hgs⟩) (skipW_oneW (q := none) hg (by simp) ⟨hy, fun _ => hgs⟩ h)
theorem eag_eager0 (hCa : CaMono Ca) (hd : DrOk C f ops T order) (h : eag C Ca f ops T K [] [] order [] fr S) : eagerW C Ca f ops T K [] order [] fr S :=
  eag_eager hCa hd.uniq.ssa ⟨by simp, by simp⟩ (by simp [hd.len]) (by simp) (by simp) (fun y i hsl oy e1 e2 => need_watchable (hd.pair y i hsl) e1 e2) h
end
end Go.Av
