/- A part of the proof of a law of this seat: Drawn regions: operations that may pass each other. No condition. -/
import Derived.Test.YtcmiahkfbnojnaaA23
set_option linter.all false
set_option linter.unusedVariables false
set_option linter.unusedSimpArgs false
/-! Drawn regions: operations that may pass each other. -/
namespace Go.Av

theorem disj_iff {a b : List Nat} : disj a b = true ↔ ∀ t ∈ a, t ∉ b := by
  unfold disj
  simp [List.all_eq_true]
section
variable {C : Ctx} {Ca : Nat → List AV → St → (AV → St → Prop) → Prop} {f : Nat} {ops : Array Oper} {fr g : Fr} {S : St} {K K' : List Oper → Fr → St → Prop} {B B2 : List Oper} {o : Oper}

/-- What a step hands on: which operation stands ahead now. -/
def Mark (o m : Oper) : Prop := m = o ∨ m = skipOf o
theorem Mark.dst {o m : Oper} (h : Mark o m) : m.dst = o.dst := by rcases h with rfl | rfl <;> rfl
theorem Mark.operands {o m : Oper} (h : Mark o m) : ∀ x ∈ m.op.operands.toList, x ∈ o.op.operands.toList := by
  rcases h with rfl | rfl
  · exact fun x h => h
  · intro x h; simp [skipOf, Op.operands] at h

theorem wBox_SB (hs : ssa ops.toList) (hB : In ops.toList B) {b : Nat} (h : wBox C f (feedsA ops o.dst) o B b) : b ∈ SB C f ops o := by
  unfold SB
  rcases h with ⟨h1, h2⟩ | h
  · rw [h1]; simp
  · refine List.mem_append_right _ ?_
    split at h
    · rename_i t x y ho
      obtain ⟨off, h⟩ := h
      rw [ho]; simp [srootO_of hs hB h]
    · rename_i t x ho
      obtain ⟨h0, off, h⟩ := h
      rw [ho]; simp [h0, srootO_of hs hB h]
    · exact h.elim
theorem wBox_loc {tk : Bool} {b : Nat} (h : wBox C f tk o B b) : C.loc f b = true := by
  rcases h with ⟨h1, h2⟩ | h
  · exact h2
  · split at h
    · rename_i t x y ho
      obtain ⟨off, h⟩ := h
      cases x with
      | tmp z => exact resolveTmp_loc h
      | _ => simp [resolve] at h
    · rename_i t x ho
      obtain ⟨h0, off, h⟩ := h
      cases x with
      | tmp z => exact resolveTmp_loc h
      | _ => simp [resolve] at h
    · exact h.elim
theorem opBoxes_SB (hs : ssa ops.toList) (hB : In ops.toList B) (hn : dD C f ops o = false) (ha : agreeR C f ops B o = true) {b : Nat} (h : b ∈ opBoxes C f B o) : b ∈ SB C f ops o := by
  unfold opBoxes at h
  unfold SB
  split at h
  · exact List.mem_append_left _ h
  · exact List.mem_append_left _ h
  · rename_i t x y ho
    rcases List.mem_append.1 h with h | h
    · exact List.mem_append_left _ (List.mem_filter.1 h).1
    · refine List.mem_append_right _ ?_
      split at h
      · rename_i b' off hr
        rw [ho]
        simpa [srootO_of hs hB hr] using h
      · cases h
  · rename_i t x ho
    rcases List.mem_append.1 h with h | h
    · exact List.mem_append_left _ (List.mem_filter.1 h).1
    · refine List.mem_append_right _ ?_
      split at h
      · rename_i b' off hr
        unfold dD isD at hn
        rw [ho] at hn
        simp [srootO_of hs hB hr] at hn
      · cases h
  · exact List.mem_append_left _ (List.mem_filter.1 h).1

/-- A step that is but a function of the frame. -/
theorem oneW_det (hs : ssa ops.toList) (hB : In ops.toList B) (hD : dD C f ops o = true) (h : oneW C Ca f ops B o K fr S) :
    ∃ m L LB, Mark o m ∧ (∀ p ∈ L, p.1 ∈ SW C ops o) ∧ (∀ d, o.dst = some d → d ∈ L.map (·.1)) ∧ (∀ p ∈ LB, p.1 ∈ SB C f ops o ∧ C.loc f p.1 = true) ∧ K (m :: B) (upd L LB fr) S ∧
      ∀ B2 fr2 S2 K2, (∀ t ∈ RV ops o, fr2.v t = fr.v t) → (∀ b ∈ RB C f ops o, fr2.b b = fr.b b) → (∀ x ∈ o.op.operands.toList, resolve C f B2 x = resolve C f B x) → (rS C f ops o = true → S2 = S) →
        K2 (m :: B2) (upd L LB fr2) S2 → oneW C Ca f ops B2 o K2 fr2 S2 := by
  have hRV : ∀ {fr2 : Fr}, (∀ t ∈ RV ops o, fr2.v t = fr.v t) → ∀ x ∈ o.op.operands.toList, ∀ t ∈ tmpOf x, fr2.v t = fr.v t := fun hh x hx t ht =>
    hh t (by unfold RV; exact List.mem_append_left _ (List.mem_flatMap.2 ⟨x, hx, ht⟩))
  have hRB : ∀ {fr2 : Fr}, (∀ b ∈ RB C f ops o, fr2.b b = fr.b b) → ∀ x ∈ o.op.operands.toList, ∀ b off, resolve C f B x = some (b, off) → fr2.b b = fr.b b := fun hh x hx b off hr =>
    hh b (by unfold RB; exact List.mem_filterMap.2 ⟨x, hx, srootO_of hs hB hr⟩)
  have run : runW C Ca f ops B o K fr S → ∃ L LB, (∀ p ∈ L, p.1 ∈ SW C ops o) ∧ (∀ d, o.dst = some d → d ∈ L.map (·.1)) ∧ (∀ p ∈ LB, p.1 ∈ SB C f ops o ∧ C.loc f p.1 = true) ∧ K (o :: B) (upd L LB fr) S ∧
      ∀ B2 fr2 S2 K2, (∀ t ∈ RV ops o, fr2.v t = fr.v t) → (∀ b ∈ RB C f ops o, fr2.b b = fr.b b) → (∀ x ∈ o.op.operands.toList, resolve C f B2 x = resolve C f B x) → (rS C f ops o = true → S2 = S) →
        K2 (o :: B2) (upd L LB fr2) S2 → runW C Ca f ops B2 o K2 fr2 S2 := by
    intro h
    unfold runW at h
    split at h
    · rename_i hok
      have hok' := hok
      simp only [Bool.and_eq_true] at hok'
      have hag : ∀ x, addrOf o.op = some x → (resolve C f B x).isSome = (srootO C f ops.toList x).isSome := fun x hx => by
        have := hok'.2
        unfold agreeR at this
        rw [hx] at this
        simpa using this
      obtain ⟨L, LB, q1, qd, q2, q3, q4⟩ := opW_det hD hag h
      refine ⟨L, LB, q1, qd, fun p hp => ⟨wBox_SB hs hB (q2 p hp), wBox_loc (q2 p hp)⟩, q3, fun B2 fr2 S2 K2 h1 h2 h3 h4 h5 => ?_⟩
      unfold runW
      rw [agreeR_congr h3, hok]
      exact q4 B2 fr2 S2 (K2 (o :: B2)) (hRV h1) (hRB h2) h3 h4 h5
    · exact h.elim
  have skip : skipW C f B o K fr S → ∃ L LB, (∀ p ∈ L, p.1 ∈ SW C ops o) ∧ (∀ d, o.dst = some d → d ∈ L.map (·.1)) ∧ (∀ p ∈ LB, p.1 ∈ SB C f ops o ∧ C.loc f p.1 = true) ∧ K (skipOf o :: B) (upd L LB fr) S ∧
      ∀ B2 fr2 S2 K2, K2 (skipOf o :: B2) (upd L LB fr2) S2 → skipW C f B2 o K2 fr2 S2 := by
    intro h
    have h : K (skipOf o :: B) (fr.skip C f o.dst) S := h
    have fin : ∀ L LB, (∀ fr : Fr, fr.skip C f o.dst = upd L LB fr) → K (skipOf o :: B) (upd L LB fr) S ∧
        ∀ B2 fr2 S2 K2, K2 (skipOf o :: B2) (upd L LB fr2) S2 → skipW C f B2 o K2 fr2 S2 := fun L LB e1 => by
      refine ⟨by rw [← e1]; exact h, fun B2 fr2 S2 K2 h5 => ?_⟩
      show K2 (skipOf o :: B2) (fr2.skip C f o.dst) S2
      rw [e1]; exact h5
    cases hd : o.dst with
    | none => exact ⟨[], [], by simp, by simp, by simp, fin [] [] fun fr => by unfold Fr.skip; rw [hd]; rfl⟩
    | some d =>
      have hW : d ∈ SW C ops o := by unfold SW opWrites; rw [hd]; simp
      have hSB : d ∈ SB C f ops o := by unfold SB; rw [hd]; simp
      cases hl : C.loc f d with
      | true => exact ⟨[(d, .tup [])], [(d, none)], by simpa using hW, fun d' e => by cases e; simp, by simpa [hl] using hSB, fin _ _ fun fr => by unfold Fr.skip; rw [hd]; simp only [hl]; rfl⟩
      | false => exact ⟨[(d, .tup [])], [], by simpa using hW, fun d' e => by cases e; simp, by simp, fin _ _ fun fr => by unfold Fr.skip; rw [hd]; simp only [hl]; rfl⟩
  unfold oneW at h
  cases hg : o.guard with
  | none =>
    rw [hg] at h
    obtain ⟨L, LB, q1, qd, q2, q3, q4⟩ := run h
    refine ⟨o, L, LB, .inl rfl, q1, qd, q2, q3, fun B2 fr2 S2 K2 h1 h2 h3 h4 h5 => ?_⟩
    unfold oneW; rw [hg]; exact q4 B2 fr2 S2 K2 h1 h2 h3 h4 h5
  | some p =>
    obtain ⟨j, want⟩ := p
    rw [hg] at h
    have hy : ∀ {fr2 : Fr}, (∀ t ∈ RV ops o, fr2.v t = fr.v t) → yieldedA ops fr2 j = yieldedA ops fr j := fun {fr2} hh => by
      unfold yieldedA
      cases hq : (ops[j]?).bind (·.dst) with
      | none => rfl
      | some d => exact hh d (by unfold RV; rw [hg]; simp [hq])
    have mkrun : yieldedA ops fr j = .bool want → runW C Ca f ops B o K fr S → ∃ m L LB, Mark o m ∧ (∀ p ∈ L, p.1 ∈ SW C ops o) ∧ (∀ d, o.dst = some d → d ∈ L.map (·.1)) ∧ (∀ p ∈ LB, p.1 ∈ SB C f ops o ∧ C.loc f p.1 = true) ∧ K (m :: B) (upd L LB fr) S ∧
      ∀ B2 fr2 S2 K2, (∀ t ∈ RV ops o, fr2.v t = fr.v t) → (∀ b ∈ RB C f ops o, fr2.b b = fr.b b) → (∀ x ∈ o.op.operands.toList, resolve C f B2 x = resolve C f B x) → (rS C f ops o = true → S2 = S) →
        K2 (m :: B2) (upd L LB fr2) S2 → oneW C Ca f ops B2 o K2 fr2 S2 := by
      intro hb h
      obtain ⟨L, LB, q1, qd, q2, q3, q4⟩ := run h
      refine ⟨o, L, LB, .inl rfl, q1, qd, q2, q3, fun B2 fr2 S2 K2 h1 h2 h3 h4 h5 => ?_⟩
      unfold oneW; rw [hg]
      have := q4 B2 fr2 S2 K2 h1 h2 h3 h4 h5
      cases want <;> simp only [hy h1, hb] <;> first | exact gG_true this | exact gG_false this
    have mkskip : (yieldedA ops fr j = .bool (!want) ∨ yieldedA ops fr j = .tup [] ∧ ((ops[j]?).bind (·.guard)).isSome = true) → skipW C f B o K fr S → ∃ m L LB, Mark o m ∧ (∀ p ∈ L, p.1 ∈ SW C ops o) ∧ (∀ d, o.dst = some d → d ∈ L.map (·.1)) ∧ (∀ p ∈ LB, p.1 ∈ SB C f ops o ∧ C.loc f p.1 = true) ∧ K (m :: B) (upd L LB fr) S ∧
      ∀ B2 fr2 S2 K2, (∀ t ∈ RV ops o, fr2.v t = fr.v t) → (∀ b ∈ RB C f ops o, fr2.b b = fr.b b) → (∀ x ∈ o.op.operands.toList, resolve C f B2 x = resolve C f B x) → (rS C f ops o = true → S2 = S) →
        K2 (m :: B2) (upd L LB fr2) S2 → oneW C Ca f ops B2 o K2 fr2 S2 := by
      intro hb h
      obtain ⟨L, LB, q1, qd, q2, q3, q4⟩ := skip h
      refine ⟨skipOf o, L, LB, .inr rfl, q1, qd, q2, q3, fun B2 fr2 S2 K2 h1 h2 h3 h4 h5 => ?_⟩
      unfold oneW; rw [hg]
      have := q4 B2 fr2 S2 K2 h5
      rcases hb with hb | ⟨hb, hgs⟩ <;> cases want <;> simp only [hy h1, hb] <;> first | exact gG_tup hgs this | exact gG_true this | exact gG_false this
    cases want with
    | true =>
      rcases gG_cases h with ⟨hb, h⟩ | ⟨hb, h⟩ | ⟨hb, hgs, h⟩
      · exact mkrun hb h
      · exact mkskip (.inl hb) h
      · exact mkskip (.inr ⟨hb, hgs⟩) h
    | false =>
      rcases gG_cases h with ⟨hb, h⟩ | ⟨hb, h⟩ | ⟨hb, hgs, h⟩
      · exact mkskip (.inl hb) h
      · exact mkrun hb h
      · exact mkskip (.inr ⟨hb, hgs⟩) h

/-- Monotone, and what is left alone. -/
theorem oneW_mono (hCa : CaMono Ca) (hs : ssa ops.toList) (hB : In ops.toList B)
    (hK : ∀ m fr' S', Mark o m → (∀ t, t ∉ SW C ops o → fr'.v t = fr.v t) → (∀ t, t ∉ SB C f ops o → fr'.b t = fr.b t) → (dD C f ops o = true → S' = S) → K (m :: B) fr' S' → K' (m :: B) fr' S') (h : oneW C Ca f ops B o K fr S) : oneW C Ca f ops B o K' fr S := by
  cases hD : dD C f ops o with
  | true =>
    obtain ⟨m, L, LB, hm, q1, qd, q2, q3, q4⟩ := oneW_det hs hB hD h
    refine q4 B fr S K' (fun _ _ => rfl) (fun _ _ => rfl) (fun _ _ => rfl) (fun _ => rfl) (hK m _ S hm (fun t ht => upd_v_not fun hh => ?_) (fun t ht => upd_b_not fun hh => ?_) (fun _ => rfl) q3)
    · obtain ⟨p, hp, rfl⟩ := List.mem_map.1 hh; exact ht (q1 p hp)
    · obtain ⟨p, hp, rfl⟩ := List.mem_map.1 hh; exact ht (q2 p hp).1
  | false =>
    have run : runW C Ca f ops B o K fr S → runW C Ca f ops B o K' fr S := by
      intro h
      unfold runW at h ⊢
      split at h
      · rename_i hok
        have hok' := hok
        simp only [Bool.and_eq_true] at hok'
        exact opW_mono hCa (fun fr' S' ha hk => hK o fr' S' (.inl rfl) ha.1 (fun t ht => ha.2 t fun hh => ht (opBoxes_SB hs hB hD hok'.2 hh)) (fun e => by rw [hD] at e; cases e) hk) h
      · exact h
    have skip : skipW C f B o K fr S → skipW C f B o K' fr S := by
      intro h
      unfold skipW at h ⊢
      refine hK (skipOf o) _ S (.inr rfl) (fun t ht => ?_) (fun t ht => ?_) (fun _ => rfl) h
      · unfold Fr.skip
        cases hd : o.dst with
        | none => rfl
        | some d =>
          have hne : t ≠ d := fun e => ht (by unfold SW opWrites; rw [hd, e]; simp)
          simp only
          split <;> simp [Fr.set, Fr.setB, hne]
      · unfold Fr.skip
        cases hd : o.dst with
        | none => rfl
        | some d =>
          have hne : t ≠ d := fun e => ht (by unfold SB; rw [hd, e]; simp)
          simp only
          split <;> simp [Fr.set, Fr.setB, hne]
    unfold oneW at h ⊢
    cases hg : o.guard with
    | none => rw [hg] at h; exact run h
    | some p =>
      obtain ⟨j, want⟩ := p
      rw [hg] at h
      cases want with
      | true => exact gG_mono h run skip skip
      | false => exact gG_mono h skip run skip
theorem oneW_mono0 (hCa : CaMono Ca) (hs : ssa ops.toList) (hB : In ops.toList B) (hK : ∀ m fr' S', Mark o m → K (m :: B) fr' S' → K' (m :: B) fr' S') (h : oneW C Ca f ops B o K fr S) : oneW C Ca f ops B o K' fr S :=
  oneW_mono hCa hs hB (fun m fr' S' hm _ _ _ => hK m fr' S' hm) h

/-- It matters not how that which stands ahead is written. -/
def Same (C : Ctx) (f : Nat) (B B2 : List Oper) : Prop := ∀ y, resolveTmp C f y B2 = resolveTmp C f y B
theorem Same.res (h : Same C f B B2) (x : Operand) : resolve C f B2 x = resolve C f B x := by
  cases x with
  | tmp y => exact h y
  | _ => rfl
theorem Same.cons (h : Same C f B B2) (m : Oper) : Same C f (m :: B) (m :: B2) := resolveTmp_tail h
theorem Same.symm (h : Same C f B B2) : Same C f B2 B := fun y => (h y).symm
theorem oneW_same (hCa : CaMono Ca) (hs : ssa ops.toList) (hB : In ops.toList B) (hsm : Same C f B B2) (hK : ∀ m fr' S', Mark o m → K (m :: B) fr' S' → K' (m :: B2) fr' S') (h : oneW C Ca f ops B o K fr S) : oneW C Ca f ops B2 o K' fr S := by
  have := oneW_graft (C := C) (Ca := Ca) (f := f) (ops := ops) (U := []) (UB := []) (g := fr) (fr := fr) (S := S) (K := K') (B := B) (B2 := B2) (o := o) (by simp) (by simp) (by simp) (fun x _ => hsm.res x)
    (oneW_mono0 hCa hs hB (fun m fr' S' hm hk m' e => by rw [graft_nil]; cases e; exact hK m fr' S' hm hk) h)
  rw [graft_nil] at this
  exact this
theorem stable_same (hCa : CaMono Ca) (hs : ssa ops.toList) (hB : In ops.toList B) (hsm : Same C f B B2) (h : stable C Ca f ops o B fr S) : stable C Ca f ops o B2 fr S :=
  oneW_same hCa hs hB hsm (fun _ _ _ _ hk => hk) h

theorem In.cons {all : List Oper} (h : In all B) (ho : o ∈ all) {m : Oper} (hm : Mark o m) (hl : B.length < all.length) : In all (m :: B) :=
  ⟨fun m' hm' => by
    rcases List.mem_cons.1 hm' with rfl | hm'
    · exact ⟨o, ho, hm⟩
    · exact h.mem m' hm', by simp; omega⟩

/-- A slot, and its box, that another one does not write. -/
theorem resolve_cons_of (hs : ssa ops.toList) (hB : In ops.toList B) {m : Oper} {x : Operand} (h1 : ∀ d, m.dst = some d → ∀ t ∈ tmpOf x, t ≠ d) (h2 : ∀ d, m.dst = some d → srootO C f ops.toList x ≠ some d) : resolve C f (m :: B) x = resolve C f B x := by
  cases x with
  | tmp y =>
    have hy : dstEq m y = false := dstEq_false.2 fun e => h1 y e y (by simp [tmpOf]) rfl
    show resolveTmp C f y (m :: B) = resolveTmp C f y B
    rw [resolveTmp_filt hy]
    cases hr : resolveTmp C f y B with
    | none => rfl
    | some p =>
      obtain ⟨b, off⟩ := p
      have : dstEq m b = false := dstEq_false.2 fun e => h2 b e (srootO_of hs hB (x := .tmp y) hr)
      simp [filt, this]
  | _ => rfl

theorem quiet_stable (hCa : CaMono Ca) (hs : ssa ops.toList) {x y : Oper} (hq : quiet C f ops x y = true) {m : Oper} (hm : Mark x m) {n : Oper} (hBn : In ops.toList (n :: B)) (hBnm : In ops.toList (n :: m :: B)) {fr0 fr2 : Fr}
    (hsm : Same C f (n :: m :: B) (m :: n :: B)) (hyD : dD C f ops y = true) (hySW : ∀ t ∈ SW C ops y, t ∈ y.dst.toList) (hySB : ∀ t ∈ SB C f ops y, t ∈ y.dst.toList)
    (h : stable C Ca f ops y (n :: m :: B) fr2 S) : stable C Ca f ops y (n :: B) (graft (SW C ops x) (SB C f ops x) fr0 fr2) S := by
  unfold quiet at hq
  simp only [Bool.and_eq_true, disj_iff] at hq
  obtain ⟨⟨⟨q1, q2⟩, q3⟩, q4⟩ := hq
  obtain ⟨m', L, LB, k1, k2, kd, k3, k4, k5⟩ := oneW_det hs hBnm hyD h
  have hxd : ∀ d, m.dst = some d → d ∈ SW C ops x ∧ d ∈ SB C f ops x := fun d e => by
    rw [hm.dst] at e
    refine ⟨?_, ?_⟩
    · unfold SW opWrites; rw [e]; simp
    · unfold SB; rw [e]; simp
  refine k5 (n :: B) _ S _ (fun t ht => graft_v fun e => q1 t e ht) (fun b hb => graft_b fun e => q3 b e hb) (fun z hz => ?_) (fun _ => rfl) ⟨?_, rfl⟩
  · rw [← hsm.res z]
    refine (resolve_cons_of hs hBn (fun d e t ht => ?_) (fun d e => ?_)).symm
    · rintro rfl
      exact q1 t (hxd _ e).1 (by unfold RV; exact List.mem_append_left _ (List.mem_flatMap.2 ⟨z, hz, ht⟩))
    · intro e'
      exact q3 d (hxd _ e).2 (by unfold RB; exact List.mem_filterMap.2 ⟨z, hz, e'⟩)
  · have hk : upd L LB fr2 = fr2 := k4.1
    refine Fr.ext' (fun t => ?_) (fun t => ?_)
    · by_cases e : t ∈ L.map (·.1)
      · obtain ⟨p, hp, rfl⟩ := List.mem_map.1 e
        have hyd := hySW _ (k2 p hp)
        rw [upd_v_same (fr2 := fr2) (.inl e), hk]
        exact (graft_v fun e2 => q2 _ e2 hyd).symm
      · rw [upd_v_not e]
    · by_cases e : t ∈ LB.map (·.1)
      · obtain ⟨p, hp, rfl⟩ := List.mem_map.1 e
        have hyd := hySB _ (k3 p hp).1
        rw [upd_b_same (fr2 := fr2) (.inl e), hk]
        exact (graft_b fun e2 => q4 _ e2 hyd).symm
      · rw [upd_b_not e]
end
end Go.Av
