/- A part of the proof of a law of this seat: Drawn regions: sound against the model. No condition. -/
import Derived.Test.YtcmiahkfbnojnaaA29
import Derived.Test.YtcmiahkfbnojnaaA19
set_option linter.all false
set_option linter.unusedVariables false
set_option linter.unusedSimpArgs false
/-! Drawn regions: sound against the model. -/
namespace Go.Av
variable {E : Env} {f n : Nat} {Gs G : Gh} {ws w : World} {S : St} {a : Act} {fr : Fr}

theorem wpOp_of {P : Program} {ops : Array Oper} {Q : Exit → Act → World → Prop} {i : Nat} {o : Oper} (hi : ops[i]? = some o) {K : Act → World → Prop} {a : Act} {w : World}
    (h1 : Region.wanted o (yielded ops a.tmps) = true → o.wp P a w K Q) (h2 : Region.wanted o (yielded ops a.tmps) = false → K (a.put o.dst undef) w) : wpOp P ops Q i K a w := by
  unfold wpOp
  rw [hi]
  simp only
  cases hw : Region.wanted o (yielded ops a.tmps) with
  | true => simp only [if_true]; exact .inl (h1 hw)
  | false => simp only [Bool.false_eq_true, if_false]; exact h2 hw

theorem anyW_sound (A : Agree E) {Ca : Nat → List AV → St → (AV → St → Prop) → Prop} (hCa : CaSound E Ca) {ops : Array Oper} {K : Fr → St → Prop} {Q : Exit → Act → World → Prop}
    (hK : ∀ G' w' S' a' fr', RF E f n Gs ws G' w' S' a' fr' [] → K fr' S' → Q .normal a' w') (hok : ∀ o ∈ ops.toList, (∀ d, o.dst = some d → d < n) ∧ ∀ t ∈ opTypes E.C o, E.C.has t = true) :
    ∀ (k : Nat) {listed : Array Bool} {B : List Oper} {fr : Fr} {S : St} {G : Gh} {w : World} {a : Act}, RF E f n Gs ws G w S a fr B → anyW E.C Ca f ops K k listed B fr S → wpAny E.P .any ops Q k listed a w
  | 0, listed, B, fr, S, G, w, a, h, hw => ⟨hw.1, hK _ _ _ _ _ h.reset hw.2⟩
  | k + 1, listed, B, fr, S, G, w, a, h, hw => by
    refine ⟨fun hr => hK _ _ _ _ _ h.reset (hw.1 hr), fun i hi => ?_⟩
    obtain ⟨k1, k2, o, ho, _⟩ := mem_ready.1 hi
    have hw' := hw.2 i hi o ho
    have hoo := hok o (mem_ops ho)
    have run : runW E.C Ca f ops B o (anyW E.C Ca f ops K k (listed.setIfInBounds i true)) fr S → o.wp E.P a w (wpAny E.P .any ops Q k (listed.setIfInBounds i true)) Q := by
      intro hw
      unfold runW at hw
      split at hw
      · rename_i hk
        simp only [Bool.and_eq_true] at hk
        exact opW_sound A hCa h _ hoo.1 hk.1 hoo.2 hw (fun G' w' S' a' fr' hrf hk => anyW_sound A hCa hK hok k hrf hk)
      · exact hw.elim
    have skip : skipW E.C f B o (anyW E.C Ca f ops K k (listed.setIfInBounds i true)) fr S → wpAny E.P .any ops Q k (listed.setIfInBounds i true) (a.put o.dst undef) w := fun hw =>
      anyW_sound A hCa hK hok k (h.skip hoo.1) hw
    unfold oneW at hw'
    cases hg : o.guard with
    | none =>
      rw [hg] at hw'
      exact wpOp_of ho (fun _ => run hw') (fun e => by simp [Region.wanted, hg] at e)
    | some p =>
      obtain ⟨j, want⟩ := p
      rw [hg] at hw'
      have hwd : ∀ q, yielded ops a.tmps j = q → Region.wanted o (yielded ops a.tmps) = (q == some want) := fun q hq => by
        simp only [Region.wanted, hg, hq]
      have frun : yielded ops a.tmps j = some want → runW E.C Ca f ops B o (anyW E.C Ca f ops K k (listed.setIfInBounds i true)) fr S → wpOp E.P ops Q i (wpAny E.P .any ops Q k (listed.setIfInBounds i true)) a w := fun hy hw =>
        wpOp_of ho (fun _ => run hw) (fun e => by rw [hwd _ hy] at e; cases want <;> cases e)
      have fskip : ∀ q, q ≠ some want → yielded ops a.tmps j = q → skipW E.C f B o (anyW E.C Ca f ops K k (listed.setIfInBounds i true)) fr S → wpOp E.P ops Q i (wpAny E.P .any ops Q k (listed.setIfInBounds i true)) a w := fun q hne hy hw =>
        wpOp_of ho (fun e => by rw [hwd _ hy] at e; exact (hne (by simpa using e)).elim) (fun _ => skip hw)
      cases want with
      | true =>
        rcases gG_cases hw' with ⟨hy, hw'⟩ | ⟨hy, hw'⟩ | ⟨hy, _, hw'⟩
        · exact frun (yieldedA_bool h.frr hy) hw'
        · exact fskip _ (by simp) (yieldedA_bool h.frr hy) hw'
        · exact fskip _ (by simp) (yieldedA_tup h.frr hy) hw'
      | false =>
        rcases gG_cases hw' with ⟨hy, hw'⟩ | ⟨hy, hw'⟩ | ⟨hy, _, hw'⟩
        · exact fskip _ (by simp) (yieldedA_bool h.frr hy) hw'
        · exact frun (yieldedA_bool h.frr hy) hw'
        · exact fskip _ (by simp) (yieldedA_tup h.frr hy) hw'

theorem feedsA_feeds {ops : Array Oper} {d : Option Nat} (h : feedsA ops d = true) : feeds ops.toList d = true := by
  unfold feedsA at h
  unfold feeds
  cases d with
  | none => cases h
  | some d =>
    simp only at h ⊢
    rw [List.any_eq_true] at h ⊢
    obtain ⟨o, ho, h⟩ := h
    refine ⟨o, ho, ?_⟩
    split at h
    · rename_i e; simp only [e]; exact h
    · cases h
theorem SW_sub {C : Ctx} {ops : Array Oper} {o : Oper} : ∀ t ∈ SW C ops o, t ∈ opWrites C (feeds ops.toList o.dst) o := by
  intro t ht
  unfold SW opWrites at ht
  unfold opWrites
  rcases List.mem_append.1 ht with ht | ht
  · exact List.mem_append_left _ ht
  · refine List.mem_append_right _ ?_
    split at ht
    · split at ht
      · rename_i e
        have : (feeds ops.toList o.dst || isTupTy C o.type) = true := by
          simp only [Bool.or_eq_true] at e ⊢
          exact e.imp feedsA_feeds id
        rw [this]; exact ht
      · cases ht
    all_goals exact ht
theorem SB_sub {C : Ctx} {f : Nat} {ops : Array Oper} {o : Oper} : ∀ t ∈ SB C f ops o, t ∈ dBoxes C f ops.toList o := by
  intro t ht
  unfold SB at ht
  unfold dBoxes
  rcases List.mem_append.1 ht with ht | ht
  · exact List.mem_append_left _ ht
  · refine List.mem_append_right _ ?_
    split at ht
    · rename_i ho; simp only [ho]; exact ht
    · rename_i ho
      simp only [ho]
      split at ht
      · exact ht
      · cases ht
    · cases ht

theorem runW_as {C : Ctx} {Ca : Nat → List AV → St → (AV → St → Prop) → Prop} {ops : Array Oper} {B : List Oper} {o : Oper} {K : List Oper → Fr → St → Prop} :
    runW C Ca f ops B o K fr S = oneW C Ca f ops B { o with guard := none } (fun _ fr' S' => K (o :: B) fr' S') fr S := rfl
theorem runW_mono {C : Ctx} {Ca : Nat → List AV → St → (AV → St → Prop) → Prop} (hCa : CaMono Ca) {ops : Array Oper} {B : List Oper} {o : Oper} {K K' : List Oper → Fr → St → Prop} (hs : ssa ops.toList) (hB : In ops.toList B)
    (hK : ∀ fr' S', (∀ t, t ∉ SW C ops o → fr'.v t = fr.v t) → (∀ t, t ∉ SB C f ops o → fr'.b t = fr.b t) → K (o :: B) fr' S' → K' (o :: B) fr' S') (h : runW C Ca f ops B o K fr S) : runW C Ca f ops B o K' fr S := by
  rw [runW_as] at h ⊢
  exact oneW_mono hCa hs hB (fun m fr' S' hm g1 g2 g3 hk => hK fr' S' g1 g2 hk) h
theorem skipW_mono {C : Ctx} {ops : Array Oper} {B : List Oper} {o : Oper} {K K' : List Oper → Fr → St → Prop}
    (hK : ∀ fr' S', (∀ t, t ∉ SW C ops o → fr'.v t = fr.v t) → (∀ t, t ∉ SB C f ops o → fr'.b t = fr.b t) → K (skipOf o :: B) fr' S' → K' (skipOf o :: B) fr' S') (h : skipW C f B o K fr S) : skipW C f B o K' fr S := by
  refine hK _ S (fun t ht => ?_) (fun t ht => ?_) h
  · unfold Fr.skip
    cases hd : o.dst with
    | none => rfl
    | some d =>
      have hne : t ≠ d := fun e => ht (by unfold SW opWrites; rw [hd, e]; simp)
      simp only
      split <;> simp [Fr.set, Fr.setB, hne]
  · unfold Fr.skip
    cases hd : o.dst with
    | none => rfl
    | some d =>
      have hne : t ≠ d := fun e => ht (by unfold SB; rw [hd, e]; simp)
      simp only
      split <;> simp [Fr.set, Fr.setB, hne]
theorem eag_mono {C : Ctx} {Ca : Nat → List AV → St → (AV → St → Prop) → Prop} {ops : Array Oper} {T : List Nat} (hCa : CaMono Ca) (hs : ssa ops.toList) : ∀ {l seen : List Nat} {dec : List (Nat × Option Bool)} {B : List Oper} {K K' : Fr → St → Prop} {fr : Fr} {S : St}, In ops.toList B → B.length + l.length ≤ ops.size →
    (∀ fr' S', Agr (ops.toList.flatMap fun o => opWrites C (feeds ops.toList o.dst) o) (ops.toList.flatMap (dBoxes C f ops.toList)) fr fr' → K fr' S' → K' fr' S') → eag C Ca f ops T K seen dec l B fr S → eag C Ca f ops T K' seen dec l B fr S
  | [], seen, dec, B, K, K', fr, S, _, _, hK, h => hK fr S (Agr.refl _ _ _) h
  | i :: l, seen, dec, B, K, K', fr, S, hB, hl, hK, h => by
    simp only [eag] at h ⊢
    cases hi : ops[i]? with
    | none => rw [hi] at h; exact h
    | some o =>
      rw [hi] at h
      simp only at h ⊢
      simp only [List.length_cons] at hl
      have nxt : ∀ dec' m fr' S', Mark o m → (∀ t, t ∉ SW C ops o → fr'.v t = fr.v t) → (∀ t, t ∉ SB C f ops o → fr'.b t = fr.b t) →
          watch0 C Ca f ops (m :: B) fr' S' (eag C Ca f ops T K (addSeen C f ops o i seen) (keepD C ops o dec') l (m :: B) fr' S') (pick ops (seen.filter fun y => need C f ops T y i)) →
          watch0 C Ca f ops (m :: B) fr' S' (eag C Ca f ops T K' (addSeen C f ops o i seen) (keepD C ops o dec') l (m :: B) fr' S') (pick ops (seen.filter fun y => need C f ops T y i)) := by
        intro dec' m fr' S' hm g1 g2 hk
        rw [watch0_iff] at hk ⊢
        refine ⟨hk.1, eag_mono hCa hs (hB.cons (mem_ops hi) hm (by simp; omega)) (by simp; omega) (fun fr2 S2 ha => hK fr2 S2 ⟨fun t ht => ?_, fun t ht => ?_⟩) hk.2⟩
        · rw [ha.1 t ht]
          exact g1 t fun e => ht (List.mem_flatMap.2 ⟨o, mem_ops hi, SW_sub t e⟩)
        · rw [ha.2 t ht]
          exact g2 t fun e => ht (List.mem_flatMap.2 ⟨o, mem_ops hi, SB_sub t e⟩)
      have run : ∀ dec', runW C Ca f ops B o (fun B' fr' S' => watch0 C Ca f ops B' fr' S' (eag C Ca f ops T K (addSeen C f ops o i seen) (keepD C ops o dec') l B' fr' S') (pick ops (seen.filter fun y => need C f ops T y i))) fr S →
          runW C Ca f ops B o (fun B' fr' S' => watch0 C Ca f ops B' fr' S' (eag C Ca f ops T K' (addSeen C f ops o i seen) (keepD C ops o dec') l B' fr' S') (pick ops (seen.filter fun y => need C f ops T y i))) fr S := fun dec' h =>
        runW_mono hCa hs hB (fun fr' S' g1 g2 hk => nxt dec' o fr' S' (.inl rfl) g1 g2 hk) h
      have skip : ∀ dec', skipW C f B o (fun B' fr' S' => watch0 C Ca f ops B' fr' S' (eag C Ca f ops T K (addSeen C f ops o i seen) (keepD C ops o dec') l B' fr' S') (pick ops (seen.filter fun y => need C f ops T y i))) fr S →
          skipW C f B o (fun B' fr' S' => watch0 C Ca f ops B' fr' S' (eag C Ca f ops T K' (addSeen C f ops o i seen) (keepD C ops o dec') l B' fr' S') (pick ops (seen.filter fun y => need C f ops T y i))) fr S := fun dec' h =>
        skipW_mono (fun fr' S' g1 g2 hk => nxt dec' (skipOf o) fr' S' (.inr rfl) g1 g2 hk) h
      cases hg : o.guard with
      | none => rw [hg] at h; exact run _ h
      | some p =>
        obtain ⟨j, want⟩ := p
        rw [hg] at h
        simp only at h ⊢
        cases hdc : decided j dec with
        | some q =>
          rw [hdc] at h
          cases q with
          | none => exact skip _ h
          | some b => cases b <;> cases want <;> first | exact run _ h | exact skip _ h
        | none =>
          rw [hdc] at h
          simp only at h ⊢
          cases want with
          | true => exact gG_mono h (run _) (skip _) (skip _)
          | false => exact gG_mono h (skip _) (run _) (skip _)
theorem In.nil {all : List Oper} : In all [] := ⟨by simp, by simp⟩
theorem Drw_mono {C : Ctx} {Ca : Nat → List AV → St → (AV → St → Prop) → Prop} (hCa : CaMono Ca) : DrMono C f (Drw C Ca f) := by
  intro ops K K' fr S h hK
  unfold Drw drGo at h ⊢
  split at h
  · rename_i hok
    have hd := drOk_spec hok
    exact eag_mono hCa hd.uniq.ssa .nil (by simp [hd.len]) hK h
  · exact h
theorem Drw_sound (A : Agree E) {Ca : Nat → List AV → St → (AV → St → Prop) → Prop} (hCa : CaSound E Ca) (hM : CaMono Ca) (hmix : E.P.follows .mixedOrders = true) : DrSound E f n (Drw E.C Ca f) := by
  intro ops id K fr S Gs ws G w a Q hok h hw hK
  unfold Drw drGo at hw
  split at hw
  · rename_i hdr
    have hd := drOk_spec hdr
    refine wp_region_any hmix (anyW_sound A hCa hK hok ops.size h.drew (eager_any hM hd ops.size hd.len .nil (by simp [hd.len]) (List.Sublist.refl _) ?_ (eag_eager0 hM hd hw)))
    have hall := hd.all
    refine ⟨by simp, fun i hi d => ?_, fun i o hi hni e he hb => ?_⟩
    · simp [hi, hall i hi]
    · exact (hni (hall i (Array.getElem?_eq_some_iff.1 hi).1)).elim
  · exact hw.elim
end Go.Av
