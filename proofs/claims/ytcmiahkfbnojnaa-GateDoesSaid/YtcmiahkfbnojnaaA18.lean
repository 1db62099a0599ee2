/- A part of the proof of a law of this seat: Regions, code, functions: the transformer is sound. No condition. -/
import Derived.Test.YtcmiahkfbnojnaaA17
set_option linter.all false
set_option linter.unusedVariables false
set_option linter.unusedSimpArgs false
/-! Regions, code, functions: the transformer is sound. -/
namespace Go.Av

section
variable {C : Ctx} {Ca : Nat → List AV → St → (AV → St → Prop) → Prop} {f : Nat} {Dr : Array Oper → (Fr → St → Prop) → Fr → St → Prop}
def DrMono (C : Ctx) (f : Nat) (Dr : Array Oper → (Fr → St → Prop) → Fr → St → Prop) : Prop :=
  ∀ (ops : Array Oper) (K K' : Fr → St → Prop) (fr : Fr) (S : St), Dr ops K fr S →
    (∀ fr' S', Agr (ops.toList.flatMap fun o => opWrites C (feeds ops.toList o.dst) o) (ops.toList.flatMap (dBoxes C f ops.toList)) fr fr' → K fr' S' → K' fr' S') → Dr ops K' fr S

theorem mixFr_agr (ws bs : List Nat) (fr : Fr) (v : Nat → AV) (b : Nat → Option (List AV)) : Agr ws bs fr (mixFr ws bs fr v b) := by
  refine ⟨fun t ht => ?_, fun t ht => ?_⟩
  · have : ws.elem t = false := by simpa using ht
    simp only [mixFr, this]
  · have : bs.elem t = false := by simpa using ht
    simp only [mixFr, this]
theorem mixFr_self {ws bs : List Nat} {fr fr' : Fr} (h : Agr ws bs fr fr') : mixFr ws bs fr fr'.v fr'.b = fr' := by
  have h1 : (fun j => match ws.elem j with | true => fr'.v j | false => fr.v j) = fr'.v := by
    funext t
    cases he : ws.elem t with
    | true => rfl
    | false => exact (h.1 t (by simpa using he)).symm
  have h2 : (fun j => match bs.elem j with | true => fr'.b j | false => fr.b j) = fr'.b := by
    funext t
    cases he : bs.elem t with
    | true => rfl
    | false => exact (h.2 t (by simpa using he)).symm
  exact congr (congrArg Fr.mk h1) h2

theorem W_mono (hCa : CaMono Ca) (hDr : DrMono C f Dr) : ∀ (c : Code) {K K' : Ex → Fr → St → Prop} {fr : Fr} {S : St}, (∀ ex fr' S', Agr (cWrites C c) (cBoxes C f c) fr fr' → K ex fr' S' → K' ex fr' S') → W C Ca f Dr c K fr S → W C Ca f Dr c K' fr S
  | .skip, K, K', fr, S, hK, h => hK _ _ _ (Agr.refl _ _ _) h
  | .region _ ops false, K, K', fr, S, hK, h => opsW_mono hCa .nil (fun fr' S' ha => hK _ _ _ ha) h
  | .region _ ops true, K, K', fr, S, hK, h => hDr _ _ _ _ _ h fun fr' S' ha => hK _ _ _ ha
  | .seq a b, K, K', fr, S, hK, h => by
    refine W_mono hCa hDr a (fun ex fr1 S1 ha hk => ?_) h
    cases ex with
    | normal => exact W_mono hCa hDr b (fun ex2 fr2 S2 hb => hK _ _ _ (ha.trans hb)) hk
    | exit id => exact hK _ _ _ (ha.mono (fun t => List.mem_append_left _) (fun t => List.mem_append_left _)) hk
    | ret => exact hK _ _ _ (ha.mono (fun t => List.mem_append_left _) (fun t => List.mem_append_left _)) hk
  | .cond c a b, K, K', fr, S, hK, h => by
    simp only [W, ifK] at h ⊢
    split at h
    · exact W_mono hCa hDr a (fun ex fr1 S1 ha => hK _ _ _ (ha.mono (fun t => List.mem_append_left _) (fun t => List.mem_append_left _))) h
    · exact W_mono hCa hDr b (fun ex fr1 S1 ha => hK _ _ _ (ha.mono (fun t => List.mem_append_right _) (fun t => List.mem_append_right _))) h
    · exact h
  | .block id b, K, K', fr, S, hK, h => by
    refine W_mono hCa hDr b (fun ex fr1 S1 ha hk => ?_) h
    cases ex with
    | normal => exact hK _ _ _ ha hk
    | ret => exact hK _ _ _ ha hk
    | exit j =>
      simp only [blockK] at hk ⊢
      split at hk
      · exact hK _ _ _ ha hk
      · exact hK _ _ _ ha hk
  | .loop c, K, K', fr, S, hK, h => by
    simp only [W, loopQ] at h ⊢
    obtain ⟨J, h0, hJ⟩ := h
    refine ⟨J, h0, fun n v b S1 hj => ?_⟩
    refine W_mono hCa hDr c (fun ex fr1 S2 ha hk => ?_) (hJ n v b S1 hj)
    have hb : Agr (cWrites C c) (cBoxes C f c) fr fr1 := ((mixFr_agr _ _ fr v b).trans ha).mono (fun t ht => (List.mem_append.1 ht).elim id id) (fun t ht => (List.mem_append.1 ht).elim id id)
    cases ex with
    | normal => exact hk
    | exit id => exact hK _ _ _ hb hk
    | ret => exact hK _ _ _ hb hk
  | .exit id, K, K', fr, S, hK, h => hK _ _ _ (Agr.refl _ _ _) h
  | .ret, K, K', fr, S, hK, h => hK _ _ _ (Agr.refl _ _ _) h
  | .rangeFunc .., K, K', fr, S, hK, h => h
  | .scope _, K, K', fr, S, hK, h => h
  | .label _, K, K', fr, S, hK, h => h
  | .goto _, K, K', fr, S, hK, h => h
  | .refuse _, K, K', fr, S, hK, h => h
end

variable {E : Env} {f n : Nat} {Gs G : Gh} {ws w : World} {S : St} {a : Act} {fr : Fr} {before : List Oper}

theorem wp_frame {P : Program} {o : Oper} {next : Act → World → Prop} {Q : Exit → Act → World → Prop} (h : o.wp P a w (fun a' w' => (∀ j, o.dst ≠ some j → a'.tmps[j]? = a.tmps[j]?) → next a' w') Q) : o.wp P a w next Q := by
  have hput : ∀ (b : Act) (v : Value), b.tmps = a.tmps → ∀ j, o.dst ≠ some j → (b.put o.dst v).tmps[j]? = a.tmps[j]? := by
    intro b v hb j hj
    cases hd : o.dst with
    | none => simp [Act.put, hb]
    | some d =>
      have : d ≠ j := fun e => hj (by rw [hd, e])
      simp [Act.put, hb, this]
  unfold Oper.wp at h ⊢
  revert h
  generalize (execOp a.eval o).run P w = r
  intro h
  unfold Oper.upon at h ⊢
  split at h
  · exact h (hput a _ rfl)
  · exact h (hput a _ rfl)
  · exact h (hput _ _ rfl)
  · refine h.mono fun e w' => ?_
    intro hh
    cases e with
    | returned v => exact hh (hput a _ rfl)
    | panicked c => exact hh
    | outgrown => exact hh
  · exact h.mono fun v w' hh => hh (hput a _ rfl)
  · exact h
  · exact h

theorem yielded_bool {ops : Array Oper} {tmps : Array Value} {j : Nat} {b : Bool} : yielded ops tmps j = some b ↔ ∃ d, (ops[j]?).bind (·.dst) = some d ∧ tmps[d]? = some (.bool b) := by
  unfold yielded
  constructor
  · intro h
    split at h
    · rename_i b' hb
      cases h
      rw [Option.bind_eq_some_iff] at hb
      exact hb
    · cases h
  · rintro ⟨d, h1, h2⟩
    rw [h1]
    simp [h2]
theorem yieldedA_bool {ops : Array Oper} {j : Nat} {b : Bool} (h : FrR E f n G w a fr) (hy : yieldedA ops fr j = .bool b) : yielded ops a.tmps j = some b := by
  unfold yieldedA at hy
  split at hy
  · rename_i d hd
    have := (h.slot d).vr
    rw [hy] at this
    have hv := this.bool_inv
    refine yielded_bool.2 ⟨d, hd, ?_⟩
    simp only [Act.at, Array.getD_eq_getD_getElem?] at hv
    cases hq : a.tmps[d]? with
    | none => rw [hq] at hv; cases hv
    | some v => rw [hq] at hv; simp at hv; rw [hv]
  · cases hy

/-- An operation is passed over. -/
theorem RF.skip (h : RF E f n Gs ws G w S a fr before) {o : Oper} (hd : ∀ d, o.dst = some d → d < n) : RF E f n Gs ws G w S (a.put o.dst undef) (fr.skip E.C f o.dst) ({ o with op := .ready 0 } :: before) := by
  have hat := fun t => Act.at_put h.frr.size (v := undef) hd t
  have hv : ∀ t, (fr.skip E.C f o.dst).v t = if o.dst = some t then .tup [] else fr.v t := by
    intro t
    unfold Fr.skip
    split
    · rename_i d e
      have : (if o.dst = some t then AV.tup [] else fr.v t) = if t = d then .tup [] else fr.v t := by
        rw [e]; by_cases e1 : t = d <;> simp [e1, eq_comm]
      rw [this]
      split <;> rfl
    · rename_i e; rw [e]; simp
  have hb : ∀ t cs, (fr.skip E.C f o.dst).b t = some cs → fr.b t = some cs ∧ (o.dst = some t → E.C.loc f t = false) := by
    intro t cs
    unfold Fr.skip
    split
    · rename_i d e
      split
      · rename_i hl
        intro hh
        simp only [Fr.set, Fr.setB] at hh
        by_cases e1 : t = d
        · simp [e1] at hh
        · simp only [e1, if_false] at hh
          exact ⟨hh, fun e2 => by rw [e] at e2; cases e2; exact (e1 rfl).elim⟩
      · rename_i hl
        intro hh
        exact ⟨hh, fun e2 => by rw [e] at e2; cases e2; exact hl⟩
    · rename_i e
      intro hh
      exact ⟨hh, fun e2 => by rw [e] at e2; cases e2⟩
  have hbox : ∀ t cs, (fr.skip E.C f o.dst).b t = some cs → o.dst ≠ some t := fun t cs hh e => by
    obtain ⟨h1, h2⟩ := hb t cs hh
    have := (h.frr.box t cs h1).1
    rw [h2 e] at this; cases this
  refine ⟨h.rel, ⟨by rw [Act.defers_put]; exact h.frr.defers, by rw [Act.size_put]; exact h.frr.size, fun t => ?_, fun t cs hh => ?_⟩, h.kept, fun x b off hr cs hcs => ?_⟩
  · rw [hat, hv]
    split
    · exact ⟨.tup [] #[] rfl (fun i x v hx => by simp at hx), .of_not rfl, by simp, fun cs vs e1 e2 i x u hx => by cases e1; simp at hx, fun cs e x hx => by cases e; simp at hx⟩
    · exact h.frr.slot t
  · rw [hat, if_neg (hbox t cs hh)]
    exact h.frr.box t cs (hb t cs hh).1
  · have hnb := hbox b cs hcs
    have hcs' := (hb b cs hcs).1
    rw [hat b, if_neg hnb, hat x]
    simp only [resolveTmp] at hr
    split at hr
    · cases hr
      rw [if_neg hnb]
      obtain ⟨blk, hblk⟩ := h.hbox _ _ hcs'
      exact ⟨blk, hblk, hblk⟩
    · split at hr
      · simp [opRes] at hr
      · rename_i hde
        have hnx : o.dst ≠ some x := fun e => by
          have : dstEq ({ o with op := .ready 0 } : Oper) x = true := dstEq_iff.2 e
          rw [this] at hde; cases hde
        rw [if_neg hnx]
        split at hr
        · rename_i h1
          split at hr
          · cases hr
          · cases hr; exact h.pr _ _ _ h1 cs hcs'
        · cases hr
theorem RF.reset (h : RF E f n Gs ws G w S a fr before) : RF E f n Gs ws G w S a fr [] :=
  ⟨h.rel, h.frr, h.kept, fun x b off hr cs hcs => by
    simp only [resolveTmp] at hr
    split at hr
    · cases hr
      obtain ⟨blk, hblk⟩ := h.hbox _ _ hcs
      exact ⟨blk, hblk, hblk⟩
    · cases hr⟩

/-- The guard's operation was passed over. -/
theorem yieldedA_tup {ops : Array Oper} {j : Nat} (h : FrR E f n G w a fr) (hy : yieldedA ops fr j = .tup []) : yielded ops a.tmps j = none := by
  unfold yieldedA at hy
  unfold yielded
  split at hy
  · rename_i d hd
    have := (h.slot d).vr
    rw [hy] at this
    rw [hd]
    simp only [Option.bind_some]
    simp only [Act.at, Array.getD_eq_getD_getElem?] at this
    cases hq : a.tmps[d]? with
    | none => rfl
    | some v =>
      rw [hq] at this
      simp only [Option.getD_some] at this
      cases this; rfl
  · cases hy
theorem decided_mem : ∀ {dec : List (Nat × Option Bool)} {j : Nat} {b : Option Bool}, decided j dec = some b → (j, b) ∈ dec
  | [], j, b, h => by simp [decided] at h
  | p :: l, j, b, h => by
    simp only [decided] at h
    split at h
    · rename_i e
      cases h
      have := Nat.eq_of_beq_eq_true e
      rw [← this]; simp
    · exact List.mem_cons_of_mem _ (decided_mem h)
theorem keepDec_ok {ops : Array Oper} {o : Oper} {dec : List (Nat × Option Bool)} {a' : Act} (hdec : ∀ p ∈ dec, yielded ops a.tmps p.1 = p.2) (hsame : ∀ j, o.dst ≠ some j → a'.tmps[j]? = a.tmps[j]?) :
    ∀ p ∈ keepDec ops o dec, yielded ops a'.tmps p.1 = p.2 := by
  intro p hp
  unfold keepDec at hp
  rw [List.mem_filter] at hp
  rw [← hdec p hp.1]
  have h2 := hp.2
  unfold yielded
  cases hq : (ops[p.1]?).bind (·.dst) with
  | none => rfl
  | some d =>
    simp only [Option.bind_some]
    rw [hsame d ?_]
    intro e
    simp only [dstIs, hq, e, Bool.not_eq_true'] at h2
    simp at h2

theorem opsW_sound (A : Agree E) {Ca : Nat → List AV → St → (AV → St → Prop) → Prop} (hCa : CaSound E Ca) {ops : Array Oper} {all : List Oper} {K : Fr → St → Prop} {Q : Exit → Act → World → Prop} (hK : ∀ G' w' S' a' fr', RF E f n Gs ws G' w' S' a' fr' [] → K fr' S' → Q .normal a' w') :
    ∀ {l : List Oper} {dec : List (Nat × Option Bool)} {before : List Oper} {fr : Fr} {S : St} {G : Gh} {w : World} {a : Act}, (∀ o ∈ l, (∀ d, o.dst = some d → d < n) ∧ ∀ t ∈ opTypes E.C o, E.C.has t = true) → RF E f n Gs ws G w S a fr before →
      (∀ p ∈ dec, yielded ops a.tmps p.1 = p.2) → opsW E.C Ca f ops all K dec before l fr S → wpList E.P ops Q l a w
  | [], dec, before, fr, S, G, w, a, hsub, h, hdec, hw => hK _ _ _ _ _ h.reset hw
  | o :: l, dec, before, fr, S, G, w, a, hsub, h, hdec, hw => by
    have ho := hsub o (by simp)
    have hsub' := fun o' ho' => hsub o' (List.mem_cons_of_mem _ ho')
    have hrun : ∀ dec', (∀ p ∈ dec', yielded ops a.tmps p.1 = p.2) → Region.wanted o (yielded ops a.tmps) = true → (match okDst E.C f o with
      | true => opW E.C Ca f before (feeds all o.dst) o fr S (opsW E.C Ca f ops all K (keepDec ops o dec') (o :: before) l)
      | false => False) → wpList E.P ops Q (o :: l) a w := by
      intro dec' hdec' hwant hw
      unfold wpList
      rw [if_pos hwant]
      left
      split at hw
      · rename_i hok
        refine wp_frame (opW_sound A hCa h _ ho.1 hok ho.2 hw (next := fun a' w' => (∀ j, o.dst ≠ some j → a'.tmps[j]? = a.tmps[j]?) → wpList E.P ops Q l a' w') (fun G' w' S' a' fr' hrf hk hsame => ?_))
        exact opsW_sound A hCa hK hsub' hrf (keepDec_ok hdec' hsame) hk
      · exact hw.elim
    have hskip : ∀ dec', (∀ p ∈ dec', yielded ops a.tmps p.1 = p.2) → Region.wanted o (yielded ops a.tmps) = false → opsW E.C Ca f ops all K (keepDec ops o dec') ({ o with op := .ready 0 } :: before) l (fr.skip E.C f o.dst) S → wpList E.P ops Q (o :: l) a w := by
      intro dec' hdec' hwant hw
      unfold wpList
      rw [if_neg (by rw [hwant]; simp)]
      refine opsW_sound A hCa hK hsub' (h.skip ho.1) (keepDec_ok hdec' fun j hj => ?_) hw
      cases hd : o.dst with
      | none => simp [Act.put]
      | some d =>
        have : d ≠ j := fun e => hj (by rw [hd, e])
        simp [Act.put, this]
    unfold opsW at hw
    dsimp only at hw hskip
    generalize ({ dst := o.dst, op := Op.ready 0, type := o.type, pos := o.pos, after := o.after, guard := o.guard } :: before : List Oper) = bs at hskip hw
    cases hg : o.guard with
    | none => rw [hg] at hw; exact hrun _ hdec (by simp [Region.wanted, hg]) hw
    | some p =>
      obtain ⟨j, want⟩ := p
      have hwd : ∀ q, yielded ops a.tmps j = q → Region.wanted o (yielded ops a.tmps) = (q == some want) := fun q hq => by
        simp only [Region.wanted, hg, hq]
      rw [hg] at hw
      dsimp only at hw
      cases hd : decided j dec with
      | some q =>
        rw [hd] at hw
        have hy := hdec _ (decided_mem hd)
        have hwd' := hwd q hy
        cases q with
        | none => exact hskip _ hdec (by rw [hwd']; rfl) hw
        | some b => cases b <;> cases want <;> first | exact hrun _ hdec (by rw [hwd']; rfl) hw | exact hskip _ hdec (by rw [hwd']; rfl) hw
      | none =>
        rw [hd] at hw
        have hmore : ∀ q, yielded ops a.tmps j = q → ∀ p ∈ (j, q) :: dec, yielded ops a.tmps p.1 = p.2 := fun q hq p hp => by
          rcases List.mem_cons.1 hp with rfl | hp
          · exact hq
          · exact hdec p hp
        cases want with
        | true =>
          dsimp only at hw
          rcases gG_cases hw with ⟨hy, hw⟩ | ⟨hy, hw⟩ | ⟨hy, _, hw⟩
          · have hyy := yieldedA_bool h.frr hy
            exact hrun _ (hmore _ hyy) (by rw [hwd _ hyy]; rfl) hw
          · have hyy := yieldedA_bool h.frr hy
            exact hskip _ (hmore _ hyy) (by rw [hwd _ hyy]; rfl) hw
          · have hyy := yieldedA_tup h.frr hy
            exact hskip _ (hmore _ hyy) (by rw [hwd _ hyy]; rfl) hw
        | false =>
          dsimp only at hw
          rcases gG_cases hw with ⟨hy, hw⟩ | ⟨hy, hw⟩ | ⟨hy, _, hw⟩
          · have hyy := yieldedA_bool h.frr hy
            exact hskip _ (hmore _ hyy) (by rw [hwd _ hyy]; rfl) hw
          · have hyy := yieldedA_bool h.frr hy
            exact hrun _ (hmore _ hyy) (by rw [hwd _ hyy]; rfl) hw
          · have hyy := yieldedA_tup h.frr hy
            exact hskip _ (hmore _ hyy) (by rw [hwd _ hyy]; rfl) hw

/-- What stands for drawn regions is sound. -/
def DrSound (E : Env) (f n : Nat) (Dr : Array Oper → (Fr → St → Prop) → Fr → St → Prop) : Prop :=
  ∀ (ops : Array Oper) (id : Nat) (K : Fr → St → Prop) (fr : Fr) (S : St) (Gs : Gh) (ws : World) (G : Gh) (w : World) (a : Act) (Q : Exit → Act → World → Prop),
    (∀ o ∈ ops.toList, (∀ d, o.dst = some d → d < n) ∧ ∀ t ∈ opTypes E.C o, E.C.has t = true) → RF E f n Gs ws G w S a fr [] → Dr ops K fr S →
    (∀ G' w' S' a' fr', RF E f n Gs ws G' w' S' a' fr' [] → K fr' S' → Q .normal a' w') → (Code.region id ops true).wp E.P Q a w

def Ex.to : Ex → Exit
  | .normal => .normal
  | .exit id => .exit id
  | .ret => .ret

theorem least (p : Nat → Prop) (h : ∃ k, p k) : ∃ k, p k ∧ ∀ m, p m → k ≤ m := by
  obtain ⟨k, hk⟩ := h
  induction k using Nat.strongRecOn with
  | _ k ih =>
    by_cases he : ∃ m, m < k ∧ p m
    · obtain ⟨m, hm, hp⟩ := he; exact ih m hm hp
    · exact ⟨k, hk, fun m hm => Nat.le_of_not_lt fun hlt => he ⟨m, hlt, hm⟩⟩
theorem wp_loopN {P : Program} {c : Code} {Q : Exit → Act → World → Prop} {a : Act} {w : World} (I : Nat → Act → World → Prop) (h0 : ∃ k, I k a w)
    (round : ∀ k a w, I k a w → c.wp P (Exit.then (fun a' w' => ∃ m, m < k ∧ I m a' w') Q) a w) : (Code.loop c).wp P Q a w := by
  classical
  let μ : Act → World → Nat := fun a w => if h : ∃ k, I k a w then Classical.choose (least _ h) else 0
  have hμ : ∀ a w, (h : ∃ k, I k a w) → I (μ a w) a w := fun a w h => by simp only [μ, dif_pos h]; exact (Classical.choose_spec (least _ h)).1
  have hle : ∀ a w k, I k a w → μ a w ≤ k := fun a w k h => by
    have he : ∃ k, I k a w := ⟨k, h⟩
    simp only [μ, dif_pos he]; exact (Classical.choose_spec (least _ he)).2 k h
  refine wp_loop (fun a w => ∃ k, I k a w) μ h0 fun a w h => ?_
  refine wp_mono (round _ a w (hμ a w h)) fun e a' w' hq => ?_
  cases e with
  | normal =>
    obtain ⟨m, hm, hi⟩ := hq
    exact ⟨⟨m, hi⟩, Nat.lt_of_le_of_lt (hle a' w' m hi) hm⟩
  | _ => exact hq

def codeOk (E : Env) (n : Nat) (c : Code) : Prop := (∀ d ∈ cDsts c, d < n) ∧ ∀ t ∈ cTypes E.C c, E.C.has t = true
theorem region_ok {n : Nat} {id : Nat} {ops : Array Oper} {b : Bool} (h : codeOk E n (.region id ops b)) : ∀ o ∈ ops.toList, (∀ d, o.dst = some d → d < n) ∧ ∀ t ∈ opTypes E.C o, E.C.has t = true := fun o ho =>
  ⟨fun d hd => h.1 d (List.mem_flatMap.2 ⟨o, ho, by simp [hd]⟩), fun t ht => h.2 t (List.mem_flatMap.2 ⟨o, ho, ht⟩)⟩

theorem W_sound (A : Agree E) {Ca : Nat → List AV → St → (AV → St → Prop) → Prop} (hCa : CaSound E Ca) (hM : CaMono Ca) {Dr : Array Oper → (Fr → St → Prop) → Fr → St → Prop} (hDr : DrSound E f n Dr) (hDm : DrMono E.C f Dr) :
    ∀ (c : Code) {K : Ex → Fr → St → Prop} {Q : Exit → Act → World → Prop} {fr : Fr} {S : St} {G : Gh} {w : World} {a : Act}, codeOk E n c → RF E f n Gs ws G w S a fr [] → W E.C Ca f Dr c K fr S →
      (∀ ex G' w' S' a' fr', RF E f n Gs ws G' w' S' a' fr' [] → K ex fr' S' → Q ex.to a' w') → c.wp E.P Q a w
  | .skip, K, Q, fr, S, G, w, a, hc, h, hw, hK => wp_skip (hK .normal _ _ _ _ _ h hw)
  | .region id ops false, K, Q, fr, S, G, w, a, hc, h, hw, hK => wp_region_list (opsW_sound A hCa (fun G' w' S' a' fr' hr hk => hK .normal _ _ _ _ _ hr hk) (region_ok hc) h (by simp) hw)
  | .region id ops true, K, Q, fr, S, G, w, a, hc, h, hw, hK => hDr ops id (K .normal) fr S Gs ws G w a Q (region_ok hc) h hw (fun G' w' S' a' fr' hr hk => hK .normal _ _ _ _ _ hr hk)
  | .seq x y, K, Q, fr, S, G, w, a, hc, h, hw, hK => by
    refine wp_seq (W_sound A hCa hM hDr hDm x ⟨fun d hd => hc.1 d (List.mem_append_left _ hd), fun t ht => hc.2 t (List.mem_append_left _ ht)⟩ h hw fun ex G' w' S' a' fr' hr hk => ?_)
    cases ex with
    | normal => exact W_sound A hCa hM hDr hDm y ⟨fun d hd => hc.1 d (List.mem_append_right _ hd), fun t ht => hc.2 t (List.mem_append_right _ ht)⟩ hr hk hK
    | exit id => exact hK (.exit id) _ _ _ _ _ hr hk
    | ret => exact hK .ret _ _ _ _ _ hr hk
  | .cond c x y, K, Q, fr, S, G, w, a, hc, h, hw, hK => by
    simp only [W, ifK] at hw
    have hv := h.frr.opdV 4 c
    split at hw
    · rename_i hb
      rw [hb] at hv
      exact wp_cond_true hv.bool_inv (W_sound A hCa hM hDr hDm x ⟨fun d hd => hc.1 d (List.mem_append_left _ hd), fun t ht => hc.2 t (List.mem_append_left _ ht)⟩ h hw hK)
    · rename_i hb
      rw [hb] at hv
      exact wp_cond_false hv.bool_inv (W_sound A hCa hM hDr hDm y ⟨fun d hd => hc.1 d (List.mem_append_right _ hd), fun t ht => hc.2 t (List.mem_append_right _ ht)⟩ h hw hK)
    · exact hw.elim
  | .block id b, K, Q, fr, S, G, w, a, hc, h, hw, hK => by
    refine wp_block (W_sound A hCa hM hDr hDm b hc h hw fun ex G' w' S' a' fr' hr hk => ?_)
    cases ex with
    | normal => exact hK .normal _ _ _ _ _ hr hk
    | ret => exact hK .ret _ _ _ _ _ hr hk
    | exit j =>
      simp only [blockK] at hk
      simp only [Ex.to, Exit.inBlock]
      split at hk
      · rename_i e
        rw [if_pos (Nat.eq_of_beq_eq_true e)]
        exact hK .normal _ _ _ _ _ hr hk
      · rename_i e
        rw [if_neg (fun e' => by subst e'; simp at e)]
        exact hK (.exit j) _ _ _ _ _ hr hk
  | .loop c, K, Q, fr, S, G, w, a, hc, h, hw, hK => by
    simp only [W, loopQ] at hw
    obtain ⟨J, ⟨k0, h0⟩, hJ⟩ := hw
    refine wp_loopN (fun k a w => ∃ G S fr', RF E f n Gs ws G w S a fr' [] ∧ Agr (cWrites E.C c) (cBoxes E.C f c) fr fr' ∧ J k (proj (E.C.live f (firstRegion c)) fr') S) ⟨k0, G, S, fr, h, Agr.refl _ _ _, h0⟩ fun k a1 w1 hI => ?_
    obtain ⟨G1, S1, fr1, hr1, hag, hj⟩ := hI
    have hmix := mixFr_self hag
    have hbody := hJ k fr1.v fr1.b S1 (by rw [hmix]; exact hj)
    rw [hmix] at hbody
    have hbody2 := W_mono (K' := fun ex fr2 S2 => loopK (E.C.live f (firstRegion c)) (fun x S' => ∃ m, m < k ∧ J m x S') K ex fr2 S2 ∧ Agr (cWrites E.C c) (cBoxes E.C f c) fr1 fr2) hM hDm c (fun ex fr2 S2 ha hk => ⟨hk, ha⟩) hbody
    refine W_sound A hCa hM hDr hDm c hc hr1 hbody2 fun ex G' w' S' a' fr' hr hk => ?_
    obtain ⟨hk, hag2⟩ := hk
    cases ex with
    | normal =>
      obtain ⟨m, hm, hjm⟩ := hk
      exact ⟨m, hm, G', S', fr', hr, (hag.trans hag2).mono (fun t ht => (List.mem_append.1 ht).elim id id) (fun t ht => (List.mem_append.1 ht).elim id id), hjm⟩
    | exit id => exact hK (.exit id) _ _ _ _ _ hr hk
    | ret => exact hK .ret _ _ _ _ _ hr hk
  | .exit id, K, Q, fr, S, G, w, a, hc, h, hw, hK => wp_exit (hK (.exit id) _ _ _ _ _ h hw)
  | .ret, K, Q, fr, S, G, w, a, hc, h, hw, hK => wp_ret (hK .ret _ _ _ _ _ h hw)
  | .rangeFunc .., K, Q, fr, S, G, w, a, hc, h, hw, hK => hw.elim
  | .scope _, K, Q, fr, S, G, w, a, hc, h, hw, hK => hw.elim
  | .label _, K, Q, fr, S, G, w, a, hc, h, hw, hK => hw.elim
  | .goto _, K, Q, fr, S, G, w, a, hc, h, hw, hK => hw.elim
  | .refuse _, K, Q, fr, S, G, w, a, hc, h, hw, hK => hw.elim
end Go.Av
