/- A part of the proof of a law of this seat: What an operation, a region, a code writes in the frame; the transformer is monotone. No condition. -/
import Derived.Test.YtcmiahkfbnojnaaA16
set_option linter.all false
set_option linter.unusedVariables false
set_option linter.unusedSimpArgs false
/-! What an operation, a region, a code writes in the frame; the transformer is monotone. -/
namespace Go.Av

/-- 'fr' and 'fr'' are alike but for the slots ws, the boxes bs. -/
def Agr (ws bs : List Nat) (fr fr' : Fr) : Prop := (∀ t, t ∉ ws → fr'.v t = fr.v t) ∧ ∀ t, t ∉ bs → fr'.b t = fr.b t
theorem Agr.refl (ws bs : List Nat) (fr : Fr) : Agr ws bs fr fr := ⟨fun _ _ => rfl, fun _ _ => rfl⟩
theorem Agr.trans {ws bs ws' bs' : List Nat} {a b c : Fr} (h : Agr ws bs a b) (k : Agr ws' bs' b c) : Agr (ws ++ ws') (bs ++ bs') a c :=
  ⟨fun t ht => (k.1 t (fun e => ht (List.mem_append_right _ e))).trans (h.1 t (fun e => ht (List.mem_append_left _ e))),
   fun t ht => (k.2 t (fun e => ht (List.mem_append_right _ e))).trans (h.2 t (fun e => ht (List.mem_append_left _ e)))⟩
theorem Agr.mono {ws bs ws' bs' : List Nat} {a b : Fr} (h : Agr ws bs a b) (h1 : ∀ t ∈ ws, t ∈ ws') (h2 : ∀ t ∈ bs, t ∈ bs') : Agr ws' bs' a b :=
  ⟨fun t ht => h.1 t (fun e => ht (h1 t e)), fun t ht => h.2 t (fun e => ht (h2 t e))⟩
theorem Agr.put {ws bs : List Nat} {a b : Fr} (h : Agr ws bs a b) {d : Option Nat} (x : AV) (hd : ∀ t, d = some t → t ∈ ws) : Agr ws bs a (b.put d x) := by
  refine ⟨fun t ht => ?_, fun t ht => ?_⟩
  · rw [Fr.v_put, if_neg (fun e => ht (hd t e))]; exact h.1 t ht
  · rw [Fr.b_put]; exact h.2 t ht
theorem Agr.stripAt {ws bs : List Nat} {a b : Fr} (h : Agr ws bs a b) (x : Operand) (hx : ∀ t ∈ tmpOf x, t ∈ ws) : Agr ws bs a (b.stripAt x) := by
  cases x with
  | tmp y =>
    refine ⟨fun t ht => ?_, fun t ht => h.2 t ht⟩
    have : t ≠ y := fun e => ht (hx t (by rw [e]; simp [tmpOf]))
    simp only [Fr.stripAt, Fr.set, this, if_false]; exact h.1 t ht
  | _ => exact h
theorem Agr.setB {ws bs : List Nat} {a b : Fr} (h : Agr ws bs a b) (d : Nat) (c : Option (List AV)) (hd : d ∈ bs) : Agr ws bs a (b.setB d c) :=
  ⟨h.1, fun t ht => by have : t ≠ d := fun e => ht (e ▸ hd); simp only [Fr.setB, this, if_false]; exact h.2 t ht⟩
theorem Agr.set {ws bs : List Nat} {a b : Fr} (h : Agr ws bs a b) (d : Nat) (x : AV) (hd : d ∈ ws) : Agr ws bs a (b.set d x) :=
  ⟨fun t ht => by have : t ≠ d := fun e => ht (e ▸ hd); simp only [Fr.set, this, if_false]; exact h.1 t ht, h.2⟩

theorem optK_mono {α : Type} {o : Option α} {k k' : α → Prop} (h : optK o k) (hk : ∀ x, k x → k' x) : optK o k' := by
  cases o with
  | none => exact h
  | some x => exact hk x h
def CaMono (Ca : Nat → List AV → St → (AV → St → Prop) → Prop) : Prop := ∀ g as S (Q Q' : AV → St → Prop), Ca g as S Q → (∀ r S', Q r S' → Q' r S') → Ca g as S Q'

section
variable {C : Ctx} {Ca : Nat → List AV → St → (AV → St → Prop) → Prop} {f : Nat} {fr : Fr} {S : St} {K K' : Fr → St → Prop} (hCa : CaMono Ca)
include hCa

theorem callW_mono {c : Call} {t : Nat} {dst : Option Nat} {ws bs : List Nat} (hd : ∀ d, dst = some d → d ∈ ws) (ha : c.callee = .builtin .append → ∀ t ∈ tmpOf (c.args.toList.headD (.func 0)), t ∈ ws) (hK : ∀ fr' S', Agr ws bs fr fr' → K fr' S' → K' fr' S')
    (h : callW C Ca c t dst fr S K) : callW C Ca c t dst fr S K' := by
  have hput : ∀ x S', K (fr.put dst x) S' → K' (fr.put dst x) S' := fun x S' => hK _ _ ((Agr.refl ws bs fr).put x hd)
  unfold callW at h ⊢
  split at h
  · split at h
    · exact optK_mono h fun as hh => hCa _ _ _ _ _ hh fun r S' => hput r S'
    · exact h
  · split at h
    · exact optK_mono h fun p hh => hCa _ _ _ _ _ hh fun r S' => hput r S'
    · exact h
  · split at h
    · exact optK_mono h fun p hh => hCa _ _ _ _ _ hh fun r S' => hput r S'
    · exact h
  · rename_i b hcal
    split at h
    · split at h
      · split at h
        · exact optK_mono h fun v => hput v S
        · exact optK_mono h fun v => hput v S
        · exact optK_mono h fun v => hput v S
        · exact h
      · exact h
    · rename_i x y hts hxs
      split at h
      · exact optK_mono h fun v => hput v S
      · exact optK_mono h fun v => hput v S
      · have hst : ∀ z, Agr ws bs fr ((fr.stripAt x).put dst z) := fun z => ((Agr.refl ws bs fr).stripAt x (fun t ht => ha hcal t (by rw [hxs]; exact ht))).put z hd
        split at h
        · split at h
          · exact optK_mono h fun p => hK _ _ (hst _)
          · exact optK_mono h fun p => hK _ _ (hst _)
        · exact h
      · split at h
        · exact optK_mono h fun p => hput p.1 p.2
        · exact h
      · split at h
        · split at h
          · exact optK_mono h fun S' => hput _ S'
          · exact h
        · exact h
      · exact h
    · split at h
      · exact optK_mono h fun v => hput v S
      · exact h
    · exact h

theorem opW_mono {before : List Oper} {tk : Bool} {o : Oper} (hK : ∀ fr' S', Agr (opWrites C tk o) (opBoxes C f before o) fr fr' → K fr' S' → K' fr' S') (h : opW C Ca f before tk o fr S K) : opW C Ca f before tk o fr S K' := by
  have hd : ∀ d, o.dst = some d → d ∈ opWrites C tk o := fun d e => by unfold opWrites; rw [e]; simp
  have hput : ∀ x S', K (fr.put o.dst x) S' → K' (fr.put o.dst x) S' := fun x S' => hK _ _ ((Agr.refl _ _ fr).put x hd)
  have hst : ∀ y, (∀ t ∈ tmpOf y, t ∈ opWrites C tk o) → ∀ z S', K ((fr.stripAt y).put o.dst z) S' → K' ((fr.stripAt y).put o.dst z) S' := fun y hy z S' => hK _ _ (((Agr.refl _ _ fr).stripAt y hy).put z hd)
  unfold opW at h ⊢
  split at h
  · rename_i x ho
    split at h
    · exact hput _ _ h
    · split at h
      · rename_i htk
        exact hst x (fun t ht => by unfold opWrites; rw [ho]; simp only [htk]; exact List.mem_append_right _ ht) _ _ h
      · exact hput _ _ h
  · rename_i x ho
    split at h
    · exact h
    · exact hst x (fun t ht => by unfold opWrites; rw [ho]; exact List.mem_append_right _ ht) _ _ h
  · exact optK_mono h fun v => hput _ _
  · rename_i e ho
    split at h
    · rename_i d hod
      have hb : d ∈ opBoxes C f before o := by unfold opBoxes; rw [ho, hod]; simp
      split at h
      · exact hK _ _ (((Agr.refl _ _ fr).setB d _ hb).set d _ (hd d hod)) h
      · exact hK _ _ ((Agr.refl _ _ fr).set d _ (hd d hod)) h
    · exact h
  · rename_i e x ho
    have hx : ∀ t ∈ tmpOf x, t ∈ opWrites C tk o := fun t ht => by unfold opWrites; rw [ho]; exact List.mem_append_right _ ht
    refine optK_mono h fun cs h => ?_
    split at h
    · rename_i d hod
      have hb : d ∈ opBoxes C f before o := by unfold opBoxes; rw [ho, hod]; simp
      split at h
      · exact hK _ _ ((((Agr.refl _ _ fr).stripAt x hx).setB d _ hb).set d _ (hd d hod)) h
      · exact hK _ _ (((Agr.refl _ _ fr).stripAt x hx).set d _ (hd d hod)) h
    · exact h
  · exact optK_mono h fun v => hput _ _
  · split at h
    · exact optK_mono h fun v => hput _ _
    · exact h
  · rename_i t x ho
    split at h
    · rename_i b off hres
      have hb : b ∈ opBoxes C f before o := by unfold opBoxes; rw [ho]; simp only [hres]; simp
      refine optK_mono h fun v h => ?_
      split at h
      · exact hK _ _ (((Agr.refl _ _ fr).setB b _ hb).put _ hd) h
      · exact hput _ _ h
    · refine optK_mono h fun v h => ?_
      split at h
      · exact hput _ _ h
      · exact hput _ _ h
  · rename_i t x y ho
    have hy : ∀ t ∈ tmpOf y, t ∈ opWrites C tk o := fun t ht => by unfold opWrites; rw [ho]; exact List.mem_append_right _ ht
    split at h
    · rename_i b off hres
      have hb : b ∈ opBoxes C f before o := by unfold opBoxes; rw [ho]; simp only [hres]; simp
      exact optK_mono h fun cs => hK _ _ ((((Agr.refl _ _ fr).stripAt y hy).setB b _ hb).put _ hd)
    · exact optK_mono h fun S' => hst y hy _ _
  · split at h
    · exact optK_mono h fun _ => hput _ _
    · exact optK_mono h fun v => hput _ _
  · split at h
    · exact optK_mono h fun v => hput _ _
    · exact h
    · exact optK_mono h fun v => hput _ _
    · exact optK_mono h fun v => hput _ _
  · exact optK_mono h fun v => hput _ _
  · split at h
    · exact optK_mono h fun v => hput _ _
    · split at h
      · exact optK_mono h fun v => hput _ _
      · split at h
        · exact optK_mono h fun v => hput _ _
        · exact h
      · exact h
    · exact h
  · exact optK_mono h fun v => hput _ _
  · exact optK_mono h fun v => hput _ _
  · exact hput _ _ h
  · split at h
    · exact optK_mono h fun v => hput _ _
    · exact h
  · rename_i t x lo hi mx ho
    have hx : ∀ t ∈ tmpOf x, t ∈ opWrites C tk o := fun t ht => by unfold opWrites; rw [ho]; exact List.mem_append_right _ ht
    split at h
    · split at h
      · exact optK_mono h fun v => hput _ _
      · exact h
    · exact optK_mono h fun v => hst x hx _ _
    · exact h
  · split at h
    · exact h
    · split at h
      · exact optK_mono h fun _ => hput _ _
      · exact optK_mono h fun v => hput _ _
  · split at h
    · split at h
      · exact optK_mono h fun v => hput _ _
      · exact h
    · exact h
  · split at h
    · exact optK_mono h fun v => hput _ _
    · split at h
      · split at h
        · split at h
          · exact optK_mono h fun _ => hput _ _
          · exact h
        · exact h
      · exact optK_mono h fun v => hput _ _
    · exact h
  · split at h
    · exact optK_mono h fun v => hput _ _
    · exact optK_mono h fun v => hput _ _
    · exact h
  · split at h
    · split at h
      · refine optK_mono h fun p h => ?_
        split at h
        · exact hput _ _ h
        · exact hput _ _ h
      · exact h
    · exact h
  · split at h
    · split at h
      · exact optK_mono h fun S' => hput _ _
      · exact h
    · exact h
  · rename_i t i ho
    have ht : t ∈ opWrites C tk o := by unfold opWrites; rw [ho]; simp [tmpOf]
    exact optK_mono h fun v => hK _ _ (((Agr.refl _ _ fr).set t _ ht).put _ hd)
  · rename_i c ho
    refine callW_mono hCa (ws := opWrites C tk o) (bs := opBoxes C f before o) hd (fun hc t ht => ?_) hK h
    obtain ⟨callee, args, argTypes⟩ := c
    simp only at hc
    subst hc
    unfold opWrites
    rw [ho]
    exact List.mem_append_right _ ht
  · exact h
end

/-- What stands ahead, with and without what was passed over. -/
inductive Ahead : List Oper → List Oper → Prop
  | nil : Ahead [] []
  | same (o : Oper) {l l' : List Oper} : Ahead l l' → Ahead (o :: l) (o :: l')
  | skip (o : Oper) {l l' : List Oper} : Ahead l l' → Ahead ({ o with op := .ready 0 } :: l) (o :: l')
theorem opRes_le {C : Ctx} {r r' : Nat → Option (Nat × Nat)} (h : ∀ y p, r y = some p → r' y = some p) {op : Op} {p : Nat × Nat} (hr : opRes C r op = some p) : opRes C r' op = some p := by
  unfold opRes at hr ⊢
  split at hr
  · split at hr
    · rename_i h1 h2; simp only [h _ _ h1, h2]; exact hr
    · cases hr
  · split at hr
    · rename_i h1 h2; simp only [h _ _ h1, h2]; exact hr
    · cases hr
  · exact h _ _ hr
  · exact h _ _ hr
  · cases hr
theorem resolveTmp_ahead {C : Ctx} {f : Nat} {l l' : List Oper} (ha : Ahead l l') : ∀ {x : Nat} {p : Nat × Nat}, resolveTmp C f x l = some p → resolveTmp C f x l' = some p := by
  induction ha with
  | nil => exact fun h => h
  | same o _ ih =>
    intro x p h
    simp only [resolveTmp] at h ⊢
    cases hl : C.loc f x with
    | true => rw [hl] at h; exact h
    | false =>
      rw [hl] at h
      simp only at h ⊢
      cases hd : dstEq o x with
      | true => rw [hd] at h; exact opRes_le (fun y p => ih) h
      | false =>
        rw [hd] at h
        simp only at h ⊢
        split at h
        · rename_i e3; rw [ih e3]; exact h
        · cases h
  | skip o _ ih =>
    intro x p h
    have hde : ∀ y, dstEq ({ o with op := .ready 0 } : Oper) y = dstEq o y := fun _ => rfl
    simp only [resolveTmp, hde] at h ⊢
    cases hl : C.loc f x with
    | true => rw [hl] at h; exact h
    | false =>
      rw [hl] at h
      simp only at h ⊢
      cases hd : dstEq o x with
      | true => rw [hd] at h; simp [opRes] at h
      | false =>
        rw [hd] at h
        simp only at h ⊢
        split at h
        · rename_i e3; rw [ih e3]; exact h
        · cases h
theorem opBoxes_ahead {C : Ctx} {f : Nat} {l l' : List Oper} (ha : Ahead l l') (o : Oper) : ∀ t ∈ opBoxes C f l o, t ∈ opBoxes C f l' o := by
  intro t ht
  have hres : ∀ x p, resolve C f l x = some p → resolve C f l' x = some p := fun x p h => by
    cases x with
    | tmp y => exact resolveTmp_ahead ha h
    | _ => simp [resolve] at h
  unfold opBoxes at ht ⊢
  split at ht
  · exact ht
  · exact ht
  · rename_i x _ _
    rcases List.mem_append.1 ht with ht | ht
    · exact List.mem_append_left _ ht
    · refine List.mem_append_right _ ?_
      split at ht
      · rename_i h1; rw [hres _ _ h1]; exact ht
      · cases ht
  · rename_i x _
    rcases List.mem_append.1 ht with ht | ht
    · exact List.mem_append_left _ ht
    · refine List.mem_append_right _ ?_
      split at ht
      · rename_i h1; rw [hres _ _ h1]; exact ht
      · cases ht
  · exact ht

theorem gK_mono {c : AV} {A B Z A' B' Z' : Prop} (h : gK c A B Z) (h1 : A → A') (h2 : B → B') (h3 : Z → Z') : gK c A' B' Z' := by
  unfold gK at h ⊢
  split at h
  · exact h1 h
  · exact h2 h
  · exact h3 h
  · exact h
theorem gG_mono {g : Option (Nat × Bool)} {c : AV} {A B Z A' B' Z' : Prop} (h : gG g c A B Z) (h1 : A → A') (h2 : B → B') (h3 : Z → Z') : gG g c A' B' Z' := by
  unfold gG at h ⊢
  split at h
  · unfold ifK at h ⊢
    split at h
    · exact h1 h
    · exact h2 h
    · exact h
  · exact gK_mono h h1 h2 h3
/-- What the guard's operation yielded. -/
theorem gG_cases {g : Option (Nat × Bool)} {c : AV} {A B Z : Prop} (h : gG g c A B Z) : (c = .bool true ∧ A) ∨ (c = .bool false ∧ B) ∨ (c = .tup [] ∧ g.isSome = true ∧ Z) := by
  unfold gG at h
  split at h
  · unfold ifK at h
    split at h
    · exact .inl ⟨rfl, h⟩
    · exact .inr (.inl ⟨rfl, h⟩)
    · exact h.elim
  · unfold gK at h
    split at h
    · exact .inl ⟨rfl, h⟩
    · exact .inr (.inl ⟨rfl, h⟩)
    · exact .inr (.inr ⟨rfl, rfl, h⟩)
    · exact h.elim
theorem gG_true {g : Option (Nat × Bool)} {A B Z : Prop} (h : A) : gG g (.bool true) A B Z := by cases g <;> exact h
theorem gG_false {g : Option (Nat × Bool)} {A B Z : Prop} (h : B) : gG g (.bool false) A B Z := by cases g <;> exact h
theorem gG_tup {g : Option (Nat × Bool)} {A B Z : Prop} (hg : g.isSome = true) (h : Z) : gG g (.tup []) A B Z := by
  cases g with
  | none => cases hg
  | some _ => exact h
section
variable {C : Ctx} {Ca : Nat → List AV → St → (AV → St → Prop) → Prop} {f : Nat} (hCa : CaMono Ca)
include hCa
omit hCa in
theorem locDst {o : Oper} {d : Nat} (e : o.dst = some d) (hl : C.loc f d = true) (before : List Oper) : d ∈ opBoxes C f before o := by
  unfold opBoxes
  split <;> simp [e, hl]
theorem opsW_mono {ops : Array Oper} {all : List Oper} {K K' : Fr → St → Prop} : ∀ {l : List Oper} {dec : List (Nat × Option Bool)} {before before' : List Oper} {fr : Fr} {S : St}, Ahead before before' →
    (∀ fr' S', Agr (l.flatMap fun o => opWrites C (feeds all o.dst) o) (opsBoxes C f before' l) fr fr' → K fr' S' → K' fr' S') → opsW C Ca f ops all K dec before l fr S → opsW C Ca f ops all K' dec before l fr S
  | [], dec, before, before', fr, S, ha, hK, h => hK fr S (Agr.refl _ _ _) h
  | o :: l, dec, before, before', fr, S, ha, hK, h => by
    have hrun : ∀ dec', (match okDst C f o with
      | true => opW C Ca f before (feeds all o.dst) o fr S (opsW C Ca f ops all K (keepDec ops o dec') (o :: before) l)
      | false => False) → (match okDst C f o with
      | true => opW C Ca f before (feeds all o.dst) o fr S (opsW C Ca f ops all K' (keepDec ops o dec') (o :: before) l)
      | false => False) := by
      intro dec' h
      split at h
      · refine opW_mono hCa (fun fr1 S1 hagr hh => ?_) h
        refine opsW_mono (.same o ha) (fun fr' S' hagr' => hK fr' S' ?_) hh
        have := (hagr.mono (fun t ht => ht) (opBoxes_ahead ha o)).trans hagr'
        simpa [opsBoxes] using this
      · exact h
    have hskip : ∀ dec', opsW C Ca f ops all K (keepDec ops o dec') ({ o with op := .ready 0 } :: before) l (fr.skip C f o.dst) S → opsW C Ca f ops all K' (keepDec ops o dec') ({ o with op := .ready 0 } :: before) l (fr.skip C f o.dst) S := by
      intro dec' h
      refine opsW_mono (.skip o ha) (fun fr' S' hagr' => hK fr' S' ?_) h
      have hs : Agr (opWrites C (feeds all o.dst) o) (opBoxes C f before' o) fr (fr.skip C f o.dst) := by
        unfold Fr.skip
        split
        · rename_i d e
          have hd : d ∈ opWrites C (feeds all o.dst) o := by unfold opWrites; rw [e]; simp
          split
          · rename_i hl
            exact ((Agr.refl _ _ fr).setB d _ (locDst e hl before')).set d _ hd
          · exact (Agr.refl _ _ fr).set d _ hd
        · exact Agr.refl _ _ _
      have := hs.trans hagr'
      simpa [opsBoxes] using this
    unfold opsW at h ⊢
    dsimp only at h ⊢ hskip
    generalize ({ dst := o.dst, op := Op.ready 0, type := o.type, pos := o.pos, after := o.after, guard := o.guard } :: before : List Oper) = bs at hskip h ⊢
    cases hg : o.guard with
    | none => rw [hg] at h; exact hrun _ h
    | some p =>
      obtain ⟨j, want⟩ := p
      rw [hg] at h
      dsimp only at h ⊢
      cases hdec : decided j dec with
      | some q =>
        rw [hdec] at h
        cases q with
        | none => exact hskip _ h
        | some b => cases b <;> cases want <;> first | exact hrun _ h | exact hskip _ h
      | none =>
        rw [hdec] at h
        cases want with
        | true =>
          dsimp only at h ⊢
          exact gG_mono h (hrun _) (hskip _) (hskip _)
        | false =>
          dsimp only at h ⊢
          exact gG_mono h (hskip _) (hrun _) (hskip _)
end
end Go.Av
