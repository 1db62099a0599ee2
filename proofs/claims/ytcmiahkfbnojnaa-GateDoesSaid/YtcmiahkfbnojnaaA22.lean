/- A part of the proof of a law of this seat: Operations that are but functions of the frame (and, some, of the objects). No condition. -/
import Derived.Test.YtcmiahkfbnojnaaA21
set_option linter.all false
set_option linter.unusedVariables false
set_option linter.unusedSimpArgs false
/-! Operations that are but functions of the frame (and, some, of the objects). -/
namespace Go.Av

def upd (L : List (Nat × AV)) (LB : List (Nat × Option (List AV))) (fr : Fr) : Fr := L.foldl (fun fr p => fr.set p.1 p.2) (LB.foldl (fun fr p => fr.setB p.1 p.2) fr)
theorem foldB_v (LB : List (Nat × Option (List AV))) : ∀ (fr : Fr) (t : Nat), (LB.foldl (fun fr p => fr.setB p.1 p.2) fr).v t = fr.v t := by
  induction LB with
  | nil => intro fr t; rfl
  | cons p l ih => intro fr t; exact ih _ t
theorem foldV_b (L : List (Nat × AV)) : ∀ (fr : Fr) (t : Nat), (L.foldl (fun fr p => fr.set p.1 p.2) fr).b t = fr.b t := by
  induction L with
  | nil => intro fr t; rfl
  | cons p l ih => intro fr t; exact ih _ t
theorem foldV_not (L : List (Nat × AV)) : ∀ (fr : Fr) (t : Nat), t ∉ L.map (·.1) → (L.foldl (fun fr p => fr.set p.1 p.2) fr).v t = fr.v t := by
  induction L with
  | nil => intro fr t _; rfl
  | cons p l ih =>
    intro fr t h
    simp only [List.map_cons, List.mem_cons, not_or] at h
    rw [List.foldl_cons, ih _ t h.2]
    simp [Fr.set, h.1]
theorem foldV_same (L : List (Nat × AV)) : ∀ (fr fr2 : Fr) (t : Nat), (t ∈ L.map (·.1) ∨ fr.v t = fr2.v t) → (L.foldl (fun fr p => fr.set p.1 p.2) fr).v t = (L.foldl (fun fr p => fr.set p.1 p.2) fr2).v t := by
  induction L with
  | nil => intro fr fr2 t h; simpa using h
  | cons p l ih =>
    intro fr fr2 t h
    rw [List.foldl_cons, List.foldl_cons]
    refine ih _ _ t ?_
    by_cases e : t = p.1
    · right; simp [Fr.set, e]
    · simp only [List.map_cons, List.mem_cons, e, false_or] at h
      exact h.imp id fun h => by simp [Fr.set, e, h]
theorem foldB_not (L : List (Nat × Option (List AV))) : ∀ (fr : Fr) (t : Nat), t ∉ L.map (·.1) → (L.foldl (fun fr p => fr.setB p.1 p.2) fr).b t = fr.b t := by
  induction L with
  | nil => intro fr t _; rfl
  | cons p l ih =>
    intro fr t h
    simp only [List.map_cons, List.mem_cons, not_or] at h
    rw [List.foldl_cons, ih _ t h.2]
    simp [Fr.setB, h.1]
theorem foldB_same (L : List (Nat × Option (List AV))) : ∀ (fr fr2 : Fr) (t : Nat), (t ∈ L.map (·.1) ∨ fr.b t = fr2.b t) → (L.foldl (fun fr p => fr.setB p.1 p.2) fr).b t = (L.foldl (fun fr p => fr.setB p.1 p.2) fr2).b t := by
  induction L with
  | nil => intro fr fr2 t h; simpa using h
  | cons p l ih =>
    intro fr fr2 t h
    rw [List.foldl_cons, List.foldl_cons]
    refine ih _ _ t ?_
    by_cases e : t = p.1
    · right; simp [Fr.setB, e]
    · simp only [List.map_cons, List.mem_cons, e, false_or] at h
      exact h.imp id fun h => by simp [Fr.setB, e, h]
section
variable {L : List (Nat × AV)} {LB : List (Nat × Option (List AV))} {fr fr2 : Fr} {t : Nat}
theorem upd_v_not (h : t ∉ L.map (·.1)) : (upd L LB fr).v t = fr.v t := by rw [upd, foldV_not _ _ _ h, foldB_v]
theorem upd_b_not (h : t ∉ LB.map (·.1)) : (upd L LB fr).b t = fr.b t := by rw [upd, foldV_b, foldB_not _ _ _ h]
theorem upd_v_same (h : t ∈ L.map (·.1) ∨ fr.v t = fr2.v t) : (upd L LB fr).v t = (upd L LB fr2).v t := by
  unfold upd; exact foldV_same _ _ _ _ (h.imp id fun h => by rw [foldB_v, foldB_v]; exact h)
theorem upd_b_same (h : t ∈ LB.map (·.1) ∨ fr.b t = fr2.b t) : (upd L LB fr).b t = (upd L LB fr2).b t := by
  unfold upd; rw [foldV_b, foldV_b]; exact foldB_same _ _ _ _ h
end

section
variable (C : Ctx) (f : Nat) (all : List Oper) (tk : Bool) (o : Oper)
/-- An operation that is but a function of the frame and the objects, and writes the frame alone. -/
def isD : Bool :=
  match o.op with
  | .store _ x _ => (srootO C f all x).isSome
  | .load _ x => (srootO C f all x).isSome || !tk
  | .alloc _ | .box _ _ => (match o.dst with | some d => C.loc f d | none => false)
  | .makeMap _ _ | .makeSlice _ _ _ | .mapUpdate _ _ _ _ => false
  | .call c => (match c.callee with
    | .builtin b => (match b with
      | .len | .min | .max => true
      | .append => (match c.argTypes.toList with
        | t :: _ => (match (C.ty t).kind with | .slice e => !C.byref e | _ => false)
        | [] => false)
      | _ => false)
    | _ => false)
  | _ => true
/-- It reads the objects. -/
def readsS : Bool :=
  match o.op with
  | .load _ x => !(srootO C f all x).isSome
  | .lookup _ _ _ _ => true
  | .binOp _ t x y _ => (match eqKind C t (isLit x || isLit y) with | .ptr2 => true | _ => false)
  | .call c => (match c.callee with
    | .builtin b => (match b with
      | .len => (match c.argTypes.toList with | t :: _ => (match (C.ty t).kind with | .map _ _ => true | _ => false) | [] => false)
      | .append => true
      | _ => false)
    | _ => true)
  | .store _ _ _ | .mapUpdate _ _ _ _ | .makeSlice _ _ _ => true
  | _ => false
/-- What is addressed. -/
def addrOf : Op → Option Operand
  | .store _ x _ | .load _ x => some x
  | _ => none
/-- It may write this box. -/
def wBox (B : List Oper) (b : Nat) : Prop :=
  (o.dst = some b ∧ C.loc f b = true) ∨ (match o.op with
    | .store _ x _ => ∃ off, resolve C f B x = some (b, off)
    | .load _ x => tk = true ∧ ∃ off, resolve C f B x = some (b, off)
    | _ => False)
end

section
variable {C : Ctx} {Ca : Nat → List AV → St → (AV → St → Prop) → Prop} {f : Nat} {all : List Oper} {tk : Bool} {o : Oper} {fr : Fr} {S : St} {K : Fr → St → Prop} {B : List Oper}

def putL (d : Option Nat) (v : AV) : List (Nat × AV) := match d with | some d => [(d, v)] | none => []
def stripL (fr : Fr) (x : Operand) : List (Nat × AV) := match x with | .tmp x => [(x, (fr.v x).strip)] | _ => []
theorem upd_put (d : Option Nat) (v : AV) (LB : List (Nat × Option (List AV))) (fr : Fr) : upd (putL d v) LB fr = (upd [] LB fr).put d v := by cases d <;> rfl
theorem upd_strip_put (x : Operand) (d : Option Nat) (v : AV) (fr fr' : Fr) (h : ∀ t ∈ tmpOf x, fr'.v t = fr.v t) : upd (stripL fr x ++ putL d v) [] fr' = (fr'.stripAt x).put d v := by
  cases x with
  | tmp y =>
    have := h y (by simp [tmpOf])
    cases d <;> simp only [stripL, putL, upd, List.foldl, List.cons_append, List.nil_append, Fr.stripAt, Fr.put, this]
  | _ => cases d <;> rfl
theorem opd_agree {fr fr2 : Fr} {t : Nat} {x : Operand} (h : ∀ t ∈ tmpOf x, fr2.v t = fr.v t) : opd C fr2 t x = opd C fr t x := by
  cases x with
  | tmp y => exact h y (by simp [tmpOf])
  | _ => rfl
theorem map_opd_agree {fr fr2 : Fr} {l : List (Nat × Operand)} (h : ∀ p ∈ l, ∀ t ∈ tmpOf p.2, fr2.v t = fr.v t) (ty : Nat → Nat) : l.map (fun p => (p.1, opd C fr2 (ty p.1) p.2)) = l.map (fun p => (p.1, opd C fr (ty p.1) p.2)) :=
  List.map_congr_left fun p hp => by rw [opd_agree (h p hp)]
theorem map_opd_agree0 {fr fr2 : Fr} {l : List (Nat × Operand)} (h : ∀ p ∈ l, ∀ t ∈ tmpOf p.2, fr2.v t = fr.v t) (e : Nat) : l.map (fun p => opd C fr2 e p.2) = l.map (fun p => opd C fr e p.2) :=
  List.map_congr_left fun p hp => opd_agree (h p hp)
theorem map_opd_agree1 {fr fr2 : Fr} {l : List Operand} (h : ∀ p ∈ l, ∀ t ∈ tmpOf p, fr2.v t = fr.v t) (t : Nat) : l.map (opd C fr2 t) = l.map (opd C fr t) :=
  List.map_congr_left fun p hp => opd_agree (h p hp)
theorem opt_opd_agree {fr fr2 : Fr} {x : Option Operand} (h : ∀ y, x = some y → ∀ t ∈ tmpOf y, fr2.v t = fr.v t) (t : Nat) : x.map (opd C fr2 t) = x.map (opd C fr t) := by
  cases x with
  | none => rfl
  | some y => simp only [Option.map_some, opd_agree (h y rfl)]

/-- What it is to be a function of the frame: L, LB are laid, wherever what is read is the same. -/
def Det (C : Ctx) (f : Nat) (B : List Oper) (tk : Bool) (o : Oper) (rs : Bool) (fr : Fr) (S : St) (K : Fr → St → Prop) (W : List Oper → Fr → St → (Fr → St → Prop) → Prop) : Prop :=
  ∃ L LB, (∀ p ∈ L, p.1 ∈ opWrites C tk o) ∧ (∀ d, o.dst = some d → d ∈ L.map (·.1)) ∧ (∀ p ∈ LB, wBox C f tk o B p.1) ∧ K (upd L LB fr) S ∧
    ∀ B2 fr2 S2 K2, (∀ x ∈ o.op.operands.toList, ∀ t ∈ tmpOf x, fr2.v t = fr.v t) → (∀ x ∈ o.op.operands.toList, ∀ b off, resolve C f B x = some (b, off) → fr2.b b = fr.b b) →
      (∀ x ∈ o.op.operands.toList, resolve C f B2 x = resolve C f B x) → (rs = true → S2 = S) → K2 (upd L LB fr2) S2 → W B2 fr2 S2 K2

theorem det_put {W : List Oper → Fr → St → (Fr → St → Prop) → Prop} {rs : Bool} (v : AV) (h : K (fr.put o.dst v) S)
    (hw : ∀ B2 fr2 S2 K2, (∀ x ∈ o.op.operands.toList, ∀ t ∈ tmpOf x, fr2.v t = fr.v t) → (∀ x ∈ o.op.operands.toList, ∀ b off, resolve C f B x = some (b, off) → fr2.b b = fr.b b) →
      (∀ x ∈ o.op.operands.toList, resolve C f B2 x = resolve C f B x) → (rs = true → S2 = S) → K2 (fr2.put o.dst v) S2 → W B2 fr2 S2 K2) : Det C f B tk o rs fr S K W := by
  refine ⟨putL o.dst v, [], fun p hp => ?_, fun d e => by rw [e]; simp [putL], by simp, by rw [upd_put]; exact h, fun B2 fr2 S2 K2 h1 h2 h3 h4 h5 => hw B2 fr2 S2 K2 h1 h2 h3 h4 (by rw [upd_put] at h5; exact h5)⟩
  unfold putL at hp
  split at hp
  · rename_i d e
    simp only [List.mem_singleton] at hp
    subst hp
    unfold opWrites; rw [e]; simp
  · simp at hp
theorem det_strip {W : List Oper → Fr → St → (Fr → St → Prop) → Prop} {rs : Bool} (x : Operand) (hx : x ∈ o.op.operands.toList) (hxw : ∀ t ∈ tmpOf x, t ∈ opWrites C tk o) (v : AV) (h : K ((fr.stripAt x).put o.dst v) S)
    (hw : ∀ B2 fr2 S2 K2, (∀ x ∈ o.op.operands.toList, ∀ t ∈ tmpOf x, fr2.v t = fr.v t) → (∀ x ∈ o.op.operands.toList, ∀ b off, resolve C f B x = some (b, off) → fr2.b b = fr.b b) →
      (∀ x ∈ o.op.operands.toList, resolve C f B2 x = resolve C f B x) → (rs = true → S2 = S) → K2 ((fr2.stripAt x).put o.dst v) S2 → W B2 fr2 S2 K2) : Det C f B tk o rs fr S K W := by
  refine ⟨stripL fr x ++ putL o.dst v, [], fun p hp => ?_, fun d e => by rw [e]; simp [putL], by simp, by rw [upd_strip_put _ _ _ _ _ fun _ _ => rfl]; exact h,
    fun B2 fr2 S2 K2 h1 h2 h3 h4 h5 => hw B2 fr2 S2 K2 h1 h2 h3 h4 (by rw [upd_strip_put _ _ _ _ _ (h1 x hx)] at h5; exact h5)⟩
  rcases List.mem_append.1 hp with hp | hp
  · unfold stripL at hp
    split at hp
    · simp only [List.mem_singleton] at hp
      subst hp
      exact hxw _ (by simp [tmpOf])
    · simp at hp
  · unfold putL at hp
    split at hp
    · rename_i d e
      simp only [List.mem_singleton] at hp
      subst hp
      unfold opWrites; rw [e]; simp
    · simp at hp

theorem callW_det {c : Call} (ho : o.op = .call c) (hD : isD C f all tk o = true) (h : callW C Ca c o.type o.dst fr S K) :
    Det C f B tk o (readsS C f all o) fr S K (fun B2 fr2 S2 K2 => callW C Ca c o.type o.dst fr2 S2 K2) := by
  have hops : o.op.operands = c.operands := by rw [ho]; rfl
  obtain ⟨callee, args, argTypes⟩ := c
  unfold isD at hD
  rw [ho] at hD
  cases callee with
  | value x => simp at hD
  | invoke x m => simp at hD
  | builtin b =>
    have hargs : ∀ x ∈ args.toList, x ∈ o.op.operands.toList := fun x hx => by rw [hops]; simp [Call.operands]; simpa using hx
    unfold callW at h
    simp only at h hD
    have hz : ∀ fr2 : Fr, (∀ x ∈ o.op.operands.toList, ∀ t ∈ tmpOf x, fr2.v t = fr.v t) → (argTypes.toList.zip args.toList).map (fun p => opd C fr2 p.1 p.2) = (argTypes.toList.zip args.toList).map (fun p => opd C fr p.1 p.2) := fun fr2 hh =>
      List.map_congr_left fun p hp => opd_agree (hh p.2 (hargs _ (List.of_mem_zip hp).2))
    split at h
    · -- one
      rename_i t x hts hxs
      have hx : x ∈ o.op.operands.toList := hargs x (by rw [hxs]; simp)
      cases b <;> simp only at h hD <;> first | exact h.elim | skip
      case len =>
        split at h
        · rename_i hk
          obtain ⟨v, hv, h⟩ := optK_some h
          refine det_put v h fun B2 fr2 S2 K2 h1 h2 h3 h4 h5 => ?_
          unfold callW; simp only [hts, hxs, hk, opd_agree (h1 x hx), hv]; exact h5
        · rename_i hk
          obtain ⟨v, hv, h⟩ := optK_some h
          refine det_put v h fun B2 fr2 S2 K2 h1 h2 h3 h4 h5 => ?_
          unfold callW; simp only [hts, hxs, hk, opd_agree (h1 x hx), hv]; exact h5
        · rename_i hk
          obtain ⟨v, hv, h⟩ := optK_some h
          refine det_put v h fun B2 fr2 S2 K2 h1 h2 h3 h4 h5 => ?_
          have : S2 = S := h4 (by unfold readsS; rw [ho]; simp [hts, hk])
          subst this
          unfold callW; simp only [hts, hxs, hk, opd_agree (h1 x hx), hv]; exact h5
        · exact h.elim
    · rename_i t u x y hts hxs
      have hx : x ∈ o.op.operands.toList := hargs x (by rw [hxs]; simp)
      have hy : y ∈ o.op.operands.toList := hargs y (by rw [hxs]; simp)
      cases b <;> simp only at h hD <;> first | exact h.elim | (cases hD; done) | skip
      case min =>
        obtain ⟨v, hv, h⟩ := optK_some h
        refine det_put v h fun B2 fr2 S2 K2 h1 h2 h3 h4 h5 => ?_
        unfold callW; simp only [hts, hxs, opd_agree (h1 x hx), opd_agree (h1 y hy), hv]; exact h5
      case max =>
        obtain ⟨v, hv, h⟩ := optK_some h
        refine det_put v h fun B2 fr2 S2 K2 h1 h2 h3 h4 h5 => ?_
        unfold callW; simp only [hts, hxs, opd_agree (h1 x hx), opd_agree (h1 y hy), hv]; exact h5
      case append =>
        rw [hts] at hD
        simp only at hD
        split at h
        · rename_i e hk hk2
          rw [hk] at hD
          simp only [Bool.not_eq_true'] at hD
          rw [hD] at h
          obtain ⟨v, hv, h⟩ := optK_some h
          refine det_strip x hx (fun t ht => ?_) v h fun B2 fr2 S2 K2 h1 h2 h3 h4 h5 => ?_
          · unfold opWrites; rw [ho]; refine List.mem_append_right _ ?_; simp only [hxs, List.headD_cons]; exact ht
          · have : S2 = S := h4 (by unfold readsS; rw [ho])
            subst this
            unfold callW; simp only [hts, hxs, hk, hk2, hD, opd_agree (h1 x hx), opd_agree (h1 y hy), hv]; exact h5
        · exact h.elim
    · rename_i t u t2 x y z hts hxs
      have hx : x ∈ o.op.operands.toList := hargs x (by rw [hxs]; simp)
      have hy : y ∈ o.op.operands.toList := hargs y (by rw [hxs]; simp)
      have hz' : z ∈ o.op.operands.toList := hargs z (by rw [hxs]; simp)
      cases b <;> simp only at h hD <;> first | exact h.elim | skip
      case max =>
        obtain ⟨v, hv, h⟩ := optK_some h
        refine det_put v h fun B2 fr2 S2 K2 h1 h2 h3 h4 h5 => ?_
        unfold callW; simp only [hts, hxs, opd_agree (h1 x hx), opd_agree (h1 y hy), opd_agree (h1 z hz'), hv]; exact h5
    · exact h.elim

theorem opW_det (hD : isD C f all tk o = true) (hag : ∀ x, addrOf o.op = some x → (resolve C f B x).isSome = (srootO C f all x).isSome) (h : opW C Ca f B tk o fr S K) :
    Det C f B tk o (readsS C f all o) fr S K (fun B2 fr2 S2 K2 => opW C Ca f B2 tk o fr2 S2 K2) := by
  have hw0 := h
  unfold opW at h
  split at h
  · rename_i x ho
    have hx : x ∈ o.op.operands.toList := by rw [ho]; simp [Op.operands]
    split at h
    · rename_i p hr
      refine det_put _ h fun B2 fr2 S2 K2 h1 h2 h3 h4 h5 => ?_
      unfold opW; simp only [ho, h3 x hx, hr]; exact h5
    · rename_i hr
      split at h
      · rename_i htk
        refine det_strip x hx (fun t ht => ?_) _ h fun B2 fr2 S2 K2 h1 h2 h3 h4 h5 => ?_
        · unfold opWrites; rw [ho]; simp only [htk]; exact List.mem_append_right _ ht
        · unfold opW; simp only [ho, h3 x hx, hr, htk, opd_agree (h1 x hx)]; exact h5
      · rename_i htk
        refine det_put _ h fun B2 fr2 S2 K2 h1 h2 h3 h4 h5 => ?_
        unfold opW; simp only [ho, h3 x hx, hr, htk, opd_agree (h1 x hx)]; exact h5
  · rename_i x ho
    have hx : x ∈ o.op.operands.toList := by rw [ho]; simp [Op.operands]
    split at h
    · exact h.elim
    · rename_i hr
      refine det_strip x hx (fun t ht => ?_) _ h fun B2 fr2 S2 K2 h1 h2 h3 h4 h5 => ?_
      · unfold opWrites; rw [ho]; exact List.mem_append_right _ ht
      · unfold opW; simp only [ho, h3 x hx, hr, opd_agree (h1 x hx)]; exact h5
  · rename_i c a b ho
    have hc : c ∈ o.op.operands.toList := by rw [ho]; simp [Op.operands]
    have ha : a ∈ o.op.operands.toList := by rw [ho]; simp [Op.operands]
    have hb : b ∈ o.op.operands.toList := by rw [ho]; simp [Op.operands]
    obtain ⟨v, hv, h⟩ := optK_some h
    refine det_put _ h fun B2 fr2 S2 K2 h1 h2 h3 h4 h5 => ?_
    unfold opW; simp only [ho, opd_agree (h1 c hc), opd_agree (h1 a ha), opd_agree (h1 b hb), hv]; exact h5
  · rename_i e ho
    unfold isD at hD
    rw [ho] at hD
    simp only at hD
    split at h
    · rename_i d hod
      rw [hod] at hD
      simp only at hD
      rw [hD] at h
      refine ⟨[(d, .undef)], [(d, some (C.ty e).zero)], ?_, fun d' e' => by rw [hod] at e'; cases e'; simp, ?_, h, fun B2 fr2 S2 K2 h1 h2 h3 h4 h5 => ?_⟩
      · simp [opWrites, hod]
      · simp only [List.mem_singleton, forall_eq]; exact .inl ⟨hod, hD⟩
      · unfold opW; simp only [ho, hod, hD]; exact h5
    · exact h.elim
  · rename_i e x ho
    have hx : x ∈ o.op.operands.toList := by rw [ho]; simp [Op.operands]
    have hxw : ∀ t ∈ tmpOf x, t ∈ opWrites C tk o := fun t ht => by unfold opWrites; rw [ho]; exact List.mem_append_right _ ht
    unfold isD at hD
    rw [ho] at hD
    simp only at hD
    obtain ⟨cs, hcs, h⟩ := optK_some h
    split at h
    · rename_i d hod
      rw [hod] at hD
      simp only at hD
      rw [hD] at h
      refine ⟨stripL fr x ++ [(d, .undef)], [(d, some cs)], ?_, fun d' e' => by rw [hod] at e'; cases e'; simp, ?_, ?_, fun B2 fr2 S2 K2 h1 h2 h3 h4 h5 => ?_⟩
      · intro p hp
        rcases List.mem_append.1 hp with hp | hp
        · unfold stripL at hp
          split at hp
          · simp only [List.mem_singleton] at hp
            subst hp
            exact hxw _ (by simp [tmpOf])
          · simp at hp
        · simp only [List.mem_singleton] at hp
          subst hp
          simp [opWrites, hod]
      · simp only [List.mem_singleton, forall_eq]; exact .inl ⟨hod, hD⟩
      · cases x <;> exact h
      · unfold opW; simp only [ho, hod, hD, opd_agree (h1 x hx), hcs]
        cases x with
        | tmp y =>
          have := h1 _ hx y (by simp [tmpOf])
          simp only [stripL, ← this] at h5
          exact h5
        | _ => exact h5
    · exact h.elim
  · rename_i t ps ho
    have hps : ∀ p ∈ ps.toList, p.2 ∈ o.op.operands.toList := fun p hp => by rw [ho]; simp [Op.operands]; exact ⟨p.1, by simpa using hp⟩
    obtain ⟨v, hv, h⟩ := optK_some h
    refine det_put _ h fun B2 fr2 S2 K2 h1 h2 h3 h4 h5 => ?_
    unfold opW; simp only [ho, map_opd_agree (fun p hp => h1 p.2 (hps p hp)) (partTy C t), hv]; exact h5
  · rename_i t n ps ho
    have hps : ∀ p ∈ ps.toList, p.2 ∈ o.op.operands.toList := fun p hp => by rw [ho]; simp [Op.operands]; exact ⟨p.1, by simpa using hp⟩
    split at h
    · rename_i e hk hk2 hk3
      obtain ⟨v, hv, h⟩ := optK_some h
      refine det_put _ h fun B2 fr2 S2 K2 h1 h2 h3 h4 h5 => ?_
      unfold opW; simp only [ho, hk, hk2, hk3, map_opd_agree0 (fun p hp => h1 p.2 (hps p hp)) e, hv]; exact h5
    · exact h.elim
  · rename_i t x ho
    have hx : x ∈ o.op.operands.toList := by rw [ho]; simp [Op.operands]
    have hag' := hag x (by rw [ho]; rfl)
    unfold isD at hD
    rw [ho] at hD
    simp only at hD
    split at h
    · rename_i b off hr
      obtain ⟨v, hv, h⟩ := optK_some h
      split at h
      · refine ⟨putL o.dst v.strip0, [(b, stripBox (fr.b b) off)], fun p hp => ?_, fun d e => by rw [e]; simp [putL], ?_, by rw [upd_put]; exact h, fun B2 fr2 S2 K2 h1 h2 h3 h4 h5 => ?_⟩
        · unfold putL at hp
          split at hp
          · rename_i d e
            simp only [List.mem_singleton] at hp
            subst hp
            simp [opWrites, e]
          · simp at hp
        · simp only [List.mem_singleton, forall_eq]
          refine .inr ?_
          rw [ho]
          exact ⟨rfl, off, hr⟩
        · have hb := h2 x hx b off hr
          rw [upd_put] at h5
          unfold opW; simp only [ho, h3 x hx, hr, hb, hv]; exact h5
      · refine det_put _ h fun B2 fr2 S2 K2 h1 h2 h3 h4 h5 => ?_
        have hb := h2 x hx b off hr
        unfold opW; simp only [ho, h3 x hx, hr, hb, hv]; exact h5
    · rename_i hr
      rw [hr] at hag'
      simp only [Option.isSome_none] at hag'
      obtain ⟨v, hv, h⟩ := optK_some h
      split at h
      · rw [← hag'] at hD; simp at hD
      · refine det_put _ h fun B2 fr2 S2 K2 h1 h2 h3 h4 h5 => ?_
        have : S2 = S := h4 (by unfold readsS; rw [ho]; simp [← hag'])
        subst this
        unfold opW; simp only [ho, h3 x hx, hr, opd_agree (h1 x hx), hv]; exact h5
  · rename_i t x y ho
    have hx : x ∈ o.op.operands.toList := by rw [ho]; simp [Op.operands]
    have hy : y ∈ o.op.operands.toList := by rw [ho]; simp [Op.operands]
    have hyw : ∀ t ∈ tmpOf y, t ∈ opWrites C tk o := fun t ht => by unfold opWrites; rw [ho]; exact List.mem_append_right _ ht
    have hag' := hag x (by rw [ho]; rfl)
    unfold isD at hD
    rw [ho] at hD
    simp only at hD
    split at h
    · rename_i b off hr
      obtain ⟨cs, hcs, h⟩ := optK_some h
      refine ⟨stripL fr y ++ putL o.dst .undef, [(b, some cs)], fun p hp => ?_, fun d e => by rw [e]; simp [putL], ?_, ?_, fun B2 fr2 S2 K2 h1 h2 h3 h4 h5 => ?_⟩
      · rcases List.mem_append.1 hp with hp | hp
        · unfold stripL at hp
          split at hp
          · simp only [List.mem_singleton] at hp
            subst hp
            exact hyw _ (by simp [tmpOf])
          · simp at hp
        · unfold putL at hp
          split at hp
          · rename_i d e
            simp only [List.mem_singleton] at hp
            subst hp
            simp [opWrites, e]
          · simp at hp
      · simp only [List.mem_singleton, forall_eq]
        refine .inr ?_
        rw [ho]
        exact ⟨off, hr⟩
      · cases y <;> cases hd : o.dst <;> rw [hd] at h <;> exact h
      · have hb := h2 x hx b off hr
        unfold opW; simp only [ho, h3 x hx, hr, hb, opd_agree (h1 y hy), hcs]
        cases y with
        | tmp z =>
          have := h1 _ hy z (by simp [tmpOf])
          simp only [stripL, ← this] at h5
          cases hd : o.dst <;> rw [hd] at h5 <;> exact h5
        | _ => cases hd : o.dst <;> rw [hd] at h5 <;> exact h5
    · rename_i hr
      rw [hr] at hag'
      rw [← hag'] at hD
      cases hD
  · rename_i x ho
    have hx : x ∈ o.op.operands.toList := by rw [ho]; simp [Op.operands]
    split at h
    · rename_i p hr
      obtain ⟨v, hv, h⟩ := optK_some h
      refine det_put _ h fun B2 fr2 S2 K2 h1 h2 h3 h4 h5 => ?_
      have hb := h2 x hx p.1 p.2 hr
      unfold opW; simp only [ho, h3 x hx, hr, hb, hv]; exact h5
    · rename_i hr
      obtain ⟨v, hv, h⟩ := optK_some h
      refine det_put _ h fun B2 fr2 S2 K2 h1 h2 h3 h4 h5 => ?_
      unfold opW; simp only [ho, h3 x hx, hr, opd_agree (h1 x hx), hv]; exact h5
  · rename_i op t x y u ho
    have hx : x ∈ o.op.operands.toList := by rw [ho]; simp [Op.operands]
    have hy : y ∈ o.op.operands.toList := by rw [ho]; simp [Op.operands]
    split at h
    · rename_i hk
      obtain ⟨v, hv, h⟩ := optK_some h
      refine det_put _ h fun B2 fr2 S2 K2 h1 h2 h3 h4 h5 => ?_
      unfold opW; simp only [ho, hk, opd_agree (h1 x hx), opd_agree (h1 y hy), hv]; exact h5
    · exact h.elim
    · rename_i hk
      obtain ⟨v, hv, h⟩ := optK_some h
      refine det_put _ h fun B2 fr2 S2 K2 h1 h2 h3 h4 h5 => ?_
      have : S2 = S := h4 (by unfold readsS; rw [ho]; simp [hk])
      subst this
      unfold opW; simp only [ho, hk, opd_agree (h1 x hx), opd_agree (h1 y hy), hv]; exact h5
    · rename_i hk1 hk2 hk3
      obtain ⟨v, hv, h⟩ := optK_some h
      refine det_put _ h fun B2 fr2 S2 K2 h1 h2 h3 h4 h5 => ?_
      unfold opW
      simp only [ho, opd_agree (h1 x hx), opd_agree (h1 y hy)]
      generalize hk : eqKind C t (isLit x || isLit y) = k at hv hk1 hk2 hk3 ⊢
      cases k <;> first | exact (hk1 rfl).elim | exact (hk2 rfl).elim | exact (hk3 rfl).elim | (simp only [hv]; exact h5)
  · rename_i op t x ho
    have hx : x ∈ o.op.operands.toList := by rw [ho]; simp [Op.operands]
    obtain ⟨v, hv, h⟩ := optK_some h
    refine det_put _ h fun B2 fr2 S2 K2 h1 h2 h3 h4 h5 => ?_
    unfold opW; simp only [ho, opd_agree (h1 x hx), hv]; exact h5
  · rename_i s d x ho
    have hx : x ∈ o.op.operands.toList := by rw [ho]; simp [Op.operands]
    split at h
    · rename_i k hk
      obtain ⟨v, hv, h⟩ := optK_some h
      refine det_put _ h fun B2 fr2 S2 K2 h1 h2 h3 h4 h5 => ?_
      unfold opW; simp only [ho, hk, opd_agree (h1 x hx), hv]; exact h5
    · rename_i hk
      split at h
      · rename_i hk2
        obtain ⟨v, hv, h⟩ := optK_some h
        refine det_put _ h fun B2 fr2 S2 K2 h1 h2 h3 h4 h5 => ?_
        unfold opW; simp only [ho, hk, hk2, opd_agree (h1 x hx), hv]; exact h5
      · rename_i e hk2
        split at h
        · rename_i hk3
          obtain ⟨v, hv, h⟩ := optK_some h
          refine det_put _ h fun B2 fr2 S2 K2 h1 h2 h3 h4 h5 => ?_
          unfold opW; simp only [ho, hk, hk2, hk3, opd_agree (h1 x hx), hv]; exact h5
        · exact h.elim
      · exact h.elim
    · exact h.elim
  · rename_i t x ho
    have hx : x ∈ o.op.operands.toList := by rw [ho]; simp [Op.operands]
    obtain ⟨v, hv, h⟩ := optK_some h
    refine det_put _ h fun B2 fr2 S2 K2 h1 h2 h3 h4 h5 => ?_
    unfold opW; simp only [ho, opd_agree (h1 x hx), hv]; exact h5
  · rename_i g first cap ho
    have h1' : ∀ p ∈ first.toList, p ∈ o.op.operands.toList := fun p hp => by rw [ho]; simp [Op.operands]; left; simpa using hp
    have h2' : ∀ p ∈ cap.toList, p ∈ o.op.operands.toList := fun p hp => by rw [ho]; simp [Op.operands]; right; simpa using hp
    obtain ⟨v, hv, h⟩ := optK_some h
    refine det_put _ h fun B2 fr2 S2 K2 h1 h2 h3 h4 h5 => ?_
    unfold opW; simp only [ho, map_opd_agree1 (fun p hp => h1 p (h1' p hp)), map_opd_agree1 (fun p hp => h1 p (h2' p hp)), hv]; exact h5
  · rename_i t ho
    unfold isD at hD; rw [ho] at hD; simp at hD
  · rename_i t l c ho
    unfold isD at hD; rw [ho] at hD; simp at hD
  · rename_i t x lo hi mx ho
    have hx : x ∈ o.op.operands.toList := by rw [ho]; simp [Op.operands]
    have hlo : ∀ y, lo = some y → y ∈ o.op.operands.toList := fun y e => by rw [ho, e]; simp [Op.operands]
    have hhi : ∀ y, hi = some y → y ∈ o.op.operands.toList := fun y e => by rw [ho, e]; simp [Op.operands]
    have hmx : ∀ y, mx = some y → y ∈ o.op.operands.toList := fun y e => by rw [ho, e]; simp [Op.operands]
    split at h
    · rename_i hk
      split at h
      · rename_i hmn
        obtain ⟨v, hv, h⟩ := optK_some h
        refine det_put _ h fun B2 fr2 S2 K2 h1 h2 h3 h4 h5 => ?_
        unfold opW; simp only [ho, hk, opd_agree (h1 x hx), opt_opd_agree (fun y e => h1 y (hlo y e)), opt_opd_agree (fun y e => h1 y (hhi y e)), hv]; exact h5
      · exact h.elim
    · rename_i e hk
      obtain ⟨v, hv, h⟩ := optK_some h
      refine det_strip x hx (fun t ht => ?_) _ h fun B2 fr2 S2 K2 h1 h2 h3 h4 h5 => ?_
      · unfold opWrites; rw [ho]; exact List.mem_append_right _ ht
      · unfold opW; simp only [ho, hk, opd_agree (h1 x hx), opt_opd_agree (fun y e => h1 y (hlo y e)), opt_opd_agree (fun y e => h1 y (hhi y e)), opt_opd_agree (fun y e => h1 y (hmx y e)), hv]; exact h5
    · exact h.elim
  · rename_i t x i ho
    have hx : x ∈ o.op.operands.toList := by rw [ho]; simp [Op.operands]
    split at h
    · exact h.elim
    · rename_i fo hfo
      split at h
      · rename_i p hr
        obtain ⟨v, hv, h⟩ := optK_some h
        refine det_put _ h fun B2 fr2 S2 K2 h1 h2 h3 h4 h5 => ?_
        have hb := h2 x hx p.1 p.2 hr
        unfold opW; simp only [ho, hfo, h3 x hx, hr, hb, hv]; exact h5
      · rename_i hr
        obtain ⟨v, hv, h⟩ := optK_some h
        refine det_put _ h fun B2 fr2 S2 K2 h1 h2 h3 h4 h5 => ?_
        unfold opW; simp only [ho, hfo, h3 x hx, hr, opd_agree (h1 x hx), hv]; exact h5
  · rename_i t x i ho
    have hx : x ∈ o.op.operands.toList := by rw [ho]; simp [Op.operands]
    split at h
    · rename_i fs hk
      split at h
      · rename_i p hp
        obtain ⟨v, hv, h⟩ := optK_some h
        refine det_put _ h fun B2 fr2 S2 K2 h1 h2 h3 h4 h5 => ?_
        unfold opW; simp only [ho, hk, hp, opd_agree (h1 x hx), hv]; exact h5
      · exact h.elim
    · exact h.elim
  · rename_i t x i ho
    have hx : x ∈ o.op.operands.toList := by rw [ho]; simp [Op.operands]
    have hi : i ∈ o.op.operands.toList := by rw [ho]; simp [Op.operands]
    split at h
    · rename_i e hk
      obtain ⟨v, hv, h⟩ := optK_some h
      refine det_put _ h fun B2 fr2 S2 K2 h1 h2 h3 h4 h5 => ?_
      unfold opW; simp only [ho, hk, opd_agree (h1 x hx), opd_agree (h1 i hi), hv]; exact h5
    · rename_i n e hk
      split at h
      · rename_i p hr
        split at h
        · rename_i m hi2
          split at h
          · rename_i hm
            obtain ⟨v, hv, h⟩ := optK_some h
            refine det_put _ h fun B2 fr2 S2 K2 h1 h2 h3 h4 h5 => ?_
            have hb := h2 x hx p.1 p.2 hr
            unfold opW; simp only [ho, hk, h3 x hx, hr, hb, hm, hv]; exact h5
          · exact h.elim
        · exact h.elim
      · rename_i hr
        obtain ⟨v, hv, h⟩ := optK_some h
        refine det_put _ h fun B2 fr2 S2 K2 h1 h2 h3 h4 h5 => ?_
        unfold opW; simp only [ho, hk, h3 x hx, hr, opd_agree (h1 x hx), opd_agree (h1 i hi), hv]; exact h5
    · exact h.elim
  · rename_i t x i ho
    have hx : x ∈ o.op.operands.toList := by rw [ho]; simp [Op.operands]
    have hi : i ∈ o.op.operands.toList := by rw [ho]; simp [Op.operands]
    split at h
    · rename_i hk
      obtain ⟨v, hv, h⟩ := optK_some h
      refine det_put _ h fun B2 fr2 S2 K2 h1 h2 h3 h4 h5 => ?_
      unfold opW; simp only [ho, hk, opd_agree (h1 x hx), opd_agree (h1 i hi), hv]; exact h5
    · rename_i n e hk
      obtain ⟨v, hv, h⟩ := optK_some h
      refine det_put _ h fun B2 fr2 S2 K2 h1 h2 h3 h4 h5 => ?_
      unfold opW; simp only [ho, hk, opd_agree (h1 x hx), opd_agree (h1 i hi), hv]; exact h5
    · exact h.elim
  · rename_i t x i ok ho
    have hx : x ∈ o.op.operands.toList := by rw [ho]; simp [Op.operands]
    have hi : i ∈ o.op.operands.toList := by rw [ho]; simp [Op.operands]
    split at h
    · rename_i k e hk
      split at h
      · rename_i g hg
        obtain ⟨v, hv, h⟩ := optK_some h
        have hS : ∀ S2 : St, (readsS C f all o = true → S2 = S) → S2 = S := fun S2 hh => hh (by unfold readsS; rw [ho])
        split at h
        · refine det_put _ h fun B2 fr2 S2 K2 h1 h2 h3 h4 h5 => ?_
          cases hS S2 h4
          unfold opW; simp only [ho, hk, hg, opd_agree (h1 x hx), opd_agree (h1 i hi), hv]; exact h5
        · refine det_put _ h fun B2 fr2 S2 K2 h1 h2 h3 h4 h5 => ?_
          cases hS S2 h4
          unfold opW; simp only [ho, hk, hg, opd_agree (h1 x hx), opd_agree (h1 i hi), hv]; exact h5
      · exact h.elim
    · exact h.elim
  · rename_i t m k x ho
    unfold isD at hD; rw [ho] at hD; simp at hD
  · rename_i t i ho
    have hx : (Operand.tmp t) ∈ o.op.operands.toList := by rw [ho]; simp [Op.operands]
    obtain ⟨v, hv, h⟩ := optK_some h
    refine ⟨[(t, stripTup (fr.v t) i)] ++ putL o.dst v, [], fun p hp => ?_, fun d e => by rw [e]; simp [putL], by simp, ?_, fun B2 fr2 S2 K2 h1 h2 h3 h4 h5 => ?_⟩
    · rcases List.mem_append.1 hp with hp | hp
      · simp only [List.mem_singleton] at hp
        subst hp
        unfold opWrites; rw [ho]; simp [tmpOf]
      · unfold putL at hp
        split at hp
        · rename_i d e
          simp only [List.mem_singleton] at hp
          subst hp
          simp [opWrites, e]
        · simp at hp
    · cases hd : o.dst <;> rw [hd] at h <;> exact h
    · have := h1 _ hx t (by simp [tmpOf])
      unfold opW; simp only [ho, this, hv]
      cases hd : o.dst <;> rw [hd] at h5 <;> exact h5
  · rename_i c ho
    obtain ⟨L, LB, q1, qd, q2, q3, q4⟩ := callW_det (B := B) (all := all) ho hD h
    refine ⟨L, LB, q1, qd, q2, q3, fun B2 fr2 S2 K2 h1 h2 h3 h4 h5 => ?_⟩
    unfold opW; simp only [ho]
    exact q4 B2 fr2 S2 K2 h1 h2 h3 h4 h5
  · exact h.elim
end
end Go.Av
