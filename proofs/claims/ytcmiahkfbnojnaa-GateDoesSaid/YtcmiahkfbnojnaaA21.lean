/- A part of the proof of a law of this seat: What an operation reads in the frame; operations that are but functions of it. No condition. -/
import Derived.Test.YtcmiahkfbnojnaaA17
set_option linter.all false
set_option linter.unusedVariables false
set_option linter.unusedSimpArgs false
/-! What an operation reads in the frame; operations that are but functions of it. -/
namespace Go.Av

/-- 'fr', but at the slots U and the boxes UB as 'g'. -/
def graft (U UB : List Nat) (g fr : Fr) : Fr := { v := fun t => if t ∈ U then g.v t else fr.v t, b := fun t => if t ∈ UB then g.b t else fr.b t }
theorem Fr.ext' {a b : Fr} (h1 : ∀ t, a.v t = b.v t) (h2 : ∀ t, a.b t = b.b t) : a = b := by
  cases a; cases b
  simp only [Fr.mk.injEq]
  exact ⟨funext h1, funext h2⟩
section
variable {U UB : List Nat} {g fr : Fr}
theorem graft_v {t : Nat} (h : t ∉ U) : (graft U UB g fr).v t = fr.v t := by simp [graft, h]
theorem graft_b {t : Nat} (h : t ∉ UB) : (graft U UB g fr).b t = fr.b t := by simp [graft, h]
theorem graft_set {d : Nat} {x : AV} (h : d ∉ U) : (graft U UB g fr).set d x = graft U UB g (fr.set d x) := by
  refine Fr.ext' (fun t => ?_) (fun t => rfl)
  simp only [Fr.set, graft]
  by_cases e : t = d
  · subst e; simp [h]
  · simp [e]
theorem graft_setB {d : Nat} {x : Option (List AV)} (h : d ∉ UB) : (graft U UB g fr).setB d x = graft U UB g (fr.setB d x) := by
  refine Fr.ext' (fun t => rfl) (fun t => ?_)
  simp only [Fr.setB, graft]
  by_cases e : t = d
  · subst e; simp [h]
  · simp [e]
theorem graft_put {d : Option Nat} {x : AV} (h : ∀ t, d = some t → t ∉ U) : (graft U UB g fr).put d x = graft U UB g (fr.put d x) := by
  cases d with
  | none => rfl
  | some t => exact graft_set (h t rfl)
theorem graft_strip {x : Operand} (h : ∀ t ∈ tmpOf x, t ∉ U) : (graft U UB g fr).stripAt x = graft U UB g (fr.stripAt x) := by
  cases x with
  | tmp y =>
    have hy : y ∉ U := h y (by simp [tmpOf])
    simp only [Fr.stripAt, graft_v hy]
    exact graft_set hy
  | _ => rfl
theorem graft_opd {C : Ctx} {t : Nat} {x : Operand} (h : ∀ t ∈ tmpOf x, t ∉ U) : opd C (graft U UB g fr) t x = opd C fr t x := by
  cases x with
  | tmp y => exact graft_v (h y (by simp [tmpOf]))
  | _ => rfl
end

section
variable {C : Ctx} {Ca : Nat → List AV → St → (AV → St → Prop) → Prop} {f : Nat} {fr g : Fr} {S : St} {U UB : List Nat} {K : Fr → St → Prop}

theorem map_opd_graft {l : List (Nat × Operand)} (h : ∀ p ∈ l, ∀ t ∈ tmpOf p.2, t ∉ U) (ty : Nat → Nat) : l.map (fun p => opd C (graft U UB g fr) (ty p.1) p.2) = l.map (fun p => opd C fr (ty p.1) p.2) :=
  List.map_congr_left fun p hp => graft_opd (h p hp)
theorem map_opd_graft2 {l : List (Nat × Operand)} (h : ∀ p ∈ l, ∀ t ∈ tmpOf p.2, t ∉ U) (ty : Nat → Nat) : l.map (fun p => (p.1, opd C (graft U UB g fr) (ty p.1) p.2)) = l.map (fun p => (p.1, opd C fr (ty p.1) p.2)) :=
  List.map_congr_left fun p hp => by rw [graft_opd (h p hp)]
theorem map_opd_graft1 {l : List Operand} (h : ∀ p ∈ l, ∀ t ∈ tmpOf p, t ∉ U) (t : Nat) : l.map (opd C (graft U UB g fr) t) = l.map (opd C fr t) :=
  List.map_congr_left fun p hp => graft_opd (h p hp)
theorem opt_opd_graft {x : Option Operand} (h : ∀ y, x = some y → ∀ t ∈ tmpOf y, t ∉ U) (t : Nat) : x.map (opd C (graft U UB g fr) t) = x.map (opd C fr t) := by
  cases x with
  | none => rfl
  | some y => simp only [Option.map_some, graft_opd (h y rfl)]

theorem callW_graft {c : Call} {t : Nat} {dst : Option Nat} (hR : ∀ x ∈ c.operands.toList, ∀ t ∈ tmpOf x, t ∉ U) (hd : ∀ d, dst = some d → d ∉ U)
    (h : callW C Ca c t dst fr S (fun fr' S' => K (graft U UB g fr') S')) : callW C Ca c t dst (graft U UB g fr) S K := by
  have P : ∀ v, (graft U UB g fr).put dst v = graft U UB g (fr.put dst v) := fun v => graft_put hd
  have hargs : ∀ x ∈ c.args.toList, ∀ t ∈ tmpOf x, t ∉ U := fun x hx => hR x (by simp only [Call.operands, Array.toList_append]; exact List.mem_append_right _ hx)
  have hz : (c.argTypes.toList.zip c.args.toList).map (fun p => opd C (graft U UB g fr) p.1 p.2) = (c.argTypes.toList.zip c.args.toList).map (fun p => opd C fr p.1 p.2) :=
    List.map_congr_left fun p hp => graft_opd (hargs p.2 (List.of_mem_zip hp).2)
  unfold callW at h ⊢
  simp only [hz]
  obtain ⟨callee, args, argTypes⟩ := c
  cases callee with
  | value x =>
    have hx : ∀ t ∈ tmpOf x, t ∉ U := hR x (by simp [Call.operands])
    have hx2 := fun t => graft_opd (C := C) (UB := UB) (g := g) (fr := fr) (t := t) hx
    cases x <;> simp only [hx2, P] at h ⊢ <;> exact h
  | invoke x m =>
    have hx : ∀ t ∈ tmpOf x, t ∉ U := hR x (by simp [Call.operands])
    simp only [graft_opd hx, P] at h ⊢
    exact h
  | builtin b =>
    simp only at h hargs ⊢
    generalize argTypes.toList = ts at h ⊢
    generalize args.toList = xs at h hargs ⊢
    match ts, xs with
    | [t], [x] =>
      have hx := hargs x (by simp)
      simp only [graft_opd hx, P] at h ⊢
      exact h
    | [t, u], [x, y] =>
      have hx := hargs x (by simp)
      have hy := hargs y (by simp)
      have P2 : ∀ v, ((graft U UB g fr).stripAt x).put dst v = graft U UB g ((fr.stripAt x).put dst v) := fun v => by rw [graft_strip hx, graft_put hd]
      simp only [graft_opd hx, graft_opd hy, P, P2] at h ⊢
      exact h
    | [t, u, v], [x, y, z] =>
      have hx := hargs x (by simp)
      have hy := hargs y (by simp)
      have hz := hargs z (by simp)
      simp only [graft_opd hx, graft_opd hy, graft_opd hz, P] at h ⊢
      exact h
    | [], _ => exact h
    | [_], [] => exact h
    | [_], _ :: _ :: _ => exact h
    | [_, _], [] => exact h
    | [_, _], [_] => exact h
    | [_, _], _ :: _ :: _ :: _ => exact h
    | [_, _, _], [] => exact h
    | [_, _, _], [_] => exact h
    | [_, _, _], [_, _] => exact h
    | [_, _, _], _ :: _ :: _ :: _ :: _ => exact h
    | _ :: _ :: _ :: _ :: _, _ => exact h

theorem opW_graft {B B2 : List Oper} {tk : Bool} {o : Oper} (hR : ∀ x ∈ o.op.operands.toList, ∀ t ∈ tmpOf x, t ∉ U) (hB : ∀ x ∈ o.op.operands.toList, ∀ b off, resolve C f B x = some (b, off) → b ∉ UB)
    (hd : ∀ d, o.dst = some d → d ∉ U ∧ d ∉ UB) (hres : ∀ x ∈ o.op.operands.toList, resolve C f B2 x = resolve C f B x)
    (h : opW C Ca f B tk o fr S (fun fr' S' => K (graft U UB g fr') S')) : opW C Ca f B2 tk o (graft U UB g fr) S K := by
  have P : ∀ v fr, (graft U UB g fr).put o.dst v = graft U UB g (fr.put o.dst v) := fun v fr => graft_put fun d e => (hd d e).1
  obtain ⟨dst, op, ty, pos, after, guard⟩ := o
  simp only at hR hB hd hres P
  cases op <;> simp only [opW, Op.operands, Call.operands] at h hR hB hres ⊢ <;> try exact h
  case move x =>
    have hx := hR x (by simp)
    rw [hres x (by simp)]
    simp only [graft_opd hx, graft_strip hx, P]
    exact h
  case assign x =>
    have hx := hR x (by simp)
    rw [hres x (by simp)]
    simp only [graft_opd hx, graft_strip hx, P]
    exact h
  case pick c a b =>
    simp only [graft_opd (hR c (by simp)), graft_opd (hR a (by simp)), graft_opd (hR b (by simp)), P]
    exact h
  case alloc e =>
    cases dst with
    | none => exact h
    | some d =>
      simp only [graft_setB (hd d rfl).2, graft_set (hd d rfl).1] at h ⊢
      exact h
  case box e x =>
    have hx := hR x (by simp)
    simp only [graft_opd hx]
    cases dst with
    | none => exact h
    | some d =>
      simp only [graft_strip hx, graft_setB (hd d rfl).2, graft_set (hd d rfl).1] at h ⊢
      exact h
  case build t ps =>
    have hps : ∀ p ∈ ps.toList, ∀ t ∈ tmpOf p.2, t ∉ U := fun p hp => hR p.2 (by simp; exact ⟨p.1, by simpa using hp⟩)
    simp only [map_opd_graft2 hps (partTy C t), P]
    exact h
  case buildSlice t n ps =>
    have hps : ∀ p ∈ ps.toList, ∀ t ∈ tmpOf p.2, t ∉ U := fun p hp => hR p.2 (by simp; exact ⟨p.1, by simpa using hp⟩)
    have := fun e => map_opd_graft (C := C) (g := g) (UB := UB) (fr := fr) hps (fun _ => e)
    simp only [this, P]
    exact h
  case load t x =>
    have hx := hR x (by simp)
    rw [hres x (by simp)]
    have hb := hB x (by simp)
    cases hr : resolve C f B x with
    | none =>
      rw [hr] at h
      simp only [graft_opd hx, P] at h ⊢
      exact h
    | some p =>
      obtain ⟨b, off⟩ := p
      rw [hr] at h
      have hb' := hb b off hr
      simp only [graft_b hb', graft_setB hb', P] at h ⊢
      exact h
  case store t x y =>
    have hx := hR x (by simp)
    have hy := hR y (by simp)
    rw [hres x (by simp)]
    have hb := hB x (by simp)
    cases hr : resolve C f B x with
    | none =>
      rw [hr] at h
      simp only [graft_opd hx, graft_opd hy, graft_strip hy, P] at h ⊢
      exact h
    | some p =>
      obtain ⟨b, off⟩ := p
      rw [hr] at h
      have hb' := hb b off hr
      simp only [graft_opd hy, graft_b hb', graft_strip hy, graft_setB hb', P] at h ⊢
      exact h
  case nilCheck x =>
    have hx := hR x (by simp)
    rw [hres x (by simp)]
    have hb := hB x (by simp)
    cases hr : resolve C f B x with
    | none =>
      rw [hr] at h
      simp only [graft_opd hx, P] at h ⊢
      exact h
    | some p =>
      rw [hr] at h
      have hb' := hb p.1 p.2 hr
      simp only [graft_b hb', P] at h ⊢
      exact h
  case binOp op t x y u =>
    simp only [graft_opd (hR x (by simp)), graft_opd (hR y (by simp)), P]
    exact h
  case unOp op t x =>
    simp only [graft_opd (hR x (by simp)), P]
    exact h
  case convert s d x =>
    simp only [graft_opd (hR x (by simp)), P]
    exact h
  case makeInterface t x =>
    simp only [graft_opd (hR x (by simp)), P]
    exact h
  case makeFunc fn first cap =>
    have h1 : ∀ p ∈ first.toList, ∀ t ∈ tmpOf p, t ∉ U := fun p hp => hR p (by simp; left; simpa using hp)
    have h2 : ∀ p ∈ cap.toList, ∀ t ∈ tmpOf p, t ∉ U := fun p hp => hR p (by simp; right; simpa using hp)
    cases fn <;> simp only [map_opd_graft1 h1, map_opd_graft1 h2, P] at h ⊢ <;> exact h
  case makeMap t r =>
    cases r <;> simp only [P] at h ⊢ <;> exact h
  case makeSlice t l c =>
    simp only [graft_opd (hR l (by simp)), graft_opd (hR c (by simp)), P]
    exact h
  case slice t x lo hi mx =>
    have hx := hR x (by simp)
    have hlo : ∀ y, lo = some y → ∀ t ∈ tmpOf y, t ∉ U := fun y e => hR y (by subst e; simp)
    have hhi : ∀ y, hi = some y → ∀ t ∈ tmpOf y, t ∉ U := fun y e => hR y (by subst e; simp)
    have hmx : ∀ y, mx = some y → ∀ t ∈ tmpOf y, t ∉ U := fun y e => hR y (by subst e; simp)
    simp only [graft_opd hx, graft_strip hx, opt_opd_graft hlo, opt_opd_graft hhi, opt_opd_graft hmx, P]
    exact h
  case fieldAddr t x i =>
    have hx := hR x (by simp)
    rw [hres x (by simp)]
    have hb := hB x (by simp)
    cases hr : resolve C f B x with
    | none =>
      rw [hr] at h
      simp only [graft_opd hx, P] at h ⊢
      exact h
    | some p =>
      rw [hr] at h
      have hb' := hb p.1 p.2 hr
      simp only [graft_b hb', P] at h ⊢
      exact h
  case field t x i =>
    simp only [graft_opd (hR x (by simp)), P]
    exact h
  case indexAddr t x i =>
    have hx := hR x (by simp)
    have hi := hR i (by simp)
    rw [hres x (by simp)]
    have hb := hB x (by simp)
    cases hr : resolve C f B x with
    | none =>
      rw [hr] at h
      simp only [graft_opd hx, graft_opd hi, P] at h ⊢
      exact h
    | some p =>
      rw [hr] at h
      have hb' := hb p.1 p.2 hr
      simp only [graft_opd hx, graft_opd hi, graft_b hb', P] at h ⊢
      exact h
  case index t x i =>
    simp only [graft_opd (hR x (by simp)), graft_opd (hR i (by simp)), P]
    exact h
  case lookup t x i ok =>
    simp only [graft_opd (hR x (by simp)), graft_opd (hR i (by simp)), P]
    exact h
  case mapUpdate t m k v =>
    simp only [graft_opd (hR m (by simp)), graft_opd (hR k (by simp)), graft_opd (hR v (by simp)), P]
    exact h
  case extract x i =>
    cases x with
    | tmp t =>
      have ht : t ∉ U := hR (.tmp t) (by simp) t (by simp [tmpOf])
      simp only [graft_v ht, graft_set ht, P]
      exact h
    | _ => exact h
  case call c =>
    exact callW_graft hR (fun d e => (hd d e).1) h
end
end Go.Av
