/- A part of the proof of a law of this seat: Boxes, make, append, copy. No condition. -/
import Derived.Test.YtcmiahkfbnojnaaA8
set_option linter.all false
set_option linter.unusedVariables false
set_option linter.unusedSimpArgs false
/-! Boxes, make, append, copy. -/
namespace Go.Av
variable {E : Env} {f n : Nat} {Gs G : Gh} {ws w : World} {S : St} {a : Act} {fr : Fr} {before : List Oper}

/-- A local box comes into its slot. -/
theorem RF.putBox (h : RF E f n Gs ws G w S a fr before) {o : Oper} {d : Nat} (ho : o.dst = some d) (hd : d < n) (hloc : E.C.loc f d = true) {b : Nat} {cs : List AV} {arr : Array Value} {e : Nat}
    (hr : G.role b = .lbox d) (hb : w.heap[b]? = some (.cells arr e (0, 0))) (hrow : RowR G w (.bcell d) arr cs) :
    RF E f n Gs ws G w S (a.put o.dst (.pointer (some ⟨b, 0, none⟩))) ((fr.setB d (some cs)).set d .undef) (o :: before) := by
  have hat := fun t => Act.at_put h.frr.size (dst := o.dst) (v := .pointer (some ⟨b, 0, none⟩)) (fun d' e' => by rw [ho] at e'; cases e'; exact hd) t
  refine ⟨h.rel, ⟨by rw [Act.defers_put]; exact h.frr.defers, by rw [Act.size_put]; exact h.frr.size, fun t => ?_, fun t cs' hb' => ?_⟩, h.kept, fun x b' off hx cs' hcs => ?_⟩
  · rw [hat]
    simp only [Fr.set, Fr.setB]
    by_cases e1 : t = d
    · subst e1; simp only [if_true]; exact .undef _
    · have : o.dst ≠ some t := by rw [ho]; simpa using Ne.symm e1
      simp only [this, if_false, e1]; exact h.frr.slot t
  · rw [hat]
    simp only [Fr.set, Fr.setB] at hb'
    by_cases e1 : t = d
    · subst e1
      simp only [if_true, Option.some.injEq] at hb'
      subst hb'
      rw [if_pos ho]
      exact ⟨hloc, b, arr, e, rfl, hr, hb, hrow⟩
    · simp only [e1, if_false] at hb'
      have : o.dst ≠ some t := by rw [ho]; simpa using Ne.symm e1
      rw [if_neg this]
      exact h.frr.box t cs' hb'
  · have hboxes : ∀ t ds, ((fr.setB d (some cs)).set d .undef).b t = some ds → ∃ b2, Act.at (a.put o.dst (.pointer (some ⟨b, 0, none⟩))) t = .pointer (some ⟨b2, 0, none⟩) := fun t ds hds => by
      rw [hat]
      by_cases e1 : t = d
      · subst e1; rw [if_pos ho]; exact ⟨b, rfl⟩
      · have : o.dst ≠ some t := by rw [ho]; simpa using Ne.symm e1
        rw [if_neg this]
        simp only [Fr.set, Fr.setB, e1, if_false] at hds
        exact h.hbox t ds hds
    simp only [resolveTmp] at hx
    split at hx
    · cases hx
      obtain ⟨blk, hblk⟩ := hboxes _ _ hcs
      exact ⟨blk, hblk, hblk⟩
    · rename_i hnl
      split at hx
      · rename_i hde
        rw [dstEq_iff, ho] at hde
        cases hde
        rw [hloc] at hnl; cases hnl
      · rename_i hde
        split at hx
        · rename_i b1 off1 h1
          split at hx
          · cases hx
          · rename_i hdb
            cases hx
            have hne : o.dst ≠ some b' := fun e => by rw [dstEq_iff.2 e] at hdb; cases hdb
            have hnx : o.dst ≠ some x := fun e => by rw [dstEq_iff.2 e] at hde; cases hde
            have hb'd : b' ≠ d := fun e => hne (by rw [ho, e])
            rw [hat b', hat x, if_neg hne, if_neg hnx]
            simp only [Fr.set, Fr.setB, hb'd, if_false] at hcs
            exact h.pr x b' off h1 cs' hcs
        · cases hx

theorem run_newVar {P : Program} {w : World} (t : Nat) (v : Value) : (newVar t v).run P w = .ok ⟨w.heap.size, 0, none⟩ (w.alloc (.cells v.cells t)) := by
  simp [newVar, newRow]
theorem rowR_zero {κ : Nat → Key} {arr : Array Value} {cs : List AV} (h : CellsV G arr cs) : RowR G w κ arr cs :=
  ⟨by rw [h.1]; exact Nat.le_refl _, fun j x v hx hv => ⟨h.2.1 j x v hx hv, AV.cell1.free1 (h.2.2 x (List.mem_of_getElem? hx)), .of_not (AV.cell1.own (h.2.2 x (List.mem_of_getElem? hx)))⟩⟩

theorem RF.allocLoc (A : Agree E) (h : RF E f n Gs ws G w S a fr before) {o : Oper} {d t : Nat} (ho : o.dst = some d) (hd : d < n) (hloc : E.C.loc f d = true) (ht : E.C.has t = true) :
    ∃ v w' G', (Instr.alloc t true (.tuple #[])).run E.P w = .ok v w' ∧ RF E f n Gs ws G' w' S (a.put o.dst v) ((fr.setB d (some (E.C.ty t).zero)).set d .undef) (o :: before) := by
  obtain ⟨i, z, dd, h1, h2, h3, h4, h5, h6, h7, h8, h9, h10⟩ := (A.ty t ht).ex
  have hzv : (zeroValue t).run E.P w = .ok z w := by simp [zeroValue, typeInfo, h1, h4]
  have hrun : (Instr.alloc t true (.tuple #[])).run E.P w = .ok (.pointer (some ⟨w.heap.size, 0, none⟩)) (w.alloc (.cells z.cells t)) := by
    simp only [Instr.alloc, Sem.run_bind, hzv, Result.andThen_ok, run_newVar, Sem.run_pure]
  have hrf := h.alloc (.cells z.cells t) (fun _ => none) (.lbox d) (fun j v hj => by cases hj) (fun _ _ => rfl)
  refine ⟨_, _, _, hrun, hrf.putBox ho hd hloc (by simp [Gh.new]) (World.alloc_new w _) (rowR_zero (zero_CellsV A ht h1 h4 _))⟩
theorem RF.allocObj (A : Agree E) (h : RF E f n Gs ws G w S a fr before) {o : Oper} {d t : Nat} (ho : o.dst = some d) (hd : d < n) (hloc : E.C.loc f d = false) (ht : E.C.has t = true) (hop : opRes E.C (fun y => resolveTmp E.C f y before) o.op = none) :
    ∃ v w' G', (Instr.alloc t true (.tuple #[])).run E.P w = .ok v w' ∧ RF E f n Gs ws G' w' (S ++ [.cells (E.C.ty t).zero]) (a.put o.dst v) (fr.set d (.ptr S.length 0)) (o :: before) := by
  obtain ⟨i, z, dd, h1, h2, h3, h4, h5, h6, h7, h8, h9, h10⟩ := (A.ty t ht).ex
  have hzv : (zeroValue t).run E.P w = .ok z w := by simp [zeroValue, typeInfo, h1, h4]
  have hrun : (Instr.alloc t true (.tuple #[])).run E.P w = .ok (.pointer (some ⟨w.heap.size, 0, none⟩)) (w.alloc (.cells z.cells t)) := by
    simp only [Instr.alloc, Sem.run_bind, hzv, Result.andThen_ok, run_newVar, Sem.run_pure]
  have hrf := h.alloc (.cells z.cells t) (fun _ => none) (.obj S.length) (fun j v hj => by cases hj) (fun _ _ => rfl)
  have hrf2 := hrf.addObj (b := w.heap.size) (by simp) (.cells (E.C.ty t).zero) ⟨w.heap.size, z.cells, t, by simp [Gh.obj], by simp [Gh.obj, Gh.new], World.alloc_new w _, rowR_zero (zero_CellsV A ht h1 h4 _)⟩
  have := hrf2.put (o := o) (v := .pointer (some ⟨w.heap.size, 0, none⟩)) (x := .ptr S.length 0) (fun d' e => by rw [ho] at e; cases e; exact ⟨hd, hloc⟩)
    (fun d' e => .of_cell1 (.ptr _ _ _ (by simp [Gh.obj])) rfl) (fun d' e b off hx => by rw [hop] at hx; cases hx)
  have e2 : ∀ fr' : Fr, fr'.put o.dst (.ptr S.length 0) = fr'.set d (.ptr S.length 0) := fun _ => by rw [ho]; rfl
  rw [e2] at this
  exact ⟨_, _, _, hrun, this⟩

theorem boxA_spec {ti : TI} {x : AV} {cs : List AV} (h : boxA ti x = some cs) : x.free = true ∧ x.cells.length = ti.size ∧ cs = x.cells := by
  unfold boxA at h
  split at h
  · rename_i hc; cases h; exact ⟨hc.1, hc.2, rfl⟩
  · cases h
theorem rowR_cells {κ : Nat → Key} {κ0 : Key} {κc : Nat → Key} {v : Value} {x : AV} (h : ValR G w κ0 κc v x) (hf : x.free = true) (h0 : κ 0 = κ0) : RowR G w κ v.cells x.cells :=
  ⟨by rw [h.vr.cells_size hf]; exact Nat.le_refl _, fun j c u hc hu => h.cellsR hf j c u hc hu _ (by rintro rfl; exact h0)⟩
theorem RF.boxLoc (h : RF E f n Gs ws G w S a fr before) {o : Oper} {d t : Nat} (x : Operand) (ho : o.dst = some d) (hd : d < n) (hloc : E.C.loc f d = true) {cs : List AV} (hc : boxA (E.C.ty t) (opd E.C fr t x) = some cs) :
    ∃ v w' G', (Instr.box t (a.eval x)).run E.P w = .ok v w' ∧ RF E f n Gs ws G' w' S (a.put o.dst v) (((fr.stripAt x).setB d (some cs)).set d .undef) (o :: before) := by
  obtain ⟨hf, hl, rfl⟩ := boxA_spec hc
  have hrun : (Instr.box t (a.eval x)).run E.P w = .ok (.pointer (some ⟨w.heap.size, 0, none⟩)) (w.alloc (.cells (a.eval x).cells t)) := by
    simp only [Instr.box, Sem.run_bind, run_newVar, Result.andThen_ok, Sem.run_pure]
  obtain ⟨G1, κc, k1, k2, k3, _⟩ := h.giveTo x t (κ := .bcell d 0) (by simp) (by simp)
  have hrf := k1.alloc (.cells (a.eval x).cells t) (fun _ => none) (.lbox d) (fun j v hj => by cases hj) (fun _ _ => rfl)
  have hc := Chg.new k1.rel (.cells (a.eval x).cells t) (fun _ => none) (.lbox d) (fun _ => False)
  refine ⟨_, _, _, hrun, hrf.putBox ho hd hloc (by simp [Gh.new]) (World.alloc_new w _) ((rowR_cells k3 hf rfl).chg hc (fun _ => id))⟩
theorem RF.boxObj (h : RF E f n Gs ws G w S a fr before) {o : Oper} {d t : Nat} (x : Operand) (ho : o.dst = some d) (hd : d < n) (hloc : E.C.loc f d = false) (hop : opRes E.C (fun y => resolveTmp E.C f y before) o.op = none)
    {cs : List AV} (hc : boxA (E.C.ty t) (opd E.C fr t x) = some cs) :
    ∃ v w' G', (Instr.box t (a.eval x)).run E.P w = .ok v w' ∧ RF E f n Gs ws G' w' (S ++ [.cells cs]) (a.put o.dst v) ((fr.stripAt x).set d (.ptr S.length 0)) (o :: before) := by
  obtain ⟨hf, hl, rfl⟩ := boxA_spec hc
  have hrun : (Instr.box t (a.eval x)).run E.P w = .ok (.pointer (some ⟨w.heap.size, 0, none⟩)) (w.alloc (.cells (a.eval x).cells t)) := by
    simp only [Instr.box, Sem.run_bind, run_newVar, Result.andThen_ok, Sem.run_pure]
  obtain ⟨G1, κc, k1, k2, k3, _⟩ := h.giveTo x t (κ := .ocell S.length 0) (by simp) (by simp)
  have hrf := k1.alloc (.cells (a.eval x).cells t) (fun _ => none) (.obj S.length) (fun j v hj => by cases hj) (fun _ _ => rfl)
  have hc := Chg.new k1.rel (.cells (a.eval x).cells t) (fun _ => none) (.obj S.length) (fun _ => False)
  have hle : (G1.new w.heap.size (fun _ => none) (.obj S.length)).Le ((G1.new w.heap.size (fun _ => none) (.obj S.length)).obj S.length w.heap.size) :=
    ⟨fun _ _ _ e => e, fun id b' e => by
      have := (hrf.rel.rho id b' e).1
      simp [Gh.obj, Nat.ne_of_lt this, e], fun _ => Nat.le_refl _⟩
  have hc2 : Chg (fun _ => False) (G1.new w.heap.size (fun _ => none) (.obj S.length)) (w.alloc (.cells (a.eval x).cells t)) ((G1.new w.heap.size (fun _ => none) (.obj S.length)).obj S.length w.heap.size) (w.alloc (.cells (a.eval x).cells t)) :=
    ⟨hle, Nat.le_refl _, fun _ _ _ => ⟨rfl, rfl, fun _ => rfl⟩⟩
  have hrf2 := hrf.addObj (b := w.heap.size) (by simp) (.cells (opd E.C fr t x).cells) ⟨w.heap.size, _, t, by simp [Gh.obj], by simp [Gh.obj, Gh.new], World.alloc_new w _, (((rowR_cells k3 hf rfl).chg hc (fun _ => id)).chg hc2 (fun _ => id))⟩
  have := hrf2.put (o := o) (v := .pointer (some ⟨w.heap.size, 0, none⟩)) (x := .ptr S.length 0) (fun d' e => by rw [ho] at e; cases e; exact ⟨hd, hloc⟩)
    (fun d' e => .of_cell1 (.ptr _ _ _ (by simp [Gh.obj])) rfl) (fun d' e b off hx => by rw [hop] at hx; cases hx)
  have e2 : ∀ fr' : Fr, fr'.put o.dst (.ptr S.length 0) = fr'.set d (.ptr S.length 0) := fun _ => by rw [ho]; rfl
  rw [e2] at this
  exact ⟨_, _, _, hrun, this⟩
end Go.Av
