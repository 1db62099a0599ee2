/- A part of the proof of a law of this seat: Every operation: what the transformer says is what the model does. No condition. -/
import Derived.Test.YtcmiahkfbnojnaaA15
set_option linter.all false
set_option linter.unusedVariables false
set_option linter.unusedSimpArgs false
/-! Every operation: what the transformer says is what the model does. -/
namespace Go.Av
variable {E : Env} {f n : Nat} {Gs G : Gh} {ws w : World} {S : St} {a : Act} {fr : Fr} {before : List Oper}

/-- Operations over pointers, that may yield a place in a local box. -/
theorem RF.donePtr (h : RF E f n Gs ws G w S a fr before) {o : Oper} (hd : ∀ d, o.dst = some d → d < n ∧ E.C.loc f d = false) {v : Value} {x : AV} (hv : ∀ κ κc, ValR G w κ κc v x)
    (hp : ∀ b off, opRes E.C (fun y => resolveTmp E.C f y before) o.op = some (b, off) → PtrVal a fr b off v) {K : Fr → St → Prop} {next : Act → World → Prop} (hk : K (fr.put o.dst x) S)
    (hnext : ∀ G' w' S' a' fr', RF E f n Gs ws G' w' S' a' fr' (o :: before) → K fr' S' → next a' w') : next (a.put o.dst v) w :=
  hnext _ _ _ _ _ (h.put (v := v) (x := x) hd (fun d _ => hv _ _) (fun d _ => hp)) hk

theorem PtrVal.off {b off k : Nat} {v : Value} (h : PtrVal a fr b off v) {cs : List AV} (hcs : fr.b b = some cs) : ∃ blk, Act.at a b = .pointer (some ⟨blk, 0, none⟩) ∧ v = .pointer (some ⟨blk, off, none⟩) := h cs hcs

theorem parts_rel {G : Gh} {C : Ctx} {t : Nat} (hv : ∀ t x, VR G (a.eval x) (opd C fr t x)) (g : Nat → Nat) (parts : Array (Nat × Operand)) :
    (parts.toList.map fun p => (p.1, opd C fr (g p.1) p.2)).length = (parts.map fun (i, x) => (i, a.eval x)).size ∧
    ∀ (i : Nat) (p : Nat × AV) (q : Nat × Value), (parts.toList.map fun p => (p.1, opd C fr (g p.1) p.2))[i]? = some p → (parts.map fun (i, x) => (i, a.eval x))[i]? = some q → p.1 = q.1 ∧ VR G q.2 p.2 := by
  refine ⟨by simp, fun i p q hp hq => ?_⟩
  rw [List.getElem?_map, Option.map_eq_some_iff] at hp
  rw [Array.getElem?_map, Option.map_eq_some_iff] at hq
  obtain ⟨y, hy, rfl⟩ := hp
  obtain ⟨y', hy', rfl⟩ := hq
  have hy2 : parts[i]? = some y := by simpa using hy
  rw [hy2] at hy'
  cases hy'
  exact ⟨rfl, hv _ _⟩

theorem opt_VR {G : Gh} {C : Ctx} {t : Nat} (hv : ∀ t x, VR G (a.eval x) (opd C fr t x)) (x : Option Operand) : OptVR G (x.map a.eval) (x.map (opd C fr t)) := by
  cases x with
  | none => trivial
  | some x => exact hv t x

theorem funcA_rel {G : Gh} {C : Ctx} (hv : ∀ t x, VR G (a.eval x) (opd C fr t x)) (xs : Array Operand) :
    (xs.map a.eval).size = ((xs.toList.map (opd C fr 0)).map AV.strip).length ∧ ∀ (i : Nat) (x : AV) (v : Value), ((xs.toList.map (opd C fr 0)).map AV.strip)[i]? = some x → (xs.map a.eval)[i]? = some v → VR G v x := by
  refine ⟨by simp, fun i x v hx hv' => ?_⟩
  rw [List.getElem?_map, Option.map_eq_some_iff] at hx
  obtain ⟨y, hy, rfl⟩ := hx
  rw [List.getElem?_map, Option.map_eq_some_iff] at hy
  obtain ⟨z, hz, rfl⟩ := hy
  rw [Array.getElem?_map, Option.map_eq_some_iff] at hv'
  obtain ⟨z', hz', rfl⟩ := hv'
  have : xs[i]? = some z := by simpa using hz
  rw [this] at hz'; cases hz'
  exact (hv _ _).strip

theorem run_pick {P : Program} {w : World} {c : Value} {b : Bool} (hc : c = .bool b) (u v : Value) : (do pure (.value (if ← asBool c then u else v)) : Sem Next).run P w = .ok (.value (if b then u else v)) w := by
  subst hc; rfl

theorem lookupA_noTup {A : Agree E} {e : Nat} (he : E.C.has e = true) {g : KK} {x key : AV} {p : AV × Bool} (hp : lookupA g (E.C.ty e) S x key = some p) (hr : Rel E G w S) : ∀ ds, p.1 ≠ .tup ds := by
  have hz : ∀ ds, zeroA (E.C.ty e) ≠ .tup ds := by
    intro ds
    have hc := (A.ty e he).cell
    unfold zeroA
    split
    · simp
    · cases hz : (E.C.ty e).zero with
      | nil => simp [List.headD]
      | cons y l =>
        rw [hz] at hc
        have := hc y (by simp)
        intro e1
        simp [List.headD] at e1
        rw [e1] at this
        simp [AV.cell1, AV.free1] at this
  intro ds hds
  unfold lookupA at hp
  split at hp
  case isFalse => cases hp
  split at hp
  · cases hp; exact hz ds hds
  · rw [Option.bind_eq_some_iff] at hp
    obtain ⟨m, hm, hp⟩ := hp
    rw [Option.map_eq_some_iff] at hp
    obtain ⟨r, hfind, rfl⟩ := hp
    cases r with
    | none => exact hz ds hds
    | some q =>
      obtain ⟨i, v⟩ := q
      obtain ⟨pp, _, h2, _, h4⟩ := findA_some hfind
      obtain ⟨b, es, clk, _, _, _, _, q5, q6⟩ := hr.mapOf hm
      have hi : i < es.size := by rw [q5]; exact (List.getElem?_eq_some_iff.1 h2).1
      have := (q6 _ es[i] pp (by simp [hi]) h2).2.2.2.1
      rw [h4] at this
      simp only at hds
      rw [hds] at this
      simp [AV.free, AV.free1] at this
  · cases hp
theorem RF.stripBoxCell (h : RF E f n Gs ws G w S a fr before) {b : Nat} {cs : List AV} (hb : fr.b b = some cs) (off : Nat) : RF E f n Gs ws G w S a (fr.setB b (stripBox (fr.b b) off)) before := by
  refine ⟨h.rel, ⟨h.frr.defers, h.frr.size, h.frr.slot, fun t cs' hb' => ?_⟩, h.kept, fun x b' off' hr => (h.pr x b' off' hr).of_isSome fun ds hds => ?_⟩
  · by_cases e : t = b
    · subst e
      simp only [Fr.setB, if_true, stripBox, hb, Option.map_some, Option.some.injEq] at hb'
      subst hb'
      obtain ⟨h1, blk, arr, e, h2, h3, h4, h5⟩ := h.frr.box t cs hb
      exact ⟨h1, blk, arr, e, h2, h3, h4, h5.strip off fun _ _ => rfl⟩
    · simp only [Fr.setB, e, if_false] at hb'
      exact h.frr.box t cs' hb'
  · by_cases e : b' = b
    · subst e; exact ⟨cs, hb⟩
    · simp only [Fr.setB, e, if_false] at hds; exact ⟨ds, hds⟩
theorem RF.stripMem (h : RF E f n Gs ws G w S a fr before) (p : AV) : RF E f n Gs ws G w (stripMem S p) a fr before := by
  unfold Av.stripMem
  split
  · rename_i id off
    split
    · rename_i cs hcs
      obtain ⟨b, arr, e, k1, k2, k3, k4, k5⟩ := h.rel.cells hcs
      refine ⟨⟨h.rel.os, h.rel.tape, h.rel.output, h.rel.size, h.rel.old, h.rel.imm, h.rel.role, h.rel.noimm, fun i b hb => by simpa using h.rel.rho i b hb, h.rel.len, fun i o ho => ?_⟩, h.frr, h.kept, h.pr⟩
      rw [List.getElem?_set] at ho
      by_cases e1 : id = i
      · subst e1
        have hlt : id < S.length := (List.getElem?_eq_some_iff.1 k1).1
        simp only [if_true, hlt, Option.some.injEq] at ho
        subst ho
        exact ⟨b, arr, e, k2, k3, k4, k5.strip off fun _ _ => rfl⟩
      · simp only [e1, if_false] at ho; exact h.rel.obj i o ho
    · exact h
  · exact h

set_option maxHeartbeats 1000000 in
theorem opW_sound (A : Agree E) {Ca : Nat → List AV → St → (AV → St → Prop) → Prop} (hCa : CaSound E Ca) (h : RF E f n Gs ws G w S a fr before) {o : Oper} (tk : Bool) (hdn : ∀ d, o.dst = some d → d < n) (hok : okDst E.C f o = true)
    (hT : ∀ t ∈ opTypes E.C o, E.C.has t = true) {K : Fr → St → Prop} (hw : opW E.C Ca f before tk o fr S K) {Q : Exit → Act → World → Prop} {next : Act → World → Prop}
    (hnext : ∀ G' w' S' a' fr', RF E f n Gs ws G' w' S' a' fr' (o :: before) → K fr' S' → next a' w') : o.wp E.P a w next Q := by
  have hv := h.frr.opdV
  -- all but alloc and box
  have hdd : (∀ t, o.op ≠ .alloc t) → (∀ t x, o.op ≠ .box t x) → ∀ d, o.dst = some d → d < n ∧ E.C.loc f d = false := fun h1 h2 d e => ⟨hdn d e, okDst_of hok h1 h2 d e⟩
  have exv : ∀ {s : Sem Value} {v : Value} {w' : World}, s.run E.P w = .ok v w' → (do pure (.value (← s)) : Sem Next).run E.P w = .ok (.value v) w' := fun hs => by
    rw [Sem.run_bind, hs]; rfl
  have exu : ∀ {s : Sem Unit} {w' : World}, s.run E.P w = .ok () w' → (do s; pure .skip : Sem Next).run E.P w = .ok .skip w' := fun hs => by
    rw [Sem.run_bind, hs]; rfl
  unfold opW at hw
  split at hw
  · -- move
    rename_i x ho
    have hd := hdd (by rw [ho]; simp) (by rw [ho]; simp)
    have hex : (execOp a.eval o).run E.P w = .ok (.value (a.eval x)) w := by simp only [execOp, ho]; rfl
    refine wp_of_value hex ?_
    have hpv : ∀ b off, opRes E.C (fun y => resolveTmp E.C f y before) o.op = some (b, off) → PtrVal a fr b off (a.eval x) := fun b off hr => by
      rw [ho] at hr
      cases x with
      | tmp y => exact h.pr y b off hr
      | _ => simp [opRes] at hr
    split at hw
    · exact h.donePtr hd (fun κ κc => .undef _) hpv hw hnext
    · split at hw
      · obtain ⟨G', k1, k2, k3⟩ := h.takeTo x o.type (o.dst.getD 0)
        refine hnext _ _ _ _ _ (k1.put (v := a.eval x) (x := opd E.C fr o.type x) hd (fun d e => ?_) (fun d _ b off hr cs hcs => ?_)) hw
        · have hd0 : o.dst.getD 0 = d := by rw [e]; rfl
          rw [hd0] at k3; exact k3
        · rw [FrR.stripAt_b] at hcs; exact hpv b off hr cs hcs
      · exact h.donePtr hd (fun κ κc => h.frr.opdStrip _ _) hpv hw hnext
  · -- assign
    rename_i x ho
    have hd := hdd (by rw [ho]; simp) (by rw [ho]; simp)
    have hex : (execOp a.eval o).run E.P w = .ok (.value (a.eval x)) w := by simp only [execOp, ho]; rfl
    refine wp_of_value hex ?_
    have hop : opRes E.C (fun y => resolveTmp E.C f y before) o.op = none := by rw [ho]; rfl
    split at hw
    · exact hw.elim
    · obtain ⟨G', k1, k2, k3⟩ := h.takeTo x o.type (o.dst.getD 0)
      refine hnext _ _ _ _ _ (k1.put (v := a.eval x) (x := opd E.C fr o.type x) hd (fun d e => ?_) (fun d _ b off hr => by rw [hop] at hr; cases hr)) hw
      have hd0 : o.dst.getD 0 = d := by rw [e]; rfl
      rw [hd0] at k3; exact k3
  · -- pick
    rename_i c x y ho
    have hd := hdd (by rw [ho]; simp) (by rw [ho]; simp)
    have hop : opRes E.C (fun y => resolveTmp E.C f y before) o.op = none := by rw [ho]; rfl
    obtain ⟨r, hr, hw⟩ := optK_some hw
    have hcv := hv 4 c
    unfold pickA at hr
    split at hr
    · rename_i hb
      cases hr
      rw [hb] at hcv
      refine wp_of_value (v := a.eval x) (w' := w) ?_ (h.done hd hop (fun κ κc => h.frr.opdStrip _ _) hw hnext)
      simp only [execOp, ho]; rw [run_pick hcv.bool_inv]; rfl
    · rename_i hb
      cases hr
      rw [hb] at hcv
      refine wp_of_value (v := a.eval y) (w' := w) ?_ (h.done hd hop (fun κ κc => h.frr.opdStrip _ _) hw hnext)
      simp only [execOp, ho]; rw [run_pick hcv.bool_inv]; rfl
    · cases hr
  · -- alloc
    rename_i t ho
    have ht : E.C.has t = true := hT t (by unfold opTypes; rw [ho]; simp [tyAnd])
    have hop : opRes E.C (fun y => resolveTmp E.C f y before) o.op = none := by rw [ho]; rfl
    split at hw
    case h_2 => exact hw.elim
    rename_i d hod
    split at hw
    · rename_i hloc
      obtain ⟨v, w', G', q1, q2⟩ := h.allocLoc A hod (hdn d hod) hloc ht
      exact wp_of_value (by simp only [execOp, ho]; exact exv q1) (hnext _ _ _ _ _ q2 hw)
    · rename_i hloc
      obtain ⟨v, w', G', q1, q2⟩ := h.allocObj A hod (hdn d hod) hloc ht hop
      exact wp_of_value (by simp only [execOp, ho]; exact exv q1) (hnext _ _ _ _ _ q2 hw)
  · -- box
    rename_i t x ho
    have hop : opRes E.C (fun y => resolveTmp E.C f y before) o.op = none := by rw [ho]; rfl
    obtain ⟨cs, hcs, hw⟩ := optK_some hw
    split at hw
    case h_2 => exact hw.elim
    rename_i d hod
    split at hw
    · rename_i hloc
      obtain ⟨v, w', G', q1, q2⟩ := h.boxLoc x hod (hdn d hod) hloc hcs
      exact wp_of_value (by simp only [execOp, ho]; exact exv q1) (hnext _ _ _ _ _ q2 hw)
    · rename_i hloc
      obtain ⟨v, w', G', q1, q2⟩ := h.boxObj x hod (hdn d hod) hloc hop hcs
      exact wp_of_value (by simp only [execOp, ho]; exact exv q1) (hnext _ _ _ _ _ q2 hw)
  · -- build
    rename_i t parts ho
    have hd := hdd (by rw [ho]; simp) (by rw [ho]; simp)
    have hop : opRes E.C (fun y => resolveTmp E.C f y before) o.op = none := by rw [ho]; rfl
    have hty : ∀ t' ∈ tyAnd E.C t, E.C.has t' = true := fun t' ht' => hT t' (by unfold opTypes; rw [ho]; simp [ht'])
    obtain ⟨r, hr, hw⟩ := optK_some hw
    obtain ⟨p1, p2⟩ := parts_rel (t := 0) hv (partTy E.C t) parts
    obtain ⟨v, q1, q2⟩ := run_buildA (w := w) A (hty t (tyAnd_self _ _)) (fun n e hk => ⟨hty e (tyAnd_array hk), by rw [hk]⟩) p1 p2 hr
    exact wp_of_value (by simp only [execOp, ho]; exact exv q1) (h.done hd hop q2 hw hnext)
  · -- buildSlice
    rename_i t len parts ho
    have hd := hdd (by rw [ho]; simp) (by rw [ho]; simp)
    have hop : opRes E.C (fun y => resolveTmp E.C f y before) o.op = none := by rw [ho]; rfl
    have hty : ∀ t' ∈ tyAnd E.C t, E.C.has t' = true := fun t' ht' => hT t' (by unfold opTypes; rw [ho]; simp [ht'])
    split at hw
    case h_2 => exact hw.elim
    rename_i e hk hrange hlen
    obtain ⟨es, hes, hw⟩ := optK_some hw
    obtain ⟨p1, p2⟩ := parts_rel (t := 0) hv (fun _ => e) parts
    obtain ⟨v, w', G', q1, q2, q3⟩ := run_buildSlice (len := len) A (hty t (tyAnd_self _ _)) (hty e (tyAnd_slice hk)) hk h p1 p2 (by rw [List.map_map]; exact of_decide_eq_true hrange) (of_decide_eq_true hlen) (es := es) (by rw [List.map_map]; exact hes)
    exact wp_of_value (by simp only [execOp, ho]; exact exv q1) (q2.done hd hop q3 hw hnext)
  · -- load
    rename_i t x ho
    have hd := hdd (by rw [ho]; simp) (by rw [ho]; simp)
    have hop : opRes E.C (fun y => resolveTmp E.C f y before) o.op = none := by rw [ho]; rfl
    have ht : E.C.has t = true := hT t (by unfold opTypes; rw [ho]; simp [tyAnd])
    split at hw
    · rename_i b off hres
      obtain ⟨r, hr, hw⟩ := optK_some hw
      obtain ⟨v, q1, q2, q3⟩ := h.loadBox A ht (h.resolved hres) hr
      refine wp_of_value (v := v) (w' := w) (by simp only [execOp, ho]; exact exv q1) ?_
      split at hw
      · rcases q3 with ⟨ds, rfl⟩ | ⟨hf, cs, blk, arr, e, c1, c2, c3, c4, c5⟩
        · have hrf : RF E f n Gs ws G w S a (fr.setB b (stripBox (fr.b b) off)) before := by
            cases hbb : fr.b b with
            | none => rw [lloadA, hbb] at hr; cases hr
            | some cs =>
              have := h.stripBoxCell hbb off
              rwa [hbb] at this
          exact hrf.done hd hop (fun κ κc => .strip0_of q2 (.inl ⟨ds, rfl⟩)) hw hnext
        · obtain ⟨G', r1, r2⟩ := h.takeBox (o.dst.getD 0) c1 c2 c3 c4 c5
          refine hnext _ _ _ _ _ (r1.put (v := v) (x := r.strip0) hd (fun d e => ?_) (fun d _ b off hx => by rw [hop] at hx; cases hx)) hw
          have hd0 : o.dst.getD 0 = d := by rw [e]; rfl
          rw [hd0] at r2; exact r2
      · exact h.done hd hop (fun κ κc => .loaded q2 (q3.elim .inr fun q => .inl q.1)) hw hnext
    · obtain ⟨r, hr, hw⟩ := optK_some hw
      obtain ⟨v, q1, q2, q3⟩ := run_loadA A h.rel ht (hv 0 x) hr
      refine wp_of_value (v := v) (w' := w) (by simp only [execOp, ho]; exact exv q1) ?_
      split at hw
      · rcases q3 with q3 | q3 | ⟨id, off, cs, b, arr, e, c0, c1, c2, c3, c4, c5, c6, c7⟩
        · exact (h.stripMem _).done hd hop (fun κ κc => .strip0_of q2 (.inl q3)) hw hnext
        · exact (h.stripMem _).done hd hop (fun κ κc => .strip0_of q2 (.inr q3)) hw hnext
        · obtain ⟨G', r1, r2⟩ := h.takeObj (o.dst.getD 0) c1 c2 c3 c4 c5 c6 c7
          rw [c0] at hw
          refine hnext _ _ _ _ _ (r1.put (v := v) (x := r.strip0) hd (fun d e => ?_) (fun d _ b off hx => by rw [hop] at hx; cases hx)) hw
          have hd0 : o.dst.getD 0 = d := by rw [e]; rfl
          rw [hd0] at r2; exact r2
      · refine h.done hd hop (fun κ κc => .loaded q2 ?_) hw hnext
        rcases q3 with q3 | q3 | ⟨id, off, cs, b, arr, e, _, _, c2, _, _, _, c6, c7⟩
        · exact .inr q3
        · exact .inl (AV.cell1.free1 q3)
        · exact .inl (c6.2 off r v c2 c7).free
  · -- store
    rename_i t x y ho
    have hd := hdd (by rw [ho]; simp) (by rw [ho]; simp)
    have hop : opRes E.C (fun y => resolveTmp E.C f y before) o.op = none := by rw [ho]; rfl
    have ht : E.C.has t = true := hT t (by unfold opTypes; rw [ho]; simp [tyAnd])
    split at hw
    · rename_i b off hres
      obtain ⟨cs, hcs, hw⟩ := optK_some hw
      obtain ⟨G', w', q1, q2⟩ := h.storeBox A ht (h.resolved hres) y hcs
      exact wp_of_skip (by simp only [execOp, ho]; exact exu q1) (q2.done hd hop (fun κ κc => .undef _) hw hnext)
    · obtain ⟨S', hS, hw⟩ := optK_some hw
      obtain ⟨G', w', q1, q2⟩ := h.storeObj A ht (hv 0 x) y hS
      exact wp_of_skip (by simp only [execOp, ho]; exact exu q1) (q2.done hd hop (fun κ κc => .undef _) hw hnext)
  · -- nilCheck
    rename_i x ho
    have hd := hdd (by rw [ho]; simp) (by rw [ho]; simp)
    split at hw
    · rename_i p hres
      obtain ⟨cs, hcs, hw⟩ := optK_some hw
      have hopp : ∀ b' off', opRes E.C (fun y => resolveTmp E.C f y before) o.op = some (b', off') → PtrVal a fr b' off' (a.eval x) := fun b' off' hx => by
        rw [ho] at hx
        cases x with
        | tmp y => exact h.pr y b' off' hx
        | _ => simp [opRes] at hx
      obtain ⟨blk, _, hval⟩ := h.resolved (b := p.1) (off := p.2) hres cs hcs
      have hex : (execOp a.eval o).run E.P w = .ok (.value (a.eval x)) w := by simp only [execOp, ho, hval]; rfl
      exact wp_of_value hex (h.donePtr hd (fun κ κc => .undef _) hopp hw hnext)
    · rename_i hres
      obtain ⟨r, hr, hw⟩ := optK_some hw
      have hop : opRes E.C (fun y => resolveTmp E.C f y before) o.op = none := by
        rw [ho]
        cases x with
        | tmp y => exact hres
        | _ => rfl
      have hxv := hv 0 x
      unfold nilA at hr
      have hex : ∀ ad, a.eval x = .pointer (some ad) → (execOp a.eval o).run E.P w = .ok (.value (a.eval x)) w := fun ad hval => by simp only [execOp, ho, hval]; rfl
      split at hr
      · rename_i id off hx
        cases hr
        rw [hx] at hxv
        generalize hval : a.eval x = vv at hxv
        cases hxv with
        | ptr _ _ b hb =>
          exact wp_of_value (hex _ hval) (h.done hd hop (fun κ κc => .of_cell1 (by rw [hval]; exact .ptr _ _ b hb) rfl) hw hnext)
      · rename_i cs off hx
        cases hr
        rw [hx] at hxv
        generalize hval : a.eval x = vv at hxv
        cases hxv with
        | ep _ b o' _ g c1 c2 c3 =>
          exact wp_of_value (hex _ hval) (h.done hd hop (fun κ κc => .of_cell1 (by rw [hval]; exact .ep _ b o' _ g c1 c2 c3) rfl) hw hnext)
      · cases hr
  · -- binOp
    rename_i op t x y u ho
    have hd := hdd (by rw [ho]; simp) (by rw [ho]; simp)
    have hop : opRes E.C (fun y => resolveTmp E.C f y before) o.op = none := by rw [ho]; rfl
    have ht : (op = .eql ∨ op = .neq) → E.C.has t = true := fun hoo => hT t (by unfold opTypes; rw [ho]; rcases hoo with rfl | rfl <;> simp [tyAnd])
    split at hw
    · obtain ⟨r, hr, hw⟩ := optK_some hw
      obtain ⟨z, q1, q2, q3⟩ := run_binA (E := E) (w := w) (t := t) (x' := x) (y' := y) (hv t x) (hv u y) hr
      exact wp_of_value (by simp only [execOp, ho]; exact exv q1) (h.done hd hop (fun κ κc => .of_cell1 q2 q3) hw hnext)
    · exact hw.elim
    · rename_i hk
      obtain ⟨r, hr, hw⟩ := optK_some hw
      have hoo : op = .eql ∨ op = .neq := by unfold binP at hr; split at hr; exact .inl rfl; exact .inr rfl; cases hr
      obtain ⟨z, q1, q2, q3⟩ := run_binP (w := w) A h.rel (ht hoo) (x' := x) (y' := y) hk (hv t x) (hv u y) hr
      exact wp_of_value (by simp only [execOp, ho]; exact exv q1) (h.done hd hop (fun κ κc => .of_cell1 q2 q3) hw hnext)
    · rename_i k hk1 hk2 hk3
      obtain ⟨r, hr, hw⟩ := optK_some hw
      have hoo : op = .eql ∨ op = .neq := by unfold binE at hr; split at hr; exact .inl rfl; exact .inr rfl; cases hr
      obtain ⟨z, q1, q2, q3⟩ := run_binE (w := w) A (ht hoo) (x' := x) (y' := y) rfl (hv t x) (hv u y) hr
      exact wp_of_value (by simp only [execOp, ho]; exact exv q1) (h.done hd hop (fun κ κc => .of_cell1 q2 q3) hw hnext)
  · -- unOp
    rename_i op t x ho
    have hd := hdd (by rw [ho]; simp) (by rw [ho]; simp)
    have hop : opRes E.C (fun y => resolveTmp E.C f y before) o.op = none := by rw [ho]; rfl
    obtain ⟨r, hr, hw⟩ := optK_some hw
    obtain ⟨z, q1, q2, q3⟩ := run_unA (E := E) (w := w) (hv t x) hr
    exact wp_of_value (by simp only [execOp, ho]; exact exv q1) (h.done hd hop (fun κ κc => .of_cell1 q2 q3) hw hnext)
  · -- convert
    rename_i src dst x ho
    have hd := hdd (by rw [ho]; simp) (by rw [ho]; simp)
    have hop : opRes E.C (fun y => resolveTmp E.C f y before) o.op = none := by rw [ho]; rfl
    have hs : E.C.has src = true := hT src (by unfold opTypes; rw [ho]; simp [tyAnd])
    have hty : ∀ t' ∈ tyAnd E.C src, E.C.has t' = true := fun t' ht' => hT t' (by unfold opTypes; rw [ho]; simp [ht'])
    have hdt : E.C.has dst = true := hT dst (by unfold opTypes; rw [ho]; simp [tyAnd])
    split at hw
    · rename_i k hk
      obtain ⟨r, hr, hw⟩ := optK_some hw
      obtain ⟨z, q1, q2, q3⟩ := run_convInt (w := w) A hs hdt hk (hv src x) hr
      exact wp_of_value (by simp only [execOp, ho]; exact exv q1) (h.done hd hop (fun κ κc => .of_cell1 q2 q3) hw hnext)
    · rename_i hk
      split at hw
      · rename_i hk'
        obtain ⟨r, hr, hw⟩ := optK_some hw
        obtain ⟨z, q1, q2, q3⟩ := run_convStr (w := w) A hs hdt hk hk' (hv src x) hr
        exact wp_of_value (by simp only [execOp, ho]; exact exv q1) (h.done hd hop (fun κ κc => .of_cell1 q2 q3) hw hnext)
      · rename_i e hk'
        split at hw
        · rename_i hk2
          obtain ⟨r, hr, hw⟩ := optK_some hw
          obtain ⟨z, q1, q2, q3⟩ := run_convBytes A h.rel hs hdt (hty e (tyAnd_slice hk')) hk hk' hk2 (hv src x) hr
          exact wp_of_value (by simp only [execOp, ho]; exact exv q1) (h.done hd hop (fun κ κc => .of_cell1 q2 q3) hw hnext)
        · exact hw.elim
      · exact hw.elim
    · exact hw.elim
  · -- makeInterface
    rename_i t x ho
    have hd := hdd (by rw [ho]; simp) (by rw [ho]; simp)
    have hop : opRes E.C (fun y => resolveTmp E.C f y before) o.op = none := by rw [ho]; rfl
    have ht : E.C.has t = true := hT t (by unfold opTypes; rw [ho]; simp [tyAnd])
    obtain ⟨r, hr, hw⟩ := optK_some hw
    unfold ifaceA at hr
    split at hr
    case isFalse => cases hr
    rename_i hc
    obtain ⟨hni, hf⟩ := hc
    cases hr
    obtain ⟨dd, hdd1, hkd⟩ := (A.ty t ht).kindU
    have hrun : (Instr.makeInterface t (a.eval x)).run E.P w = .ok (.iface t (a.eval x)) w := by
      cases dd <;> first
        | (simp [Instr.makeInterface, run_underlying hdd1]; done)
        | (exfalso; cases hkk : (E.C.ty t).kind <;> rw [hkk] at hkd hni <;> simp [kindOk, notIface] at hkd hni)
    exact wp_of_value (by simp only [execOp, ho]; exact exv hrun) (h.done hd hop (fun κ κc => .of_cell1 (.ifc t _ _ (hv t x).strip) rfl) hw hnext)
  · -- makeFunc
    rename_i g first cap ho
    have hd := hdd (by rw [ho]; simp) (by rw [ho]; simp)
    have hop : opRes E.C (fun y => resolveTmp E.C f y before) o.op = none := by rw [ho]; rfl
    obtain ⟨r, hr, hw⟩ := optK_some hw
    unfold funcA at hr
    split at hr
    case isFalse => cases hr
    cases hr
    obtain ⟨f1, f2⟩ := funcA_rel hv first
    obtain ⟨c1, c2⟩ := funcA_rel hv cap
    exact wp_of_value (v := .func (.func g) (first.map a.eval) (cap.map a.eval)) (w' := w) (by simp only [execOp, ho, Instr.makeFunc]; rfl)
      (h.done hd hop (fun κ κc => .of_cell1 (.fn g _ _ _ _ f1 c1 f2 c2) rfl) hw hnext)
  · -- makeMap
    rename_i t ho
    have hd := hdd (by rw [ho]; simp) (by rw [ho]; simp)
    have hop : opRes E.C (fun y => resolveTmp E.C f y before) o.op = none := by rw [ho]; rfl
    have hrf := h.alloc (.map #[] 0) (fun _ => none) (.obj S.length) (fun j v hj => by cases hj) (fun _ _ => rfl)
    have hrf2 := hrf.addObj (b := w.heap.size) (by simp) (.map []) ⟨w.heap.size, #[], 0, by simp [Gh.obj], by simp [Gh.obj, Gh.new], World.alloc_new w _, rfl, fun i e p hi => by simp at hi⟩
    exact wp_of_value (v := .map (some w.heap.size)) (by simp only [execOp, ho, Instr.makeMap, Option.map_none]; rfl) (hrf2.done hd hop (fun κ κc => .of_cell1 (.map _ _ (by simp [Gh.obj])) rfl) hw hnext)
  · -- makeSlice
    rename_i t l c ho
    have hd := hdd (by rw [ho]; simp) (by rw [ho]; simp)
    have hop : opRes E.C (fun y => resolveTmp E.C f y before) o.op = none := by rw [ho]; rfl
    have hty : ∀ t' ∈ tyAnd E.C t, E.C.has t' = true := fun t' ht' => hT t' (by unfold opTypes; rw [ho]; simp [ht'])
    split at hw
    case h_2 => exact hw.elim
    rename_i e hk
    obtain ⟨p, hp, hw⟩ := optK_some hw
    obtain ⟨v, w', G', q1, q2, κc, q3⟩ := h.makeSlice A (hty t (tyAnd_self _ _)) (hty e (tyAnd_slice hk)) hk (hv 3 l) (hv 3 c) hp (.slot (o.dst.getD 0)) ⟨by simp, by simp⟩
    refine wp_of_value (by simp only [execOp, ho]; exact exv q1) (hnext _ _ _ _ _ (q2.put (v := v) (x := p.1) hd (fun d e => ?_) (fun d _ b off hr => by rw [hop] at hr; cases hr)) hw)
    have hd0 : o.dst.getD 0 = d := by rw [e]; rfl
    rw [hd0] at q3
    have hnt : ∀ cs, p.1 ≠ .tup cs := by
      intro cs hcs
      unfold makeSliceA at hp
      split at hp
      · split at hp
        · split at hp <;> (cases hp; cases hcs)
        · cases hp
      · cases hp
    exact ⟨q3.vr, q3.tail, q3.agg, fun cs _ e => (hnt cs e).elim, fun cs e => (hnt cs e).elim⟩
  · -- slice
    rename_i t x lo hi mx ho
    have hd := hdd (by rw [ho]; simp) (by rw [ho]; simp)
    have hop : opRes E.C (fun y => resolveTmp E.C f y before) o.op = none := by rw [ho]; rfl
    have hty : ∀ t' ∈ tyAnd E.C t, E.C.has t' = true := fun t' ht' => hT t' (by unfold opTypes; rw [ho]; simp [ht'])
    split at hw
    · rename_i hk
      split at hw
      case h_2 => exact hw.elim
      obtain ⟨r, hr, hw⟩ := optK_some hw
      obtain ⟨z, q1, q2, q3⟩ := run_cutStr (w := w) A (hty t (tyAnd_self _ _)) hk (hv t x) (opt_VR hv lo) (opt_VR hv hi) hr
      exact wp_of_value (by simp only [execOp, ho]; exact exv q1) (h.done hd hop (fun κ κc => .of_cell1 q2 q3) hw hnext)
    · rename_i e hk
      obtain ⟨r, hr, hw⟩ := optK_some hw
      obtain ⟨G', k1, k2, k3⟩ := h.takeTo x t (o.dst.getD 0)
      have hvm : ∀ t x, VR G' (a.eval x) (opd E.C fr t x) := fun t x => (hv t x).mono k2
      obtain ⟨z, q1, q2⟩ := run_cut (w := w) A (hty t (tyAnd_self _ _)) (hty e (tyAnd_slice hk)) hk k3 (opt_VR hvm lo) (opt_VR hvm hi) (opt_VR hvm mx) hr
      refine wp_of_value (by simp only [execOp, ho]; exact exv q1) (hnext _ _ _ _ _ (k1.put (v := z) (x := r) hd (fun d e => ?_) (fun d _ b off hr => by rw [hop] at hr; cases hr)) hw)
      have hd0 : o.dst.getD 0 = d := by rw [e]; rfl
      rw [hd0] at q2; exact q2
    · exact hw.elim
  · -- fieldAddr
    rename_i t x i ho
    have hd := hdd (by rw [ho]; simp) (by rw [ho]; simp)
    have ht : E.C.has t = true := hT t (by unfold opTypes; rw [ho]; simp [tyAnd])
    split at hw
    case h_1 => exact hw.elim
    rename_i fo hfo
    split at hw
    · rename_i p hres
      obtain ⟨cs, hcs, hw⟩ := optK_some hw
      obtain ⟨blk, hblk, hval⟩ := h.resolved (b := p.1) (off := p.2) hres cs hcs
      have hrun := run_fieldAt (w := w) A ht hfo blk p.2
      rw [← hval] at hrun
      refine wp_of_value (by simp only [execOp, ho]; exact exv hrun) (h.donePtr hd (fun κ κc => .undef _) (fun b off hr => ?_) hw hnext)
      rw [ho] at hr
      cases x with
      | tmp y =>
        have hres' : resolveTmp E.C f y before = some p := hres
        obtain ⟨p1, p2⟩ := p
        simp only [opRes, hres', hfo, Option.some.injEq, Prod.mk.injEq] at hr
        obtain ⟨rfl, rfl⟩ := hr
        intro cs' hcs'
        exact ⟨blk, hblk, rfl⟩
      | _ => simp [opRes] at hr
    · rename_i hres
      obtain ⟨r, hr, hw⟩ := optK_some hw
      obtain ⟨b, o', hval, q2, q3⟩ := movePtr_spec (hv 0 x) hr
      have hrun := run_fieldAt (w := w) A ht hfo b o'
      rw [← hval] at hrun
      have hop : opRes E.C (fun y => resolveTmp E.C f y before) o.op = none := by
        rw [ho]
        cases x with
        | tmp y => simp only [opRes, show resolveTmp E.C f y before = none from hres]
        | _ => rfl
      exact wp_of_value (by simp only [execOp, ho]; exact exv hrun) (h.done hd hop (fun κ κc => .of_cell1 q2 q3) hw hnext)
  · -- field
    rename_i t x i ho
    have hd := hdd (by rw [ho]; simp) (by rw [ho]; simp)
    have hop : opRes E.C (fun y => resolveTmp E.C f y before) o.op = none := by rw [ho]; rfl
    have hty : ∀ t' ∈ tyAnd E.C t, E.C.has t' = true := fun t' ht' => hT t' (by unfold opTypes; rw [ho]; simp [ht'])
    split at hw
    case h_2 => exact hw.elim
    rename_i fs hk
    split at hw
    case h_2 => exact hw.elim
    rename_i p hp
    obtain ⟨r, hr, hw⟩ := optK_some hw
    obtain ⟨z, q1, q2, q3⟩ := run_field (w := w) A (hty t (tyAnd_self _ _)) hk hp (hty _ (tyAnd_struct hk hp)) (hv t x) hr
    exact wp_of_value (by simp only [execOp, ho]; exact exv q1) (h.done hd hop (fun κ κc => .mkstrip q2 fun ds hds => (q3 ds hds).elim) hw hnext)
  · -- indexAddr
    rename_i t x i ho
    have hd := hdd (by rw [ho]; simp) (by rw [ho]; simp)
    have hty : ∀ t' ∈ tyAnd E.C t, E.C.has t' = true := fun t' ht' => hT t' (by unfold opTypes; rw [ho]; simp [ht'])
    split at hw
    · rename_i e hk
      obtain ⟨r, hr, hw⟩ := optK_some hw
      obtain ⟨z, q1, q2, q3⟩ := run_indexAt_slice' (w := w) A (hty t (tyAnd_self _ _)) (hty e (tyAnd_slice hk)) hk (hv t x) (hv 3 i) hr
      refine wp_of_value (by simp only [execOp, ho]; exact exv q1) (h.donePtr hd (fun κ κc => .of_cell1 q2 q3) (fun b off hx => ?_) hw hnext)
      rw [ho] at hx
      unfold opRes at hx
      split at hx <;> (try (rename_i heq; cases heq)) <;> (try (cases hx; done))
      · rw [hk] at hx
        split at hx
        · rename_i h1 h2; cases h2
        · cases hx
    · rename_i m e hk
      split at hw
      · rename_i p hres
        split at hw
        case h_2 => exact hw.elim
        rename_i ki im
        split at hw
        case h_2 => exact hw.elim
        rename_i hdec
        obtain ⟨cs, hcs, hw⟩ := optK_some hw
        obtain ⟨blk, hblk, hval⟩ := h.resolved (b := p.1) (off := p.2) hres cs hcs
        have hrun := run_indexAt_array' (w := w) A (hty t (tyAnd_self _ _)) (hty e (tyAnd_array hk)) hk (b := blk) (o := p.2) (k := ki) (of_decide_eq_true hdec)
        rw [← hval] at hrun
        refine wp_of_value (v := .pointer (some ⟨blk, p.2 + im.toNat * (E.C.ty e).size, none⟩)) (w' := w) (by simp only [execOp, ho]; exact exv hrun) (h.donePtr hd (fun κ κc => .undef _) (fun b off hr => ?_) hw hnext)
        rw [ho] at hr
        cases x with
        | tmp y =>
          have hres' : resolveTmp E.C f y before = some p := hres
          obtain ⟨p1, p2⟩ := p
          simp only [opRes, hres', hk, hdec, Option.some.injEq, Prod.mk.injEq] at hr
          obtain ⟨rfl, rfl⟩ := hr
          intro cs' hcs'
          exact ⟨blk, hblk, rfl⟩
        | _ => simp [opRes] at hr
      · rename_i hres
        obtain ⟨r, hr, hw⟩ := optK_some hw
        have hop : opRes E.C (fun y => resolveTmp E.C f y before) o.op = none := by
          rw [ho]
          unfold opRes
          split <;> (try rfl)
          · rename_i heq; cases heq
          · rename_i heq
            cases heq
            simp only [show resolveTmp E.C f _ before = none from hres]
          · rename_i heq; cases heq
          · rename_i heq; cases heq
        unfold idxArA at hr
        split at hr
        case h_2 => cases hr
        rename_i ki im hi
        split at hr
        case isFalse => cases hr
        rename_i hin
        obtain ⟨b, o', hval, q2, q3⟩ := movePtr_spec (hv t x) hr
        have hiv := hv 3 i
        rw [hi] at hiv
        have hrun := run_indexAt_array' (w := w) A (hty t (tyAnd_self _ _)) (hty e (tyAnd_array hk)) hk (b := b) (o := o') (k := ki) hin
        rw [← hval, ← hiv.int_inv] at hrun
        exact wp_of_value (by simp only [execOp, ho]; exact exv hrun) (h.done hd hop (fun κ κc => .of_cell1 q2 q3) hw hnext)
    · exact hw.elim
  · -- index
    rename_i t x i ho
    have hd := hdd (by rw [ho]; simp) (by rw [ho]; simp)
    have hop : opRes E.C (fun y => resolveTmp E.C f y before) o.op = none := by rw [ho]; rfl
    have hty : ∀ t' ∈ tyAnd E.C t, E.C.has t' = true := fun t' ht' => hT t' (by unfold opTypes; rw [ho]; simp [ht'])
    split at hw
    · rename_i hk
      obtain ⟨r, hr, hw⟩ := optK_some hw
      obtain ⟨z, q1, q2, q3⟩ := run_index_str (w := w) A (hty t (tyAnd_self _ _)) hk (hv t x) (hv 3 i) hr
      exact wp_of_value (by simp only [execOp, ho]; exact exv q1) (h.done hd hop (fun κ κc => .of_cell1 q2 q3) hw hnext)
    · rename_i m e hk
      obtain ⟨r, hr, hw⟩ := optK_some hw
      obtain ⟨z, q1, q2, q3⟩ := run_index_array (w := w) A (hty t (tyAnd_self _ _)) (hty e (tyAnd_array hk)) hk (hv t x) (hv 3 i) hr
      exact wp_of_value (by simp only [execOp, ho]; exact exv q1) (h.done hd hop (fun κ κc => .mkstrip q2 fun ds hds => (q3 ds hds).elim) hw hnext)
    · exact hw.elim
  · -- lookup
    rename_i t x i ok ho
    have hd := hdd (by rw [ho]; simp) (by rw [ho]; simp)
    have hop : opRes E.C (fun y => resolveTmp E.C f y before) o.op = none := by rw [ho]; rfl
    have hty : ∀ t' ∈ tyAnd E.C t, E.C.has t' = true := fun t' ht' => hT t' (by unfold opTypes; rw [ho]; simp [ht'])
    split at hw
    case h_2 => exact hw.elim
    rename_i k e hk
    split at hw
    case h_2 => exact hw.elim
    rename_i g hg
    obtain ⟨p, hp, hw⟩ := optK_some hw
    obtain ⟨z, q1, q2⟩ := run_lookup A h.rel (hty t (tyAnd_self _ _)) (hty k (tyAnd_map hk).1) (hty e (tyAnd_map hk).2) hk hg (hv t x) (hv k i) hp ok
    split at hw
    · refine wp_of_value (by simp only [execOp, ho]; exact exv q1) (h.done hd hop (fun κ κc => ?_) hw hnext)
      have hq := q2 .ext (fun _ => .ext)
      refine ⟨.tup _ #[z, .bool p.2] rfl fun j y u hy hu => ?_, .of_not rfl, by simp, fun cs vs e1 e2 j y u hy hu => ?_, fun cs e1 y hy => ?_⟩
      · match j with
        | 0 => simp at hy hu; subst hy hu; exact hq.vr
        | 1 => simp at hy hu; subst hy hu; exact .bool _
        | j + 2 => simp at hy
      · cases e1; cases e2
        match j with
        | 0 => simp at hy hu; subst hy hu; exact (q2 (κc 0) κc).tail
        | 1 => simp at hy hu; subst hy hu; exact .of_not rfl
        | j + 2 => simp at hy
      · cases e1
        simp only [List.mem_cons, List.not_mem_nil, or_false] at hy
        rcases hy with rfl | rfl
        · refine ⟨fun ds e2 => hq.agg ds e2, fun ds e2 => ?_⟩
          exact lookupA_noTup (A := A) (hty e (tyAnd_map hk).2) hp h.rel ds e2
        · exact ⟨by simp, by simp⟩
    · exact wp_of_value (by simp only [execOp, ho]; exact exv q1) (h.done hd hop q2 hw hnext)
  · -- mapUpdate
    rename_i t m k x ho
    have hd := hdd (by rw [ho]; simp) (by rw [ho]; simp)
    have hop : opRes E.C (fun y => resolveTmp E.C f y before) o.op = none := by rw [ho]; rfl
    have hty : ∀ t' ∈ tyAnd E.C t, E.C.has t' = true := fun t' ht' => hT t' (by unfold opTypes; rw [ho]; simp [ht'])
    split at hw
    case h_2 => exact hw.elim
    rename_i kt et hk
    split at hw
    case h_2 => exact hw.elim
    rename_i g hg
    obtain ⟨S', hS, hw⟩ := optK_some hw
    obtain ⟨w', q1, q2⟩ := h.mapUpdate A (hty t (tyAnd_self _ _)) (hty kt (tyAnd_map hk).1) hk hg (hv t m) (hv kt k) (hv et x) hS
    exact wp_of_skip (by simp only [execOp, ho]; exact exu q1) (q2.done hd hop (fun κ κc => .undef _) hw hnext)
  · -- extract
    rename_i t i ho
    have hd := hdd (by rw [ho]; simp) (by rw [ho]; simp)
    have hop : opRes E.C (fun y => resolveTmp E.C f y before) o.op = none := by rw [ho]; rfl
    obtain ⟨r, hr, hw⟩ := optK_some hw
    obtain ⟨G', v, k1, k2, k3⟩ := h.takeComp t i (o.dst.getD 0) hr
    refine wp_of_value (v := v) (w' := w) (by simp only [execOp, ho]; exact exv k2) (hnext _ _ _ _ _ (k1.put (v := v) (x := r) hd (fun d e => ?_) (fun d _ b off hr => by rw [hop] at hr; cases hr)) hw)
    have hd0 : o.dst.getD 0 = d := by rw [e]; rfl
    rw [hd0] at k3; exact k3
  · -- call
    rename_i c ho
    exact callW_sound A hCa h ho (hdd (by rw [ho]; simp) (by rw [ho]; simp)) hT hw hnext
  · exact hw.elim
end Go.Av
