/- A part of the proof of a law of this seat: Every operation: what the transformer says is what the model does. No condition. -/
import Derived.Test.YtcmiahkfbnojnaaA14
set_option linter.all false
set_option linter.unusedVariables false
set_option linter.unusedSimpArgs false
/-! Every operation: what the transformer says is what the model does. -/
namespace Go.Av
variable {E : Env} {f n : Nat} {Gs G : Gh} {ws w : World} {S : St} {a : Act} {fr : Fr} {before : List Oper}

/-- What stands for calls is sound. -/
def CaSound (E : Env) (Ca : Nat → List AV → St → (AV → St → Prop) → Prop) : Prop := ∀ g as S Q, Ca g as S Q → ACalls E g as S Q

theorem RF.resolved (h : RF E f n Gs ws G w S a fr before) {x : Operand} {b off : Nat} (hr : resolve E.C f before x = some (b, off)) : PtrVal a fr b off (a.eval x) := by
  cases x with
  | tmp x => exact h.pr x b off hr
  | _ => simp [resolve] at hr
theorem opRes_tmp {C : Ctx} {f : Nat} {before : List Oper} {x : Operand} (hr : resolve C f before x = none) : ∀ y, x = .tmp y → resolveTmp C f y before = none := by
  rintro y rfl; exact hr

section
variable {o : Oper} {Q : Exit → Act → World → Prop} {next : Act → World → Prop}
theorem wp_of_value {v : Value} {w' : World} (hr : (execOp a.eval o).run E.P w = .ok (.value v) w') (h : next (a.put o.dst v) w') : o.wp E.P a w next Q := by
  unfold Oper.wp; rw [hr]; exact h
theorem wp_of_skip {w' : World} (hr : (execOp a.eval o).run E.P w = .ok .skip w') (h : next (a.put o.dst undef) w') : o.wp E.P a w next Q := by
  unfold Oper.wp; rw [hr]; exact h
theorem wp_of_enter {g : Nat} {args : Array Value} {w' : World} (hr : (execOp a.eval o).run E.P w = .ok (.enter g args) w') (h : Calls E.P g args w' fun e w'' => ∃ v, e = .returned v ∧ next (a.put o.dst v) w'') : o.wp E.P a w next Q := by
  unfold Oper.wp; rw [hr]
  refine h.mono fun e w'' => ?_
  rintro ⟨v, rfl, hn⟩; exact hn
end

theorem optK_some {α : Type} {x : Option α} {k : α → Prop} (h : optK x k) : ∃ y, x = some y ∧ k y := by
  cases x with
  | none => exact h.elim
  | some y => exact ⟨y, rfl, h⟩

theorem okDst_of {C : Ctx} {f : Nat} {o : Oper} (h : okDst C f o = true) (h1 : ∀ t, o.op ≠ .alloc t) (h2 : ∀ t x, o.op ≠ .box t x) : ∀ d, o.dst = some d → C.loc f d = false := by
  intro d hd
  revert h
  unfold okDst
  rw [hd]
  cases hop : o.op with
  | alloc t => exact (h1 t hop).elim
  | box t x => exact (h2 t x hop).elim
  | _ =>
    intro h
    simp only at h
    cases hl : C.loc f d with
    | false => rfl
    | true => rw [hl] at h; cases h

theorem zip_vals {G : Gh} {C : Ctx} (hv : ∀ t x, VR G (a.eval x) (opd C fr t x)) : ∀ {ts : List Nat} {xs : List Operand}, ts.length = xs.length →
    ((ts.zip xs).map fun p => opd C fr p.1 p.2).length = xs.length ∧ ∀ (i : Nat) (y : AV) (v : Value), ((ts.zip xs).map fun p => opd C fr p.1 p.2)[i]? = some y → (xs.map a.eval)[i]? = some v → VR G v y := by
  intro ts xs hl
  refine ⟨by simp [hl], fun i y v hy hv' => ?_⟩
  simp only [List.getElem?_map, Option.map_eq_some_iff] at hy hv'
  obtain ⟨p, hp, rfl⟩ := hy
  obtain ⟨x, hx, rfl⟩ := hv'
  rw [List.getElem?_zip_eq_some] at hp
  rw [hx] at hp
  simp only [Option.some.injEq] at hp
  rw [← hp.2]; exact hv _ _

theorem run_callFunc {P : Program} {w : World} {g : Nat} (h : ∃ fn, P.funcs[g]? = some fn ∧ fn.body.isNone = false ∧ (fn.name == "runtime.NumGoroutine") = false) (args : Array Value) : (callFunc g args).run P w = .ok (.enter g args) w := by
  obtain ⟨fn, h1, h2, h3⟩ := h
  simp only [callFunc, Sem.run_bind, run_program, Result.andThen_ok, h1]
  rw [if_neg (by rw [h3]; simp), if_neg (by rw [h2]; simp)]
  rfl

/-- The arguments of a call. -/
theorem args_ok {G : Gh} {as bs : List AV} (hb : argsA as = some bs) {vs : Array Value} (hl : vs.size = as.length) (hv : ∀ (i : Nat) (y : AV) (v : Value), as[i]? = some y → vs[i]? = some v → VR G v y) :
    vs.size = bs.length ∧ ∀ (i : Nat) (x : AV) (v : Value), bs[i]? = some x → vs[i]? = some v → VR G v x ∧ x.free = true ∧ x.strip = x := by
  obtain ⟨h1, h2⟩ := argsA_spec hb
  refine ⟨by omega, fun i x v hx hv' => ?_⟩
  obtain ⟨y, hy, hf, rfl⟩ := h2 i x hx
  exact ⟨(hv i y v hy hv').strip, AV.strip_free hf, AV.strip_strip hf⟩

theorem appendVals {G : Gh} {xs ys : List AV} {us vs : Array Value} (h1 : us.size = xs.length) (h2 : ∀ (i : Nat) (x : AV) (v : Value), xs[i]? = some x → us[i]? = some v → VR G v x)
    (h4 : ∀ (i : Nat) (x : AV) (v : Value), ys[i]? = some x → vs[i]? = some v → VR G v x) : ∀ (i : Nat) (x : AV) (v : Value), (xs ++ ys)[i]? = some x → (us ++ vs)[i]? = some v → VR G v x := by
  intro i x v hx hv
  by_cases e : i < xs.length
  · rw [List.getElem?_append_left e] at hx
    rw [Array.getElem?_append_left (by omega)] at hv
    exact h2 i x v hx hv
  · rw [List.getElem?_append_right (by omega)] at hx
    rw [Array.getElem?_append_right (by omega), h1] at hv
    exact h4 _ x v hx hv

theorem opTypes_builtin {C : Ctx} {o : Oper} {c : Call} {b : Builtin} (ho : o.op = .call c) (hg : c.callee = .builtin b) : ∀ t ∈ c.argTypes.toList, ∀ t' ∈ tyAnd C t, t' ∈ opTypes C o := by
  intro t ht t' ht'
  obtain ⟨callee, args, argTypes⟩ := c
  simp only at hg
  subst hg
  unfold opTypes
  rw [ho]
  exact List.mem_flatMap.2 ⟨t, ht, ht'⟩
theorem tyAnd_self (C : Ctx) (t : Nat) : t ∈ tyAnd C t := by simp [tyAnd]
theorem tyAnd_slice {C : Ctx} {t e : Nat} (h : (C.ty t).kind = .slice e) : e ∈ tyAnd C t := by simp [tyAnd, h]
theorem tyAnd_array {C : Ctx} {t n e : Nat} (h : (C.ty t).kind = .array n e) : e ∈ tyAnd C t := by simp [tyAnd, h]
theorem tyAnd_map {C : Ctx} {t k e : Nat} (h : (C.ty t).kind = .map k e) : k ∈ tyAnd C t ∧ e ∈ tyAnd C t := by simp [tyAnd, h]
theorem tyAnd_struct {C : Ctx} {t : Nat} {fs : List (Nat × Nat × Nat)} (h : (C.ty t).kind = .struct fs) {i : Nat} {p : Nat × Nat × Nat} (hp : fs[i]? = some p) : p.2.1 ∈ tyAnd C t := by
  simp only [tyAnd, h]
  exact List.mem_cons_of_mem _ (List.mem_map.2 ⟨p, List.mem_of_getElem? hp, rfl⟩)
theorem exec_builtin {P : Program} {w : World} {ρ : Operand → Value} {o : Oper} {c : Call} {b : Builtin} (ho : o.op = .call c) (hg : c.callee = .builtin b) :
    ∃ cs, (execOp ρ o).run P w = (builtin b c.argTypes o.type cs (c.args.map ρ)).run P w :=
  ⟨c.args.map fun | .const _ => true | _ => false, by simp only [execOp, ho, Go.resolve, hg, Sem.run_bind, Sem.run_pure, Result.andThen_ok, invoke]; rfl⟩
theorem toArray_of {α : Type} {xs : Array α} {l : List α} (h : xs.toList = l) : xs = l.toArray := by rw [← h]

/-- What the key .ret holds goes to the slot d. -/
def mvRet (d : Nat) : Key → Key
  | .ret => .slot d
  | .retc i => .slotc d i
  | κ => κ
theorem RF.fromRet (h : RF E f n Gs ws G w S a fr before) (d : Nat) {v : Value} {x : AV} (hv : ValR G w .ret .retc v x) :
    RF E f n Gs ws (G.relabel (mvRet d)) w S a fr before ∧ ValR (G.relabel (mvRet d)) w (.slot d) (.slotc d) v x := by
  refine ⟨⟨h.rel.relabel rfl (fun κ id e => by cases κ <;> simp [mvRet] at e <;> simp [e]) (fun κ t e => by cases κ <;> simp [mvRet] at e <;> simp [e]) (fun _ => rfl) (fun _ _ => rfl),
    ⟨h.frr.defers, h.frr.size, fun t => ((h.frr.slot t).relabel (f := mvRet d)).rekey rfl (fun _ => rfl), fun t cs hb => ?_⟩, h.kept.relabel rfl, h.pr⟩, (hv.relabel (f := mvRet d)).rekey rfl (fun _ => rfl)⟩
  obtain ⟨h1, b, arr, e, h2, h3, h4, h5⟩ := h.frr.box t cs hb
  exact ⟨h1, b, arr, e, h2, by simp [Gh.relabel, h3, mvRet], h4, h5.relabel.rekey fun j => rfl⟩

/-- At the end of an operation that yields a value. -/
theorem RF.done (h : RF E f n Gs ws G w S a fr before) {o : Oper} (hd : ∀ d, o.dst = some d → d < n ∧ E.C.loc f d = false) (hop : opRes E.C (fun y => resolveTmp E.C f y before) o.op = none) {v : Value} {x : AV}
    (hv : ∀ κ κc, ValR G w κ κc v x) {K : Fr → St → Prop} {next : Act → World → Prop} (hk : K (fr.put o.dst x) S)
    (hnext : ∀ G' w' S' a' fr', RF E f n Gs ws G' w' S' a' fr' (o :: before) → K fr' S' → next a' w') : next (a.put o.dst v) w :=
  hnext _ _ _ _ _ (h.put (v := v) (x := x) hd (fun d _ => hv _ _) (fun d _ b off hx => by rw [hop] at hx; cases hx)) hk

theorem callW_sound (A : Agree E) {Ca : Nat → List AV → St → (AV → St → Prop) → Prop} (hCa : CaSound E Ca) (h : RF E f n Gs ws G w S a fr before) {o : Oper} {c : Call} (ho : o.op = .call c) (hd : ∀ d, o.dst = some d → d < n ∧ E.C.loc f d = false)
    (hT : ∀ t ∈ opTypes E.C o, E.C.has t = true) {K : Fr → St → Prop} (hw : callW E.C Ca c o.type o.dst fr S K) {Q : Exit → Act → World → Prop} {next : Act → World → Prop}
    (hnext : ∀ G' w' S' a' fr', RF E f n Gs ws G' w' S' a' fr' (o :: before) → K fr' S' → next a' w') : o.wp E.P a w next Q := by
  have hop : opRes E.C (fun y => resolveTmp E.C f y before) o.op = none := by rw [ho]; rfl
  have hv := h.frr.opdV
  unfold callW at hw
  split at hw
  · -- a function by name
    rename_i g hg
    split at hw
    case h_2 => exact hw.elim
    rename_i hsz
    have hsz' : c.argTypes.toList.length = c.args.toList.length := by simpa using Nat.eq_of_beq_eq_true hsz
    obtain ⟨bs, hbs, hw⟩ := optK_some hw
    obtain ⟨z1, z2⟩ := zip_vals (G := G) (C := E.C) hv hsz'
    have hcs := hCa _ _ _ _ hw
    obtain ⟨k1, k2⟩ := args_ok (vs := c.args.map a.eval) hbs (by rw [z1]; simp) (fun i y v hy hv' => z2 i y v hy (by simpa using hv'))
    refine wp_of_enter (g := g) (args := c.args.map a.eval) (w' := w) ?_ ((h.called hcs k1 k2 hd hop).mono fun e w' => ?_)
    · simp only [execOp, ho, Go.resolve, hg, Act.eval, Deferred.ofValue, Sem.run_bind, Sem.run_pure, Result.andThen_ok, invoke]
      rw [run_callFunc hcs.1]
      simp
    · rintro ⟨v, r, S', G', rfl, hq, hrf⟩
      exact ⟨v, rfl, hnext _ _ _ _ _ hrf hq⟩
  · -- a function value
    rename_i g hgn hg
    split at hw
    case h_2 => exact hw.elim
    rename_i hsz
    have hsz' : c.argTypes.toList.length = c.args.toList.length := by simpa using Nat.eq_of_beq_eq_true hsz
    obtain ⟨p, hp, hw⟩ := optK_some hw
    obtain ⟨z1, z2⟩ := zip_vals (G := G) (C := E.C) hv hsz'
    have hgv := hv 0 g
    unfold calleeA at hp
    split at hp
    case h_2 => cases hp
    rename_i gi first cap hfn
    rw [hfn] at hgv
    rw [Option.map_eq_some_iff] at hp
    obtain ⟨bs, hbs, rfl⟩ := hp
    generalize hge : a.eval g = gv at hgv
    cases hgv with
    | fn _ _ _ first' cap' q1 q2 q3 q4 =>
      have hcs := hCa _ _ _ _ hw
      obtain ⟨k1, k2⟩ := args_ok (vs := first' ++ c.args.map a.eval ++ cap') hbs (by simp [q1, q2, z1])
        (appendVals (by simp [q1, z1]) (appendVals q1 q3 (fun i y v hy hv' => z2 i y v hy (by simpa using hv'))) q4)
      refine wp_of_enter (g := gi) (args := first' ++ c.args.map a.eval ++ cap') (w' := w) ?_ ((h.called hcs k1 k2 hd hop).mono fun e w' => ?_)
      · simp only [execOp, ho, Go.resolve, hg, hge, Deferred.ofValue, Sem.run_bind, Sem.run_pure, Result.andThen_ok, invoke]
        rw [run_callFunc hcs.1]
      · rintro ⟨v, r, S', G', rfl, hq, hrf⟩
        exact ⟨v, rfl, hnext _ _ _ _ _ hrf hq⟩
  · -- a method of an interface
    rename_i r m hg
    split at hw
    case h_2 => exact hw.elim
    rename_i hsz
    have hsz' : c.argTypes.toList.length = c.args.toList.length := by simpa using Nat.eq_of_beq_eq_true hsz
    obtain ⟨p, hp, hw⟩ := optK_some hw
    obtain ⟨z1, z2⟩ := zip_vals (G := G) (C := E.C) hv hsz'
    have hgv := hv 0 r
    unfold invokeA at hp
    split at hp
    case h_2 => cases hp
    rename_i t x hfn
    rw [hfn] at hgv
    rw [Option.bind_eq_some_iff] at hp
    obtain ⟨gi, hgi, hp⟩ := hp
    rw [Option.map_eq_some_iff] at hp
    obtain ⟨bs, hbs, rfl⟩ := hp
    generalize hge : a.eval r = gv at hgv
    cases hgv with
    | ifc _ u _ hu =>
      have hcs := hCa _ _ _ _ hw
      obtain ⟨k1, k2⟩ := args_ok (vs := #[u] ++ c.args.map a.eval) hbs (by simp [z1]; omega)
        (appendVals (xs := [x]) (us := #[u]) rfl (fun i y v hy hv' => by
          cases i with
          | zero => simp at hy hv'; subst hy hv'; exact hu
          | succ i => simp at hy) (fun i y v hy hv' => z2 i y v hy (by simpa using hv')))
      refine wp_of_enter (g := gi) (args := #[u] ++ c.args.map a.eval) (w' := w) ?_ ((h.called hcs k1 k2 hd hop).mono fun e w' => ?_)
      · have hm := A.meth t m gi hgi u w
        have hx : (#[Value.iface t u] ++ c.args.map a.eval).extract 1 (#[Value.iface t u] ++ c.args.map a.eval).size = c.args.map a.eval := by
          apply Array.ext'
          simp [List.take_of_length_le]
        have h0 : (#[Value.iface t u] ++ c.args.map a.eval)[0]? = some (Value.iface t u) := by rw [Array.getElem?_append_left (by simp)]; rfl
        simp only [execOp, ho, Go.resolve, hg, hge, Sem.run_bind, Sem.run_pure, Result.andThen_ok, invoke, h0, hx, callMethod, run_program, hm]
        rw [run_callFunc hcs.1]
      · rintro ⟨v, r, S', G', rfl, hq, hrf⟩
        exact ⟨v, rfl, hnext _ _ _ _ _ hrf hq⟩
  · -- a builtin function
    rename_i b hg
    obtain ⟨cns, hexec⟩ := exec_builtin (P := E.P) (w := w) (ρ := a.eval) ho hg
    have hTy := opTypes_builtin (C := E.C) ho hg
    split at hw
    · -- one argument
      rename_i t x hts hxs
      have ht : E.C.has t = true := hT _ (hTy t (by rw [hts]; simp) t (tyAnd_self _ _))
      have e1 := toArray_of hts
      have e2 := toArray_of hxs
      rw [e1, e2] at hexec
      simp only [List.map_toArray, List.map_cons, List.map_nil] at hexec
      split at hw
      · split at hw
        · rename_i hk
          obtain ⟨r, hr, hw⟩ := optK_some hw
          obtain ⟨z, q1, q2, q3⟩ := run_lenStr (w := w) (ty := o.type) A ht hk (hv t x) hr
          refine wp_of_value (v := z) (w' := w) ?_ (h.done hd hop (fun κ κc => .of_cell1 q2 q3) hw hnext)
          rw [hexec]; simp only [builtin, Sem.run_bind, q1, Result.andThen_ok, Sem.run_pure]
        · rename_i e hk
          obtain ⟨r, hr, hw⟩ := optK_some hw
          obtain ⟨z, q1, q2, q3⟩ := run_lenSl (w := w) (ty := o.type) A ht hk (hv t x) hr
          refine wp_of_value (v := z) (w' := w) ?_ (h.done hd hop (fun κ κc => .of_cell1 q2 q3) hw hnext)
          rw [hexec]; simp only [builtin, Sem.run_bind, q1, Result.andThen_ok, Sem.run_pure]
        · rename_i k e hk
          obtain ⟨r, hr, hw⟩ := optK_some hw
          obtain ⟨z, q1, q2, q3⟩ := run_lenMap (ty := o.type) A h.rel ht hk (hv t x) hr
          refine wp_of_value (v := z) (w' := w) ?_ (h.done hd hop (fun κ κc => .of_cell1 q2 q3) hw hnext)
          rw [hexec]; simp only [builtin, Sem.run_bind, q1, Result.andThen_ok, Sem.run_pure]
        · exact hw.elim
      · exact hw.elim
    · -- two arguments
      rename_i t u x y hts hxs
      have ht : E.C.has t = true := hT _ (hTy t (by rw [hts]; simp) t (tyAnd_self _ _))
      have hu : E.C.has u = true := hT _ (hTy u (by rw [hts]; simp) u (tyAnd_self _ _))
      have hand : ∀ t' ∈ tyAnd E.C t, E.C.has t' = true := fun t' ht' => hT _ (hTy t (by rw [hts]; simp) t' ht')
      have e1 := toArray_of hts
      have e2 := toArray_of hxs
      rw [e1, e2] at hexec
      simp only [List.map_toArray, List.map_cons, List.map_nil] at hexec
      split at hw
      · obtain ⟨r, hr, hw⟩ := optK_some hw
        obtain ⟨z, q1, q2, q3⟩ := run_min (E := E) (w := w) (ats := #[t, u]) (ty := o.type) (hv t x) (hv u y) hr
        refine wp_of_value (v := z) (w' := w) ?_ (h.done hd hop (fun κ κc => .of_cell1 q2 q3) hw hnext)
        rw [hexec]; simp only [builtin, Sem.run_bind, q1, Result.andThen_ok, Sem.run_pure]
      · obtain ⟨r, hr, hw⟩ := optK_some hw
        obtain ⟨z, q1, q2, q3⟩ := run_max (E := E) (w := w) (ats := #[t, u]) (ty := o.type) (hv t x) (hv u y) hr
        refine wp_of_value (v := z) (w' := w) ?_ (h.done hd hop (fun κ κc => .of_cell1 q2 q3) hw hnext)
        rw [hexec]; simp only [builtin, Sem.run_bind, q1, Result.andThen_ok, Sem.run_pure]
      · -- append
        split at hw
        case h_2 => exact hw.elim
        rename_i e hk hku
        have he : E.C.has e = true := hand e (tyAnd_slice hk)
        split at hw
        · obtain ⟨p, hp, hw⟩ := optK_some hw
          obtain ⟨G1, k1, k2, k3⟩ := h.takeTo x t (o.dst.getD 0)
          obtain ⟨v', w', G', q1, q2, κc, q3⟩ := k1.appendR (u := u) (ty := o.type) A ht hu he hk hku k3 ((hv u y).mono k2) hp
          refine wp_of_value (v := v') (w' := w') (by rw [hexec]; simp only [builtin, Sem.run_bind, q1, Result.andThen_ok, Sem.run_pure]) ?_
          refine hnext _ _ _ _ _ (q2.put (v := v') (x := p.1) hd (fun d e => ?_) (fun d _ b off hx => by rw [hop] at hx; cases hx)) hw
          have hnt : ∀ cs, p.1 ≠ .tup cs := by
            intro cs hcs
            rw [hcs] at q3
            have hvr := q3.vr
            unfold Av.appendR at hp
            rw [Option.bind_eq_some_iff] at hp
            obtain ⟨ys, _, hp⟩ := hp
            split at hp
            · split at hp
              · rename_i heq
                simp only [Option.some.injEq] at hp
                subst hp
                rw [heq] at hcs; cases hcs
              · rename_i heq
                simp only [Option.some.injEq] at hp
                subst hp
                rw [heq] at hcs; cases hcs
              · cases hp
            · split at hp
              · split at hp
                · cases hp; cases hcs
                · cases hp
              · rw [Option.bind_eq_some_iff] at hp
                obtain ⟨_, _, hp⟩ := hp
                split at hp
                · cases hp; cases hcs
                · cases hp
              · cases hp
          have hd0 : o.dst.getD 0 = d := by rw [e]; rfl
          rw [hd0] at q3
          exact ⟨q3.vr, q3.tail, q3.agg, fun cs _ e => (hnt cs e).elim, fun cs e => (hnt cs e).elim⟩
        · obtain ⟨r, hr, hw⟩ := optK_some hw
          obtain ⟨G1, κc, k1, k2, k3, _⟩ := h.giveTo x t (κ := .ret) (by simp) (by simp)
          obtain ⟨v', w', G', q1, q2, q3⟩ := k1.append (u := u) (ty := o.type) A ht hu he hk hku k3 ((hv u y).mono k2) hr
          refine wp_of_value (v := v') (w' := w') (by rw [hexec]; simp only [builtin, Sem.run_bind, q1, Result.andThen_ok, Sem.run_pure]) ?_
          obtain ⟨r1, r2⟩ := q2.fromRet (o.dst.getD 0) (q3 (fun i => .retc i))
          refine hnext _ _ _ _ _ (r1.put (v := v') (x := r) hd (fun d e => ?_) (fun d _ b off hx => by rw [hop] at hx; cases hx)) hw
          have hd0 : o.dst.getD 0 = d := by rw [e]; rfl
          exact r2.rekey (by rw [hd0]) (fun i => by rw [hd0])
      · -- copy
        split at hw
        case h_2 => exact hw.elim
        rename_i e hk
        have he : E.C.has e = true := hand e (tyAnd_slice hk)
        obtain ⟨p, hp, hw⟩ := optK_some hw
        obtain ⟨v', w', q1, q2, q3, q4⟩ := h.copy (u := u) (ty := o.type) A ht he hk (hv t x) (hv u y) hp
        refine wp_of_value (v := v') (w' := w') (by rw [hexec]; simp only [builtin, Sem.run_bind, q1, Result.andThen_ok, Sem.run_pure]) (q2.done hd hop (fun κ κc => .of_cell1 q3 q4) hw hnext)
      · -- delete
        split at hw
        case h_2 => exact hw.elim
        rename_i k e hk
        split at hw
        case h_2 => exact hw.elim
        rename_i g hg2
        have hkk : E.C.has k = true := hand k (tyAnd_map hk).1
        obtain ⟨S', hS, hw⟩ := optK_some hw
        obtain ⟨w', q1, q2⟩ := h.delete (ty := o.type) (u2 := u) A ht hkk hk hg2 (hv t x) (hv u y) hS
        refine wp_of_value (v := .tuple #[]) (w' := w') (by rw [hexec]; simp only [builtin, Sem.run_bind, q1, Result.andThen_ok, Sem.run_pure]) (q2.done hd hop (fun κ κc => .undef _) hw hnext)
      · exact hw.elim
    · -- three arguments
      rename_i t u t3 x y z hts hxs
      have e1 := toArray_of hts
      have e2 := toArray_of hxs
      rw [e1, e2] at hexec
      simp only [List.map_toArray, List.map_cons, List.map_nil] at hexec
      split at hw
      · obtain ⟨r, hr, hw⟩ := optK_some hw
        obtain ⟨zz, q1, q2, q3⟩ := run_max3 (E := E) (w := w) (ats := #[t, u, t3]) (ty := o.type) (hv t x) (hv u y) (hv t z) hr
        refine wp_of_value (v := zz) (w' := w) ?_ (h.done hd hop (fun κ κc => .of_cell1 q2 q3) hw hnext)
        rw [hexec]; simp only [builtin, Sem.run_bind, q1, Result.andThen_ok, Sem.run_pure]
      · exact hw.elim
    · exact hw.elim
end Go.Av
