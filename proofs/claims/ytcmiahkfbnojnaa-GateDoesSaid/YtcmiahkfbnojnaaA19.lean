/- A part of the proof of a law of this seat: A whole function. No condition. -/
import Derived.Test.YtcmiahkfbnojnaaA18
set_option linter.all false
set_option linter.unusedVariables false
set_option linter.unusedSimpArgs false
/-! A whole function. -/
namespace Go.Av
variable {E : Env} {f n : Nat} {Gs G : Gh} {ws w : World} {S : St} {a : Act} {fr : Fr} {before : List Oper}

def resOne (tmps : Array Value) : ResultVar → Sem Value
  | .tmp t => pure (tmps.getD t undef)
  | .cell a t => do loadVar t (← asAddr (tmps.getD a undef))
def pack : List AV → AV
  | [x] => x
  | xs => .tup (xs.map AV.flat)

theorem resK_pack {C : Ctx} {rs : List ResultVar} {Q : AV → Prop} (h : resK C rs fr Q) : ∃ xs : List AV, xs.length = rs.length ∧ (∀ (i : Nat) (r : ResultVar) (x : AV), rs[i]? = some r → xs[i]? = some x → resA C fr r = some x) ∧ Q (pack xs) := by
  unfold resK at h
  split at h
  · rename_i r
    obtain ⟨x, hx, h⟩ := optK_some h
    refine ⟨[x], rfl, fun i r' x' h1 h2 => ?_, h⟩
    cases i with
    | zero => simp at h1 h2; subst h1 h2; exact hx
    | succ i => simp at h1
  · exact ⟨[], rfl, fun i r x h1 => by simp at h1, h⟩
  · rename_i r r2
    obtain ⟨x, hx, h⟩ := optK_some h
    obtain ⟨x2, hx2, h⟩ := optK_some h
    refine ⟨[x, x2], rfl, fun i r' x' h1 h2 => ?_, h⟩
    match i with
    | 0 => simp at h1 h2; subst h1 h2; exact hx
    | 1 => simp at h1 h2; subst h1 h2; exact hx2
    | i + 2 => simp at h1
  · rename_i r r2 r3
    obtain ⟨x, hx, h⟩ := optK_some h
    obtain ⟨x2, hx2, h⟩ := optK_some h
    obtain ⟨x3, hx3, h⟩ := optK_some h
    refine ⟨[x, x2, x3], rfl, fun i r' x' h1 h2 => ?_, h⟩
    match i with
    | 0 => simp at h1 h2; subst h1 h2; exact hx
    | 1 => simp at h1 h2; subst h1 h2; exact hx2
    | 2 => simp at h1 h2; subst h1 h2; exact hx3
    | i + 3 => simp at h1
  · rename_i r r2 r3 r4
    obtain ⟨x, hx, h⟩ := optK_some h
    obtain ⟨x2, hx2, h⟩ := optK_some h
    obtain ⟨x3, hx3, h⟩ := optK_some h
    obtain ⟨x4, hx4, h⟩ := optK_some h
    refine ⟨[x, x2, x3, x4], rfl, fun i r' x' h1 h2 => ?_, h⟩
    match i with
    | 0 => simp at h1 h2; subst h1 h2; exact hx
    | 1 => simp at h1 h2; subst h1 h2; exact hx2
    | 2 => simp at h1 h2; subst h1 h2; exact hx3
    | 3 => simp at h1 h2; subst h1 h2; exact hx4
    | i + 4 => simp at h1
  · exact h.elim

def ResVal (G : Gh) (w : World) (v : Value) (x : AV) : ResultVar → Prop
  | .tmp t => ValR G w (.slot t) (.slotc t) v x
  | .cell _ _ => VR G v x ∧ (∀ cs, x ≠ .tup cs) ∧ x.own = false ∧ ∀ cs, x = .agg cs → ∀ c ∈ cs, c.own = false
theorem list_choose {R : ResultVar → AV → Value → Prop} : ∀ {rs : List ResultVar} {xs : List AV}, xs.length = rs.length → (∀ (i : Nat) (r : ResultVar) (x : AV), rs[i]? = some r → xs[i]? = some x → ∃ v, R r x v) →
    ∃ vs : List Value, vs.length = rs.length ∧ ∀ (i : Nat) (r : ResultVar) (x : AV) (v : Value), rs[i]? = some r → xs[i]? = some x → vs[i]? = some v → R r x v
  | [], xs, _, _ => ⟨[], rfl, fun i r x v h => by simp at h⟩
  | r :: rs, [], h, _ => by simp at h
  | r :: rs, x :: xs, hl, h => by
    obtain ⟨v, hv⟩ := h 0 r x rfl rfl
    obtain ⟨vs, h1, h2⟩ := list_choose (rs := rs) (xs := xs) (by simpa using hl) (fun i r x a b => h (i + 1) r x (by simpa using a) (by simpa using b))
    refine ⟨v :: vs, by simp [h1], fun i r' x' v' a b c => ?_⟩
    cases i with
    | zero => simp at a b c; subst a b c; exact hv
    | succ i => exact h2 i r' x' v' (by simpa using a) (by simpa using b) (by simpa using c)
theorem RF.resOne (A : Agree E) (h : RF E f n Gs ws G w S a fr []) {r : ResultVar} {x : AV} (hT : ∀ b t, r = .cell b t → E.C.has t = true) (hx : resA E.C fr r = some x) :
    ∃ v, (resOne a.tmps r).run E.P w = .ok v w ∧ ResVal G w v x r := by
  cases r with
  | tmp t =>
    simp only [resA, Option.some.injEq] at hx
    subst hx
    exact ⟨_, rfl, h.frr.slot t⟩
  | cell b t =>
    simp only [resA, Option.map_eq_some_iff] at hx
    obtain ⟨y, hy, rfl⟩ := hx
    have hp : PtrVal a fr b 0 (Act.at a b) := fun cs hcs => by
      obtain ⟨blk, hblk⟩ := h.hbox b cs hcs
      exact ⟨blk, hblk, hblk⟩
    obtain ⟨v, q1, q2, q3⟩ := h.loadBox A (hT b t rfl) hp hy
    have hl := ValR.loaded (w := w) (κ := .ext) (κc := fun _ => .ext) q2 (q3.elim .inr fun q => .inl q.1)
    have hnt : ∀ cs, y.strip ≠ .tup cs := by
      rcases q3 with ⟨ds, rfl⟩ | ⟨hf, _⟩
      · simp [AV.strip, AV.strip2]
      · intro cs e
        rw [AV.strip_of_free1 hf] at e
        have := AV.free1_strip1 y
        rw [e, hf] at this
        simp [AV.free1] at this
    have hno : y.strip.own = false := by
      cases y with
      | vs sz es r => exact AV.own_strip1 (.vs sz es r)
      | _ => rfl
    refine ⟨v, ?_, hl.vr, hnt, hno, hl.agg⟩
    have hcs : ∃ cs, fr.b b = some cs := by
      simp only [lloadA, Option.bind_eq_some_iff] at hy
      obtain ⟨cs, hcs, _⟩ := hy
      exact ⟨cs, hcs⟩
    obtain ⟨cs, hcs⟩ := hcs
    obtain ⟨blk, hblk⟩ := h.hbox b cs hcs
    have hblk' : a.tmps.getD b undef = .pointer (some ⟨blk, 0, none⟩) := hblk
    rw [show Act.at a b = .pointer (some ⟨blk, 0, none⟩) from hblk] at q1
    simp only [Av.resOne, hblk', asAddr, Sem.run_bind, Sem.run_pure, Result.andThen_ok]
    simpa [Instr.loadAt, Instr.sureAddr] using q1

theorem mapM_run {P : Program} {w : World} {tmps : Array Value} : ∀ {rs : List ResultVar} {vs : List Value}, vs.length = rs.length → (∀ (i : Nat) (r : ResultVar) (v : Value), rs[i]? = some r → vs[i]? = some v → (resOne tmps r).run P w = .ok v w) → (rs.mapM (resOne tmps)).run P w = .ok vs w
  | [], [], _, _ => rfl
  | r :: rs, v :: vs, hl, h => by
    rw [List.mapM_cons, Sem.run_bind, h 0 r v rfl rfl, Result.andThen_ok, Sem.run_bind, mapM_run (by simpa using hl) (fun i r v h1 h2 => h (i + 1) r v (by simpa using h1) (by simpa using h2))]
    rfl
  | [], _ :: _, hl, _ => by simp at hl
  | _ :: _, [], hl, _ => by simp at hl
def packV : List Value → Value
  | [v] => v
  | vs => .tuple vs.toArray
theorem results_eq (fn : Func) (tmps : Array Value) : results fn tmps = (do let vs ← fn.results.mapM (resOne tmps); pure (if h : vs.size = 1 then vs[0] else .tuple vs)) := by
  unfold results
  congr 1
theorem run_results {P : Program} {w : World} {fn : Func} {tmps : Array Value} {vs : List Value} (h : (fn.results.toList.mapM (resOne tmps)).run P w = .ok vs w) : (results fn tmps).run P w = .ok (packV vs) w := by
  rw [results_eq, Sem.run_bind, Array.mapM_eq_mapM_toList, Sem.run_map, h]
  simp only [Result.andThen_ok, Sem.run_pure]
  match vs with
  | [] => rfl
  | [v] => rfl
  | v :: u :: l => simp [packV]

/-- The results' rights, by their places. -/
def posOf : List ResultVar → Nat → Nat → Option Nat
  | [], _, _ => none
  | .tmp t :: rs, k, x => if x = t then some k else posOf rs (k + 1) x
  | .cell _ _ :: rs, k, x => posOf rs (k + 1) x
def exitKey (rs : List ResultVar) : Key → Key
  | .obj id => .obj id
  | .ocell id j => .ocell id j
  | .slot t => match rs with
    | [.tmp u] => if t = u then .ret else .ext
    | _ => match posOf rs 0 t with | some i => .retc i | none => .ext
  | .slotc t i => match rs with
    | [.tmp u] => if t = u then .retc i else .ext
    | _ => .ext
  | _ => .ext
theorem posOf_get : ∀ {rs : List ResultVar} {k i t : Nat}, nodupB (resTmps rs) = true → rs[i]? = some (.tmp t) → posOf rs k t = some (k + i)
  | [], k, i, t, _, h => by simp at h
  | .tmp u :: rs, k, i, t, hn, h => by
    have hn' : nodupB (u :: resTmps rs) = true := hn
    simp only [nodupB, Bool.and_eq_true, Bool.not_eq_true'] at hn'
    cases i with
    | zero => simp at h; subst h; simp [posOf]
    | succ i =>
      have hm : rs[i]? = some (.tmp t) := by simpa using h
      have hmem : t ∈ resTmps rs := List.mem_flatMap.2 ⟨_, List.mem_of_getElem? hm, by simp⟩
      have hne : t ≠ u := by
        rintro rfl
        have := hn'.1
        simp at this
        exact this hmem
      rw [posOf, if_neg hne, posOf_get hn'.2 hm]
      congr 1; omega
  | .cell b u :: rs, k, i, t, hn, h => by
    have hn' : nodupB (resTmps rs) = true := hn
    cases i with
    | zero => simp at h
    | succ i =>
      rw [posOf, posOf_get hn' (by simpa using h)]
      congr 1; omega

theorem AV.flat_tup (x : AV) : ∀ cs, x.flat ≠ .tup cs := by cases x <;> simp [AV.flat]
theorem ValR.flatten {κ : Key} {κc : Nat → Key} {v : Value} {x : AV} (h : ValR G w κ κc v x) : VR G v x.flat ∧ Tail G w κ v x.flat ∧ ∀ cs, x.flat = .agg cs → ∀ c ∈ cs, c.own = false := by
  cases x with
  | tup cs => exact ⟨.undef v, .of_not rfl, by simp [AV.flat]⟩
  | _ => exact ⟨h.vr, h.tail, h.agg⟩

theorem WF_sound (A : Agree E) {Ca : Nat → List AV → St → (AV → St → Prop) → Prop} (hCa : CaSound E Ca) (hM : CaMono Ca) {Dr : Array Oper → (Fr → St → Prop) → Fr → St → Prop} {fn : Func} (hDr : DrSound E f fn.ntmps Dr) (hDm : DrMono E.C f Dr)
    (hf : E.P.funcs[f]? = some fn) (hname : (fn.name == "runtime.NumGoroutine") = false) {args : List AV} {Q : AV → St → Prop} (hw : WF E.C Ca f Dr fn args S Q) : ACalls E f args S Q := by
  unfold WF at hw
  split at hw
  case h_2 => exact hw.elim
  rename_i c hb
  split at hw
  case h_2 => exact hw.elim
  rename_i hchk
  simp only [Bool.and_eq_true] at hchk
  obtain ⟨⟨⟨hc1, hc2⟩, hc3⟩, hc4⟩ := hchk
  have hcode : codeOk E fn.ntmps c := ⟨fun d hd => Nat.le_of_ble_eq_true (List.all_eq_true.1 hc1 d hd), fun t ht => List.all_eq_true.1 hc2 t ht⟩
  refine ⟨⟨fn, hf, by rw [hb]; rfl, hname⟩, fun G w hrel hroles args' hl hargs => ?_⟩
  refine calls_of_wp hf hb ?_
  let a : Act := { tmps := args' ++ Array.replicate (fn.ntmps - args'.size) undef, defers := [] }
  have hat : ∀ t, Act.at a t = if t < args'.size then args'.getD t undef else undef := by
    intro t
    simp only [Act.at, a, Array.getD_eq_getD_getElem?]
    by_cases e : t < args'.size
    · rw [Array.getElem?_append_left e, if_pos e]
    · rw [Array.getElem?_append_right (by omega), if_neg e]
      by_cases e2 : t - args'.size < fn.ntmps - args'.size
      · simp [e2]
      · simp [e2]
  have hrf : RF E f fn.ntmps G w G w S a (fr0 args) [] := by
    refine ⟨hrel, ⟨rfl, by simp [a]; omega, fun t => ?_, fun t cs hb => by simp [fr0] at hb⟩, Chg.refl _ _ _, fun x b off hr cs hcs => by simp [fr0] at hcs⟩
    rw [hat]
    by_cases e : t < args'.size
    · rw [if_pos e]
      have h1 : args[t]? = some args[t] := List.getElem?_eq_getElem (by omega)
      have h2 : args'[t]? = some args'[t] := by simp [e]
      obtain ⟨k1, k2, k3⟩ := hargs t _ _ h1 h2
      have e1 : (fr0 args).v t = args[t] := by simp only [fr0, List.getD, h1, Option.getD_some]
      have e2 : args'.getD t undef = args'[t] := by simp [Array.getD_eq_getD_getElem?, h2]
      rw [e1, e2, ← k3]
      refine .mkstrip k1 fun cs hcs => ?_
      rw [hcs] at k2; simp [AV.free, AV.free1] at k2
    · rw [if_neg e]
      have : (fr0 args).v t = .undef := by simp only [fr0, List.getD]; rw [List.getElem?_eq_none (by omega)]; rfl
      rw [this]; exact .undef _
  refine W_sound A hCa hM hDr hDm c hcode hrf hw fun ex G' w' S' a' fr' hr hk => ?_
  have hk' : resK E.C fn.results.toList fr' (fun r => Q r S') ∧ (ex.to = .normal ∨ ex.to = .ret) := by
    cases ex with
    | normal => exact ⟨hk, .inl rfl⟩
    | ret => exact ⟨hk, .inr rfl⟩
    | exit id => exact hk.elim
  obtain ⟨hk, hex⟩ := hk'
  obtain ⟨xs, x1, x2, hQ⟩ := resK_pack hk
  -- the results one by one
  have hres : ∀ (i : Nat) (r : ResultVar) (x : AV), fn.results.toList[i]? = some r → xs[i]? = some x → ∃ v, (resOne a'.tmps r).run E.P w' = .ok v w' ∧ ResVal G' w' v x r := fun i r x h1 h2 =>
    hr.resOne A (fun b t e => by
      subst e
      exact List.all_eq_true.1 hc3 t (List.mem_flatMap.2 ⟨_, List.mem_of_getElem? h1, by simp⟩)) (x2 i r x h1 h2)
  have hvs : ∃ vs : List Value, vs.length = fn.results.toList.length ∧ ∀ (i : Nat) (r : ResultVar) (x : AV) (v : Value), fn.results.toList[i]? = some r → xs[i]? = some x → vs[i]? = some v →
      (resOne a'.tmps r).run E.P w' = .ok v w' ∧ ResVal G' w' v x r :=
    list_choose x1 hres
  obtain ⟨vs, v1, v2⟩ := hvs
  have hrun : (results fn a'.tmps).run E.P w' = .ok (packV vs) w' := run_results (mapM_run v1 fun i r v h1 h2 => by
    have hlt : i < xs.length := by rw [x1]; exact (List.getElem?_eq_some_iff.1 h1).1
    exact (v2 i r _ v h1 (List.getElem?_eq_getElem hlt) h2).1)
  let g := exitKey fn.results.toList
  have hLe : G'.Le (G'.relabel g) := ⟨fun _ _ _ e => e, fun _ _ e => e, fun _ => Nat.le_refl _⟩
  have hrel' : Rel E (G'.relabel g) w' S' := hr.rel.relabel rfl (fun κ id e => by
      cases κ <;> simp only [g, exitKey] at e <;> first | exact e | (cases e; done) | (split at e <;> first | (split at e <;> cases e) | cases e))
    (fun κ t e => by
      cases κ <;> simp only [g, exitKey] at e <;> first | exact e | (cases e; done) | (split at e <;> first | (split at e <;> cases e) | cases e)) (fun _ => rfl) (fun _ _ => rfl)
  have hkept : Kept G w (G'.relabel g) w' := hr.kept.relabel rfl
  have hval : ValR (G'.relabel g) w' .ret .retc (packV vs) (pack xs) := by
    by_cases hone : fn.results.toList.length = 1
    · obtain ⟨r, hrs⟩ := List.length_eq_one_iff.1 hone
      obtain ⟨x, hxs⟩ := List.length_eq_one_iff.1 (x1.trans hone)
      obtain ⟨v, hv⟩ := List.length_eq_one_iff.1 (v1.trans hone)
      have := (v2 0 r x v (by rw [hrs]; rfl) (by rw [hxs]; rfl) (by rw [hv]; rfl)).2
      rw [hxs, hv]
      show ValR _ _ _ _ v x
      cases r with
      | tmp t =>
        have this : ValR G' w' (.slot t) (.slotc t) v x := this
        exact (this.relabel (f := g)).rekey (by simp [g, hrs, exitKey]) (fun i => by simp [g, hrs, exitKey])
      | cell b t =>
        obtain ⟨q1, q2, q3, q4⟩ := this
        exact .of_free (q1.mono hLe) q2 q3 q4
    · have hpv : packV vs = .tuple vs.toArray := by
        match vs, v1 with
        | [], _ => rfl
        | [v], v1 => exact (hone (by simpa using v1.symm)).elim
        | v :: u :: l, _ => rfl
      have hpx : pack xs = .tup (xs.map AV.flat) := by
        match xs, x1 with
        | [], _ => rfl
        | [x], x1 => exact (hone (by simpa using x1.symm)).elim
        | x :: y :: l, _ => rfl
      rw [hpv, hpx]
      have hall : ∀ (i : Nat) (y : AV) (u : Value), (xs.map AV.flat)[i]? = some y → vs[i]? = some u → VR G' u y ∧ Tail (G'.relabel g) w' (.retc i) u y ∧ ∀ cs, y = .agg cs → ∀ c ∈ cs, c.own = false := by
        intro i y u hy hu
        rw [List.getElem?_map, Option.map_eq_some_iff] at hy
        obtain ⟨x, hx, rfl⟩ := hy
        have hlt : i < fn.results.toList.length := by rw [← x1]; exact (List.getElem?_eq_some_iff.1 hx).1
        have hr1 := List.getElem?_eq_getElem hlt
        have hv2 := (v2 i _ x u hr1 hx hu).2
        generalize hrr : fn.results.toList[i] = r at hr1 hv2
        cases r with
        | tmp t =>
          obtain ⟨f1, f2, f3⟩ := ValR.flatten hv2
          refine ⟨f1, ?_, f3⟩
          have hg : g (.slot t) = .retc i := by
            have hp := posOf_get (k := 0) hc4 hr1
            simp only [g, exitKey]
            split
            · rename_i u' hu'; rw [hu'] at hone; simp at hone
            · rw [hp]; simp
          rw [← hg]; exact f2.relabel
        | cell b t =>
          obtain ⟨q1, q2, q3, q4⟩ := hv2
          have hfl : x.flat = x := by cases x <;> first | rfl | exact (q2 _ rfl).elim
          rw [hfl]
          exact ⟨q1, .of_not q3, q4⟩
      refine ⟨.tup _ _ (by simp [v1, x1]) fun i y u hy hu => (hall i y u hy (by simpa using hu)).1.mono hLe, .of_not rfl, by simp, fun cs vs' e1 e2 i y u hy hu => ?_, fun cs e1 y hy => ?_⟩
      · cases e1; cases e2; exact (hall i y u hy (by simpa using hu)).2.1
      · cases e1
        obtain ⟨i, hi⟩ := List.getElem?_of_mem hy
        have hlt : i < vs.length := by rw [v1, ← x1]; simpa using (List.getElem?_eq_some_iff.1 hi).1
        refine ⟨(hall i y _ hi (List.getElem?_eq_getElem hlt)).2.2, ?_⟩
        simp only [List.mem_map] at hy
        obtain ⟨x, _, rfl⟩ := hy
        exact AV.flat_tup x
  have hfin : a'.defers = [] ∧ ∃ v, (results fn a'.tmps).run E.P w' = .ok v w' ∧ ∃ v' r S'' G'', (Ending.returned v) = .returned v' ∧ Q r S'' ∧ Rel E G'' w' S'' ∧ ValR G'' w' .ret .retc v' r ∧ Kept G w G'' w' ∧
      ∀ b, (∃ id, G''.role b = .obj id) ∨ (∃ id j, G''.role b = .ocell id j) ∨ G''.role b = .ext ∨ G''.role b = .ret ∨ ∃ i, G''.role b = .retc i := by
    refine ⟨hr.frr.defers, packV vs, hrun, packV vs, pack xs, S', G'.relabel g, rfl, hQ, hrel', hval, hkept, fun b => ?_⟩
    show (∃ id, g (G'.role b) = _) ∨ (∃ id j, g (G'.role b) = _) ∨ g (G'.role b) = _ ∨ g (G'.role b) = _ ∨ ∃ i, g (G'.role b) = _
    generalize G'.role b = κ
    cases κ with
    | obj id => exact .inl ⟨id, rfl⟩
    | ocell id j => exact .inr (.inl ⟨id, j, rfl⟩)
    | slot t =>
      simp only [g, exitKey]
      split
      · split <;> simp
      · split <;> simp
    | slotc t i =>
      simp only [g, exitKey]
      split
      · split <;> simp
      · simp
    | _ => simp [g, exitKey]
  rcases hex with e | e <;> rw [e] <;> exact hfin
end Go.Av
