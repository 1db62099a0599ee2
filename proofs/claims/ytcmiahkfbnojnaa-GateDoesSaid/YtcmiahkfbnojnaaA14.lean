/- A part of the proof of a law of this seat: Calls; tuples. No condition. -/
import Derived.Test.YtcmiahkfbnojnaaA13
set_option linter.all false
set_option linter.unusedVariables false
set_option linter.unusedSimpArgs false
/-! Calls; tuples. -/
namespace Go.Av
variable {E : Env} {f n : Nat} {Gs G : Gh} {ws w : World} {S : St} {a : Act} {fr : Fr} {before : List Oper}

theorem Rt.strip_strip (r : Rt) : r.strip.strip = r.strip := by cases r <;> rfl
theorem AV.strip1_strip1 (a : AV) : a.strip1.strip1 = a.strip1 := by
  cases a <;> try rfl
  rename_i sz es r
  simp [AV.strip1, Rt.strip_strip]
theorem AV.strip_strip {a : AV} (h : a.free = true) : a.strip.strip = a.strip := by
  rcases AV.free_cases h with ⟨h1, h2⟩ | ⟨cs, rfl, h1⟩
  · rw [AV.strip_of_free1 h1, AV.strip_of_free1 (by rw [AV.free1_strip1]; exact h1), AV.strip1_strip1]
  · simp only [AV.strip, AV.strip2, List.map_map]
    congr 1
    apply List.map_congr_left
    intro x _
    exact AV.strip1_strip1 x

theorem argsA_spec {as bs : List AV} (h : argsA as = some bs) : bs.length = as.length ∧ ∀ (i : Nat) (x : AV), bs[i]? = some x → ∃ y, as[i]? = some y ∧ y.free = true ∧ x = y.strip := by
  unfold argsA at h
  split at h
  · rename_i hf
    cases h
    refine ⟨by simp, fun i x hx => ?_⟩
    rw [List.getElem?_map, Option.map_eq_some_iff] at hx
    obtain ⟨y, hy, rfl⟩ := hx
    exact ⟨y, hy, (List.all_eq_true.1 hf) y (List.mem_of_getElem? hy), rfl⟩
  · cases h

def Key.isObj : Key → Prop
  | .obj _ | .ocell _ _ => True
  | _ => False
def toExt : Key → Key
  | .obj id => .obj id
  | .ocell id j => .ocell id j
  | _ => .ext
def Key.local : Key → Bool
  | .ext | .obj _ | .ocell _ _ => false
  | _ => true
def backTo (d : Nat) : Key → Key
  | .ret => .slot d
  | .retc i => .slotc d i
  | κ => κ

/-- What a call brings. -/
theorem RF.called (h : RF E f n Gs ws G w S a fr before) {g : Nat} {as : List AV} {Q : AV → St → Prop} (hc : ACalls E g as S Q) {args' : Array Value} (hl : args'.size = as.length)
    (hargs : ∀ (i : Nat) (x : AV) (v : Value), as[i]? = some x → args'[i]? = some v → VR G v x ∧ x.free = true ∧ x.strip = x) {o : Oper} (hd : ∀ d, o.dst = some d → d < n ∧ E.C.loc f d = false)
    (hop : opRes E.C (fun y => resolveTmp E.C f y before) o.op = none) :
    Calls E.P g args' w fun e w' => ∃ v r S' G', e = .returned v ∧ Q r S' ∧ RF E f n Gs ws G' w' S' (a.put o.dst v) (fr.put o.dst r) (o :: before) := by
  obtain ⟨_, hc⟩ := hc
  have hLe : G.Le (G.relabel toExt) := ⟨fun _ _ _ e => e, fun _ _ e => e, fun _ => Nat.le_refl _⟩
  have hrel : Rel E (G.relabel toExt) w S := h.rel.relabel rfl (fun κ id e => by cases κ <;> simp [toExt] at e; subst e; rfl) (fun κ t e => by cases κ <;> simp [toExt] at e) (fun _ => rfl) (fun _ _ => rfl)
  refine (hc (G.relabel toExt) w hrel (fun b => ?_) args' hl fun i x v hx hv => ?_).mono fun e w' => ?_
  · cases hr : G.role b <;> simp [Gh.relabel, hr, toExt]
  · obtain ⟨h1, h2, h3⟩ := hargs i x v hx hv; exact ⟨h1.mono hLe, h2, h3⟩
  rintro ⟨v, r, S', G2, rfl, hq, hrel2, hval, hkept, hroles⟩
  let d := o.dst.getD 0
  let G3 : Gh := { G2 with role := fun b => if b < w.heap.size ∧ (G.role b).local = true then G.role b else backTo d (G2.role b) }
  have hext : ∀ b, b < w.heap.size → (G.role b).local = true ∨ G.role b = .ext → w'.heap[b]? = w.heap[b]? ∧ G2.role b = .ext ∧ ∀ j, G2.imm b j = G.imm b j := by
    intro b hb hr
    have h0 : (G.relabel toExt).role b = .ext := by
      rcases hr with hr | hr
      · cases hk : G.role b <;> simp [hk, Key.local] at hr <;> simp [Gh.relabel, hk, toExt]
      · simp [Gh.relabel, hr, toExt]
    obtain ⟨k1, k2, k3⟩ := hkept.keep b hb (by simp [h0])
    exact ⟨k1, k2.trans h0, k3⟩
  have hnotloc : ∀ b κ, G2.role b = κ → κ ≠ .ext → G3.role b = backTo d κ := by
    intro b κ hr hne
    show (if b < w.heap.size ∧ (G.role b).local = true then G.role b else backTo d (G2.role b)) = _
    rw [if_neg ?_, hr]
    rintro ⟨hb, hlc⟩
    exact hne (by rw [← hr]; exact (hext b hb (.inl hlc)).2.1)
  have hLe3 : G.Le G3 := ⟨fun b o v e => hkept.le.imm b o v e, fun i b e => hkept.le.rho i b e, fun b => hkept.le.len b⟩
  have hchg : Chg Key.isObj G w G3 w' := ⟨hLe3, hkept.size, fun b hb hk => by
    by_cases hlc : (G.role b).local = true
    · obtain ⟨k1, k2, k3⟩ := hext b hb (.inl hlc)
      exact ⟨k1, by show (if _ then _ else _) = _; rw [if_pos ⟨hb, hlc⟩], k3⟩
    · have he : G.role b = .ext := by cases hr : G.role b <;> simp [hr, Key.local, Key.isObj] at hlc hk <;> rfl
      obtain ⟨k1, k2, k3⟩ := hext b hb (.inr he)
      refine ⟨k1, ?_, k3⟩
      show (if _ then _ else _) = _
      rw [if_neg (fun hh => hlc hh.2), k2, he]; rfl⟩
  have htail : ∀ {κ : Key} {v : Value} {x : AV}, κ ≠ .ext → Tail G2 w' κ v x → Tail G3 w' (backTo d κ) v x := by
    intro κ v x hne ht ho
    obtain ⟨b, o, len, cap, hv, sz, es, ha, hl, hh⟩ := ht ho
    exact ⟨b, o, len, cap, hv, sz, es, ha, hl, hh.imp id fun ⟨q1, q2, q3⟩ => ⟨hnotloc b κ q1 hne, q2, q3⟩⟩
  have hLe23 : G2.Le G3 := ⟨fun _ _ _ e => e, fun _ _ e => e, fun _ => Nat.le_refl _⟩
  have hrel3 : Rel E G3 w' S' := by
    refine ⟨hrel2.os, hrel2.tape, hrel2.output, hrel2.size, fun b hb => ⟨(hrel2.old b hb).1, ?_⟩, hrel2.imm, fun b hb => ?_, fun b hb j => ?_, hrel2.rho, hrel2.len, fun id ob hob => ?_⟩
    · have := (h.rel.old b hb).2
      show (if _ then _ else _) = _
      rw [if_neg (by simp [this, Key.local]), (hrel2.old b hb).2]; rfl
    · show (if _ then _ else _) = _
      rw [if_neg (fun hh => by have := hkept.size; omega), hrel2.role b hb]; rfl
    · by_cases hlc : b < w.heap.size ∧ (G.role b).local = true
      · have hr3 : G3.role b = G.role b := by show (if _ then _ else _) = _; rw [if_pos hlc]
        rw [hr3] at hb
        have := h.rel.noimm b hb j
        rw [← this]
        exact (hext b hlc.1 (.inl hlc.2)).2.2 j
      · have hr3 : G3.role b = backTo d (G2.role b) := by show (if _ then _ else _) = _; rw [if_neg hlc]
        rw [hr3] at hb
        refine hrel2.noimm b ?_ j
        rcases hb with ⟨id, hb⟩ | ⟨t, hb⟩
        · refine .inl ⟨id, ?_⟩; cases hr : G2.role b <;> simp [hr, backTo] at hb <;> simp [hb]
        · refine .inr ⟨t, ?_⟩; cases hr : G2.role b <;> simp [hr, backTo] at hb <;> simp [hb]
    · have := hrel2.obj id ob hob
      cases ob with
      | cells cs =>
        obtain ⟨b, arr, e, q1, q2, q3, q4⟩ := this
        exact ⟨b, arr, e, q1, hnotloc b _ q2 (by simp), q3, q4.1, fun j x v hx hv => by
          obtain ⟨c1, c2, c3⟩ := q4.2 j x v hx hv
          exact ⟨c1.mono hLe23, c2, htail (κ := .ocell id j) (by simp) c3⟩⟩
      | map m =>
        obtain ⟨b, es, clk, q1, q2, q3, q4, q5⟩ := this
        exact ⟨b, es, clk, q1, hnotloc b _ q2 (by simp), q3, q4, fun i e p e1 e2 => (q5 i e p e1 e2).mono hLe23⟩
      | dead => trivial
  have hrf : RF E f n Gs ws G3 w' S' a fr before := ⟨hrel3, h.frr.chg hchg (by simp [Key.isObj]) (by simp [Key.isObj]) (by simp [Key.isObj]) (by simp [Key.isObj]), h.kept.chg hchg (by simp [Key.isObj]), h.pr⟩
  refine ⟨v, r, S', G3, rfl, hq, hrf.put hd (fun d' e => ?_) (fun d' e b off hx => by rw [hop] at hx; cases hx)⟩
  have hdd : d = d' := by simp [d, e]
  rw [← hdd]
  exact ⟨hval.vr.mono hLe23, htail (κ := .ret) (by simp) hval.tail, hval.agg, fun cs vs e1 e2 i x u hx hu => htail (κ := .retc i) (by simp) (hval.comp cs vs e1 e2 i x u hx hu), hval.comp2⟩

/-- A component of a tuple, with its right. -/
def mvComp (t i d : Nat) : Key → Key := fun κ => if κ = .slotc t i then .slot d else κ
theorem RF.takeComp (h : RF E f n Gs ws G w S a fr before) (t i d : Nat) {x : AV} (hx : extractA (fr.v t) i = some x) :
    ∃ G' v, RF E f n Gs ws G' w S a (fr.set t (stripTup (fr.v t) i)) before ∧ (Instr.extract (Act.at a t) i).run E.P w = .ok v w ∧ ValR G' w (.slot d) (.slotc d) v x := by
  unfold extractA at hx
  split at hx
  case h_2 => cases hx
  rename_i cs hcs
  have hslot := h.frr.slot t
  rw [hcs] at hslot
  have hinv : ∃ vs : Array Value, Act.at a t = .tuple vs ∧ vs.size = cs.length := by
    have := hslot.vr
    generalize Act.at a t = v at this
    cases this with
    | tup _ vs hl _ => exact ⟨vs, rfl, hl⟩
  obtain ⟨vs, hvs, hlen⟩ := hinv
  have hlt : i < vs.size := by rw [hlen]; exact (List.getElem?_eq_some_iff.1 hx).1
  have hvi : vs[i]? = some vs[i] := by simp [hlt]
  have hvr : ∀ (j : Nat) (y : AV) (u : Value), cs[j]? = some y → vs[j]? = some u → VR G u y := by
    have := hslot.vr
    rw [hvs] at this
    cases this with
    | tup _ _ _ hh => exact hh
  let g := mvComp t i d
  have gfix : ∀ κ, κ ≠ .slotc t i → g κ = κ := fun κ hne => by simp [g, mvComp, hne]
  have hLe : G.Le (G.relabel g) := ⟨fun _ _ _ e => e, fun _ _ e => e, fun _ => Nat.le_refl _⟩
  have hcomp2 := hslot.comp2 cs rfl
  have hx2 := hcomp2 x (List.mem_of_getElem? hx)
  refine ⟨G.relabel g, vs[i], ⟨h.rel.relabel (gfix _ (by simp)) (fun κ id e => ?_) (fun κ id e => ?_) (fun _ => gfix _ (by simp)) (fun _ _ => gfix _ (by simp)), ⟨h.frr.defers, h.frr.size, fun t' => ?_, fun t' cs' hb => ?_⟩, h.kept.relabel (gfix _ (by simp)), h.pr⟩, ?_, ?_⟩
  · simp only [g, mvComp] at e; split at e <;> simp_all
  · simp only [g, mvComp] at e; split at e <;> simp_all
  · simp only [Fr.set]
    by_cases e : t' = t
    · subst e
      simp only [if_true, hcs, stripTup, hvs]
      have hmod : ∀ (j : Nat) (y : AV), (cs.modify i AV.strip2)[j]? = some y → ∃ y0, cs[j]? = some y0 ∧ y = if j = i then y0.strip2 else y0 := by
        intro j y hy
        rw [List.getElem?_modify] at hy
        cases hc : cs[j]? with
        | none => rw [hc] at hy; simp at hy
        | some y0 =>
          rw [hc] at hy
          by_cases e : i = j
          · subst e; simp at hy; exact ⟨y0, rfl, by simp [hy]⟩
          · simp [e] at hy; exact ⟨y0, rfl, by simp [Ne.symm e, hy]⟩
      refine ⟨.tup _ vs (by simpa using hlen) fun j y u hy hu => ?_, .of_not rfl, by simp, ?_, ?_⟩
      · obtain ⟨y0, hy0, rfl⟩ := hmod j y hy
        have := (hvr j y0 u hy0 hu).mono hLe
        split
        · exact this.strip2
        · exact this
      · intro cs1 vs1 e1 e2 j y u hy hu
        cases e1; cases e2
        obtain ⟨y0, hy0, rfl⟩ := hmod j y hy
        split
        · refine .of_not ?_
          have hn := (hcomp2 y0 (List.mem_of_getElem? hy0)).2
          cases y0 with
          | vs sz es r => exact AV.own_strip1 (.vs sz es r)
          | tup ds => exact (hn ds rfl).elim
          | _ => rfl
        · rename_i hne
          have := (hslot.comp cs vs rfl hvs j y0 u hy0 hu).relabel (f := g)
          rwa [gfix _ (by simpa using hne)] at this
      · intro cs1 e1 y hy
        cases e1
        obtain ⟨j, hj⟩ := List.getElem?_of_mem hy
        obtain ⟨y0, hy0, rfl⟩ := hmod j y hj
        have h0 := hcomp2 y0 (List.mem_of_getElem? hy0)
        split
        · cases y0 with
          | tup ds => exact (h0.2 ds rfl).elim
          | agg ds =>
            refine ⟨fun es hes c hc => ?_, by simp [AV.strip2]⟩
            simp only [AV.strip2, AV.agg.injEq] at hes
            subst hes
            simp only [List.mem_map] at hc
            obtain ⟨z, _, rfl⟩ := hc
            exact AV.own_strip1 z
          | _ => exact ⟨by simp [AV.strip2, AV.strip1], by simp [AV.strip2, AV.strip1]⟩
        · exact h0
    · simp only [e, if_false]
      exact ((h.frr.slot t').relabel (f := g)).rekey (gfix _ (by simp)) (fun j => gfix _ (by simp [e]))
  · obtain ⟨h1, b, arr, e, h2, h3, h4, h5⟩ := h.frr.box t' cs' hb
    exact ⟨h1, b, arr, e, h2, by simp only [Gh.relabel, h3]; exact gfix _ (by simp), h4, h5.relabel.rekey fun j => gfix _ (by simp)⟩
  · rw [hvs]; simp [Instr.extract, hlt]
  · have ht := (hslot.comp cs vs rfl hvs i x _ hx hvi).relabel (f := g)
    have e1 : g (.slotc t i) = .slot d := by simp [g, mvComp]
    rw [e1] at ht
    exact ⟨(hvr i x _ hx hvi).mono hLe, ht, hx2.1, fun cs' _ e => (hx2.2 cs' e).elim, fun cs' e => (hx2.2 cs' e).elim⟩
end Go.Av
