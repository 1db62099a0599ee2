/- A part of the proof of a law of this seat: Drawn regions: from one order to all. No condition. -/
import Derived.Test.YtcmiahkfbnojnaaA24
set_option linter.all false
set_option linter.unusedVariables false
set_option linter.unusedSimpArgs false
/-! Drawn regions: from one order to all. -/
namespace Go.Av
section
variable {C : Ctx} {Ca : Nat → List AV → St → (AV → St → Prop) → Prop} {f : Nat} {ops : Array Oper} {fr g : Fr} {S : St} {K K' : List Oper → Fr → St → Prop} {B B2 : List Oper} {o x i y : Oper}

theorem watchable_D (h : watchable C f ops y = true) : dD C f ops y = true ∧ (∀ t ∈ SW C ops y, t ∈ y.dst.toList) ∧ (∀ t ∈ SB C f ops y, t ∈ y.dst.toList) ∧ (∀ r, opRes C r y.op = none) := by
  unfold watchable at h
  simp only [Bool.and_eq_true] at h
  have h := h.1.1.1.1
  unfold dD isD SW opWrites SB
  split at h
  · rename_i t z hop
    simp only [Bool.not_eq_true'] at h
    rw [hop, h]; simp [opRes]
  · rename_i hop; rw [hop]; simp [opRes]
  · rename_i hop; rw [hop]; simp [opRes]
  · rename_i hop; rw [hop]; simp [opRes]
  · cases h
theorem dst_SW {d : Nat} (h : o.dst = some d) : d ∈ SW C ops o := by unfold SW opWrites; rw [h]; simp
theorem dst_SB {d : Nat} (h : o.dst = some d) : d ∈ SB C f ops o := by unfold SB; rw [h]; simp
theorem RV_of {z : Operand} (hz : z ∈ o.op.operands.toList) {t : Nat} (ht : t ∈ tmpOf z) : t ∈ RV ops o := by unfold RV; exact List.mem_append_left _ (List.mem_flatMap.2 ⟨z, hz, ht⟩)
theorem RB_of {z : Operand} (hz : z ∈ o.op.operands.toList) {b : Nat} (hb : srootO C f ops.toList z = some b) : b ∈ RB C f ops o := by unfold RB; exact List.mem_filterMap.2 ⟨z, hz, hb⟩

theorem same_swap {m n : Oper} (hm : Mark x m) (hn : Mark i n) (h1 : ∀ d, x.dst = some d → i.dst ≠ some d) (h2 : ∀ d, x.dst = some d → d ∉ RV ops i) (h3 : ∀ d, i.dst = some d → d ∉ RV ops x) : Same C f (n :: m :: B) (m :: n :: B) :=
  fun y => resolveTmp_swap (fun d e e2 => h1 d (by rw [← hm.dst]; exact e) (by rw [← hn.dst]; exact e2)) (fun z hz e => h3 z (by rw [← hn.dst]; exact e) (RV_of (hm.operands _ hz) (by simp [tmpOf])))
    (fun z hz e => h2 z (by rw [← hm.dst]; exact e) (RV_of (hn.operands _ hz) (by simp [tmpOf]))) y

theorem swap_apart (hCa : CaMono Ca) (hs : ssa ops.toList) (hB : In ops.toList B) (hx : x ∈ ops.toList) (hi : i ∈ ops.toList) (hlen : B.length + 2 ≤ ops.size) (hxi : ∀ d, x.dst = some d → i.dst ≠ some d)
    (hD : dD C f ops x = true) (hap : apart C f ops x i = true) (ws : List Oper) (hwx : rS C f ops x = true → dD C f ops i = false → x ∈ ws ∧ watchable C f ops x = true)
    (hws : ∀ y ∈ ws, y ≠ x → quiet C f ops x y = true ∧ watchable C f ops y = true) (hK : ∀ B1 B2 fr S, Same C f B1 B2 → K B1 fr S → K B2 fr S)
    (h : oneW C Ca f ops B x (fun B1 fr1 S1 => oneW C Ca f ops B1 i (fun B2 fr2 S2 => (∀ y ∈ ws, stable C Ca f ops y B2 fr2 S2) ∧ K B2 fr2 S2) fr1 S1) fr S) :
    oneW C Ca f ops B i (fun B1 fr1 S1 => (∀ y ∈ ws, y ≠ x → stable C Ca f ops y B1 fr1 S1) ∧ oneW C Ca f ops B1 x K fr1 S1) fr S := by
  have hap' := hap
  unfold apart at hap
  simp only [Bool.and_eq_true, disj_iff] at hap
  obtain ⟨⟨⟨⟨⟨a1, a2⟩, a3⟩, a4⟩, a5⟩, a6⟩ := hap
  obtain ⟨m, L, LB, hm, q1, qd, q2, h, q4⟩ := oneW_det hs hB hD h
  have hL : ∀ t, t ∉ SW C ops x → t ∉ L.map (·.1) := fun t ht hh => by obtain ⟨p, hp, rfl⟩ := List.mem_map.1 hh; exact ht (q1 p hp)
  have hLB : ∀ t, t ∉ SB C f ops x → t ∉ LB.map (·.1) := fun t ht hh => by obtain ⟨p, hp, rfl⟩ := List.mem_map.1 hh; exact ht (q2 p hp).1
  have hBm : In ops.toList (m :: B) := hB.cons hx hm (by simp; omega)
  have hback : graft (SW C ops x) (SB C f ops x) fr (upd L LB fr) = fr := by
    refine Fr.ext' (fun t => ?_) (fun t => ?_)
    · by_cases e : t ∈ SW C ops x
      · simp [graft, e]
      · rw [graft_v e, upd_v_not (hL t e)]
    · by_cases e : t ∈ SB C f ops x
      · simp [graft, e]
      · rw [graft_b e, upd_b_not (hLB t e)]
  rw [← hback]
  refine oneW_graft (B := m :: B) (fun t ht e => a1 t e ht) (fun z hz b off hr e => a3 b e (RB_of hz (srootO_of hs hBm hr))) (fun d e => ⟨fun e2 => a2 d e2 (dst_SW e), fun e2 => a4 d e2 (dst_SB e)⟩)
    (fun z hz => (resolve_cons_of hs hB (fun d e t ht => ?_) (fun d e => ?_)).symm) ?_
  · rintro rfl
    rw [hm.dst] at e
    exact a1 t (dst_SW e) (RV_of hz ht)
  · rw [hm.dst] at e
    intro e2
    exact a3 d (dst_SB e) (RB_of hz e2)
  · refine oneW_mono hCa hs hBm (fun n fr2 S2 hn g1 g2 g3 hk n' en => ?_) h
    simp only [List.cons.injEq, and_true] at en
    subst en
    obtain ⟨hst, hk⟩ := hk
    have hsm : Same C f (n :: m :: B) (m :: n :: B) := same_swap (ops := ops) hm hn hxi (fun d e => a1 d (dst_SW e)) (fun d e => a5 d (dst_SW e))
    have hBn : In ops.toList (n :: B) := hB.cons hi hn (by simp; omega)
    have hBnm : In ops.toList (n :: m :: B) := hBm.cons hi hn (by simp; omega)
    have hfin : ∀ {L' LB'}, (∀ t, t ∈ SW C ops x → t ∈ L'.map (·.1) ∨ fr2.v t = fr.v t) → (∀ t, t ∈ SB C f ops x → t ∈ LB'.map (·.1) ∨ fr2.b t = fr.b t) → (∀ t, t ∈ L'.map (·.1) → (upd L' LB' fr2).v t = fr2.v t) → (∀ t, t ∈ LB'.map (·.1) → (upd L' LB' fr2).b t = fr2.b t) →
        upd L' LB' (graft (SW C ops x) (SB C f ops x) fr fr2) = fr2 := by
      intro L' LB' c1 c2 c3 c4
      refine Fr.ext' (fun t => ?_) (fun t => ?_)
      · by_cases e : t ∈ L'.map (·.1)
        · rw [upd_v_same (fr2 := fr2) (.inl e), c3 t e]
        · rw [upd_v_not e]
          by_cases e2 : t ∈ SW C ops x
          · simp only [graft, e2, if_true]
            exact ((c1 t e2).resolve_left e).symm
          · exact graft_v e2
      · by_cases e : t ∈ LB'.map (·.1)
        · rw [upd_b_same (fr2 := fr2) (.inl e), c4 t e]
        · rw [upd_b_not e]
          by_cases e2 : t ∈ SB C f ops x
          · simp only [graft, e2, if_true]
            exact ((c2 t e2).resolve_left e).symm
          · exact graft_b e2
    have hxw : ∀ t, t ∈ SW C ops x → fr2.v t = (upd L LB fr).v t := fun t ht => g1 t (a2 t ht)
    have hxb : ∀ t, t ∈ SB C f ops x → fr2.b t = (upd L LB fr).b t := fun t ht => g2 t (a4 t ht)
    refine ⟨fun y hy hne => ?_, ?_⟩
    · obtain ⟨w1, w2⟩ := hws y hy hne
      obtain ⟨d1, d2, d3, _⟩ := watchable_D w2
      exact quiet_stable hCa hs w1 hm hBn hBnm hsm d1 d2 d3 (hst y hy)
    · by_cases hcase : rS C f ops x = true ∧ dD C f ops i = false
      · -- watched
        obtain ⟨w0, w1⟩ := hwx hcase.1 hcase.2
        obtain ⟨d1, d2, d3, d4⟩ := watchable_D w1
        unfold watchable at w1
        simp only [Bool.and_eq_true, disj_iff] at w1
        obtain ⟨⟨⟨⟨_, s1⟩, s2⟩, s3⟩, _⟩ := w1
        have hsx := hst x w0
        obtain ⟨m', L', LB', hm', p1, pd, p2, pk, p4⟩ := oneW_det hs hBnm hD hsx
        have pk1 : upd L' LB' fr2 = fr2 := pk.1
        refine p4 (n :: B) _ S2 K (fun t ht => graft_v fun e => s1 t (d2 t e) ht) (fun b hb => graft_b fun e => s2 b e hb) (fun z hz => ?_) (fun _ => rfl) ?_
        · rw [← hsm.res z]
          refine (resolve_cons_of hs hBn (fun d e t ht => ?_) (fun d e => ?_)).symm
          · rintro rfl
            rw [hm.dst] at e
            exact s1 t (by rw [e]; simp) (RV_of hz ht)
          · rw [hm.dst] at e
            intro e2
            exact s2 d (dst_SB e) (RB_of hz e2)
        · rw [hfin (fun t ht => .inl ?_) (fun t ht => ?_) (fun t _ => by rw [pk1]) (fun t _ => by rw [pk1])]
          · refine hK (n :: m :: B) _ fr2 S2 (fun z => ?_) hk
            rw [← hsm z]
            have hin : ∀ r, opRes C r m.op = none := by
              rcases hm with rfl | rfl
              · exact d4
              · intro r; rfl
            have hin' : ∀ r, opRes C r m'.op = none := by
              rcases hm' with rfl | rfl
              · exact d4
              · intro r; rfl
            exact resolveTmp_inert (by rw [hm.dst, hm'.dst]) hin' hin z
          · have := d2 t ht
            cases hxd : x.dst with
            | none => rw [hxd] at this; simp at this
            | some d => rw [hxd] at this; simp at this; subst this; exact pd t hxd
          · right
            have hdx := d3 t ht
            rw [hxb t ht]
            refine upd_b_not fun e => ?_
            obtain ⟨p, hp, rfl⟩ := List.mem_map.1 e
            have hl := (q2 p hp).2
            have := List.all_eq_true.1 s3 _ hdx
            rw [hl] at this
            cases this
      · have hSS : rS C f ops x = true → S2 = S := fun e => g3 (by
          cases hdi : dD C f ops i with
          | true => rfl
          | false => exact (hcase ⟨e, hdi⟩).elim)
        refine q4 (n :: B) _ S2 K (fun t ht => ?_) (fun b hb => ?_) (fun z hz => ?_) hSS ?_
        · by_cases e : t ∈ SW C ops x
          · simp [graft, e]
          · rw [graft_v e, g1 t (fun e2 => a5 t e2 ht), upd_v_not (hL t e)]
        · by_cases e : b ∈ SB C f ops x
          · simp [graft, e]
          · rw [graft_b e, g2 b (fun e2 => a6 b e2 hb), upd_b_not (hLB b e)]
        · refine resolve_cons_of hs hB (fun d e t ht => ?_) (fun d e => ?_)
          · rintro rfl
            rw [hn.dst] at e
            exact a5 t (dst_SW e) (RV_of hz ht)
          · rw [hn.dst] at e
            intro e2
            exact a6 d (dst_SB e) (RB_of hz e2)
        · rw [hfin (fun t ht => ?_) (fun t ht => ?_) (fun t ht => ?_) (fun t ht => ?_)]
          · exact hK _ _ _ _ hsm hk
          · by_cases e : t ∈ L.map (·.1)
            · exact .inl e
            · right; rw [hxw t ht, upd_v_not e]
          · by_cases e : t ∈ LB.map (·.1)
            · exact .inl e
            · right; rw [hxb t ht, upd_b_not e]
          · obtain ⟨p, hp, rfl⟩ := List.mem_map.1 ht
            rw [upd_v_same (fr2 := fr) (.inl ht), hxw _ (q1 p hp)]
          · obtain ⟨p, hp, rfl⟩ := List.mem_map.1 ht
            rw [upd_b_same (fr2 := fr) (.inl ht), hxb _ (q2 p hp).1]

theorem extract_comm {tv v u : AV} {a b : Nat} (hab : a ≠ b) (h1 : extractA tv a = some v) (h2 : extractA (stripTup tv a) b = some u) : extractA tv b = some u ∧ extractA (stripTup tv b) a = some v ∧ stripTup (stripTup tv a) b = stripTup (stripTup tv b) a := by
  cases tv <;> simp only [extractA, stripTup] at h1 h2 ⊢ <;> try (cases h1; done)
  rename_i vs
  rw [List.getElem?_modify] at h2
  simp only [hab, if_false] at h2
  refine ⟨by simpa using h2, by rw [List.getElem?_modify]; simp [Ne.symm hab, h1], ?_⟩
  congr 1
  apply List.ext_getElem?
  intro j
  simp only [List.getElem?_modify]
  by_cases e1 : a = j <;> by_cases e2 : b = j <;> simp [e1, e2]
  all_goals (try (exact (hab (e1.trans e2.symm)).elim))

theorem exPair_inv (h : exPair C f x i = true) : ∃ t a b d e, x.guard = none ∧ i.guard = none ∧ x.op = .extract (.tmp t) a ∧ i.op = .extract (.tmp t) b ∧ x.dst = some d ∧ i.dst = some e ∧
    a ≠ b ∧ d ≠ e ∧ d ≠ t ∧ e ≠ t ∧ C.loc f d = false ∧ C.loc f e = false := by
  unfold exPair at h
  split at h
  · rename_i t a u b d e g1 g2 o1 o2 d1 d2
    simp only [Bool.and_eq_true, Bool.not_eq_true'] at h
    obtain ⟨⟨⟨⟨⟨⟨c1, c2⟩, c3⟩, c4⟩, c5⟩, c6⟩, c7⟩ := h
    have c1 := Nat.eq_of_beq_eq_true c1
    subst c1
    exact ⟨t, a, b, d, e, g1, g2, o1, o2, d1, d2, Nat.ne_of_beq_eq_false c2, Nat.ne_of_beq_eq_false c3, Nat.ne_of_beq_eq_false c4, Nat.ne_of_beq_eq_false c5, c6, c7⟩
  · cases h
theorem swap_ex (hCa : CaMono Ca) (hs : ssa ops.toList) (hB : In ops.toList B) (hx : x ∈ ops.toList) (hi : i ∈ ops.toList) (hlen : B.length + 2 ≤ ops.size) (hex : exPair C f x i = true) (ws : List Oper)
    (hws : ∀ y ∈ ws, y ≠ x → quiet C f ops x y = true ∧ watchable C f ops y = true) (hK : ∀ B1 B2 fr S, Same C f B1 B2 → K B1 fr S → K B2 fr S)
    (h : oneW C Ca f ops B x (fun B1 fr1 S1 => oneW C Ca f ops B1 i (fun B2 fr2 S2 => (∀ y ∈ ws, stable C Ca f ops y B2 fr2 S2) ∧ K B2 fr2 S2) fr1 S1) fr S) :
    oneW C Ca f ops B i (fun B1 fr1 S1 => (∀ y ∈ ws, y ≠ x → stable C Ca f ops y B1 fr1 S1) ∧ oneW C Ca f ops B1 x K fr1 S1) fr S := by
  obtain ⟨t, a, b, d, e, g1, g2, o1, o2, d1, d2, c2, c3, c4, c5, c6, c7⟩ := exPair_inv hex
  obtain ⟨xd, xop, xt, xp, xa, xg⟩ := x
  obtain ⟨id, iop, it, ip, ia, ig⟩ := i
  simp only at g1 g2 o1 o2 d1 d2
  subst g1 g2 o1 o2 d1 d2
  have step : ∀ (d a : Nat) (ty : TypeId) (p : String) (af : Array Edge) (B : List Oper) (K : List Oper → Fr → St → Prop) (fr : Fr) (S : St), C.loc f d = false →
      (oneW C Ca f ops B ⟨some d, .extract (.tmp t) a, ty, p, af, none⟩ K fr S ↔ optK (extractA (fr.v t) a) fun v => K (⟨some d, .extract (.tmp t) a, ty, p, af, none⟩ :: B) ((fr.set t (stripTup (fr.v t) a)).set d v) S) := by
    intro d a ty p af B K fr S hl
    unfold oneW runW
    simp [okDst, hl, agreeR, addrOf, opW, Fr.put]
  rw [step d a xt xp xa B _ fr S c6] at h
  obtain ⟨v, hv, h⟩ := optK_some h
  rw [step e b it ip ia _ _ _ S c7] at h
  obtain ⟨w, hw, h⟩ := optK_some h
  have ht1 : ((fr.set t (stripTup (fr.v t) a)).set d v).v t = stripTup (fr.v t) a := by simp [Fr.set, Ne.symm c4]
  rw [ht1] at hw h
  obtain ⟨k1, k2, k3⟩ := extract_comm c2 hv hw
  rw [step e b it ip ia B _ fr S c7, k1]
  show _ ∧ oneW C Ca f ops _ _ K _ S
  have ht2 : ((fr.set t (stripTup (fr.v t) b)).set e w).v t = stripTup (fr.v t) b := by simp [Fr.set, Ne.symm c5]
  have hfr : ((((fr.set t (stripTup (fr.v t) b)).set e w).set t (stripTup (stripTup (fr.v t) b) a)).set d v) = ((((fr.set t (stripTup (fr.v t) a)).set d v).set t (stripTup (stripTup (fr.v t) a) b)).set e w) := by
    refine Fr.ext' (fun j => ?_) (fun j => rfl)
    simp only [Fr.set, k3]
    by_cases j1 : j = t
    · subst j1; simp [Ne.symm c4, Ne.symm c5]
    · by_cases j2 : j = d
      · subst j2; simp [j1, c3]
      · by_cases j3 : j = e
        · subst j3; simp [j1, j2]
        · simp [j1, j2, j3]
  have hm : Mark (⟨some d, .extract (.tmp t) a, xt, xp, xa, none⟩ : Oper) ⟨some d, .extract (.tmp t) a, xt, xp, xa, none⟩ := .inl rfl
  have hn : Mark (⟨some e, .extract (.tmp t) b, it, ip, ia, none⟩ : Oper) ⟨some e, .extract (.tmp t) b, it, ip, ia, none⟩ := .inl rfl
  have hsm : Same C f (⟨some e, .extract (.tmp t) b, it, ip, ia, none⟩ :: ⟨some d, .extract (.tmp t) a, xt, xp, xa, none⟩ :: B) (⟨some d, .extract (.tmp t) a, xt, xp, xa, none⟩ :: ⟨some e, .extract (.tmp t) b, it, ip, ia, none⟩ :: B) :=
    same_swap (ops := ops) hm hn (fun d' e1 e2 => by cases e1; exact c3 (by cases e2; rfl)) (fun d' e1 e2 => by cases e1; simp [RV, Op.operands, tmpOf] at e2; exact c4 e2) (fun d' e1 e2 => by cases e1; simp [RV, Op.operands, tmpOf] at e2; exact c5 e2)
  refine ⟨fun y hy hne => ?_, ?_⟩
  · obtain ⟨w1, w2⟩ := hws y hy hne
    obtain ⟨d1, d2, d3, _⟩ := watchable_D w2
    have hBn := hB.cons hi hn (by simp; omega)
    have hBnm := (hB.cons hx hm (by simp; omega)).cons hi hn (by simp; omega)
    have := quiet_stable (fr0 := (fr.set t (stripTup (fr.v t) b)).set e w) hCa hs w1 hm hBn hBnm hsm d1 d2 d3 (h.1 y hy)
    refine (?_ : graft _ _ _ _ = (fr.set t (stripTup (fr.v t) b)).set e w) ▸ this
    refine Fr.ext' (fun j => ?_) (fun j => ?_)
    · by_cases hj : j ∈ SW C ops (⟨some d, .extract (.tmp t) a, xt, xp, xa, none⟩ : Oper)
      · simp [graft, hj]
      · rw [graft_v hj]
        simp [SW, opWrites, tmpOf] at hj
        simp [Fr.set, hj.1, hj.2]
    · by_cases hj : j ∈ SB C f ops (⟨some d, .extract (.tmp t) a, xt, xp, xa, none⟩ : Oper)
      · simp [graft, hj]
      · rw [graft_b hj]; rfl
  · rw [step d a xt xp xa _ _ _ S c6, ht2, k2]
    show K _ _ S
    rw [hfr]
    exact hK _ _ _ _ hsm h.2

theorem swap (hCa : CaMono Ca) (hs : ssa ops.toList) (hB : In ops.toList B) (hx : x ∈ ops.toList) (hi : i ∈ ops.toList) (hlen : B.length + 2 ≤ ops.size) (hxi : ∀ d, x.dst = some d → i.dst ≠ some d)
    (hp : canPass C f ops x i = true) (ws : List Oper) (hwx : rS C f ops x = true → dD C f ops i = false → x ∈ ws)
    (hws : ∀ y ∈ ws, y ≠ x → quiet C f ops x y = true ∧ watchable C f ops y = true) (hK : ∀ B1 B2 fr S, Same C f B1 B2 → K B1 fr S → K B2 fr S)
    (h : oneW C Ca f ops B x (fun B1 fr1 S1 => oneW C Ca f ops B1 i (fun B2 fr2 S2 => (∀ y ∈ ws, stable C Ca f ops y B2 fr2 S2) ∧ K B2 fr2 S2) fr1 S1) fr S) :
    oneW C Ca f ops B i (fun B1 fr1 S1 => (∀ y ∈ ws, y ≠ x → stable C Ca f ops y B1 fr1 S1) ∧ oneW C Ca f ops B1 x K fr1 S1) fr S := by
  unfold canPass at hp
  simp only [Bool.and_eq_true, Bool.or_eq_true, Bool.not_eq_true'] at hp
  obtain ⟨hD, hp⟩ := hp
  rcases hp with ⟨hp, hq⟩ | hp
  · refine swap_apart hCa hs hB hx hi hlen hxi hD hp ws (fun e1 e2 => ⟨hwx e1 e2, ?_⟩) hws hK h
    rcases hq with hq | hq
    · simp [e1, e2] at hq
    · exact hq
  · exact swap_ex hCa hs hB hx hi hlen hp ws hws hK h
end
end Go.Av
