/- A part of the proof of a law of this seat: Comparisons at the other types; maps. No condition. -/
import Derived.Test.YtcmiahkfbnojnaaA5
set_option linter.all false
set_option linter.unusedVariables false
set_option linter.unusedSimpArgs false
/-! Comparisons at the other types; maps. -/
namespace Go.Av
variable {E : Env} {G : Gh} {w : World} {S : St}

theorem cells_ne (h : Rel E G w S) {i j b b' : Nat} {cs cs' : List AV} (hi : objCells S i = some cs) (hj : objCells S j = some cs') (hne : i ≠ j) (hb : G.rho i = some b) (hb' : G.rho j = some b') :
    b ≠ b' ∧ (∃ arr e, w.heap[b]? = some (.cells arr e (0, 0))) ∧ ∃ arr e, w.heap[b']? = some (.cells arr e (0, 0)) := by
  obtain ⟨b1, arr1, e1, _, h2, h3, h4, _⟩ := h.cells hi
  obtain ⟨b2, arr2, e2, _, k2, k3, k4, _⟩ := h.cells hj
  rw [hb] at h2; cases h2
  rw [hb'] at k2; cases k2
  refine ⟨?_, ⟨_, _, h4⟩, _, _, k4⟩
  rintro rfl
  rw [h3] at k3
  simp at k3
  exact hne k3

theorem run_sameAddr {P : Program} {w : World} {a b : Addr} (hne : a.block ≠ b.block) (ha : ∃ arr e, w.heap[a.block]? = some (.cells arr e (0, 0))) (hb : ∃ arr e, w.heap[b.block]? = some (.cells arr e (0, 0))) :
    (sameAddr a b).run P w = .ok false w := by
  obtain ⟨arr, e, ha⟩ := ha
  obtain ⟨arr', e', hb⟩ := hb
  have fa : ∀ o s, w.frozen? ⟨a.block, o, s⟩ = false := fun o s => by simp [World.frozen?, ha]
  have fb : ∀ o s, w.frozen? ⟨b.block, o, s⟩ = false := fun o s => by simp [World.frozen?, hb]
  have fa' : w.frozen? a = false := fa a.off a.spot
  have fb' : w.frozen? b = false := fb b.off b.spot
  have sa : w.shape? a.block = some (e, arr.size) := by simp [World.shape?, ha]
  have sb : w.shape? b.block = some (e', arr'.size) := by simp [World.shape?, hb]
  simp [sameAddr, hne, fa', fb', noView, viewAt, sa, sb, mayBeOne, stringish, fa, fb]

theorem eqKind_spec (C : Ctx) {t : Nat} {lit : Bool} : match eqKind C t lit with
    | .bool => (C.ty t).kind = .bool
    | .ptr => ∃ e, (C.ty t).kind = .ptr e
    | .ptr2 => ∃ e, (C.ty t).kind = .ptr e ∧ C.has e = true ∧ (C.ty e).size ≠ 0
    | .slice => ∃ e, (C.ty t).kind = .slice e
    | .map => ∃ k e, (C.ty t).kind = .map k e
    | .ifc => (C.ty t).kind = .iface ∧ lit = true
    | .fn => (C.ty t).kind = .func
    | .agg z => C.eqk t = true ∧ z = (C.ty t).zero
    | _ => True := by
  unfold eqKind
  cases hk : (C.ty t).kind <;> simp only <;> (try trivial) <;> (try exact ⟨_, rfl⟩) <;> (try exact ⟨_, _, rfl⟩) <;> (try rfl)
  · cases hq : C.eqk t <;> simp [hq]
  · rename_i e
    cases lit with
    | true => exact ⟨_, rfl⟩
    | false =>
      cases h1 : C.has e && !(Nat.beq (C.ty e).size 0) with
      | false => simp [h1]
      | true =>
        simp only [Bool.and_eq_true, Bool.not_eq_true'] at h1
        simp only [h1.1, h1.2, Bool.not_false, Bool.and_self]
        refine ⟨e, rfl, h1.1, fun e0 => ?_⟩
        rw [e0] at h1; simp at h1
  · cases lit <;> simp

theorem TyOk.kindU {P : Program} {t : Nat} {ti : TI} (h : TyOk P t ti) : ∃ d, P.underlying t = some d ∧ kindOk P d ti.kind = true := by
  obtain ⟨d, h1, h2, _⟩ := h.under; exact ⟨d, h1, h2⟩


theorem equal_of {P : Program} {w : World} {t : Nat} {u v : Value} {r : Bool} (h : ∀ d, (Op.equalIn (d + 1) t u v).run P w = .ok r w) : (Op.equal t u v).run P w = .ok r w := h 9999
/-- A comparison comes to an equality. -/
def EqRuns (E : Env) (w : World) (t : Nat) (x' y' : Operand) (u v : Value) (r : Bool) : Prop :=
  (∀ op, (eqGuard op t x' y' u v).run E.P w = .ok () w) ∧ (Op.equal t u v).run E.P w = .ok r w ∧
    (binOp .eql t u v).run E.P w = ((Op.equal t u v).run E.P w).andThen (fun b w => .ok (.bool b) w) ∧ (binOp .neq t u v).run E.P w = ((Op.equal t u v).run E.P w).andThen (fun b w => .ok (.bool (!b)) w)

theorem EqRuns.mk' {t : Nat} {x' y' : Operand} {u v : Value} {r : Bool} (h1 : ∀ op, (eqGuard op t x' y' u v).run E.P w = .ok () w) (h2 : (Op.equal t u v).run E.P w = .ok r w)
    (h3 : binOp .eql t u v = (Op.equal t u v >>= fun b => pure (.bool b))) (h4 : binOp .neq t u v = (Op.equal t u v >>= fun b => pure (.bool (!b)))) : EqRuns E w t x' y' u v r :=
  ⟨h1, h2, by rw [h3, Sem.run_bind]; rfl, by rw [h4, Sem.run_bind]; rfl⟩

theorem EqRuns.finish {t : Nat} {x' y' : Operand} {u v : Value} {r : Bool} (h : EqRuns E w t x' y' u v r) {op : BinOp} {z : AV} (hz : (match op with | .eql => some (AV.bool r) | .neq => some (.bool (!r)) | _ => none) = some z) :
    ∃ q, (do eqGuard op t x' y' u v; binOp op t u v : Sem Value).run E.P w = .ok q w ∧ VR G q z ∧ z.cell1 = true := by
  obtain ⟨h1, h2, h3, h4⟩ := h
  cases op <;> simp at hz
  · subst hz; exact ⟨.bool r, by rw [Sem.run_bind, h1, Result.andThen_ok, h3, h2]; rfl, .bool _, rfl⟩
  · subst hz; exact ⟨.bool (!r), by rw [Sem.run_bind, h1, Result.andThen_ok, h4, h2]; rfl, .bool _, rfl⟩

/-- Equality at one of the kinds. -/
theorem run_eqA (A : Agree E) {t : Nat} (ht : E.C.has t = true) {x' y' : Operand} {k : EK} (hk : eqKind E.C t (isLit x' || isLit y') = k) {u v : Value} {a b : AV} {r : Bool} (hu : VR G u a) (hv : VR G v b) (h : eqA k a b = some r) :
    EqRuns E w t x' y' u v r := by
  have hs := eqKind_spec E.C (t := t) (lit := isLit x' || isLit y')
  rw [hk] at hs
  obtain ⟨d, hd, hkd⟩ := (A.ty t ht).kindU
  unfold eqA at h
  split at h <;> (try simp only [Option.some.injEq, reduceCtorEq] at h) <;> (try simp only at hs)
  case h_1 =>
    obtain rfl := hu.bool_inv
    obtain rfl := hv.bool_inv
    rw [hs] at hkd
    cases d <;> simp [kindOk] at hkd
    exact .mk' (fun op => by rw [eqGuard_at_bool]; rfl) (equal_of fun d => by rw [Op.equalIn]; simp [run_underlying hd, h]) rfl rfl
  case h_2 =>
    cases hu; cases hv; subst h
    obtain ⟨e, hs⟩ := hs
    rw [hs] at hkd
    cases d <;> simp [kindOk] at hkd
    exact .mk' (fun op => by rw [eqGuard_at_pointer]; rfl) (equal_of fun d => by rw [Op.equalIn]; simp [run_underlying hd]) rfl rfl
  case h_3 =>
    cases hu; cases hv; subst h
    obtain ⟨e, hs⟩ := hs
    rw [hs] at hkd
    cases d <;> simp [kindOk] at hkd
    exact .mk' (fun op => by rw [eqGuard_at_pointer]; rfl) (equal_of fun d => by rw [Op.equalIn]; simp [run_underlying hd]) rfl rfl
  case h_4 =>
    cases hu; cases hv; subst h
    obtain ⟨e, hs⟩ := hs
    rw [hs] at hkd
    cases d <;> simp [kindOk] at hkd
    exact .mk' (fun op => by rw [eqGuard_at_pointer]; rfl) (equal_of fun d => by rw [Op.equalIn]; simp [run_underlying hd]) rfl rfl
  case h_5 =>
    cases hu; cases hv; subst h
    obtain ⟨e, hs⟩ := hs
    rw [hs] at hkd
    cases d <;> simp [kindOk] at hkd
    exact .mk' (fun op => by rw [eqGuard_at_pointer]; rfl) (equal_of fun d => by rw [Op.equalIn]; simp [run_underlying hd]) rfl rfl
  case h_6 =>
    cases hu; cases hv; subst h
    obtain ⟨e, hs⟩ := hs
    rw [hs] at hkd
    cases d <;> simp [kindOk] at hkd
    exact .mk' (fun op => by rw [eqGuard_at_pointer]; rfl) (equal_of fun d => by rw [Op.equalIn]; simp [run_underlying hd]) rfl rfl
  case h_7 =>
    obtain ⟨e, hs⟩ := hs
    rw [hs] at hkd
    cases d <;> simp [kindOk] at hkd
    cases hv with
    | vse _ _ _ hr => simp at hr
    | vs _ _ _ _ _ _ _ hr => exact (hr rfl).elim
    | vsnil =>
      cases hu with
      | vsnil => exact .mk' (fun op => by rw [eqGuard_at_slice]; rfl) (equal_of fun d => by rw [Op.equalIn]; simp [run_underlying hd, ← h]) rfl rfl
      | vse _ _ _ hr =>
        have hn : r = false := by
          rw [← h]
          exact beq_eq_false_iff_ne.2 (by rcases hr with rfl | rfl <;> simp)
        subst hn
        exact .mk' (fun op => by rw [eqGuard_at_slice]; rfl) (equal_of fun d => by rw [Op.equalIn]; simp [run_underlying hd]) rfl rfl
      | vs b o cap _ _ _ f hr =>
        have hn : r = false := by
          rw [← h]
          exact beq_eq_false_iff_ne.2 hr
        subst hn
        exact .mk' (fun op => by rw [eqGuard_at_slice]; rfl) (equal_of fun d => by rw [Op.equalIn]; simp [run_underlying hd]) rfl rfl
  case h_8 =>
    obtain ⟨e, hs⟩ := hs
    rw [hs] at hkd
    cases d <;> simp [kindOk] at hkd
    subst h
    cases hv with
    | vse _ _ _ hr => simp at hr
    | vs _ _ _ _ _ _ _ hr => exact (hr rfl).elim
    | vsnil =>
      cases hu
      exact .mk' (fun op => by rw [eqGuard_at_slice]; rfl) (equal_of fun d => by rw [Op.equalIn]; simp [run_underlying hd]) rfl rfl
  case h_9 =>
    obtain ⟨k', e, hs⟩ := hs
    rw [hs] at hkd
    cases d <;> simp [kindOk] at hkd
    subst h
    cases hv
    cases hu <;> exact .mk' (fun op => by rw [eqGuard_at_map]; rfl) (equal_of fun d => by rw [Op.equalIn]; simp [run_underlying hd]) rfl rfl
  case h_10 =>
    obtain ⟨hs, hlit⟩ := hs
    rw [hs] at hkd
    cases d <;> simp [kindOk] at hkd
    subst h
    cases hv; cases hu
    refine .mk' (fun op => ?_) (equal_of fun d => by rw [Op.equalIn]; simp [run_underlying hd]) rfl rfl
    cases x' <;> cases y' <;> simp [isLit] at hlit <;> simp [eqGuard_nil_constR, eqGuard_nil_constL]
  case h_11 =>
    obtain ⟨hs, hlit⟩ := hs
    rw [hs] at hkd
    cases d <;> simp [kindOk] at hkd
    subst h
    cases hv; cases hu
    exact .mk' (fun op => by rw [eqGuard_at_iface]; rfl) (equal_of fun d => by rw [Op.equalIn]; simp [run_underlying hd]) rfl rfl
  case h_12 =>
    rw [hs] at hkd
    cases d <;> simp [kindOk] at hkd
    subst h
    cases hv; cases hu
    exact .mk' (fun op => by rw [eqGuard_at_nilFunc]; rfl) (equal_of fun d => by rw [Op.equalIn]; simp [run_underlying hd]) rfl rfl
  case h_13 =>
    rw [hs] at hkd
    cases d <;> simp [kindOk] at hkd
    subst h
    cases hv; cases hu
    exact .mk' (fun op => by rw [eqGuard_at_func]; rfl) (equal_of fun d => by rw [Op.equalIn]; simp [run_underlying hd]) rfl rfl
  case h_14 =>
    obtain ⟨hs, rfl⟩ := hs
    split at h
    case isFalse => cases h
    rename_i hty
    have hu' := hu
    have hv' := hv
    cases hu; cases hv
    exact .mk' (fun op => A.eqg t hs _ _ _ _ _ _) (A.eq t hs _ _ _ _ _ _ hu' hv' hty h w) rfl rfl

theorem run_binE (A : Agree E) {t : Nat} (ht : E.C.has t = true) {x' y' : Operand} {k : EK} (hk : eqKind E.C t (isLit x' || isLit y') = k) {op : BinOp} {u v : Value} {a b r : AV} (hu : VR G u a) (hv : VR G v b) (h : binE k op a b = some r) :
    ∃ z, (do eqGuard op t x' y' u v; binOp op t u v : Sem Value).run E.P w = .ok z w ∧ VR G z r ∧ r.cell1 = true := by
  unfold binE at h
  split at h
  · rw [Option.map_eq_some_iff] at h
    obtain ⟨q, h1, rfl⟩ := h
    exact (run_eqA A ht hk hu hv h1).finish rfl
  · rw [Option.map_eq_some_iff] at h
    obtain ⟨q, h1, rfl⟩ := h
    exact (run_eqA A ht hk hu hv h1).finish rfl
  · cases h

theorem run_equalIn_ptr {P : Program} {w : World} (d : Nat) {t e : Nat} {s : Nat} (h1 : P.underlying t = some (.pointer e)) (h2 : (sizeOf e).run P w = .ok s w) (h3 : s ≠ 0) (a b : Addr) :
    (Op.equalIn (d + 1) t (.pointer (some a)) (.pointer (some b))).run P w = (sameAddr a b).run P w := by
  rw [Op.equalIn]
  simp only [Sem.run_bind, run_underlying h1, Result.andThen_ok, h2, h3, ne_eq, not_false_eq_true, if_true]
theorem run_sameAddr_block {P : Program} {w : World} {a b : Addr} (h : a.block = b.block) : (sameAddr a b).run P w = .ok (a == b) w := by
  unfold sameAddr
  simp [h]
theorem run_eqPtr (A : Agree E) (hr : Rel E G w S) {t : Nat} (ht : E.C.has t = true) {x' y' : Operand} (hk : eqKind E.C t (isLit x' || isLit y') = .ptr2) {u v : Value} {a b : AV} {r : Bool} (hu : VR G u a) (hv : VR G v b) (h : eqPtrA S a b = some r) :
    EqRuns E w t x' y' u v r := by
  have hs := eqKind_spec E.C (t := t) (lit := isLit x' || isLit y')
  rw [hk] at hs
  obtain ⟨e, h1, h2, h3⟩ := hs
  obtain ⟨d, hd, hkd⟩ := (A.ty t ht).kindU
  rw [h1] at hkd
  cases d <;> simp [kindOk] at hkd
  subst hkd
  unfold eqPtrA at h
  split at h
  · rename_i i a j b
    cases hu with
    | ptr _ _ bi hbi =>
      cases hv with
      | ptr _ _ bj hbj =>
        split at h
        · rename_i hij
          subst hij
          rw [hbi] at hbj; cases hbj
          cases h
          refine .mk' (fun op => by rw [eqGuard_at_pointer]; rfl) ?_ rfl rfl
          have : ((⟨bi, a, none⟩ : Addr) == ⟨bi, b, none⟩) = (a == b) := by
            by_cases e : a = b
            · subst e; simp only [BEq.rfl]
            · have : (⟨bi, a, none⟩ : Addr) ≠ ⟨bi, b, none⟩ := by simp [e]
              simp only [beq_eq_false_iff_ne.2 this, beq_eq_false_iff_ne.2 e]
          rw [Op.equal, Op.maxDepth, run_equalIn_ptr 9999 hd (run_sizeOf A h2 w) h3, run_sameAddr_block (a := ⟨bi, a, none⟩) (b := ⟨bi, b, none⟩) rfl, this]
        · rename_i hij
          split at h
          · rename_i hc
            cases h
            obtain ⟨cs, hcs⟩ := Option.isSome_iff_exists.1 hc.1
            obtain ⟨cs', hcs'⟩ := Option.isSome_iff_exists.1 hc.2
            obtain ⟨k1, k2, k3⟩ := cells_ne hr hcs hcs' hij hbi hbj
            refine .mk' (fun op => by rw [eqGuard_at_pointer]; rfl) ?_ rfl rfl
            have := run_sameAddr (P := E.P) (w := w) (a := ⟨bi, a, none⟩) (b := ⟨bj, b, none⟩) k1 k2 k3
            rw [Op.equal, Op.maxDepth, run_equalIn_ptr 9999 hd (run_sizeOf A h2 w) h3, this]
          · cases h
  · unfold eqA at h
    split at h <;> (try simp only [Option.some.injEq, reduceCtorEq] at h)
    all_goals (try contradiction)
    all_goals
      cases hu; cases hv; subst h
      exact .mk' (fun op => by rw [eqGuard_at_pointer]; rfl) (equal_of fun d => by rw [Op.equalIn]; simp [run_underlying hd]) rfl rfl
theorem run_binP (A : Agree E) (hr : Rel E G w S) {t : Nat} (ht : E.C.has t = true) {x' y' : Operand} (hk : eqKind E.C t (isLit x' || isLit y') = .ptr2) {op : BinOp} {u v : Value} {a b r : AV} (hu : VR G u a) (hv : VR G v b) (h : binP S op a b = some r) :
    ∃ z, (do eqGuard op t x' y' u v; binOp op t u v : Sem Value).run E.P w = .ok z w ∧ VR G z r ∧ r.cell1 = true := by
  unfold binP at h
  split at h
  · rw [Option.map_eq_some_iff] at h
    obtain ⟨q, h1, rfl⟩ := h
    exact (run_eqPtr A hr ht hk hu hv h1).finish rfl
  · rw [Option.map_eq_some_iff] at h
    obtain ⟨q, h1, rfl⟩ := h
    exact (run_eqPtr A hr ht hk hu hv h1).finish rfl
  · cases h
end Go.Av
