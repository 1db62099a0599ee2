/- A part of the proof of a law of this seat: A seat's table, checked: structs that are compared cell by cell. No condition. -/
import Derived.Test.YtcmiahkfbnojnaaA19
import Derived.Laws.StructEq
set_option linter.all false
set_option linter.unusedVariables false
set_option linter.unusedSimpArgs false
/-! A seat's table, checked: structs that are compared cell by cell. -/
namespace Go.Av

theorem cellsEq_append : ∀ {a b a' b' : List AV} {r : Bool}, a.length = b.length → cellsEq (a ++ a') (b ++ b') = some r → ∃ r1 r2, cellsEq a b = some r1 ∧ cellsEq a' b' = some r2 ∧ r = (r1 && r2)
  | [], [], a', b', r, _, h => ⟨true, r, rfl, h, by simp⟩
  | x :: a, y :: b, a', b', r, hl, h => by
    simp only [List.cons_append, cellsEq] at h ⊢
    split at h
    · rename_i e
      obtain ⟨r1, r2, h1, h2, h3⟩ := cellsEq_append (by simpa using hl) h
      exact ⟨r1, r2, by simpa [e] using h1, h2, h3⟩
    · rename_i e
      split at h
      · rename_i q hq
        cases h
        obtain ⟨r1, r2, h1, h2, h3⟩ := cellsEq_append (by simpa using hl) hq
        exact ⟨false, r2, by simp [e, h1], h2, by simp⟩
      · cases h
    · cases h
  | [], _ :: _, _, _, _, hl, _ => by simp at hl
  | _ :: _, [], _, _, _, hl, _ => by simp at hl
theorem cellsEq_length : ∀ {a b : List AV} {r : Bool}, cellsEq a b = some r → a.length = b.length
  | [], [], _, _ => rfl
  | x :: a, y :: b, r, h => by
    simp only [cellsEq] at h
    split at h
    · simp [cellsEq_length h]
    · split at h
      · rename_i q hq; simp [cellsEq_length hq]
      · cases h
    · cases h
  | [], _ :: _, _, h => by simp [cellsEq] at h
  | _ :: _, [], _, h => by simp [cellsEq] at h
theorem typedCells_length : ∀ {a b : List AV}, typedCells a b = true → a.length = b.length
  | [], [], _ => rfl
  | x :: a, y :: b, h => by
    cases x <;> cases y <;> simp only [typedCells, Bool.and_eq_true] at h <;> first | (cases h; done) | simp [typedCells_length h.2] | simp [typedCells_length h]
  | [], _ :: _, h => by simp [typedCells] at h
  | x :: _, [], h => by cases x <;> simp [typedCells] at h
theorem typedCells_append : ∀ {a b a' b' : List AV}, a.length = b.length → typedCells (a ++ a') (b ++ b') = true → typedCells a b = true ∧ typedCells a' b' = true
  | [], [], a', b', _, h => ⟨rfl, h⟩
  | x :: a, y :: b, a', b', hl, h => by
    have hl' : a.length = b.length := by simpa using hl
    cases x <;> cases y <;> simp only [List.cons_append, typedCells, Bool.and_eq_true] at h ⊢ <;> first
      | (cases h; done)
      | exact ⟨⟨h.1, (typedCells_append hl' h.2).1⟩, (typedCells_append hl' h.2).2⟩
      | exact typedCells_append hl' h
  | [], _ :: _, _, _, hl, _ => by simp at hl
  | _ :: _, [], _, _, hl, _ => by simp at hl

def flatFs (P : Program) (ok : TypeId → List AV → Bool) : Nat → List AV → List Field → Bool
  | _, zs, [] => zs.isEmpty
  | off, zs, f :: fs => f.name != "_" && f.offset == off && (match P.info? f.type with | some i => Nat.ble i.size zs.length && ok f.type (zs.take i.size) && flatFs P ok (off + i.size) (zs.drop i.size) fs | none => false)
/-- A type of ints, bools, strings, and structs of such; zs: its zero's cells. -/
def flatOk (P : Program) : Nat → TypeId → List AV → Bool
  | 0, _, _ => false
  | d + 1, t, zs => match P.underlying t with
    | some .bool => (match zs with | [.bool _] => true | _ => false)
    | some (.int k) => (match zs with | [.int k' _] => decide (k = k') | _ => false)
    | some .string => (match zs with | [.str _] => true | _ => false)
    | some (.struct fs) => !P.stoodInHeld t && flatFs P (flatOk P d) 0 zs fs.toList
    | _ => false

/-- A value of a flat type, and its cells. -/
def FlatV (P : Program) (G : Gh) (t : TypeId) (u : Value) (xs : List AV) : Prop :=
  match P.underlying t with
  | some (.struct _) => ∃ arr, u = .agg arr ∧ VR G (.agg arr) (.agg xs)
  | _ => ∃ x, xs = [x] ∧ VR G u x

theorem run_partFlat {P : Program} {w : World} {G : Gh} {d : Nat} {t : TypeId} {zs : List AV} (h : flatOk P d t zs = true) {i : TypeInfo} (hi : P.info? t = some i) (hz : zs.length = i.size) {arr : Array Value} {xs : List AV} (hv : VR G (.agg arr) (.agg xs)) {off : Nat} (hle : off + i.size ≤ xs.length) :
    ∃ u, (part t arr off).run P w = .ok u w ∧ FlatV P G t u ((xs.drop off).take i.size) := by
  cases hv with
  | agg _ _ hl hh =>
    cases d with
    | zero => simp [flatOk] at h
    | succ d =>
      have scalar : i.size = 1 → ∀ dd, P.underlying t = some dd → aggOf dd = false → ∃ u, (part t arr off).run P w = .ok u w ∧ FlatV P G t u ((xs.drop off).take i.size) := by
        intro h1 dd hdd hag
        have hlt : off < xs.length := by omega
        have hlt' : off < arr.size := by omega
        refine ⟨arr[off], ?_, ?_⟩
        · have : (isAgg t).run P w = .ok false w := by
            unfold isAgg; rw [Sem.run_bind, run_underlying hdd w]
            cases dd <;> first | rfl | simp [aggOf] at hag
          simp [part, this, hlt']
        · have hx : (xs.drop off).take i.size = [xs[off]] := by
            rw [h1, List.drop_eq_getElem_cons hlt]; rfl
          have hf : FlatV P G t arr[off] [xs[off]] := by
            unfold FlatV
            rw [hdd]
            cases dd <;> first
              | exact ⟨_, rfl, hh off _ _ (List.getElem?_eq_getElem hlt) (by simp [hlt'])⟩
              | simp [aggOf] at hag
          rw [hx]; exact hf
      simp only [flatOk] at h
      cases hu : P.underlying t with
      | none => simp [hu] at h
      | some dd =>
        rw [hu] at h
        have one : ∀ z, zs = [z] → i.size = 1 := by rintro z rfl; simpa using hz.symm
        cases dd <;> simp at h
        · split at h
          · exact scalar (one _ rfl) _ hu rfl
          · cases h
        · split at h
          · exact scalar (one _ rfl) _ hu rfl
          · cases h
        · split at h
          · exact scalar (one _ rfl) _ hu rfl
          · cases h
        · rename_i fs
          refine ⟨.agg (arr.extract off (off + i.size)), ?_, ?_⟩
          · have : (isAgg t).run P w = .ok true w := by unfold isAgg; rw [Sem.run_bind, run_underlying hu w]; rfl
            have hs : (sizeOf t).run P w = .ok i.size w := by simp [sizeOf, typeInfo, hi]
            simp [part, this, hs]
          · unfold FlatV
            rw [hu]
            refine ⟨_, rfl, .agg _ _ (by simp; omega) fun j y v hy hv => ?_⟩
            rw [List.getElem?_take, List.getElem?_drop] at hy
            split at hy
            · rw [Array.getElem?_extract] at hv
              split at hv
              · exact hh _ _ _ hy hv
              · cases hv
            · cases hy

theorem drop_split {α : Type} (xs : List α) (off n : Nat) : xs.drop off = (xs.drop off).take n ++ xs.drop (off + n) := by
  rw [← List.drop_drop, List.take_append_drop]

theorem run_eqFlat {P : Program} {G : Gh} : ∀ (d : Nat) {t : TypeId} {zs : List AV}, flatOk P d t zs = true → ∀ {n : Nat}, d ≤ n → ∀ {u v : Value} {xs ys : List AV}, FlatV P G t u xs → FlatV P G t v ys → typedCells zs xs = true →
    ∀ {b : Bool}, cellsEq xs ys = some b → ∀ w, (Op.equalIn n t u v).run P w = .ok b w
  | 0, t, zs, h, _, _, _, _, _, _, _, _, _, _, _, _ => by simp [flatOk] at h
  | d + 1, t, zs, h, n, hn, u, v, xs, ys, hx, hy, ht, b, hb, w => by
    obtain ⟨m, rfl⟩ : ∃ m, n = m + 1 := ⟨n - 1, by omega⟩
    have h := h
    simp only [flatOk] at h
    cases hu : P.underlying t with
    | none => simp [hu] at h
    | some dd =>
      rw [hu] at h
      have two : ∀ x y, xs = [x] → ys = [y] → cellEq x y = some b := by
        rintro x y rfl rfl
        simp only [cellsEq] at hb
        split at hb
        · rename_i e; rw [e]; cases hb; rfl
        · rename_i e; rw [e]; cases hb; rfl
        · cases hb
      cases dd <;> simp at h
      · -- bool
        split at h
        · simp only [FlatV, hu] at hx hy
          obtain ⟨x, rfl, hx⟩ := hx; obtain ⟨y, rfl, hy⟩ := hy
          have e := two x y rfl rfl
          cases x <;> simp only [typedCells] at ht <;> try (cases ht; done)
          cases y <;> simp only [cellEq] at e <;> try (cases e; done)
          cases hx; cases hy; cases e
          simp [Op.equalIn, run_underlying hu]
        · cases h
      · split at h
        · simp only [FlatV, hu] at hx hy
          obtain ⟨x, rfl, hx⟩ := hx; obtain ⟨y, rfl, hy⟩ := hy
          have e := two x y rfl rfl
          cases x <;> simp only [typedCells] at ht <;> try (cases ht; done)
          cases y <;> simp only [cellEq] at e <;> try (cases e; done)
          split at e
          · rename_i hk; subst hk
            cases hx; cases hy; cases e
            simp [Op.equalIn, run_underlying hu]
          · cases e
        · cases h
      · split at h
        · simp only [FlatV, hu] at hx hy
          obtain ⟨x, rfl, hx⟩ := hx; obtain ⟨y, rfl, hy⟩ := hy
          have e := two x y rfl rfl
          cases x <;> simp only [typedCells] at ht <;> try (cases ht; done)
          cases y <;> simp only [cellEq] at e <;> try (cases e; done)
          cases hx; cases hy; cases e
          rename_i l1 l2
          simp only [Op.equalIn, Sem.run_bind, run_underlying hu, Result.andThen_ok, Sem.run_pure]
          congr 1
          show ((⟨⟨l1⟩⟩ : ByteArray) == ⟨⟨l2⟩⟩) = (l1 == l2)
          show ((⟨l1⟩ : Array UInt8) == ⟨l2⟩) = (l1 == l2)
          simp
        · cases h
      · -- struct
        rename_i fs
        obtain ⟨hs, hf⟩ := h
        simp only [FlatV, hu] at hx hy
        obtain ⟨arr, rfl, hx⟩ := hx; obtain ⟨arr', rfl, hy⟩ := hy
        have hfo : P.fieldsOf t = fs := by simp [Program.fieldsOf, hu]
        rw [run_equalIn_struct w m t arr arr' (by rw [hfo]; exact hu) (by simpa using hs), hfo]
        generalize hg : fs.toList = l at hf
        clear hg hfo hu hs
        have go : ∀ (l : List Field) (off : Nat) (zs : List AV) (b : Bool), off ≤ xs.length → off ≤ ys.length → flatFs P (flatOk P d) off zs l = true → typedCells zs (xs.drop off) = true → cellsEq (xs.drop off) (ys.drop off) = some b → (Op.eqFields m arr arr' l).run P w = .ok b w := by
          intro l
          induction l with
          | nil =>
            intro off zs b ho ho' hf ht hb
            simp only [flatFs, List.isEmpty_iff] at hf
            subst hf
            have : xs.drop off = [] := by cases hq : xs.drop off <;> simp_all [typedCells]
            rw [this] at hb
            have h2 : ys.drop off = [] := by
              have := cellsEq_length hb
              exact List.eq_nil_of_length_eq_zero this.symm
            rw [h2] at hb; cases hb
            rfl
          | cons f l ih =>
            intro off zs b ho ho' hf ht hb
            simp only [flatFs, Bool.and_eq_true, bne_iff_ne, beq_iff_eq] at hf
            obtain ⟨⟨hn1, ho2⟩, hf⟩ := hf
            split at hf
            · rename_i i hi
              simp only [Bool.and_eq_true] at hf
              obtain ⟨⟨hle, hok⟩, hrest⟩ := hf
              have hle := Nat.le_of_ble_eq_true hle
              have hl1 := typedCells_length ht
              have hl2 := cellsEq_length hb
              simp only [List.length_drop] at hl1 hl2
              have hx1 : off + i.size ≤ xs.length := by omega
              have hy1 : off + i.size ≤ ys.length := by omega
              obtain ⟨p1, r1, q1⟩ := run_partFlat (w := w) hok hi (by simp; omega) hx hx1
              obtain ⟨p2, r2, q2⟩ := run_partFlat (w := w) hok hi (by simp; omega) hy hy1
              rw [drop_split xs off i.size] at ht hb
              rw [drop_split ys off i.size] at hb
              have ht' := ht
              rw [← List.take_append_drop i.size zs] at ht'
              obtain ⟨t1, t2⟩ := typedCells_append (by simp; omega) ht'
              obtain ⟨b1, b2, e1, e2, e3⟩ := cellsEq_append (by simp; omega) hb
              have heq := run_eqFlat d hok (n := m) (by omega) q1 q2 t1 e1 w
              have hih := ih (off + i.size) _ b2 hx1 hy1 hrest t2 e2
              subst ho2
              simp only [Op.eqFields, ne_eq, hn1, not_false_eq_true, if_true, Sem.run_bind, r1, Result.andThen_ok, r2, heq]
              cases b1
              · simp [e3]
              · simpa [e3] using hih
            · cases hf
        exact go l 0 zs b (Nat.zero_le _) (Nat.zero_le _) hf (by simpa using ht) (by simpa using hb)

theorem run_checkFlat {P : Program} {G : Gh} (em : Bool) : ∀ (d : Nat) {t : TypeId} {zs : List AV}, flatOk P d t zs = true → ∀ {n : Nat}, d ≤ n → ∀ {u : Value} {xs : List AV}, FlatV P G t u xs → typedCells zs xs = true →
    ∀ w, (Instr.checkKey em n t u).run P w = .ok () w
  | 0, t, zs, h, _, _, _, _, _, _, _ => by simp [flatOk] at h
  | d + 1, t, zs, h, n, hn, u, xs, hx, ht, w => by
    obtain ⟨m, rfl⟩ : ∃ m, n = m + 1 := ⟨n - 1, by omega⟩
    simp only [flatOk] at h
    cases hu : P.underlying t with
    | none => simp [hu] at h
    | some dd =>
      rw [hu] at h
      cases dd <;> simp at h
      · simp [Instr.checkKey, run_underlying hu]
      · simp [Instr.checkKey, run_underlying hu]
      · simp [Instr.checkKey, run_underlying hu]
      · rename_i fs
        obtain ⟨hs, hf⟩ := h
        simp only [FlatV, hu] at hx
        obtain ⟨arr, rfl, hx⟩ := hx
        simp only [Instr.checkKey, Sem.run_bind, run_underlying hu, Result.andThen_ok]
        rw [← Array.forIn_toList]
        generalize hg : fs.toList = l at hf
        clear hg hu hs
        have go : ∀ (l : List Field) (off : Nat) (zs : List AV), off ≤ xs.length → flatFs P (flatOk P d) off zs l = true → typedCells zs (xs.drop off) = true →
            (forIn l PUnit.unit fun f (_ : PUnit) => (if f.name ≠ "_" then (do let a ← part f.type arr f.offset; Instr.checkKey em m f.type a; pure (ForInStep.yield PUnit.unit)) else pure (ForInStep.yield PUnit.unit) : Sem (ForInStep PUnit))).run P w = .ok PUnit.unit w := by
          intro l
          induction l with
          | nil => intro off zs ho hf ht; rfl
          | cons f l ih =>
            intro off zs ho hf ht
            simp only [flatFs, Bool.and_eq_true, bne_iff_ne, beq_iff_eq] at hf
            obtain ⟨⟨hn1, ho2⟩, hf⟩ := hf
            split at hf
            · rename_i i hi
              simp only [Bool.and_eq_true] at hf
              obtain ⟨⟨hle, hok⟩, hrest⟩ := hf
              have hle := Nat.le_of_ble_eq_true hle
              have hl1 := typedCells_length ht
              simp only [List.length_drop] at hl1
              have hx1 : off + i.size ≤ xs.length := by omega
              obtain ⟨p1, r1, q1⟩ := run_partFlat (w := w) hok hi (by simp; omega) hx hx1
              rw [drop_split xs off i.size] at ht
              have ht' := ht
              rw [← List.take_append_drop i.size zs] at ht'
              obtain ⟨t1, t2⟩ := typedCells_append (by simp; omega) ht'
              have heq := run_checkFlat em d hok (n := m) (by omega) q1 t1 w
              have hih := ih (off + i.size) _ hx1 hrest t2
              subst ho2
              simp only [List.forIn_cons, ne_eq, hn1, not_false_eq_true, if_true, Sem.run_bind, r1, Result.andThen_ok, heq, Sem.run_pure]
              exact hih
            · cases hf
        have := go l 0 zs (Nat.zero_le _) hf (by simpa using ht)
        rw [this]; rfl

def eqkCheck (P : Program) (t : Nat) (zs : List AV) : Bool := flatOk P 12 t zs && (match P.underlying t with | some (.struct _) => true | _ => false) && !(P.eqGuardType P.depth t)
theorem eqkCheck_flat {P : Program} {G : Gh} {t : Nat} {zs : List AV} (h : eqkCheck P t zs = true) : flatOk P 12 t zs = true ∧ P.eqGuardType P.depth t = false ∧ ∀ v xs, VR G v (.agg xs) → FlatV P G t v xs := by
  simp only [eqkCheck, Bool.and_eq_true, Bool.not_eq_true'] at h
  refine ⟨h.1.1, h.2, fun v xs hv => ?_⟩
  have h2 := h.1.2
  cases hu : P.underlying t with
  | none => simp [hu] at h2
  | some dd =>
    rw [hu] at h2
    cases dd <;> simp at h2
    simp only [FlatV, hu]
    cases hv with
    | agg _ vs hl hh => exact ⟨vs, rfl, .agg _ _ hl hh⟩

/-- A seat's table agrees with its program, by one reckoning. -/
theorem agree_of (E : Env) (L K : List Nat) (hL : ∀ t, E.C.has t = true → L.elem t = true) (hK : ∀ t, E.C.eqk t = true → K.elem t = true)
    (h1 : L.all (fun t => tyCheck E.P t (E.C.ty t)) = true) (h2 : K.all (fun t => eqkCheck E.P t (E.C.ty t).zero) = true)
    (hm : ∀ t m g, E.C.meth t m = some g → ∀ v w, (method (E.P.types.size + Made.depth) t v m).run E.P w = .ok (g, v) w) : Agree E := by
  have k2 : ∀ t, E.C.eqk t = true → eqkCheck E.P t (E.C.ty t).zero = true := fun t h => List.all_eq_true.1 h2 t (List.elem_iff.1 (hK t h))
  refine ⟨fun t h => tyCheck_spec (List.all_eq_true.1 h1 t (List.elem_iff.1 (hL t h))), fun t h G v u xs ys b hv hu ht hb w => ?_, fun t h op x y v u w => ?_, fun t h G v xs hv ht e w => ?_, hm⟩
  · obtain ⟨q1, _, q3⟩ := eqkCheck_flat (G := G) (k2 t h)
    exact run_eqFlat 12 q1 (n := 10000) (by omega) (q3 v xs hv) (q3 u ys hu) ht hb w
  · obtain ⟨_, q2, _⟩ := eqkCheck_flat (G := ⟨fun _ _ => none, fun _ => none, fun _ => .ext, fun _ => 0⟩) (k2 t h)
    exact run_eqGuard_agg w op t x y v u q2
  · obtain ⟨q1, _, q3⟩ := eqkCheck_flat (G := G) (k2 t h)
    exact run_checkFlat e 12 q1 (n := 10000) (by omega) (q3 v xs hv) ht w
end Go.Av
