/- A part of the proof of a law of this seat: Memory: reading, writing, new blocks. No condition. -/
import Derived.Test.YtcmiahkfbnojnaaA2
set_option linter.all false
set_option linter.unusedVariables false
/-! Memory: reading, writing, new blocks. -/
namespace Go.Av
variable {E : Env} {f n : Nat} {Gs G : Gh} {ws w : World} {S : St} {a : Act} {fr : Fr} {before : List Oper}

theorem cell_row {w : World} {b j : Nat} {arr : Array Value} {e : TypeId} {fz : Nat × Nat} (h : w.heap[b]? = some (.cells arr e fz)) : w.cell? ⟨b, j, none⟩ = arr[j]? := cell_of_row w b j arr e fz h
theorem RowR.get {κ : Nat → Key} {arr : Array Value} {cs : List AV} (h : RowR G w κ arr cs) {j : Nat} {x : AV} (hx : cs[j]? = some x) : ∃ v, arr[j]? = some v ∧ CellR G w (κ j) v x := by
  have hj : j < cs.length := (List.getElem?_eq_some_iff.1 hx).1
  have hj' : j < arr.size := Nat.lt_of_lt_of_le hj h.1
  exact ⟨arr[j], by simp [hj'], h.2 j x _ hx (by simp [hj'])⟩

theorem run_isAgg (A : Agree E) {t : Nat} (ht : E.C.has t = true) (w : World) : (isAgg t).run E.P w = .ok (E.C.ty t).agg w := by
  obtain ⟨i, z, d, h1, h2, h3, h4, h5, h6, h7, _⟩ := (A.ty t ht).ex
  unfold isAgg
  rw [Sem.run_bind, run_underlying h5 w, h7]
  cases d <;> rfl
theorem run_sizeOf (A : Agree E) {t : Nat} (ht : E.C.has t = true) (w : World) : (sizeOf t).run E.P w = .ok (E.C.ty t).size w := by
  obtain ⟨i, z, d, h1, h2, _⟩ := (A.ty t ht).ex
  simp [sizeOf, typeInfo, h1, h2]

theorem run_read (A : Agree E) {t : Nat} (ht : E.C.has t = true) {cs : List AV} {b o : Nat} {g : Nat → Value}
    (hc : ∀ (j : Nat) (x : AV), cs[j]? = some x → w.cell? ⟨b, o + j, none⟩ = some (g j) ∧ VR G (g j) x) {off : Nat} {x : AV} (h : readT (E.C.ty t) cs off = some x) :
    ∃ v, (loadVar t ⟨b, o + off, none⟩).run E.P w = .ok v w ∧ VR G v x ∧ ((cs[off]? = some x ∧ v = g off) ∨ ∃ ds, x = .agg ds ∧ ds.length = (E.C.ty t).size ∧ ∀ c ∈ ds, c ∈ cs) := by
  unfold readT at h
  have hagg := run_isAgg A ht w
  unfold loadVar
  rw [Sem.run_bind, hagg]
  cases hk : (E.C.ty t).agg with
  | false =>
    simp only [hk, Bool.false_eq_true, if_false] at h
    obtain ⟨h1, h2⟩ := hc off x h
    exact ⟨g off, by simp [Result.andThen, h1], h2, .inl ⟨h, rfl⟩⟩
  | true =>
    simp only [hk, if_true] at h
    split at h
    · rename_i hle
      simp only [Option.some.injEq] at h
      subst h
      have hcell : ∀ j, j < (E.C.ty t).size → w.cell? ((⟨b, o + off, none⟩ : Addr).add j) = some (g (off + j)) := fun j hj => by
        have hlt : off + j < cs.length := by omega
        rw [Addr.add_lit, Nat.add_assoc]
        exact (hc (off + j) cs[off + j] (List.getElem?_eq_getElem hlt)).1
      have hl := run_loadCells (P := E.P) w ⟨b, o + off, none⟩ (E.C.ty t).size (fun j => g (off + j)) hcell
      refine ⟨.agg ((List.range (E.C.ty t).size).map fun j => g (off + j)).toArray, ?_, ?_, .inr ⟨_, rfl, ?_, ?_⟩⟩
      · simp only [Result.andThen_ok, if_true, Sem.run_bind, run_sizeOf A ht, hl]; rfl
      · refine .agg _ _ (by simp; omega) fun i y v hy hv => ?_
        simp only [List.getElem?_take, List.getElem?_drop] at hy
        split at hy
        · rename_i hi
          have : v = g (off + i) := by simpa [hi] using hv.symm
          rw [this]
          exact (hc _ _ hy).2
        · cases hy
      · simp; omega
      · intro c hcm
        exact List.mem_of_mem_drop (List.mem_of_mem_take hcm)
    · cases h

/-- The cells behind an object's pointer. -/
theorem Rel.cells (h : Rel E G w S) {id : Nat} {cs : List AV} (hs : objCells S id = some cs) : ∃ b arr e, S[id]? = some (.cells cs) ∧ G.rho id = some b ∧ G.role b = .obj id ∧ w.heap[b]? = some (.cells arr e (0, 0)) ∧ RowR G w (.ocell id) arr cs := by
  unfold objCells at hs
  split at hs
  · rename_i cs' hcs
    simp only [Option.some.injEq] at hs
    subst hs
    obtain ⟨b, arr, e, h1, h2, h3, h4⟩ := h.obj id _ hcs
    exact ⟨b, arr, e, hcs, h1, h2, h3, h4⟩
  · cases hs
theorem RowR.reads {κ : Nat → Key} {arr : Array Value} {cs : List AV} (h : RowR G w κ arr cs) {b : Nat} {e : TypeId} {fz : Nat × Nat} (hb : w.heap[b]? = some (.cells arr e fz)) :
    ∀ (j : Nat) (x : AV), cs[j]? = some x → w.cell? ⟨b, 0 + j, none⟩ = some (arr.getD j undef) ∧ VR G (arr.getD j undef) x := by
  intro j x hx
  obtain ⟨v, hv, hr⟩ := h.get hx
  rw [Nat.zero_add, cell_row hb, hv]
  have : arr.getD j undef = v := by simp [Array.getD_eq_getD_getElem?, hv]
  rw [this]; exact ⟨rfl, hr.vr⟩

theorem run_loadA (A : Agree E) (h : Rel E G w S) {t : Nat} (ht : E.C.has t = true) {p : Value} {pa x : AV} (hp : VR G p pa) (hl : loadA (E.C.ty t) S pa = some x) :
    ∃ v, (Instr.loadAt t p).run E.P w = .ok v w ∧ VR G v x ∧ ((∃ ds, x = .agg ds) ∨ (x.cell1 = true) ∨
      ∃ id off cs b arr e, pa = .ptr id off ∧ S[id]? = some (.cells cs) ∧ cs[off]? = some x ∧ G.rho id = some b ∧ G.role b = .obj id ∧ w.heap[b]? = some (.cells arr e (0, 0)) ∧ RowR G w (.ocell id) arr cs ∧ arr[off]? = some v) := by
  cases hp with
  | ptr id off b hr =>
    simp only [loadA, Option.bind_eq_some_iff] at hl
    obtain ⟨cs, hcs, hrd⟩ := hl
    obtain ⟨b', arr, e, k1, k2, k3, k4, k5⟩ := h.cells hcs
    rw [hr] at k2
    cases k2
    obtain ⟨v, h1, h2, h3⟩ := run_read A ht (k5.reads k4) hrd
    refine ⟨v, by simpa [Instr.loadAt, Instr.sureAddr] using h1, h2, ?_⟩
    rcases h3 with ⟨h3, h4⟩ | ⟨ds, h3, _⟩
    · obtain ⟨u, hu, _⟩ := k5.get h3
      refine .inr (.inr ⟨id, off, cs, b, arr, e, rfl, k1, h3, hr, k3, k4, k5, ?_⟩)
      rw [hu, h4]; simp [Array.getD_eq_getD_getElem?, hu]
    · exact .inl ⟨ds, h3⟩
  | ep cs b o off g hc hi h2 =>
    simp only [loadA] at hl
    have hcs : ∀ (j : Nat) (x : AV), cs[j]? = some x → w.cell? ⟨b, o + j, none⟩ = some (g j) ∧ VR G (g j) x := fun j x hx => ⟨h.imm _ _ _ (hi j x hx), h2 j x hx⟩
    obtain ⟨v, h1, h2, h3⟩ := run_read A ht hcs hl
    refine ⟨v, by simpa [Instr.loadAt, Instr.sureAddr] using h1, h2, ?_⟩
    rcases h3 with ⟨h3, h4⟩ | ⟨ds, h3, _⟩
    · exact .inr (.inl (hc x (List.mem_of_getElem? h3)))
    · exact .inl ⟨ds, h3⟩
  | _ => simp [loadA] at hl

/-- What is read, with no right. -/
theorem ValR.loaded {κ : Key} {κc : Nat → Key} {v : Value} {x : AV} (h : VR G v x) (hf : x.free1 = true ∨ ∃ ds, x = .agg ds) : ValR G w κ κc v x.strip := by
  refine .mkstrip h ?_
  rintro cs rfl
  rcases hf with hf | ⟨ds, hf⟩
  · simp [AV.free1] at hf
  · cases hf

theorem length_writeAt {cs xs : List AV} {off : Nat} (h : off + xs.length ≤ cs.length) : (writeAt cs off xs).length = cs.length := by
  simp [writeAt]; omega
theorem getElem?_write {α : Type} (l xs : List α) (off j : Nat) (h : off + xs.length ≤ l.length) :
    (l.take off ++ xs ++ l.drop (off + xs.length))[j]? = if off ≤ j ∧ j < off + xs.length then xs[j - off]? else l[j]? := by
  have hto : (l.take off).length = off := by simp; omega
  by_cases h1 : j < off
  · rw [List.append_assoc, List.getElem?_append_left (by rw [hto]; exact h1), List.getElem?_take, if_pos h1, if_neg (by omega)]
  · by_cases h2 : j < off + xs.length
    · rw [List.getElem?_append_left (by rw [List.length_append, hto]; exact h2), List.getElem?_append_right (by rw [hto]; omega), hto, if_pos ⟨by omega, h2⟩]
    · rw [List.getElem?_append_right (by rw [List.length_append, hto]; omega), List.length_append, hto, List.getElem?_drop, if_neg (by omega)]
      congr 1; omega

/-- A row after a write. -/
theorem RowR.write {κ : Nat → Key} {arr : Array Value} {cs : List AV} (h : RowR G w κ arr cs) {off : Nat} {vs : List Value} {xs : List AV} (hl : vs.length = xs.length) (hb : off + xs.length ≤ cs.length)
    (hx : ∀ (j : Nat) (x : AV) (v : Value), xs[j]? = some x → vs[j]? = some v → CellR G w (κ (off + j)) v x) :
    RowR G w κ (arr.toList.take off ++ vs ++ arr.toList.drop (off + vs.length)).toArray (writeAt cs off xs) := by
  have hba : off + vs.length ≤ arr.toList.length := by have := h.1; simp; omega
  refine ⟨?_, fun j x v hj hv => ?_⟩
  · rw [length_writeAt hb]
    have := h.1
    simp only [List.size_toArray, List.length_append, List.length_take, List.length_drop, Array.length_toList] at *
    omega
  · rw [List.getElem?_toArray, getElem?_write _ _ _ _ hba] at hv
    rw [writeAt, getElem?_write _ _ _ _ hb] at hj
    rw [hl] at hv
    by_cases e : off ≤ j ∧ j < off + xs.length
    · rw [if_pos e] at hj hv
      have := hx (j - off) x v hj hv
      rwa [show off + (j - off) = j by omega] at this
    · rw [if_neg e] at hj hv
      exact h.2 j x v hj (by simpa using hv)
theorem RowR.strip {κ κ' : Nat → Key} {arr : Array Value} {cs : List AV} (h : RowR G w κ arr cs) (off : Nat) (hk : ∀ j, j ≠ off → κ j = κ' j) : RowR G w κ' arr (cs.modify off AV.strip1) := by
  refine ⟨by simpa using h.1, fun j x v hj hv => ?_⟩
  rw [List.getElem?_modify] at hj
  by_cases e : off = j
  · subst e
    simp only [if_true] at hj
    cases hc : cs[off]? with
    | none => rw [hc] at hj; cases hj
    | some y =>
      rw [hc] at hj
      simp at hj
      subst hj
      have := h.2 off y v hc hv
      exact ⟨this.vr.strip1, by rw [AV.free1_strip1]; exact this.free, .of_not (AV.own_strip1 y)⟩
  · simp only [e, if_false] at hj
    have : (fun a => a) <$> cs[j]? = cs[j]? := by cases cs[j]? <;> rfl
    rw [this] at hj
    rw [← hk j (fun e' => e e'.symm)]
    exact h.2 j x v hj hv

theorem Chg.setRow {b : Nat} {κ : Key} (hr : G.role b = κ) (arr : Array Value) : Chg (· = κ) G w G (w.setRow b arr) :=
  ⟨.refl G, by simp, fun k _ hk => ⟨setRow_other w b k arr (fun e => hk (by rw [e]; exact hr)), rfl, fun _ => rfl⟩⟩

theorem Rel.setRow (h : Rel E G w S) {b : Nat} {κ : Key} (hr : G.role b = κ) (hκ : (∃ id, κ = .obj id) ∨ ∃ t, κ = .lbox t) {arr0 arr : Array Value} {e : TypeId} {fz : Nat × Nat} (hb : w.heap[b]? = some (.cells arr0 e fz)) (hsz : arr.size = arr0.size)
    (S' : St) (hl : S'.length = S.length) (ho : ∀ id o, S'[id]? = some o → S[id]? = some o ∧ κ ≠ .obj id ∨ ObjR G (w.setRow b arr) id o) : Rel E G (w.setRow b arr) S' := by
  have hne : κ ≠ .ext := by rcases hκ with ⟨id, rfl⟩ | ⟨t, rfl⟩ <;> simp
  have hold : ∀ k, k ≠ b → (w.setRow b arr).heap[k]? = w.heap[k]? := fun k hk => setRow_other w b k arr hk
  have hni : ∀ o, G.imm b o = none := h.noimm b (by rcases hκ with ⟨id, rfl⟩ | ⟨t, rfl⟩; exact .inl ⟨id, hr⟩; exact .inr ⟨t, hr⟩)
  refine ⟨h.os, h.tape, h.output, by simpa using h.size, fun k hk => ⟨?_, (h.old k hk).2⟩, fun k o v hv => ?_, fun k hk => h.role k (by simpa using hk), h.noimm, fun id k hk => ?_, fun k hk => ?_, fun id o hi => ?_⟩
  · rw [hold k (fun e => hne (by rw [← hr, ← e]; exact (h.old k hk).2))]; exact (h.old k hk).1
  · have hkb : k ≠ b := by rintro rfl; rw [hni o] at hv; cases hv
    rw [← h.imm k o v hv]
    simp only [World.cell?, hold k hkb]
  · have := h.rho id k hk; exact ⟨by rw [hl]; exact this.1, by simpa using this.2⟩
  · obtain ⟨arr', e', h1, h2⟩ := h.len k hk
    by_cases e1 : k = b
    · subst e1
      rw [hb] at h1; cases h1
      exact ⟨arr, e, setRow_heap w k arr0 arr e _ hb, by rw [hsz]; exact h2⟩
    · exact ⟨arr', e', by rw [hold k e1]; exact h1, h2⟩
  · rcases ho id o hi with ⟨h1, h2⟩ | h1
    · exact (h.obj id o h1).chg (Chg.setRow hr arr) (fun e => h2 e.symm) (fun j e => by rcases hκ with ⟨id, rfl⟩ | ⟨t, rfl⟩ <;> cases e)
    · exact h1

theorem size_write {arr : Array Value} {vs : List Value} {off : Nat} (h : off + vs.length ≤ arr.size) : (arr.toList.take off ++ vs ++ arr.toList.drop (off + vs.length)).toArray.size = arr.size := by
  simp; omega
theorem FrR.chg {K : Key → Prop} {G' : Gh} {w' : World} (c : Chg K G w G' w') (hk1 : ∀ t, ¬ K (.slot t)) (hk2 : ∀ t i, ¬ K (.slotc t i)) (hk3 : ∀ t, ¬ K (.lbox t)) (hk4 : ∀ t j, ¬ K (.bcell t j))
    (h : FrR E f n G w a fr) : FrR E f n G' w' a fr := by
  refine ⟨h.defers, h.size, fun t => (h.slot t).chg c (hk1 t) (hk2 t), fun t cs hb => ?_⟩
  obtain ⟨h1, b, arr, e, h2, h3, h4, h5⟩ := h.box t cs hb
  obtain ⟨k1, k2, k3⟩ := c.keep b (Array.getElem?_eq_some_iff.1 h4).1 (by rw [h3]; exact hk3 t)
  exact ⟨h1, b, arr, e, h2, k2.trans h3, k1.trans h4, h5.chg c (hk4 t)⟩
theorem Kept.chg {K : Key → Prop} {G' : Gh} {w' : World} (h : Kept Gs ws G w) (c : Chg K G w G' w') (hk : ¬ K .ext) : Kept Gs ws G' w' :=
  h.trans (c.weaken fun κ k e => hk (e ▸ k))

theorem ValR.cellsR {κ : Key} {κc : Nat → Key} {v : Value} {x : AV} (h : ValR G w κ κc v x) (hf : x.free = true) :
    ∀ (j : Nat) (c : AV) (u : Value), x.cells[j]? = some c → v.cells[j]? = some u → ∀ κ', (j = 0 → κ' = κ) → CellR G w κ' u c := by
  intro j c u hc hu κ' hκ
  have hv := h.vr.cells hf j c u hc hu
  rcases AV.free_cases hf with ⟨h1, h2⟩ | ⟨cs, rfl, h1⟩
  · rw [h2] at hc
    cases j with
    | zero =>
      simp at hc; subst hc
      have : v.cells = #[v] := by
        have := h.vr.oneCell h1
        cases v <;> first | rfl | (simp [Value.oneCell'] at this)
      rw [this] at hu
      simp at hu; subst hu
      rw [hκ rfl]
      exact ⟨hv, h1, h.tail⟩
    | succ j => simp at hc
  · simp only [AV.cells] at hc
    have hm := List.mem_of_getElem? hc
    exact ⟨hv, h1 c hm, .of_not (h.agg cs rfl c hm)⟩

theorem CellR.oneCell {κ : Key} {v : Value} {x : AV} (h : CellR G w κ v x) : v.oneCell' = true := h.vr.oneCell h.free

theorem AV.free_cells1 {x : AV} (hf : x.free = true) : ∀ c ∈ x.cells, c.free1 = true := by
  rcases AV.free_cases hf with ⟨h1, h2⟩ | ⟨cs, rfl, h1⟩
  · rw [h2]; simpa using h1
  · exact h1
theorem run_storeRow (A : Agree E) {t : Nat} (ht : E.C.has t = true) {b : Nat} {arr : Array Value} {e : TypeId} (hb : w.heap[b]? = some (.cells arr e (0, 0))) {v : Value} {x : AV} (hv : VR G v x) (hf : x.free = true)
    (hl : x.cells.length = (E.C.ty t).size) {off : Nat} (hle : off + (E.C.ty t).size ≤ arr.size) :
    (Instr.storeAt t (.pointer (some ⟨b, off, none⟩)) v).run E.P w = .ok () (w.setRow b (arr.toList.take off ++ v.cells.toList ++ arr.toList.drop (off + v.cells.toList.length)).toArray) := by
  have hs : v.cells.size = (E.C.ty t).size := by rw [hv.cells_size hf, hl]
  have h1 : ∀ u ∈ v.cells.toList, u.oneCell' = true := by
    intro u hu
    obtain ⟨j, hj⟩ := List.getElem?_of_mem hu
    have hj' : v.cells[j]? = some u := by simpa using hj
    have hlt : j < x.cells.length := by
      have : j < v.cells.size := (Array.getElem?_eq_some_iff.1 hj').1
      rw [hl, ← hs]; exact this
    have hx := hv.cells hf j x.cells[j] u (List.getElem?_eq_getElem hlt) hj'
    exact hx.oneCell (AV.free_cells1 hf _ (List.getElem_mem hlt))
  have hst := run_storeCells_at E.P b off e v.cells.toList 0 arr w hb (by simp [hs]; omega) h1
  simp only [Nat.add_zero] at hst
  simp [Instr.storeAt, Instr.sureAddr, storeVar, run_sizeOf A ht, hs, hst]

/-- An operand's right goes to a memory cell. -/
theorem RF.giveTo (h : RF E f n Gs ws G w S a fr before) (x : Operand) (t : Nat) {κ : Key} (h1 : ∀ id, κ ≠ .obj id) (h2 : ∀ t, κ ≠ .lbox t) :
    ∃ G' κc, RF E f n Gs ws G' w S a (fr.stripAt x) before ∧ G.Le G' ∧ ValR G' w κ κc (a.eval x) (opd E.C fr t x) ∧ (∀ b, G.role b = .ext → G'.role b = .ext) := by
  cases x with
  | tmp x =>
    obtain ⟨k1, k2⟩ := h.stripAt (Moves.mvKey x h1 h2)
    refine ⟨_, _, k1, ⟨fun _ _ _ h => h, fun _ _ h => h, fun _ => Nat.le_refl _⟩, k2.rekey (by simp [mvKey]) (fun i => rfl), fun b e => by simp [Gh.relabel, e, mvKey]⟩
  | const v => exact ⟨G, fun _ => .ext, h, .refl G, .ofConst _ t v, fun _ e => e⟩
  | func g => exact ⟨G, fun _ => .ext, h, .refl G, .func g, fun _ e => e⟩
  | global g => exact ⟨G, fun _ => .ext, h, .refl G, .undef _, fun _ e => e⟩

theorem FrR.stripAt_b (x : Operand) : (fr.stripAt x).b = fr.b := by cases x <;> rfl

theorem RF.storeObj (A : Agree E) (h : RF E f n Gs ws G w S a fr before) {t : Nat} (ht : E.C.has t = true) {p : Value} {pa : AV} (hp : VR G p pa) (y : Operand) {S' : St} (hs : storeA (E.C.ty t) S pa (opd E.C fr t y) = some S') :
    ∃ G' w', (Instr.storeAt t p (a.eval y)).run E.P w = .ok () w' ∧ RF E f n Gs ws G' w' S' a (fr.stripAt y) before := by
  cases hp with
  | ptr id off b hr =>
    simp only [storeA, Option.bind_eq_some_iff, Option.map_eq_some_iff] at hs
    obtain ⟨cs, hcs, cs', hst, rfl⟩ := hs
    unfold storeCellsA at hst
    split at hst
    case isFalse => cases hst
    rename_i hc
    obtain ⟨hf, hl, hle⟩ := hc
    simp only [Option.some.injEq] at hst
    subst hst
    obtain ⟨G', κc, k1, k2, k3, _⟩ := h.giveTo y t (κ := .ocell id off) (by simp) (by simp)
    obtain ⟨b', arr, e, j1, j2, j3, j4, j5⟩ := k1.rel.cells hcs
    rw [k2.rho _ _ hr] at j2
    cases j2
    have hrun := run_storeRow A ht j4 k3.vr hf hl (Nat.le_trans hle j5.1)
    have hsz1 : off + (a.eval y).cells.toList.length ≤ arr.size := by have := k3.vr.cells_size hf; have := j5.1; simp; omega
    refine ⟨G', _, hrun, ?_⟩
    have hc := Chg.setRow (w := w) j3 (arr.toList.take off ++ (a.eval y).cells.toList ++ arr.toList.drop (off + (a.eval y).cells.toList.length)).toArray
    refine ⟨k1.rel.setRow j3 (.inl ⟨id, rfl⟩) j4 (size_write hsz1) _ (by simp) fun id' o ho => ?_, k1.frr.chg hc (by simp) (by simp) (by simp) (by simp), k1.kept.chg hc (by simp), k1.pr⟩
    rw [List.getElem?_set] at ho
    by_cases e' : id = id'
    · subst e'
      have hlt : id < S.length := (List.getElem?_eq_some_iff.1 j1).1
      simp only [if_true, hlt, Option.some.injEq] at ho
      subst ho
      refine .inr ⟨b, _, e, k2.rho _ _ hr, j3, setRow_heap w b arr _ e _ j4, ?_⟩
      refine (j5.write (off := off) (vs := (a.eval y).cells.toList) (xs := (opd E.C fr t y).cells) ?_ (by rw [hl]; exact hle) ?_).chg hc (by simp)
      · simpa using k3.vr.cells_size hf
      · intro j x v hx hv
        exact k3.cellsR hf j x v hx (by simpa using hv) _ (by rintro rfl; rfl)
    · simp only [e', if_false] at ho
      exact .inl ⟨ho, by simpa using e'⟩
  | _ => simp [storeA] at hs

/-- The boxes, when one box has been written. -/
theorem FrR.chgBox {c : Nat} {G' : Gh} {w' : World} (k : Chg (· = .lbox c) G w G' w') {fr' : Fr} (hv : fr'.v = fr.v) (hb' : ∀ t, t ≠ c → fr'.b t = fr.b t)
    (hnew : ∀ cs, fr'.b c = some cs → E.C.loc f c = true ∧ ∃ b arr e, Act.at a c = .pointer (some ⟨b, 0, none⟩) ∧ G'.role b = .lbox c ∧ w'.heap[b]? = some (.cells arr e (0, 0)) ∧ RowR G' w' (.bcell c) arr cs)
    (h : FrR E f n G w a fr) : FrR E f n G' w' a fr' := by
  refine ⟨h.defers, h.size, fun t => by rw [hv]; exact (h.slot t).chg k (by simp) (by simp), fun t cs hb => ?_⟩
  by_cases e : t = c
  · subst e; exact hnew cs hb
  · rw [hb' t e] at hb
    obtain ⟨h1, b, arr, e', h2, h3, h4, h5⟩ := h.box t cs hb
    obtain ⟨k1, k2, k3⟩ := k.keep b (Array.getElem?_eq_some_iff.1 h4).1 (by rw [h3]; simpa using e)
    exact ⟨h1, b, arr, e', h2, k2.trans h3, k1.trans h4, h5.chg k (by simp)⟩

theorem PtrVal.of_isSome {fr' : Fr} {b off : Nat} {v : Value} (h : PtrVal a fr b off v) (hs : ∀ cs', fr'.b b = some cs' → ∃ cs, fr.b b = some cs) : PtrVal a fr' b off v := fun cs' e => by
  obtain ⟨cs, hc⟩ := hs cs' e; exact h cs hc

theorem RF.storeBox (A : Agree E) (h : RF E f n Gs ws G w S a fr before) {t : Nat} (ht : E.C.has t = true) {p : Value} {b off : Nat} (hp : PtrVal a fr b off p) (y : Operand) {cs' : List AV}
    (hs : lstoreA (E.C.ty t) (fr.b b) off (opd E.C fr t y) = some cs') :
    ∃ G' w', (Instr.storeAt t p (a.eval y)).run E.P w = .ok () w' ∧ RF E f n Gs ws G' w' S a ((fr.stripAt y).setB b (some cs')) before := by
  simp only [lstoreA, Option.bind_eq_some_iff] at hs
  obtain ⟨cs, hcs, hst⟩ := hs
  obtain ⟨blk, hblk, rfl⟩ := hp cs hcs
  unfold storeCellsA at hst
  split at hst
  case isFalse => cases hst
  rename_i hc
  obtain ⟨hf, hl, hle⟩ := hc
  simp only [Option.some.injEq] at hst
  subst hst
  obtain ⟨G', κc, k1, k2, k3, _⟩ := h.giveTo y t (κ := .bcell b off) (by simp) (by simp)
  have hcs' : (fr.stripAt y).b b = some cs := by rw [FrR.stripAt_b]; exact hcs
  obtain ⟨hloc, blk', arr, e, j2, j3, j4, j5⟩ := k1.frr.box b cs hcs'
  rw [hblk] at j2
  cases j2
  have hrun := run_storeRow A ht j4 k3.vr hf hl (Nat.le_trans hle j5.1)
  have hsz1 : off + (a.eval y).cells.toList.length ≤ arr.size := by have := k3.vr.cells_size hf; have := j5.1; simp; omega
  refine ⟨G', _, hrun, ?_⟩
  have hc := Chg.setRow (w := w) j3 (arr.toList.take off ++ (a.eval y).cells.toList ++ arr.toList.drop (off + (a.eval y).cells.toList.length)).toArray
  refine ⟨k1.rel.setRow j3 (.inr ⟨b, rfl⟩) j4 (size_write hsz1) _ rfl fun id' o ho => .inl ⟨ho, by simp⟩, FrR.chgBox (fr := fr.stripAt y) hc rfl (fun t ht => by simp [Fr.setB, ht]) (fun ds hds => ?_) k1.frr, k1.kept.chg hc (by simp), fun x b' off' hr => (k1.pr x b' off' hr).of_isSome fun ds hds => ?_⟩
  · simp only [Fr.setB, if_true, Option.some.injEq] at hds
    subst hds
    refine ⟨hloc, blk, _, e, hblk, j3, setRow_heap w blk arr _ e _ j4, ?_⟩
    refine (j5.write (off := off) (vs := (a.eval y).cells.toList) (xs := (opd E.C fr t y).cells) ?_ (by rw [hl]; exact hle) ?_).chg hc (by simp)
    · simpa using k3.vr.cells_size hf
    · intro j x v hx hv
      exact k3.cellsR hf j x v hx (by simpa using hv) _ (by rintro rfl; rfl)
  · by_cases e' : b' = b
    · subst e'; exact ⟨cs, hcs'⟩
    · simp only [Fr.setB, e', if_false] at hds; exact ⟨ds, hds⟩

/-- The right of a memory cell goes to the slot d. -/
def mvCell (κ0 : Key) (d : Nat) : Key → Key := fun κ => if κ = κ0 then .slot d else κ
theorem ValR.strip0_of {κ : Key} {κc : Nat → Key} {v : Value} {x : AV} (h : VR G v x) (hx : (∃ ds, x = .agg ds) ∨ x.cell1 = true) : ValR G w κ κc v x.strip0 := by
  rcases hx with ⟨ds, rfl⟩ | hx
  · refine .of_agg h.strip0 ?_
    intro c hc
    simp only [List.mem_map] at hc
    obtain ⟨y, _, rfl⟩ := hc
    exact AV.own_strip1 y
  · have : x.strip0 = x := by cases x <;> first | rfl | (simp [AV.cell1, AV.free1] at hx)
    rw [this]; exact .of_cell1 h hx
theorem CellR.valR {κ : Key} {κc : Nat → Key} {v : Value} {x : AV} (h : CellR G w κ v x) : ValR G w κ κc v x.strip0 := by
  have hf := h.free
  have : x.strip0 = x := by cases x <;> first | rfl | (simp [AV.free1] at hf)
  rw [this]
  refine ⟨h.vr, h.tail, ?_, ?_, ?_⟩
  · rintro cs rfl; simp [AV.free1] at hf
  · rintro cs vs rfl; simp [AV.free1] at hf
  · rintro cs rfl; simp [AV.free1] at hf

theorem RF.takeObj (h : RF E f n Gs ws G w S a fr before) {id off b : Nat} {cs : List AV} {arr : Array Value} {e : TypeId} {x : AV} {v : Value} (d : Nat) (k1 : S[id]? = some (.cells cs)) (k2 : cs[off]? = some x) (k3 : G.rho id = some b) (k4 : G.role b = .obj id)
    (k5 : w.heap[b]? = some (.cells arr e (0, 0))) (k6 : RowR G w (.ocell id) arr cs) (k7 : arr[off]? = some v) :
    ∃ G', RF E f n Gs ws G' w (stripMem S (.ptr id off)) a fr before ∧ ValR G' w (.slot d) (.slotc d) v x.strip0 := by
  have hval := (k6.2 off x v k2 k7).relabel (f := mvCell (.ocell id off) d)
  refine ⟨G.relabel (mvCell (.ocell id off) d), ⟨?_, ?_, h.kept.relabel (by simp [mvCell]), h.pr⟩, ?_⟩
  · have hS : stripMem S (.ptr id off) = S.set id (.cells (cs.modify off AV.strip1)) := by simp [stripMem, objCells, k1]
    rw [hS]
    refine ⟨h.rel.os, h.rel.tape, h.rel.output, h.rel.size, fun b hb => ⟨(h.rel.old b hb).1, by simp [Gh.relabel, (h.rel.old b hb).2, mvCell]⟩, h.rel.imm, fun b hb => by simp [Gh.relabel, h.rel.role b hb, mvCell], fun b hb => ?_, fun id b hb => by simpa using h.rel.rho id b hb, h.rel.len, fun id' o ho => ?_⟩
    · refine h.rel.noimm b (hb.imp ?_ ?_)
      · rintro ⟨i, hi⟩; refine ⟨i, ?_⟩; simp only [Gh.relabel, mvCell] at hi; split at hi <;> simp_all
      · rintro ⟨i, hi⟩; refine ⟨i, ?_⟩; simp only [Gh.relabel, mvCell] at hi; split at hi <;> simp_all
    · rw [List.getElem?_set] at ho
      by_cases e' : id = id'
      · subst e'
        have hlt : id < S.length := (List.getElem?_eq_some_iff.1 k1).1
        simp only [if_true, hlt, Option.some.injEq] at ho
        subst ho
        refine ⟨b, arr, e, k3, by simp [Gh.relabel, k4, mvCell], k5, (k6.relabel (f := mvCell (.ocell id off) d)).strip off fun j hj => by simp [mvCell, hj]⟩
      · simp only [e', if_false] at ho
        have := h.rel.obj id' o ho
        cases o with
        | cells cs' =>
          obtain ⟨b', arr', e'', hr, hb, hh, hrow⟩ := this
          exact ⟨b', arr', e'', hr, by simp [Gh.relabel, hb, mvCell], hh, (hrow.relabel (f := mvCell (.ocell id off) d)).rekey fun j => by simp [mvCell]; intro e1; exact (e' e1.symm).elim⟩
        | map m =>
          obtain ⟨b', es, clk, hr, hb, hh, hs, he⟩ := this
          exact ⟨b', es, clk, hr, by simp [Gh.relabel, hb, mvCell], hh, hs, fun i e p e1 e2 => entryR.mono (G := G) (G' := G.relabel (mvCell (.ocell id off) d)) ⟨fun _ _ _ h => h, fun _ _ h => h, fun _ => Nat.le_refl _⟩ (he i e p e1 e2)⟩
        | dead => trivial
  · refine ⟨h.frr.defers, h.frr.size, fun t => ((h.frr.slot t).relabel (f := mvCell (.ocell id off) d)).rekey (by simp [mvCell]) (fun i => by simp [mvCell]), fun t cs hb => ?_⟩
    obtain ⟨h1, b', arr', e', h2, h3, h4, h5⟩ := h.frr.box t cs hb
    exact ⟨h1, b', arr', e', h2, by simp [Gh.relabel, h3, mvCell], h4, (h5.relabel (f := mvCell (.ocell id off) d)).rekey fun j => by simp [mvCell]⟩
  · have e1 : mvCell (.ocell id off) d (.ocell id off) = .slot d := by simp [mvCell]
    rw [e1] at hval
    exact hval.valR

theorem RF.takeBox (h : RF E f n Gs ws G w S a fr before) {b off : Nat} {cs : List AV} {x : AV} {blk : Nat} {arr : Array Value} {e : TypeId} {v : Value} (d : Nat) (k1 : fr.b b = some cs) (k2 : cs[off]? = some x) (k3 : Act.at a b = .pointer (some ⟨blk, 0, none⟩))
    (k5 : w.heap[blk]? = some (.cells arr e (0, 0))) (k7 : arr[off]? = some v) :
    ∃ G', RF E f n Gs ws G' w S a (fr.setB b (stripBox (fr.b b) off)) before ∧ ValR G' w (.slot d) (.slotc d) v x.strip0 := by
  obtain ⟨hloc, blk', arr', e', j2, j3, j4, j5⟩ := h.frr.box b cs k1
  rw [k3] at j2; cases j2
  rw [k5] at j4; cases j4
  have hval := (j5.2 off x v k2 k7).relabel (f := mvCell (.bcell b off) d)
  have g1 : ∀ id, mvCell (.bcell b off) d (.obj id) = .obj id := by simp [mvCell]
  refine ⟨G.relabel (mvCell (.bcell b off) d), ⟨h.rel.relabel (by simp [mvCell]) ?_ ?_ (by simp [mvCell]) (by simp [mvCell]), ?_, h.kept.relabel (by simp [mvCell]), fun x b' off' hr => (h.pr x b' off' hr).of_isSome fun ds hds => ?_⟩, ?_⟩
  · intro κ id hi; simp only [mvCell] at hi; split at hi <;> simp_all
  · intro κ id hi; simp only [mvCell] at hi; split at hi <;> simp_all
  · refine ⟨h.frr.defers, h.frr.size, fun t => ((h.frr.slot t).relabel (f := mvCell (.bcell b off) d)).rekey (by simp [mvCell]) (fun i => by simp [mvCell]), fun t cs' hb => ?_⟩
    by_cases e1 : t = b
    · subst e1
      simp only [Fr.setB, if_true, stripBox, k1, Option.map_some, Option.some.injEq] at hb
      subst hb
      refine ⟨hloc, blk, arr, e, k3, by simp [Gh.relabel, j3, mvCell], k5, (j5.relabel (f := mvCell (.bcell t off) d)).strip off fun j hj => by simp [mvCell, hj]⟩
    · simp only [Fr.setB, e1, if_false] at hb
      obtain ⟨h1, b', arr', e', h2, h3, h4, h5⟩ := h.frr.box t cs' hb
      exact ⟨h1, b', arr', e', h2, by simp [Gh.relabel, h3, mvCell], h4, (h5.relabel (f := mvCell (.bcell b off) d)).rekey fun j => by simp [mvCell]; intro e2; exact (e1 e2).elim⟩
  · by_cases e1 : b' = b
    · subst e1; exact ⟨cs, k1⟩
    · simp only [Fr.setB, e1, if_false] at hds; exact ⟨ds, hds⟩
  · have e1 : mvCell (.bcell b off) d (.bcell b off) = .slot d := by simp [mvCell]
    rw [e1] at hval
    exact hval.valR

/-- What a load from a local box finds. -/
theorem RF.loadBox (A : Agree E) (h : RF E f n Gs ws G w S a fr before) {t : Nat} (ht : E.C.has t = true) {p : Value} {b off : Nat} (hp : PtrVal a fr b off p) {x : AV} (hl : lloadA (E.C.ty t) (fr.b b) off = some x) :
    ∃ v, (Instr.loadAt t p).run E.P w = .ok v w ∧ VR G v x ∧ ((∃ ds, x = .agg ds) ∨ (x.free1 = true ∧
      ∃ cs blk arr e, fr.b b = some cs ∧ cs[off]? = some x ∧ Act.at a b = .pointer (some ⟨blk, 0, none⟩) ∧ w.heap[blk]? = some (.cells arr e (0, 0)) ∧ arr[off]? = some v)) := by
  simp only [lloadA, Option.bind_eq_some_iff] at hl
  obtain ⟨cs, hcs, hrd⟩ := hl
  obtain ⟨blk, hblk, rfl⟩ := hp cs hcs
  obtain ⟨hloc, blk', arr, e, j2, j3, j4, j5⟩ := h.frr.box b cs hcs
  rw [hblk] at j2; cases j2
  obtain ⟨v, h1, h2, h3⟩ := run_read A ht (j5.reads j4) hrd
  refine ⟨v, by simpa [Instr.loadAt, Instr.sureAddr] using h1, h2, ?_⟩
  rcases h3 with ⟨h3, h4⟩ | ⟨ds, h3, _⟩
  · obtain ⟨u, hu, hcell⟩ := j5.get h3
    refine .inr ⟨hcell.free, cs, blk, arr, e, hcs, h3, hblk, j4, ?_⟩
    rw [hu, h4]; simp [Array.getD_eq_getD_getElem?, hu]
  · exact .inl ⟨ds, h3⟩

theorem World.alloc_old (w : World) (o : Go.Obj) {b : Nat} (hb : b < w.heap.size) : (w.alloc o).heap[b]? = w.heap[b]? := by
  show (w.heap.push o)[b]? = _
  rw [Array.getElem?_push, if_neg (Nat.ne_of_lt hb)]
theorem World.alloc_new (w : World) (o : Go.Obj) : (w.alloc o).heap[w.heap.size]? = some o := by
  show (w.heap.push o)[w.heap.size]? = _
  simp
/-- A new block. -/
def Gh.new (G : Gh) (nb : Nat) (m : Nat → Option Value) (κ : Key) : Gh :=
  { G with imm := fun b o => if b = nb then m o else G.imm b o, role := fun b => if b = nb then κ else G.role b }
theorem Rel.imm_none (h : Rel E G w S) {b : Nat} (hb : w.heap.size ≤ b) (o : Nat) : G.imm b o = none := by
  cases hi : G.imm b o with
  | none => rfl
  | some v =>
    have := World.block_lt_of_cell? w _ (h.imm b o v hi)
    simp at this; omega
theorem Chg.new (h : Rel E G w S) (o : Go.Obj) (m : Nat → Option Value) (κ : Key) (K : Key → Prop) : Chg K G w (G.new w.heap.size m κ) (w.alloc o) :=
  ⟨⟨fun b j v hv => by
      by_cases e : b = w.heap.size
      · subst e; rw [h.imm_none (Nat.le_refl _)] at hv; cases hv
      · simpa [Gh.new, e] using hv, fun _ _ e => e, fun _ => Nat.le_refl _⟩, by simp, fun b hb _ => ⟨World.alloc_old w o hb, by simp [Gh.new, Nat.ne_of_lt hb], fun j => by simp [Gh.new, Nat.ne_of_lt hb]⟩⟩
theorem Rel.alloc (h : Rel E G w S) (o : Go.Obj) (m : Nat → Option Value) (κ : Key) (hm : ∀ j v, m j = some v → (w.alloc o).cell? ⟨w.heap.size, j, none⟩ = some v)
    (hκ : ((∃ id, κ = .obj id) ∨ ∃ t, κ = .lbox t) → ∀ j, m j = none) : Rel E (G.new w.heap.size m κ) (w.alloc o) S := by
  have hc := Chg.new h o m κ (fun _ => False)
  refine ⟨h.os, h.tape, h.output, Nat.le_trans h.size hc.size, fun b hb => ?_, fun b j v hv => ?_, fun b hb => ?_, fun b hb j => ?_, fun id b hb => ?_, fun b hb => ?_, fun id o ho => (h.obj id o ho).chg hc (fun e => e) (fun _ e => e)⟩
  · have hlt := Nat.lt_of_lt_of_le hb h.size
    obtain ⟨k1, k2, _⟩ := hc.keep b hlt (by simp)
    exact ⟨k1.trans (h.old b hb).1, k2.trans (h.old b hb).2⟩
  · by_cases e : b = w.heap.size
    · subst e; simp only [Gh.new, if_true] at hv; exact hm j v hv
    · simp only [Gh.new, e, if_false] at hv
      have := h.imm b j v hv
      rw [World.cell?_alloc_old w o _ (by exact e)]; exact this
  · simp at hb
    have : b ≠ w.heap.size := by omega
    simp only [Gh.new, this, if_false]; exact h.role b (by omega)
  · by_cases e : b = w.heap.size
    · subst e
      simp only [Gh.new, if_true] at hb ⊢
      exact hκ hb j
    · simp only [Gh.new, e, if_false] at hb ⊢
      exact h.noimm b hb j
  · have := h.rho id b hb
    exact ⟨this.1, Nat.lt_of_lt_of_le this.2 hc.size⟩
  · obtain ⟨arr', e', h1, h2⟩ := h.len b hb
    exact ⟨arr', e', (World.alloc_old w o (Array.getElem?_eq_some_iff.1 h1).1).trans h1, h2⟩
theorem Rel.drew (h : Rel E G w S) : Rel E G w.drew S :=
  ⟨h.os, h.tape, h.output, h.size, h.old, h.imm, h.role, h.noimm, h.rho, h.len, fun id o ho => ObjR.chg (K := fun _ => False) (G := G) (w := w) (G' := G) (w' := w.drew) ⟨.refl G, Nat.le_refl _, fun _ _ _ => ⟨rfl, rfl, fun _ => rfl⟩⟩ (fun e => e) (fun _ e => e) (h.obj id o ho)⟩
theorem RF.drew (h : RF E f n Gs ws G w S a fr before) : RF E f n Gs ws G w.drew S a fr before :=
  have c : Chg (fun _ => False) G w G w.drew := ⟨.refl G, Nat.le_refl _, fun _ _ _ => ⟨rfl, rfl, fun _ => rfl⟩⟩
  ⟨h.rel.drew, h.frr.chg c (fun _ => id) (fun _ _ => id) (fun _ => id) (fun _ _ => id), h.kept.chg c id, h.pr⟩
theorem RF.alloc (h : RF E f n Gs ws G w S a fr before) (o : Go.Obj) (m : Nat → Option Value) (κ : Key) (hm : ∀ j v, m j = some v → (w.alloc o).cell? ⟨w.heap.size, j, none⟩ = some v)
    (hκ : ((∃ id, κ = .obj id) ∨ ∃ t, κ = .lbox t) → ∀ j, m j = none) : RF E f n Gs ws (G.new w.heap.size m κ) (w.alloc o) S a fr before :=
  have c := Chg.new h.rel o m κ (fun _ => False)
  ⟨h.rel.alloc o m κ hm hκ, h.frr.chg c (fun _ => id) (fun _ _ => id) (fun _ => id) (fun _ _ => id), h.kept.chg c id, h.pr⟩

/-- The new block becomes an object. -/
def Gh.obj (G : Gh) (id b : Nat) : Gh := { G with rho := fun i => if i = id then some b else G.rho i }
theorem Rel.addObj (h : Rel E G w S) {b : Nat} (hb : b < w.heap.size) (o : Obj) (ho : ObjR (G.obj S.length b) w S.length o) : Rel E (G.obj S.length b) w (S ++ [o]) ∧ G.Le (G.obj S.length b) := by
  have hle : G.Le (G.obj S.length b) := ⟨fun _ _ _ e => e, fun id b' e => by
    have := (h.rho id b' e).1
    simp [Gh.obj, Nat.ne_of_lt this, e], fun _ => Nat.le_refl _⟩
  refine ⟨⟨h.os, h.tape, h.output, h.size, h.old, h.imm, h.role, h.noimm, fun id b' e => ?_, h.len, fun id o' e => ?_⟩, hle⟩
  · simp only [Gh.obj] at e
    split at e
    · cases e; subst_vars; exact ⟨by simp, hb⟩
    · have := h.rho id b' e; exact ⟨by simp; omega, this.2⟩
  · by_cases hid : id < S.length
    · rw [List.getElem?_append_left hid] at e
      refine (h.obj id o' e).chg (K := fun _ => False) (G' := G.obj S.length b) (w' := w) ⟨hle, Nat.le_refl _, fun _ _ _ => ⟨rfl, rfl, fun _ => rfl⟩⟩ _root_.id (fun _ => _root_.id)
    · have hid' : id = S.length := by
        have := (List.getElem?_eq_some_iff.1 e).1
        simp at this; omega
      subst hid'
      simp at e
      subst e
      exact ho
theorem RF.addObj (h : RF E f n Gs ws G w S a fr before) {b : Nat} (hb : b < w.heap.size) (o : Obj) (ho : ObjR (G.obj S.length b) w S.length o) : RF E f n Gs ws (G.obj S.length b) w (S ++ [o]) a fr before := by
  obtain ⟨h1, h2⟩ := h.rel.addObj hb o ho
  have c : Chg (fun _ => False) G w (G.obj S.length b) w := ⟨h2, Nat.le_refl _, fun _ _ _ => ⟨rfl, rfl, fun _ => rfl⟩⟩
  exact ⟨h1, h.frr.chg c (fun _ => id) (fun _ _ => id) (fun _ => id) (fun _ _ => id), h.kept.chg c id, h.pr⟩
end Go.Av
