/- A part of the proof of a law of this seat: New values: structs, arrays, slices; boxes. No condition. -/
import Derived.Test.YtcmiahkfbnojnaaA7
import Derived.Laws.MakeOwn
set_option linter.all false
set_option linter.unusedVariables false
set_option linter.unusedSimpArgs false
/-! New values: structs, arrays, slices; boxes. -/
namespace Go.Av
variable {E : Env} {f n : Nat} {Gs G : Gh} {ws w : World} {S : St} {a : Act} {fr : Fr} {before : List Oper}

/-- The cells one by one, put into a row. -/
theorem fold_cells (off : Nat) : ∀ (l : List Value) (k : Nat) (arr : Array Value), off + k + l.length ≤ arr.size →
    ((l.zipIdx k).foldl (fun cs (p : Value × Nat) => cs.setIfInBounds (off + p.2) p.1) arr).size = arr.size ∧
    ∀ m, ((l.zipIdx k).foldl (fun cs (p : Value × Nat) => cs.setIfInBounds (off + p.2) p.1) arr)[m]? = if off + k ≤ m ∧ m < off + k + l.length then l[m - (off + k)]? else arr[m]?
  | [], k, arr, _ => by
    refine ⟨rfl, fun m => ?_⟩
    have : ¬ (off + k ≤ m ∧ m < off + k + ([] : List Value).length) := by simp
    rw [if_neg this]; rfl
  | v :: l, k, arr, h => by
    have h' : off + (k + 1) + l.length ≤ (arr.setIfInBounds (off + k) v).size := by simp at h ⊢; omega
    obtain ⟨h1, h2⟩ := fold_cells off l (k + 1) (arr.setIfInBounds (off + k) v) h'
    simp only [List.zipIdx_cons, List.foldl_cons]
    refine ⟨by rw [h1]; simp, fun m => ?_⟩
    rw [h2]
    simp at h
    by_cases e1 : m = off + k
    · subst e1
      have hlt : off + k < arr.size := by omega
      simp [hlt]
      omega
    · by_cases e2 : off + (k + 1) ≤ m ∧ m < off + (k + 1) + l.length
      · rw [if_pos e2, if_pos (by simp; omega)]
        rw [show m - (off + k) = (m - (off + (k + 1))) + 1 by omega]
        simp
      · rw [if_neg e2, if_neg (by simp; omega), Array.getElem?_setIfInBounds_ne (fun e => e1 e.symm)]

theorem fill_step {off : Nat} {v : Value} {cells : Array Value} (h : off + v.cells.size ≤ cells.size) :
    ∃ arr, v.cells.zipIdx.foldl (fun cs (c, j) => cs.setIfInBounds (off + j) c) cells = arr ∧ arr.size = cells.size ∧ ∀ m, arr[m]? = if off ≤ m ∧ m < off + v.cells.size then v.cells[m - off]? else cells[m]? := by
  obtain ⟨h1, h2⟩ := fold_cells off v.cells.toList 0 cells (by simpa using h)
  have e : v.cells.zipIdx.foldl (fun cs (c, j) => cs.setIfInBounds (off + j) c) cells = (v.cells.toList.zipIdx 0).foldl (fun cs (p : Value × Nat) => cs.setIfInBounds (off + p.2) p.1) cells := by
    rw [← Array.foldl_toList]
    simp
  refine ⟨_, e, h1, fun m => ?_⟩
  have := h2 m
  simpa using this

theorem AV.strip_free {x : AV} (hf : x.free = true) : x.strip.free = true := by
  rcases AV.free_cases hf with ⟨g1, g2⟩ | ⟨cs, rfl, g1⟩
  · rw [AV.strip_of_free1 g1]; exact AV.free_of_free1 (by rw [AV.free1_strip1]; exact g1)
  · simp only [AV.strip, AV.strip2, AV.free, List.all_map, List.all_eq_true, Function.comp_apply]
    intro c hc; rw [AV.free1_strip1]; exact g1 c hc
/-- Rows that answer to each other, cell by cell. -/
def CellsV (G : Gh) (arr : Array Value) (cs : List AV) : Prop :=
  arr.size = cs.length ∧ (∀ (j : Nat) (x : AV) (v : Value), cs[j]? = some x → arr[j]? = some v → VR G v x) ∧ ∀ c ∈ cs, c.cell1 = true

theorem CellsV.write {arr : Array Value} {cs : List AV} (h : CellsV G arr cs) {v : Value} {x : AV} (hv : VR G v x) (hf : x.free = true) {off sz : Nat} (hs : x.cells.length = sz) (hb : off + sz ≤ cs.length) :
    v.cells.size = sz ∧ ∃ arr', v.cells.zipIdx.foldl (fun cs (c, j) => cs.setIfInBounds (off + j) c) arr = arr' ∧ CellsV G arr' (writeAt cs off x.strip.cells) := by
  have h1 : v.cells.size = sz := by rw [hv.cells_size hf, hs]
  have h2 : x.strip.cells.length = sz := by rw [AV.length_cells_strip hf, hs]
  have hfs : x.strip.free = true := by
    rcases AV.free_cases hf with ⟨g1, g2⟩ | ⟨cs, rfl, g1⟩
    · rw [AV.strip_of_free1 g1]; exact AV.free_of_free1 (by rw [AV.free1_strip1]; exact g1)
    · simp only [AV.strip, AV.strip2, AV.free, List.all_map, List.all_eq_true, Function.comp_apply]
      intro c hc; rw [AV.free1_strip1]; exact g1 c hc
  obtain ⟨arr', e1, e2, e3⟩ := fill_step (off := off) (v := v) (cells := arr) (by rw [h.1, h1]; exact hb)
  refine ⟨h1, arr', e1, by rw [e2, h.1, length_writeAt (by rw [h2]; exact hb)], fun j y u hy hu => ?_, fun c hc => ?_⟩
  · rw [writeAt, getElem?_write _ _ _ _ (by rw [h2]; exact hb)] at hy
    rw [e3] at hu
    rw [h1] at hu
    rw [h2] at hy
    by_cases e : off ≤ j ∧ j < off + sz
    · rw [if_pos e] at hy hu
      exact hv.strip.cells hfs _ _ _ hy hu
    · rw [if_neg e] at hy hu
      exact h.2.1 j y u hy hu
  · obtain ⟨j, hj⟩ := List.getElem?_of_mem hc
    rw [writeAt, getElem?_write _ _ _ _ (by rw [h2]; exact hb)] at hj
    split at hj
    · exact AV.cells_strip_cell1 hf c (List.mem_of_getElem? hj)
    · exact h.2.2 c (List.mem_of_getElem? hj)

theorem fillA_spec {fs : List (Nat × Nat × Nat)} {place : Nat → Option (Nat × Nat)} (hp : ∀ i fo ty sz, fs[i]? = some (fo, ty, sz) → place i = some (fo, sz)) :
    ∀ {ps : List (Nat × AV)} {vs : List (Nat × Value)} {arr : Array Value} {cs cs' : List AV}, ps.length = vs.length → (∀ (i : Nat) (p : Nat × AV) (q : Nat × Value), ps[i]? = some p → vs[i]? = some q → p.1 = q.1 ∧ VR G q.2 p.2) →
      CellsV G arr cs → fillA fs ps cs = some cs' → ∃ arr', Instr.fill place arr vs = some arr' ∧ CellsV G arr' cs'
  | [], [], arr, cs, cs', _, _, hc, h => by simp only [fillA, Option.some.injEq] at h; subst h; exact ⟨arr, rfl, hc⟩
  | (i, x) :: ps, (i', v) :: vs, arr, cs, cs', hl, hr, hc, h => by
    obtain ⟨rfl, hv⟩ := hr 0 (i, x) (i', v) rfl rfl
    simp only [fillA] at h
    split at h
    · rename_i fo ty sz hfs
      split at h
      · rename_i hcond
        simp only [Bool.and_eq_true, beq_iff_eq, decide_eq_true_eq] at hcond
        obtain ⟨⟨c1, c2⟩, c3⟩ := hcond
        obtain ⟨k1, arr', k2, k3⟩ := hc.write hv c1 c2 c3
        obtain ⟨arr2, k4, k5⟩ := fillA_spec (arr := arr') hp (by simpa using hl) (fun j p q h1 h2 => hr (j + 1) p q (by simpa using h1) (by simpa using h2)) k3 h
        refine ⟨arr2, ?_, k5⟩
        simp only [Instr.fill, hp i fo ty sz hfs]
        have : ¬ (v.cells.size ≠ sz || decide (fo + v.cells.size > arr.size)) = true := by
          simp [k1, hc.1]; omega
        rw [if_neg this, k2, k4]
      · cases h
    · cases h
  | [], _ :: _, _, _, _, hl, _, _, _ => by simp at hl
  | _ :: _, [], _, _, _, hl, _, _, _ => by simp at hl
theorem fillE_spec {sz : Nat} : ∀ {ps : List (Nat × AV)} {vs : List (Nat × Value)} {arr : Array Value} {cs cs' : List AV}, ps.length = vs.length → (∀ (i : Nat) (p : Nat × AV) (q : Nat × Value), ps[i]? = some p → vs[i]? = some q → p.1 = q.1 ∧ VR G q.2 p.2) →
      CellsV G arr cs → fillE sz ps cs = some cs' → ∃ arr', Instr.fill (fun i => some (i * sz, sz)) arr vs = some arr' ∧ CellsV G arr' cs'
  | [], [], arr, cs, cs', _, _, hc, h => by simp only [fillE, Option.some.injEq] at h; subst h; exact ⟨arr, rfl, hc⟩
  | (i, x) :: ps, (i', v) :: vs, arr, cs, cs', hl, hr, hc, h => by
    obtain ⟨rfl, hv⟩ := hr 0 (i, x) (i', v) rfl rfl
    simp only [fillE] at h
    split at h
    · rename_i hcond
      simp only [Bool.and_eq_true, beq_iff_eq, decide_eq_true_eq] at hcond
      obtain ⟨⟨c1, c2⟩, c3⟩ := hcond
      obtain ⟨k1, arr', k2, k3⟩ := hc.write hv c1 c2 c3
      obtain ⟨arr2, k4, k5⟩ := fillE_spec (arr := arr') (by simpa using hl) (fun j p q h1 h2 => hr (j + 1) p q (by simpa using h1) (by simpa using h2)) k3 h
      refine ⟨arr2, ?_, k5⟩
      simp only [Instr.fill]
      have : ¬ (v.cells.size ≠ sz || decide (i * sz + v.cells.size > arr.size)) = true := by
        simp [k1, hc.1]; omega
      rw [if_neg this, k2, k4]
    · cases h
  | [], _ :: _, _, _, _, hl, _, _, _ => by simp at hl
  | _ :: _, [], _, _, _, hl, _, _, _ => by simp at hl

theorem zero_CellsV (A : Agree E) {t : Nat} (ht : E.C.has t = true) {i : TypeInfo} {z : Value} (hi : E.P.info? t = some i) (hz : i.zero = some z) (G : Gh) : CellsV G z.cells (E.C.ty t).zero := by
  obtain ⟨i', z', d, h1, h2, h3, h4, h5, h6, h7, h8, h9, h10⟩ := (A.ty t ht).ex
  rw [hi] at h1; cases h1
  rw [hz] at h4; cases h4
  have k := zOk_spec h9
  exact ⟨by simpa using k.1, fun j x v hx hv => (k.2 G j v x (by simpa using hv) hx).1, (A.ty t ht).cell⟩

theorem fields_mapM {P : Program} : ∀ {l : List Field} {m : List (Nat × Nat × Nat)}, fieldsOk P l m = true → l.mapM (fun f => (P.info? f.type).map fun i => (f.offset, i.size)) = some (m.map fun p => (p.1, p.2.2))
  | [], [], _ => rfl
  | f :: l, p :: m, h => by
    simp only [fieldsOk, Bool.and_eq_true, beq_iff_eq] at h
    obtain ⟨⟨⟨h1, h2⟩, h3⟩, h4⟩ := h
    split at h3
    · rename_i inf hinf
      simp only [beq_iff_eq] at h3
      simp [List.mapM_cons, hinf, fields_mapM h4, h1, h3]
    · cases h3
  | [], _ :: _, h => by simp [fieldsOk] at h
  | _ :: _, [], h => by simp [fieldsOk] at h

theorem run_buildA (A : Agree E) {t : Nat} (ht : E.C.has t = true) {esz : Nat} (hel : ∀ n e, (E.C.ty t).kind = .array n e → E.C.has e = true ∧ esz = (E.C.ty e).size) {ps : List (Nat × AV)} {vs : Array (Nat × Value)} (hl : ps.length = vs.size)
    (hr : ∀ (i : Nat) (p : Nat × AV) (q : Nat × Value), ps[i]? = some p → vs[i]? = some q → p.1 = q.1 ∧ VR G q.2 p.2) {r : AV} (h : buildA (E.C.ty t) esz ps = some r) :
    ∃ v, (Instr.build t vs).run E.P w = .ok v w ∧ ∀ κ κc, ValR G w κ κc v r := by
  obtain ⟨i, z, d, h1, h2, h3, h4, h5, h6, h7, h8, h9, h10⟩ := (A.ty t ht).ex
  have hcv := zero_CellsV A ht h1 h4 G
  have hr' : ∀ (i : Nat) (p : Nat × AV) (q : Nat × Value), ps[i]? = some p → vs.toList[i]? = some q → p.1 = q.1 ∧ VR G q.2 p.2 := fun i p q a b => hr i p q a (by simpa using b)
  have fin : ∀ (arr : Array Value) (cs : List AV), CellsV G arr cs → ∀ κ κc, ValR G w κ κc (.agg arr) (.agg cs) := fun arr cs hc κ κc =>
    .of_agg (.agg cs arr hc.1 hc.2.1) fun c hm => AV.cell1.own (hc.2.2 c hm)
  unfold buildA at h
  split at h
  · rename_i fs hk
    rw [Option.map_eq_some_iff] at h
    obtain ⟨cs, hcs, rfl⟩ := h
    obtain ⟨fl, k1, k2⟩ := (A.ty t ht).struct hk
    obtain ⟨arr', k3, k4⟩ := fillA_spec (place := ((fs.map fun p => (p.1, p.2.2)).toArray[·]?)) (fun i fo ty sz hi => by simp [hi]) (by simpa using hl) hr' hcv hcs
    refine ⟨.agg arr', run_build w t vs arr' ?_, fin arr' cs k4⟩
    simp only [Program.built, h1, k1, h4, fields_mapM k2, k3]
  · rename_i n e hk
    rw [Option.map_eq_some_iff] at h
    obtain ⟨cs, hcs, rfl⟩ := h
    obtain ⟨he, rfl⟩ := hel n e hk
    have k1 := (A.ty t ht).array hk
    obtain ⟨ie, _, _, q1, q2, _⟩ := (A.ty e he).ex
    obtain ⟨arr', k3, k4⟩ := fillE_spec (by simpa using hl) hr' hcv hcs
    refine ⟨.agg arr', run_build w t vs arr' ?_, fin arr' cs k4⟩
    simp only [Program.built, h1, k1, h4, q1, q2, k3]
  · cases h

theorem fill_slice {sz : Nat} : ∀ {vs : List (Nat × Value)} {k : Nat} {arr : Array Value}, (∀ (i : Nat) (q : Nat × Value), vs[i]? = some q → q.1 = k + i ∧ q.2.cells.size = sz) → (k + vs.length) * sz ≤ arr.size →
    ∃ arr', Instr.fill (fun i => some (i * sz, sz)) arr vs = some arr' ∧ arr'.size = arr.size ∧ (∀ m, m < k * sz → arr'[m]? = arr[m]?) ∧ ∀ (i : Nat) (q : Nat × Value) (j : Nat), vs[i]? = some q → j < sz → arr'[(k + i) * sz + j]? = q.2.cells[j]?
  | [], k, arr, _, _ => ⟨arr, rfl, rfl, fun _ _ => rfl, fun i q j h => by simp at h⟩
  | (i0, v) :: vs, k, arr, h, hb => by
    obtain ⟨h1, h2⟩ := h 0 (i0, v) rfl
    simp only [Nat.add_zero] at h1 h2
    subst h1
    have hb' : i0 * sz + v.cells.size ≤ arr.size := by
      rw [h2]
      have : (i0 + (vs.length + 1)) * sz = i0 * sz + (vs.length + 1) * sz := Nat.add_mul _ _ _
      have : sz ≤ (vs.length + 1) * sz := Nat.le_mul_of_pos_left sz (by omega)
      simp at hb; omega
    obtain ⟨arr1, e1, e2, e3⟩ := fill_step hb'
    obtain ⟨arr', k1, k2, k3, k4⟩ := fill_slice (vs := vs) (k := i0 + 1) (arr := arr1) (fun i q hq => by
      have := h (i + 1) q (by simpa using hq)
      exact ⟨by omega, this.2⟩) (by rw [e2]; simp at hb; rwa [show i0 + 1 + vs.length = i0 + (vs.length + 1) by omega])
    have hexp : (i0 + 1) * sz = i0 * sz + sz := by rw [Nat.add_mul, Nat.one_mul]
    refine ⟨arr', ?_, k2.trans e2, fun m hm => ?_, fun i q j hq hj => ?_⟩
    · simp only [Instr.fill]
      have : ¬ (v.cells.size ≠ sz || decide (i0 * sz + v.cells.size > arr.size)) = true := by simp [h2]; omega
      rw [if_neg this, e1, k1]
    · rw [k3 m (by omega), e3, if_neg (by omega)]
    · cases i with
      | zero =>
        simp at hq
        subst hq
        rw [Nat.add_zero, k3 _ (by omega), e3, if_pos (by omega)]
        congr 1; omega
      | succ i =>
        have := k4 i q j (by simpa using hq) hj
        rwa [show i0 + 1 + i = i0 + (i + 1) by omega] at this

theorem elemVals_spec {sz : Nat} : ∀ {xs : List AV} {es : List (List AV)}, elemVals sz xs = some es → xs.length = es.length ∧ ∀ (i : Nat) (x : AV), xs[i]? = some x → x.free = true ∧ x.cells.length = sz ∧ es[i]? = some x.strip.cells
  | [], es, h => by simp only [elemVals, Option.some.injEq] at h; subst h; exact ⟨rfl, fun i x h => by simp at h⟩
  | x :: xs, es, h => by
    simp only [elemVals] at h
    split at h
    · rename_i hc
      rw [Option.map_eq_some_iff] at h
      obtain ⟨es', h1, rfl⟩ := h
      obtain ⟨k1, k2⟩ := elemVals_spec h1
      refine ⟨by simp [k1], fun i y hy => ?_⟩
      cases i with
      | zero => simp at hy; subst hy; exact ⟨hc.1, hc.2, rfl⟩
      | succ i => simpa using k2 i y (by simpa using hy)
    · cases h

/-- A new row of elements that never change. -/
theorem RF.newRow (h : RF E f n Gs ws G w S a fr before) {arr : Array Value} {e : Nat} {es : List (List AV)} {sz cap : Nat} (g : Nat → Nat → Value) (κ : Key) (r : Rt) (hr : r ≠ .nil) (hκ : (∀ id, κ ≠ .obj id) ∧ ∀ t, κ ≠ .lbox t) (hcap : es.length ≤ cap) (hsz : arr.size = cap * sz)
    (hf : r = .full → cap = es.length) (hs : ∀ e ∈ es, e.length = sz ∧ ∀ x ∈ e, x.cell1 = true)
    (hg : ∀ (i : Nat) (e : List AV) (j : Nat) (x : AV), es[i]? = some e → e[j]? = some x → arr[i * sz + j]? = some (g i j) ∧ VR G (g i j) x) :
    ∃ G', RF E f n Gs ws G' (w.alloc (.cells arr e)) S a fr before ∧ ValR G' (w.alloc (.cells arr e)) κ (fun _ => .ext) (.slice (some ⟨w.heap.size, 0, none⟩) es.length cap) (.vs sz es r) ∧ G.Le G' := by
  have hle : ∀ i j, i < es.length → j < sz → i * sz + j < es.length * sz := fun i j hi hj => by
    have : (i + 1) * sz ≤ es.length * sz := Nat.mul_le_mul_right _ hi
    rw [Nat.add_mul, Nat.one_mul] at this; omega
  let m : Nat → Option Value := fun o => if o < es.length * sz then arr[o]? else none
  have hrf := h.alloc (.cells arr e) m κ (fun j v hj => by
    simp only [m] at hj
    split at hj
    · rw [World.cell?_alloc_new]; exact hj
    · cases hj) (fun hc => by rcases hc with ⟨id, e⟩ | ⟨t, e⟩; exact (hκ.1 id e).elim; exact (hκ.2 t e).elim)
  have hLe : G.Le (G.new w.heap.size m κ) := (Chg.new h.rel (.cells arr e) m κ (fun _ => False)).le
  refine ⟨_, hrf, ⟨?_, fun _ => ⟨w.heap.size, 0, es.length, cap, rfl, sz, es, ?_, rfl, ?_⟩, by simp, by simp, by simp⟩, hLe⟩
  · refine .vs w.heap.size 0 cap sz es r g hr hcap hf hs (fun i e' j x h1 h2 => ?_) (fun i e' j x h1 h2 => (hg i e' j x h1 h2).2.mono hLe)
    have hi : i < es.length := (List.getElem?_eq_some_iff.1 h1).1
    have hj : j < sz := by
      rw [← (hs e' (List.mem_of_getElem? h1)).1]; exact (List.getElem?_eq_some_iff.1 h2).1
    simp only [Gh.new, if_true, Nat.zero_add, m]
    rw [if_pos (hle i j hi hj)]
    exact (hg i e' j x h1 h2).1
  · rename_i ho; cases r <;> simp_all [AV.own]
  · right
    refine ⟨by simp [Gh.new], ⟨arr, e, heap_alloc_new w _, by rw [hsz]; omega⟩, fun j hj => ?_⟩
    simp only [Gh.new, if_true, m]
    rw [if_neg (by omega)]

theorem run_buildSlice (A : Agree E) {t e : Nat} (ht : E.C.has t = true) (he : E.C.has e = true) (hk : (E.C.ty t).kind = .slice e) (h : RF E f n Gs ws G w S a fr before) {len : Nat} {ps : List (Nat × AV)} {vs : Array (Nat × Value)} (hl : ps.length = vs.size)
    (hr : ∀ (i : Nat) (p : Nat × AV) (q : Nat × Value), ps[i]? = some p → vs[i]? = some q → p.1 = q.1 ∧ VR G q.2 p.2) (hrange : ps.map (·.1) = List.range len) (hlen : len ≤ 1000)
    {es : List (List AV)} (hes : elemVals (E.C.ty e).size (ps.map (·.2)) = some es) :
    ∃ v w' G', (Instr.buildSlice t len vs).run E.P w = .ok v w' ∧ RF E f n Gs ws G' w' S a fr before ∧ ∀ κ κc, ValR G' w' κ κc v (.vs (E.C.ty e).size es .full) := by
  obtain ⟨k1, k2⟩ := elemVals_spec hes
  have hplen : ps.length = len := by have := congrArg List.length hrange; simpa using this
  have hesl : es.length = len := by rw [← k1]; simpa using hplen
  have hul := (A.ty t ht).slice hk
  obtain ⟨i, z, d, h1, h2, h3, h4, h5, h6, h7, h8, h9, h10⟩ := (A.ty e he).ex
  have hszb := (A.ty e he).cells
  have hbig : ¬ (len * (E.C.ty e).size > 16777216) := by
    have : len * (E.C.ty e).size ≤ 1000 * 1400 := Nat.mul_le_mul hlen hszb
    omega
  have hv : ∀ (i : Nat) (q : Nat × Value), vs.toList[i]? = some q → q.1 = 0 + i ∧ q.2.cells.size = (E.C.ty e).size := by
    intro i q hq
    have hi : i < ps.length := by rw [hl]; simpa using (List.getElem?_eq_some_iff.1 hq).1
    have hp : ps[i]? = some ps[i] := List.getElem?_eq_getElem hi
    obtain ⟨c1, c2⟩ := hr i _ q hp (by simpa using hq)
    have c3 : (ps.map (·.1))[i]? = some i := by rw [hrange, List.getElem?_range (by omega)]
    have c4 : (ps.map (·.1))[i]? = some ps[i].1 := by simp [hi]
    rw [c4] at c3
    simp only [Option.some.injEq] at c3
    obtain ⟨d1, d2, d3⟩ := k2 i ps[i].2 (by simp [hi])
    exact ⟨by rw [← c1]; omega, by rw [c2.cells_size d1, d2]⟩
  have hpi : ∀ (i : Nat) (el : List AV), es[i]? = some el → ∃ p, ps[i]? = some p ∧ p.2.free = true ∧ p.2.cells.length = (E.C.ty e).size ∧ el = p.2.strip.cells := by
    intro i el hi
    have hlt : i < ps.length := by
      have : i < es.length := (List.getElem?_eq_some_iff.1 hi).1
      omega
    obtain ⟨d1, d2, d3⟩ := k2 i ps[i].2 (by simp [hlt])
    rw [hi] at d3
    simp only [Option.some.injEq] at d3
    exact ⟨ps[i], List.getElem?_eq_getElem hlt, d1, d2, d3⟩
  let zz : Array Value := if len * (E.C.ty e).size = 0 then #[] else z.cells
  let arr0 : Array Value := (Array.range (len * (E.C.ty e).size)).map (zz[· % zz.size]!)
  have harr0 : arr0.size = len * (E.C.ty e).size := by simp [arr0]
  obtain ⟨arr', f1, f2, _, f4⟩ := fill_slice (k := 0) (arr := arr0) hv (by simp [harr0, ← hl, hplen])
  obtain ⟨G', r1, r2, r3⟩ := h.newRow (arr := arr') (e := e) (es := es) (sz := (E.C.ty e).size) (cap := len) (fun i j => arr'.getD (i * (E.C.ty e).size + j) undef) .ext .full (by simp) ⟨by simp, by simp⟩ (by omega) (by rw [f2, harr0]) (fun _ => hesl.symm)
    (fun el hel => by
      obtain ⟨i, hi⟩ := List.getElem?_of_mem hel
      obtain ⟨p, hp, d1, d2, d3⟩ := hpi i el hi
      subst d3
      exact ⟨by rw [AV.length_cells_strip d1, d2], AV.cells_strip_cell1 d1⟩)
    (fun i el j x hi hj => by
      obtain ⟨p, hp, d1, d2, d3⟩ := hpi i el hi
      subst d3
      have hlt' : i < ps.length := (List.getElem?_eq_some_iff.1 hp).1
      have hj' : j < (E.C.ty e).size := by
        rw [← d2, ← AV.length_cells_strip d1]; exact (List.getElem?_eq_some_iff.1 hj).1
      have hltv : i < vs.size := by omega
      have hq : vs[i]? = some vs[i] := by simp [hltv]
      obtain ⟨c1, c2⟩ := hr i _ _ hp hq
      have hget := f4 i vs[i] j (by simpa using hq) hj'
      rw [Nat.zero_add] at hget
      have hsz : j < vs[i].2.cells.size := by rw [c2.cells_size d1, d2]; exact hj'
      have hgv : vs[i].2.cells[j]? = some vs[i].2.cells[j] := by simp [hsz]
      rw [hgv] at hget
      have e6 : arr'.getD (i * (E.C.ty e).size + j) undef = vs[i].2.cells[j] := by rw [Array.getD_eq_getD_getElem?, hget]; rfl
      rw [e6]
      exact ⟨hget, c2.strip.cells (AV.strip_free d1) j x _ hj hgv⟩)
  refine ⟨.slice (some ⟨w.heap.size, 0, none⟩) len len, _, G', ?_, r1, fun κ κc => ?_⟩
  · simp only [Instr.buildSlice, Sem.run_bind, run_underlying hul, Result.andThen_ok, run_sizeOf A he, show (2 : Nat) ^ 24 = 16777216 from rfl, if_neg hbig, Sem.run_pure]
    by_cases h0 : len * (E.C.ty e).size = 0
    · simp only [if_pos h0, Sem.run_pure, Result.andThen_ok]
      have : zz = #[] := by simp [zz, h0]
      simp only [arr0, this] at f1
      simp only [f1, newRow, Sem.run_bind, run_newObj, Result.andThen_ok, Sem.run_pure, World.alloc_eq]
    · have hzv : (zeroValue e).run E.P w = .ok z w := by simp [zeroValue, typeInfo, h1, h4]
      simp only [if_neg h0, Sem.run_bind, hzv, Sem.run_pure, Result.andThen_ok]
      have : zz = z.cells := by simp [zz, h0]
      simp only [arr0, this] at f1
      simp only [f1, newRow, Sem.run_bind, run_newObj, Result.andThen_ok, Sem.run_pure, World.alloc_eq]
  · rw [hesl] at r2
    exact .of_cell1 r2.vr rfl
end Go.Av
