/- A part of the proof of a law of this seat: make, append, copy. No condition. -/
import Derived.Test.YtcmiahkfbnojnaaA9
set_option linter.all false
set_option linter.unusedVariables false
set_option linter.unusedSimpArgs false
/-! make, append, copy. -/
namespace Go.Av
variable {E : Env} {f n : Nat} {Gs G : Gh} {ws w : World} {S : St} {a : Act} {fr : Fr} {before : List Oper}

theorem flatten_get {α : Type} {sz : Nat} : ∀ {ys : List (List α)}, (∀ e ∈ ys, e.length = sz) → ys.flatten.length = ys.length * sz ∧ ∀ (i : Nat) (e : List α) (j : Nat), ys[i]? = some e → j < sz → ys.flatten[i * sz + j]? = e[j]?
  | [], _ => ⟨by simp, fun i e j h => by simp at h⟩
  | y :: ys, h => by
    obtain ⟨h1, h2⟩ := flatten_get (ys := ys) (fun e he => h e (List.mem_cons_of_mem _ he))
    have hy := h y (by simp)
    refine ⟨by simp only [List.flatten_cons, List.length_append, h1, hy, List.length_cons, Nat.add_mul, Nat.one_mul]; omega, fun i e j hi hj => ?_⟩
    rw [List.flatten_cons]
    cases i with
    | zero => simp at hi; subst hi; simp; rw [List.getElem?_append_left (by omega)]
    | succ i =>
      have e1 : (i + 1) * sz = sz + i * sz := by rw [Nat.add_mul, Nat.one_mul]; omega
      rw [List.getElem?_append_right (by omega), hy, show (i + 1) * sz + j - sz = i * sz + j by omega]
      exact h2 i e j (by simpa using hi) hj

/-- Values in a row that answer to elements. -/
structure ElemsV (G : Gh) (sz : Nat) (news : List Value) (ys : List (List AV)) : Prop where
  len : news.length = ys.length * sz
  cell : ∀ e ∈ ys, e.length = sz ∧ ∀ x ∈ e, x.cell1 = true
  vr : ∀ (i : Nat) (e : List AV) (j : Nat) (x : AV), ys[i]? = some e → e[j]? = some x → ∃ v, news[i * sz + j]? = some v ∧ VR G v x
theorem ElemsV.flat {sz : Nat} {news : List Value} {ys : List (List AV)} (h : ElemsV G sz news ys) : news.length = ys.flatten.length ∧ ∀ (k : Nat) (x : AV) (v : Value), ys.flatten[k]? = some x → news[k]? = some v → VR G v x ∧ x.cell1 = true := by
  obtain ⟨h1, h2⟩ := flatten_get (ys := ys) (fun e he => (h.cell e he).1)
  refine ⟨by rw [h.len, h1], fun k x v hx hv => ?_⟩
  have hk : k < ys.length * sz := by rw [← h1]; exact (List.getElem?_eq_some_iff.1 hx).1
  have hsz : 0 < sz := by rcases Nat.eq_zero_or_pos sz with e | e; (rw [e] at hk; simp at hk); exact e
  have hi : k / sz < ys.length := by rw [Nat.div_lt_iff_lt_mul hsz]; exact hk
  have hj : k % sz < sz := Nat.mod_lt _ hsz
  have hkk : k / sz * sz + k % sz = k := by rw [Nat.mul_comm]; exact Nat.div_add_mod k sz
  have hel : ys[k / sz]? = some ys[k / sz] := List.getElem?_eq_getElem hi
  have := h2 (k / sz) _ (k % sz) hel hj
  rw [hkk, hx] at this
  obtain ⟨v', k1, k2⟩ := h.vr (k / sz) _ (k % sz) x hel this.symm
  rw [hkk, hv] at k1
  cases k1
  exact ⟨k2, (h.cell _ (List.getElem_mem hi)).2 x (List.mem_of_getElem? this.symm)⟩
theorem ElemsV.oneCell {sz : Nat} {news : List Value} {ys : List (List AV)} (h : ElemsV G sz news ys) : ∀ u ∈ news, u.oneCell' = true := by
  intro u hu
  obtain ⟨k, hk⟩ := List.getElem?_of_mem hu
  obtain ⟨h1, h2⟩ := h.flat
  have hlt : k < ys.flatten.length := by rw [← h1]; exact (List.getElem?_eq_some_iff.1 hk).1
  obtain ⟨h3, h4⟩ := h2 k _ u (List.getElem?_eq_getElem hlt) hk
  exact h3.oneCell (AV.cell1.free1 h4)
theorem ElemsV.mono {G' : Gh} (hl : G.Le G') {sz : Nat} {news : List Value} {ys : List (List AV)} (h : ElemsV G sz news ys) : ElemsV G' sz news ys :=
  ⟨h.len, h.cell, fun i e j x h1 h2 => by obtain ⟨v, k1, k2⟩ := h.vr i e j x h1 h2; exact ⟨v, k1, k2.mono hl⟩⟩

theorem chunks_spec {sz : Nat} : ∀ {n : Nat} {l : List AV}, n * sz ≤ l.length → (chunks sz n l).length = n ∧ ∀ (i : Nat) (e : List AV), (chunks sz n l)[i]? = some e → e.length = sz ∧ ∀ (j : Nat) (x : AV), e[j]? = some x → ∃ y, l[i * sz + j]? = some y ∧ x = y.strip1
  | 0, l, _ => ⟨rfl, fun i e h => by simp [chunks] at h⟩
  | n + 1, l, h => by
    have hm : (n + 1) * sz = sz + n * sz := by rw [Nat.add_mul, Nat.one_mul]; omega
    obtain ⟨h1, h2⟩ := chunks_spec (sz := sz) (n := n) (l := l.drop sz) (by simp; omega)
    refine ⟨by simp [chunks, h1], fun i e hi => ?_⟩
    cases i with
    | zero =>
      simp [chunks] at hi
      subst hi
      refine ⟨by simp; omega, fun j x hx => ?_⟩
      rw [List.getElem?_take] at hx
      split at hx
      · rw [List.getElem?_map, Option.map_eq_some_iff] at hx
        obtain ⟨y, hy, rfl⟩ := hx
        exact ⟨y, by simpa using hy, rfl⟩
      · cases hx
    | succ i =>
      obtain ⟨h3, h4⟩ := h2 i e (by simpa [chunks] using hi)
      refine ⟨h3, fun j x hx => ?_⟩
      obtain ⟨y, hy, e1⟩ := h4 j x hx
      rw [List.getElem?_drop] at hy
      refine ⟨y, ?_, e1⟩
      rw [show (i + 1) * sz + j = sz + (i * sz + j) by rw [Nat.add_mul, Nat.one_mul]; omega]; exact hy

theorem run_loadCells_heap {P : Program} {w w' : World} (hh : w'.heap = w.heap) {ad : Addr} {cs : List Value} (h : ∀ j v, cs[j]? = some v → w.cell? (ad.add j) = some v) :
    (loadCells ad cs.length).run P w' = .ok cs.toArray w' :=
  run_loadCells_list w' ad cs fun j v hj => by rw [← h j v hj]; simp [World.cell?, hh]

/-- The elements that are appended, copied. -/
theorem elems_spec (hr : Rel E G w S) {sz : Nat} {v : Value} {x : AV} {ys : List (List AV)} (hv : VR G v x) (h : elemsA S sz x = some ys) :
    ∃ news, ElemsV G sz news ys ∧ (∀ P w', (Builtin.lenOf v).run P w' = .ok ys.length w') ∧ (∀ P w', w'.heap = w.heap → (Builtin.firstCells sz ys.length v).run P w' = .ok news.toArray w') ∧
      ∀ m, m ≤ ys.length → ∀ P w', w'.heap = w.heap → (Builtin.firstCells sz m v).run P w' = .ok (news.take (m * sz)).toArray w' := by
  -- the cells behind, and the general read
  have gen : ∀ (ad : Addr) (len cap : Nat) (news : List Value), (∀ j u, news[j]? = some u → w.cell? (ad.add j) = some u) → news.length = ys.length * sz →
      ∀ m, m ≤ ys.length → ∀ P w', w'.heap = w.heap → (Builtin.firstCells sz m (.slice (some ad) len cap)).run P w' = .ok (news.take (m * sz)).toArray w' := by
    intro ad len cap news hc hl m hm P w' hh
    have hle : m * sz ≤ news.length := by rw [hl]; exact Nat.mul_le_mul_right _ hm
    have := run_loadCells_heap (P := P) (w := w) (w' := w') hh (ad := ad) (cs := news.take (m * sz)) (fun j u hj => by
      rw [List.getElem?_take] at hj
      split at hj
      · exact hc j u hj
      · cases hj)
    rw [List.length_take, Nat.min_eq_left hle] at this
    simpa [Builtin.firstCells] using this
  cases hv with
  | str s =>
    simp only [elemsA] at h
    split at h
    · rename_i h1
      subst h1
      cases h
      refine ⟨s.map fun c => .int .u8 c.toNat, ⟨by simp, ?_, ?_⟩, ?_, ?_, ?_⟩
      · intro e he
        simp only [List.mem_map] at he
        obtain ⟨c, _, rfl⟩ := he
        exact ⟨rfl, by simp [AV.cell1, AV.free1, AV.own]⟩
      · intro i e j x hi hj
        simp only [List.getElem?_map, Option.map_eq_some_iff] at hi
        obtain ⟨c, hc, rfl⟩ := hi
        cases j with
        | zero => simp at hj; subst hj; exact ⟨_, by simp [hc], .int _ _⟩
        | succ j => simp at hj
      · intro P w'; simp [Builtin.lenOf, ByteArray.size]
      · intro P w' _
        simp only [Builtin.firstCells, List.length_map, Sem.run_pure]
        congr 1
        apply Array.ext'
        simp [ByteArray.extract, ByteArray.copySlice]
      · intro m hm P w' _
        simp only [Builtin.firstCells, Sem.run_pure]
        congr 1
        apply Array.ext'
        simp [ByteArray.extract, ByteArray.copySlice]
    · cases h
  | vsnil sy =>
    simp only [elemsA, true_or, if_true, Option.some.injEq] at h
    subst h
    refine ⟨[], ⟨by simp, by simp, by simp⟩, fun P w' => rfl, fun P w' _ => rfl, fun m hm P w' _ => by simp [Builtin.firstCells]⟩
  | vse a sy r hr' =>
    simp only [elemsA, true_or, if_true, Option.some.injEq] at h
    subst h
    refine ⟨[], ⟨by simp, by simp, by simp⟩, fun P w' => rfl, fun P w' _ => by simp [Builtin.firstCells, loadCells, loadCellsFrom], fun m hm P w' _ => ?_⟩
    have : m = 0 := by simpa using hm
    subst this
    simp [Builtin.firstCells, loadCells, loadCellsFrom]
  | vs b o cap sy es r g hr' hc hf hs him h2 =>
    simp only [elemsA] at h
    split at h
    case isFalse => cases h
    rename_i hcond
    simp only [Option.some.injEq] at h
    subst h
    have hsy : ∀ (i : Nat) (e : List AV), es[i]? = some e → sy = sz := fun i e hi => by
      rcases hcond with h0 | h0
      · subst h0; simp at hi
      · exact h0
    let news : List Value := (List.range (es.length * sz)).map fun k => g (k / sz) (k % sz)
    have hlen : news.length = es.length * sz := by simp [news]
    have hget : ∀ k, k < es.length * sz → ∃ (e : List AV) (x : AV), es[k / sz]? = some e ∧ e[k % sz]? = some x ∧ news[k]? = some (g (k / sz) (k % sz)) ∧ k / sz * sz + k % sz = k := by
      intro k hk
      have hsz : 0 < sz := by rcases Nat.eq_zero_or_pos sz with e | e; (rw [e] at hk; simp at hk); exact e
      have hi : k / sz < es.length := by rw [Nat.div_lt_iff_lt_mul hsz]; exact hk
      have hel : es[k / sz]? = some es[k / sz] := List.getElem?_eq_getElem hi
      have hsy' := hsy _ _ hel
      have hj : k % sz < es[k / sz].length := by rw [(hs _ (List.getElem_mem hi)).1, hsy']; exact Nat.mod_lt _ hsz
      exact ⟨_, _, hel, List.getElem?_eq_getElem hj, by simp [news, hk], by rw [Nat.mul_comm]; exact Nat.div_add_mod k sz⟩
    have hcells : ∀ j u, news[j]? = some u → w.cell? ((⟨b, o, none⟩ : Addr).add j) = some u := by
      intro k u hk
      have hlt : k < es.length * sz := by rw [← hlen]; exact (List.getElem?_eq_some_iff.1 hk).1
      obtain ⟨e, x, k1, k2, k3, k4⟩ := hget k hlt
      rw [hk] at k3; cases k3
      have hi := him _ _ _ _ k1 k2
      rw [hsy _ _ k1] at hi
      rw [Addr.add_lit]
      have := hr.imm _ _ _ hi
      rwa [Nat.add_assoc, k4] at this
    refine ⟨news, ⟨hlen, fun e he => ?_, fun i e j x hi hj => ?_⟩, fun P w' => rfl, ?_, gen _ _ _ news hcells hlen⟩
    · obtain ⟨i, hi⟩ := List.getElem?_of_mem he
      have := hs e he
      rw [hsy i e hi] at this; exact this
    · have hszz := hsy i e hi
      have hil : i < es.length := (List.getElem?_eq_some_iff.1 hi).1
      have hjl : j < sz := by rw [← hszz, ← (hs e (List.mem_of_getElem? hi)).1]; exact (List.getElem?_eq_some_iff.1 hj).1
      have hk : i * sz + j < es.length * sz := by
        have : (i + 1) * sz ≤ es.length * sz := Nat.mul_le_mul_right _ hil
        rw [Nat.add_mul, Nat.one_mul] at this; omega
      have hd : (i * sz + j) / sz = i := by rw [Nat.mul_comm, Nat.mul_add_div (by omega), Nat.div_eq_of_lt hjl, Nat.add_zero]
      have hm : (i * sz + j) % sz = j := by rw [Nat.mul_comm, Nat.mul_add_mod, Nat.mod_eq_of_lt hjl]
      refine ⟨g i j, by simp [news, hk, hd, hm], h2 i e j x hi hj⟩
    · intro P w' hh
      have := gen ⟨b, o, none⟩ es.length cap news hcells hlen es.length (Nat.le_refl _) P w' hh
      rwa [List.take_of_length_le (by omega)] at this
  | rs b id off len cap sy hrho hc hl =>
    simp only [elemsA] at h
    split at h
    case isFalse => cases h
    rename_i hsz
    subst hsz
    rw [Option.bind_eq_some_iff] at h
    obtain ⟨cs, hcs, h⟩ := h
    split at h
    case isFalse => cases h
    rename_i hle
    cases h
    obtain ⟨b', arr, e, k1, k2, k3, k4, k5⟩ := hr.cells hcs
    rw [hrho] at k2; cases k2
    obtain ⟨c1, c2⟩ := chunks_spec (sz := sy) (n := len) (l := cs.drop off) (by simp; omega)
    let news : List Value := (arr.toList.drop off).take (len * sy)
    have hal := k5.1
    have hlen : news.length = (chunks sy len (cs.drop off)).length * sy := by rw [c1]; simp [news]; omega
    have hnews : ∀ k, k < len * sy → news[k]? = arr[off + k]? := fun k hk => by simp [news, hk, List.getElem?_take, List.getElem?_drop]
    have hcells : ∀ j u, news[j]? = some u → w.cell? ((⟨b, off, none⟩ : Addr).add j) = some u := by
      intro k u hk
      have hlt : k < len * sy := by
        have := (List.getElem?_eq_some_iff.1 hk).1
        rw [hlen, c1] at this; exact this
      rw [hnews k hlt] at hk
      rw [Addr.add_lit, cell_row k4]; exact hk
    have hall : ∀ (i : Nat) (e : List AV) (j : Nat) (x : AV), (chunks sy len (cs.drop off))[i]? = some e → e[j]? = some x → ∃ v, news[i * sy + j]? = some v ∧ VR G v x ∧ x.cell1 = true := by
      intro i e j x hi hj
      obtain ⟨d1, d2⟩ := c2 i e hi
      obtain ⟨y, hy, rfl⟩ := d2 j x hj
      rw [List.getElem?_drop] at hy
      obtain ⟨v, hv, hcell⟩ := k5.get hy
      have hil : i < len := by rw [← c1]; exact (List.getElem?_eq_some_iff.1 hi).1
      have hjl : j < sy := by rw [← d1]; exact (List.getElem?_eq_some_iff.1 hj).1
      have hk : i * sy + j < len * sy := by
        have : (i + 1) * sy ≤ len * sy := Nat.mul_le_mul_right _ hil
        rw [Nat.add_mul, Nat.one_mul] at this; omega
      exact ⟨v, by rw [hnews _ hk]; exact hv, hcell.vr.strip1, AV.cell1_strip1 hcell.free⟩
    refine ⟨news, ⟨hlen, fun e he => ?_, fun i e j x hi hj => ?_⟩, fun P w' => by rw [c1]; rfl, ?_, gen _ _ _ news hcells hlen⟩
    · obtain ⟨i, hi⟩ := List.getElem?_of_mem he
      refine ⟨(c2 i e hi).1, fun x hx => ?_⟩
      obtain ⟨j, hj⟩ := List.getElem?_of_mem hx
      obtain ⟨v, _, _, d⟩ := hall i e j x hi hj
      exact d
    · obtain ⟨v, d1, d2, _⟩ := hall i e j x hi hj
      exact ⟨v, d1, d2⟩
    · intro P w' hh
      have := gen ⟨b, off, none⟩ len cap news hcells hlen _ (Nat.le_refl _) P w' hh
      rwa [List.take_of_length_le (by omega)] at this
  | _ => simp [elemsA] at h
end Go.Av
