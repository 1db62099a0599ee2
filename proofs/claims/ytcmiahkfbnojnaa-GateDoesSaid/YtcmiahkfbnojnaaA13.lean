/- A part of the proof of a law of this seat: append where the elements lie in objects. No condition. -/
import Derived.Test.YtcmiahkfbnojnaaA12
set_option linter.all false
set_option linter.unusedVariables false
set_option linter.unusedSimpArgs false
/-! append where the elements lie in objects. -/
namespace Go.Av
variable {E : Env} {f n : Nat} {Gs G : Gh} {ws w : World} {S : St} {a : Act} {fr : Fr} {before : List Oper}

theorem set_dead_get {S : St} {id i : Nat} {o : Obj} (h : (S.set id .dead)[i]? = some o) (hd : o ≠ .dead) : S[i]? = some o ∧ i ≠ id := by
  rw [List.getElem?_set] at h
  by_cases e : id = i
  · simp only [e, if_true] at h
    split at h
    · cases h; exact (hd rfl).elim
    · cases h
  · simp only [e, if_false] at h; exact ⟨h, Ne.symm e⟩

/-- The cells of one object become those of another, which is to come; the one dies. -/
def mvObj (id id' : Nat) (whole : Bool) : Key → Key
  | .obj i => if i = id ∧ whole = true then .obj id' else .obj i
  | .ocell i j => if i = id then .ocell id' j else .ocell i j
  | κ => κ
theorem RF.kill (h : RF E f n Gs ws G w S a fr before) (id id' : Nat) (whole : Bool) : RF E f n Gs ws (G.relabel (mvObj id id' whole)) w (S.set id .dead) a fr before := by
  have hLe : G.Le (G.relabel (mvObj id id' whole)) := ⟨fun _ _ _ e => e, fun _ _ e => e, fun _ => Nat.le_refl _⟩
  refine ⟨⟨h.rel.os, h.rel.tape, h.rel.output, h.rel.size, fun b hb => ⟨(h.rel.old b hb).1, by simp [Gh.relabel, (h.rel.old b hb).2, mvObj]⟩, h.rel.imm, fun b hb => by simp [Gh.relabel, h.rel.role b hb, mvObj], fun b hb => ?_,
    fun i b hb => by simpa using h.rel.rho i b hb, h.rel.len, fun i o ho => ?_⟩, ⟨h.frr.defers, h.frr.size, fun t => ((h.frr.slot t).relabel (f := mvObj id id' whole)).rekey rfl (fun _ => rfl), fun t cs hb => ?_⟩, h.kept.relabel rfl, h.pr⟩
  · refine h.rel.noimm b ?_
    rcases hb with ⟨i, hi⟩ | ⟨t, ht⟩
    · cases hr : G.role b <;> simp [Gh.relabel, hr, mvObj] at hi <;> first | exact .inl ⟨_, rfl⟩ | (split at hi <;> cases hi)
    · cases hr : G.role b <;> simp [Gh.relabel, hr, mvObj] at ht <;> first | exact .inr ⟨_, rfl⟩ | (split at ht <;> cases ht)
  · by_cases hd : o = .dead
    · subst hd; trivial
    · obtain ⟨h1, h2⟩ := set_dead_get ho hd
      have := h.rel.obj i o h1
      cases o with
      | cells cs =>
        obtain ⟨b', arr', e'', hr, hb, hh, hrow⟩ := this
        exact ⟨b', arr', e'', hr, by simp [Gh.relabel, hb, mvObj, h2], hh, (hrow.relabel (f := mvObj id id' whole)).rekey fun j => by simp [mvObj, h2]⟩
      | map m =>
        obtain ⟨b', es, clk, hr, hb, hh, hs, he⟩ := this
        exact ⟨b', es, clk, hr, by simp [Gh.relabel, hb, mvObj, h2], hh, hs, fun i e p e1 e2 => (he i e p e1 e2).mono hLe⟩
      | dead => trivial
  · obtain ⟨h1, b', arr', e', h2, h3, h4, h5⟩ := h.frr.box t cs hb
    exact ⟨h1, b', arr', e', h2, by simp [Gh.relabel, h3, mvObj], h4, (h5.relabel (f := mvObj id id' whole)).rekey fun j => rfl⟩

theorem RowR.append {κ : Nat → Key} {arr arr' : Array Value} {cs ys : List AV} {k : Nat} (h : RowR G w κ arr cs) (hk : k ≤ cs.length) {news : List Value} (hl : news.length = ys.length) (hn : ∀ (j : Nat) (x : AV) (v : Value), ys[j]? = some x → news[j]? = some v → VR G v x ∧ x.cell1 = true)
    (hs : k + news.length ≤ arr'.size) (h1 : ∀ j, j < k → arr'[j]? = arr[j]?) (h2 : ∀ j, j < news.length → arr'[k + j]? = news[j]?) : RowR G w κ arr' (cs.take k ++ ys) := by
  have htk : (cs.take k).length = k := by rw [List.length_take, Nat.min_eq_left hk]
  refine ⟨by rw [List.length_append, htk]; omega, fun j x v hx hv => ?_⟩
  by_cases e : j < k
  · rw [List.getElem?_append_left (by rw [htk]; exact e), List.getElem?_take, if_pos e] at hx
    rw [h1 j e] at hv
    exact h.2 j x v hx hv
  · rw [List.getElem?_append_right (by rw [htk]; omega), htk] at hx
    have hlt : j - k < news.length := by rw [hl]; exact (List.getElem?_eq_some_iff.1 hx).1
    have := h2 (j - k) hlt
    rw [show k + (j - k) = j by omega, hv] at this
    obtain ⟨q1, q2⟩ := hn (j - k) x v hx this.symm
    exact ⟨q1, AV.cell1.free1 q2, .of_not (AV.cell1.own q2)⟩

theorem RF.appendR (A : Agree E) (h : RF E f n Gs ws G w S a fr before) {t u ty e : Nat} (ht : E.C.has t = true) (hu : E.C.has u = true) (he : E.C.has e = true) (hk : (E.C.ty t).kind = .slice e)
    (hku : (match (E.C.ty u).kind with | .slice _ => true | .str => true | _ => false) = true) {κ : Key} {κc : Nat → Key} {v xv : Value} {s x : AV} {p : AV × St} (hv : ValR G w κ κc v s) (hx : VR G xv x) (happ : appendR (E.C.ty e) S s x = some p) :
    ∃ v' w' G', (Builtin.append_ #[t, u] ty #[v, xv]).run E.P w = .ok v' w' ∧ RF E f n Gs ws G' w' p.2 a fr before ∧ ∃ κc, ValR G' w' κ κc v' p.1 := by
  have hul := (A.ty t ht).slice hk
  obtain ⟨du, hdu, hkdu⟩ := (A.ty u hu).kindU
  have hni : notInt du = true := by
    cases du <;> first | rfl | (exfalso; cases hkk : (E.C.ty u).kind <;> rw [hkk] at hku hkdu <;> simp [kindOk] at hku hkdu)
  obtain ⟨i, z, d, h1, h2, h3, h4, h5, h6, h7, h8, h9, h10⟩ := (A.ty e he).ex
  have hbytes := (A.ty e he).bytes
  unfold Av.appendR at happ
  rw [Option.bind_eq_some_iff] at happ
  obtain ⟨ys, hys, happ⟩ := happ
  obtain ⟨news, n1, n2, n3, _⟩ := elems_spec h.rel hx hys
  have hflat := n1.flat
  have hcell : ∀ (j : Nat) (x : AV) (v : Value), ys.flatten[j]? = some x → news[j]? = some v → VR G v x ∧ x.cell1 = true := hflat.2
  split at happ
  · rename_i hy0
    subst hy0
    have hnews : news = [] := List.eq_nil_of_length_eq_zero (by simpa using n1.len)
    subst hnews
    have hzero : ∀ base len cap, len ≤ cap → (Builtin.append_ #[t, u] ty #[.slice base len cap, xv]).run E.P w = .ok (.slice base len cap) w := fun base len cap hc =>
      run_append_zero hul hdu hni h1 hc (n2 E.P w) (by rw [h2]; exact n3 E.P w rfl)
    split at happ
    · cases happ
      rcases hv.vr.vs_inv with ⟨_, _, rfl⟩ | ⟨a, _, rfl, _⟩ | ⟨b, o, cap, g, rfl, _, hc, _⟩
      · exact ⟨_, w, G, hzero none 0 0 (Nat.le_refl _), h, _, hv⟩
      · exact ⟨_, w, G, hzero _ 0 0 (Nat.le_refl _), h, _, hv⟩
      · exact ⟨_, w, G, hzero _ _ _ hc, h, _, hv⟩
    · cases happ
      have hvr := hv.vr
      cases hvr with
      | rs b id off len cap sz hrho hc hl => exact ⟨_, w, G, hzero _ _ _ hc, h, _, hv⟩
    · cases happ
  · rename_i hy0
    have hpos : 0 < ys.length := List.length_pos_iff.2 hy0
    split at happ
    · -- an empty slice with no room
      rename_i sz rt
      split at happ
      case isFalse => cases happ
      rename_i hcond
      obtain ⟨hrt, hlim⟩ := hcond
      cases happ
      have hbase : ∃ base, v = .slice base 0 0 := by
        rcases hv.vr.vs_inv with ⟨_, _, rfl⟩ | ⟨a, _, rfl, _⟩ | ⟨b, o, cap, g, rfl, hr', hc, hf, _⟩
        · exact ⟨none, rfl⟩
        · exact ⟨_, rfl⟩
        · rcases hrt with hrt | hrt
          · exact (hr' hrt).elim
          · rw [hf hrt]; exact ⟨_, rfl⟩
      obtain ⟨base, rfl⟩ := hbase
      obtain ⟨f1, f2⟩ := fits (cap := 0) hbytes hlim hpos
      have hrun := run_append_grow' (P := E.P) (w := w) (ty := ty) (base := base) (sLen := 0) (sCap := 0) (m := ys.length) (olds := []) hul hdu hni h1 h4 (by omega) (n2 E.P w) (by rw [h2]; exact n3 E.P w.drew rfl)
        (by cases base <;> simp [Builtin.firstCells, loadCells, loadCellsFrom]) (by simpa using f1) (by rw [h3]; simpa using f2)
      simp only [Nat.zero_add] at hrun
      have hge := grownCap_ge w ys.length 0 e
      have hsize : ((([] : List Value).toArray ++ news.toArray ++ Builtin.zeroCells z.cells (grownCap w ys.length 0 e - ys.length))).size = grownCap w ys.length 0 e * (E.C.ty e).size := by
        simp only [Array.size_append, List.size_toArray, size_zeroCells, h8, n1.len, List.length_nil, Nat.zero_add, ← Nat.add_mul]
        congr 1; omega
      obtain ⟨G', r1, r2⟩ := h.drew.newObj (e := e) (arr := ([] : List Value).toArray ++ news.toArray ++ Builtin.zeroCells z.cells (grownCap w ys.length 0 e - ys.length)) (cs := ys.flatten) (len := ys.length) (cap := grownCap w ys.length 0 e) (sz := (E.C.ty e).size)
        (by rw [hsize, ← hflat.1, n1.len]; exact Nat.mul_le_mul_right _ hge) (fun j x v hx hv => by
          have hj : j < news.length := by rw [hflat.1]; exact (List.getElem?_eq_some_iff.1 hx).1
          refine hcell j x v hx ?_
          rw [Array.getElem?_append_left (by simpa using hj)] at hv
          simpa using hv) hge (by rw [hsize]; exact Nat.le_refl _)
      exact ⟨_, _, G', hrun, r1, _, r2 κ (fun _ => .ext)⟩
    · rename_i sz id k
      rw [Option.bind_eq_some_iff] at happ
      obtain ⟨cs, hcs, happ⟩ := happ
      split at happ
      case isFalse => cases happ
      rename_i hcond
      obtain ⟨rfl, hle, hlim⟩ := hcond
      cases happ
      have hvr := hv.vr
      cases hvr with
      | rs b _ _ _ cap _ hrho hcap hlen =>
        obtain ⟨b', arr, e', j1, j2, j3, j4, j5⟩ := h.rel.cells hcs
        rw [hrho] at j2; cases j2
        have harr := j5.1
        by_cases hroom : k + ys.length ≤ cap
        · -- in place
          have hk' := h.kill id S.length true
          have hLe : G.Le (G.relabel (mvObj id S.length true)) := ⟨fun _ _ _ e => e, fun _ _ e => e, fun _ => Nat.le_refl _⟩
          have hrole : (G.relabel (mvObj id S.length true)).role b = .obj S.length := by simp [Gh.relabel, j3, mvObj]
          have hlenb : G.len b ≤ arr.size := by
            rcases Nat.eq_zero_or_pos (G.len b) with e0 | e0
            · omega
            · obtain ⟨arr2, e2, q1, q2⟩ := h.rel.len b (by omega)
              rw [j4] at q1; cases q1; exact q2
          have hmul : (k + ys.length) * (E.C.ty e).size ≤ cap * (E.C.ty e).size := Nat.mul_le_mul_right _ hroom
          rw [Nat.add_mul] at hmul
          have hfit : 0 + k * (E.C.ty e).size + news.length ≤ arr.size := by rw [n1.len]; omega
          have hrun := run_append_room' (P := E.P) (w := w) (ty := ty) hul hdu hni h1 j4 hroom (n2 E.P w) (by rw [h2]; exact n3 E.P w rfl) n1.oneCell (by rw [h2]; exact hfit)
          rw [h2] at hrun
          let arr' := (arr.toList.take (0 + k * (E.C.ty e).size) ++ news ++ arr.toList.drop (0 + k * (E.C.ty e).size + news.length)).toArray
          have hget : ∀ j, arr'[j]? = if 0 + k * (E.C.ty e).size ≤ j ∧ j < 0 + k * (E.C.ty e).size + news.length then news[j - (0 + k * (E.C.ty e).size)]? else arr[j]? := fun j => by
            simp only [arr', List.getElem?_toArray]
            rw [getElem?_write _ _ _ _ (by simpa using hfit)]
            simp
          have hc := Chg.setRow (w := w) hrole arr'
          have hrel := hk'.rel.setRow hrole (.inl ⟨S.length, rfl⟩) j4 (arr := arr') (size_write hfit) (S.set id .dead) rfl fun id' o ho => .inl ⟨ho, fun e1 => by
            cases e1
            have := (List.getElem?_eq_some_iff.1 ho).1
            simp at this⟩
          have hrf : RF E f n Gs ws (G.relabel (mvObj id S.length true)) (w.setRow b arr') (S.set id .dead) a fr before := ⟨hrel, hk'.frr.chg hc (by simp) (by simp) (by simp) (by simp), hk'.kept.chg hc (by simp), hk'.pr⟩
          have hrow : RowR (G.relabel (mvObj id S.length true)) w (.ocell S.length) arr cs := (j5.relabel (f := mvObj id S.length true)).rekey fun j => by simp [mvObj]
          have hrow2 : RowR (G.relabel (mvObj id S.length true)) w (.ocell S.length) arr' (cs.take (k * (E.C.ty e).size) ++ ys.flatten) :=
            hrow.append hle hflat.1 (fun j x v a b => by obtain ⟨q1, q2⟩ := hcell j x v a b; exact ⟨q1.mono hLe, q2⟩) (by simp only [arr']; rw [size_write hfit]; omega)
              (fun j hj => by rw [hget, if_neg (by omega)]) (fun j hj => by rw [hget, if_pos (by omega)]; congr 1; omega)
          have hsl : (S.set id .dead).length = S.length := by simp
          have hLe2 : (G.relabel (mvObj id S.length true)).Le ((G.relabel (mvObj id S.length true)).obj (S.set id .dead).length b) := ⟨fun _ _ _ e => e, fun i b' e => by
            have := (hrf.rel.rho i b' e).1
            show (if i = (S.set id .dead).length then some b else G.rho i) = some b'
            rw [if_neg (Nat.ne_of_lt this)]; exact e, fun _ => Nat.le_refl _⟩
          have hc3 : Chg (fun _ => False) (G.relabel (mvObj id S.length true)) (w.setRow b arr') ((G.relabel (mvObj id S.length true)).obj (S.set id .dead).length b) (w.setRow b arr') := ⟨hLe2, Nat.le_refl _, fun _ _ _ => ⟨rfl, rfl, fun _ => rfl⟩⟩
          have hfin := hrf.addObj (b := b) (by simpa using (h.rel.rho id b hrho).2) (.cells (cs.take (k * (E.C.ty e).size) ++ ys.flatten))
            ⟨b, arr', e', by simp [Gh.obj], by show (G.relabel (mvObj id S.length true)).role b = _; rw [hrole, hsl], setRow_heap w b arr arr' e' _ j4, ((hrow2.chg hc (by simp)).chg hc3 (by simp)).rekey fun j => by rw [hsl]⟩
          refine ⟨_, _, _, hrun, hfin, fun _ => .ext, .of_cell1 (.rs b _ 0 _ cap _ (by simp [Gh.obj]) (by omega) ?_) rfl⟩
          show 0 + cap * _ ≤ G.len b
          exact hlen
        · -- a new row
          have hlt : cap < k + ys.length := by omega
          obtain ⟨f1, f2⟩ := fits hbytes hlim hlt
          let olds : List Value := arr.toList.take (k * (E.C.ty e).size)
          have hol : olds.length = k * (E.C.ty e).size := by simp [olds]; omega
          have hfo : ∀ w' : World, w'.heap = w.heap → (Builtin.firstCells (E.C.ty e).size k (.slice (some ⟨b, 0, none⟩) k cap)).run E.P w' = .ok olds.toArray w' := fun w' hh => by
            have := run_loadCells_heap (P := E.P) (w := w) (w' := w') hh (ad := ⟨b, 0, none⟩) (cs := olds) (fun j u hj => by
              rw [Addr.add_lit, cell_row j4, Nat.zero_add]
              simp only [olds, List.getElem?_take] at hj
              split at hj
              · simpa using hj
              · cases hj)
            rw [hol] at this
            simpa [Builtin.firstCells] using this
          have hrun := run_append_grow' (P := E.P) (w := w) (ty := ty) hul hdu hni h1 h4 hlt (n2 E.P w) (by rw [h2]; exact n3 E.P w.drew rfl) (by rw [h2]; exact hfo w.drew rfl) f1 (by rw [h3]; exact f2)
          have hge := grownCap_ge w (k + ys.length) cap e
          have hk' := h.drew.kill id S.length false
          have hLe : G.Le (G.relabel (mvObj id S.length false)) := ⟨fun _ _ _ e => e, fun _ _ e => e, fun _ => Nat.le_refl _⟩
          have hsl : (S.set id .dead).length = S.length := by simp
          have hrow0 : RowR (G.relabel (mvObj id S.length false)) w (.ocell S.length) arr cs := (j5.relabel (f := mvObj id S.length false)).rekey fun j => by simp [mvObj]
          have hrow : RowR (G.relabel (mvObj id S.length false)) w.drew (.ocell S.length) arr cs := RowR.chg (K := fun _ => False) (G := G.relabel (mvObj id S.length false)) (w := w) (G' := G.relabel (mvObj id S.length false)) (w' := w.drew)
            ⟨.refl _, Nat.le_refl _, fun _ _ _ => ⟨rfl, rfl, fun _ => rfl⟩⟩ (by simp) hrow0
          have hsize : (olds.toArray ++ news.toArray ++ Builtin.zeroCells z.cells (grownCap w (k + ys.length) cap e - (k + ys.length))).size = grownCap w (k + ys.length) cap e * (E.C.ty e).size := by
            simp only [Array.size_append, List.size_toArray, size_zeroCells, h8, hol, n1.len, ← Nat.add_mul]
            congr 1; omega
          have hgm : (k + ys.length) * (E.C.ty e).size ≤ grownCap w (k + ys.length) cap e * (E.C.ty e).size := Nat.mul_le_mul_right _ hge
          rw [Nat.add_mul] at hgm
          have hrow2 : RowR (G.relabel (mvObj id S.length false)) w.drew (.ocell S.length) (olds.toArray ++ news.toArray ++ Builtin.zeroCells z.cells (grownCap w (k + ys.length) cap e - (k + ys.length))) (cs.take (k * (E.C.ty e).size) ++ ys.flatten) :=
            hrow.append hle hflat.1 (fun j x v a b => by obtain ⟨q1, q2⟩ := hcell j x v a b; exact ⟨q1.mono hLe, q2⟩) (by rw [hsize, n1.len]; omega)
              (fun j hj => by
                rw [Array.getElem?_append_left (by simp [hol]; omega), Array.getElem?_append_left (by simp [hol]; omega)]
                simp [olds, hj])
              (fun j hj => by
                rw [Array.getElem?_append_left (by simp [hol]; omega), Array.getElem?_append_right (by simp [hol])]
                simp [hol])
          obtain ⟨G', r1, r2⟩ := hk'.newObj' (e := e) (len := k + ys.length) (cap := grownCap w (k + ys.length) cap e) (sz := (E.C.ty e).size) (hrow2.rekey fun j => by rw [hsl]) hge (by rw [hsize]; exact Nat.le_refl _)
          rw [hsl] at r2
          exact ⟨_, _, G', hrun, r1, _, r2 κ (fun _ => .ext)⟩
    · cases happ
end Go.Av
