/- A part of the proof of a law of this seat: make; append where the elements lie in objects; copy. No condition. -/
import Derived.Test.YtcmiahkfbnojnaaA11
set_option linter.all false
set_option linter.unusedVariables false
set_option linter.unusedSimpArgs false
/-! make; append where the elements lie in objects; copy. -/
namespace Go.Av
variable {E : Env} {f n : Nat} {Gs G : Gh} {ws w : World} {S : St} {a : Act} {fr : Fr} {before : List Oper}

def Gh.withLen (G : Gh) (b k : Nat) : Gh := { G with len := fun x => if x = b then k else G.len x }
theorem RF.withLen (h : RF E f n Gs ws G w S a fr before) {b k : Nat} (hk : G.len b ≤ k) {arr : Array Value} {e : Nat} (hb : w.heap[b]? = some (.cells arr e (0, 0))) (hs : k ≤ arr.size) : RF E f n Gs ws (G.withLen b k) w S a fr before := by
  have hle : G.Le (G.withLen b k) := ⟨fun _ _ _ e => e, fun _ _ e => e, fun x => by
    simp only [Gh.withLen]; split
    · rename_i e; rw [e]; exact hk
    · exact Nat.le_refl _⟩
  have c : Chg (fun _ => False) G w (G.withLen b k) w := ⟨hle, Nat.le_refl _, fun _ _ _ => ⟨rfl, rfl, fun _ => rfl⟩⟩
  exact ⟨⟨h.rel.os, h.rel.tape, h.rel.output, h.rel.size, h.rel.old, h.rel.imm, h.rel.role, h.rel.noimm, h.rel.rho, fun x hx => by
      simp only [Gh.withLen] at hx ⊢
      by_cases e1 : x = b
      · subst e1; simp only [if_true]; exact ⟨arr, e, hb, hs⟩
      · simp only [e1, if_false] at hx ⊢; exact h.rel.len x hx, fun id o ho => (h.rel.obj id o ho).chg c (fun e => e) (fun _ e => e)⟩,
    h.frr.chg c (fun _ => id) (fun _ _ => id) (fun _ => id) (fun _ _ => id), h.kept.chg c id, h.pr⟩

/-- A new object of cells in a new block, its capacity known. -/
theorem RF.newObj' (h : RF E f n Gs ws G w S a fr before) {arr : Array Value} {e : Nat} {cs : List AV} {len cap sz : Nat} (hv : RowR G w (.ocell S.length) arr cs)
    (hl : len ≤ cap) (hsz : cap * sz ≤ arr.size) :
    ∃ G', RF E f n Gs ws G' (w.alloc (.cells arr e)) (S ++ [.cells cs]) a fr before ∧ ∀ κ κc, ValR G' (w.alloc (.cells arr e)) κ κc (.slice (some ⟨w.heap.size, 0, none⟩) len cap) (.rs sz S.length 0 len) := by
  have hrf := h.alloc (.cells arr e) (fun _ => none) (.obj S.length) (fun j v hj => by cases hj) (fun _ _ => rfl)
  have hcn := Chg.new h.rel (.cells arr e) (fun _ => none) (.obj S.length) (fun _ => False)
  have hLe := hcn.le
  have h0 : G.len w.heap.size = 0 := by
    rcases Nat.eq_zero_or_pos (G.len w.heap.size) with e0 | e0
    · exact e0
    · obtain ⟨arr', e', h1, _⟩ := h.rel.len w.heap.size (by omega)
      have := (Array.getElem?_eq_some_iff.1 h1).1; omega
  have hrf1 := hrf.withLen (b := w.heap.size) (k := cap * sz) (by show G.len w.heap.size ≤ _; omega) (World.alloc_new w _) hsz
  have hLe1 : (G.new w.heap.size (fun _ => none) (.obj S.length)).Le ((G.new w.heap.size (fun _ => none) (.obj S.length)).withLen w.heap.size (cap * sz)) := ⟨fun _ _ _ e => e, fun _ _ e => e, fun x => by
    show G.len x ≤ if x = w.heap.size then cap * sz else G.len x
    split
    · rename_i e1; rw [e1, h0]; omega
    · exact Nat.le_refl _⟩
  have hLe2 : (G.new w.heap.size (fun _ => none) (.obj S.length)).Le (((G.new w.heap.size (fun _ => none) (.obj S.length)).withLen w.heap.size (cap * sz)).obj S.length w.heap.size) := ⟨hLe1.imm, fun id b' e => by
      have := (h.rel.rho id b' e).1
      show (if id = S.length then some w.heap.size else G.rho id) = some b'
      rw [if_neg (Nat.ne_of_lt this)]; exact e, hLe1.len⟩
  have hc2 : Chg (fun _ => False) (G.new w.heap.size (fun _ => none) (.obj S.length)) (w.alloc (.cells arr e)) (((G.new w.heap.size (fun _ => none) (.obj S.length)).withLen w.heap.size (cap * sz)).obj S.length w.heap.size) (w.alloc (.cells arr e)) :=
    ⟨hLe2, Nat.le_refl _, fun _ _ _ => ⟨rfl, rfl, fun _ => rfl⟩⟩
  exact ⟨_, hrf1.addObj (b := w.heap.size) (by simp) (.cells cs) ⟨w.heap.size, arr, e, by simp [Gh.obj], by simp [Gh.obj, Gh.new, Gh.withLen], World.alloc_new w _, (hv.chg hcn (by simp)).chg hc2 (by simp)⟩,
    fun κ κc => .of_cell1 (.rs _ _ _ _ _ _ (by simp [Gh.obj]) hl (by simp [Gh.obj, Gh.withLen])) rfl⟩
theorem RF.newObj (h : RF E f n Gs ws G w S a fr before) {arr : Array Value} {e : Nat} {cs : List AV} {len cap sz : Nat} (hc : cs.length ≤ arr.size) (hv : ∀ (j : Nat) (x : AV) (v : Value), cs[j]? = some x → arr[j]? = some v → VR G v x ∧ x.cell1 = true)
    (hl : len ≤ cap) (hsz : cap * sz ≤ arr.size) :
    ∃ G', RF E f n Gs ws G' (w.alloc (.cells arr e)) (S ++ [.cells cs]) a fr before ∧ ∀ κ κc, ValR G' (w.alloc (.cells arr e)) κ κc (.slice (some ⟨w.heap.size, 0, none⟩) len cap) (.rs sz S.length 0 len) :=
  h.newObj' ⟨hc, fun j x v hx hv' => by
    obtain ⟨k1, k2⟩ := hv j x v hx hv'
    exact ⟨k1, AV.cell1.free1 k2, .of_not (AV.cell1.own k2)⟩⟩ hl hsz

theorem made_get {z : Array Value} {m k : Nat} (hk : k < m) (hz : 0 < z.size) : (madeCells z m)[k]? = z[k % z.size]? := by
  have : k % z.size < z.size := Nat.mod_lt _ hz
  simp [madeCells, hk, this]

theorem RF.makeSlice (A : Agree E) (h : RF E f n Gs ws G w S a fr before) {t e : Nat} (ht : E.C.has t = true) (he : E.C.has e = true) (hk : (E.C.ty t).kind = .slice e) {lv cv : Value} {l c : AV} (hlv : VR G lv l) (hcv : VR G cv c) {br : Bool} {p : AV × St}
    (hm : makeSliceA (E.C.ty e) br S l c = some p) (κ : Key) (hκ : (∀ id, κ ≠ .obj id) ∧ ∀ t, κ ≠ .lbox t) :
    ∃ v w' G', (Instr.makeSlice t lv cv).run E.P w = .ok v w' ∧ RF E f n Gs ws G' w' p.2 a fr before ∧ ∃ κc, ValR G' w' κ κc v p.1 := by
  have hul := (A.ty t ht).slice hk
  obtain ⟨i, z, d, h1, h2, h3, h4, h5, h6, h7, h8, h9, h10⟩ := (A.ty e he).ex
  have hbytes := (A.ty e he).bytes
  have hzc := zero_CellsV A he h1 h4 G
  unfold makeSliceA at hm
  split at hm
  case h_2 => cases hm
  rename_i kl ln kc cn
  obtain rfl := hlv.int_inv
  obtain rfl := hcv.int_inv
  split at hm
  case isFalse => cases hm
  rename_i hc
  obtain ⟨c1, c2, c3, c4⟩ := hc
  have hmul : (i.bytes : Int) * cn ≤ 1400 * 100000000000 := by
    rw [h3]
    refine Int.mul_le_mul (by omega) (by simpa [lim] using c2) c1 (by omega)
  have hrun := run_make (P := E.P) w t e i z hul h1 h4 kl kc ln cn c3 c4 (by omega) (by simp [lim] at c2; omega)
  have hsize : (madeCells z.cells (cn.toNat * i.size)).size = cn.toNat * (E.C.ty e).size := by rw [size_madeCells, h2]
  split at hm
  · rename_i hc0
    obtain ⟨rfl, _⟩ := hc0
    cases hm
    obtain ⟨G', r1, r2, r3⟩ := h.newRow (arr := madeCells z.cells (cn.toNat * i.size)) (e := e) (es := []) (sz := (E.C.ty e).size) (cap := cn.toNat) (fun _ _ => undef) κ .own (by simp) hκ (Nat.zero_le _) hsize (by simp) (by simp) (by simp)
    exact ⟨_, _, G', hrun, r1, _, r2⟩
  · cases hm
    have hlc : ln.toNat * (E.C.ty e).size ≤ cn.toNat * (E.C.ty e).size := Nat.mul_le_mul_right _ (by omega)
    obtain ⟨f1, f2⟩ := flatten_get (sz := (E.C.ty e).size) (ys := List.replicate ln.toNat (E.C.ty e).zero) (fun el hel => by
      rw [List.eq_of_mem_replicate hel]; exact (A.ty e he).len)
    rw [List.length_replicate] at f1
    obtain ⟨G', r1, r2⟩ := h.newObj (arr := madeCells z.cells (cn.toNat * i.size)) (e := e) (cs := (List.replicate ln.toNat (E.C.ty e).zero).flatten) (len := ln.toNat) (cap := cn.toNat) (sz := (E.C.ty e).size) (by rw [f1, hsize]; exact hlc) (fun k x v hx hv => by
      have hk' : k < ln.toNat * (E.C.ty e).size := by rw [← f1]; exact (List.getElem?_eq_some_iff.1 hx).1
      have hsz : 0 < (E.C.ty e).size := by rcases Nat.eq_zero_or_pos (E.C.ty e).size with e0 | e0; (rw [e0] at hk'; simp at hk'); exact e0
      have hi : k / (E.C.ty e).size < ln.toNat := by rw [Nat.div_lt_iff_lt_mul hsz]; exact hk'
      have hj : k % (E.C.ty e).size < (E.C.ty e).size := Nat.mod_lt _ hsz
      have hkk : k / (E.C.ty e).size * (E.C.ty e).size + k % (E.C.ty e).size = k := by rw [Nat.mul_comm]; exact Nat.div_add_mod k _
      have := f2 (k / (E.C.ty e).size) (E.C.ty e).zero (k % (E.C.ty e).size) (by simp [hi]) hj
      rw [hkk, hx] at this
      rw [made_get (by rw [h2]; omega) (by rw [h8]; exact hsz), h8] at hv
      exact ⟨hzc.2.1 _ x v this.symm hv, hzc.2.2 x (List.mem_of_getElem? this.symm)⟩) (by omega) (by rw [hsize]; exact Nat.le_refl _)
    exact ⟨_, _, G', hrun, r1, fun _ => .ext, r2 _ _⟩

theorem ElemsV.take {sz : Nat} {news : List Value} {ys : List (List AV)} (h : ElemsV G sz news ys) {m : Nat} (hm : m ≤ ys.length) : ElemsV G sz (news.take (m * sz)) (ys.take m) := by
  have hle : m * sz ≤ news.length := by rw [h.len]; exact Nat.mul_le_mul_right _ hm
  refine ⟨by rw [List.length_take, List.length_take, Nat.min_eq_left hle, Nat.min_eq_left hm], fun e he => h.cell e (List.mem_of_mem_take he), fun i e j x hi hj => ?_⟩
  rw [List.getElem?_take] at hi
  split at hi
  · rename_i hlt
    obtain ⟨v, h1, h2⟩ := h.vr i e j x hi hj
    refine ⟨v, ?_, h2⟩
    have hjl : j < sz := by rw [← (h.cell e (List.mem_of_getElem? hi)).1]; exact (List.getElem?_eq_some_iff.1 hj).1
    have : (i + 1) * sz ≤ m * sz := Nat.mul_le_mul_right _ hlt
    rw [Nat.add_mul, Nat.one_mul] at this
    rw [List.getElem?_take, if_pos (by omega)]; exact h1
  · cases hi

theorem RF.copy (A : Agree E) (h : RF E f n Gs ws G w S a fr before) {t u ty e : Nat} (ht : E.C.has t = true) (he : E.C.has e = true) (hk : (E.C.ty t).kind = .slice e) {v xv : Value} {s x : AV} (hv : VR G v s) (hx : VR G xv x) {p : AV × St}
    (hc : copyA (E.C.ty e) S s x = some p) :
    ∃ v' w', (Builtin.copy_ #[t, u] ty #[v, xv]).run E.P w = .ok v' w' ∧ RF E f n Gs ws G w' p.2 a fr before ∧ VR G v' p.1 ∧ p.1.cell1 = true := by
  have hul := (A.ty t ht).slice hk
  unfold copyA at hc
  rw [Option.bind_eq_some_iff] at hc
  obtain ⟨ys, hys, hc⟩ := hc
  obtain ⟨news, n1, n2, n3, n4⟩ := elems_spec h.rel hx hys
  split at hc
  · rename_i sz r
    cases hc
    have hf := n4 0 (Nat.zero_le _) E.P w rfl
    rw [Nat.zero_mul, List.take_zero] at hf
    refine ⟨.int .i64 0, w, ?_, h, .int _ _, rfl⟩
    rcases hv.vs_inv with ⟨_, _, rfl⟩ | ⟨_, _, rfl, _⟩ | ⟨b, o, cap, g, rfl, _⟩
    · simp [Builtin.copy_, run_underlying hul, n2, run_sizeOf A he, hf, goInt]
    · simp [Builtin.copy_, run_underlying hul, n2, run_sizeOf A he, hf, goInt, storeCells]
    · simp [Builtin.copy_, run_underlying hul, n2, run_sizeOf A he, hf, goInt, storeCells]
  · rename_i sz id off k
    rw [Option.bind_eq_some_iff] at hc
    obtain ⟨cs, hcs, hc⟩ := hc
    split at hc
    case isFalse => cases hc
    rename_i hcond
    obtain ⟨rfl, hle⟩ := hcond
    cases hc
    cases hv with
    | rs b _ _ _ cap _ hrho hcap hl =>
      obtain ⟨b', arr, e', j1, j2, j3, j4, j5⟩ := h.rel.cells hcs
      rw [hrho] at j2; cases j2
      have hm : min ys.length k ≤ ys.length := Nat.min_le_left _ _
      have hf := n4 _ hm E.P w rfl
      have e1 := n1.take hm
      have e2 := e1.flat
      have hlen : (news.take (min ys.length k * (E.C.ty e).size)).length = min ys.length k * (E.C.ty e).size := by rw [e1.len, List.length_take, Nat.min_eq_left hm]
      have hmk : min ys.length k * (E.C.ty e).size ≤ k * (E.C.ty e).size := Nat.mul_le_mul_right _ (Nat.min_le_right _ _)
      have harr := j5.1
      have hst := run_storeCells_at E.P b off e' (news.take (min ys.length k * (E.C.ty e).size)) 0 arr w j4 (by rw [hlen]; omega) e1.oneCell
      simp only [Nat.add_zero] at hst
      have hfit : off + (news.take (min ys.length k * (E.C.ty e).size)).length ≤ arr.size := by rw [hlen]; omega
      have hc := Chg.setRow (w := w) j3 (arr.toList.take off ++ news.take (min ys.length k * (E.C.ty e).size) ++ arr.toList.drop (off + (news.take (min ys.length k * (E.C.ty e).size)).length)).toArray
      refine ⟨.int .i64 ↑(min ys.length k), _, ?_, ⟨h.rel.setRow j3 (.inl ⟨id, rfl⟩) j4 (size_write hfit) _ (by simp) fun id' o ho => ?_, h.frr.chg hc (by simp) (by simp) (by simp) (by simp), h.kept.chg hc (by simp), h.pr⟩, .int _ _, rfl⟩
      · have hmin : Nat.min ys.length k = min ys.length k := rfl
        simp only [Builtin.copy_, List.getElem?_toArray, List.getElem?_cons_zero, List.getElem?_cons_succ, Sem.run_bind, run_underlying hul, Result.andThen_ok, n2, run_sizeOf A he, hmin, hf, hst, Sem.run_pure, goInt]
      · rw [List.getElem?_set] at ho
        by_cases e' : id = id'
        · subst e'
          have hlt : id < S.length := (List.getElem?_eq_some_iff.1 j1).1
          simp only [if_true, hlt, Option.some.injEq] at ho
          subst ho
          refine .inr ⟨b, _, _, hrho, j3, setRow_heap w b arr _ _ _ j4, ?_⟩
          refine (j5.write (off := off) (vs := news.take (min ys.length k * (E.C.ty e).size)) (xs := (ys.take (min ys.length k)).flatten) e2.1 (by rw [← e2.1, hlen]; omega) ?_).chg hc (by simp)
          intro j x v hx hv
          obtain ⟨q1, q2⟩ := e2.2 j x v hx hv
          exact ⟨q1, AV.cell1.free1 q2, .of_not (AV.cell1.own q2)⟩
        · simp only [e', if_false] at ho
          exact .inl ⟨ho, by simpa using e'⟩
  · cases hc
end Go.Av
