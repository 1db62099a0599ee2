/- A part of the proof of a law of this seat: make, append, copy. No condition. -/
import Derived.Test.YtcmiahkfbnojnaaA10
set_option linter.all false
set_option linter.unusedVariables false
set_option linter.unusedSimpArgs false
/-! make, append, copy. -/
namespace Go.Av
variable {E : Env} {f n : Nat} {Gs G : Gh} {ws w : World} {S : St} {a : Act} {fr : Fr} {before : List Oper}

def notInt : TypeDesc → Bool | .string => true | .slice _ => true | _ => false
section
variable {P : Program} {t u ty e : Nat} {i : TypeInfo} {z : Value} {d : TypeDesc}
set_option maxHeartbeats 1000000 in
theorem run_append_zero (ht : P.underlying t = some (.slice e)) (hu : P.underlying u = some d) (hd : notInt d = true) (hi : P.info? e = some i) {base : Option Addr} {sLen sCap : Nat} (hc : sLen ≤ sCap) {xv : Value}
    (hn : (Builtin.lenOf xv).run P w = .ok 0 w) (hf : (Builtin.firstCells i.size 0 xv).run P w = .ok #[] w) :
    (Builtin.append_ #[t, u] ty #[.slice base sLen sCap, xv]).run P w = .ok (.slice base sLen sCap) w := by
  cases d <;> simp [notInt] at hd <;> cases base <;> simp [Builtin.append_, run_underlying ht, run_underlying hu, sizeOf, typeInfo, hi, hn, hc, hf, storeCells]
set_option maxHeartbeats 1000000 in
theorem run_append_room' (ht : P.underlying t = some (.slice e)) (hu : P.underlying u = some d) (hd : notInt d = true) (hi : P.info? e = some i) {b o sLen sCap m : Nat} {arr : Array Value} {e' : TypeId} (hb : w.heap[b]? = some (.cells arr e' (0, 0)))
    (hc : sLen + m ≤ sCap) {xv : Value} {news : List Value} (hn : (Builtin.lenOf xv).run P w = .ok m w) (hf : (Builtin.firstCells i.size m xv).run P w = .ok news.toArray w) (h1 : ∀ u ∈ news, u.oneCell' = true) (hfit : o + sLen * i.size + news.length ≤ arr.size) :
    (Builtin.append_ #[t, u] ty #[.slice (some ⟨b, o, none⟩) sLen sCap, xv]).run P w =
      .ok (.slice (some ⟨b, o, none⟩) (sLen + m) sCap) (w.setRow b (arr.toList.take (o + sLen * i.size) ++ news ++ arr.toList.drop (o + sLen * i.size + news.length)).toArray) := by
  have hst := run_storeCells_at P b (o + sLen * i.size) e' news 0 arr w hb (by simpa using hfit) h1
  simp only [Nat.add_zero] at hst
  cases d <;> simp [notInt] at hd <;> simp [Builtin.append_, run_underlying ht, run_underlying hu, sizeOf, typeInfo, hi, hn, hc, hf, Addr.add_lit, hst]
set_option maxHeartbeats 1000000 in
theorem run_append_grow' (ht : P.underlying t = some (.slice e)) (hu : P.underlying u = some d) (hd : notInt d = true) (hi : P.info? e = some i) (hz : i.zero = some z) {base : Option Addr} {sLen sCap m : Nat}
    (hc : sCap < sLen + m) {xv : Value} {olds news : List Value} (hn : (Builtin.lenOf xv).run P w = .ok m w) (hf : (Builtin.firstCells i.size m xv).run P w.drew = .ok news.toArray w.drew)
    (hfo : (Builtin.firstCells i.size sLen (.slice base sLen sCap)).run P w.drew = .ok olds.toArray w.drew) (h63 : ((sLen + m : Nat) : Int) ≤ 9223372036854775807) (hfit : Builtin.nextslicecap (sLen + m) sCap * i.bytes ≤ 281474976710656) :
    (Builtin.append_ #[t, u] ty #[.slice base sLen sCap, xv]).run P w =
      .ok (.slice (some ⟨w.heap.size, 0, none⟩) (sLen + m) (grownCap w (sLen + m) sCap e))
        (w.drew.alloc (.cells (olds.toArray ++ news.toArray ++ Builtin.zeroCells z.cells (grownCap w (sLen + m) sCap e - (sLen + m))) e)) := by
  have hn' : ¬ (sLen + m ≤ sCap) := by omega
  have h63' : ¬ (9223372036854775807 < ((sLen : Int) + (m : Int))) := by omega
  have h48' : ¬ (281474976710656 < Builtin.nextslicecap (sLen + m) sCap * i.bytes) := by omega
  cases d <;> simp [notInt] at hd <;>
    (simp [Builtin.append_, run_underlying ht, run_underlying hu, sizeOf, typeInfo, zeroValue, hi, hz, hn, hn', h63', h48', Question.forced, hf, hfo, newRow, grownCap]; congr 2; apply Array.ext'; simp)
end

theorem fits {ei : TI} {need cap : Nat} (hb : ei.bytes ≤ 1400) (hn : need ≤ lim) (hc : cap < need) : ((need : Nat) : Int) ≤ 9223372036854775807 ∧ Builtin.nextslicecap need cap * ei.bytes ≤ 281474976710656 := by
  have h1 : need * ei.bytes ≤ lim * 1400 := Nat.mul_le_mul hn hb
  simp only [lim] at hn h1
  exact ⟨by omega, growslice_fits hc (by omega)⟩

/-- The elements of a slice by value, as values in a row. -/
theorem vs_elems (hr : Rel E G w S) {v : Value} {sz : Nat} {es : List (List AV)} {r : Rt} (hv : VR G v (.vs sz es r)) :
    ∃ olds base cap, v = .slice base es.length cap ∧ ElemsV G sz olds es ∧ es.length ≤ cap ∧ ∀ P w', w'.heap = w.heap → (Builtin.firstCells sz es.length v).run P w' = .ok olds.toArray w' := by
  obtain ⟨news, h1, h2, h3, _⟩ := elems_spec hr (sz := sz) hv (ys := es) (by simp [elemsA])
  cases hv with
  | vsnil => exact ⟨news, none, 0, rfl, h1, Nat.le_refl _, h3⟩
  | vse a _ _ hr => exact ⟨news, some a, 0, rfl, h1, Nat.le_refl _, h3⟩
  | vs b o cap _ _ _ g hr' hc => exact ⟨news, _, cap, rfl, h1, hc, h3⟩

theorem VR.vs_inv {v : Value} {sz : Nat} {es : List (List AV)} {r : Rt} (h : VR G v (.vs sz es r)) : (r = .nil ∧ es = [] ∧ v = .slice none 0 0) ∨ (∃ a, es = [] ∧ v = .slice (some a) 0 0 ∧ (r = .none ∨ r = .full)) ∨
    ∃ (b o cap : Nat) (g : Nat → Nat → Value), v = .slice (some ⟨b, o, none⟩) es.length cap ∧ r ≠ .nil ∧ es.length ≤ cap ∧ (r = .full → cap = es.length) ∧ (∀ e ∈ es, e.length = sz ∧ ∀ x ∈ e, x.cell1 = true) ∧
      (∀ (i : Nat) (e : List AV) (j : Nat) (x : AV), (es[i]? = some e) → (e[j]? = some x) → G.imm b (o + i * sz + j) = some (g i j)) ∧
      (∀ (i : Nat) (e : List AV) (j : Nat) (x : AV), (es[i]? = some e) → (e[j]? = some x) → VR G (g i j) x) := by
  cases h with
  | vsnil => exact .inl ⟨rfl, rfl, rfl⟩
  | vse a _ _ hr => exact .inr (.inl ⟨a, rfl, rfl, hr⟩)
  | vs b o cap _ _ _ g h1 h2 h3 h4 h5 h6 => exact .inr (.inr ⟨b, o, cap, g, rfl, h1, h2, h3, h4, h5, h6⟩)
theorem ElemsV.append {sz : Nat} {l m : List Value} {es ys : List (List AV)} (h : ElemsV G sz l es) (k : ElemsV G sz m ys) : ElemsV G sz (l ++ m) (es ++ ys) := by
  refine ⟨by simp [h.len, k.len, Nat.add_mul], fun e he => ?_, fun i e j x hi hj => ?_⟩
  · rcases List.mem_append.1 he with he | he
    · exact h.cell e he
    · exact k.cell e he
  · by_cases hlt : i < es.length
    · rw [List.getElem?_append_left hlt] at hi
      obtain ⟨v, h1, h2⟩ := h.vr i e j x hi hj
      exact ⟨v, by rw [List.getElem?_append_left (List.getElem?_eq_some_iff.1 h1).1]; exact h1, h2⟩
    · rw [List.getElem?_append_right (by omega)] at hi
      obtain ⟨v, h1, h2⟩ := k.vr _ e j x hi hj
      refine ⟨v, ?_, h2⟩
      have : es.length * sz ≤ i * sz := Nat.mul_le_mul_right _ (by omega)
      rw [List.getElem?_append_right (by rw [h.len]; omega), h.len]
      rw [Nat.sub_mul] at h1
      rwa [show i * sz + j - es.length * sz = i * sz - es.length * sz + j by omega]

theorem RF.append (A : Agree E) (h : RF E f n Gs ws G w S a fr before) {t u ty e : Nat} (ht : E.C.has t = true) (hu : E.C.has u = true) (he : E.C.has e = true) (hk : (E.C.ty t).kind = .slice e)
    (hku : (match (E.C.ty u).kind with | .slice _ => true | .str => true | _ => false) = true) {κc : Nat → Key} {v xv : Value} {s x r : AV} (hv : ValR G w .ret κc v s) (hx : VR G xv x) (happ : appendA (E.C.ty e) S s x = some r) :
    ∃ v' w' G', (Builtin.append_ #[t, u] ty #[v, xv]).run E.P w = .ok v' w' ∧ RF E f n Gs ws G' w' S a fr before ∧ ∀ κc, ValR G' w' .ret κc v' r := by
  have hul := (A.ty t ht).slice hk
  obtain ⟨du, hdu, hkdu⟩ := (A.ty u hu).kindU
  have hni : notInt du = true := by
    cases du <;> first | rfl | (exfalso; cases hkk : (E.C.ty u).kind <;> rw [hkk] at hku hkdu <;> simp [kindOk] at hku hkdu)
  obtain ⟨i, z, d, h1, h2, h3, h4, h5, h6, h7, h8, h9, h10⟩ := (A.ty e he).ex
  have hbytes := (A.ty e he).bytes
  unfold appendA at happ
  split at happ
  case h_2 => cases happ
  rename_i sz es rt
  rw [Option.bind_eq_some_iff] at happ
  obtain ⟨ys, hys, happ⟩ := happ
  obtain ⟨news, n1, n2, n3, _⟩ := elems_spec h.rel hx hys
  obtain ⟨olds, base, cap, rfl, o2, o3, o4⟩ := vs_elems h.rel hv.vr
  have conv : ∀ {G' : Gh} {w' : World} {v' : Value} {r' : AV}, (∀ cs, r' ≠ .tup cs) → (∃ κc, ValR G' w' .ret κc v' r') → ∀ κc, ValR G' w' .ret κc v' r' := by
    rintro G' w' v' r' hnt ⟨κ', hh⟩ κc
    exact ⟨hh.vr, hh.tail, hh.agg, fun cs _ e => (hnt cs e).elim, fun cs e => (hnt cs e).elim⟩
  split at happ
  · rename_i hy0
    cases happ
    subst hy0
    have hnews : news = [] := List.eq_nil_of_length_eq_zero (by simpa using n1.len)
    subst hnews
    refine ⟨_, w, G, run_append_zero hul hdu hni h1 o3 (n2 E.P w) (by rw [h2]; exact n3 E.P w rfl), h, conv (by simp) ⟨_, hv⟩⟩
  · rename_i hy0
    split at happ
    case isFalse => cases happ
    rename_i hcond
    obtain ⟨hrn, hrs, hlim⟩ := hcond
    cases happ
    have hpos : 0 < ys.length := List.length_pos_iff.2 hy0
    -- the old elements at the right size
    have hold : ∃ olds', ElemsV G (E.C.ty e).size olds' es ∧ (∀ P w', w'.heap = w.heap → (Builtin.firstCells (E.C.ty e).size es.length (.slice base es.length cap)).run P w' = .ok olds'.toArray w') := by
      rcases hrs with hrs | hrs
      · subst hrs
        rcases hv.vr.vs_inv with ⟨_, q2, q3⟩ | ⟨_, _, _, hr'⟩ | ⟨_, _, _, _, _, hr', _⟩
        · subst q2; cases q3; exact ⟨[], ⟨by simp, by simp, by simp⟩, fun P w' _ => rfl⟩
        · simp at hr'
        · exact (hr' rfl).elim
      · subst hrs; exact ⟨olds, o2, o4⟩
    obtain ⟨olds', p1, p2⟩ := hold
    by_cases hroom : es.length + ys.length ≤ cap
    · -- in place
      rcases hv.vr.vs_inv with ⟨_, q2, q3⟩ | ⟨_, q2, q3, _⟩ | ⟨b, o, cap1, g, q3, hr', hc, hf, hs, him, hg2⟩
      · subst q2; cases q3; simp at hroom; exact (hy0 hroom).elim
      · subst q2; cases q3; simp at hroom; exact (hy0 hroom).elim
      · simp only [Value.slice.injEq, true_and] at q3
        obtain ⟨rfl, rfl⟩ := q3
        have hown : rt = .own := by
          cases rt with
          | nil => exact (hr' rfl).elim
          | none => exact (hrn rfl).elim
          | full => have := hf rfl; omega
          | own => rfl
        subst hown
        have hszeq : sz = (E.C.ty e).size := by rcases hrs with hrs | hrs; cases hrs; exact hrs
        subst hszeq
        obtain ⟨b', o', len, cap', e3, sz', es', e4, e5, htail⟩ := hv.tail rfl
        cases e3; cases e4
        rcases htail with htail | ⟨t1, ⟨arr, e', t2, t3⟩, t4⟩
        · omega
        · have hmul : (es.length + ys.length) * (E.C.ty e).size ≤ cap * (E.C.ty e).size := Nat.mul_le_mul_right _ hroom
          rw [Nat.add_mul] at hmul
          have hfit : o + es.length * (E.C.ty e).size + news.length ≤ arr.size := by rw [n1.len]; omega
          have hrun := run_append_room' (ty := ty) hul hdu hni h1 t2 hroom (n2 E.P w) (by rw [h2]; exact n3 E.P w rfl) n1.oneCell (by rw [h2]; exact hfit)
          rw [h2] at hrun
          -- the new knowledge
          let lo := o + es.length * (E.C.ty e).size
          let arr' := (arr.toList.take lo ++ news ++ arr.toList.drop (lo + news.length)).toArray
          let G' : Gh := { G with imm := fun b2 j => if b2 = b ∧ lo ≤ j ∧ j < lo + news.length then news[j - lo]? else G.imm b2 j }
          have hni0 : ∀ j, lo ≤ j → G.imm b j = none := t4
          have hLe : G.Le G' := ⟨fun b2 j vv hvv => by
            by_cases hc : b2 = b ∧ lo ≤ j ∧ j < lo + news.length
            · obtain ⟨e9, hj, _⟩ := hc; rw [e9, hni0 j hj] at hvv; cases hvv
            · simp only [G', if_neg hc]; exact hvv, fun _ _ e => e, fun _ => Nat.le_refl _⟩
          have hget : ∀ j, arr'[j]? = if lo ≤ j ∧ j < lo + news.length then news[j - lo]? else arr[j]? := fun j => by
            simp only [arr', List.getElem?_toArray]
            rw [getElem?_write _ _ _ _ (by simpa using hfit)]
            simp
          have hb' : (w.setRow b arr').heap[b]? = some (.cells arr' e' (0, 0)) := setRow_heap w b arr arr' e' _ t2
          have hc : Chg (· = .ret) G w G' (w.setRow b arr') := ⟨hLe, by simp, fun k hk hkr => by
            have hkb : k ≠ b := fun e => hkr (by rw [e]; exact t1)
            exact ⟨setRow_other w b k arr' hkb, rfl, fun j => by simp [G', hkb]⟩⟩
          have hrel : Rel E G' (w.setRow b arr') S := by
            refine ⟨h.rel.os, h.rel.tape, h.rel.output, by simpa using h.rel.size, fun k hk => ?_, fun k j v hv => ?_, fun k hk => h.rel.role k (by simpa using hk), fun k hk j => ?_, fun id k hk => by simpa using h.rel.rho id k hk, fun k hk => ?_, fun id ob hob => (h.rel.obj id ob hob).chg hc (by simp) (by simp)⟩
            · have hkb : k ≠ b := fun e0 => by have := (h.rel.old k hk).2; rw [e0, t1] at this; cases this
              exact ⟨(setRow_other w b k arr' hkb).trans (h.rel.old k hk).1, (h.rel.old k hk).2⟩
            · by_cases hkb : k = b
              · subst hkb
                rw [cell_row hb', hget]
                by_cases hcc : lo ≤ j ∧ j < lo + news.length
                · rw [if_pos hcc]
                  simp only [G', hcc, and_self, if_true] at hv
                  exact hv
                · rw [if_neg hcc]
                  simp only [G', true_and, if_neg hcc] at hv
                  have := h.rel.imm k j v hv
                  rw [cell_row t2] at this; exact this
              · simp only [G', hkb, false_and, if_false] at hv
                have := h.rel.imm k j v hv
                rw [← this]
                simp only [World.cell?, setRow_other w b k arr' hkb]
            · have hkb : k ≠ b := fun e0 => by
                subst e0
                rcases hk with ⟨id, hk⟩ | ⟨id, hk⟩ <;> (simp only [G'] at hk; rw [t1] at hk; cases hk)
              simp only [G', hkb, false_and, if_false]
              exact h.rel.noimm k hk j
            · obtain ⟨arr2, e2, q1, q2⟩ := h.rel.len k hk
              by_cases hkb : k = b
              · subst hkb
                rw [t2] at q1; cases q1
                exact ⟨arr', e', hb', by simp only [arr']; rw [size_write hfit]; exact q2⟩
              · exact ⟨arr2, e2, by rw [setRow_other w b k arr' hkb]; exact q1, q2⟩
          refine ⟨_, _, G', hrun, ⟨hrel, h.frr.chg hc (by simp) (by simp) (by simp) (by simp), h.kept.chg hc (by simp), h.pr⟩, conv (by simp) ⟨fun _ => .ext, ?_⟩⟩
          have hall := (p1.append n1)
          refine ⟨?_, fun _ => ⟨b, o, _, _, rfl, _, _, rfl, by simp, ?_⟩, by simp, by simp, by simp⟩
          · have hlenys : (es ++ ys).length = es.length + ys.length := by simp
            rw [← hlenys]
            refine .vs b o cap _ (es ++ ys) .own (fun i j => if i < es.length then g i j else news.getD ((i - es.length) * (E.C.ty e).size + j) undef) (by simp) (by rw [hlenys]; exact hroom) (by simp) hall.cell (fun i el j y hi hj => ?_) (fun i el j y hi hj => ?_)
            · by_cases hlt : i < es.length
              · simp only [hlt, if_true]
                rw [List.getElem?_append_left hlt] at hi
                exact hLe.imm _ _ _ (him i el j y hi hj)
              · simp only [hlt, if_false]
                rw [List.getElem?_append_right (by omega)] at hi
                obtain ⟨vv, q1, q2⟩ := n1.vr _ _ _ _ hi hj
                have hsub : i * (E.C.ty e).size = es.length * (E.C.ty e).size + (i - es.length) * (E.C.ty e).size := by rw [← Nat.add_mul]; congr 1; omega
                have hklt : (i - es.length) * (E.C.ty e).size + j < news.length := (List.getElem?_eq_some_iff.1 q1).1
                have hin : lo ≤ o + i * (E.C.ty e).size + j ∧ o + i * (E.C.ty e).size + j < lo + news.length := by simp only [lo]; omega
                simp only [G', hin, and_self, if_true]
                rw [show o + i * (E.C.ty e).size + j - lo = (i - es.length) * (E.C.ty e).size + j by simp only [lo]; omega, q1]
                simp [List.getD, q1]
            · by_cases hlt : i < es.length
              · simp only [hlt, if_true]
                rw [List.getElem?_append_left hlt] at hi
                exact (hg2 i el j y hi hj).mono hLe
              · simp only [hlt, if_false]
                rw [List.getElem?_append_right (by omega)] at hi
                obtain ⟨vv, q1, q2⟩ := n1.vr _ _ _ _ hi hj
                have : news.getD ((i - es.length) * (E.C.ty e).size + j) undef = vv := by simp [List.getD, q1]
                rw [this]; exact q2.mono hLe
          · right
            refine ⟨t1, ⟨arr', e', hb', by simp only [arr']; rw [size_write hfit]; exact t3⟩, fun j hj => ?_⟩
            have hnl := n1.len
            rw [Nat.add_mul] at hj
            have hout : ¬ (b = b ∧ lo ≤ j ∧ j < lo + news.length) := by simp only [lo]; omega
            show (if b = b ∧ lo ≤ j ∧ j < lo + news.length then news[j - lo]? else G.imm b j) = none
            rw [if_neg hout]
            exact t4 j (by omega)
    · -- a new row
      have hlt : cap < es.length + ys.length := by omega
      obtain ⟨f1, f2⟩ := fits hbytes hlim hlt
      have hrun := run_append_grow' (ty := ty) hul hdu hni h1 h4 hlt (n2 E.P w) (by rw [h2]; exact n3 E.P w.drew rfl) (by rw [h2]; exact p2 E.P w.drew rfl) f1 (by rw [h3]; exact f2)
      have hge := grownCap_ge w (es.length + ys.length) cap e
      have hall := p1.append n1
      have hsize : (olds'.toArray ++ news.toArray ++ Builtin.zeroCells z.cells (grownCap w (es.length + ys.length) cap e - (es.length + ys.length))).size = grownCap w (es.length + ys.length) cap e * (E.C.ty e).size := by
        simp only [Array.size_append, List.size_toArray, size_zeroCells, h8, p1.len, n1.len, ← Nat.add_mul]
        congr 1; omega
      obtain ⟨G', r1, r2, r3⟩ := h.drew.newRow (e := e) (es := es ++ ys) (sz := (E.C.ty e).size) (cap := grownCap w (es.length + ys.length) cap e) (fun i j => (olds' ++ news).getD (i * (E.C.ty e).size + j) undef) .ret .own (by simp) ⟨by simp, by simp⟩ (by simp; exact hge) hsize (by simp) hall.cell
        (fun i el j y hi hj => by
          obtain ⟨vv, q1, q2⟩ := hall.vr i el j y hi hj
          have e1 : (olds' ++ news).getD (i * (E.C.ty e).size + j) undef = vv := by simp only [List.getD, q1, Option.getD_some]
          rw [e1]
          refine ⟨?_, q2⟩
          have hk : i * (E.C.ty e).size + j < (olds' ++ news).length := (List.getElem?_eq_some_iff.1 q1).1
          rw [Array.getElem?_append_left (by simpa using hk)]
          simpa using q1)
      rw [List.length_append] at r2
      exact ⟨_, _, G', hrun, r1, conv (by simp) ⟨_, r2⟩⟩
end Go.Av
