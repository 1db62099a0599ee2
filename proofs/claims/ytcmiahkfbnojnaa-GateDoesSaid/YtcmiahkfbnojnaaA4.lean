/- A part of the proof of a law of this seat: What the operations yield. No condition. -/
import Derived.Test.YtcmiahkfbnojnaaA3
set_option linter.all false
set_option linter.unusedVariables false
/-! What the operations yield. -/
namespace Go.Av
variable {E : Env} {G : Gh} {w : World} {S : St}

theorem TyOk.under {P : Program} {t : Nat} {ti : TI} (h : TyOk P t ti) : ∃ d, P.underlying t = some d ∧ kindOk P d ti.kind = true ∧ ti.agg = aggOf d := by
  obtain ⟨i, z, d, h1, h2, h3, h4, h5, h6, h7, _⟩ := h.ex
  exact ⟨d, h5, h6, h7⟩
theorem TyOk.slice {P : Program} {t : Nat} {ti : TI} (h : TyOk P t ti) {e : Nat} (hk : ti.kind = .slice e) : P.underlying t = some (.slice e) := by
  obtain ⟨d, h1, h2, _⟩ := h.under
  rw [hk] at h2
  cases d <;> simp [kindOk] at h2
  subst h2; exact h1
theorem TyOk.array {P : Program} {t : Nat} {ti : TI} (h : TyOk P t ti) {n e : Nat} (hk : ti.kind = .array n e) : P.underlying t = some (.array n e) := by
  obtain ⟨d, h1, h2, _⟩ := h.under
  rw [hk] at h2
  cases d <;> simp [kindOk] at h2
  obtain ⟨rfl, rfl⟩ := h2; exact h1
theorem TyOk.map {P : Program} {t : Nat} {ti : TI} (h : TyOk P t ti) {k e : Nat} (hk : ti.kind = .map k e) : P.underlying t = some (.map k e) := by
  obtain ⟨d, h1, h2, _⟩ := h.under
  rw [hk] at h2
  cases d <;> simp [kindOk] at h2
  obtain ⟨rfl, rfl⟩ := h2; exact h1
theorem TyOk.str {P : Program} {t : Nat} {ti : TI} (h : TyOk P t ti) (hk : ti.kind = .str) : P.underlying t = some .string := by
  obtain ⟨d, h1, h2, _⟩ := h.under
  rw [hk] at h2
  cases d <;> simp [kindOk] at h2
  exact h1
theorem TyOk.int {P : Program} {t : Nat} {ti : TI} (h : TyOk P t ti) {k : IntKind} (hk : ti.kind = .int k) : P.underlying t = some (.int k) := by
  obtain ⟨d, h1, h2, _⟩ := h.under
  rw [hk] at h2
  cases d <;> simp [kindOk] at h2
  subst h2; exact h1
theorem TyOk.struct {P : Program} {t : Nat} {ti : TI} (h : TyOk P t ti) {fs : List (Nat × Nat × Nat)} (hk : ti.kind = .struct fs) : ∃ fl, P.underlying t = some (.struct fl) ∧ fieldsOk P fl.toList fs = true := by
  obtain ⟨d, h1, h2, _⟩ := h.under
  rw [hk] at h2
  cases d <;> simp [kindOk] at h2
  exact ⟨_, h1, h2⟩

theorem run_fieldAt (A : Agree E) {t : Nat} (ht : E.C.has t = true) {i fo : Nat} (h : fieldOff E.C t i = some fo) (b o : Nat) :
    (Instr.fieldAt t (.pointer (some ⟨b, o, none⟩)) i).run E.P w = .ok (.pointer (some ⟨b, o + fo, none⟩)) w := by
  unfold fieldOff at h
  split at h
  · rename_i fs hk
    split at h
    · rename_i fo' ty sz hfi
      split at h
      · cases h
      · rename_i hsz
        cases h
        obtain ⟨fl, h1, h2⟩ := (A.ty t ht).struct hk
        obtain ⟨f, inf, h3, h4, h5, h6, h7⟩ := (fieldsOk_get h2).2 i _ hfi
        have h3' : fl[i]? = some f := by simpa using h3
        have h8 : inf.size ≠ 0 := by rw [h7]; exact hsz
        simp at h4
        simp [Instr.fieldAt, run_underlying h1, h3', Instr.sureAddr, fieldPlace, sizeOf, typeInfo, h6, h8, Addr.add_lit, h4]
    · cases h
  · cases h

theorem movePtr_spec {v : Value} {x y : AV} {d : Nat} (h : VR G v x) (hm : movePtr x d = some y) : ∃ b o, v = .pointer (some ⟨b, o, none⟩) ∧ VR G (.pointer (some ⟨b, o + d, none⟩)) y ∧ y.cell1 = true := by
  cases h with
  | ptr id off b hr => cases hm; exact ⟨b, off, rfl, .ptr id (off + d) b hr, rfl⟩
  | ep cs b o off f hc hi h2 => cases hm; exact ⟨b, o + off, rfl, by rw [Nat.add_assoc]; exact .ep cs b o (off + d) f hc hi h2, rfl⟩
  | _ => cases hm

theorem run_indexAt_slice' (A : Agree E) {t e : Nat} (ht : E.C.has t = true) (he : E.C.has e = true) (hk : (E.C.ty t).kind = .slice e) {v u : Value} {x i y : AV} (hv : VR G v x) (hu : VR G u i) (hi : idxSlA (E.C.ty e) x i = some y) :
    ∃ r, (Instr.indexAt t v u).run E.P w = .ok r w ∧ VR G r y ∧ y.cell1 = true := by
  have hul := (A.ty t ht).slice hk
  cases hu with
  | int k n =>
    cases hv with
    | vsnil sz =>
      simp only [idxSlA] at hi
      split at hi
      · simp at hi
      · cases hi
    | vs b o cap sz es r f hr hc hf hs h h2 =>
      simp only [idxSlA] at hi
      split at hi
      · rename_i hcond
        obtain ⟨hsz, hn⟩ := hcond
        rw [Option.map_eq_some_iff] at hi
        obtain ⟨el, hel, rfl⟩ := hi
        have hlt : n.toNat < es.length := (List.getElem?_eq_some_iff.1 hel).1
        refine ⟨.pointer (some ⟨b, o + n.toNat * sz, none⟩), ?_, ?_, rfl⟩
        · have : 0 ≤ n ∧ n < (es.length : Int) := ⟨hn, by omega⟩
          simp [Instr.indexAt, run_underlying hul, asIntOf, this, run_sizeOf A he, Addr.add_lit, hsz]
        · have := VR.ep (G := G) el b (o + n.toNat * sz) 0 (fun j => f n.toNat j) (hs el (List.mem_of_getElem? hel)).2 (fun j x hx => h _ _ _ _ hel hx) (fun j x hx => h2 _ _ _ _ hel hx)
          simpa using this
      · cases hi
    | rs b id off len cap sz hr hc =>
      simp only [idxSlA] at hi
      split at hi
      · rename_i hcond
        obtain ⟨hsz, hn, hlt⟩ := hcond
        cases hi
        refine ⟨.pointer (some ⟨b, off + n.toNat * sz, none⟩), ?_, .ptr id _ b hr, rfl⟩
        simp [Instr.indexAt, run_underlying hul, asIntOf, hn, hlt, run_sizeOf A he, Addr.add_lit, hsz]
      · cases hi
    | _ => simp [idxSlA] at hi
  | _ => simp [idxSlA] at hi

theorem run_indexAt_array' (A : Agree E) {t e n : Nat} (ht : E.C.has t = true) (he : E.C.has e = true) (hk : (E.C.ty t).kind = .array n e) {b o : Nat} {k : IntKind} {i : Int} (hi : 0 ≤ i ∧ i < n) :
    (Instr.indexAt t (.pointer (some ⟨b, o, none⟩)) (.int k i)).run E.P w = .ok (.pointer (some ⟨b, o + i.toNat * (E.C.ty e).size, none⟩)) w := by
  have hul := (A.ty t ht).array hk
  simp [Instr.indexAt, run_underlying hul, asIntOf, hi, run_sizeOf A he, Addr.add_lit, Instr.sureAddr]

theorem run_part (A : Agree E) {t : Nat} (ht : E.C.has t = true) {cs : List AV} {vs : Array Value} (h : VR G (.agg vs) (.agg cs)) {off : Nat} {x : AV} (hx : readT (E.C.ty t) cs off = some x) :
    ∃ v, (part t vs off).run E.P w = .ok v w ∧ VR G v x ∧ ((cs[off]? = some x) ∨ ∃ ds, x = .agg ds ∧ ∀ c ∈ ds, c ∈ cs) := by
  cases h with
  | agg _ _ hl h =>
    unfold readT at hx
    unfold part
    rw [Sem.run_bind, run_isAgg A ht]
    cases hk : (E.C.ty t).agg with
    | false =>
      simp only [hk, Bool.false_eq_true, if_false] at hx
      have hlt : off < vs.size := by rw [hl]; exact (List.getElem?_eq_some_iff.1 hx).1
      have hv : vs[off]? = some vs[off] := by simp [hlt]
      exact ⟨vs[off], by simp [hlt], h off x _ hx hv, .inl hx⟩
    | true =>
      simp only [hk, if_true] at hx
      split at hx
      · rename_i hle
        simp only [Option.some.injEq] at hx
        subst hx
        refine ⟨.agg (vs.extract off (off + (E.C.ty t).size)), by simp [run_sizeOf A ht], ?_, .inr ⟨_, rfl, fun c hc => List.mem_of_mem_drop (List.mem_of_mem_take hc)⟩⟩
        refine .agg _ _ (by simp; omega) fun i y v hy hv => ?_
        simp only [List.getElem?_take, List.getElem?_drop] at hy
        split at hy
        · rename_i hi
          rw [Array.getElem?_extract] at hv
          split at hv
          · exact h _ _ _ hy hv
          · cases hv
        · cases hy
      · cases hx

theorem noTup_some {x y : AV} (h : noTup x = some y) : x = y ∧ ∀ cs, y ≠ .tup cs := by
  unfold noTup at h
  split at h
  · cases h
  · rename_i hn
    simp only [Option.some.injEq] at h
    subst h
    exact ⟨rfl, fun cs e => hn cs e⟩
theorem run_field (A : Agree E) {t i : Nat} (ht : E.C.has t = true) {fs : List (Nat × Nat × Nat)} (hk : (E.C.ty t).kind = .struct fs) {p : Nat × Nat × Nat} (hp : fs[i]? = some p) (hty : E.C.has p.2.1 = true)
    {v : Value} {x y : AV} (hv : VR G v x) (hy : partA (E.C.ty p.2.1) x p.1 = some y) :
    ∃ r, (Instr.field t v i).run E.P w = .ok r w ∧ VR G r y ∧ ∀ cs, y ≠ .tup cs := by
  obtain ⟨fl, h1, h2⟩ := (A.ty t ht).struct hk
  obtain ⟨f, inf, h3, h4, h5, h6, h7⟩ := (fieldsOk_get h2).2 i _ hp
  have h3' : fl[i]? = some f := by simpa using h3
  cases x with
  | agg cs =>
    cases hv with
    | agg _ vs hl h =>
      simp only [partA, Option.bind_eq_some_iff] at hy
      obtain ⟨y', hy', hnt⟩ := hy
      obtain ⟨rfl, hnt⟩ := noTup_some hnt
      obtain ⟨r, k1, k2, k3⟩ := run_part (w := w) A hty (.agg _ vs hl h) hy'
      refine ⟨r, ?_, k2, hnt⟩
      simp [Instr.field, run_underlying h1, h3', asAgg, h4, h5, k1]
  | _ => simp [partA] at hy

theorem run_index_str (A : Agree E) {t : Nat} (ht : E.C.has t = true) (hk : (E.C.ty t).kind = .str) {v u : Value} {x i y : AV} (hv : VR G v x) (hu : VR G u i) (hy : charA x i = some y) :
    ∃ r, (Instr.index t v u).run E.P w = .ok r w ∧ VR G r y ∧ y.cell1 = true := by
  have hul := (A.ty t ht).str hk
  cases x with
  | str s =>
    cases i with
    | int k n =>
      cases hv; cases hu
      simp only [charA] at hy
      split at hy
      · rename_i hn
        rw [Option.map_eq_some_iff] at hy
        obtain ⟨c, hc, rfl⟩ := hy
        have hlt : n.toNat < s.length := (List.getElem?_eq_some_iff.1 hc).1
        have hc2 : s[n.toNat] = c := (List.getElem?_eq_some_iff.1 hc).2
        refine ⟨.int .u8 c.toNat, ?_, .int _ _, rfl⟩
        have hget : (⟨s.toArray⟩ : ByteArray)[n.toNat]? = some c := by
          have : n.toNat < (⟨s.toArray⟩ : ByteArray).size := by simpa [ByteArray.size] using hlt
          rw [getElem?_pos (⟨s.toArray⟩ : ByteArray) n.toNat this]
          simp [ByteArray.getElem_eq_getElem_data, hc2]
        simp [Instr.index, run_underlying hul, asIntOf, hn, hget]
      · cases hy
    | _ => simp [charA] at hy
  | _ => simp [charA] at hy
theorem run_index_array (A : Agree E) {t n e : Nat} (ht : E.C.has t = true) (he : E.C.has e = true) (hk : (E.C.ty t).kind = .array n e) {v u : Value} {x i y : AV} (hv : VR G v x) (hu : VR G u i) (hy : elemA n (E.C.ty e) x i = some y) :
    ∃ r, (Instr.index t v u).run E.P w = .ok r w ∧ VR G r y ∧ ∀ cs, y ≠ .tup cs := by
  have hul := (A.ty t ht).array hk
  cases x with
  | agg cs =>
    cases i with
    | int k m =>
      cases hv with
      | agg _ vs hl h =>
        cases hu
        simp only [elemA] at hy
        split at hy
        · rename_i hm
          simp only [Option.bind_eq_some_iff] at hy
          obtain ⟨y', hy', hnt⟩ := hy
          obtain ⟨rfl, hnt⟩ := noTup_some hnt
          obtain ⟨r, k1, k2, k3⟩ := run_part (w := w) A he (.agg _ vs hl h) hy'
          refine ⟨r, ?_, k2, hnt⟩
          simp [Instr.index, run_underlying hul, asIntOf, hm, run_sizeOf A he, k1]
        · cases hy
    | _ => simp [elemA] at hy
  | _ => simp [elemA] at hy

def OptVR (G : Gh) : Option Value → Option AV → Prop
  | none, none => True
  | some v, some x => VR G v x
  | _, _ => False
theorem bnd_some {v : Value} {x : AV} {hi d m y : Nat} {code : BoundsCode} (hv : VR G v x) (h : bnd 0 hi (some x) d = some m) (hy : hi ≤ y) : (Instr.sliceBound v y code).run E.P w = .ok m w ∧ m ≤ hi := by
  cases hv with
  | int k n =>
    simp only [bnd] at h
    split at h
    · rename_i hn
      cases h
      have : (0 : Int) ≤ n ∧ n ≤ y := ⟨by simpa using hn.1, by omega⟩
      exact ⟨by simp [Instr.sliceBound, asIntOf, this], by omega⟩
    · cases h
  | _ => simp [bnd] at h
theorem bnd_none {lo hi d m : Nat} (h : bnd lo hi none d = some m) : m = d := by simpa [bnd] using h.symm
theorem run_sliceBounds2 {s : Bool} {len : Nat} {lo hi : Option Value} {lo' hi' : Option AV} (hlo : OptVR G lo lo') (hhi : OptVR G hi hi') {top l h : Nat} (ht : len ≤ top)
    (h1 : bnd 0 len hi' len = some h) (h2 : bnd 0 h lo' 0 = some l) : (Instr.sliceBounds s len top lo hi none).run E.P w = .ok (l, h, top) w ∧ l ≤ h ∧ h ≤ len := by
  cases hi with
  | none =>
    cases hi' with
    | some _ => exact hhi.elim
    | none =>
      obtain rfl := bnd_none h1
      cases lo with
      | none =>
        cases lo' with
        | some _ => exact hlo.elim
        | none => obtain rfl := bnd_none h2; exact ⟨by simp [Instr.sliceBounds], Nat.zero_le _, Nat.le_refl _⟩
      | some v =>
        cases lo' with
        | none => exact hlo.elim
        | some x =>
          obtain ⟨k1, k2⟩ := bnd_some (E := E) (w := w) (code := .sliceB) hlo h2 (Nat.le_refl _)
          exact ⟨by simp [Instr.sliceBounds, k1], k2, Nat.le_refl _⟩
  | some u =>
    cases hi' with
    | none => exact hhi.elim
    | some y =>
      obtain ⟨q1, q2⟩ := bnd_some (E := E) (w := w) (code := if s then .sliceAcap else .sliceAlen) hhi h1 ht
      cases lo with
      | none =>
        cases lo' with
        | some _ => exact hlo.elim
        | none => obtain rfl := bnd_none h2; exact ⟨by simp [Instr.sliceBounds, q1], Nat.zero_le _, q2⟩
      | some v =>
        cases lo' with
        | none => exact hlo.elim
        | some x =>
          obtain ⟨k1, k2⟩ := bnd_some (E := E) (w := w) (code := .sliceB) hlo h2 (Nat.le_refl _)
          exact ⟨by simp [Instr.sliceBounds, q1, k1], k2, q2⟩
theorem run_sliceBounds3 {s : Bool} {len cap : Nat} {lo : Option Value} {hi mx : Value} {lo' : Option AV} {hi' mx' : AV} (hlo : OptVR G lo lo') (hhi : VR G hi hi') (hmx : VR G mx mx') {l h m d d' : Nat} (ht : len ≤ cap)
    (h0 : bnd 0 len (some mx') d = some m) (h1 : bnd 0 m (some hi') d' = some h) (h2 : bnd 0 h lo' 0 = some l) : (Instr.sliceBounds s len cap lo (some hi) (some mx)).run E.P w = .ok (l, h, m) w ∧ l ≤ h ∧ h ≤ m ∧ m ≤ len := by
  obtain ⟨k1, k2⟩ := bnd_some (E := E) (w := w) (code := if s then .slice3Acap else .slice3Alen) hmx h0 ht
  obtain ⟨k3, k4⟩ := bnd_some (E := E) (w := w) (code := .slice3B) hhi h1 (Nat.le_refl _)
  cases lo with
  | none =>
    cases lo' with
    | some _ => exact hlo.elim
    | none => obtain rfl := bnd_none h2; exact ⟨by simp [Instr.sliceBounds, k1, k3], Nat.zero_le _, k4, k2⟩
  | some v =>
    cases lo' with
    | none => exact hlo.elim
    | some x =>
      obtain ⟨q1, q2⟩ := bnd_some (E := E) (w := w) (code := .slice3C) hlo h2 (Nat.le_refl _)
      exact ⟨by simp [Instr.sliceBounds, k1, k3, q1], q2, k4, k2⟩

theorem run_cutStr (A : Agree E) {t : Nat} (ht : E.C.has t = true) (hk : (E.C.ty t).kind = .str) {v : Value} {x y : AV} {lo hi : Option Value} {lo' hi' : Option AV} (hv : VR G v x) (hlo : OptVR G lo lo') (hhi : OptVR G hi hi')
    (hy : cutStrA x lo' hi' = some y) : ∃ r, (Instr.sliceAt t v lo hi none).run E.P w = .ok r w ∧ VR G r y ∧ y.cell1 = true := by
  have hul := (A.ty t ht).str hk
  cases hv with
  | str s =>
    simp only [cutStrA, Option.bind_eq_some_iff, Option.map_eq_some_iff] at hy
    obtain ⟨h, hh, l, hl, rfl⟩ := hy
    have hsz : (⟨s.toArray⟩ : ByteArray).size = s.length := by simp [ByteArray.size]
    obtain ⟨k1, k2, k3⟩ := run_sliceBounds2 (E := E) (w := w) (s := false) hlo hhi (Nat.le_refl s.length) hh hl
    refine ⟨.string ((⟨s.toArray⟩ : ByteArray).extract l h), ?_, ?_, rfl⟩
    · simp [Instr.sliceAt, run_underlying hul, Instr.slice, hsz, k1]
    · have : (⟨s.toArray⟩ : ByteArray).extract l h = ⟨((s.take h).drop l).toArray⟩ := by
        apply ByteArray.ext
        simp [ByteArray.extract, ByteArray.copySlice]
        rw [List.drop_take]
      rw [this]; exact .str _
  | _ => simp [cutStrA] at hy

theorem run_cut (A : Agree E) {t e : Nat} (ht : E.C.has t = true) (he : E.C.has e = true) (hk : (E.C.ty t).kind = .slice e) {κ : Key} {κc : Nat → Key} {v : Value} {x y : AV} {lo hi mx : Option Value} {lo' hi' mx' : Option AV}
    (hv : ValR G w κ κc v x) (hlo : OptVR G lo lo') (hhi : OptVR G hi hi') (hmx : OptVR G mx mx') (hy : cutA (E.C.ty e) x lo' hi' mx' = some y) :
    ∃ r, (Instr.sliceAt t v lo hi mx).run E.P w = .ok r w ∧ ValR G w κ κc r y := by
  have hul := (A.ty t ht).slice hk
  have hvr := hv.vr
  cases hvr with
  | vsnil sz =>
    simp only [cutA] at hy
    split at hy
    case isFalse => cases hy
    rename_i hc
    obtain ⟨hsz, hmh⟩ := hc
    simp only [Option.bind_eq_some_iff, if_true, List.length_nil] at hy
    obtain ⟨m, hm, h, hh, l, hl, hy⟩ := hy
    split at hy
    case isFalse => cases hy
    cases hy
    subst_vars
    refine ⟨.slice none 0 0, ?_, hv⟩
    cases mx with
    | none =>
      cases mx' with
      | some _ => exact hmx.elim
      | none =>
        obtain ⟨k1, k2, k3⟩ := run_sliceBounds2 (E := E) (w := w) (s := true) hlo hhi (Nat.le_refl 0) hh hl
        have : h = 0 ∧ l = 0 := by omega
        obtain ⟨rfl, rfl⟩ := this
        simp [Instr.sliceAt, run_underlying hul, Instr.slice, k1, run_sizeOf A he]
    | some mv =>
      cases mx' with
      | none => exact hmx.elim
      | some ma =>
        cases hi' with
        | none => simp at hmh
        | some ha =>
          cases hi with
          | none => exact hhi.elim
          | some hv' =>
            obtain ⟨k1, k2, k3, k4⟩ := run_sliceBounds3 (E := E) (w := w) (s := true) hlo hhi hmx (Nat.le_refl 0) hm hh hl
            have : h = 0 ∧ l = 0 := by omega
            obtain ⟨rfl, rfl⟩ := this
            simp [Instr.sliceAt, run_underlying hul, Instr.slice, k1, run_sizeOf A he]
  | vse a sz r hr' =>
    have hr : r ≠ .nil := by rcases hr' with rfl | rfl <;> simp
    simp only [cutA] at hy
    split at hy
    case isFalse => cases hy
    rename_i hcnd
    obtain ⟨hsz, hmh⟩ := hcnd
    simp only [Option.bind_eq_some_iff, hr, if_false, List.length_nil] at hy
    obtain ⟨m, hm, h, hh, l, hl, hy⟩ := hy
    simp only [Option.some.injEq] at hy
    have key : (Instr.sliceBounds true 0 0 lo hi mx).run E.P w = .ok (0, 0, 0) w ∧ m = 0 ∧ h = 0 ∧ l = 0 := by
      cases mx with
      | none =>
        cases mx' with
        | some _ => exact hmx.elim
        | none =>
          simp only [bnd, Option.some.injEq] at hm
          subst hm
          obtain ⟨k1, k2, k3⟩ := run_sliceBounds2 (E := E) (w := w) (s := true) hlo hhi (Nat.le_refl 0) hh hl
          have : h = 0 ∧ l = 0 := by omega
          obtain ⟨rfl, rfl⟩ := this
          exact ⟨k1, rfl, rfl, rfl⟩
      | some mv =>
        cases mx' with
        | none => exact hmx.elim
        | some ma =>
          cases hi' with
          | none => simp at hmh
          | some ha =>
            cases hi with
            | none => exact hhi.elim
            | some hv' =>
              obtain ⟨k1, k2, k3, k4⟩ := run_sliceBounds3 (E := E) (w := w) (s := true) hlo hhi hmx (Nat.le_refl 0) hm hh hl
              have : m = 0 ∧ h = 0 ∧ l = 0 := by omega
              obtain ⟨rfl, rfl, rfl⟩ := this
              exact ⟨k1, rfl, rfl, rfl⟩
    obtain ⟨k1, rfl, rfl, rfl⟩ := key
    refine ⟨.slice (some a) 0 0, ?_, ?_⟩
    · simp [Instr.sliceAt, run_underlying hul, Instr.slice, k1, run_sizeOf A he]
    · subst hy
      have hr2 : ∀ q : Rt, (q = .none ∨ q = .full) → ValR G w κ κc (.slice (some a) 0 0) (.vs sz [] q) := fun q hq => .of_cell1 (.vse a sz q hq) (by rcases hq with rfl | rfl <;> rfl)
      simp only [List.take_nil, List.drop_nil, if_true]
      split
      · exact hr2 _ (.inr rfl)
      · exact hr2 _ hr'
  | vs b o cap sz es r g hr hc hf hs h1 h2 =>
    simp only [cutA] at hy
    split at hy
    case isFalse => cases hy
    rename_i hcnd
    obtain ⟨hsz, hmh⟩ := hcnd
    simp only [Option.bind_eq_some_iff, hr, if_false] at hy
    obtain ⟨m, hm, h, hh, l, hl, hy⟩ := hy
    simp only [Option.some.injEq] at hy
    -- the concrete top
    have key : ∃ top, (Instr.sliceBounds true es.length cap lo hi mx).run E.P w = .ok (l, h, top) w ∧ l ≤ h ∧ h ≤ es.length ∧ h ≤ top ∧ (mx' = none → top = cap) ∧ (mx'.isSome = true → top = m) := by
      cases mx with
      | none =>
        cases mx' with
        | some _ => exact hmx.elim
        | none =>
          simp only [bnd, Option.some.injEq] at hm
          subst hm
          obtain ⟨k1, k2, k3⟩ := run_sliceBounds2 (E := E) (w := w) (s := true) hlo hhi hc hh hl
          exact ⟨cap, k1, k2, k3, Nat.le_trans k3 hc, fun _ => rfl, by simp⟩
      | some mv =>
        cases mx' with
        | none => exact hmx.elim
        | some ma =>
          cases hi' with
          | none => simp at hmh
          | some ha =>
            cases hi with
            | none => exact hhi.elim
            | some hv' =>
              obtain ⟨k1, k2, k3, k4⟩ := run_sliceBounds3 (E := E) (w := w) (s := true) hlo hhi hmx hc hm hh hl
              exact ⟨m, k1, k2, Nat.le_trans k3 k4, k3, by simp, fun _ => rfl⟩
    obtain ⟨top, k1, k2, k3, k4, k5, k6⟩ := key
    have hlen : ((es.take h).drop l).length = h - l := by simp; omega
    refine ⟨.slice (some ⟨b, if top = l then o else o + l * sz, none⟩) (h - l) (top - l), ?_, ?_⟩
    · simp only [Instr.sliceAt, Sem.run_bind, run_underlying hul, Result.andThen_ok, Instr.slice, k1, run_sizeOf A he, Sem.run_pure]
      by_cases e1 : top = l
      · simp [e1]
      · simp [e1, Addr.add_lit, hsz]
    · have hget : ∀ i e, ((es.take h).drop l)[i]? = some e → es[l + i]? = some e ∧ top ≠ l := by
        intro i e hi
        have hlt : i < h - l := by rw [← hlen]; exact (List.getElem?_eq_some_iff.1 hi).1
        rw [List.getElem?_drop, List.getElem?_take, if_pos (by omega)] at hi
        exact ⟨hi, by omega⟩
      have hvr' : ∀ r', r' ≠ .nil → (r' = .full → top - l = h - l) → VR G (.slice (some ⟨b, if top = l then o else o + l * sz, none⟩) (h - l) (top - l)) (.vs sz ((es.take h).drop l) r') := by
        intro r' hr' hf'
        have := VR.vs (G := G) b (if top = l then o else o + l * sz) (top - l) sz ((es.take h).drop l) r' (fun i j => g (l + i) j) hr' (by rw [hlen]; omega) (by rw [hlen]; exact hf')
          (fun e he => hs e (List.mem_of_mem_take (List.mem_of_mem_drop he)))
          (fun i e j x hi hj => by
            obtain ⟨q1, q2⟩ := hget i e hi
            rw [if_neg q2]
            have := h1 (l + i) e j x q1 hj
            rwa [show o + l * sz + i * sz + j = o + (l + i) * sz + j by rw [Nat.add_mul]; omega])
          (fun i e j x hi hj => h2 (l + i) e j x (hget i e hi).1 hj)
        rwa [hlen] at this
      subst hy
      refine ⟨?_, ?_, by simp, by simp, by simp⟩
      · cases hmx' : mx' with
        | none =>
          simp only [Option.isSome_none, Bool.false_eq_true, if_false]
          by_cases e2 : h = es.length
          · simp only [e2, if_true]
            rw [← e2]
            refine hvr' r hr fun e3 => ?_
            have := hf e3
            have := k5 hmx'
            omega
          · simp only [e2, if_false]
            exact hvr' _ (by simp) (by simp)
        | some ma =>
          simp only [Option.isSome_some, if_true]
          have := k6 (by simp [hmx'])
          by_cases e2 : m = h
          · simp only [e2, if_true]
            exact hvr' _ (by simp) (fun _ => by omega)
          · simp only [e2, if_false]
            exact hvr' _ (by simp) (by simp)
      · intro hown
        cases hmx' : mx' with
        | some ma =>
          rw [hmx'] at hown
          simp only [Option.isSome_some, if_true] at hown
          split at hown <;> simp [AV.own] at hown
        | none =>
          rw [hmx'] at hown
          simp only [Option.isSome_none, Bool.false_eq_true, if_false] at hown ⊢
          by_cases e2 : h = es.length
          · simp only [e2, if_true] at hown ⊢
            cases r <;> simp [AV.own] at hown
            obtain ⟨b', o', len, cap', e3, sz', es', e4, e5, htail⟩ := hv.tail rfl
            cases e3
            cases e4
            have htop := k5 hmx'
            refine ⟨b, _, _, _, rfl, sz, _, rfl, ?_, ?_⟩
            · rw [← e2]; exact hlen
            · rcases htail with htail | ⟨t1, ⟨arr, e, t2, t3⟩, t4⟩
              · left; omega
              · by_cases e6 : top = l
                · left; omega
                · right
                  refine ⟨t1, ⟨arr, e, t2, ?_⟩, fun j hj => t4 j ?_⟩
                  · simp only [e6, if_false]
                    have : l * sz + (top - l) * sz = cap * sz := by rw [← Nat.add_mul]; congr 1; omega
                    omega
                  · simp only [e6, if_false] at hj
                    have : l * sz + (es.length - l) * sz = es.length * sz := by rw [← Nat.add_mul]; congr 1; omega
                    omega
          · simp only [e2, if_false] at hown
            simp [AV.own] at hown
  | rs b id off len cap sz hr hc hcl =>
    simp only [cutA] at hy
    split at hy
    case isFalse => cases hy
    rename_i hcnd
    obtain ⟨hsz, hmn⟩ := hcnd
    cases mx' with
    | some _ => simp at hmn
    | none =>
      cases mx with
      | some _ => exact hmx.elim
      | none =>
        simp only [Option.bind_eq_some_iff] at hy
        obtain ⟨h, hh, l, hl, hy⟩ := hy
        split at hy
        case isFalse => cases hy
        rename_i hlt
        cases hy
        obtain ⟨k1, k2, k3⟩ := run_sliceBounds2 (E := E) (w := w) (s := true) hlo hhi hc hh hl
        have hmul : l * sz + (cap - l) * sz = cap * sz := by rw [← Nat.add_mul]; congr 1; omega
        refine ⟨.slice (some ⟨b, off + l * sz, none⟩) (h - l) (cap - l), ?_, .of_cell1 (.rs b id _ _ _ sz hr (by omega) (by omega)) rfl⟩
        by_cases e0 : l = 0
        · subst e0
          simp [Instr.sliceAt, run_underlying hul, Instr.slice, k1, run_sizeOf A he, Addr.add_lit]
        · have : cap ≠ l := by omega
          simp [Instr.sliceAt, run_underlying hul, Instr.slice, k1, run_sizeOf A he, this, Addr.add_lit, hsz]
  | _ => simp [cutA] at hy
end Go.Av
