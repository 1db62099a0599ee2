/- A part of the proof of a law of this seat: The gate: what its functions do. No condition. -/
import Derived.Test.YtcmiahkfbnojnaaPG0
import Derived.Test.YtcmiahkfbnojnaaA30
import Derived.Test.YtcmiahkfbnojnaaA31
set_option linter.all false
set_option linter.unusedVariables false
set_option linter.unusedSimpArgs false
/-! The gate: what its functions do. -/
namespace Go.Av
open Go.Proofs

abbrev AC (w0 : World) := ACalls (En w0)
theorem AC_mono {w0 : World} {g : Nat} {xs : List AV} {S : St} {Q Q' : AV → St → Prop} (h : AC w0 g xs S Q) (hq : ∀ r S', Q r S' → Q' r S') : AC w0 g xs S Q' := Ca_mono w0 g xs S Q Q' h hq

/-- A gate at 'id': who reads, who writes (one more; 0: nobody), who waits. -/
structure GS (S : St) (id : Nat) (R : List Int) (w : Int) (Wt : List Int) : Prop where
  ex : ∃ m r, S[id]? = some (.cells [m, .int .i64 w, .vs 1 (Wt.map wInt) r]) ∧ (r = .nil → Wt = []) ∧ r ≠ .none ∧
    ((m = .map none ∧ R = []) ∨ ∃ mid, m = .map (some mid) ∧ mid ≠ id ∧ S[mid]? = some (.map (R.map fun x => (.int .i64 x, .agg []))))

theorem findA_ints (x : Int) : ∀ (R : List Int) (k : Nat), ∃ r, findA (.int .i64 x) (R.map fun y => (.int .i64 y, .agg [])) k = some r ∧ (r.isSome = decide (x ∈ R)) ∧ ∀ i v, r = some (i, v) → v = .agg [] ∧ ∃ j, i = k + j ∧ R[j]? = some x ∧ ∀ m, m < j → R[m]? ≠ some x
  | [], k => ⟨none, rfl, by simp, by simp⟩
  | y :: R, k => by
    obtain ⟨r, h1, h2, h3⟩ := findA_ints x R (k + 1)
    by_cases e : x = y
    · subst e
      refine ⟨some (k, .agg []), by simp [findA, keyEq, cellEq], by simp, fun i v h => ?_⟩
      cases h
      exact ⟨rfl, 0, rfl, rfl, by simp⟩
    · have e' : (x == y) = false := by simpa using e
      refine ⟨r, by simp only [List.map_cons, findA, keyEq, cellEq, if_true, e']; exact h1, by simp [h2, e], fun i v h => ?_⟩
      obtain ⟨q1, j, q2, q3, q4⟩ := h3 i v h
      refine ⟨q1, j + 1, by omega, by simpa using q3, fun m hm => ?_⟩
      cases m with
      | zero => simpa using fun h => e h.symm
      | succ m => simpa using q4 m (by omega)

/-- In: is somebody in? -/
theorem f20 {w0 : World} {S : St} {id : Nat} {R Wt : List Int} {w x : Int} (h : GS S id R w Wt) (hx : 0 ≤ x ∧ x < 1000000) : AC w0 20 [.ptr id 0, .int .i64 x] S fun r S' => S' = S ∧ r = .bool (decide (x ∈ R ∨ w = x + 1)) := by
  obtain ⟨m, r, hid, h1, h2, hm⟩ := h.ex
  apply G20_ok
  have hl : ∃ p, lookupA .int T65 S m (.int .i64 x) = some p ∧ p.1 = .agg [] ∧ p.2 = decide (x ∈ R) := by
    rcases hm with ⟨rfl, rfl⟩ | ⟨mid, rfl, hne, hmid⟩
    · exact ⟨_, rfl, rfl, by simp⟩
    · obtain ⟨r', q1, q2, q3⟩ := findA_ints x R 0
      cases r' with
      | none => exact ⟨(.agg [], false), by simp [lookupA, keyOk, objMap, hmid, q1, zeroA, T65], rfl, by simpa using q2.symm⟩
      | some p =>
        obtain ⟨i, v⟩ := p
        obtain ⟨rfl, _⟩ := q3 i v rfl
        exact ⟨(.agg [], true), by simp [lookupA, keyOk, objMap, hmid, q1], rfl, by simpa using q2.symm⟩
  obtain ⟨p, hp, hp1, hp2⟩ := hl
  have hms : AV.strip m = m := by rcases hm with ⟨rfl, _⟩ | ⟨mid, rfl, _⟩ <;> rfl
  have hw : IntKind.i64.wrap (x + 1) = x + 1 := wrap64 (by omega) (by omega)
  unfold G20
  by_cases c1 : x ∈ R <;> by_cases c2 : w = x + 1 <;> simp [loadA_ptr hid, hms, hp, hp1, hp2, hw, c1, c2]

theorem f17 {w0 : World} {S : St} {id : Nat} {R Wt : List Int} {w : Int} (h : GS S id R w Wt) : AC w0 17 [.ptr id 0] S fun r S' => S' = S ∧ r = .int .i64 R.length := by
  obtain ⟨m, r, hid, h1, h2, hm⟩ := h.ex
  apply G17_ok
  have hl : lenMapA S m = some (.int .i64 R.length) := by
    rcases hm with ⟨rfl, rfl⟩ | ⟨mid, rfl, hne, hmid⟩
    · rfl
    · simp [lenMapA, objMap, hmid]
  have hms : AV.strip m = m := by rcases hm with ⟨rfl, _⟩ | ⟨mid, rfl, _⟩ <;> rfl
  unfold G17
  simp [loadA_ptr hid, hms, hl]
theorem f18 {w0 : World} {S : St} {id : Nat} {R Wt : List Int} {w : Int} (h : GS S id R w Wt) : AC w0 18 [.ptr id 0] S fun r S' => S' = S ∧ r = .int .i64 (if 1 < w then 1 else w) := by
  obtain ⟨m, r, hid, h1, h2, hm⟩ := h.ex
  apply G18_ok
  unfold G18
  simp [loadA_ptr hid, minA]
theorem f19 {w0 : World} {S : St} {id : Nat} {R Wt : List Int} {w : Int} (h : GS S id R w Wt) : AC w0 19 [.ptr id 0] S fun r S' => S' = S ∧ r = .int .i64 Wt.length := by
  obtain ⟨m, r, hid, h1, h2, hm⟩ := h.ex
  apply G19_ok
  unfold G19
  simp [loadA_ptr hid]

/-- The place of the first x, or -1. -/
def placeOf (x : Int) : List Int → Nat → Int
  | [], _ => -1
  | y :: l, k => if y = x then k else placeOf x l (k + 1)
theorem placeOf_spec (x : Int) : ∀ (l : List Int) (k : Nat), (x ∉ l ∧ placeOf x l k = -1) ∨ ∃ j, j < l.length ∧ placeOf x l k = ↑(k + j) ∧ l[j]? = some x ∧ ∀ m, m < j → l[m]? ≠ some x
  | [], k => .inl ⟨by simp, rfl⟩
  | y :: l, k => by
    by_cases e : y = x
    · subst e
      exact .inr ⟨0, by simp, by simp [placeOf], by simp, by simp⟩
    · rcases placeOf_spec x l (k + 1) with ⟨h1, h2⟩ | ⟨j, h1, h2, h3, h4⟩
      · exact .inl ⟨by simp [h1, Ne.symm e], by simp [placeOf, e, h2]⟩
      · refine .inr ⟨j + 1, by simp; omega, by simp only [placeOf, e, if_false, h2]; congr 1; omega, by simpa using h3, fun m hm => ?_⟩
        cases m with
        | zero => simpa using e
        | succ m => simpa using h4 m (by omega)
theorem placeOf_drop (x : Int) {l : List Int} {i k : Nat} (hi : i < l.length) : placeOf x (l.drop i) k = if l[i] = x then ↑k else placeOf x (l.drop (i + 1)) (k + 1) := by
  rw [List.drop_eq_getElem_cons hi]; rfl

theorem f35 {w0 : World} {S : St} {id : Nat} {R Wt : List Int} {w x : Int} (h : GS S id R w Wt) (hlen : Wt.length < 1000000) : AC w0 35 [.ptr id 0, .int .i64 x] S fun r S' => S' = S ∧ r = .int .i64 (placeOf x Wt 0) := by
  obtain ⟨m, r, hid, h1, h2, hm⟩ := h.ex
  apply G35_ok
  unfold G35
  simp only [joinK_eq, strip_ptr, nilA_ptr, optK_some', movePtr_ptr, loadA_ptr hid, readT, T25_agg, Bool.false_eq_true, if_false, Nat.zero_add, List.getElem?_cons_succ, List.getElem?_cons_zero, strip_vs, lenSlA_vs, List.length_map]
  refine ⟨fun n y S' => S' = S ∧ ∃ i : Nat, y = ([.int .i64 i], []) ∧ i ≤ Wt.length ∧ n = Wt.length - i ∧ placeOf x Wt 0 = placeOf x (Wt.drop i) i, ⟨_, rfl, 0, rfl, Nat.zero_le _, rfl, by simp⟩, ?_⟩
  rintro n v b S1 ⟨rfl, i, hv, hi, hn, hp⟩
  simp only [Prod.mk.injEq, List.cons.injEq, and_true] at hv
  by_cases c : i < Wt.length
  · have hw : IntKind.i64.wrap ((i : Int) + 1) = i + 1 := wrap64 (by omega) (by omega)
    rw [placeOf_drop x c] at hp
    by_cases c2 : Wt[i] = x
    · simp [hv, c, c2, idxSlA, wInt, hp]
    · refine ?_
      simp [hv, c, c2, idxSlA, wInt, hp, hw]
      exact ⟨_, by omega, i + 1, by simp, by omega, rfl, rfl⟩
  · have hi' : i = Wt.length := by omega
    subst hi'
    simp [hv, hp, placeOf]

/-- Read. -/
def okRead (R Wt : List Int) (w x : Int) : Bool := decide (w = 0 ∧ Wt = [] ∧ x ∉ R)
theorem f11 {w0 : World} {S : St} {id : Nat} {R Wt : List Int} {w x : Int} (h : GS S id R w Wt) (hx : 0 ≤ x ∧ x < 1000000) (hlen : Wt.length < 1000000) :
    AC w0 11 [.ptr id 0, .int .i64 x] S fun r S' => r = .bool (okRead R Wt w x) ∧ (okRead R Wt w x = true → GS S' id (R ++ [x]) w Wt) ∧ (okRead R Wt w x = false → S' = S) := by
  obtain ⟨m, r, hid, h1, h2, hm⟩ := h.ex
  have hlt : id < S.length := (List.getElem?_eq_some_iff.1 hid).1
  apply G11_ok
  have hms : AV.strip m = m := by rcases hm with ⟨rfl, _⟩ | ⟨mid, rfl, _⟩ <;> rfl
  unfold G11
  by_cases cw : w = 0
  case neg => simp [loadA_ptr hid, cw, okRead]
  subst cw
  by_cases cl : Wt = []
  case neg =>
    have : 0 < Wt.length := List.length_pos_iff.2 cl
    simp [loadA_ptr hid, this, okRead, cl]
  subst cl
  simp only [joinK_eq, strip_ptr, strip_int, nilA_ptr, optK_some', movePtr_ptr, loadA_ptr hid, readT, T25_agg, T3_agg, Bool.false_eq_true, if_false, Nat.zero_add, List.getElem?_cons_succ, List.getElem?_cons_zero, strip_vs, lenSlA_vs, List.length_map, binA_neq, ne_eq, not_true_eq_false, decide_false, strip_bool, ifK_false, List.length_nil, Int.natCast_zero, binA_gtr, gt_iff_lt, Int.lt_irrefl, pickA_false, callK_def, argsA, List.all_cons, free_ptr, free_int, List.all_nil, Bool.and_self, if_true, List.map_cons, List.map_nil]
  refine AC_mono (f20 h hx) ?_
  rintro r1 S1 ⟨hS, rfl⟩
  rw [hS]
  by_cases ci : x ∈ R
  · simp [ci, okRead]
  have cw2 : ¬ (0 = x + 1) := by omega
  rcases hm with ⟨rfl, rfl⟩ | ⟨mid, rfl, hne, hmid⟩
  · -- a new map
    have e1 : (S ++ [Obj.map []])[id]? = some (.cells [.map none, .int .i64 0, .vs 1 (([] : List Int).map wInt) r]) := by rw [List.getElem?_append_left hlt]; exact hid
    have hne : id ≠ S.length := by omega
    simp [ci, cw2, okRead, loadA_ptr hid, storeA_ptr e1, binE, eqA]
    rw [loadA_ptr (getSet_self e1)]
    have e2 : ((S ++ [Obj.map []]).set id (.cells [.map (some S.length), .int .i64 0, .vs 1 [] r]))[S.length]? = some (.map []) := by
      rw [getSet_other hne]; simp
    simp only [readT, T24_agg, Bool.false_eq_true, if_false, List.getElem?_cons_zero, optK_some', strip_map]
    rw [mapUpdateA_new e2 rfl rfl rfl]
    refine ⟨.map (some S.length), r, ?_, fun _ => rfl, h2, .inr ⟨S.length, rfl, Ne.symm hne, ?_⟩⟩
    · rw [getSet_other (Ne.symm hne), getSet_self e1]; rfl
    · rw [getSet_self e2]; rfl
  · obtain ⟨r', q1, q2, q3⟩ := findA_ints x R 0
    have : r' = none := by
      cases r' with
      | none => rfl
      | some p => simp [ci] at q2
    subst this
    simp [ci, cw2, okRead, loadA_ptr hid, binE, eqA, mapUpdateA, keyOk, objMap, hmid, q1]
    refine ⟨.map (some mid), r, ?_, fun _ => rfl, h2, .inr ⟨mid, rfl, hne, ?_⟩⟩
    · rw [getSet_other hne]; exact hid
    · rw [getSet_self hmid]; simp

/-- Write. -/
def addW (Wt : List Int) (x : Int) : List Int := if x ∈ Wt then Wt else Wt ++ [x]
def okWrite (R Wt : List Int) (w x : Int) : Bool := decide ((addW Wt x).head? = some x ∧ w = 0 ∧ R = [])
theorem f13_tail {S : St} {id : Nat} {R Wt : List Int} {w x a : Int} {Q : AV → St → Prop} (h : GS S id R w Wt) (hx : 0 ≤ x ∧ x < 1000000) (hw : 0 ≤ w) (ha : 0 ≤ a) (hne : Wt ≠ []) 
    (hno : ¬ (a = 0 ∧ w = 0 ∧ R = []) → Q (.bool false) S) (hyes : a = 0 → w = 0 → R = [] → ∀ S', GS S' id [] (x + 1) Wt.tail → Q (.bool true) S') :
    optK (binA .gtr (AV.strip (.int .i64 a)) (.int .i64 0)) fun t30 =>
        joinK (fun (x36 : AV) =>
          optK (pickA (AV.strip t30) (.bool true) x36) fun t37 =>
          joinK (fun (x44 : AV) =>
            optK (pickA (AV.strip (AV.strip t37)) (.bool true) x44) fun t45 =>
            ifK (AV.strip t45)
            (optK (some (.bool false)) fun rr =>
              Q rr S)
            (optK (nilA (AV.strip (.ptr id 0))) fun t48 =>
              optK (movePtr t48 2) fun t49 =>
              optK (loadA T25 S t49) fun t50 =>
              optK (cutA T3 (AV.strip0 t50) (some (.int .i64 1)) none none) fun t51 =>
              optK (nilA (AV.strip (.ptr id 0))) fun t52 =>
              optK (movePtr t52 2) fun t53 =>
              optK (storeA T25 (stripMem S t49) t53 t51) fun S_5 =>
              optK (binA .add (AV.strip (.int .i64 x)) (.int .i64 1)) fun t56 =>
              optK (nilA (AV.strip (.ptr id 0))) fun t57 =>
              optK (movePtr t57 1) fun t58 =>
              optK (storeA T3 S_5 t58 t56) fun S_6 =>
              optK (some (.bool true)) fun rr =>
              Q rr S_6)) fun j =>
          ifK (AV.strip (AV.strip t37))
          (j (.tup []))
          (optK (nilA (AV.strip (.ptr id 0))) fun t40 =>
            optK (movePtr t40 0) fun t41 =>
            optK (loadA T24 S t41) fun t42 =>
            optK (lenMapA S (AV.strip t42)) fun t43 =>
            optK (binA .gtr t43 (.int .i64 0)) fun t44 =>
            j t44)) fun j_2 =>
        ifK (AV.strip t30)
        (j_2 (.tup []))
        (optK (nilA (AV.strip (.ptr id 0))) fun t33 =>
          optK (movePtr t33 1) fun t34 =>
          optK (loadA T3 S t34) fun t35 =>
          optK (binA .neq (AV.strip t35) (.int .i64 0)) fun t36 =>
          j_2 t36) := by
  obtain ⟨m, r, hid, h1, h2, hm⟩ := h.ex
  have hms : AV.strip m = m := by rcases hm with ⟨rfl, _⟩ | ⟨mid, rfl, _⟩ <;> rfl
  have hl : lenMapA S m = some (.int .i64 R.length) := by
    rcases hm with ⟨rfl, rfl⟩ | ⟨mid, rfl, hne, hmid⟩
    · rfl
    · simp [lenMapA, objMap, hmid]
  have hx1 : IntKind.i64.wrap (x + 1) = x + 1 := wrap64 (by omega) (by omega)
  by_cases ca : a = 0
  case neg =>
    have : 0 < a := by omega
    have := hno (fun h => ca h.1)
    simp [*]
  by_cases cw : w = 0
  case neg =>
    have := hno (fun h => cw h.2.1)
    simp [loadA_ptr hid, *]
  by_cases cr : R = []
  case neg =>
    have := hno (fun h => cr h.2.2)
    have h0 : 0 < R.length := List.length_pos_iff.2 cr
    simp [loadA_ptr hid, hms, hl, h0, *]
  subst ca cw cr
  obtain ⟨y, Wt, rfl⟩ : ∃ y l, Wt = y :: l := by
    cases Wt with
    | nil => exact (hne rfl).elim
    | cons y l => exact ⟨y, l, rfl⟩
  have hr : r ≠ .nil := fun e => hne (h1 e)
  have hcut : cutA T3 (.vs 1 ((y :: Wt).map wInt) r) (some (.int .i64 1)) none none = some (.vs 1 (Wt.map wInt) r) := by
    have : (1 : Int) ≤ (Wt.length : Int) + 1 := by omega
    simp [cutA, bnd, hr, this, List.take_of_length_le]
  have e1 : (S.set id (Obj.cells [m, .int .i64 0, .vs 1 ((y :: Wt).map wInt) r.strip]))[id]? = some (.cells [m, .int .i64 0, .vs 1 ((y :: Wt).map wInt) r.strip]) := getSet_self hid
  simp only [joinK_eq, strip_int, binA_gtr, gt_iff_lt, Int.lt_irrefl, decide_false, optK_some', strip_bool, ifK_false, strip_ptr, nilA_ptr, movePtr_ptr, loadA_ptr hid, readT, T3_agg, T24_agg, T25_agg, Bool.false_eq_true, if_false, Nat.zero_add, List.getElem?_cons_succ, List.getElem?_cons_zero, binA_neq, ne_eq, not_true_eq_false, pickA_false, hms, hl, List.length_nil, Int.natCast_zero, strip0_vs, hcut, stripMem_ptr hid, List.modify_succ_cons, List.modify_zero_cons, strip1_vs]
  rw [storeA_ptr e1]
  simp only [storeCellsA, T25_size, free_vs, cells_vs, List.length_cons, List.length_nil, Nat.zero_add, Nat.reduceAdd, Nat.le_refl, and_self, if_true, writeAt, List.take, List.drop, List.cons_append, List.nil_append, Option.map_some, optK_some', List.set_set, binA_add, hx1]
  rw [storeA_ptr (getSet_self hid)]
  simp only [storeCellsA, T3_size, free_int, cells_int, List.length_cons, List.length_nil, Nat.zero_add, Nat.reduceAdd, Nat.le_refl, and_self, if_true, writeAt, List.take, List.drop, List.cons_append, List.nil_append, Option.map_some, optK_some', List.set_set, true_and]
  refine hyes rfl rfl rfl _ ⟨m, r, getSet_self hid, fun e => (hr e).elim, h2, ?_⟩
  rcases hm with ⟨rfl, _⟩ | ⟨mid, rfl, hne, hmid⟩
  · exact .inl ⟨rfl, rfl⟩
  · exact .inr ⟨mid, rfl, hne, by rw [getSet_other (Ne.symm hne)]; exact hmid⟩
theorem f13 {w0 : World} {S : St} {id : Nat} {R Wt : List Int} {w x : Int} (h : GS S id R w Wt) (hx : 0 ≤ x ∧ x < 1000000) (hw : 0 ≤ w) (hlen : Wt.length < 100000)
    {Q : AV → St → Prop} (q0 : (x ∈ R ∨ w = x + 1) → Q (.bool false) S) (q1 : ¬ (x ∈ R ∨ w = x + 1) → okWrite R Wt w x = false → ∀ S', GS S' id R w (addW Wt x) → Q (.bool false) S')
    (q2 : ¬ (x ∈ R ∨ w = x + 1) → okWrite R Wt w x = true → ∀ S', GS S' id [] (x + 1) (addW Wt x).tail → Q (.bool true) S') :
    AC w0 13 [.ptr id 0, .int .i64 x] S Q := by
  apply G13_ok
  unfold G13
  simp only [callK_def, argsA, List.all_cons, free_ptr, free_int, List.all_nil, Bool.and_self, if_true, List.map_cons, List.map_nil, strip_ptr, strip_int, optK_some']
  refine AC_mono (f20 h hx) ?_
  rintro r1 S1 ⟨hS, rfl⟩
  rw [hS]
  by_cases ci : x ∈ R ∨ w = x + 1
  · simpa [ci] using q0 ci
  simp only [ci, decide_false, ifK_false]
  refine AC_mono (f35 h (by omega)) ?_
  rintro r2 S2 ⟨hS2, rfl⟩
  rw [hS2]
  obtain ⟨m, r, hid, h1, h2, hm⟩ := h.ex
  rw [joinK_eq]
  rcases placeOf_spec x Wt 0 with ⟨hn, hp⟩ | ⟨j, hj, hp, hjx, hjm⟩
  · -- one more who waits
    rw [hp]
    have e1 : (S.set id (Obj.cells [m, .int .i64 w, .vs 1 (Wt.map wInt) r.strip]))[id]? = some (.cells [m, .int .i64 w, .vs 1 (Wt.map wInt) r.strip]) := getSet_self hid
    have ha : appendA T3 (S.set id (Obj.cells [m, .int .i64 w, .vs 1 (Wt.map wInt) r.strip])) (.vs 1 (Wt.map wInt) r) (.vs 1 [[.int .i64 x]] .full) = some (.vs 1 ((Wt ++ [x]).map wInt) .own) := by
      have : Wt.length + 1 ≤ lim := by unfold lim; omega
      simp [appendA, elemsA, h2, this, wInt]
    simp only [binA_lss, show decide ((-1 : Int) < 0) = true from rfl, optK_some', ifK_true, nilA_ptr, movePtr_ptr, loadA_ptr hid, readT, T25_agg, Bool.false_eq_true, if_false, Nat.zero_add, List.getElem?_cons_succ, List.getElem?_cons_zero, strip_vs, lenSlA_vs, List.length_map,
      elemVals, free_int, cells_int, List.length_cons, List.length_nil, and_self, if_true, Option.map_some, strip_int, stripMem_ptr hid, List.modify_succ_cons, List.modify_zero_cons, strip1_vs, strip0_vs, ha]
    rw [storeA_ptr e1]
    simp only [storeCellsA, T25_size, free_vs, cells_vs, List.length_cons, List.length_nil, Nat.zero_add, Nat.reduceAdd, Nat.le_refl, and_self, if_true, writeAt, List.take, List.drop, List.cons_append, List.nil_append, Option.map_some, optK_some', List.set_set]
    have hadd : addW Wt x = Wt ++ [x] := by simp [addW, hn]
    have hg : GS (S.set id (Obj.cells [m, .int .i64 w, .vs 1 ((Wt ++ [x]).map wInt) .own])) id R w (Wt ++ [x]) := by
      refine ⟨m, .own, getSet_self hid, by simp, by simp, ?_⟩
      rcases hm with ⟨rfl, h⟩ | ⟨mid, rfl, hne, hmid⟩
      · exact .inl ⟨rfl, h⟩
      · exact .inr ⟨mid, rfl, hne, by rw [getSet_other (Ne.symm hne)]; exact hmid⟩
    have hhd : (Wt ++ [x]).head? = some x ↔ (Wt.length : Int) = 0 := by
      cases Wt with
      | nil => simp
      | cons y l =>
        simp only [List.mem_cons, not_or] at hn
        simp [Ne.symm hn.1]
        omega
    have t := f13_tail (a := Wt.length) (Q := Q) hg hx hw (by omega) (by simp) (fun hno => q1 ci (by
        simp only [okWrite, hadd, hhd, decide_eq_false_iff_not]
        exact hno) _ (by rw [hadd]; exact hg)) (fun e1 e2 e3 S' hg' => q2 ci (by
        simp only [okWrite, hadd, hhd, decide_eq_true_eq]
        exact ⟨e1, e2, e3⟩) _ (by rw [hadd]; exact hg'))
    simpa using t
  · rw [hp]
    have hin : x ∈ Wt := List.mem_of_getElem? hjx
    have hadd : addW Wt x = Wt := by simp [addW, hin]
    have hneg : ¬ (((0 + j : Nat) : Int) < 0) := by omega
    simp only [strip_int, binA_lss, hneg, decide_false, optK_some', ifK_false]
    have hne : Wt ≠ [] := fun e => by rw [e] at hin; simp at hin
    have hhd : Wt.head? = some x ↔ ((0 + j : Nat) : Int) = 0 := by
      constructor
      · intro e
        cases j with
        | zero => rfl
        | succ j => exact (hjm 0 (by omega) (by rw [← List.head?_eq_getElem?]; exact e)).elim
      · intro e
        have : j = 0 := by omega
        subst this
        rw [List.head?_eq_getElem?]; exact hjx
    have t := f13_tail (a := ((0 + j : Nat) : Int)) (Q := Q) h hx hw (by omega) hne (fun hno => q1 ci (by
        simp only [okWrite, hadd, hhd, decide_eq_false_iff_not]
        exact hno) _ (by rw [hadd]; exact h)) (fun e1 e2 e3 S' hg' => q2 ci (by
        simp only [okWrite, hadd, hhd, decide_eq_true_eq]
        exact ⟨e1, e2, e3⟩) _ (by rw [hadd]; exact hg'))
    simpa using t

theorem map_eraseIdx {α β : Type} (f : α → β) : ∀ (l : List α) (j : Nat), (l.map f).eraseIdx j = (l.eraseIdx j).map f
  | [], _ => rfl
  | _ :: _, 0 => rfl
  | a :: l, j + 1 => by simp [map_eraseIdx f l j]
theorem erase_of_first {l : List Int} {x : Int} {j : Nat} (h : l[j]? = some x) (hf : ∀ m, m < j → l[m]? ≠ some x) : l.eraseIdx j = l.erase x := by
  induction l generalizing j with
  | nil => simp at h
  | cons y l ih =>
    cases j with
    | zero => simp at h; subst h; simp
    | succ j =>
      have hy : y ≠ x := by simpa using hf 0 (by omega)
      rw [List.eraseIdx_cons_succ, List.erase_cons_tail (by simpa using hy), ih (by simpa using h) fun m hm => by simpa using hf (m + 1) (by omega)]
/-- Leave. -/
theorem f15 {w0 : World} {S : St} {id : Nat} {R Wt : List Int} {w x : Int} (h : GS S id R w Wt) (hx : 0 ≤ x ∧ x < 1000000)
    {Q : AV → St → Prop} (q0 : ¬ (x ∈ R ∨ w = x + 1) → Q (.bool false) S) (q1 : (x ∈ R ∨ w = x + 1) → ∀ S', GS S' id (R.erase x) (if w = x + 1 then 0 else w) Wt → Q (.bool true) S') :
    AC w0 15 [.ptr id 0, .int .i64 x] S Q := by
  apply G15_ok
  unfold G15
  simp only [callK_def, argsA, List.all_cons, free_ptr, free_int, List.all_nil, Bool.and_self, if_true, List.map_cons, List.map_nil, strip_ptr, strip_int, optK_some']
  refine AC_mono (f20 h hx) ?_
  rintro r1 S1 ⟨hS, rfl⟩
  rw [hS]
  by_cases ci : x ∈ R ∨ w = x + 1
  case neg => simpa [ci] using q0 ci
  obtain ⟨m, r, hid, h1, h2, hm⟩ := h.ex
  have hms : AV.strip m = m := by rcases hm with ⟨rfl, _⟩ | ⟨mid, rfl, _⟩ <;> rfl
  have hx1 : IntKind.i64.wrap (x + 1) = x + 1 := wrap64 (by omega) (by omega)
  -- the readers
  have hdel : ∃ S2, deleteA .int S m (.int .i64 x) = some S2 ∧ S2[id]? = S[id]? ∧ ((m = .map none ∧ R.erase x = []) ∨ ∃ mid, m = .map (some mid) ∧ mid ≠ id ∧ S2[mid]? = some (.map ((R.erase x).map fun x => (.int .i64 x, .agg [])))) := by
    rcases hm with ⟨rfl, rfl⟩ | ⟨mid, rfl, hne, hmid⟩
    · exact ⟨S, rfl, rfl, .inl ⟨rfl, rfl⟩⟩
    · obtain ⟨r', k1, k2, k3⟩ := findA_ints x R 0
      cases r' with
      | none =>
        have hnx : x ∉ R := by simpa using k2
        exact ⟨S, deleteA_none hmid rfl k1, rfl, .inr ⟨mid, rfl, hne, by rw [List.erase_of_not_mem hnx]; exact hmid⟩⟩
      | some p =>
        obtain ⟨i, v⟩ := p
        obtain ⟨rfl, j, hj, hjx, hjm⟩ := k3 i v rfl
        refine ⟨_, deleteA_some hmid rfl k1, getSet_other hne, .inr ⟨mid, rfl, hne, ?_⟩⟩
        rw [getSet_self hmid, hj, ← erase_of_first hjx hjm]
        simp [map_eraseIdx]
  obtain ⟨S2, e1, e2, e3⟩ := hdel
  have hid2 := e2.trans hid
  by_cases cw : w = x + 1
  · subst cw
    simp [loadA_ptr hid, hms, e1, loadA_ptr hid2, hx1]
    rw [storeA_ptr hid2]
    simp
    refine q1 ci _ ⟨m, r, by rw [if_pos rfl]; exact getSet_self hid2, h1, h2, ?_⟩
    rcases e3 with e3 | ⟨mid, k1, k2, k3⟩
    · exact .inl e3
    · exact .inr ⟨mid, k1, k2, by rw [getSet_other (Ne.symm k2)]; exact k3⟩
  · have ci' : x ∈ R := ci.resolve_right cw
    simp [loadA_ptr hid, hms, e1, loadA_ptr hid2, hx1, cw, ci']
    exact q1 ci _ ⟨m, r, by rw [if_neg cw]; exact hid2, h1, h2, e3⟩
end Go.Av
