/- Parts of the proofs of this seat: abstract values over the model, and what the functions of the program do. No condition. -/
import Derived.Test.YtcmiahkfbnojnaaX09
set_option linter.all false
set_option linter.unusedVariables false
/-! First; the document's Merge. -/
namespace Go.Av
open Go.Proofs
/-- The first one of each name. -/
def firstL : Option Str → List Item → List Item
  | _, [] => []
  | p, x :: l => if p = some x.name then firstL (some x.name) l else x :: firstL (some x.name) l
def prevN (l : List Item) (i : Nat) : Option Str := if i = 0 then none else (l[i - 1]?).map (·.name)
theorem firstL_len : ∀ (p : Option Str) (l : List Item), (firstL p l).length ≤ l.length
  | _, [] => by simp [firstL]
  | p, x :: l => by
    have := firstL_len (some x.name) l
    simp only [firstL]
    split <;> simp <;> omega
theorem heap_First_A {w0 : World} {S : St} {l : List Item} {r : Rt} (hl : l.length ≤ 100000000) {Q : AV → St → Prop}
    (hq : ∀ r, (r = .nil ∧ l = [] ∨ r = .none) → Q (.vs 2 ((firstL none l).map Item.c) r) S) : AC w0 F_heap_First [.vs 2 (l.map Item.c) r] S Q := by
  apply heap_First_ok
  unfold G_heap_First
  simp
  rw [joinK_eq]
  refine loop_list l (fun i (s : List Item × Rt) => ([.vs 2 (s.1.map Item.c) s.2, .int .i64 i], [])) (fun i s S' => S' = S ∧ s.1 ++ firstL (prevN l i) (l.drop i) = firstL none l ∧ s.1.length ≤ i ∧ (s.2 = .nil ∧ i = 0 ∨ ∃ t, s.2 = .own t)) ([], .nil) (by simp) ⟨rfl, by simp [prevN], by simp, .inl ⟨rfl, rfl⟩⟩ ?_ ?_
  · rintro i ⟨out, r1⟩ S' v b x c hxi hd hc hm ⟨rfl, ho, hol, hr⟩ hv
    simp at hv ho hol hr
    have hr1 : r1 ≠ .none ∧ (r1 = .nil ∨ True) := by rcases hr with ⟨rfl, _⟩ | ⟨t, rfl⟩ <;> simp
    have hlim : out.length + 1 ≤ lim := by unfold lim; omega
    have hpn : prevN l (i + 1) = some x.name := by simp [prevN, hxi]
    simp [hv, hc, hxi]
    refine joinK_gen (fun j => ∀ (o2 : List Item) (t : Nat), o2 ++ firstL (some x.name) (l.drop (i + 1)) = firstL none l → o2.length ≤ i + 1 → j (.vs 2 (o2.map Item.c) (.own t))) (fun o2 t h1 h2 => ?_) (fun j hj => ?_)
    · try simp (disch := omega) only [wrap64]
      exact .next c (o2, .own t) rfl ⟨rfl, by rw [hpn]; exact h1, h2, .inr ⟨t, rfl⟩⟩
    have app : firstL (prevN l i) (l.drop i) = x :: firstL (some x.name) (l.drop (i + 1)) → j (.vs 2 (out.map Item.c ++ [[.str x.name, .int .i64 x.row]]) (.own (rowTy T_heap_Item r1))) := fun e => by
      rw [e] at ho
      have := hj (out ++ [x]) (rowTy T_heap_Item r1) (by simpa using ho) (by simp; omega)
      simpa using this
    cases i with
    | zero =>
      simp [joinK_eq, appendA, elemsA, hr1.1, hlim]
      refine app ?_
      rw [hd]; simp [prevN, firstL]
    | succ i =>
      obtain ⟨y, hyi⟩ : ∃ y, l[i]? = some y := ⟨l[i]'(by omega), by simp⟩
      have e0 : ¬ ((i : Int) + 1 = 0) := by omega
      have hp : prevN l (i + 1) = some y.name := by simp [prevN, hyi]
      simp [e0, hyi]
      try simp (disch := omega) only [wrap64]
      simp [hyi]
      by_cases cn : y.name = x.name
      · rcases hr with ⟨_, h⟩ | ⟨t, rfl⟩
        · omega
        simp [cn]
        refine hj out t ?_ (by omega)
        rw [hd, hp] at ho
        simpa [firstL, cn] using ho
      · simp [cn, appendA, elemsA, hr1.1, hlim]
        refine app ?_
        rw [hd, hp]
        simp [firstL, cn]
  · rintro ⟨out, r1⟩ S' v b ⟨rfl, ho, hol, hr⟩ hv N
    simp at hv ho hr
    simp [hv]
    simp [firstL] at ho
    rw [← ho] at hq
    refine hq _ ?_
    rcases hr with ⟨rfl, h⟩ | ⟨t, rfl⟩
    · exact .inl ⟨rfl, h⟩
    · exact .inr rfl
/-- What is left of rows. -/
def remS (rows : List Ss) (a : List Nat) : List Ss := List.zipWith (fun x k => ⟨x.l.drop k, x.r⟩) rows a
theorem remS_get {rows : List Ss} {a : List Nat} {i k : Nat} {x : Ss} (h : rows[i]? = some x) (ha : a[i]? = some k) : (remS rows a)[i]? = some ⟨x.l.drop k, x.r⟩ := by simp [remS, List.getElem?_zipWith, h, ha]
theorem remS_set {rows : List Ss} {a : List Nat} {i k : Nat} {x : Ss} (h : rows[i]? = some x) (ha : a[i]? = some k) : remS rows (a.set i (k + 1)) = tailS (remS rows a) i := by
  simp only [tailS, remS_get h ha]
  apply List.ext_getElem?
  intro m
  by_cases e : i = m
  · subst e
    have h1 : (a.set i (k + 1))[i]? = some (k + 1) := by simp [(List.getElem?_eq_some_iff.1 ha).1]
    rw [remS_get h h1, List.getElem?_set_self (List.getElem?_eq_some_iff.1 (remS_get h ha)).1]
    simp
  · rw [List.getElem?_set_ne e]
    simp [remS, List.getElem?_zipWith, List.getElem?_set_ne e]
theorem totS_tail {rs : List Ss} {j : Nat} {x : Ss} {s : Str} {t : List Str} (h : rs[j]? = some x) (hx : x.l = s :: t) : totS (tailS rs j) + 1 = totS rs := by
  have hj := (List.getElem?_eq_some_iff.1 h).1
  simp only [tailS, h, hx, List.tail_cons]
  have e1 : rs = rs.take j ++ x :: rs.drop (j + 1) := by
    conv => lhs; rw [← List.take_append_drop j rs, List.drop_eq_getElem_cons hj, (List.getElem?_eq_some_iff.1 h).2]
  have e2 : rs.set j ⟨t, x.r⟩ = rs.take j ++ ⟨t, x.r⟩ :: rs.drop (j + 1) := by
    conv => lhs; rw [e1]
    rw [List.set_append_right _ _ (by simp; omega)]
    simp only [List.length_take, Nat.min_eq_left (Nat.le_of_lt hj), Nat.sub_self, List.set_cons_zero]
  rw [e2]
  conv => rhs; rw [e1]
  simp [totS, hx]
  omega
theorem mergeS_none {f : Nat} {rs : List Ss} (h : bestG 0 none rs = none) : mergeS f rs = [] := by
  cases f <;> simp [mergeS, h]
@[simp] def wNat (k : Nat) : List AV := [.int .i64 k]
theorem wNat_len (k : Nat) : (wNat k).length = 1 := rfl
theorem ref09_Merge_A {w0 : World} {S : St} {rows : List Ss} {r : Rt} (hl : rows.length ≤ 100000) (ht : totS rows ≤ 10000000) (hs : ∀ x ∈ rows, x.l.length ≤ 1048576 ∧ ∀ s ∈ x.l, s.length ≤ 1048576) {Q : AV → St → Prop}
    (hq : ∀ S' r, Sx S S' → r ≠ .nil → Q (.vs 2 ((mergeS (totS rows) rows).map Item.c) r) S') : AC w0 F_ref09_Merge [.vs 1 (rows.map Ss.c) r] S Q := by
  apply ref09_Merge_ok
  unfold G_ref09_Merge
  simp
  -- the counters
  have hmk : ∃ A S1, makeSliceA T_int false S (.int .i64 (rows.length : Int)) (.int .i64 (rows.length : Int)) = some (A, S1) ∧ Sx S S1 ∧ (rows = [] ∨ (A = .rs 1 S.length 0 rows.length ∧ S1[S.length]? = some (.cells (flatE wNat (List.replicate rows.length 0) ++ []) 0))) := by
    have hlim : (rows.length : Int) ≤ lim := by unfold lim; omega
    by_cases c : rows = []
    · subst c
      exact ⟨.vs 1 [] (.own t_int), S, by simp [makeSliceA], .refl _, .inl rfl⟩
    · refine ⟨.rs 1 S.length 0 rows.length, S ++ [.cells (List.replicate rows.length [.int .i64 0]).flatten 0], by simp [makeSliceA, hlim, c], .app _ _, .inr ⟨rfl, ?_⟩⟩
      have : ∀ n, (List.replicate n [AV.int .i64 0]).flatten = flatE wNat (List.replicate n 0) := by
        intro n
        induction n with
        | zero => rfl
        | succ n ih => simp only [List.replicate_succ, List.flatten_cons, ih]; rfl
      rw [← this]
      simp
  obtain ⟨A, S1, e1, hx1, hA⟩ := hmk
  simp [e1]
  refine loopQ_by (fun k : List Item × Rt × List Nat => ([.vs 2 (k.1.map Item.c) k.2.1], [])) (fun m k S' => Sx S S' ∧ (rows = [] ∨ S'[S.length]? = some (.cells (flatE wNat k.2.2 ++ []) 0)) ∧ k.2.2.length = rows.length ∧ (k.2.1 = .full ∨ ∃ t, k.2.1 = .own t) ∧ m = totS (remS rows k.2.2) ∧
    k.1 ++ mergeS m (remS rows k.2.2) = mergeS (totS rows) rows ∧ k.1.length + m = totS rows ∧ ∀ (i : Nat) (k' : Nat) (x : Ss), k.2.2[i]? = some k' → rows[i]? = some x → k' ≤ x.l.length) (totS rows) ([], .full, List.replicate rows.length 0) (by simp) ?_ ?_
  · have : remS rows (List.replicate rows.length 0) = rows := by
      apply List.ext_getElem?
      intro i
      simp only [remS, List.getElem?_zipWith, List.getElem?_replicate]
      by_cases c : i < rows.length
      · simp [c]
      · simp [c]
    refine ⟨hx1, hA.imp _root_.id (·.2), by simp, .inl rfl, by rw [this], by rw [this]; rfl, by simp, fun i k' x h1 h2 => ?_⟩
    simp only [List.getElem?_replicate] at h1
    split at h1
    · cases h1; omega
    · cases h1
  rintro m ⟨out, r1, a⟩ S' v b ⟨hx, hAo, hal, hr, rfl, ho, hm, hle⟩ hv
  simp only at hx hAo hal hr ho hm hle
  simp at hv
  simp [hv]
  have hrs : ∀ (i : Nat) (x : Ss), rows[i]? = some x → ∃ k : Nat, a[i]? = some k ∧ (remS rows a)[i]? = some ⟨x.l.drop k, x.r⟩ ∧ k ≤ x.l.length := fun i x hx => by
    have hi := (List.getElem?_eq_some_iff.1 hx).1
    exact ⟨a[i]'(by omega), by simp, remS_get hx (by simp), hle i _ x (by simp) hx⟩
  have hmem : ∀ (i : Nat) (x : Ss), rows[i]? = some x → x.l.length ≤ 1048576 ∧ ∀ s ∈ x.l, s.length ≤ 1048576 := fun i x hx => hs x (List.mem_of_getElem? hx)
  have hld : ∀ (i k : Nat), a[i]? = some k → rows ≠ [] → loadA T_int S' (.ptr S.length i) = some (.int .i64 k) := fun i k hk hne => by
    have := row_cell (T := T_int) (n := 1) (hAo.resolve_left hne) rfl wNat_len hk (k := 0) (by omega)
    simpa using this
  have hrr : r1 ≠ .nil ∧ r1 ≠ .none := by rcases hr with rfl | ⟨t, rfl⟩ <;> simp
  refine joinK_gen (fun j => ∀ bst : Option (Nat × Str), bestG 0 none (remS rows a) = bst → j (.int .i64 (match bst with | none => -1 | some p => (p.1 : Int))) S') (fun bst hb => ?_) (fun j4 hj4 => ?_)
  · cases bst with
    | none =>
      simp
      rw [mergeS_none hb] at ho
      simp at ho
      subst ho
      refine hq S' _ hx ?_
      rcases hr with rfl | ⟨t, rfl⟩ <;> simp
    | some p =>
      obtain ⟨j, s⟩ := p
      obtain ⟨c1, _, _⟩ := (bestG_spec (remS rows a) 0 none (fun _ _ e => by cases e)).2 j s hb
      rcases c1 with c1 | ⟨k', r', tl', f1, f2, f3⟩
      · cases c1
      have f3 : j = k' := by omega
      subst f3
      have hjl : j < rows.length := by
        have := (List.getElem?_eq_some_iff.1 f1).1
        simp [remS] at this; omega
      obtain ⟨x, hxj⟩ : ∃ x, rows[j]? = some x := ⟨rows[j], by simp [hjl]⟩
      obtain ⟨k, g1, g2, g3⟩ := hrs j x hxj
      rw [g2] at f1
      cases f1
      simp only at f2
      have hne : rows ≠ [] := fun e => by rw [e] at hjl; simp at hjl
      have hxk : x.l[k]? = some s := by
        have : (x.l.drop k)[0]? = some s := by rw [f2]; rfl
        simpa using this
      have hkl := (List.getElem?_eq_some_iff.1 hxk).1
      have ht1 := totS_tail g2 f2
      have hlim : out.length + 1 ≤ lim := by unfold lim; omega
      have hAA := hA.resolve_left hne
      have st := row_store (T := T_int) (n := 1) (k + 1) (hAo.resolve_left hne) rfl wNat_len g1 (v := .int .i64 ((k + 1 : Nat) : Int)) rfl rfl
      simp at st
      have gx : rows[j] = x := (List.getElem?_eq_some_iff.1 hxj).2
      simp [hjl, gx, hAA.1, hld j k g1 hne, hxk, appendA, elemsA, hrr.2, hlim]
      rw [wrap64 (by have := (hmem j x hxj).1; omega) (by have := (hmem j x hxj).1; omega)]
      simp [st]
      refine ⟨totS (tailS (remS rows a) j), (out ++ [⟨s, j⟩], .own (rowTy T_socageref09_Item r1), a.set j (k + 1)), by omega, by simp, fun q hq => (getSet_other (by omega)).trans (hx q hq), .inr (by rw [getSet_self (hAo.resolve_left hne)]), by simpa using hal, .inr ⟨_, rfl⟩, by rw [remS_set hxj g1], ?_, by simp; omega, fun i k2 x2 h1 h2 => ?_⟩
      · rw [remS_set hxj g1, ← ho, ← ht1]
        simp only [mergeS, hb]
        simp
      · rw [List.getElem?_set] at h1
        split at h1
        · rename_i e
          subst e
          rw [hxj] at h2; cases h2
          split at h1
          · cases h1; omega
          · cases h1
        · exact hle i k2 x2 h1 h2
  · refine loop_list rows (fun i (bst : Option (Nat × Str)) => ([.int .i64 (match bst with | none => -1 | some p => (p.1 : Int)), .int .i64 i], [])) (fun i bst S2 => S2 = S' ∧ bestG 0 none (remS rows a) = bestG i bst ((remS rows a).drop i) ∧ ∀ j t, bst = some (j, t) → ∃ k x, rows[j]? = some x ∧ a[j]? = some k ∧ x.l[k]? = some t) none rfl ⟨rfl, rfl, by simp⟩ ?_ ?_
    · rintro i bst S2 v2 b2 x c hxi hd hc hm2 ⟨rfl, hb, hbt⟩ hv2
      simp at hv2
      obtain ⟨k, g1, g2, g3⟩ := hrs i x hxi
      have hne : rows ≠ [] := fun e => by rw [e] at c; simp at c
      have hAA := hA.resolve_left hne
      have hil : i < (remS rows a).length := (List.getElem?_eq_some_iff.1 g2).1
      have hdr : (remS rows a).drop i = ⟨x.l.drop k, x.r⟩ :: (remS rows a).drop (i + 1) := by
        rw [List.drop_eq_getElem_cons hil, (List.getElem?_eq_some_iff.1 g2).2]
      rw [hdr, bestG] at hb
      have gx : rows[i] = x := (List.getElem?_eq_some_iff.1 hxi).2
      simp [hv2, c, gx, hAA.1, hld i k g1 hne]
      have nxt : ∀ b2 : Option (Nat × Str), bestG 0 none (remS rows a) = bestG (i + 1) b2 ((remS rows a).drop (i + 1)) → (∀ j t, b2 = some (j, t) → ∃ k x, rows[j]? = some x ∧ a[j]? = some k ∧ x.l[k]? = some t) → Nl (fun i (bst : Option (Nat × Str)) => ([.int .i64 (match bst with | none => -1 | some p => (p.1 : Int)), .int .i64 i], [])) (fun i bst S' => S' = S2 ∧ bestG 0 none (remS rows a) = bestG i bst ((remS rows a).drop i) ∧ ∀ j t, bst = some (j, t) → ∃ k x, rows[j]? = some x ∧ a[j]? = some k ∧ x.l[k]? = some t) rows.length i ([.int .i64 (match b2 with | none => -1 | some p => (p.1 : Int)), .int .i64 (IntKind.i64.wrap (i + 1))], []) S2 := fun b2 h1 h2 => by
        rw [wrap64 (by omega) (by omega)]
        exact .next c b2 rfl ⟨rfl, h1, h2⟩
      by_cases hk : k < x.l.length
      case neg =>
        have hnil : x.l.drop k = [] := by simp; omega
        rw [hnil] at hb
        simp [hk, joinK_eq]
        exact nxt bst hb hbt
      obtain ⟨s, hsk, hsd, _, hsm⟩ := at_lt hk
      rw [hsd] at hb
      simp [hk]
      cases bst with
      | none =>
        simp [joinK_eq]
        exact nxt (some (i, s)) hb (fun j t e => by cases e; exact ⟨k, x, hxi, g1, hsk⟩)
      | some p =>
        obtain ⟨j0, t0⟩ := p
        obtain ⟨kk, y, q1, q2, q3⟩ := hbt j0 t0 rfl
        have hjl : j0 < rows.length := (List.getElem?_eq_some_iff.1 q1).1
        have htm := List.mem_of_getElem? q3
        have e0 : ¬ ((j0 : Int) < 0) := by omega
        simp only at hb
        have gs : x.l[k] = s := (List.getElem?_eq_some_iff.1 hsk).2
        have gy : rows[j0] = y := (List.getElem?_eq_some_iff.1 q1).2
        simp [hsk, gs, gy, q2, q3, hjl, hld j0 kk q2 hne, e0]
        have := (hmem i x hxi).2 s hsm
        have := (hmem j0 y q1).2 t0 htm
        simp only [joinK_eq]
        refine ref01_Less_A (by omega) (by omega) ?_
        by_cases cl : slt s t0 = true
        · rw [if_pos cl] at hb
          simp [cl]
          exact nxt (some (i, s)) hb (fun j t e => by cases e; exact ⟨k, x, hxi, g1, hsk⟩)
        · rw [if_neg cl] at hb
          simp [cl]
          exact nxt (some (j0, t0)) hb hbt
    · rintro bst S2 v2 b2 ⟨rfl, hb, hbt⟩ hv2 N
      simp at hv2
      simp [hv2]
      refine hj4 _ ?_
      rw [hb]
      have : (remS rows a).drop rows.length = [] := by simp [remS]; omega
      rw [this]; rfl
end Go.Av
