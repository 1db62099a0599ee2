/- Parts of the proofs of this seat: abstract values over the model, and what the functions of the program do. No condition. -/
import Derived.Test.YtcmiahkfbnojnaaDRow
import Derived.Test.YtcmiahkfbnojnaaDStr
set_option linter.all false
set_option linter.unusedVariables false
/-! The heap of heads: as functions on lists, and that the least one comes first. -/
namespace Go.Av
/-- The head of a row: its name, its row, what is behind it. -/
structure Hd where
  name : Str
  row : Int
  rest : Ss
  deriving DecidableEq
@[simp] def Hd.c (x : Hd) : List AV := [.str x.name, .int .i64 x.row, x.rest.v]
theorem Hd.cl (x : Hd) : x.c.length = 3 := rfl
instance : Inhabited Hd := ⟨⟨[], 0, ⟨[], .none⟩⟩⟩
def Hd.lt (a b : Hd) : Bool := if a.name = b.name then decide (a.row < b.row) else slt a.name b.name
/-- The head at a place. -/
def hat (hs : List Hd) (i : Nat) : Hd := hs.getD i default
theorem hat_some {hs : List Hd} {i : Nat} {x : Hd} (h : hs[i]? = some x) : hat hs i = x := by simp [hat, List.getD_eq_getElem?_getD, h]
def swapL (hs : List Hd) (i k : Nat) : List Hd := (hs.set i (hat hs k)).set k (hat hs i)
/-- down, as a function. -/
def downL (n : Nat) : Nat → Nat → List Hd → List Hd × Nat
  | 0, i, hs => (hs, i)
  | f + 1, i, hs =>
    if 2 * i + 1 ≥ n then (hs, i) else
      let j := if 2 * i + 1 + 1 < n ∧ (hat hs (2 * i + 1 + 1)).lt (hat hs (2 * i + 1)) = true then 2 * i + 1 + 1 else 2 * i + 1
      if (hat hs j).lt (hat hs i) = true then downL n f j (swapL hs i j) else (hs, i)
theorem swapL_len (hs : List Hd) (i k : Nat) : (swapL hs i k).length = hs.length := by simp [swapL]
theorem getD_some {hs : List Hd} {i : Nat} (h : i < hs.length) : hs[i]? = some (hat hs i) := by simp [hat, List.getD_eq_getElem?_getD, h]
theorem downL_len (n : Nat) : ∀ (f i : Nat) (hs : List Hd), (downL n f i hs).1.length = hs.length
  | 0, i, hs => rfl
  | f + 1, i, hs => by
    simp only [downL]
    repeat' split
    all_goals first | rfl | (rw [downL_len n f, swapL_len])
/-- Init, as a function. -/
def initL (n : Nat) : Nat → List Hd → List Hd
  | 0, hs => hs
  | i + 1, hs => initL n i (downL n n i hs).1
def popL (hs : List Hd) : List Hd := (downL (hs.length - 1) (hs.length - 1) 0 (swapL hs 0 (hs.length - 1))).1.dropLast

theorem swapL_perm {hs : List Hd} {i k : Nat} (hi : i < hs.length) (hk : k < hs.length) : (swapL hs i k).Perm hs := by
  rw [List.perm_iff_count]
  intro a
  have e1 := getD_some hi
  have e2 := getD_some hk
  have h1 : hs[i] = hat hs i := by rw [List.getElem?_eq_getElem hi] at e1; exact Option.some.inj e1
  have h2 : hs[k] = hat hs k := by rw [List.getElem?_eq_getElem hk] at e2; exact Option.some.inj e2
  have c1 : hat hs i = a → 0 < hs.count a := fun e => List.count_pos_iff.2 (e ▸ List.mem_of_getElem? e1)
  have c2 : hat hs k = a → 0 < hs.count a := fun e => List.count_pos_iff.2 (e ▸ List.mem_of_getElem? e2)
  unfold swapL
  rw [List.count_set (by simpa using hk), List.count_set hi, List.getElem_set, h1, h2]
  by_cases k1 : hat hs i = a <;> by_cases k2 : hat hs k = a <;> by_cases e : i = k <;> simp [k1, k2, e] at c1 c2 ⊢ <;> (try subst e) <;> (try simp_all) <;> omega
theorem swapL_hat {hs : List Hd} {i k j : Nat} (hi : i < hs.length) (hk : k < hs.length) : hat (swapL hs i k) j = if j = k then hat hs i else if j = i then hat hs k else hat hs j := by
  unfold swapL hat
  simp only [List.getD_eq_getElem?_getD, List.getElem?_set, List.length_set]
  by_cases e1 : k = j
  · subst e1; simp [hk]
  · by_cases e2 : i = j
    · subst e2; simp [e1, hi, Ne.symm e1]
    · simp [e1, e2, Ne.symm e1, Ne.symm e2]
theorem downL_perm {n : Nat} : ∀ (f i : Nat) (hs : List Hd), n ≤ hs.length → i < hs.length → (downL n f i hs).1.Perm hs
  | 0, i, hs, _, _ => .refl _
  | f + 1, i, hs, hn, hi => by
    have : ∀ j, j < n → (downL n f j (swapL hs i j)).1.Perm hs := fun j hj => (downL_perm f j (swapL hs i j) (by rw [swapL_len]; exact hn) (by rw [swapL_len]; omega)).trans (swapL_perm hi (by omega))
    simp only [downL]
    repeat' split
    all_goals first | exact .refl _ | exact this _ (by omega)
theorem downL_keep {n : Nat} : ∀ (f i : Nat) (hs : List Hd) (j : Nat), n ≤ hs.length → i < n → n ≤ j → hat (downL n f i hs).1 j = hat hs j
  | 0, i, hs, j, _, _, _ => rfl
  | f + 1, i, hs, j, hn, hi, hj => by
    have : ∀ k, k < n → hat (downL n f k (swapL hs i k)).1 j = hat hs j := fun k hk => by
      rw [downL_keep f k _ j (by rw [swapL_len]; exact hn) hk hj, swapL_hat (by omega) (by omega), if_neg (by omega), if_neg (by omega)]
    simp only [downL]
    repeat' split
    all_goals first | rfl | exact this _ (by omega)
/-- No later one comes ahead. -/
def Hd.le (a b : Hd) : Prop := b.lt a = false
theorem Hd.lt_trans {a b c : Hd} (h : a.lt b = true) (k : b.lt c = true) : a.lt c = true := by
  unfold Hd.lt at *
  by_cases e1 : a.name = b.name
  · by_cases e2 : b.name = c.name
    · simp [e1, e2] at h k ⊢; omega
    · simp only [e1, e2, if_true, if_false] at h k ⊢; exact k
  · by_cases e2 : b.name = c.name
    · simp only [e1, ← e2, if_true, if_false] at h k ⊢; exact h
    · simp only [e1, e2, if_false] at h k
      have h3 := slt_trans h k
      have : a.name ≠ c.name := fun e => by rw [e] at h3; rw [slt_irrefl] at h3; cases h3
      simp only [this, if_false]; exact h3
theorem Hd.lt_irrefl (a : Hd) : a.lt a = false := by simp [Hd.lt]
theorem Hd.lt_tri (a b : Hd) : a.lt b = true ∨ (a.name = b.name ∧ a.row = b.row) ∨ b.lt a = true := by
  unfold Hd.lt
  by_cases e : a.name = b.name
  · simp [e]; omega
  · simp only [e, Ne.symm e, if_false]
    rcases slt_tri a.name b.name with h | h | h
    · exact .inl h
    · exact (e h).elim
    · exact .inr (.inr h)
theorem Hd.lt_key {a b a' b' : Hd} (h1 : a.name = a'.name) (h2 : a.row = a'.row) (h3 : b.name = b'.name) (h4 : b.row = b'.row) : a.lt b = a'.lt b' := by simp [Hd.lt, h1, h2, h3, h4]
theorem Hd.le_trans {a b c : Hd} (h : a.le b) (k : b.le c) : a.le c := by
  unfold Hd.le at *
  cases h3 : c.lt a with
  | false => rfl
  | true =>
    rcases Hd.lt_tri a b with h4 | ⟨h4, h5⟩ | h4
    · have := Hd.lt_trans h3 h4; rw [k] at this; cases this
    · rw [Hd.lt_key rfl rfl h4 h5] at h3; rw [k] at h3; cases h3
    · rw [h] at h4; cases h4
theorem Hd.le_refl (a : Hd) : a.le a := Hd.lt_irrefl a
theorem Hd.le_of_lt {a b : Hd} (h : a.lt b = true) : a.le b := by
  unfold Hd.le
  cases k : b.lt a with
  | false => rfl
  | true => have := Hd.lt_trans h k; rw [Hd.lt_irrefl] at this; cases this
/-- A heap, from place i on, of the first n. -/
def HeapP (n i : Nat) (hs : List Hd) : Prop := ∀ k, 0 < k → k < n → i ≤ (k - 1) / 2 → (hat hs ((k - 1) / 2)).le (hat hs k)
theorem heap_root {n : Nat} {hs : List Hd} (h : HeapP n 0 hs) : ∀ (m k : Nat), k ≤ m → k < n → (hat hs 0).le (hat hs k)
  | 0, k, hk, _ => by
    have : k = 0 := by omega
    subst this; exact Hd.le_refl _
  | m + 1, k, hk, hn => by
    by_cases e : k = 0
    · subst e; exact Hd.le_refl _
    · exact Hd.le_trans (heap_root h m ((k - 1) / 2) (by omega) (by omega)) (h k (by omega) hn (Nat.zero_le _))
/-- As down goes: all is in order but at i. -/
theorem downL_heap {n i0 : Nat} : ∀ (f i : Nat) (hs : List Hd), n ≤ hs.length → i < n → n ≤ f + i → i0 ≤ i →
    (∀ k, 0 < k → k < n → i0 ≤ (k - 1) / 2 → (k - 1) / 2 ≠ i → (hat hs ((k - 1) / 2)).le (hat hs k)) →
    (i ≠ i0 → i0 ≤ (i - 1) / 2 → ∀ k, 0 < k → k < n → (k - 1) / 2 = i → (hat hs ((i - 1) / 2)).le (hat hs k)) → HeapP n i0 (downL n f i hs).1
  | 0, i, hs, hn, hi, hf, _, _, _ => by omega
  | f + 1, i, hs, hn, hi, hf, h0, h1, h2 => by
    simp only [downL]
    split
    · rename_i c
      intro k k1 k2 k3
      exact h1 k k1 k2 k3 (by omega)
    rename_i c
    obtain ⟨j, hj⟩ : ∃ j, j = if 2 * i + 1 + 1 < n ∧ (hat hs (2 * i + 1 + 1)).lt (hat hs (2 * i + 1)) = true then 2 * i + 1 + 1 else 2 * i + 1 := ⟨_, rfl⟩
    rw [← hj]
    have hjn : j < n ∧ (j = 2 * i + 1 ∨ j = 2 * i + 2) := by split at hj <;> omega
    -- j is the least child
    have hmin : ∀ k, 0 < k → k < n → (k - 1) / 2 = i → (hat hs j).le (hat hs k) := fun k k1 k2 k3 => by
      have : k = 2 * i + 1 ∨ k = 2 * i + 1 + 1 := by omega
      by_cases cc : 2 * i + 1 + 1 < n ∧ (hat hs (2 * i + 1 + 1)).lt (hat hs (2 * i + 1)) = true
      · rw [if_pos cc] at hj
        subst hj
        rcases this with rfl | rfl
        · exact Hd.le_of_lt cc.2
        · exact Hd.le_refl _
      · rw [if_neg cc] at hj
        subst hj
        rcases this with rfl | rfl
        · exact Hd.le_refl _
        · unfold Hd.le
          cases hh : (hat hs (2 * i + 1 + 1)).lt (hat hs (2 * i + 1)) with
          | false => rfl
          | true => exact (cc ⟨k2, hh⟩).elim
    split
    · rename_i hlt
      have hle := Hd.le_of_lt hlt
      have hsw : ∀ k, hat (swapL hs i j) k = if k = j then hat hs i else if k = i then hat hs j else hat hs k := fun k => swapL_hat (by omega) (by omega)
      refine downL_heap f j _ (by rw [swapL_len]; exact hn) hjn.1 (by omega) (by omega) (fun k k1 k2 k3 k4 => ?_) (fun _ _ k k1 k2 k3 => ?_)
      · rw [hsw, hsw]
        rw [if_neg k4]
        by_cases e1 : (k - 1) / 2 = i
        · rw [if_pos e1]
          by_cases e2 : k = j
          · rw [if_pos e2]; exact hle
          · rw [if_neg e2, if_neg (by omega)]; exact hmin k k1 k2 e1
        · rw [if_neg e1]
          have e2 : k ≠ j := fun e => e1 (by omega)
          rw [if_neg e2]
          by_cases e3 : k = i
          · rw [if_pos e3]
            subst e3
            by_cases e4 : k = i0
            · omega
            · exact h2 e4 k3 j (by omega) hjn.1 (by omega)
          · rw [if_neg e3]
            exact h1 k k1 k2 k3 e1
      · have e : (j - 1) / 2 = i := by omega
        rw [hsw, hsw, e, if_neg (by omega), if_pos rfl, if_neg (by omega), if_neg (by omega)]
        have := h1 k k1 k2 (by omega) (by omega)
        rw [k3] at this
        exact this
    · rename_i hlt
      intro k k1 k2 k3
      by_cases e : (k - 1) / 2 = i
      · rw [e]
        exact Hd.le_trans (by simpa [Hd.le] using hlt) (hmin k k1 k2 e)
      · exact h1 k k1 k2 k3 e
theorem initL_heap {n : Nat} : ∀ (i : Nat) (hs : List Hd), n ≤ hs.length → i ≤ n / 2 → HeapP n i hs → HeapP n 0 (initL n i hs) ∧ (initL n i hs).Perm hs
  | 0, hs, _, _, h => ⟨h, .refl _⟩
  | i + 1, hs, hn, hi, h => by
    have hp := downL_perm (n := n) n i hs hn (by omega)
    have hh := downL_heap (n := n) (i0 := i) n i hs hn (by omega) (by omega) (Nat.le_refl _) (fun k k1 k2 k3 k4 => h k k1 k2 (by omega)) (fun e => (e rfl).elim)
    obtain ⟨r1, r2⟩ := initL_heap i _ (by rw [downL_len]; exact hn) (by omega) hh
    exact ⟨r1, r2.trans hp⟩
theorem heapP_top {n : Nat} {hs : List Hd} : HeapP n (n / 2) hs := fun k k1 k2 k3 => by omega

theorem hat_lt_app {a b : List Hd} {k : Nat} (h : k < a.length) : hat (a ++ b) k = hat a k := by simp [hat, List.getD_eq_getElem?_getD, List.getElem?_append_left h]
theorem popL_ok {hs : List Hd} (hn : hs ≠ []) (h : HeapP hs.length 0 hs) : HeapP (popL hs).length 0 (popL hs) ∧ (popL hs ++ [hat hs 0]).Perm hs := by
  have hpos := List.length_pos_iff.2 hn
  unfold popL
  generalize hd : (downL (hs.length - 1) (hs.length - 1) 0 (swapL hs 0 (hs.length - 1))).1 = d
  have hl : d.length = hs.length := by rw [← hd, downL_len, swapL_len]
  have hp : d.Perm hs := by
    rw [← hd]
    exact (downL_perm _ _ _ (by rw [swapL_len]; omega) (by rw [swapL_len]; omega)).trans (swapL_perm hpos (by omega))
  have hlast : hat d (hs.length - 1) = hat hs 0 := by
    rw [← hd]
    by_cases c : hs.length = 1
    · rw [c]; show hat (swapL hs 0 0) 0 = hat hs 0; rw [swapL_hat (by omega) (by omega), if_pos rfl]
    · rw [downL_keep _ _ _ _ (by rw [swapL_len]; omega) (by omega) (Nat.le_refl _), swapL_hat (by omega) (by omega), if_pos rfl]
  have hdn : d ≠ [] := by rw [← List.length_pos_iff]; omega
  have he : d = d.dropLast ++ [hat hs 0] := by
    have := List.dropLast_concat_getLast hdn
    rw [List.getLast_eq_getElem] at this
    have e2 := getD_some (hs := d) (i := d.length - 1) (by omega)
    rw [List.getElem?_eq_getElem (by omega)] at e2
    rw [Option.some.inj e2, show d.length - 1 = hs.length - 1 by omega, hlast] at this
    exact this.symm
  refine ⟨?_, by rw [← he]; exact hp⟩
  have hheap : HeapP (hs.length - 1) 0 d := by
    by_cases c : hs.length = 1
    · intro k k1 k2; omega
    rw [← hd]
    have hsw : ∀ k, k ≠ 0 → k ≠ hs.length - 1 → hat (swapL hs 0 (hs.length - 1)) k = hat hs k := fun k h1 h2 => by
      rw [swapL_hat (by omega) (by omega), if_neg h2, if_neg h1]
    refine downL_heap _ _ _ (by rw [swapL_len]; omega) (by omega) (by omega) (Nat.le_refl _) (fun k k1 k2 k3 k4 => ?_) (fun e => (e rfl).elim)
    rw [hsw _ k4 (by omega), hsw _ (by omega) (by omega)]
    exact h k k1 (by omega) (Nat.zero_le _)
  have hdl : d.dropLast.length = hs.length - 1 := by rw [List.length_dropLast, hl]
  rw [hdl]
  intro k k1 k2 k3
  have := hheap k k1 k2 k3
  rw [he, hat_lt_app (by omega), hat_lt_app (by omega)] at this
  exact this
/-- A name, and its row. -/
structure Item where
  name : Str
  row : Int
  deriving DecidableEq
@[simp] def Item.c (x : Item) : List AV := [.str x.name, .int .i64 x.row]
/-- The least one was taken: what is there next. -/
def nextH (hs : List Hd) : List Hd :=
  match hs with
  | [] => []
  | x :: tl => match x.rest.l with
    | [] => popL (x :: tl)
    | s :: t => (downL (tl.length + 1) (tl.length + 1) 0 (⟨s, x.row, ⟨t, x.rest.r⟩⟩ :: tl)).1
def mergeL : Nat → List Hd → List Item
  | 0, _ => []
  | f + 1, [] => []
  | f + 1, x :: tl => ⟨x.name, x.row⟩ :: mergeL f (nextH (x :: tl))
/-- The heads of rows. -/
def hds : Nat → List Ss → List Hd
  | _, [] => []
  | i, x :: xs => (match x.l with | [] => [] | s :: t => [⟨s, i, ⟨t, x.r⟩⟩]) ++ hds (i + 1) xs
/-- The least head, as one looks for it. -/
def bestG : Nat → Option (Nat × Str) → List Ss → Option (Nat × Str)
  | _, b, [] => b
  | i, b, x :: xs => match x.l with
    | [] => bestG (i + 1) b xs
    | s :: _ => match b with
      | none => bestG (i + 1) (some (i, s)) xs
      | some (j, t) => if slt s t = true then bestG (i + 1) (some (i, s)) xs else bestG (i + 1) (some (j, t)) xs
def tailS (rs : List Ss) (j : Nat) : List Ss := match rs[j]? with | some r => rs.set j ⟨r.l.tail, r.r⟩ | none => rs
/-- Each time the least one. -/
def mergeS : Nat → List Ss → List Item
  | 0, _ => []
  | f + 1, rs => match bestG 0 none rs with
    | none => []
    | some (j, t) => ⟨t, j⟩ :: mergeS f (tailS rs j)
theorem hds_app : ∀ (a b : List Ss) (i : Nat), hds i (a ++ b) = hds i a ++ hds (i + a.length) b
  | [], b, i => by simp [hds]
  | x :: a, b, i => by
    simp only [List.cons_append, hds, hds_app a b (i + 1), List.length_cons, List.append_assoc]
    rw [show i + 1 + a.length = i + (a.length + 1) by omega]
theorem mem_hds : ∀ {rs : List Ss} {i : Nat} {h : Hd}, h ∈ hds i rs ↔ ∃ k r s t, rs[k]? = some r ∧ r.l = s :: t ∧ h = ⟨s, ((i + k : Nat) : Int), ⟨t, r.r⟩⟩
  | [], i, h => by simp [hds]
  | x :: xs, i, h => by
    simp only [hds, List.mem_append, mem_hds (rs := xs)]
    constructor
    · rintro (h1 | ⟨k, r, s, t, h1, h2, h3⟩)
      · cases hx : x.l with
        | nil => rw [hx] at h1; simp at h1
        | cons s t =>
          rw [hx] at h1
          exact ⟨0, x, s, t, rfl, hx, List.mem_singleton.1 h1⟩
      · exact ⟨k + 1, r, s, t, by simpa using h1, h2, by rw [h3]; congr 2; omega⟩
    · rintro ⟨k, r, s, t, h1, h2, h3⟩
      cases k with
      | zero =>
        simp at h1; subst h1
        rw [h2]
        exact .inl (by simpa using h3)
      | succ k => exact .inr ⟨k, r, s, t, by simpa using h1, h2, by rw [h3]; congr 2; omega⟩
theorem bestG_spec : ∀ (rs : List Ss) (i : Nat) (b : Option (Nat × Str)), (∀ j t, b = some (j, t) → j < i) →
    (bestG i b rs = none → b = none ∧ ∀ r ∈ rs, r.l = []) ∧
    ∀ j t, bestG i b rs = some (j, t) →
      (b = some (j, t) ∨ ∃ k r tl, rs[k]? = some r ∧ r.l = t :: tl ∧ j = i + k) ∧
      (∀ j' t', b = some (j', t') → slt t' t = false ∧ (t' = t → j ≤ j')) ∧
      ∀ k r s tl, rs[k]? = some r → r.l = s :: tl → slt s t = false ∧ (s = t → j ≤ i + k)
  | [], i, b, hb => by
    refine ⟨fun h => ⟨h, by simp⟩, fun j t h => ⟨.inl h, fun j' t' e => ?_, by simp⟩⟩
    simp only [bestG] at h
    rw [h] at e; cases e
    exact ⟨slt_irrefl _, fun _ => Nat.le_refl _⟩
  | x :: xs, i, b, hb => by
    unfold bestG
    cases hx : x.l with
    | nil =>
      obtain ⟨h1, h2⟩ := bestG_spec xs (i + 1) b (fun j t e => by have := hb j t e; omega)
      refine ⟨fun h => ⟨(h1 h).1, fun r hr => ?_⟩, fun j t h => ?_⟩
      · rcases List.mem_cons.1 hr with rfl | hr
        · exact hx
        · exact (h1 h).2 r hr
      · obtain ⟨k1, k2, k3⟩ := h2 j t h
        refine ⟨k1.imp _root_.id (fun ⟨k, r, tl, e1, e2, e3⟩ => ⟨k + 1, r, tl, by simpa using e1, e2, by omega⟩), k2, fun k r s tl e1 e2 => ?_⟩
        cases k with
        | zero => simp at e1; subst e1; rw [hx] at e2; cases e2
        | succ k => have := k3 k r s tl (by simpa using e1) e2; exact ⟨this.1, fun e => by have := this.2 e; omega⟩
    | cons s0 tl0 =>
      simp only
      -- what is handed on
      have key : ∀ b' : Nat × Str, b'.1 ≤ i → (b' = (i, s0) ∨ b = some b') → (slt s0 b'.2 = false ∧ (s0 = b'.2 → b'.1 ≤ i)) → (∀ j' t', b = some (j', t') → slt t' b'.2 = false ∧ (t' = b'.2 → b'.1 ≤ j')) →
          (bestG (i + 1) (some b') xs = none → b = none ∧ ∀ r ∈ x :: xs, r.l = []) ∧
          ∀ j t, bestG (i + 1) (some b') xs = some (j, t) →
            (b = some (j, t) ∨ ∃ k r tl, (x :: xs)[k]? = some r ∧ r.l = t :: tl ∧ j = i + k) ∧
            (∀ j' t', b = some (j', t') → slt t' t = false ∧ (t' = t → j ≤ j')) ∧
            ∀ k r s tl, (x :: xs)[k]? = some r → r.l = s :: tl → slt s t = false ∧ (s = t → j ≤ i + k) := by
        intro b' hb1 hb2 hb3 hb4
        obtain ⟨h1, h2⟩ := bestG_spec xs (i + 1) (some b') (fun j t e => by cases e; omega)
        refine ⟨fun h => (by have := (h1 h).1; cases this), fun j t h => ?_⟩
        obtain ⟨k1, k2, k3⟩ := h2 j t h
        have kb := k2 b'.1 b'.2 rfl
        have comp : ∀ (q : Str) (m : Nat), slt q b'.2 = false → (q = b'.2 → b'.1 ≤ m) → slt q t = false ∧ (q = t → j ≤ m) := by
          intro q m q1 q2
          constructor
          · cases hq : slt q t with
            | false => rfl
            | true =>
              rcases slt_tri b'.2 q with g | g | g
              · have := slt_trans g hq; rw [kb.1] at this; cases this
              · rw [g, hq] at kb; exact kb.1
              · rw [q1] at g; cases g
          · rintro rfl
            rcases slt_tri b'.2 q with g | g | g
            · rw [kb.1] at g; cases g
            · have := kb.2 g; have := q2 g.symm; omega
            · rw [q1] at g; cases g
        refine ⟨?_, fun j' t' e => comp t' j' (hb4 j' t' e).1 (hb4 j' t' e).2, fun k r s tl e1 e2 => ?_⟩
        · rcases k1 with k1 | ⟨k, r, tl, e1, e2, e3⟩
          · cases k1
            rcases hb2 with hb2 | hb2
            · cases hb2
              exact .inr ⟨0, x, tl0, rfl, hx, rfl⟩
            · exact .inl hb2
          · exact .inr ⟨k + 1, r, tl, by simpa using e1, e2, by omega⟩
        · cases k with
          | zero =>
            simp at e1; subst e1
            rw [hx] at e2; cases e2
            exact comp s0 (i + 0) hb3.1 hb3.2
          | succ k =>
            have := k3 k r s tl (by simpa using e1) e2
            exact ⟨this.1, fun e => by have := this.2 e; omega⟩
      cases hbb : b with
      | none =>
        have := key (i, s0) (Nat.le_refl _) (.inl rfl) ⟨slt_irrefl _, fun _ => Nat.le_refl _⟩ (fun j' t' e => by rw [hbb] at e; cases e)
        rw [hbb] at this
        exact this
      | some b0 =>
        obtain ⟨j0, t0⟩ := b0
        have hj0 := hb j0 t0 hbb
        simp only
        split
        · rename_i hlt
          have := key (i, s0) (Nat.le_refl _) (.inl rfl) ⟨slt_irrefl _, fun _ => Nat.le_refl _⟩ (fun j' t' e => by
            rw [hbb] at e; cases e
            exact ⟨slt_asymm hlt, fun e => by rw [e, slt_irrefl] at hlt; cases hlt⟩)
          rw [hbb] at this
          exact this
        · rename_i hlt
          have := key (j0, t0) (by show j0 ≤ i; omega) (.inr hbb) ⟨by simpa using hlt, fun _ => by show j0 ≤ i; omega⟩ (fun j' t' e => by
            rw [hbb] at e; cases e
            exact ⟨slt_irrefl _, fun _ => Nat.le_refl _⟩)
          rw [hbb] at this
          exact this

/-- The heap holds the heads of rows. -/
def HInv (hs : List Hd) (rs : List Ss) : Prop := HeapP hs.length 0 hs ∧ hs.Perm (hds 0 rs)
theorem hds_set {rs : List Ss} {j : Nat} {r : Ss} {s : Str} {t : List Str} (h : rs[j]? = some r) (hr : r.l = s :: t) :
    ∃ A B, hds 0 rs = A ++ (⟨s, (j : Int), ⟨t, r.r⟩⟩ :: B) ∧ hds 0 (tailS rs j) = A ++ ((match t with | [] => [] | s' :: t' => [⟨s', (j : Int), ⟨t', r.r⟩⟩]) ++ B) := by
  have hj := (List.getElem?_eq_some_iff.1 h).1
  have h2 := (List.getElem?_eq_some_iff.1 h).2
  have e1 : rs = rs.take j ++ r :: rs.drop (j + 1) := by
    conv => lhs; rw [← List.take_append_drop j rs, List.drop_eq_getElem_cons hj, h2]
  have e2 : tailS rs j = rs.take j ++ ⟨t, r.r⟩ :: rs.drop (j + 1) := by
    simp only [tailS, h, hr, List.tail_cons]
    conv => lhs; rw [e1]
    rw [List.set_append_right _ _ (by simp; omega)]
    simp only [List.length_take, Nat.min_eq_left (Nat.le_of_lt hj), Nat.sub_self, List.set_cons_zero]
  have hl : (rs.take j).length = j := by simp; omega
  refine ⟨hds 0 (rs.take j), hds (j + 1) (rs.drop (j + 1)), ?_, ?_⟩
  · conv => lhs; rw [e1]
    rw [hds_app, hl]
    simp [hds, hr]
  · rw [e2, hds_app, hl]
    simp only [Nat.zero_add, hds]
    cases t <;> rfl
theorem merge_step {x : Hd} {tl : List Hd} {rs : List Ss} (h : HInv (x :: tl) rs) : ∃ j : Nat, bestG 0 none rs = some (j, x.name) ∧ x.row = j ∧ HInv (nextH (x :: tl)) (tailS rs j) := by
  obtain ⟨hh, hp⟩ := h
  obtain ⟨b1, b2⟩ := bestG_spec rs 0 none (fun _ _ e => by cases e)
  have hroot : ∀ y ∈ hds 0 rs, x.le y := fun y hy => by
    have hm := hp.mem_iff.2 hy
    obtain ⟨k, hk⟩ := List.mem_iff_getElem?.1 hm
    have hkl := (List.getElem?_eq_some_iff.1 hk).1
    have := heap_root hh k k (Nat.le_refl _) hkl
    rw [hat_some hk, hat_some (i := 0) rfl] at this
    exact this
  have hx : x ∈ hds 0 rs := hp.mem_iff.1 (by simp)
  obtain ⟨k, r, s, t, e1, e2, e3⟩ := mem_hds.1 hx
  cases hb : bestG 0 none rs with
  | none =>
    have := (b1 hb).2 r (List.mem_of_getElem? e1)
    rw [this] at e2; cases e2
  | some p =>
    obtain ⟨j, n⟩ := p
    obtain ⟨c1, _, c3⟩ := b2 j n hb
    rcases c1 with c1 | ⟨k', r', tl', f1, f2, f3⟩
    · cases c1
    have f3 : j = k' := by omega
    subst f3
    -- the best and the root are one
    have hbest : (⟨n, (j : Int), ⟨tl', r'.r⟩⟩ : Hd) ∈ hds 0 rs := mem_hds.2 ⟨j, r', n, tl', f1, f2, by simp⟩
    have g1 := hroot _ hbest
    have g2 := c3 k r s t e1 e2
    have hk : j = k ∧ n = s := by
      subst e3
      unfold Hd.le Hd.lt at g1
      by_cases en : n = s
      · subst en
        simp at g1
        have := g2.2 rfl
        exact ⟨by omega, rfl⟩
      · simp only [en, if_false] at g1
        rcases slt_tri n s with q | q | q
        · rw [g1] at q; cases q
        · exact (en q).elim
        · rw [g2.1] at q; cases q
    obtain ⟨rfl, rfl⟩ := hk
    have hxe : x = ⟨n, (j : Int), ⟨t, r.r⟩⟩ := by rw [e3]; simp
    subst hxe
    refine ⟨j, rfl, rfl, ?_⟩
    obtain ⟨A, B, d1, d2⟩ := hds_set e1 e2
    have hperm : tl.Perm (A ++ B) := by
      rw [d1] at hp
      exact (hp.trans List.perm_middle).cons_inv
    unfold nextH
    simp only
    cases t with
    | nil =>
      simp only
      obtain ⟨p1, p2⟩ := popL_ok (by simp) hh
      refine ⟨p1, ?_⟩
      rw [d2]
      simp only [List.nil_append]
      rw [hat_some (i := 0) rfl] at p2
      have : (popL (⟨n, (j : Int), ⟨[], r.r⟩⟩ :: tl)).Perm tl := by
        have := (List.perm_append_singleton _ _).symm.trans p2
        exact this.cons_inv
      exact this.trans hperm
    | cons s' t' =>
      simp only
      have hl : (⟨s', (j : Int), ⟨t', r.r⟩⟩ :: tl : List Hd).length = tl.length + 1 := rfl
      refine ⟨?_, ?_⟩
      · rw [downL_len, hl]
        refine downL_heap _ _ _ (Nat.le_of_eq hl.symm) (by omega) (by omega) (Nat.le_refl _) (fun k k1 k2 k3 k4 => ?_) (fun e => (e rfl).elim)
        have := hh k k1 (by simpa using k2) (Nat.zero_le _)
        have hc : ∀ (m : Nat) (y z : Hd), m ≠ 0 → hat (y :: tl) m = hat (z :: tl) m := fun m y z hm => by
          cases m with
          | zero => exact (hm rfl).elim
          | succ m => simp [hat]
        rw [hc _ _ ⟨s', (j : Int), ⟨t', r.r⟩⟩ k4, hc k _ ⟨s', (j : Int), ⟨t', r.r⟩⟩ (by omega)] at this
        exact this
      · refine (downL_perm _ _ _ (Nat.le_of_eq hl.symm) (by rw [hl]; omega)).trans ?_
        rw [d2]
        simp only [List.singleton_append]
        exact (List.Perm.cons _ hperm).trans List.perm_middle.symm
theorem merge_eq : ∀ (f : Nat) (hs : List Hd) (rs : List Ss), HInv hs rs → mergeL f hs = mergeS f rs
  | 0, _, _, _ => rfl
  | f + 1, [], rs, h => by
    have hn : hds 0 rs = [] := by
      have := h.2
      exact List.nil_perm.1 this
    have : bestG 0 none rs = none := by
      cases hb : bestG 0 none rs with
      | none => rfl
      | some p =>
        obtain ⟨j, n⟩ := p
        obtain ⟨c1, _, _⟩ := (bestG_spec rs 0 none (fun _ _ e => by cases e)).2 j n hb
        rcases c1 with c1 | ⟨k', r', tl', f1, f2, f3⟩
        · cases c1
        · have := (mem_hds (i := 0)).2 ⟨k', r', n, tl', f1, f2, rfl⟩
          rw [hn] at this; cases this
    simp only [mergeL, mergeS, this]
  | f + 1, x :: tl, rs, h => by
    obtain ⟨j, h1, h2, h3⟩ := merge_step h
    simp only [mergeL, mergeS, h1, h2]
    rw [merge_eq f _ _ h3]
theorem hinv_init (rs : List Ss) : HInv (initL (hds 0 rs).length ((hds 0 rs).length / 2) (hds 0 rs)) rs := by
  obtain ⟨h1, h2⟩ := initL_heap (n := (hds 0 rs).length) _ (hds 0 rs) (Nat.le_refl _) (Nat.le_refl _) heapP_top
  refine ⟨?_, h2⟩
  rw [h2.length_eq]
  exact h1
end Go.Av
