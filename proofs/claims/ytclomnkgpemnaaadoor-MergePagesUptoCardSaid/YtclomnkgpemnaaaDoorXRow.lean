/- Parts of the proofs of this seat: abstract values over the model, and what the functions of the program do. No condition. -/
import Derived.Test.YtclomnkgpemnaaaDoorDRow
set_option linter.all false
set_option linter.unusedVariables false
namespace Go.Av
section
variable {α : Type} {enc : α → List AV} {n : Nat}
def RowE (enc : α → List AV) (n : Nat) (S : St) (x : AV) (l : List α) : Option Nat → Prop
  | none => x = .vs n [] .nil ∧ l = []
  | some id => x = .rs n id 0 l.length ∧ S[id]? = some (.cells (flatE enc l) 0)
theorem RowE.mono {S S' : St} {x : AV} {l : List α} {o : Option Nat} (h : RowE enc n S x l o) (k : ∀ id, o = some id → S'[id]? = S[id]?) : RowE enc n S' x l o := by
  cases o with
  | none => exact h
  | some id => exact ⟨h.1, (k id rfl).trans h.2⟩
theorem RowE.lt {S : St} {x : AV} {l : List α} {id : Nat} (h : RowE enc n S x l (some id)) : id < S.length := (List.getElem?_eq_some_iff.1 h.2).1
theorem RowE.sx {S S' : St} {x : AV} {l : List α} {o : Option Nat} (h : RowE enc n S x l o) (k : Sx S S') : RowE enc n S' x l o :=
  h.mono fun id e => by subst e; exact k id h.lt
theorem RowE.strip {S : St} {x : AV} {l : List α} {o : Option Nat} (h : RowE enc n S x l o) : x.strip = x ∧ x.free = true ∧ x.flat = x ∧ lenSlA x = some (.int .i64 l.length) := by
  cases o with
  | none => obtain ⟨rfl, rfl⟩ := h; exact ⟨rfl, rfl, rfl, rfl⟩
  | some id => obtain ⟨rfl, _⟩ := h; exact ⟨rfl, rfl, rfl, rfl⟩
theorem chunks_flat (hn : ∀ x, (enc x).length = n) (hs : ∀ x, (enc x).map AV.strip1 = enc x) : ∀ (l : List α) (J : List AV), chunks n l.length (flatE enc l ++ J) = l.map enc
  | [], J => rfl
  | x :: l, J => by
    have e : flatE enc (x :: l) ++ J = enc x ++ (flatE enc l ++ J) := by simp [flatE]
    have h1 : (enc x ++ (flatE enc l ++ J)).take n = enc x := by rw [← hn x, List.take_left]
    have h2 : (enc x ++ (flatE enc l ++ J)).drop n = flatE enc l ++ J := by rw [← hn x, List.drop_left]
    rw [List.length_cons, chunks, e, h1, h2, hs, chunks_flat hn hs l J]
    rfl
theorem RowE.elems (hn : ∀ x, (enc x).length = n) (hs : ∀ x, (enc x).map AV.strip1 = enc x) {S : St} {x : AV} {l : List α} {o : Option Nat} (h : RowE enc n S x l o) : elemsA S n x = some (l.map enc) := by
  cases o with
  | none => obtain ⟨rfl, rfl⟩ := h; simp [elemsA]
  | some id =>
    obtain ⟨rfl, h2⟩ := h
    have hl := flatE_len hn l
    have := chunks_flat hn hs l []
    rw [List.append_nil] at this
    simp [elemsA, objCells, h2, hl, this]
theorem RowE.part (hn : ∀ x, (enc x).length = n) (hs : ∀ x, (enc x).map AV.strip1 = enc x) {T : TI} (hT : T.size = n) {S : St} {x : AV} {l : List α} {o : Option Nat} (h : RowE enc n S x l o) {a b : Nat} (hab : a ≤ b) (hb : b ≤ l.length) {k1 k2 : IntKind} :
    ∃ y, cutA T x (some (.int k1 (a : Int))) (some (.int k2 (b : Int))) none = some y ∧ elemsA S n y = some (((l.take b).drop a).map enc) ∧ y.strip = y ∧ y.free = true := by
  cases o with
  | none =>
    obtain ⟨rfl, rfl⟩ := h
    simp at hb
    subst hb
    have : a = 0 := by omega
    subst this
    exact ⟨.vs n [] .nil, by simp [cutA, bnd, hT], by simp [elemsA], rfl, rfl⟩
  | some id =>
    obtain ⟨rfl, h2⟩ := h
    have hl := flatE_len hn l
    by_cases c : a < b ∨ a = 0
    · refine ⟨.rs n id (0 + a * n) (b - a), ?_, ?_, rfl, rfl⟩
      · simp [cutA, bnd, hT, hb, hab, c]
      · have hle : (0 + a * n) + (b - a) * n ≤ (flatE enc l).length := by
          rw [hl, Nat.zero_add, ← Nat.add_mul]
          exact Nat.mul_le_mul_right n (by omega)
        have hd : (flatE enc l).drop (0 + a * n) = flatE enc (l.drop a) := by
          have : flatE enc l = flatE enc (l.take a) ++ flatE enc (l.drop a) := by
            unfold flatE
            rw [← List.flatMap_append, List.take_append_drop]
          have h3 : (flatE enc (l.take a)).length = a * n := by rw [flatE_len hn, List.length_take, Nat.min_eq_left (by omega)]
          rw [this, Nat.zero_add, ← h3, List.drop_left]
        have he : flatE enc (l.drop a) = flatE enc ((l.take b).drop a) ++ flatE enc (l.drop b) := by
          have : l.drop a = (l.take b).drop a ++ l.drop b := by
            conv => lhs; rw [← List.take_append_drop b l]
            rw [List.drop_append_of_le_length (by rw [List.length_take]; omega)]
          rw [this]
          simp [flatE]
        have hlen : b - a = ((l.take b).drop a).length := by rw [List.length_drop, List.length_take]; omega
        simp only [elemsA, if_true, objCells, h2, Option.bind_some, hle, hd, he]
        rw [hlen, chunks_flat hn hs]
    · refine ⟨.vs n [] .none, ?_, ?_, rfl, rfl⟩
      · simp [cutA, bnd, hT, hb, hab, c]
      · have : (l.take b).drop a = [] := by rw [List.drop_eq_nil_iff, List.length_take]; omega
        simp [elemsA, this]
theorem RowE.append (hn : ∀ x, (enc x).length = n) {T : TI} (hT : T.size = n) {S : St} {x y : AV} {l m : List α} {o : Option Nat} (h : RowE enc n S x l o) (hy : elemsA S n y = some (m.map enc)) (hl : l.length + m.length ≤ lim) :
    ∃ x' S' o', appendR T S x y = some (x', S') ∧ RowE enc n S' x' (l ++ m) o' ∧ (∀ j, j < S.length → o ≠ some j → S'[j]? = S[j]?) ∧ S.length ≤ S'.length ∧ (∀ j, o' = some j → o = some j ∨ S.length ≤ j) := by
  by_cases e : m = []
  · subst e
    refine ⟨x, S, o, ?_, by simpa using h, fun _ _ _ => rfl, Nat.le_refl _, fun j hj => .inl hj⟩
    cases o with
    | none => obtain ⟨rfl, _⟩ := h; simp [appendR, hT, hy]
    | some id => obtain ⟨rfl, _⟩ := h; simp [appendR, hT, hy]
  · have hne : m.map enc ≠ [] := by simpa using e
    have hfl : (m.map enc).flatten = flatE enc m := by simp [flatE, List.flatMap]
    cases o with
    | none =>
      obtain ⟨rfl, rfl⟩ := h
      refine ⟨.rs n S.length 0 m.length, S ++ [.cells (flatE enc m) 0], some S.length, ?_, ⟨by simp, by simp⟩, fun j hj _ => by rw [List.getElem?_append_left hj], by simp, fun j hj => by cases hj; exact .inr (Nat.le_refl _)⟩
      have h1 : m.length ≤ lim := by simpa using hl
      simp [appendR, hT, hy, e, h1, hfl]
    | some id =>
      obtain ⟨rfl, h2⟩ := h
      have hl2 := flatE_len hn l
      refine ⟨.rs n S.length 0 (l.length + m.length), S.set id .dead ++ [.cells (flatE enc (l ++ m)) 0], some S.length, ?_, ⟨by simp, ?_⟩, fun j hj hn => ?_, by simp, fun j hj => by cases hj; exact .inr (Nat.le_refl _)⟩
      · have h1 : l.length + m.length ≤ lim := hl
        have ht : (flatE enc l).take (l.length * n) = flatE enc l := by rw [← hl2, List.take_length]
        have ha : flatE enc (l ++ m) = flatE enc l ++ flatE enc m := by simp [flatE]
        simp [appendR, hT, hy, e, objCells, h2, hl2, h1, hfl, ht, ha]
      · rw [List.getElem?_append_right (by simp)]
        simp
      · rw [List.getElem?_append_left (by simpa using hj), List.getElem?_set_ne (fun e => hn (by rw [e]))]
theorem RowE.idx {T : TI} (hT : T.size = n) {S : St} {x : AV} {l : List α} {id : Nat} (h : RowE enc n S x l (some id)) {i : Nat} (hi : i < l.length) {k : IntKind} : idxSlA T x (.int k (i : Int)) = some (.ptr id (i * n)) := by
  obtain ⟨rfl, _⟩ := h
  have : (i : Int) < l.length := by omega
  simp [idxSlA, hT, this]
theorem RowE.is_some {S : St} {x : AV} {l : List α} {o : Option Nat} (h : RowE enc n S x l o) (hl : l ≠ []) : ∃ id, o = some id := by
  cases o with
  | none => exact absurd h.2 hl
  | some id => exact ⟨id, rfl⟩
theorem RowE.load (hn : ∀ x, (enc x).length = n) {T : TI} (hT : T.size = n) (hA : T.agg = true) {S : St} {x : AV} {l : List α} {id : Nat} (h : RowE enc n S x l (some id)) {i : Nat} {y : α} (hi : l[i]? = some y) : loadA T S (.ptr id (i * n)) = some (.agg (enc y)) :=
  row_load (J := []) (by rw [List.append_nil]; exact h.2) hT hA hn hi
theorem RowE.cell (hn : ∀ x, (enc x).length = n) {T : TI} (hA : T.agg = false) {S : St} {x : AV} {l : List α} {id : Nat} (h : RowE enc n S x l (some id)) {i k : Nat} {y : α} (hi : l[i]? = some y) (hk : k < n) : loadA T S (.ptr id (i * n + k)) = (enc y)[k]? :=
  row_cell (J := []) (by rw [List.append_nil]; exact h.2) hA hn hi hk
theorem RowE.put (hn : ∀ x, (enc x).length = n) {T : TI} (hT : T.size = 1) {S : St} {x : AV} {l : List α} {id : Nat} (h : RowE enc n S x l (some id)) {i k : Nat} {y z : α} (hi : l[i]? = some y) (hk : k < n) {v : AV} (hv : v.cells = [v]) (hf : v.free = true) (hz : enc z = writeAt (enc y) k [v]) :
    ∃ S', storeA T S (.ptr id (i * n + k)) v = some S' ∧ RowE enc n S' x (l.set i z) (some id) ∧ S'.length = S.length ∧ ∀ j, j ≠ id → S'[j]? = S[j]? := by
  obtain ⟨rfl, h2⟩ := h
  have hle := flatE_le hn [] hi
  rw [List.append_nil] at hle
  have hw := flatE_write hn [] z hi
  rw [List.append_nil, List.append_nil] at hw
  have hd := flatE_drop hn [] hi
  rw [List.append_nil, List.append_nil] at hd
  have e : writeAt (flatE enc l) (i * n + k) [v] = flatE enc (l.set i z) := by
    rw [← hw, hz]
    have hy := hn y
    unfold writeAt
    have h3 : (flatE enc l).take (i * n + k) = (flatE enc l).take (i * n) ++ (enc y).take k := by
      rw [List.take_add, hd, List.take_append_of_le_length (by omega)]
    have h4 : (flatE enc l).drop (i * n + k + [v].length) = (enc y).drop (k + 1) ++ flatE enc (l.drop (i + 1)) := by
      rw [Nat.add_assoc, ← List.drop_drop, hd, List.drop_append_of_le_length (by simp; omega)]
      rfl
    have h5 : (flatE enc l).drop (i * n + ((enc y).take k ++ [v] ++ (enc y).drop (k + [v].length)).length) = flatE enc (l.drop (i + 1)) := by
      have : ((enc y).take k ++ [v] ++ (enc y).drop (k + [v].length)).length = n := by simp; omega
      rw [this, ← List.drop_drop, hd, ← hy, List.drop_left]
    rw [h3, h4, h5]
    simp
  refine ⟨S.set id (.cells (flatE enc (l.set i z)) 0), ?_, ⟨by simp, getSet_self h2⟩, by simp, fun j hj => getSet_other (fun e => hj e.symm)⟩
  rw [storeA_ptr h2]
  have hle2 : i * n + k + 1 ≤ (flatE enc l).length := by omega
  simp only [storeCellsA, hv, hT, hf, List.length_singleton, hle2, and_self, if_true, Option.map_some, e]
end
end Go.Av
