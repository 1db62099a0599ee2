/- A part of the proof of a law of this seat: The relation between abstract values and objects, and the model's values and world. No condition. -/
import Derived.Test.YtcmiahkfbnojnaaA0
import Derived.ArgAppend
import Derived.WalkKit
set_option linter.all false
set_option linter.unusedVariables false
/-! The relation between abstract values and objects, and the model's values and world. -/
namespace Go.Av

/-- Is it an append buffer? -/
def AV.own : AV → Bool | .vs _ _ .own => true | _ => false
/-- One cell, no buffer. -/
def AV.cell1 (a : AV) : Bool := a.free1 && !a.own
/-- No part of it is a buffer; no tuple in it. -/
def AV.plain : AV → Prop | .agg cs => ∀ c ∈ cs, c.cell1 = true | .tup _ => False | a => a.own = false
def AV.semi : AV → Prop | .agg cs => ∀ c ∈ cs, c.cell1 = true | .tup _ => False | _ => True

inductive Key where
  | ext
  | obj (id : Nat)
  | ocell (id j : Nat)
  | lbox (t : Nat)
  | bcell (t j : Nat)
  | slot (t : Nat)
  | slotc (t i : Nat)
  | ret
  | retc (i : Nat)
  deriving DecidableEq

/-- What is known of memory beside the abstract state: cells that never change; which block an object is; what each block is for. -/
structure Gh where
  imm : Nat → Nat → Option Value
  rho : Nat → Option Nat
  role : Nat → Key
  /-- so many cells a block has at least -/
  len : Nat → Nat

inductive VR (G : Gh) : Value → AV → Prop where
  | undef (v : Value) : VR G v .undef
  | int (k : IntKind) (n : Int) : VR G (.int k n) (.int k n)
  | bool (b : Bool) : VR G (.bool b) (.bool b)
  | str (l : List UInt8) : VR G (.string ⟨l.toArray⟩) (.str l)
  | nil : VR G (.pointer none) .nil
  | ptr (id off b : Nat) (h : G.rho id = some b) : VR G (.pointer (some ⟨b, off, none⟩)) (.ptr id off)
  | ep (cs : List AV) (b o off : Nat) (f : Nat → Value) (hc : ∀ x ∈ cs, x.cell1 = true)
      (h : ∀ (j : Nat) (x : AV), (cs[j]? = some x) → G.imm b (o + j) = some (f j)) (h2 : ∀ (j : Nat) (x : AV), (cs[j]? = some x) → VR G (f j) x) :
      VR G (.pointer (some ⟨b, o + off, none⟩)) (.ep cs off)
  | vsnil (sz : Nat) : VR G (.slice none 0 0) (.vs sz [] .nil)
  | vs (b o cap sz : Nat) (es : List (List AV)) (r : Rt) (f : Nat → Nat → Value) (hr : r ≠ .nil) (hc : es.length ≤ cap) (hf : r = .full → cap = es.length)
      (hs : ∀ e ∈ es, e.length = sz ∧ ∀ x ∈ e, x.cell1 = true)
      (h : ∀ (i : Nat) (e : List AV) (j : Nat) (x : AV), (es[i]? = some e) → (e[j]? = some x) → G.imm b (o + i * sz + j) = some (f i j))
      (h2 : ∀ (i : Nat) (e : List AV) (j : Nat) (x : AV), (es[i]? = some e) → (e[j]? = some x) → VR G (f i j) x) :
      VR G (.slice (some ⟨b, o, none⟩) es.length cap) (.vs sz es r)
  | vse (a : Addr) (sz : Nat) (r : Rt) (hr : r = .none ∨ r = .full) : VR G (.slice (some a) 0 0) (.vs sz [] r)
  | rs (b id off len cap sz : Nat) (h : G.rho id = some b) (hc : len ≤ cap) (hl : off + cap * sz ≤ G.len b) : VR G (.slice (some ⟨b, off, none⟩) len cap) (.rs sz id off len)
  | mapnil : VR G (.map none) (.map none)
  | map (id b : Nat) (h : G.rho id = some b) : VR G (.map (some b)) (.map (some id))
  | fn (g : Nat) (first cap : List AV) (first' cap' : Array Value) (h1 : first'.size = first.length) (h2 : cap'.size = cap.length)
      (h : ∀ (i : Nat) (x : AV) (v : Value), (first[i]? = some x) → (first'[i]? = some v) → VR G v x)
      (h' : ∀ (i : Nat) (x : AV) (v : Value), (cap[i]? = some x) → (cap'[i]? = some v) → VR G v x) :
      VR G (.func (.func g) first' cap') (.fn g first cap)
  | nilfn : VR G .nilFunc .nilfn
  | ifc (t : Nat) (v : Value) (a : AV) (h : VR G v a) : VR G (.iface t v) (.ifc t a)
  | nilifc : VR G .nilIface .nilifc
  | agg (cs : List AV) (vs : Array Value) (hl : vs.size = cs.length) (h : ∀ (i : Nat) (x : AV) (v : Value), (cs[i]? = some x) → (vs[i]? = some v) → VR G v x) : VR G (.agg vs) (.agg cs)
  | tup (cs : List AV) (vs : Array Value) (hl : vs.size = cs.length) (h : ∀ (i : Nat) (x : AV) (v : Value), (cs[i]? = some x) → (vs[i]? = some v) → VR G v x) : VR G (.tuple vs) (.tup cs)

structure Gh.Le (G G' : Gh) : Prop where
  imm : ∀ b o v, G.imm b o = some v → G'.imm b o = some v
  rho : ∀ id b, G.rho id = some b → G'.rho id = some b
  len : ∀ b, G.len b ≤ G'.len b
theorem Gh.Le.refl (G : Gh) : G.Le G := ⟨fun _ _ _ h => h, fun _ _ h => h, fun _ => Nat.le_refl _⟩
theorem Gh.Le.trans {A B D : Gh} (h : A.Le B) (k : B.Le D) : A.Le D := ⟨fun b o v e => k.imm b o v (h.imm b o v e), fun i b e => k.rho i b (h.rho i b e), fun b => Nat.le_trans (h.len b) (k.len b)⟩

theorem VR.mono {G G' : Gh} (hl : G.Le G') {v : Value} {a : AV} (h : VR G v a) : VR G' v a := by
  induction h with
  | undef v => exact .undef v
  | int k n => exact .int k n
  | bool b => exact .bool b
  | str l => exact .str l
  | nil => exact .nil
  | ptr id off b h => exact .ptr id off b (hl.rho _ _ h)
  | ep cs b o off f hc h _ ih => exact .ep cs b o off f hc (fun j x e => hl.imm _ _ _ (h j x e)) ih
  | vsnil sz => exact .vsnil sz
  | vs b o cap sz es r f hr hc hf hs h _ ih => exact .vs b o cap sz es r f hr hc hf hs (fun i e j x a b => hl.imm _ _ _ (h i e j x a b)) ih
  | vse a sz r hr => exact .vse a sz r hr
  | rs b id off len cap sz h hc hk => exact .rs b id off len cap sz (hl.rho _ _ h) hc (Nat.le_trans hk (hl.len b))
  | mapnil => exact .mapnil
  | map id b h => exact .map id b (hl.rho _ _ h)
  | fn g first cap first' cap' h1 h2 _ _ ih ih' => exact .fn g first cap first' cap' h1 h2 ih ih'
  | nilfn => exact .nilfn
  | ifc t v a _ ih => exact .ifc t v a ih
  | nilifc => exact .nilifc
  | agg cs vs hl' _ ih => exact .agg cs vs hl' ih
  | tup cs vs hl' _ ih => exact .tup cs vs hl' ih

/-- A value without its right. -/
theorem VR.strip1 {G : Gh} {v : Value} {a : AV} (h : VR G v a) : VR G v a.strip1 := by
  cases h with
  | vsnil sz => exact .vsnil sz
  | vs b o cap sz es r f hr hc hf hs h h2 =>
    refine .vs b o cap sz es r.strip f ?_ hc ?_ hs h h2
    · cases r <;> simp_all [Rt.strip]
    · cases r <;> simp_all [Rt.strip]
  | undef v => exact .undef v
  | int k n => exact .int k n
  | bool b => exact .bool b
  | str l => exact .str l
  | nil => exact .nil
  | ptr id off b h => exact .ptr id off b h
  | ep cs b o off f hc h h2 => exact .ep cs b o off f hc h h2
  | vse a sz r hr => exact .vse a sz r.strip (by rcases hr with rfl | rfl <;> simp [Rt.strip])
  | rs b id off len cap sz h hc hk => exact .rs b id off len cap sz h hc hk
  | mapnil => exact .mapnil
  | map id b h => exact .map id b h
  | fn g first cap first' cap' h1 h2 h3 h4 => exact .fn g first cap first' cap' h1 h2 h3 h4
  | nilfn => exact .nilfn
  | ifc t v a h => exact .ifc t v a h
  | nilifc => exact .nilifc
  | agg cs vs hl' h => exact .agg cs vs hl' h
  | tup cs vs hl' h => exact .tup cs vs hl' h

theorem VR.strip0 {G : Gh} {v : Value} {a : AV} (h : VR G v a) : VR G v a.strip0 := by
  cases a with
  | agg cs =>
    cases h with
    | agg _ vs hl h =>
      refine .agg _ vs (by simpa using hl) fun i x v hx hv => ?_
      simp only [List.getElem?_map, Option.map_eq_some_iff] at hx
      obtain ⟨y, hy, rfl⟩ := hx
      exact (h i y v hy hv).strip1
  | _ => exact h
theorem VR.strip2 {G : Gh} {v : Value} {a : AV} (h : VR G v a) : VR G v a.strip2 := by
  cases a with
  | agg cs => exact h.strip0
  | _ => exact h.strip1
theorem VR.strip {G : Gh} {v : Value} {a : AV} (h : VR G v a) : VR G v a.strip := by
  cases a with
  | tup cs =>
    cases h with
    | tup _ vs hl h =>
      refine .tup _ vs (by simpa using hl) fun i x v hx hv => ?_
      simp only [List.getElem?_map, Option.map_eq_some_iff] at hx
      obtain ⟨y, hy, rfl⟩ := hx
      exact (h i y v hy hv).strip2
  | _ => exact h.strip2

theorem AV.own_strip1 (a : AV) : a.strip1.own = false := by
  cases a <;> simp only [AV.strip1, AV.own]
  rename_i sz es r
  cases r <;> simp [Rt.strip]
theorem AV.free1_strip1 (a : AV) : a.strip1.free1 = a.free1 := by cases a <;> rfl
theorem AV.cell1_strip1 {a : AV} (h : a.free1 = true) : a.strip1.cell1 = true := by
  simp [AV.cell1, AV.own_strip1, AV.free1_strip1, h]
theorem AV.strip1_of_cell1 {a : AV} (h : a.own = false) : a.strip1 = a := by
  cases a <;> try rfl
  rename_i sz es r
  cases r <;> first | rfl | (simp [AV.own] at h)
theorem AV.strip_of_free1 {a : AV} (h : a.free1 = true) : a.strip = a.strip1 := by cases a <;> first | rfl | (simp [AV.free1] at h)
theorem AV.cells_of_free1 {a : AV} (h : a.free1 = true) : a.cells = [a] := by cases a <;> first | rfl | (simp [AV.free1] at h)
theorem AV.free_of_free1 {a : AV} (h : a.free1 = true) : a.free = true := by cases a <;> first | rfl | (simp [AV.free1] at h)
theorem AV.cell1.free1 {a : AV} (h : a.cell1 = true) : a.free1 = true := by simp [AV.cell1] at h; exact h.1
theorem AV.cell1.own {a : AV} (h : a.cell1 = true) : a.own = false := by simp [AV.cell1] at h; exact h.2
theorem AV.free_cases {a : AV} (h : a.free = true) : (a.free1 = true ∧ a.cells = [a]) ∨ ∃ cs, a = .agg cs ∧ ∀ c ∈ cs, c.free1 = true := by
  cases a <;> first | (left; exact ⟨h, rfl⟩) | (right; exact ⟨_, rfl, by simpa [AV.free] using h⟩)
theorem AV.cells_strip_cell1 {a : AV} (h : a.free = true) : ∀ c ∈ a.strip.cells, c.cell1 = true := by
  rcases AV.free_cases h with ⟨h1, h2⟩ | ⟨cs, rfl, h1⟩
  · rw [AV.strip_of_free1 h1]
    have : a.strip1.free1 = true := by rw [AV.free1_strip1]; exact h1
    rw [AV.cells_of_free1 this]
    simpa using AV.cell1_strip1 h1
  · simp only [AV.strip, AV.strip2, AV.cells, List.mem_map]
    rintro c ⟨x, hx, rfl⟩
    exact AV.cell1_strip1 (h1 x hx)
theorem AV.length_cells_strip {a : AV} (h : a.free = true) : a.strip.cells.length = a.cells.length := by
  rcases AV.free_cases h with ⟨h1, h2⟩ | ⟨cs, rfl, h1⟩
  · have : a.strip1.free1 = true := by rw [AV.free1_strip1]; exact h1
    rw [AV.strip_of_free1 h1, AV.cells_of_free1 this, h2]; rfl
  · simp [AV.strip, AV.strip2, AV.cells]
theorem VR.oneCell {G : Gh} {v : Value} {a : AV} (h : VR G v a) (hf : a.free1 = true) : v.oneCell' = true := by
  cases h <;> first | rfl | (simp [AV.free1] at hf)
theorem VR.cells_size {G : Gh} {v : Value} {a : AV} (h : VR G v a) (hf : a.free = true) : v.cells.size = a.cells.length := by
  rcases AV.free_cases hf with ⟨h1, h2⟩ | ⟨cs, rfl, h1⟩
  · rw [h2]; cases h <;> first | rfl | (simp [AV.free1] at h1)
  · cases h with
    | agg _ vs hl h => simpa [Value.cells, AV.cells] using hl
theorem VR.cells {G : Gh} {v : Value} {a : AV} (h : VR G v a) (hf : a.free = true) (i : Nat) (x : AV) (u : Value) (hx : a.cells[i]? = some x) (hu : v.cells[i]? = some u) : VR G u x := by
  rcases AV.free_cases hf with ⟨h1, h2⟩ | ⟨cs, rfl, h1⟩
  · rw [h2] at hx
    have hv : v.cells = #[v] := by
      have := h.oneCell h1
      cases v <;> first | rfl | (simp [Value.oneCell'] at this)
    rw [hv] at hu
    cases i with
    | zero => simp at hx hu; subst hx hu; exact h
    | succ i => simp at hx
  · cases h with
    | agg _ vs hl h => exact h i x u hx hu

/-- The buffer behind a slice that may be appended to in place. -/
def Tail (G : Gh) (w : World) (κ : Key) (v : Value) (a : AV) : Prop :=
  a.own = true → ∃ b o len cap, v = .slice (some ⟨b, o, none⟩) len cap ∧ ∃ sz es, a = .vs sz es .own ∧ es.length = len ∧
    (cap = len ∨ (G.role b = κ ∧ (∃ arr e, w.heap[b]? = some (.cells arr e (0, 0)) ∧ o + cap * sz ≤ arr.size) ∧ ∀ j, o + len * sz ≤ j → G.imm b j = none))
theorem Tail.of_not {G : Gh} {w : World} {κ : Key} {v : Value} {a : AV} (h : a.own = false) : Tail G w κ v a := fun e => by rw [h] at e; cases e

/-- A cell of memory. -/
structure CellR (G : Gh) (w : World) (κ : Key) (v : Value) (a : AV) : Prop where
  vr : VR G v a
  free : a.free1 = true
  tail : Tail G w κ v a
/-- A row of cells. -/
def RowR (G : Gh) (w : World) (κ : Nat → Key) (arr : Array Value) (cs : List AV) : Prop :=
  cs.length ≤ arr.size ∧ ∀ (j : Nat) (x : AV) (v : Value), cs[j]? = some x → arr[j]? = some v → CellR G w (κ j) v x

/-- A value in a slot: the whole, and its parts. -/
structure ValR (G : Gh) (w : World) (κ : Key) (κc : Nat → Key) (v : Value) (a : AV) : Prop where
  vr : VR G v a
  tail : Tail G w κ v a
  agg : ∀ cs, a = .agg cs → ∀ c ∈ cs, c.own = false
  comp : ∀ cs vs, a = .tup cs → v = .tuple vs → ∀ (i : Nat) (x : AV) (u : Value), cs[i]? = some x → vs[i]? = some u → Tail G w (κc i) u x
  comp2 : ∀ cs, a = .tup cs → ∀ x ∈ cs, (∀ ds, x = .agg ds → ∀ c ∈ ds, c.own = false) ∧ ∀ ds, x ≠ .tup ds

def entryR (G : Gh) (e : MapEntry) (p : AV × AV) : Prop := VR G e.key p.1 ∧ (∃ g, keyOk g p.1 = true) ∧ VR G e.val p.2 ∧ p.2.free = true ∧ ∀ c ∈ p.2.cells, c.own = false

structure Env where
  P : Program
  C : Ctx
  w0 : World

def ObjR (G : Gh) (w : World) (id : Nat) : Obj → Prop
  | .cells cs => ∃ b arr e, G.rho id = some b ∧ G.role b = .obj id ∧ w.heap[b]? = some (.cells arr e (0, 0)) ∧ RowR G w (.ocell id) arr cs
  | .map m => ∃ b es clk, G.rho id = some b ∧ G.role b = .obj id ∧ w.heap[b]? = some (.map es clk) ∧ es.size = m.length ∧ ∀ (i : Nat) (e : MapEntry) (p : AV × AV), es[i]? = some e → m[i]? = some p → entryR G e p
  | .dead => True

structure Rel (E : Env) (G : Gh) (w : World) (S : St) : Prop where
  os : w.os = E.w0.os
  tape : w.tape = E.w0.tape
  output : w.output = E.w0.output
  size : E.w0.heap.size ≤ w.heap.size
  old : ∀ b, b < E.w0.heap.size → w.heap[b]? = E.w0.heap[b]? ∧ G.role b = .ext
  imm : ∀ b o v, G.imm b o = some v → w.cell? ⟨b, o, none⟩ = some v
  role : ∀ b, w.heap.size ≤ b → G.role b = .ext
  noimm : ∀ b, ((∃ id, G.role b = .obj id) ∨ ∃ t, G.role b = .lbox t) → ∀ o, G.imm b o = none
  rho : ∀ id b, G.rho id = some b → id < S.length ∧ b < w.heap.size
  len : ∀ b, G.len b ≠ 0 → ∃ arr e, w.heap[b]? = some (.cells arr e (0, 0)) ∧ G.len b ≤ arr.size
  obj : ∀ id o, S[id]? = some o → ObjR G w id o

/-- What a piece of code may change: blocks whose role is among K. -/
structure Chg (K : Key → Prop) (G : Gh) (w : World) (G' : Gh) (w' : World) : Prop where
  le : G.Le G'
  size : w.heap.size ≤ w'.heap.size
  keep : ∀ b, b < w.heap.size → ¬ K (G.role b) → w'.heap[b]? = w.heap[b]? ∧ G'.role b = G.role b ∧ ∀ j, G'.imm b j = G.imm b j
theorem Chg.refl (K : Key → Prop) (G : Gh) (w : World) : Chg K G w G w := ⟨.refl G, Nat.le_refl _, fun _ _ _ => ⟨rfl, rfl, fun _ => rfl⟩⟩
theorem Chg.trans {K : Key → Prop} {G1 G2 G3 : Gh} {w1 w2 w3 : World} (h : Chg K G1 w1 G2 w2) (k : Chg K G2 w2 G3 w3) : Chg K G1 w1 G3 w3 :=
  ⟨h.le.trans k.le, Nat.le_trans h.size k.size, fun b hb hr => by
    obtain ⟨h1, h2, h3⟩ := h.keep b hb hr
    obtain ⟨k1, k2, k3⟩ := k.keep b (Nat.lt_of_lt_of_le hb h.size) (by rw [h2]; exact hr)
    exact ⟨k1.trans h1, k2.trans h2, fun j => (k3 j).trans (h3 j)⟩⟩
theorem Chg.weaken {K K' : Key → Prop} {G G' : Gh} {w w' : World} (h : Chg K G w G' w') (hk : ∀ κ, K κ → K' κ) : Chg K' G w G' w' :=
  ⟨h.le, h.size, fun b hb hr => h.keep b hb fun k => hr (hk _ k)⟩
/-- For the caller: blocks that are not the callee's own are as they were. -/
abbrev Kept := Chg (fun κ => κ ≠ .ext)

theorem Tail.chg {K : Key → Prop} {G G' : Gh} {w w' : World} (c : Chg K G w G' w') {κ : Key} {v : Value} {a : AV} (hk : ¬ K κ) (h : Tail G w κ v a) : Tail G' w' κ v a := by
  intro ho
  obtain ⟨b, o, len, cap, hv, sz, es, ha, hl, h⟩ := h ho
  refine ⟨b, o, len, cap, hv, sz, es, ha, hl, ?_⟩
  rcases h with h | ⟨hr, ⟨arr, e, hb, hs⟩, hi⟩
  · exact .inl h
  · have hlt : b < w.heap.size := (Array.getElem?_eq_some_iff.1 hb).1
    obtain ⟨k1, k2, k3⟩ := c.keep b hlt (by rw [hr]; exact hk)
    exact .inr ⟨k2.trans hr, ⟨arr, e, k1.trans hb, hs⟩, fun j hj => (k3 j).trans (hi j hj)⟩
theorem CellR.chg {K : Key → Prop} {G G' : Gh} {w w' : World} (c : Chg K G w G' w') {κ : Key} {v : Value} {a : AV} (hk : ¬ K κ) (h : CellR G w κ v a) : CellR G' w' κ v a :=
  ⟨h.vr.mono c.le, h.free, h.tail.chg c hk⟩
theorem RowR.chg {K : Key → Prop} {G G' : Gh} {w w' : World} (c : Chg K G w G' w') {κ : Nat → Key} {arr : Array Value} {cs : List AV} (hk : ∀ j, ¬ K (κ j)) (h : RowR G w κ arr cs) : RowR G' w' κ arr cs :=
  ⟨h.1, fun j x v hx hv => (h.2 j x v hx hv).chg c (hk j)⟩
theorem ValR.chg {K : Key → Prop} {G G' : Gh} {w w' : World} (c : Chg K G w G' w') {κ : Key} {κc : Nat → Key} {v : Value} {a : AV} (hk : ¬ K κ) (hc : ∀ i, ¬ K (κc i)) (h : ValR G w κ κc v a) : ValR G' w' κ κc v a :=
  ⟨h.vr.mono c.le, h.tail.chg c hk, h.agg, fun cs vs e1 e2 i x u hx hu => (h.comp cs vs e1 e2 i x u hx hu).chg c (hc i), h.comp2⟩
theorem entryR.mono {G G' : Gh} (hl : G.Le G') {e : MapEntry} {p : AV × AV} (h : entryR G e p) : entryR G' e p :=
  ⟨h.1.mono hl, h.2.1, h.2.2.1.mono hl, h.2.2.2⟩
theorem ObjR.chg {K : Key → Prop} {G G' : Gh} {w w' : World} (c : Chg K G w G' w') {id : Nat} {o : Obj} (hk : ¬ K (.obj id)) (hc : ∀ j, ¬ K (.ocell id j)) (h : ObjR G w id o) : ObjR G' w' id o := by
  cases o with
  | cells cs =>
    obtain ⟨b, arr, e, hr, ho, hb, hrow⟩ := h
    obtain ⟨k1, k2, k3⟩ := c.keep b (Array.getElem?_eq_some_iff.1 hb).1 (by rw [ho]; exact hk)
    exact ⟨b, arr, e, c.le.rho _ _ hr, k2.trans ho, k1.trans hb, hrow.chg c hc⟩
  | map m =>
    obtain ⟨b, es, clk, hr, ho, hb, hs, he⟩ := h
    obtain ⟨k1, k2, k3⟩ := c.keep b (Array.getElem?_eq_some_iff.1 hb).1 (by rw [ho]; exact hk)
    exact ⟨b, es, clk, c.le.rho _ _ hr, k2.trans ho, k1.trans hb, hs, fun i e p h1 h2 => (he i e p h1 h2).mono c.le⟩
  | dead => trivial

/-- Rights change hands: the blocks' roles under other names. -/
def Gh.relabel (G : Gh) (f : Key → Key) : Gh := { G with role := fun b => f (G.role b) }
theorem VR.relabel {G : Gh} {f : Key → Key} {v : Value} {a : AV} (h : VR G v a) : VR (G.relabel f) v a :=
  VR.mono (G := G) (G' := G.relabel f) ⟨fun _ _ _ h => h, fun _ _ h => h, fun _ => Nat.le_refl _⟩ h
theorem Tail.relabel {G : Gh} {w : World} {f : Key → Key} {κ : Key} {v : Value} {a : AV} (h : Tail G w κ v a) : Tail (G.relabel f) w (f κ) v a := by
  intro ho
  obtain ⟨b, o, len, cap, hv, sz, es, ha, hl, h⟩ := h ho
  exact ⟨b, o, len, cap, hv, sz, es, ha, hl, h.imp id fun ⟨hr, hs, hi⟩ => ⟨congrArg f hr, hs, hi⟩⟩
theorem CellR.relabel {G : Gh} {w : World} {f : Key → Key} {κ : Key} {v : Value} {a : AV} (h : CellR G w κ v a) : CellR (G.relabel f) w (f κ) v a :=
  ⟨h.vr.relabel, h.free, h.tail.relabel⟩
theorem RowR.relabel {G : Gh} {w : World} {f : Key → Key} {κ : Nat → Key} {arr : Array Value} {cs : List AV} (h : RowR G w κ arr cs) : RowR (G.relabel f) w (fun j => f (κ j)) arr cs :=
  ⟨h.1, fun j x v hx hv => (h.2 j x v hx hv).relabel⟩
theorem ValR.relabel {G : Gh} {w : World} {f : Key → Key} {κ : Key} {κc : Nat → Key} {v : Value} {a : AV} (h : ValR G w κ κc v a) : ValR (G.relabel f) w (f κ) (fun i => f (κc i)) v a :=
  ⟨h.vr.relabel, h.tail.relabel, h.agg, fun cs vs e1 e2 i x u hx hu => (h.comp cs vs e1 e2 i x u hx hu).relabel, h.comp2⟩
theorem ValR.rekey {G : Gh} {w : World} {κ κ' : Key} {κc κc' : Nat → Key} {v : Value} {a : AV} (h : ValR G w κ κc v a) (e1 : κ = κ') (e2 : ∀ i, κc i = κc' i) : ValR G w κ' κc' v a := by
  subst e1; obtain rfl : κc = κc' := funext e2; exact h
theorem RowR.rekey {G : Gh} {w : World} {κ κ' : Nat → Key} {arr : Array Value} {cs : List AV} (h : RowR G w κ arr cs) (e2 : ∀ i, κ i = κ' i) : RowR G w κ' arr cs := by
  obtain rfl : κ = κ' := funext e2; exact h

/-- A right-less value fits every key. -/
theorem ValR.of_free {G : Gh} {w : World} {κ : Key} {κc : Nat → Key} {v : Value} {a : AV} (h : VR G v a) (ht : ∀ cs, a ≠ .tup cs) (ho : a.own = false) (hg : ∀ cs, a = .agg cs → ∀ c ∈ cs, c.own = false) : ValR G w κ κc v a :=
  ⟨h, .of_not ho, hg, fun cs _ e => (ht cs e).elim, fun cs e => (ht cs e).elim⟩
theorem ValR.undef {G : Gh} {w : World} {κ : Key} {κc : Nat → Key} (v : Value) : ValR G w κ κc v .undef :=
  .of_free (.undef v) (by simp) rfl (by simp)
theorem ValR.of_cell1 {G : Gh} {w : World} {κ : Key} {κc : Nat → Key} {v : Value} {a : AV} (h : VR G v a) (hc : a.cell1 = true) : ValR G w κ κc v a :=
  .of_free h (by rintro cs rfl; simp [AV.cell1, AV.free1] at hc) (AV.cell1.own hc) (by rintro cs rfl; simp [AV.cell1, AV.free1] at hc)
theorem ValR.of_agg {G : Gh} {w : World} {κ : Key} {κc : Nat → Key} {v : Value} {cs : List AV} (h : VR G v (.agg cs)) (hc : ∀ c ∈ cs, c.own = false) : ValR G w κ κc v (.agg cs) :=
  .of_free h (by simp) rfl (by rintro _ ⟨⟩; exact hc)
theorem ValR.mkstrip {G : Gh} {w : World} {κ : Key} {κc : Nat → Key} {v : Value} {a : AV} (h : VR G v a)
    (h2 : ∀ cs, a = .tup cs → ∀ x ∈ cs, ∀ ds, x ≠ .tup ds) : ValR G w κ κc v a.strip := by
  refine ⟨h.strip, ?_, ?_, ?_, ?_⟩
  · refine .of_not ?_
    cases a with
    | vs sz es r => exact AV.own_strip1 (.vs sz es r)
    | _ => rfl
  · intro cs hcs c hc
    cases a with
    | agg ds =>
      simp only [AV.strip, AV.strip2, AV.agg.injEq] at hcs
      subst hcs
      simp only [List.mem_map] at hc
      obtain ⟨x, _, rfl⟩ := hc
      exact AV.own_strip1 x
    | _ => simp [AV.strip, AV.strip2, AV.strip1] at hcs
  · intro cs vs hcs hv i x u hx hu
    cases a with
    | tup ds =>
      simp only [AV.strip, AV.tup.injEq] at hcs
      subst hcs
      simp only [List.getElem?_map, Option.map_eq_some_iff] at hx
      obtain ⟨y, hy, rfl⟩ := hx
      refine .of_not ?_
      cases y with
      | vs sz es r => exact AV.own_strip1 (.vs sz es r)
      | _ => rfl
    | _ => simp [AV.strip, AV.strip2, AV.strip1] at hcs
  · intro cs hcs x hx
    cases a with
    | tup ds =>
      simp only [AV.strip, AV.tup.injEq] at hcs
      subst hcs
      simp only [List.mem_map] at hx
      obtain ⟨y, hy, rfl⟩ := hx
      have hn := h2 ds rfl y hy
      cases y with
      | tup _ => exact (hn _ rfl).elim
      | agg es =>
        refine ⟨?_, by simp [AV.strip2]⟩
        intro fs hfs c hc
        simp only [AV.strip2, AV.agg.injEq] at hfs
        subst hfs
        simp only [List.mem_map] at hc
        obtain ⟨z, _, rfl⟩ := hc
        exact AV.own_strip1 z
      | _ => exact ⟨by simp [AV.strip2, AV.strip1], by simp [AV.strip2, AV.strip1]⟩
    | _ => simp [AV.strip, AV.strip2, AV.strip1] at hcs
theorem ValR.strip {G : Gh} {w : World} {κ κ' : Key} {κc κc' : Nat → Key} {v : Value} {a : AV} (h : ValR G w κ κc v a) : ValR G w κ' κc' v a.strip :=
  .mkstrip h.vr fun cs e x hx => (h.comp2 cs e x hx).2

/-- What a call does, abstractly. -/
def ACalls (E : Env) (f : Nat) (args : List AV) (S : St) (Q : AV → St → Prop) : Prop :=
  (∃ fn, E.P.funcs[f]? = some fn ∧ fn.body.isNone = false ∧ (fn.name == "runtime.NumGoroutine") = false) ∧
  ∀ G w, Rel E G w S → (∀ b, (∃ id, G.role b = .obj id) ∨ (∃ id j, G.role b = .ocell id j) ∨ G.role b = .ext) → ∀ args' : Array Value, args'.size = args.length →
    (∀ (i : Nat) (x : AV) (v : Value), args[i]? = some x → args'[i]? = some v → VR G v x ∧ x.free = true ∧ x.strip = x) →
    Calls E.P f args' w fun e w' => ∃ v r S' G', e = .returned v ∧ Q r S' ∧ Rel E G' w' S' ∧ ValR G' w' .ret .retc v r ∧ Kept G w G' w' ∧
      ∀ b, (∃ id, G'.role b = .obj id) ∨ (∃ id j, G'.role b = .ocell id j) ∨ G'.role b = .ext ∨ G'.role b = .ret ∨ ∃ i, G'.role b = .retc i
end Go.Av
