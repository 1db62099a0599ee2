/- A part of the proof of a law of this seat: The type table, operands, a function's frame. No condition. -/
import Derived.Test.YtcmiahkfbnojnaaA1
set_option linter.all false
set_option linter.unusedVariables false
/-! The type table, operands, a function's frame. -/
namespace Go.Av

def zOk1 : Value → AV → Bool
  | .int k n, .int k' m => decide (k = k') && decide (n = m)
  | .bool a, .bool b => a == b
  | .string s, .str [] => s.data.toList.isEmpty
  | .pointer none, .nil => true
  | .slice none 0 0, .vs _ [] .nil => true
  | .map none, .map none => true
  | .nilFunc, .nilfn => true
  | .nilIface, .nilifc => true
  | _, _ => false
def zOk : List Value → List AV → Bool
  | [], [] => true
  | v :: l, a :: m => zOk1 v a && zOk l m
  | _, _ => false
def fieldsOk (P : Program) : List Field → List (Nat × Nat × Nat) → Bool
  | [], [] => true
  | f :: l, p :: m => f.offset == p.1 && f.type == p.2.1 && (match P.info? f.type with | some i => i.size == p.2.2 | none => false) && fieldsOk P l m
  | _, _ => false
def kindOk (P : Program) : TypeDesc → TK → Bool
  | .struct fs, .struct gs => fieldsOk P fs.toList gs
  | .slice e, .slice e' => e == e'
  | .array n e, .array n' e' => n == n' && e == e'
  | .map k e, .map k' e' => k == k' && e == e'
  | .string, .str => true
  | .int k, .int k' => decide (k = k')
  | .bool, .bool => true
  | .pointer e, .ptr e' => e == e'
  | .interface _, .iface => true
  | .func .., .func => true
  | _, _ => false
def aggOf : TypeDesc → Bool | .struct _ | .array _ _ => true | _ => false
def tyCheck (P : Program) (t : Nat) (ti : TI) : Bool :=
  match P.info? t, P.underlying t with
  | some i, some d => i.size == ti.size && i.bytes == ti.bytes && Nat.ble ti.bytes 1400 && Nat.ble ti.size 1400 && kindOk P d ti.kind && ti.agg == aggOf d &&
    match i.zero with
    | some (.agg cs) => aggOf d && cs.size == ti.size && zOk cs.toList ti.zero
    | some v => !aggOf d && ti.size == 1 && zOk [v] ti.zero
    | none => false
  | _, _ => false

theorem zOk1_VR {G : Gh} {v : Value} {a : AV} (h : zOk1 v a = true) : VR G v a ∧ a.cell1 = true := by
  unfold zOk1 at h
  split at h <;> (try (simp at h; done)) <;> (try (simp at h))
  · obtain ⟨rfl, rfl⟩ := h; exact ⟨.int _ _, rfl⟩
  · subst h; exact ⟨.bool _, rfl⟩
  · rename_i s
    refine ⟨?_, rfl⟩
    have : s = ⟨([] : List UInt8).toArray⟩ := by
      cases s with
      | mk d => simp at h; subst h; rfl
    rw [this]; exact .str []
  · exact ⟨.nil, rfl⟩
  · exact ⟨.vsnil _, rfl⟩
  · exact ⟨.mapnil, rfl⟩
  · exact ⟨.nilfn, rfl⟩
  · exact ⟨.nilifc, rfl⟩
theorem zOk_spec : ∀ {l : List Value} {m : List AV}, zOk l m = true → l.length = m.length ∧ ∀ (G : Gh) (i : Nat) (v : Value) (a : AV), l[i]? = some v → m[i]? = some a → VR G v a ∧ a.cell1 = true
  | [], [], _ => ⟨rfl, fun _ _ _ _ h => by simp at h⟩
  | v :: l, a :: m, h => by
    simp only [zOk, Bool.and_eq_true] at h
    obtain ⟨h1, h2⟩ := zOk_spec h.2
    refine ⟨by simp [h1], fun G i u b hu hb => ?_⟩
    cases i with
    | zero => simp at hu hb; subst hu hb; exact zOk1_VR h.1
    | succ i => exact h2 G i u b (by simpa using hu) (by simpa using hb)
  | [], _ :: _, h => by simp [zOk] at h
  | _ :: _, [], h => by simp [zOk] at h

structure TyOk (P : Program) (t : Nat) (ti : TI) : Prop where
  ex : ∃ i z d, P.info? t = some i ∧ i.size = ti.size ∧ i.bytes = ti.bytes ∧ i.zero = some z ∧ P.underlying t = some d ∧ kindOk P d ti.kind = true ∧ ti.agg = aggOf d ∧ z.cells.size = ti.size ∧ zOk z.cells.toList ti.zero = true ∧
    (∀ G, VR G z (zeroA ti))
  bytes : ti.bytes ≤ 1400
  cells : ti.size ≤ 1400
  len : ti.zero.length = ti.size
  cell : ∀ a ∈ ti.zero, a.cell1 = true
theorem tyCheck_spec {P : Program} {t : Nat} {ti : TI} (h : tyCheck P t ti = true) : TyOk P t ti := by
  unfold tyCheck at h
  split at h
  case h_2 => cases h
  rename_i i d hi hd
  simp only [Bool.and_eq_true, beq_iff_eq] at h
  obtain ⟨⟨⟨⟨⟨⟨h1, h2⟩, h3⟩, h3'⟩, h4⟩, h5⟩, h6⟩ := h
  have key : ∃ z, i.zero = some z ∧ z.cells.size = ti.size ∧ zOk z.cells.toList ti.zero = true ∧ ∀ G, VR G z (zeroA ti) := by
    split at h6
    · rename_i cs hz
      simp only [Bool.and_eq_true, beq_iff_eq] at h6
      refine ⟨_, hz, h6.1.2, h6.2, fun G => ?_⟩
      have := zOk_spec h6.2
      simp only [zeroA, h5, h6.1.1, if_true]
      refine .agg _ _ (by simpa using this.1) fun i x v hx hv => (this.2 G i v x (by simpa using hv) hx).1
    · rename_i v hn hz
      simp only [Bool.and_eq_true, Bool.not_eq_true', beq_iff_eq] at h6
      have hc : v.cells = #[v] := by cases v <;> first | rfl | (rename_i cs; exact (hn cs rfl).elim)
      refine ⟨v, hz, by rw [hc]; simp [h6.1.2], by rw [hc]; exact h6.2, fun G => ?_⟩
      have := zOk_spec h6.2
      simp only [zeroA, h5, h6.1.1]
      cases hzz : ti.zero with
      | nil => rw [hzz] at this; simp at this
      | cons a l =>
        rw [hzz] at this
        exact (this.2 G 0 v a rfl rfl).1
    · cases h6
  obtain ⟨z, hz, k1, k2, k3⟩ := key
  have k := zOk_spec k2
  refine ⟨⟨i, z, d, hi, h1, h2, hz, hd, h4, h5, k1, k2, k3⟩, Nat.le_of_ble_eq_true h3, Nat.le_of_ble_eq_true h3', by rw [← k.1]; simpa using k1, fun a ha => ?_⟩
  obtain ⟨j, hj⟩ := List.getElem?_of_mem ha
  have hlt : j < z.cells.toList.length := by rw [k.1]; exact (List.getElem?_eq_some_iff.1 hj).1
  exact (k.2 ⟨fun _ _ => none, fun _ => none, fun _ => .ext, fun _ => 0⟩ j _ a (List.getElem?_eq_getElem hlt) hj).2

/-- What a seat brings: its table agrees with the program. -/
structure Agree (E : Env) : Prop where
  ty : ∀ t, E.C.has t = true → TyOk E.P t (E.C.ty t)
  eq : ∀ t, E.C.eqk t = true → ∀ G v u xs ys b, VR G v (.agg xs) → VR G u (.agg ys) → typedCells (E.C.ty t).zero xs = true → cellsEq xs ys = some b → ∀ w, (Op.equal t v u).run E.P w = .ok b w
  eqg : ∀ t, E.C.eqk t = true → ∀ op x y v u w, (eqGuard op t x y (.agg v) (.agg u)).run E.P w = .ok () w
  key : ∀ t, E.C.eqk t = true → ∀ G v xs, VR G v (.agg xs) → typedCells (E.C.ty t).zero xs = true → ∀ e w, (Instr.checkKey e 10000 t v).run E.P w = .ok () w
  meth : ∀ t m g, E.C.meth t m = some g → ∀ v w, (method (E.P.types.size + Made.depth) t v m).run E.P w = .ok (g, v) w

theorem fieldsOk_get {P : Program} : ∀ {l : List Field} {m : List (Nat × Nat × Nat)}, fieldsOk P l m = true → l.length = m.length ∧ ∀ (i : Nat) (p : Nat × Nat × Nat), m[i]? = some p →
    ∃ f inf, l[i]? = some f ∧ f.offset = p.1 ∧ f.type = p.2.1 ∧ P.info? f.type = some inf ∧ inf.size = p.2.2
  | [], [], _ => ⟨rfl, fun _ _ h => by simp at h⟩
  | f :: l, p :: m, h => by
    simp only [fieldsOk, Bool.and_eq_true, beq_iff_eq] at h
    obtain ⟨⟨⟨h1, h2⟩, h3⟩, h4⟩ := h
    obtain ⟨k1, k2⟩ := fieldsOk_get h4
    refine ⟨by simp [k1], fun i q hq => ?_⟩
    cases i with
    | zero =>
      simp at hq
      subst hq
      split at h3
      · rename_i inf hinf
        exact ⟨f, inf, rfl, h1, h2, hinf, by simpa using h3⟩
      · cases h3
    | succ i => simpa using k2 i q (by simpa using hq)
  | [], _ :: _, h => by simp [fieldsOk] at h
  | _ :: _, [], h => by simp [fieldsOk] at h


theorem resolveTmp_loc {C : Ctx} {f : Nat} : ∀ {l : List Oper} {x b off : Nat}, resolveTmp C f x l = some (b, off) → C.loc f b = true
  | [], x, b, off, h => by
    simp only [resolveTmp] at h
    split at h
    · rename_i hl; cases h; exact hl
    · cases h
  | o :: l, x, b, off, h => by
    simp only [resolveTmp] at h
    split at h
    · rename_i hl; cases h; exact hl
    · split at h
      · unfold opRes at h
        split at h
        · split at h
          · rename_i h1 h2; cases h; exact resolveTmp_loc h1
          · cases h
        · split at h
          · split at h
            · rename_i h1 h2 _ _; cases h; exact resolveTmp_loc h1
            · cases h
          · cases h
        · exact resolveTmp_loc h
        · exact resolveTmp_loc h
        · cases h
      · split at h
        · rename_i h1
          split at h
          · cases h
          · cases h; exact resolveTmp_loc h1
        · cases h

abbrev Act.at (a : Act) (t : Nat) : Value := a.tmps.getD t undef

structure FrR (E : Env) (f n : Nat) (G : Gh) (w : World) (a : Act) (fr : Fr) : Prop where
  defers : a.defers = []
  size : n ≤ a.tmps.size
  slot : ∀ t, ValR G w (.slot t) (.slotc t) (Act.at a t) (fr.v t)
  box : ∀ t cs, fr.b t = some cs → E.C.loc f t = true ∧ ∃ b arr e, Act.at a t = .pointer (some ⟨b, 0, none⟩) ∧ G.role b = .lbox t ∧ w.heap[b]? = some (.cells arr e (0, 0)) ∧ RowR G w (.bcell t) arr cs

/-- A value points into the local box b. -/
def PtrVal (a : Act) (fr : Fr) (b off : Nat) (v : Value) : Prop :=
  ∀ cs, fr.b b = some cs → ∃ blk, Act.at a b = .pointer (some ⟨blk, 0, none⟩) ∧ v = .pointer (some ⟨blk, off, none⟩)
def PR (C : Ctx) (f : Nat) (before : List Oper) (a : Act) (fr : Fr) : Prop :=
  ∀ x b off, resolveTmp C f x before = some (b, off) → PtrVal a fr b off (Act.at a x)

structure RF (E : Env) (f n : Nat) (Gs : Gh) (ws : World) (G : Gh) (w : World) (S : St) (a : Act) (fr : Fr) (before : List Oper) : Prop where
  rel : Rel E G w S
  frr : FrR E f n G w a fr
  kept : Kept Gs ws G w
  pr : PR E.C f before a fr

theorem Act.at_put {a : Act} {n : Nat} (hs : n ≤ a.tmps.size) {dst : Option Nat} {v : Value} (hd : ∀ d, dst = some d → d < n) (t : Nat) :
    Act.at (a.put dst v) t = if dst = some t then v else Act.at a t := by
  cases dst with
  | none => simp [Act.put, Act.at]
  | some d =>
    have h1 := hd d rfl
    simp only [Act.put, Act.at, Option.some.injEq]
    by_cases h : d = t
    · subst h
      have hlt : d < a.tmps.size := Nat.lt_of_lt_of_le h1 hs
      simp [hlt]
    · simp [h]
theorem Act.size_put {a : Act} {dst : Option Nat} {v : Value} : (a.put dst v).tmps.size = a.tmps.size := by
  cases dst <;> simp [Act.put]
theorem Act.defers_put {a : Act} {dst : Option Nat} {v : Value} : (a.put dst v).defers = a.defers := by
  cases dst <;> simp [Act.put]
theorem Fr.v_put {fr : Fr} {dst : Option Nat} {x : AV} (t : Nat) : (fr.put dst x).v t = if dst = some t then x else fr.v t := by
  cases dst with
  | none => simp [Fr.put]
  | some d => simp only [Fr.put, Fr.set, Option.some.injEq]; by_cases h : t = d <;> simp [h, eq_comm]
theorem Fr.b_put {fr : Fr} {dst : Option Nat} {x : AV} (t : Nat) : (fr.put dst x).b t = fr.b t := by cases dst <;> rfl
theorem dstEq_iff {o : Oper} {x : Nat} : dstEq o x = true ↔ o.dst = some x := by
  unfold dstEq; cases o.dst <;> simp

section
variable {E : Env} {f n : Nat} {Gs G : Gh} {ws w : World} {S : St} {a : Act} {fr : Fr} {before : List Oper}

theorem FrR.put (h : FrR E f n G w a fr) {dst : Option Nat} {v : Value} {x : AV} (hd : ∀ d, dst = some d → d < n ∧ E.C.loc f d = false)
    (hv : ∀ d, dst = some d → ValR G w (.slot d) (.slotc d) v x) : FrR E f n G w (a.put dst v) (fr.put dst x) := by
  have hat := fun t => Act.at_put h.size (v := v) (fun d e => (hd d e).1) t
  refine ⟨by rw [Act.defers_put]; exact h.defers, by rw [Act.size_put]; exact h.size, fun t => ?_, fun t cs hb => ?_⟩
  · rw [hat, Fr.v_put]
    by_cases e : dst = some t
    · simp only [e, if_true]; exact hv t e
    · simp only [e, if_false]; exact h.slot t
  · rw [Fr.b_put] at hb
    obtain ⟨h1, h2⟩ := h.box t cs hb
    refine ⟨h1, ?_⟩
    have : dst ≠ some t := fun e => by have := (hd t e).2; rw [h1] at this; cases this
    rw [hat]; simp only [this, if_false]; exact h2

theorem PR.put (hs : n ≤ a.tmps.size) (h : PR E.C f before a fr) (hbox : ∀ t cs, fr.b t = some cs → ∃ b, Act.at a t = .pointer (some ⟨b, 0, none⟩)) {o : Oper} {v : Value} {x : AV} (hd : ∀ d, o.dst = some d → d < n ∧ E.C.loc f d = false)
    (hp : ∀ d, o.dst = some d → ∀ b off, opRes E.C (fun y => resolveTmp E.C f y before) o.op = some (b, off) → PtrVal a fr b off v) :
    PR E.C f (o :: before) (a.put o.dst v) (fr.put o.dst x) := by
  intro x' b off hr
  have hat := fun t => Act.at_put hs (v := v) (fun d e => (hd d e).1) t
  have hloc := resolveTmp_loc hr
  have hbd : o.dst ≠ some b := fun e => by have := (hd b e).2; rw [hloc] at this; cases this
  intro cs hcs
  rw [Fr.b_put] at hcs
  rw [hat b, hat x']
  simp only [hbd, if_false]
  simp only [resolveTmp] at hr
  split at hr
  · cases hr
    obtain ⟨blk, hb⟩ := hbox _ _ hcs
    simp only [hbd, if_false]
    exact ⟨blk, hb, hb⟩
  · split at hr
    · rename_i hde
      rw [dstEq_iff] at hde
      simp only [hde, if_true]
      exact hp x' hde b off hr cs hcs
    · rename_i hde
      have hne : o.dst ≠ some x' := fun e => by rw [dstEq_iff.2 e] at hde; cases hde
      simp only [hne, if_false]
      split at hr
      · rename_i h1
        split at hr
        · cases hr
        · cases hr; exact h _ _ _ h1 cs hcs
      · cases hr

theorem RF.hbox (h : RF E f n Gs ws G w S a fr before) : ∀ t cs, fr.b t = some cs → ∃ b, Act.at a t = .pointer (some ⟨b, 0, none⟩) := fun t cs e => by
  obtain ⟨_, b, _, _, hb, _⟩ := h.frr.box t cs e; exact ⟨b, hb⟩

/-- An operation's value comes into its slot. -/
theorem RF.put (h : RF E f n Gs ws G w S a fr before) {o : Oper} {v : Value} {x : AV} (hd : ∀ d, o.dst = some d → d < n ∧ E.C.loc f d = false)
    (hv : ∀ d, o.dst = some d → ValR G w (.slot d) (.slotc d) v x)
    (hp : ∀ d, o.dst = some d → ∀ b off, opRes E.C (fun y => resolveTmp E.C f y before) o.op = some (b, off) → PtrVal a fr b off v) :
    RF E f n Gs ws G w S (a.put o.dst v) (fr.put o.dst x) (o :: before) :=
  ⟨h.rel, h.frr.put hd hv, h.kept, h.pr.put h.frr.size h.hbox hd hp⟩

/-- How roles may be renamed when the right at slot x goes elsewhere. -/
structure Moves (x : Nat) (g : Key → Key) : Prop where
  fix : ∀ κ, κ ≠ .slot x → (∀ i, κ ≠ .slotc x i) → g κ = κ
  obj : ∀ κ id, g κ = .obj id → κ = .obj id
  lbox : ∀ κ t, g κ = .lbox t → κ = .lbox t

theorem Rel.relabel {g : Key → Key} (h : Rel E G w S) (h1 : g .ext = .ext) (h2 : ∀ κ id, g κ = .obj id → κ = .obj id) (h3 : ∀ κ t, g κ = .lbox t → κ = .lbox t) (h4 : ∀ id, g (.obj id) = .obj id)
    (h5 : ∀ id j, g (.ocell id j) = .ocell id j) : Rel E (G.relabel g) w S :=
  ⟨h.os, h.tape, h.output, h.size, fun b hb => ⟨(h.old b hb).1, by simp only [Gh.relabel, (h.old b hb).2, h1]⟩, h.imm, fun b hb => by simp only [Gh.relabel, h.role b hb, h1],
   fun b hb o => h.noimm b (hb.imp (fun ⟨id, e⟩ => ⟨id, h2 _ _ e⟩) (fun ⟨t, e⟩ => ⟨t, h3 _ _ e⟩)) o, h.rho, h.len, fun id o ho => by
    have := h.obj id o ho
    cases o with
    | cells cs =>
      obtain ⟨b, arr, e, hr, hb, hh, hrow⟩ := this
      exact ⟨b, arr, e, hr, by simp only [Gh.relabel, hb, h4], hh, hrow.relabel.rekey fun j => h5 id j⟩
    | map m =>
      obtain ⟨b, es, clk, hr, hb, hh, hs, he⟩ := this
      exact ⟨b, es, clk, hr, by simp only [Gh.relabel, hb, h4], hh, hs, fun i e p e1 e2 => entryR.mono (G := G) (G' := G.relabel g) ⟨fun _ _ _ h => h, fun _ _ h => h, fun _ => Nat.le_refl _⟩ (he i e p e1 e2)⟩
    | dead => trivial⟩
theorem Kept.relabel {g : Key → Key} (h : Kept Gs ws G w) (h1 : g .ext = .ext) : Kept Gs ws (G.relabel g) w :=
  ⟨⟨fun b o v e => h.le.imm b o v e, fun i b e => h.le.rho i b e, fun b => h.le.len b⟩, h.size, fun b hb hr => by
    obtain ⟨k1, k2, k3⟩ := h.keep b hb hr
    have : Gs.role b = .ext := by simpa using hr
    exact ⟨k1, by simp only [Gh.relabel, k2, this, h1], k3⟩⟩
theorem Moves.id (x : Nat) : Moves x id := ⟨fun _ _ _ => rfl, fun _ _ h => h, fun _ _ h => h⟩

/-- The right at slot x goes elsewhere. -/
theorem RF.stripAt (h : RF E f n Gs ws G w S a fr before) {x : Nat} {g : Key → Key} (hg : Moves x g) :
    RF E f n Gs ws (G.relabel g) w S a (fr.set x (fr.v x).strip) before ∧ ValR (G.relabel g) w (g (.slot x)) (fun i => g (.slotc x i)) (Act.at a x) (fr.v x) := by
  have fx : ∀ κ, κ ≠ .slot x → (∀ i, κ ≠ .slotc x i) → g κ = κ := hg.fix
  refine ⟨⟨h.rel.relabel (fx _ (by simp) (by simp)) hg.obj hg.lbox (fun _ => fx _ (by simp) (by simp)) (fun _ _ => fx _ (by simp) (by simp)), ⟨h.frr.defers, h.frr.size, fun t => ?_, fun t cs hb => ?_⟩,
    h.kept.relabel (fx _ (by simp) (by simp)), fun y b off hr cs hb => h.pr y b off hr cs hb⟩, (h.frr.slot x).relabel⟩
  · simp only [Fr.set]
    by_cases e : t = x
    · subst e
      simp only [if_true]
      exact ((h.frr.slot t).relabel (f := g)).strip
    · simp only [e, if_false]
      exact ((h.frr.slot t).relabel (f := g)).rekey (fx _ (by simpa using e) (by simp)) (fun i => fx _ (by simp) (by simp [e]))
  · obtain ⟨h1, b, arr, e, h2, h3, h4, h5⟩ := h.frr.box t cs hb
    exact ⟨h1, b, arr, e, h2, by simp only [Gh.relabel, h3]; exact fx _ (by simp) (by simp), h4, h5.relabel.rekey fun j => fx _ (by simp) (by simp)⟩

/-- x's right goes to d. -/
def mvSlot (x d : Nat) : Key → Key
  | .slot t => if t = x then .slot d else .slot t
  | .slotc t i => if t = x then .slotc d i else .slotc t i
  | κ => κ
theorem Moves.mvSlot (x d : Nat) : Moves x (mvSlot x d) := by
  refine ⟨fun κ h1 h2 => ?_, fun κ id h => ?_, fun κ t h => ?_⟩
  · cases κ <;> simp_all [Av.mvSlot]
  · cases κ <;> simp_all [Av.mvSlot] <;> (split at h <;> cases h)
  · cases κ <;> simp_all [Av.mvSlot] <;> (split at h <;> cases h)
/-- x's right goes to the cell κ. -/
def mvKey (x : Nat) (κ : Key) : Key → Key
  | .slot t => if t = x then κ else .slot t
  | κ => κ
theorem Moves.mvKey (x : Nat) {κ : Key} (h1 : ∀ id, κ ≠ .obj id) (h2 : ∀ t, κ ≠ .lbox t) : Moves x (mvKey x κ) := by
  refine ⟨fun κ' a b => ?_, fun κ' id h => ?_, fun κ' t h => ?_⟩
  · cases κ' <;> simp_all [Av.mvKey]
  · cases κ' <;> simp_all [Av.mvKey] <;> (split at h <;> simp_all)
  · cases κ' <;> simp_all [Av.mvKey] <;> (split at h <;> simp_all)


theorem ofConst_VR (C : Ctx) (G : Gh) (t : Nat) (v : Value) : VR G v (ofConst C t v) ∧ (ofConst C t v = .undef ∨ (ofConst C t v).cell1 = true) := by
  cases v with
  | int k m => exact ⟨.int k m, .inr rfl⟩
  | bool b => exact ⟨.bool b, .inr rfl⟩
  | string s => exact ⟨.str s.data.toList, .inr rfl⟩
  | pointer p => cases p with | none => exact ⟨.nil, .inr rfl⟩ | some p => exact ⟨.undef _, .inl rfl⟩
  | slice p l c =>
    unfold ofConst
    split <;> (try exact ⟨.undef _, .inl rfl⟩)
    all_goals (try (rename_i h; cases h))
    split
    · exact ⟨.vsnil _, .inr rfl⟩
    · exact ⟨.undef _, .inl rfl⟩
  | map p => cases p with | none => exact ⟨.mapnil, .inr rfl⟩ | some p => exact ⟨.undef _, .inl rfl⟩
  | nilFunc => exact ⟨.nilfn, .inr rfl⟩
  | nilIface => exact ⟨.nilifc, .inr rfl⟩
  | _ => exact ⟨.undef _, .inl rfl⟩
theorem ValR.ofConst (C : Ctx) {G : Gh} {w : World} {κ : Key} {κc : Nat → Key} (t : Nat) (v : Value) : ValR G w κ κc v (ofConst C t v) := by
  obtain ⟨h1, h2 | h2⟩ := ofConst_VR C G t v
  · rw [h2]; exact .undef _
  · exact .of_cell1 h1 h2
theorem ValR.func {G : Gh} {w : World} {κ : Key} {κc : Nat → Key} (g : Nat) : ValR G w κ κc (.func (.func g) #[] #[]) (.fn g [] []) :=
  .of_cell1 (.fn g [] [] #[] #[] rfl rfl (by simp) (by simp)) rfl

/-- An operand's right goes to the slot d. -/
theorem RF.takeTo (h : RF E f n Gs ws G w S a fr before) (x : Operand) (t d : Nat) :
    ∃ G', RF E f n Gs ws G' w S a (fr.stripAt x) before ∧ G.Le G' ∧ ValR G' w (.slot d) (.slotc d) (a.eval x) (opd E.C fr t x) := by
  cases x with
  | tmp x =>
    obtain ⟨h1, h2⟩ := h.stripAt (Moves.mvSlot x d)
    exact ⟨_, h1, ⟨fun _ _ _ h => h, fun _ _ h => h, fun _ => Nat.le_refl _⟩, h2.rekey (by simp [mvSlot]) (fun i => by simp [mvSlot])⟩
  | const v => exact ⟨G, h, .refl G, .ofConst _ t v⟩
  | func g => exact ⟨G, h, .refl G, .func g⟩
  | global g => exact ⟨G, h, .refl G, .undef _⟩
/-- An operand. -/
theorem FrR.opd (h : FrR E f n G w a fr) (t : Nat) (x : Operand) : ∃ κ κc, ValR G w κ κc (a.eval x) (Av.opd E.C fr t x) := by
  cases x with
  | tmp x => exact ⟨_, _, h.slot x⟩
  | const v => exact ⟨.ext, fun _ => .ext, .ofConst _ t v⟩
  | func g => exact ⟨.ext, fun _ => .ext, .func g⟩
  | global g => exact ⟨.ext, fun _ => .ext, .undef _⟩
theorem FrR.opdV (h : FrR E f n G w a fr) (t : Nat) (x : Operand) : VR G (a.eval x) (Av.opd E.C fr t x) := by
  obtain ⟨_, _, k⟩ := h.opd t x; exact k.vr
theorem FrR.opdStrip (h : FrR E f n G w a fr) (t : Nat) (x : Operand) {κ : Key} {κc : Nat → Key} : ValR G w κ κc (a.eval x) (Av.opd E.C fr t x).strip := by
  obtain ⟨_, _, k⟩ := h.opd t x; exact k.strip
end
end Go.Av
