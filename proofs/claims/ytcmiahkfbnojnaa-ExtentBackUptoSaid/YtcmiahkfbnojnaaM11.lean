/- Parts of the proofs of this seat: abstract values over the model, and what the functions of the program do. No condition. -/
import Derived.Test.YtcmiahkfbnojnaaM10
import Derived.IntWalk
import Derived.Shelf.Strings.Builder1
set_option linter.all false
set_option linter.unusedVariables false
set_option linter.unusedSimpArgs false
/-! Reckoning with abstract values. -/
namespace Go.Av
section
variable {α : Type}
@[simp] theorem optK_some' {x : α} {k : α → Prop} : optK (some x) k = k x := rfl
@[simp] theorem optK_none' {k : α → Prop} : optK none k = False := rfl
theorem joinK_eq {r : α} {b : α → Prop} : joinK r b = b r := rfl
@[simp] theorem ifK_true {A B : Prop} : ifK (.bool true) A B = A := rfl
@[simp] theorem ifK_false {A B : Prop} : ifK (.bool false) A B = B := rfl
theorem ifK_bool {b : Bool} {A B : Prop} : ifK (.bool b) A B = if b = true then A else B := by cases b <;> rfl
theorem ifK_intro {b : Bool} {A B : Prop} (h1 : b = true → A) (h2 : b = false → B) : ifK (.bool b) A B := by
  cases b
  · exact h2 rfl
  · exact h1 rfl
theorem ifK_iff {p : Prop} [Decidable p] {A B : Prop} (h1 : p → A) (h2 : ¬ p → B) : ifK (.bool (decide p)) A B := by
  by_cases h : p
  · simpa [ifK, h] using h1 h
  · simpa [ifK, h] using h2 h
@[simp] theorem gK_true {A B Z : Prop} : gK (.bool true) A B Z = A := rfl
@[simp] theorem gK_false {A B Z : Prop} : gK (.bool false) A B Z = B := rfl
@[simp] theorem gK_tup' {A B Z : Prop} : gK (.tup []) A B Z = Z := rfl
end
@[simp] theorem strip_int (k : IntKind) (n : Int) : AV.strip (.int k n) = .int k n := rfl
@[simp] theorem strip_bool (b : Bool) : AV.strip (.bool b) = .bool b := rfl
@[simp] theorem strip_str (s : List UInt8) : AV.strip (.str s) = .str s := rfl
@[simp] theorem strip_nil : AV.strip .nil = .nil := rfl
@[simp] theorem strip_ptr (i o : Nat) : AV.strip (.ptr i o) = .ptr i o := rfl
@[simp] theorem strip_ep (c : List AV) (o : Nat) : AV.strip (.ep c o) = .ep c o := rfl
@[simp] theorem strip_vs (z : Nat) (es : List (List AV)) (r : Rt) : AV.strip (.vs z es r) = .vs z es r.strip := rfl
@[simp] theorem strip_rs (a b c d : Nat) : AV.strip (.rs a b c d) = .rs a b c d := rfl
@[simp] theorem strip_map (m : Option Nat) : AV.strip (.map m) = .map m := rfl
@[simp] theorem strip_fn (f : Nat) (a b : List AV) : AV.strip (.fn f a b) = .fn f a b := rfl
@[simp] theorem strip_nilfn : AV.strip .nilfn = .nilfn := rfl
@[simp] theorem strip_ifc (t : Nat) (v : AV) : AV.strip (.ifc t v) = .ifc t v := rfl
@[simp] theorem strip_nilifc : AV.strip .nilifc = .nilifc := rfl
@[simp] theorem strip_agg (cs : List AV) : AV.strip (.agg cs) = .agg (cs.map AV.strip1) := rfl
@[simp] theorem strip_undef : AV.strip .undef = .undef := rfl
@[simp] theorem strip_tup (cs : List AV) : AV.strip (.tup cs) = .tup (cs.map AV.strip2) := rfl
@[simp] theorem strip1_int (k : IntKind) (n : Int) : AV.strip1 (.int k n) = .int k n := rfl
@[simp] theorem strip1_bool (b : Bool) : AV.strip1 (.bool b) = .bool b := rfl
@[simp] theorem strip1_str (s : List UInt8) : AV.strip1 (.str s) = .str s := rfl
@[simp] theorem strip1_vs (z : Nat) (es : List (List AV)) (r : Rt) : AV.strip1 (.vs z es r) = .vs z es r.strip := rfl
@[simp] theorem strip1_map (m : Option Nat) : AV.strip1 (.map m) = .map m := rfl
@[simp] theorem strip1_ptr (i o : Nat) : AV.strip1 (.ptr i o) = .ptr i o := rfl
@[simp] theorem strip1_nil : AV.strip1 .nil = .nil := rfl
@[simp] theorem strip1_fn (f : Nat) (a b : List AV) : AV.strip1 (.fn f a b) = .fn f a b := rfl
@[simp] theorem strip1_ifc (t : Nat) (v : AV) : AV.strip1 (.ifc t v) = .ifc t v := rfl
@[simp] theorem strip0_vs (z : Nat) (es : List (List AV)) (r : Rt) : AV.strip0 (.vs z es r) = .vs z es r := rfl
@[simp] theorem strip0_agg (cs : List AV) : AV.strip0 (.agg cs) = .agg (cs.map AV.strip1) := rfl
@[simp] theorem rt_strip_own (t : Nat) : Rt.strip (.own t) = .none := rfl
@[simp] theorem rt_strip_nil : Rt.strip .nil = .nil := rfl
@[simp] theorem rt_strip_full : Rt.strip .full = .full := rfl
@[simp] theorem rt_strip_none : Rt.strip .none = .none := rfl
theorem loadA_ptr {i : TI} {S : St} {id off tg : Nat} {cs : List AV} (h : S[id]? = some (.cells cs tg)) : loadA i S (.ptr id off) = readT i cs off := by simp [loadA, objCells, h]
@[simp] theorem loadA_ep {i : TI} {S : St} {off : Nat} {cs : List AV} : loadA i S (.ep cs off) = readT i cs off := rfl
theorem storeA_ptr {i : TI} {S : St} {id off tg : Nat} {cs : List AV} {x : AV} (h : S[id]? = some (.cells cs tg)) : storeA i S (.ptr id off) x = (storeCellsA i cs off x).map fun cs' => S.set id (.cells cs' tg) := by simp [storeA, objCells, objTag, h]
@[simp] theorem stripMem_ptr {S : St} {id off tg : Nat} {cs : List AV} (h : S[id]? = some (.cells cs tg)) : stripMem S (.ptr id off) = S.set id (.cells (cs.modify off AV.strip1) tg) := by simp [stripMem, objCells, objTag, h]
theorem wrap64 {n : Int} (h1 : -9223372036854775808 ≤ n) (h2 : n ≤ 9223372036854775807) : IntKind.i64.wrap n = n := IntWalk.i64_in n ⟨h1, h2⟩
/-- Ints in a slice. -/
def wInt (x : Int) : List AV := [.int .i64 x]
theorem getSet_self {S : St} {id : Nat} {o o' : Obj} (h : S[id]? = some o) : (S.set id o')[id]? = some o' := by
  have := (List.getElem?_eq_some_iff.1 h).1
  simp [this]
theorem getSet_other {S : St} {id j : Nat} {o' : Obj} (h : id ≠ j) : (S.set id o')[j]? = S[j]? := by simp [h]

@[simp] theorem stripTup_0 (a : AV) (l : List AV) : stripTup (.tup (a :: l)) 0 = .tup (a.strip2 :: l) := rfl
@[simp] theorem stripTup_1 (a b : AV) (l : List AV) : stripTup (.tup (a :: b :: l)) 1 = .tup (a :: b.strip2 :: l) := rfl
@[simp] theorem stripTup_2 (a b c : AV) (l : List AV) : stripTup (.tup (a :: b :: c :: l)) 2 = .tup (a :: b :: c.strip2 :: l) := rfl
@[simp] theorem stripTup_3 (a b c d : AV) (l : List AV) : stripTup (.tup (a :: b :: c :: d :: l)) 3 = .tup (a :: b :: c :: d.strip2 :: l) := rfl
@[simp] theorem extractA_0 (a : AV) (l : List AV) : extractA (.tup (a :: l)) 0 = some a := rfl
@[simp] theorem extractA_1 (a b : AV) (l : List AV) : extractA (.tup (a :: b :: l)) 1 = some b := rfl
@[simp] theorem extractA_2 (a b c : AV) (l : List AV) : extractA (.tup (a :: b :: c :: l)) 2 = some c := rfl
@[simp] theorem extractA_3 (a b c d : AV) (l : List AV) : extractA (.tup (a :: b :: c :: d :: l)) 3 = some d := rfl
@[simp] theorem strip2_int (k : IntKind) (n : Int) : AV.strip2 (.int k n) = .int k n := rfl
@[simp] theorem strip2_bool (b : Bool) : AV.strip2 (.bool b) = .bool b := rfl
@[simp] theorem strip2_str (s : List UInt8) : AV.strip2 (.str s) = .str s := rfl
@[simp] theorem strip2_nil : AV.strip2 .nil = .nil := rfl
@[simp] theorem strip2_ptr (i o : Nat) : AV.strip2 (.ptr i o) = .ptr i o := rfl
@[simp] theorem strip2_vs (z : Nat) (es : List (List AV)) (r : Rt) : AV.strip2 (.vs z es r) = .vs z es r.strip := rfl
@[simp] theorem strip2_map (m : Option Nat) : AV.strip2 (.map m) = .map m := rfl
@[simp] theorem strip2_agg (cs : List AV) : AV.strip2 (.agg cs) = .agg (cs.map AV.strip1) := rfl
@[simp] theorem strip0_int (k : IntKind) (n : Int) : AV.strip0 (.int k n) = .int k n := rfl
@[simp] theorem flat_int (k : IntKind) (n : Int) : AV.flat (.int k n) = .int k n := rfl
@[simp] theorem flat_bool (b : Bool) : AV.flat (.bool b) = .bool b := rfl
@[simp] theorem flat_str (s : List UInt8) : AV.flat (.str s) = .str s := rfl
@[simp] theorem flat_vs (z : Nat) (es : List (List AV)) (r : Rt) : AV.flat (.vs z es r) = .vs z es r := rfl
@[simp] theorem flat_agg (cs : List AV) : AV.flat (.agg cs) = .agg cs := rfl
@[simp] theorem flat_ptr (i o : Nat) : AV.flat (.ptr i o) = .ptr i o := rfl
@[simp] theorem flat_nil : AV.flat .nil = .nil := rfl
@[simp] theorem nilA_ptr (i o : Nat) : nilA (.ptr i o) = some (.ptr i o) := rfl
@[simp] theorem nilA_ep (c : List AV) (o : Nat) : nilA (.ep c o) = some (.ep c o) := rfl
@[simp] theorem movePtr_ptr (i o d : Nat) : movePtr (.ptr i o) d = some (.ptr i (o + d)) := rfl
@[simp] theorem movePtr_ep (c : List AV) (o d : Nat) : movePtr (.ep c o) d = some (.ep c (o + d)) := rfl
@[simp] theorem pickA_true (a b : AV) : pickA (.bool true) a b = some a := rfl
@[simp] theorem pickA_false (a b : AV) : pickA (.bool false) a b = some b := rfl
@[simp] theorem unA_not (b : Bool) : unA .not (.bool b) = some (.bool (!b)) := rfl
@[simp] theorem binA_add (k : IntKind) (a b : Int) : binA .add (.int k a) (.int k b) = some (.int k (k.wrap (a + b))) := by simp [binA, intBin]
@[simp] theorem binA_sub (k : IntKind) (a b : Int) : binA .sub (.int k a) (.int k b) = some (.int k (k.wrap (a - b))) := by simp [binA, intBin]
@[simp] theorem binA_mul (k : IntKind) (a b : Int) : binA .mul (.int k a) (.int k b) = some (.int k (k.wrap (a * b))) := by simp [binA, intBin]
@[simp] theorem binA_eql (k : IntKind) (a b : Int) : binA .eql (.int k a) (.int k b) = some (.bool (decide (a = b))) := by simp [binA, intBin]; rfl
@[simp] theorem binA_neq (k : IntKind) (a b : Int) : binA .neq (.int k a) (.int k b) = some (.bool (decide (a ≠ b))) := by simp [binA, intBin]; by_cases h : a = b <;> simp [h]
@[simp] theorem binA_lss (k : IntKind) (a b : Int) : binA .lss (.int k a) (.int k b) = some (.bool (decide (a < b))) := by simp [binA, intBin]
@[simp] theorem binA_leq (k : IntKind) (a b : Int) : binA .leq (.int k a) (.int k b) = some (.bool (decide (a ≤ b))) := by simp [binA, intBin]
@[simp] theorem binA_gtr (k : IntKind) (a b : Int) : binA .gtr (.int k a) (.int k b) = some (.bool (decide (a > b))) := by simp [binA, intBin]
@[simp] theorem binA_geq (k : IntKind) (a b : Int) : binA .geq (.int k a) (.int k b) = some (.bool (decide (a ≥ b))) := by simp [binA, intBin]
@[simp] theorem binE_bool_eql (a b : Bool) : binE .bool .eql (.bool a) (.bool b) = some (.bool (a == b)) := rfl
@[simp] theorem binE_bool_neq (a b : Bool) : binE .bool .neq (.bool a) (.bool b) = some (.bool (!(a == b))) := rfl
@[simp] theorem lenSlA_vs (z : Nat) (es : List (List AV)) (r : Rt) : lenSlA (.vs z es r) = some (.int .i64 es.length) := rfl
@[simp] theorem lenStrA_str (s : List UInt8) : lenStrA (.str s) = some (.int .i64 s.length) := rfl
@[simp] theorem callK_def {Ca : Nat → List AV → St → (AV → St → Prop) → Prop} {g : Nat} {xs : List AV} {S : St} {k : AV → St → Prop} : callK Ca g xs S k = optK (argsA xs) fun xs => Ca g xs S k := rfl
@[simp] theorem free_int (k : IntKind) (n : Int) : AV.free (.int k n) = true := rfl
@[simp] theorem free_bool (b : Bool) : AV.free (.bool b) = true := rfl
@[simp] theorem free_str (s : List UInt8) : AV.free (.str s) = true := rfl
@[simp] theorem free_vs (z : Nat) (es : List (List AV)) (r : Rt) : AV.free (.vs z es r) = true := rfl
@[simp] theorem free_ptr (i o : Nat) : AV.free (.ptr i o) = true := rfl
@[simp] theorem free_nil : AV.free .nil = true := rfl
@[simp] theorem free_map (m : Option Nat) : AV.free (.map m) = true := rfl
@[simp] theorem free_agg (cs : List AV) : AV.free (.agg cs) = cs.all AV.free1 := rfl
@[simp] theorem free_fn (f : Nat) (a b : List AV) : AV.free (.fn f a b) = true := rfl
@[simp] theorem free_ifc (t : Nat) (v : AV) : AV.free (.ifc t v) = true := rfl
@[simp] theorem free1_int (k : IntKind) (n : Int) : AV.free1 (.int k n) = true := rfl
@[simp] theorem free1_bool (b : Bool) : AV.free1 (.bool b) = true := rfl
@[simp] theorem free1_str (s : List UInt8) : AV.free1 (.str s) = true := rfl
@[simp] theorem free1_vs (z : Nat) (es : List (List AV)) (r : Rt) : AV.free1 (.vs z es r) = true := rfl
@[simp] theorem free1_ptr (i o : Nat) : AV.free1 (.ptr i o) = true := rfl
@[simp] theorem free1_map (m : Option Nat) : AV.free1 (.map m) = true := rfl
@[simp] theorem cells_int (k : IntKind) (n : Int) : AV.cells (.int k n) = [.int k n] := rfl
@[simp] theorem cells_bool (b : Bool) : AV.cells (.bool b) = [.bool b] := rfl
@[simp] theorem cells_str (s : List UInt8) : AV.cells (.str s) = [.str s] := rfl
@[simp] theorem cells_vs (z : Nat) (es : List (List AV)) (r : Rt) : AV.cells (.vs z es r) = [.vs z es r] := rfl
@[simp] theorem cells_ptr (i o : Nat) : AV.cells (.ptr i o) = [.ptr i o] := rfl
@[simp] theorem cells_map (m : Option Nat) : AV.cells (.map m) = [.map m] := rfl
@[simp] theorem cells_agg (cs : List AV) : AV.cells (.agg cs) = cs := rfl
attribute [simp] readT argsA storeCellsA writeAt lloadA lstoreA boxA partA noTup buildA fillA fillE elemVals stripBox
theorem mapUpdateA_new {g : KK} {S : St} {id : Nat} {es : List (AV × AV)} {key x : AV} (h : S[id]? = some (.map es)) (hk : keyOk g key = true) (hx : x.free = true) (hf : findA key es 0 = some none) :
    mapUpdateA g S (.map (some id)) key x = some (S.set id (.map (es ++ [(key, x.strip)]))) := by simp [mapUpdateA, hk, hx, objMap, h, hf]
theorem mapUpdateA_old {g : KK} {S : St} {id i : Nat} {es : List (AV × AV)} {key x v : AV} (h : S[id]? = some (.map es)) (hk : keyOk g key = true) (hx : x.free = true) (hf : findA key es 0 = some (some (i, v))) :
    mapUpdateA g S (.map (some id)) key x = some (S.set id (.map (es.modify i fun p => (p.1, x.strip)))) := by simp [mapUpdateA, hk, hx, objMap, h, hf]
theorem deleteA_none {g : KK} {S : St} {id : Nat} {es : List (AV × AV)} {key : AV} (h : S[id]? = some (.map es)) (hk : keyOk g key = true) (hf : findA key es 0 = some none) :
    deleteA g S (.map (some id)) key = some S := by simp [deleteA, hk, objMap, h, hf]
theorem deleteA_some {g : KK} {S : St} {id i : Nat} {es : List (AV × AV)} {key v : AV} (h : S[id]? = some (.map es)) (hk : keyOk g key = true) (hf : findA key es 0 = some (some (i, v))) :
    deleteA g S (.map (some id)) key = some (S.set id (.map (es.eraseIdx i))) := by simp [deleteA, hk, objMap, h, hf]
@[simp] theorem convIntA_int (k k' : IntKind) (n : Int) : convIntA k (.int k' n) = some (.int k (k.wrap n)) := rfl
theorem binA_rem (k : IntKind) (a b : Int) (hb : b ≠ 0) : binA .rem (.int k a) (.int k b) = some (.int k (a.tmod b)) := by simp [binA, intBin, hb]
theorem binA_quo (k : IntKind) (a b : Int) (hb : b ≠ 0) : binA .quo (.int k a) (.int k b) = some (.int k (k.wrap (a.tdiv b))) := by simp [binA, intBin, hb]

/-- 'or', 'and' in a condition. -/
@[simp] theorem or_join {c : Bool} {k : AV → Prop} {B : (AV → Prop) → Prop} :
    joinK (fun x => optK (pickA (.bool c) (.bool true) x) k) (fun j => ifK (.bool c) (j (.tup [])) (B j)) = joinK k (fun j => ifK (.bool c) (j (.bool true)) (B j)) := by cases c <;> rfl
@[simp] theorem and_join {c : Bool} {k : AV → Prop} {B : (AV → Prop) → Prop} :
    joinK (fun x => optK (pickA (.bool c) x (.bool false)) k) (fun j => ifK (.bool c) (B j) (j (.tup []))) = joinK k (fun j => ifK (.bool c) (B j) (j (.bool false))) := by cases c <;> rfl
@[simp] theorem or_joinS {c : Bool} {k : St → AV → Prop} {S : St} {B : (AV → St → Prop) → Prop} :
    joinK (fun x S => optK (pickA (.bool c) (.bool true) x) (k S)) (fun j => ifK (.bool c) (j (.tup []) S) (B j)) = joinK (fun x S => k S x) (fun j => ifK (.bool c) (j (.bool true) S) (B j)) := by cases c <;> rfl
@[simp] theorem and_joinS {c : Bool} {k : St → AV → Prop} {S : St} {B : (AV → St → Prop) → Prop} :
    joinK (fun x S => optK (pickA (.bool c) x (.bool false)) (k S)) (fun j => ifK (.bool c) (B j) (j (.tup []) S)) = joinK (fun x S => k S x) (fun j => ifK (.bool c) (B j) (j (.bool false) S)) := by cases c <;> rfl
@[simp] theorem or_pure {c d : Bool} {k : AV → Prop} : joinK k (fun j => ifK (.bool c) (j (.bool true)) (j (.bool d))) = k (.bool (c || d)) := by cases c <;> rfl
@[simp] theorem and_pure {c d : Bool} {k : AV → Prop} : joinK k (fun j => ifK (.bool c) (j (.bool d)) (j (.bool false))) = k (.bool (c && d)) := by cases c <;> rfl
@[simp] theorem join_one {α : Type} {k : α → Prop} {x : α} : joinK k (fun j => j x) = k x := rfl
@[simp] theorem join_one2 {α β : Type} {k : α → β → Prop} {x : α} {y : β} : joinK k (fun j => j x y) = k x y := rfl
theorem joinK_gen {α : Type} {r : α} {b : α → Prop} (J : α → Prop) (h1 : J r) (h2 : ∀ j, J j → b j) : joinK r b := h2 r h1
theorem ifK_b {c : Bool} {A B : Prop} (h1 : c = true → A) (h2 : c = false → B) : ifK (.bool c) A B := ifK_intro h1 h2
/-- What a loop's body is to come to. -/
structure Nx {σ : Type} (e : σ → Lv) (Inv : Nat → σ → St → Prop) (n : Nat) (x : Lv) (S' : St) : Prop where
  ex : ∃ m s', m < n ∧ x = e s' ∧ Inv m s' S'
/-- A loop, by what it carries. -/
theorem loopQ_by {σ : Type} {x0 : Lv} {pj : (Nat → AV) → (Nat → Option (List AV)) → Lv} {body : (Lv → St → Prop) → (Nat → AV) → (Nat → Option (List AV)) → St → Prop} {S : St} (e : σ → Lv) (Inv : Nat → σ → St → Prop) (n0 : Nat) (s0 : σ)
    (h0 : x0 = e s0) (hi : Inv n0 s0 S) (hb : ∀ n s S v b, Inv n s S → pj v b = e s → body (Nx e Inv n) v b S) : loopQ x0 pj body S := by
  refine ⟨fun n x S => ∃ s, x = e s ∧ Inv n s S, ⟨n0, s0, h0, hi⟩, ?_⟩
  rintro n v b S ⟨s, hx, hI⟩
  have := hb n s S v b hI hx
  have e2 : Nx e Inv n = (fun x S' => ∃ m, m < n ∧ ∃ s, x = e s ∧ Inv m s S') := by
    funext x S'
    apply propext
    constructor
    · rintro ⟨m, s', h1, h2, h3⟩
      exact ⟨m, h1, s', h2, h3⟩
    · rintro ⟨m, h1, s', h2, h3⟩
      exact ⟨m, s', h1, h2, h3⟩
  rw [← e2]
  exact this
structure Nl {σ : Type} (e : Nat → σ → Lv) (Inv : Nat → σ → St → Prop) (k i : Nat) (x : Lv) (S' : St) : Prop where
  ex : ∃ j s', i < j ∧ j ≤ k ∧ x = e j s' ∧ Inv j s' S'
theorem Nl.next {σ : Type} {e : Nat → σ → Lv} {Inv : Nat → σ → St → Prop} {k i : Nat} {x : Lv} {S' : St} (h : i < k) (s' : σ) (hx : x = e (i + 1) s') (hi : Inv (i + 1) s' S') : Nl e Inv k i x S' := ⟨i + 1, s', by omega, by omega, hx, hi⟩
/-- A loop over a list. -/
theorem loop_list {α σ : Type} {x0 : Lv} {pj : (Nat → AV) → (Nat → Option (List AV)) → Lv} {body : (Lv → St → Prop) → (Nat → AV) → (Nat → Option (List AV)) → St → Prop} {S : St} (l : List α) (e : Nat → σ → Lv) (Inv : Nat → σ → St → Prop) (s0 : σ)
    (h0 : x0 = e 0 s0) (hi : Inv 0 s0 S)
    (hs : ∀ i s S v b x, i < l.length → l[i]? = some x → l.drop i = x :: l.drop (i + 1) → (i : Int) < l.length → x ∈ l → Inv i s S → pj v b = e i s → body (Nl e Inv l.length i) v b S)
    (he : ∀ s S v b, Inv l.length s S → pj v b = e l.length s → ∀ N, body N v b S) : loopQ x0 pj body S := by
  refine ⟨fun n x S => ∃ s, n ≤ l.length ∧ x = e (l.length - n) s ∧ Inv (l.length - n) s S, ⟨l.length, s0, Nat.le_refl _, by rw [Nat.sub_self]; exact h0, by rw [Nat.sub_self]; exact hi⟩, ?_⟩
  rintro n v b S ⟨s, hn, hx, hI⟩
  by_cases c : l.length - n < l.length
  · have hh := hs (l.length - n) s S v b l[l.length - n] c (by simp [c]) (List.drop_eq_getElem_cons c) (by omega) (List.getElem_mem c) hI hx
    have : (Nl e Inv l.length (l.length - n)) = (fun x S' => ∃ m, m < n ∧ ∃ s, m ≤ l.length ∧ x = e (l.length - m) s ∧ Inv (l.length - m) s S') := by
      funext x S'
      apply propext
      constructor
      · rintro ⟨j, s', h1, h2, h3, h4⟩
        have : l.length - (l.length - j) = j := by omega
        exact ⟨l.length - j, by omega, s', by omega, by rw [this]; exact h3, by rw [this]; exact h4⟩
      · rintro ⟨m, h1, s', h2, h3, h4⟩
        exact ⟨l.length - m, s', by omega, by omega, h3, h4⟩
    rw [← this]
    exact hh
  · have : l.length - n = l.length := by omega
    rw [this] at hx hI
    exact he s S v b hI hx _
@[simp] theorem rt_strip_strip (r : Rt) : r.strip.strip = r.strip := by cases r <;> rfl
@[simp] theorem minA_int (k : IntKind) (x y : Int) : minA [.int k x, .int k y] = some (.int k (if y < x then y else x)) := by simp [minA]
@[simp] theorem maxA_int (k : IntKind) (x y : Int) : maxA [.int k x, .int k y] = some (.int k (if y > x then y else x)) := by simp [maxA]
@[simp] theorem idxSlA_vs (ei : TI) (es : List (List AV)) (r : Rt) (k : IntKind) (i sz : Nat) : idxSlA ei (.vs sz es r) (.int k (i : Int)) = if sz = ei.size then (es[i]?).map (.ep · 0) else none := by simp [idxSlA]
@[simp] theorem idxSlA_vs_lit (ei : TI) (es : List (List AV)) (r : Rt) (k : IntKind) (i sz : Nat) : idxSlA ei (.vs sz es r) (.int k (no_index (OfNat.ofNat i))) = if sz = ei.size then (es[i]?).map (.ep · 0) else none := idxSlA_vs ei es r k i sz
@[simp] theorem charA_str {s : List UInt8} {k : IntKind} {i : Nat} : charA (.str s) (.int k (i : Int)) = (s[i]?).map (fun b => .int .u8 b.toNat) := by simp [charA]

@[simp] theorem str_beq (a b : List UInt8) : (a == b) = decide (a = b) := by by_cases h : a = b <;> simp [h]
@[simp] theorem int_beq (a b : Int) : (a == b) = decide (a = b) := by by_cases h : a = b <;> simp [h]
@[simp] theorem binA_eql_str (a b : List UInt8) : binA .eql (.str a) (.str b) = some (.bool (decide (a = b))) := by simp [binA, strBin]
@[simp] theorem binA_neq_str (a b : List UInt8) : binA .neq (.str a) (.str b) = some (.bool (!decide (a = b))) := by simp [binA, strBin]
@[simp] theorem binA_lss_str (a b : List UInt8) : binA .lss (.str a) (.str b) = some (.bool (Op.bytesLess a b)) := rfl
@[simp] theorem binA_geq_str (a b : List UInt8) : binA .geq (.str a) (.str b) = some (.bool (!Op.bytesLess a b)) := rfl
theorem binA_add_str {a b : List UInt8} (h : a.length + b.length ≤ 1000000000000) : binA .add (.str a) (.str b) = some (.str (a ++ b)) := by simp [binA, strBin, h]
/-- What stands at a place of a list. -/
theorem at_lt {α : Type} {l : List α} {i : Nat} (c : i < l.length) : ∃ x, l[i]? = some x ∧ l.drop i = x :: l.drop (i + 1) ∧ (i : Int) < l.length ∧ x ∈ l :=
  ⟨l[i], by simp [c], List.drop_eq_getElem_cons c, by omega, List.getElem_mem c⟩
theorem at_end {α : Type} {l : List α} {i : Nat} (hi : i ≤ l.length) (c : ¬ i < l.length) : i = l.length ∧ l.drop i = [] ∧ ¬ ((i : Int) < l.length) := by
  have : i = l.length := by omega
  subst this
  simp

/-- x[i:k]. -/
theorem cutStr_int (s : List UInt8) (k1 k2 : IntKind) (a b : Int) (ha : 0 ≤ a) (hab : a ≤ b) (hb : b ≤ s.length) : cutStrA (.str s) (some (.int k1 a)) (some (.int k2 b)) = some (.str ((s.take b.toNat).drop a.toNat)) := by
  have h2 : a ≤ (b.toNat : Int) := by omega
  simp [cutStrA, bnd, ha, hb, show 0 ≤ b by omega]
  omega
@[simp] theorem cutStr_lh (s : List UInt8) (k1 k2 : IntKind) (i k : Nat) : cutStrA (.str s) (some (.int k1 i)) (some (.int k2 k)) = if i ≤ k ∧ k ≤ s.length then some (.str ((s.take k).drop i)) else none := by
  by_cases h1 : k ≤ s.length
  · by_cases h2 : i ≤ k
    · simp [cutStrA, bnd, h1, h2]
    · simp [cutStrA, bnd, h1, h2]
  · simp [cutStrA, bnd, h1]
@[simp] theorem cutStr_l (s : List UInt8) (k1 : IntKind) (i : Nat) : cutStrA (.str s) (some (.int k1 i)) none = if i ≤ s.length then some (.str (s.drop i)) else none := by
  by_cases h2 : i ≤ s.length <;> simp [cutStrA, bnd, h2]
@[simp] theorem cutStr_h (s : List UInt8) (k2 : IntKind) (k : Nat) : cutStrA (.str s) none (some (.int k2 k)) = if k ≤ s.length then some (.str (s.take k)) else none := by
  by_cases h2 : k ≤ s.length <;> simp [cutStrA, bnd, h2]
@[simp] theorem cutStr_l_lit (s : List UInt8) (k1 : IntKind) (i : Nat) : cutStrA (.str s) (some (.int k1 (no_index (OfNat.ofNat i)))) none = if i ≤ s.length then some (.str (s.drop i)) else none := cutStr_l s k1 i
@[simp] theorem cutStr_h_lit (s : List UInt8) (k1 : IntKind) (i : Nat) : cutStrA (.str s) none (some (.int k1 (no_index (OfNat.ofNat i)))) = if i ≤ s.length then some (.str (s.take i)) else none := cutStr_h s k1 i
@[simp] theorem cutA_lh (ei : TI) (sz : Nat) (es : List (List AV)) (r : Rt) (k1 k2 : IntKind) (i k : Nat) :
    cutA ei (.vs sz es r) (some (.int k1 i)) (some (.int k2 k)) none = if sz = ei.size ∧ (i ≤ k ∧ k ≤ es.length) ∧ (r = .nil → es = []) then some (.vs sz ((es.take k).drop i) (if k = es.length then r else .none)) else none := by
  by_cases h0 : sz = ei.size
  case neg => simp [cutA, h0]
  by_cases h1 : k ≤ es.length
  case neg => simp [cutA, bnd, h0, h1]
  by_cases h2 : i ≤ k
  case neg => simp [cutA, bnd, h0, h1, h2]
  by_cases hr : r = .nil
  · subst hr
    by_cases he : es = []
    · subst he
      have : k = 0 := by simpa using h1
      subst this
      have : i = 0 := by omega
      subst this
      simp [cutA, bnd, h0]
    · simp [cutA, bnd, h0, h1, h2, he]
  · simp [cutA, bnd, h0, h1, h2, hr]
@[simp] theorem cutA_l (ei : TI) (sz : Nat) (es : List (List AV)) (r : Rt) (k1 : IntKind) (i : Nat) :
    cutA ei (.vs sz es r) (some (.int k1 i)) none none = if sz = ei.size ∧ i ≤ es.length ∧ (r = .nil → es = []) then some (.vs sz (es.drop i) r) else none := by
  have h := cutA_lh ei sz es r k1 k1 i es.length
  have e : cutA ei (.vs sz es r) (some (.int k1 i)) none none = cutA ei (.vs sz es r) (some (.int k1 i)) (some (.int k1 es.length)) none := by simp [cutA, bnd]
  rw [e, h]
  simp
@[simp] theorem cutA_h (ei : TI) (sz : Nat) (es : List (List AV)) (r : Rt) (k1 : IntKind) (k : Nat) :
    cutA ei (.vs sz es r) none (some (.int k1 k)) none = if sz = ei.size ∧ k ≤ es.length ∧ (r = .nil → es = []) then some (.vs sz (es.take k) (if k = es.length then r else .none)) else none := by
  have h := cutA_lh ei sz es r k1 k1 0 k
  have e : cutA ei (.vs sz es r) none (some (.int k1 k)) none = cutA ei (.vs sz es r) (some (.int k1 (0 : Nat))) (some (.int k1 k)) none := by simp [cutA, bnd]
  rw [e, h]
  simp
@[simp] theorem cutA_l_lit (ei : TI) (sz : Nat) (es : List (List AV)) (r : Rt) (k1 : IntKind) (i : Nat) :
    cutA ei (.vs sz es r) (some (.int k1 (no_index (OfNat.ofNat i)))) none none = if sz = ei.size ∧ i ≤ es.length ∧ (r = .nil → es = []) then some (.vs sz (es.drop i) r) else none := cutA_l ei sz es r k1 i
@[simp] theorem cutA_h_lit (ei : TI) (sz : Nat) (es : List (List AV)) (r : Rt) (k1 : IntKind) (k : Nat) :
    cutA ei (.vs sz es r) none (some (.int k1 (no_index (OfNat.ofNat k)))) none = if sz = ei.size ∧ k ≤ es.length ∧ (r = .nil → es = []) then some (.vs sz (es.take k) (if k = es.length then r else .none)) else none := cutA_h ei sz es r k1 k

@[simp] theorem strip0_str (s : List UInt8) : AV.strip0 (.str s) = .str s := rfl
@[simp] theorem strip0_bool (b : Bool) : AV.strip0 (.bool b) = .bool b := rfl
@[simp] theorem strip0_ptr (i o : Nat) : AV.strip0 (.ptr i o) = .ptr i o := rfl
@[simp] theorem strip0_nil : AV.strip0 .nil = .nil := rfl
@[simp] theorem strip0_map (m : Option Nat) : AV.strip0 (.map m) = .map m := rfl
@[simp] theorem strip0_rs (a b c d : Nat) : AV.strip0 (.rs a b c d) = .rs a b c d := rfl
@[simp] theorem strip2_nilifc : AV.strip2 .nilifc = .nilifc := rfl
@[simp] theorem flat_nilifc : AV.flat .nilifc = .nilifc := rfl
@[simp] theorem flat_map (m : Option Nat) : AV.flat (.map m) = .map m := rfl
@[simp] theorem flat_rs (a b c d : Nat) : AV.flat (.rs a b c d) = .rs a b c d := rfl
@[simp] theorem flat_fn (f : Nat) (a b : List AV) : AV.flat (.fn f a b) = .fn f a b := rfl
@[simp] theorem free_nilifc : AV.free .nilifc = true := rfl
@[simp] theorem free1_nilifc : AV.free1 .nilifc = true := rfl
@[simp] theorem free1_nil : AV.free1 .nil = true := rfl
@[simp] theorem free1_fn (f : Nat) (a b : List AV) : AV.free1 (.fn f a b) = true := rfl
@[simp] theorem free1_rs (a b c d : Nat) : AV.free1 (.rs a b c d) = true := rfl
@[simp] theorem free_rs (a b c d : Nat) : AV.free (.rs a b c d) = true := rfl
@[simp] theorem free1_ifc (t : Nat) (v : AV) : AV.free1 (.ifc t v) = true := rfl
@[simp] theorem strip1_nilifc : AV.strip1 .nilifc = .nilifc := rfl
@[simp] theorem strip1_rs (a b c d : Nat) : AV.strip1 (.rs a b c d) = .rs a b c d := rfl
@[simp] theorem strip1_nilfn : AV.strip1 .nilfn = .nilfn := rfl
@[simp] theorem free1_nilfn : AV.free1 .nilfn = true := rfl
@[simp] theorem cells_nil : AV.cells .nil = [.nil] := rfl
@[simp] theorem cells_rs (a b c d : Nat) : AV.cells (.rs a b c d) = [.rs a b c d] := rfl
@[simp] theorem cells_fn (f : Nat) (a b : List AV) : AV.cells (.fn f a b) = [.fn f a b] := rfl
@[simp] theorem cells_ifc (t : Nat) (v : AV) : AV.cells (.ifc t v) = [.ifc t v] := rfl
@[simp] theorem cells_nilifc : AV.cells .nilifc = [.nilifc] := rfl
end Go.Av
set_option linter.unusedVariables false
/-! The data of the program, as Lean's. -/
namespace Go.Av
abbrev Str := List UInt8
/-- An extent. -/
structure Ext where
  off : Int
  data : Str
  deriving DecidableEq
@[simp] def Ext.c (x : Ext) : List AV := [.int .i64 x.off, .str x.data]

/-- What there was is there. -/
def Sx (S S' : St) : Prop := ∀ j, j < S.length → S'[j]? = S[j]?
theorem Sx.refl (S : St) : Sx S S := fun _ _ => rfl
theorem Sx.le {S S' : St} (h : Sx S S') : S.length ≤ S'.length := by
  by_cases c : S.length ≤ S'.length
  · exact c
  · have := h S'.length (by omega)
    have h2 : S'[S'.length]? = none := by simp
    rw [h2] at this
    have h3 : S[S'.length]? = some (S[S'.length]'(by omega)) := by simp
    rw [h3] at this; cases this
theorem Sx.trans {A B D : St} (h : Sx A B) (k : Sx B D) : Sx A D := fun j hj => (k j (Nat.lt_of_lt_of_le hj h.le)).trans (h j hj)
theorem Sx.app (S T : St) : Sx S (S ++ T) := fun j hj => by rw [List.getElem?_append_left hj]
theorem Sx.get {S S' : St} (h : Sx S S') {j : Nat} {o : Obj} (e : S[j]? = some o) : S'[j]? = some o := (h j (List.getElem?_eq_some_iff.1 e).1).trans e
end Go.Av
set_option linter.unusedVariables false
set_option linter.unusedSimpArgs false
/-! strings.Builder, abstractly: from the shelf's contracts. -/
namespace Go.Av
open Go.RowKit Go.Proofs Go.Shelf
theorem setCell_eq_setRow {w : World} {b : Nat} {arr : Array Value} {e : TypeId} (hb : w.heap[b]? = some (.cells arr e (0, 0))) (v : Value) : w.setCell ⟨b, 0, none⟩ v = w.setRow b (arr.setIfInBounds 0 v) := by
  have hlt := (Array.getElem?_eq_some_iff.1 hb).1
  unfold World.setCell World.setRow
  congr 1
  apply Array.ext_getElem?
  intro i
  rw [Array.getElem?_modify, Array.getElem?_modify]
  by_cases h : b = i
  · subst h
    simp [hb]
  · simp [h]

theorem copyCheck_A {E : Env} {ρ : Ren} (L : Lays.n240 E.P ρ) (X : Builder.X72 E.P ρ) (h0 : ρ.t 72 ≠ 0) {S : St} {id : Nat} {c buf : AV} (hS : S[id]? = some (.cells [c, buf] (ρ.t 72))) (hc : c = .nil ∨ c = .ptr id 0) :
    ACalls E (ρ.f 240) [.ptr id 0] S fun r S' => S' = S.set id (.cells [.ptr id 0, buf] (ρ.t 72)) := by
  refine ⟨⟨_, L.f240, by kernel_rfl, by kernel_rfl⟩, fun G w hrel hrole args' hl ha => ?_⟩
  obtain ⟨v, rfl⟩ : ∃ v, args' = #[v] := by
    match args', hl with
    | ⟨[v]⟩, _ => exact ⟨v, rfl⟩
  have hv := (ha 0 (.ptr id 0) v rfl rfl).1
  cases hv with
  | ptr _ _ b hrho =>
    obtain ⟨b', arr, e, k1, k2, k3, k4, k5⟩ := hrel.obj id _ hS
    rw [hrho] at k1
    cases k1
    obtain ⟨rfl, hsz⟩ := k5 h0
    have hid : id < S.length := (List.getElem?_eq_some_iff.1 hS).1
    have hex : ∀ b, (∃ id, G.role b = .obj id) ∨ (∃ id j, G.role b = .ocell id j) ∨ G.role b = .ext ∨ G.role b = .ret ∨ ∃ i, G.role b = .retc i := fun b => by
      rcases hrole b with h | h | h
      · exact .inl h
      · exact .inr (.inl h)
      · exact .inr (.inr (.inl h))
    obtain ⟨v0, hv0, hcr⟩ := k4.get (j := 0) rfl
    have hcell : w.cell? ⟨b, 0, none⟩ = some v0 := by simp [World.cell?, k3, hv0]
    rcases hc with rfl | rfl
    · have := hcr.vr
      cases this
      refine (Any.Builder_copyCheck_fresh L X b w hcell (by simp [World.shape?, k3, hsz]) (by simp [World.frozen?, k3])).mono ?_
      rintro e w' ⟨rfl, rfl⟩
      rw [setCell_eq_setRow k3]
      have hc := Chg.setRow (w := w) k2 (arr.setIfInBounds 0 (.pointer (some ⟨b, 0, none⟩)))
      refine ⟨_, .undef, _, G, rfl, rfl, ?_, .undef _, hc.weaken (by rintro κ rfl; simp), hex⟩
      refine hrel.setRow k2 (.inl ⟨id, rfl⟩) k3 (by simp) _ (by simp) fun id' o ho => ?_
      rw [List.getElem?_set] at ho
      by_cases e' : id = id'
      · subst e'
        simp only [if_true, hid, Option.some.injEq] at ho
        subst ho
        refine .inr ⟨b, _, _, hrho, k2, setRow_heap w b arr _ _ _ k3, ⟨by simp [hsz], fun j x v hx hv => ?_⟩, fun _ => ⟨rfl, by simp [hsz]⟩⟩
        match j with
        | 0 =>
          have hx' : x = .ptr id 0 := by simpa using hx.symm
          have hv' : v = .pointer (some ⟨b, 0, none⟩) := by
            rw [Array.getElem?_setIfInBounds_self_of_lt (by rw [hsz]; simp)] at hv
            exact (Option.some.inj hv).symm
          subst hx' hv'
          exact ⟨.ptr _ _ _ hrho, rfl, .of_not rfl⟩
        | j + 1 =>
          have hv' : arr[j + 1]? = some v := by
            rw [Array.getElem?_setIfInBounds_ne (by omega)] at hv; exact hv
          exact (k4.2 (j + 1) x v (by simpa using hx) hv').chg hc (by simp)
      · simp only [e', if_false] at ho
        exact .inl ⟨ho, by simpa using e'⟩
    · have := hcr.vr
      cases this with
      | ptr _ _ b2 hr2 =>
        rw [hrho] at hr2
        cases hr2
        refine (Any.Builder_copyCheck_used L X b w hcell).mono ?_
        rintro e w' ⟨rfl, rfl⟩
        have hset : S.set id (.cells [.ptr id 0, buf] (ρ.t 72)) = S := by
          apply List.ext_getElem?
          intro i
          rw [List.getElem?_set]
          by_cases h : id = i
          · subst h; simp only [if_true, hid]; exact hS.symm
          · simp [h]
        exact ⟨_, .undef, _, G, rfl, hset.symm, hrel, .undef _, .refl _ _ _, hex⟩
end Go.Av
set_option linter.unusedVariables false
set_option linter.unusedSimpArgs false
/-! strings.Builder.String, abstractly. -/
namespace Go.Av
open Go.RowKit Go.Proofs Go.Shelf
theorem String_nil_A {E : Env} {ρ : Ren} (L : Lays.n169 E.P ρ) (X : Builder.Extra E.P ρ) (h72 : ρ.t 72 ≠ 0) {S : St} {id : Nat} {c : AV} (hS : S[id]? = some (.cells [c, .vs 1 [] .nil] (ρ.t 72))) :
    ACalls E (ρ.f 169) [.ptr id 0] S fun r S' => S' = S ∧ r = .str [] := by
  refine ⟨⟨_, L.f169, by kernel_rfl, by kernel_rfl⟩, fun G w hrel hrole args' hl ha => ?_⟩
  obtain ⟨v, rfl⟩ : ∃ v, args' = #[v] := by
    match args', hl with
    | ⟨[v]⟩, _ => exact ⟨v, rfl⟩
  have hv := (ha 0 (.ptr id 0) v rfl rfl).1
  cases hv with
  | ptr _ _ b hrho =>
    obtain ⟨b', arr, e, k1, k2, k3, k4, k5⟩ := hrel.obj id _ hS
    rw [hrho] at k1
    cases k1
    obtain ⟨rfl, hsz⟩ := k5 h72
    obtain ⟨p, u, rfl⟩ : ∃ p u, arr = #[p, u] := by
      match arr, hsz with
      | ⟨[p, u]⟩, _ => exact ⟨p, u, rfl⟩
    have hu := (k4.2 1 _ u rfl rfl).vr
    have hu' : u = .slice none 0 0 := by
      cases hu with
      | vsnil => rfl
      | vs _ _ _ _ _ _ _ hr => exact (hr rfl).elim
      | vse _ _ _ hr => rcases hr with hr | hr <;> cases hr
    subst hu'
    refine (string_walk_nil L X b p w k3).mono ?_
    rintro e w' ⟨rfl, rfl⟩
    have hb : Below w.heap.size w w.drew := Below.drew (Below.refl _ _)
    refine ⟨_, .str [], S, G, rfl, ⟨rfl, rfl⟩, hrel.below hb, .of_cell1 (.str []) rfl, Chg.below hb, fun b => ?_⟩
    rcases hrole b with h | h | h
    · exact .inl h
    · exact .inr (.inl h)
    · exact .inr (.inr (.inl h))

theorem World.freeze_other {w : World} {g o n b : Nat} (h : b ≠ g) : (w.freeze ⟨g, o, none⟩ n).heap[b]? = w.heap[b]? := by
  unfold World.freeze
  split
  · rfl
  · simp [Array.getElem?_modify, Ne.symm h]
theorem World.freeze_self {w : World} {g o n : Nat} {arr : Array Value} {e : TypeId} {fz : Nat × Nat} (h : w.heap[g]? = some (.cells arr e fz)) : ∃ fz', (w.freeze ⟨g, o, none⟩ n).heap[g]? = some (.cells arr e fz') := by
  unfold World.freeze
  split
  · exact ⟨_, h⟩
  · simp only [Array.getElem?_modify, if_true, h, Option.map_some]
    exact ⟨_, rfl⟩
theorem World.freeze_cell {w : World} {g o n : Nat} (a : Addr) : (w.freeze ⟨g, o, none⟩ n).cell? a = w.cell? a := by
  unfold World.cell?
  by_cases h : a.block = g
  · rw [h]
    cases hh : w.heap[g]? with
    | none =>
      have : (w.freeze ⟨g, o, none⟩ n).heap[g]? = none := by
        unfold World.freeze
        split
        · exact hh
        · simp [Array.getElem?_modify, hh]
      rw [this]
    | some ob =>
      cases ob with
      | cells arr e fz =>
        obtain ⟨fz', h'⟩ := World.freeze_self (o := o) (n := n) hh
        rw [h']
      | _ =>
        have h2 : (w.freeze ⟨g, o, none⟩ n).heap[g]? = w.heap[g]? := by
          unfold World.freeze
          split
          · rfl
          · simp [Array.getElem?_modify, hh]
        rw [h2, hh]
  · rw [World.freeze_other h]
theorem World.freeze_size {w : World} {a : Addr} {n : Nat} : (w.freeze a n).heap.size = w.heap.size := by
  unfold World.freeze
  split <;> simp
theorem World.freeze_rest {w : World} {a : Addr} {n : Nat} : (w.freeze a n).os = w.os ∧ (w.freeze a n).tape = w.tape ∧ (w.freeze a n).output = w.output := by
  unfold World.freeze
  split <;> exact ⟨rfl, rfl, rfl⟩
def byteCells (l : List UInt8) : List (List AV) := l.map fun x => [.int .u8 x.toNat]
theorem String_A {E : Env} {ρ : Ren} (L : Lays.n169 E.P ρ) (X : Builder.Extra E.P ρ) (h72 : ρ.t 72 ≠ 0) (h5 : ρ.t 5 ≠ 0) {S : St} {id : Nat} {c : AV} {l : List UInt8} (h0 : l ≠ []) (h63 : l.length ≤ 9223372036854775807)
    (hS : S[id]? = some (.cells [c, .vs 1 (byteCells l) (.own (ρ.t 5))] (ρ.t 72))) :
    ACalls E (ρ.f 169) [.ptr id 0] S fun r S' => S' = S.set id (.cells [c, .vs 1 (byteCells l) .none] (ρ.t 72)) ∧ r = .str l := by
  refine ⟨⟨_, L.f169, by kernel_rfl, by kernel_rfl⟩, fun G w hrel hrole args' hl ha => ?_⟩
  obtain ⟨v, rfl⟩ : ∃ v, args' = #[v] := by
    match args', hl with
    | ⟨[v]⟩, _ => exact ⟨v, rfl⟩
  have hv := (ha 0 (.ptr id 0) v rfl rfl).1
  cases hv with
  | ptr _ _ b hrho =>
    obtain ⟨b', arr, e, k1, k2, k3, k4, k5⟩ := hrel.obj id _ hS
    rw [hrho] at k1
    cases k1
    obtain ⟨rfl, hsz⟩ := k5 h72
    obtain ⟨p, u, rfl⟩ : ∃ p u, arr = #[p, u] := by
      match arr, hsz with
      | ⟨[p, u]⟩, _ => exact ⟨p, u, rfl⟩
    have hc0 := k4.2 0 c p rfl rfl
    have hc1 := k4.2 1 _ u rfl rfl
    obtain ⟨g, o, len, cap, rfl, sz, es, t, he, hlen, hrg, ⟨cur, ec, hg, hsize, hec⟩, _⟩ := hc1.tail rfl
    have hes : byteCells l = es := by cases he; rfl
    have hsz1 : 1 = sz := by cases he; rfl
    have ht : ρ.t 5 = t := by cases he; rfl
    subst hes hsz1 ht
    have hec := hec h5
    subst hec
    have hll : (byteCells l).length = l.length := by simp [byteCells]
    rw [hll] at hlen
    subst hlen
    have hvr := hc1.vr
    have hcap : l.length ≤ cap := by
      generalize hnn : l.length = nn at hvr ⊢
      generalize hbb : byteCells l = bb at hvr
      cases hvr with
      | vs b2 o2 cap2 _ _ _ f hr hc2 hf hs hh hh2 => exact hc2
      | vse a2 _ _ hr => exact Nat.le_refl _
    have hcell : ∀ j x, l[j]? = some x → w.cell? ((⟨g, o, none⟩ : Addr).add j) = some (.int .u8 x.toNat) := by
      intro j x hx
      generalize hnn : l.length = nn at hvr
      generalize hbb : byteCells l = bb at hvr
      cases hvr with
      | vs b2 o2 cap2 _ _ _ f hr hc2 hf hs hh hh2 =>
        subst hbb
        have e1 : (byteCells l)[j]? = some [.int .u8 x.toNat] := by simp [byteCells, hx]
        have h1 := hh j _ 0 _ e1 rfl
        have h2 := hh2 j _ 0 _ e1 rfl
        have h3 := hrel.imm _ _ _ h1
        generalize f j 0 = fv at h2 h3
        cases h2
        rw [add_none]
        simpa using h3
      | vse a2 _ _ hr => rcases hr with hr | hr <;> cases hr
    have hl1 : 1 ≤ l.length := by
      cases l with
      | nil => exact (h0 rfl).elim
      | cons x l => simp
    refine (string_walk L X b g o cap p cur l w h0 k3 hg (by omega) (by omega) h63 hcell).mono ?_
    rintro e w' ⟨rfl, rfl⟩
    have hgid : g ≠ b := by
      intro e; subst e; rw [hrg] at k2; cases k2
    have hd : w.drew.heap[g]? = some (.cells cur (ρ.t 5) (0, 0)) := hg
    have hchg : Chg (fun κ => κ = .ocell id 1) G w G (w.drew.freeze ⟨g, o, none⟩ l.length) := by
      refine ⟨.refl G, by rw [World.freeze_size]; exact Nat.le_refl _, fun b2 hb2 hk => ⟨?_, rfl, fun _ => rfl⟩⟩
      exact (World.freeze_other (w := w.drew) (o := o) (n := l.length) (fun e => hk (by rw [e]; exact hrg))).trans rfl
    have hR := World.freeze_rest (w := w.drew) (a := ⟨g, o, none⟩) (n := l.length)
    have hlt : id < S.length := (List.getElem?_eq_some_iff.1 hS).1
    refine ⟨_, .str l, _, G, rfl, ⟨rfl, rfl⟩, ⟨hR.1.trans hrel.os, hR.2.1.trans hrel.tape, hR.2.2.trans hrel.output, by rw [World.freeze_size]; exact hrel.size, fun b2 hb2 => ⟨?_, (hrel.old b2 hb2).2⟩, fun b2 o2 v2 hv2 => ?_, fun b2 hb2 => ?_, hrel.noimm,
      fun i b2 hi => ?_, fun b2 hb2 => ?_, fun i ob hi => ?_⟩, .of_cell1 (.str l) rfl, hchg.weaken (by rintro κ rfl; simp), fun b => ?_⟩
    · have hne : b2 ≠ g := by intro e; subst e; have := (hrel.old b2 hb2).2; rw [hrg] at this; cases this
      rw [World.freeze_other hne]; exact (hrel.old b2 hb2).1
    · rw [World.freeze_cell]; exact hrel.imm b2 o2 v2 hv2
    · rw [World.freeze_size] at hb2; exact hrel.role b2 hb2
    · rw [World.freeze_size, List.length_set]; exact hrel.rho i b2 hi
    · obtain ⟨a2, e2, fz2, h1, h2⟩ := hrel.len b2 hb2
      by_cases hne : b2 = g
      · subst hne
        rw [hg] at h1; cases h1
        obtain ⟨fz', h'⟩ := World.freeze_self (o := o) (n := l.length) hd
        exact ⟨_, _, _, h', h2⟩
      · exact ⟨a2, e2, fz2, by rw [World.freeze_other hne]; exact h1, h2⟩
    · rw [List.getElem?_set] at hi
      by_cases hii : id = i
      · subst hii
        simp only [if_true, hlt, Option.some.injEq] at hi
        subst hi
        refine ⟨b, #[p, .slice (some ⟨g, o, none⟩) l.length cap], ρ.t 72, hrho, k2, (World.freeze_other (w := w.drew) (o := o) (n := l.length) (Ne.symm hgid)).trans k3, ⟨by simp, fun j x v hx hv => ?_⟩, fun _ => ⟨rfl, by simp⟩⟩
        match j with
        | 0 =>
          simp at hx hv
          subst hx hv
          exact hc0.chg hchg (by simp)
        | 1 =>
          simp at hx hv
          subst hx hv
          exact ⟨hc1.vr.strip1, rfl, .of_not rfl⟩
        | j + 2 => simp at hx
      · simp only [hii, if_false] at hi
        exact (hrel.obj i ob hi).chg hchg (by simp) (fun j e => hii (by cases e; rfl))
    · rcases hrole b with h | h | h
      · exact .inl h
      · exact .inr (.inl h)
      · exact .inr (.inr (.inl h))
end Go.Av
set_option linter.unusedVariables false
/-! What comes in, as Lean's data. -/
namespace Go.Av
open Go.Proofs
abbrev TT (t : TypeId) (cs : List AV) := Ty Try.prog 1048576 t cs
abbrev TV (t : TypeId) (x : AV) := TyV Try.prog 1048576 t x
theorem i64_wf {n : Int} (h : (Lit.int .i64 n).wf = true) : -9223372036854775808 ≤ n ∧ n ≤ 9223372036854775807 := by
  simp [Lit.wf, IntKind.min, IntKind.max, IntKind.signed, IntKind.bits] at h
  omega
theorem dec_int {cs : List AV} {t : TypeId} (h : TT t cs) (hu : Try.prog.underlying t = some (.int .i64)) : ∃ n : Int, cs = [.int .i64 n] ∧ -9223372036854775808 ≤ n ∧ n ≤ 9223372036854775807 := by
  obtain ⟨n, rfl, hw⟩ := h.int_inv hu
  exact ⟨n, rfl, i64_wf hw⟩
theorem dec_u8 {cs : List AV} {t : TypeId} (h : TT t cs) (hu : Try.prog.underlying t = some (.int .u8)) : ∃ n : Nat, cs = [.int .u8 n] ∧ n < 256 := by
  obtain ⟨n, rfl, hw⟩ := h.int_inv hu
  obtain ⟨k, rfl, hk⟩ := nat_u8 hw
  exact ⟨k, rfl, hk⟩
theorem dec_str {cs : List AV} {t : TypeId} (h : TT t cs) (hu : Try.prog.underlying t = some .string) : ∃ s : Str, cs = [.str s] ∧ s.length ≤ 1048576 := h.str_inv hu
theorem dec_bool {cs : List AV} {t : TypeId} (h : TT t cs) (hu : Try.prog.underlying t = some .bool) : ∃ b : Bool, cs = [.bool b] := h.bool_inv hu
/-- A right that came in. -/
def inR (r : Rt) {α : Type} (l : List α) : Prop := (r = .nil ∧ l = []) ∨ r = .none
theorem dec_slice {α : Type} {t e : TypeId} {cs : List AV} {enc : α → List AV} {ok : α → Prop} {sz : Nat} (h : TT t cs) (hu : Try.prog.underlying t = some (.slice e)) (hs : Try.prog.cellsOf e = sz) (hd : ∀ ys, TT e ys → ∃ a, ys = enc a ∧ ok a) :
    ∃ (l : List α) (r : Rt), cs = [.vs sz (l.map enc) r] ∧ inR r l ∧ l.length ≤ 1048576 ∧ ∀ a ∈ l, ok a := by
  obtain ⟨es, r, rfl, hr, hl, he⟩ := h.slice_inv hu
  have : ∃ l : List α, es = l.map enc ∧ ∀ a ∈ l, ok a := by
    clear hl hr h
    induction es with
    | nil => exact ⟨[], rfl, by simp⟩
    | cons y es ih =>
      obtain ⟨l, e1, e2⟩ := ih fun z hz => he z (by simp [hz])
      obtain ⟨a, e3, e4⟩ := hd y (he y (by simp))
      exact ⟨a :: l, by simp [e1, e3], by simpa [e4] using e2⟩
  obtain ⟨l, rfl, ha⟩ := this
  refine ⟨l, r, by rw [hs], ?_, by simpa using hl, ha⟩
  rcases hr with ⟨rfl, h2⟩ | rfl
  · exact .inl ⟨rfl, by simpa using h2⟩
  · exact .inr rfl
theorem TyV.int {t : TypeId} {x : AV} (h : TV t x) (hu : Try.prog.underlying t = some (.int .i64)) : ∃ n : Int, x = .int .i64 n ∧ -9223372036854775808 ≤ n ∧ n ≤ 9223372036854775807 := by
  obtain ⟨n, e, hn⟩ := dec_int (h.one (by simp [isAgg, hu])) hu
  exact ⟨n, by simpa using e, hn⟩
theorem TyV.u8 {t : TypeId} {x : AV} (h : TV t x) (hu : Try.prog.underlying t = some (.int .u8)) : ∃ n : Nat, x = .int .u8 n ∧ n < 256 := by
  obtain ⟨n, e, hn⟩ := dec_u8 (h.one (by simp [isAgg, hu])) hu
  exact ⟨n, by simpa using e, hn⟩
theorem TyV.str {t : TypeId} {x : AV} (h : TV t x) (hu : Try.prog.underlying t = some .string) : ∃ s : Str, x = .str s ∧ s.length ≤ 1048576 := by
  obtain ⟨n, e, hn⟩ := dec_str (h.one (by simp [isAgg, hu])) hu
  exact ⟨n, by simpa using e, hn⟩
theorem TyV.bool {t : TypeId} {x : AV} (h : TV t x) (hu : Try.prog.underlying t = some .bool) : ∃ b : Bool, x = .bool b := by
  obtain ⟨n, e⟩ := dec_bool (h.one (by simp [isAgg, hu])) hu
  exact ⟨n, by simpa using e⟩
theorem TyV.slice {α : Type} {t e : TypeId} {x : AV} {enc : α → List AV} {ok : α → Prop} {sz : Nat} (h : TV t x) (hu : Try.prog.underlying t = some (.slice e)) (hs : Try.prog.cellsOf e = sz) (hd : ∀ ys, TT e ys → ∃ a, ys = enc a ∧ ok a) :
    ∃ (l : List α) (r : Rt), x = .vs sz (l.map enc) r ∧ inR r l ∧ l.length ≤ 1048576 ∧ ∀ a ∈ l, ok a := by
  obtain ⟨l, r, e, h2⟩ := dec_slice (h.one (by simp [isAgg, hu])) hu hs hd
  exact ⟨l, r, by simpa using e, h2⟩
end Go.Av
set_option linter.unusedVariables false
/-! Extents that come in. -/
namespace Go.Av
open Go.Proofs
def Ext.ok (x : Ext) : Prop := -9223372036854775808 ≤ x.off ∧ x.off ≤ 9223372036854775807 ∧ x.data.length ≤ 1048576
set_option maxRecDepth 100000 in
theorem dec_Ext (cs : List AV) (h : TT t_api_Extent cs) : ∃ x : Ext, cs = x.c ∧ x.ok := by
  obtain ⟨h1, h2⟩ := h.struct_inv un_api_Extent
  match cs, h1 with
  | [a, b], _ =>
    obtain ⟨n, h3, h4⟩ := dec_int (h2 _ (List.mem_cons_self)) un_int
    obtain ⟨s, h5, h6⟩ := dec_str (h2 _ (List.mem_cons_of_mem _ List.mem_cons_self)) un_string
    cases h3
    cases h5
    exact ⟨⟨n, s⟩, rfl, h4.1, h4.2, h6⟩
end Go.Av
