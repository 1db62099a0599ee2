/- A part of the proof of a law of this seat: Reckoning with abstract values. No condition. -/
import Derived.Test.YtcmiahkfbnojnaaA28
import Derived.IntWalk
set_option linter.all false
set_option linter.unusedVariables false
set_option linter.unusedSimpArgs false
/-! Reckoning with abstract values. -/
namespace Go.Av
section
variable {α : Type}
@[simp] theorem optK_some' {x : α} {k : α → Prop} : optK (some x) k = k x := rfl
@[simp] theorem optK_none' {k : α → Prop} : optK none k = False := rfl
@[simp] theorem joinK_eq {r : α} {b : α → Prop} : joinK r b = b r := rfl
@[simp] theorem ifK_true {A B : Prop} : ifK (.bool true) A B = A := rfl
@[simp] theorem ifK_false {A B : Prop} : ifK (.bool false) A B = B := rfl
theorem ifK_bool {b : Bool} {A B : Prop} : ifK (.bool b) A B = if b = true then A else B := by cases b <;> rfl
theorem ifK_intro {b : Bool} {A B : Prop} (h1 : b = true → A) (h2 : b = false → B) : ifK (.bool b) A B := by
  cases b
  · exact h2 rfl
  · exact h1 rfl
theorem ifK_iff {p : Prop} [Decidable p] {A B : Prop} (h1 : p → A) (h2 : ¬ p → B) : ifK (.bool (decide p)) A B := by
  by_cases h : p
  · simpa [ifK, h] using h1 h
  · simpa [ifK, h] using h2 h
@[simp] theorem gK_true {A B Z : Prop} : gK (.bool true) A B Z = A := rfl
@[simp] theorem gK_false {A B Z : Prop} : gK (.bool false) A B Z = B := rfl
@[simp] theorem gK_tup' {A B Z : Prop} : gK (.tup []) A B Z = Z := rfl
end
@[simp] theorem strip_int (k : IntKind) (n : Int) : AV.strip (.int k n) = .int k n := rfl
@[simp] theorem strip_bool (b : Bool) : AV.strip (.bool b) = .bool b := rfl
@[simp] theorem strip_str (s : List UInt8) : AV.strip (.str s) = .str s := rfl
@[simp] theorem strip_nil : AV.strip .nil = .nil := rfl
@[simp] theorem strip_ptr (i o : Nat) : AV.strip (.ptr i o) = .ptr i o := rfl
@[simp] theorem strip_ep (c : List AV) (o : Nat) : AV.strip (.ep c o) = .ep c o := rfl
@[simp] theorem strip_vs (z : Nat) (es : List (List AV)) (r : Rt) : AV.strip (.vs z es r) = .vs z es r.strip := rfl
@[simp] theorem strip_rs (a b c d : Nat) : AV.strip (.rs a b c d) = .rs a b c d := rfl
@[simp] theorem strip_map (m : Option Nat) : AV.strip (.map m) = .map m := rfl
@[simp] theorem strip_fn (f : Nat) (a b : List AV) : AV.strip (.fn f a b) = .fn f a b := rfl
@[simp] theorem strip_nilfn : AV.strip .nilfn = .nilfn := rfl
@[simp] theorem strip_ifc (t : Nat) (v : AV) : AV.strip (.ifc t v) = .ifc t v := rfl
@[simp] theorem strip_nilifc : AV.strip .nilifc = .nilifc := rfl
@[simp] theorem strip_agg (cs : List AV) : AV.strip (.agg cs) = .agg (cs.map AV.strip1) := rfl
@[simp] theorem strip_undef : AV.strip .undef = .undef := rfl
@[simp] theorem strip_tup (cs : List AV) : AV.strip (.tup cs) = .tup (cs.map AV.strip2) := rfl
@[simp] theorem strip1_int (k : IntKind) (n : Int) : AV.strip1 (.int k n) = .int k n := rfl
@[simp] theorem strip1_bool (b : Bool) : AV.strip1 (.bool b) = .bool b := rfl
@[simp] theorem strip1_str (s : List UInt8) : AV.strip1 (.str s) = .str s := rfl
@[simp] theorem strip1_vs (z : Nat) (es : List (List AV)) (r : Rt) : AV.strip1 (.vs z es r) = .vs z es r.strip := rfl
@[simp] theorem strip1_map (m : Option Nat) : AV.strip1 (.map m) = .map m := rfl
@[simp] theorem strip1_ptr (i o : Nat) : AV.strip1 (.ptr i o) = .ptr i o := rfl
@[simp] theorem strip1_nil : AV.strip1 .nil = .nil := rfl
@[simp] theorem strip1_fn (f : Nat) (a b : List AV) : AV.strip1 (.fn f a b) = .fn f a b := rfl
@[simp] theorem strip1_ifc (t : Nat) (v : AV) : AV.strip1 (.ifc t v) = .ifc t v := rfl
@[simp] theorem strip0_vs (z : Nat) (es : List (List AV)) (r : Rt) : AV.strip0 (.vs z es r) = .vs z es r := rfl
@[simp] theorem strip0_agg (cs : List AV) : AV.strip0 (.agg cs) = .agg (cs.map AV.strip1) := rfl
@[simp] theorem rt_strip_own : Rt.strip .own = .none := rfl
@[simp] theorem rt_strip_nil : Rt.strip .nil = .nil := rfl
@[simp] theorem rt_strip_full : Rt.strip .full = .full := rfl
@[simp] theorem rt_strip_none : Rt.strip .none = .none := rfl
theorem loadA_ptr {i : TI} {S : St} {id off : Nat} {cs : List AV} (h : S[id]? = some (.cells cs)) : loadA i S (.ptr id off) = readT i cs off := by simp [loadA, objCells, h]
@[simp] theorem loadA_ep {i : TI} {S : St} {off : Nat} {cs : List AV} : loadA i S (.ep cs off) = readT i cs off := rfl
theorem storeA_ptr {i : TI} {S : St} {id off : Nat} {cs : List AV} {x : AV} (h : S[id]? = some (.cells cs)) : storeA i S (.ptr id off) x = (storeCellsA i cs off x).map fun cs' => S.set id (.cells cs') := by simp [storeA, objCells, h]
@[simp] theorem stripMem_ptr {S : St} {id off : Nat} {cs : List AV} (h : S[id]? = some (.cells cs)) : stripMem S (.ptr id off) = S.set id (.cells (cs.modify off AV.strip1)) := by simp [stripMem, objCells, h]
theorem wrap64 {n : Int} (h1 : -9223372036854775808 ≤ n) (h2 : n ≤ 9223372036854775807) : IntKind.i64.wrap n = n := IntWalk.i64_in n ⟨h1, h2⟩
/-- Ints in a slice. -/
def wInt (x : Int) : List AV := [.int .i64 x]
theorem getSet_self {S : St} {id : Nat} {o o' : Obj} (h : S[id]? = some o) : (S.set id o')[id]? = some o' := by
  have := (List.getElem?_eq_some_iff.1 h).1
  simp [this]
theorem getSet_other {S : St} {id j : Nat} {o' : Obj} (h : id ≠ j) : (S.set id o')[j]? = S[j]? := by simp [h]

@[simp] theorem stripTup_0 (a : AV) (l : List AV) : stripTup (.tup (a :: l)) 0 = .tup (a.strip2 :: l) := rfl
@[simp] theorem stripTup_1 (a b : AV) (l : List AV) : stripTup (.tup (a :: b :: l)) 1 = .tup (a :: b.strip2 :: l) := rfl
@[simp] theorem stripTup_2 (a b c : AV) (l : List AV) : stripTup (.tup (a :: b :: c :: l)) 2 = .tup (a :: b :: c.strip2 :: l) := rfl
@[simp] theorem stripTup_3 (a b c d : AV) (l : List AV) : stripTup (.tup (a :: b :: c :: d :: l)) 3 = .tup (a :: b :: c :: d.strip2 :: l) := rfl
@[simp] theorem extractA_0 (a : AV) (l : List AV) : extractA (.tup (a :: l)) 0 = some a := rfl
@[simp] theorem extractA_1 (a b : AV) (l : List AV) : extractA (.tup (a :: b :: l)) 1 = some b := rfl
@[simp] theorem extractA_2 (a b c : AV) (l : List AV) : extractA (.tup (a :: b :: c :: l)) 2 = some c := rfl
@[simp] theorem extractA_3 (a b c d : AV) (l : List AV) : extractA (.tup (a :: b :: c :: d :: l)) 3 = some d := rfl
@[simp] theorem strip2_int (k : IntKind) (n : Int) : AV.strip2 (.int k n) = .int k n := rfl
@[simp] theorem strip2_bool (b : Bool) : AV.strip2 (.bool b) = .bool b := rfl
@[simp] theorem strip2_str (s : List UInt8) : AV.strip2 (.str s) = .str s := rfl
@[simp] theorem strip2_nil : AV.strip2 .nil = .nil := rfl
@[simp] theorem strip2_ptr (i o : Nat) : AV.strip2 (.ptr i o) = .ptr i o := rfl
@[simp] theorem strip2_vs (z : Nat) (es : List (List AV)) (r : Rt) : AV.strip2 (.vs z es r) = .vs z es r.strip := rfl
@[simp] theorem strip2_map (m : Option Nat) : AV.strip2 (.map m) = .map m := rfl
@[simp] theorem strip2_agg (cs : List AV) : AV.strip2 (.agg cs) = .agg (cs.map AV.strip1) := rfl
@[simp] theorem strip0_int (k : IntKind) (n : Int) : AV.strip0 (.int k n) = .int k n := rfl
@[simp] theorem flat_int (k : IntKind) (n : Int) : AV.flat (.int k n) = .int k n := rfl
@[simp] theorem flat_bool (b : Bool) : AV.flat (.bool b) = .bool b := rfl
@[simp] theorem flat_str (s : List UInt8) : AV.flat (.str s) = .str s := rfl
@[simp] theorem flat_vs (z : Nat) (es : List (List AV)) (r : Rt) : AV.flat (.vs z es r) = .vs z es r := rfl
@[simp] theorem flat_agg (cs : List AV) : AV.flat (.agg cs) = .agg cs := rfl
@[simp] theorem flat_ptr (i o : Nat) : AV.flat (.ptr i o) = .ptr i o := rfl
@[simp] theorem flat_nil : AV.flat .nil = .nil := rfl
@[simp] theorem nilA_ptr (i o : Nat) : nilA (.ptr i o) = some (.ptr i o) := rfl
@[simp] theorem nilA_ep (c : List AV) (o : Nat) : nilA (.ep c o) = some (.ep c o) := rfl
@[simp] theorem movePtr_ptr (i o d : Nat) : movePtr (.ptr i o) d = some (.ptr i (o + d)) := rfl
@[simp] theorem movePtr_ep (c : List AV) (o d : Nat) : movePtr (.ep c o) d = some (.ep c (o + d)) := rfl
@[simp] theorem pickA_true (a b : AV) : pickA (.bool true) a b = some a := rfl
@[simp] theorem pickA_false (a b : AV) : pickA (.bool false) a b = some b := rfl
@[simp] theorem unA_not (b : Bool) : unA .not (.bool b) = some (.bool (!b)) := rfl
@[simp] theorem binA_add (k : IntKind) (a b : Int) : binA .add (.int k a) (.int k b) = some (.int k (k.wrap (a + b))) := by simp [binA, intBin]
@[simp] theorem binA_sub (k : IntKind) (a b : Int) : binA .sub (.int k a) (.int k b) = some (.int k (k.wrap (a - b))) := by simp [binA, intBin]
@[simp] theorem binA_mul (k : IntKind) (a b : Int) : binA .mul (.int k a) (.int k b) = some (.int k (k.wrap (a * b))) := by simp [binA, intBin]
@[simp] theorem binA_eql (k : IntKind) (a b : Int) : binA .eql (.int k a) (.int k b) = some (.bool (decide (a = b))) := by simp [binA, intBin]; rfl
@[simp] theorem binA_neq (k : IntKind) (a b : Int) : binA .neq (.int k a) (.int k b) = some (.bool (decide (a ≠ b))) := by simp [binA, intBin]; by_cases h : a = b <;> simp [h]
@[simp] theorem binA_lss (k : IntKind) (a b : Int) : binA .lss (.int k a) (.int k b) = some (.bool (decide (a < b))) := by simp [binA, intBin]
@[simp] theorem binA_leq (k : IntKind) (a b : Int) : binA .leq (.int k a) (.int k b) = some (.bool (decide (a ≤ b))) := by simp [binA, intBin]
@[simp] theorem binA_gtr (k : IntKind) (a b : Int) : binA .gtr (.int k a) (.int k b) = some (.bool (decide (a > b))) := by simp [binA, intBin]
@[simp] theorem binA_geq (k : IntKind) (a b : Int) : binA .geq (.int k a) (.int k b) = some (.bool (decide (a ≥ b))) := by simp [binA, intBin]
@[simp] theorem binE_bool_eql (a b : Bool) : binE .bool .eql (.bool a) (.bool b) = some (.bool (a == b)) := rfl
@[simp] theorem binE_bool_neq (a b : Bool) : binE .bool .neq (.bool a) (.bool b) = some (.bool (!(a == b))) := rfl
@[simp] theorem lenSlA_vs (z : Nat) (es : List (List AV)) (r : Rt) : lenSlA (.vs z es r) = some (.int .i64 es.length) := rfl
@[simp] theorem lenStrA_str (s : List UInt8) : lenStrA (.str s) = some (.int .i64 s.length) := rfl
@[simp] theorem callK_def {Ca : Nat → List AV → St → (AV → St → Prop) → Prop} {g : Nat} {xs : List AV} {S : St} {k : AV → St → Prop} : callK Ca g xs S k = optK (argsA xs) fun xs => Ca g xs S k := rfl
@[simp] theorem free_int (k : IntKind) (n : Int) : AV.free (.int k n) = true := rfl
@[simp] theorem free_bool (b : Bool) : AV.free (.bool b) = true := rfl
@[simp] theorem free_str (s : List UInt8) : AV.free (.str s) = true := rfl
@[simp] theorem free_vs (z : Nat) (es : List (List AV)) (r : Rt) : AV.free (.vs z es r) = true := rfl
@[simp] theorem free_ptr (i o : Nat) : AV.free (.ptr i o) = true := rfl
@[simp] theorem free_nil : AV.free .nil = true := rfl
@[simp] theorem free_map (m : Option Nat) : AV.free (.map m) = true := rfl
@[simp] theorem free_agg (cs : List AV) : AV.free (.agg cs) = cs.all AV.free1 := rfl
@[simp] theorem free_fn (f : Nat) (a b : List AV) : AV.free (.fn f a b) = true := rfl
@[simp] theorem free_ifc (t : Nat) (v : AV) : AV.free (.ifc t v) = true := rfl
@[simp] theorem free1_int (k : IntKind) (n : Int) : AV.free1 (.int k n) = true := rfl
@[simp] theorem free1_bool (b : Bool) : AV.free1 (.bool b) = true := rfl
@[simp] theorem free1_str (s : List UInt8) : AV.free1 (.str s) = true := rfl
@[simp] theorem free1_vs (z : Nat) (es : List (List AV)) (r : Rt) : AV.free1 (.vs z es r) = true := rfl
@[simp] theorem free1_ptr (i o : Nat) : AV.free1 (.ptr i o) = true := rfl
@[simp] theorem free1_map (m : Option Nat) : AV.free1 (.map m) = true := rfl
@[simp] theorem cells_int (k : IntKind) (n : Int) : AV.cells (.int k n) = [.int k n] := rfl
@[simp] theorem cells_bool (b : Bool) : AV.cells (.bool b) = [.bool b] := rfl
@[simp] theorem cells_str (s : List UInt8) : AV.cells (.str s) = [.str s] := rfl
@[simp] theorem cells_vs (z : Nat) (es : List (List AV)) (r : Rt) : AV.cells (.vs z es r) = [.vs z es r] := rfl
@[simp] theorem cells_ptr (i o : Nat) : AV.cells (.ptr i o) = [.ptr i o] := rfl
@[simp] theorem cells_map (m : Option Nat) : AV.cells (.map m) = [.map m] := rfl
@[simp] theorem cells_agg (cs : List AV) : AV.cells (.agg cs) = cs := rfl
attribute [simp] readT argsA storeCellsA writeAt lloadA lstoreA boxA partA noTup buildA fillA fillE elemVals stripBox
theorem mapUpdateA_new {g : KK} {S : St} {id : Nat} {es : List (AV × AV)} {key x : AV} (h : S[id]? = some (.map es)) (hk : keyOk g key = true) (hx : x.free = true) (hf : findA key es 0 = some none) :
    mapUpdateA g S (.map (some id)) key x = some (S.set id (.map (es ++ [(key, x.strip)]))) := by simp [mapUpdateA, hk, hx, objMap, h, hf]
theorem mapUpdateA_old {g : KK} {S : St} {id i : Nat} {es : List (AV × AV)} {key x v : AV} (h : S[id]? = some (.map es)) (hk : keyOk g key = true) (hx : x.free = true) (hf : findA key es 0 = some (some (i, v))) :
    mapUpdateA g S (.map (some id)) key x = some (S.set id (.map (es.modify i fun p => (p.1, x.strip)))) := by simp [mapUpdateA, hk, hx, objMap, h, hf]
theorem deleteA_none {g : KK} {S : St} {id : Nat} {es : List (AV × AV)} {key : AV} (h : S[id]? = some (.map es)) (hk : keyOk g key = true) (hf : findA key es 0 = some none) :
    deleteA g S (.map (some id)) key = some S := by simp [deleteA, hk, objMap, h, hf]
theorem deleteA_some {g : KK} {S : St} {id i : Nat} {es : List (AV × AV)} {key v : AV} (h : S[id]? = some (.map es)) (hk : keyOk g key = true) (hf : findA key es 0 = some (some (i, v))) :
    deleteA g S (.map (some id)) key = some (S.set id (.map (es.eraseIdx i))) := by simp [deleteA, hk, objMap, h, hf]
@[simp] theorem convIntA_int (k k' : IntKind) (n : Int) : convIntA k (.int k' n) = some (.int k (k.wrap n)) := rfl
theorem binA_rem (k : IntKind) (a b : Int) (hb : b ≠ 0) : binA .rem (.int k a) (.int k b) = some (.int k (a.tmod b)) := by simp [binA, intBin, hb]
theorem binA_quo (k : IntKind) (a b : Int) (hb : b ≠ 0) : binA .quo (.int k a) (.int k b) = some (.int k (k.wrap (a.tdiv b))) := by simp [binA, intBin, hb]
end Go.Av
