/- Parts of the proofs of this seat: abstract values over the model, and what the functions of the program do. No condition. -/
import Derived.Test.YtdjfhghokfiieaaDoorM12
import Derived.Test.YtdjfhghokfiieaaDoorM6
import Derived.IntWalk
set_option linter.all false
set_option linter.unusedVariables false
set_option linter.unusedSimpArgs false
namespace Go.Av
section
variable {α : Type}
@[simp] theorem optK_some' {x : α} {k : α → Prop} : optK (some x) k = k x := rfl
@[simp] theorem optK_none' {k : α → Prop} : optK none k = False := rfl
theorem joinK_eq {r : α} {b : α → Prop} : joinK r b = b r := rfl
@[simp] theorem ifK_true {A B : Prop} : ifK (.bool true) A B = A := rfl
@[simp] theorem ifK_false {A B : Prop} : ifK (.bool false) A B = B := rfl
@[simp] theorem gK_true {A B Z : Prop} : gK (.bool true) A B Z = A := rfl
@[simp] theorem gK_false {A B Z : Prop} : gK (.bool false) A B Z = B := rfl
@[simp] theorem gK_tup' {A B Z : Prop} : gK (.tup []) A B Z = Z := rfl
end
@[simp] theorem strip_int (k : IntKind) (n : Int) : AV.strip (.int k n) = .int k n := rfl
@[simp] theorem strip_bool (b : Bool) : AV.strip (.bool b) = .bool b := rfl
@[simp] theorem strip_str (s : List UInt8) : AV.strip (.str s) = .str s := rfl
@[simp] theorem strip_nil : AV.strip .nil = .nil := rfl
@[simp] theorem strip_ptr (i o : Nat) : AV.strip (.ptr i o) = .ptr i o := rfl
@[simp] theorem strip_ep (c : List AV) (o : Nat) : AV.strip (.ep c o) = .ep c o := rfl
@[simp] theorem strip_vs (z : Nat) (es : List (List AV)) (r : Rt) : AV.strip (.vs z es r) = .vs z es r.strip := rfl
@[simp] theorem strip_rs (a b c d : Nat) : AV.strip (.rs a b c d) = .rs a b c d := rfl
@[simp] theorem strip_map (m : Option Nat) : AV.strip (.map m) = .map m := rfl
@[simp] theorem strip_fn (f : Nat) (a b : List AV) : AV.strip (.fn f a b) = .fn f a b := rfl
@[simp] theorem strip_nilfn : AV.strip .nilfn = .nilfn := rfl
@[simp] theorem strip_ifc (t : Nat) (v : AV) : AV.strip (.ifc t v) = .ifc t v := rfl
@[simp] theorem strip_nilifc : AV.strip .nilifc = .nilifc := rfl
@[simp] theorem strip_agg (cs : List AV) : AV.strip (.agg cs) = .agg (cs.map AV.strip1) := rfl
@[simp] theorem strip_undef : AV.strip .undef = .undef := rfl
@[simp] theorem strip_tup (cs : List AV) : AV.strip (.tup cs) = .tup (cs.map AV.strip2) := rfl
@[simp] theorem strip1_int (k : IntKind) (n : Int) : AV.strip1 (.int k n) = .int k n := rfl
@[simp] theorem strip1_bool (b : Bool) : AV.strip1 (.bool b) = .bool b := rfl
@[simp] theorem strip1_str (s : List UInt8) : AV.strip1 (.str s) = .str s := rfl
@[simp] theorem strip1_vs (z : Nat) (es : List (List AV)) (r : Rt) : AV.strip1 (.vs z es r) = .vs z es r.strip := rfl
@[simp] theorem strip1_map (m : Option Nat) : AV.strip1 (.map m) = .map m := rfl
@[simp] theorem strip1_ptr (i o : Nat) : AV.strip1 (.ptr i o) = .ptr i o := rfl
@[simp] theorem strip1_nil : AV.strip1 .nil = .nil := rfl
@[simp] theorem strip1_fn (f : Nat) (a b : List AV) : AV.strip1 (.fn f a b) = .fn f a b := rfl
@[simp] theorem strip1_ifc (t : Nat) (v : AV) : AV.strip1 (.ifc t v) = .ifc t v := rfl
@[simp] theorem strip0_vs (z : Nat) (es : List (List AV)) (r : Rt) : AV.strip0 (.vs z es r) = .vs z es r := rfl
@[simp] theorem strip0_agg (cs : List AV) : AV.strip0 (.agg cs) = .agg (cs.map AV.strip1) := rfl
@[simp] theorem rt_strip_own (t : Nat) : Rt.strip (.own t) = .none := rfl
@[simp] theorem rt_strip_nil : Rt.strip .nil = .nil := rfl
@[simp] theorem rt_strip_full : Rt.strip .full = .full := rfl
@[simp] theorem rt_strip_none : Rt.strip .none = .none := rfl
theorem loadA_ptr {i : TI} {S : St} {id off tg : Nat} {cs : List AV} (h : S[id]? = some (.cells cs tg)) : loadA i S (.ptr id off) = readT i cs off := by simp [loadA, objCells, h]
@[simp] theorem loadA_ep {i : TI} {S : St} {off : Nat} {cs : List AV} : loadA i S (.ep cs off) = readT i cs off := rfl
theorem storeA_ptr {i : TI} {S : St} {id off tg : Nat} {cs : List AV} {x : AV} (h : S[id]? = some (.cells cs tg)) : storeA i S (.ptr id off) x = (storeCellsA i cs off x).map fun cs' => S.set id (.cells cs' tg) := by simp [storeA, objCells, objTag, h]
@[simp] theorem stripMem_ptr {S : St} {id off tg : Nat} {cs : List AV} (h : S[id]? = some (.cells cs tg)) : stripMem S (.ptr id off) = S.set id (.cells (cs.modify off AV.strip1) tg) := by simp [stripMem, objCells, objTag, h]
theorem wrap64 {n : Int} (h1 : -9223372036854775808 ≤ n) (h2 : n ≤ 9223372036854775807) : IntKind.i64.wrap n = n := IntWalk.i64_in n ⟨h1, h2⟩
theorem getSet_self {S : St} {id : Nat} {o o' : Obj} (h : S[id]? = some o) : (S.set id o')[id]? = some o' := by
  have := (List.getElem?_eq_some_iff.1 h).1
  simp [this]
theorem getSet_other {S : St} {id j : Nat} {o' : Obj} (h : id ≠ j) : (S.set id o')[j]? = S[j]? := by simp [h]
@[simp] theorem stripTup_0 (a : AV) (l : List AV) : stripTup (.tup (a :: l)) 0 = .tup (a.strip2 :: l) := rfl
@[simp] theorem stripTup_1 (a b : AV) (l : List AV) : stripTup (.tup (a :: b :: l)) 1 = .tup (a :: b.strip2 :: l) := rfl
@[simp] theorem stripTup_2 (a b c : AV) (l : List AV) : stripTup (.tup (a :: b :: c :: l)) 2 = .tup (a :: b :: c.strip2 :: l) := rfl
@[simp] theorem stripTup_3 (a b c d : AV) (l : List AV) : stripTup (.tup (a :: b :: c :: d :: l)) 3 = .tup (a :: b :: c :: d.strip2 :: l) := rfl
@[simp] theorem extractA_0 (a : AV) (l : List AV) : extractA (.tup (a :: l)) 0 = some a := rfl
@[simp] theorem extractA_1 (a b : AV) (l : List AV) : extractA (.tup (a :: b :: l)) 1 = some b := rfl
@[simp] theorem extractA_2 (a b c : AV) (l : List AV) : extractA (.tup (a :: b :: c :: l)) 2 = some c := rfl
@[simp] theorem extractA_3 (a b c d : AV) (l : List AV) : extractA (.tup (a :: b :: c :: d :: l)) 3 = some d := rfl
@[simp] theorem strip2_int (k : IntKind) (n : Int) : AV.strip2 (.int k n) = .int k n := rfl
@[simp] theorem strip2_bool (b : Bool) : AV.strip2 (.bool b) = .bool b := rfl
@[simp] theorem strip2_str (s : List UInt8) : AV.strip2 (.str s) = .str s := rfl
@[simp] theorem strip2_nil : AV.strip2 .nil = .nil := rfl
@[simp] theorem strip2_ptr (i o : Nat) : AV.strip2 (.ptr i o) = .ptr i o := rfl
@[simp] theorem strip2_vs (z : Nat) (es : List (List AV)) (r : Rt) : AV.strip2 (.vs z es r) = .vs z es r.strip := rfl
@[simp] theorem strip2_map (m : Option Nat) : AV.strip2 (.map m) = .map m := rfl
@[simp] theorem strip2_agg (cs : List AV) : AV.strip2 (.agg cs) = .agg (cs.map AV.strip1) := rfl
@[simp] theorem strip0_int (k : IntKind) (n : Int) : AV.strip0 (.int k n) = .int k n := rfl
@[simp] theorem flat_int (k : IntKind) (n : Int) : AV.flat (.int k n) = .int k n := rfl
@[simp] theorem flat_bool (b : Bool) : AV.flat (.bool b) = .bool b := rfl
@[simp] theorem flat_str (s : List UInt8) : AV.flat (.str s) = .str s := rfl
@[simp] theorem flat_vs (z : Nat) (es : List (List AV)) (r : Rt) : AV.flat (.vs z es r) = .vs z es r := rfl
@[simp] theorem flat_agg (cs : List AV) : AV.flat (.agg cs) = .agg cs := rfl
@[simp] theorem flat_ptr (i o : Nat) : AV.flat (.ptr i o) = .ptr i o := rfl
@[simp] theorem flat_nil : AV.flat .nil = .nil := rfl
@[simp] theorem nilA_ptr (i o : Nat) : nilA (.ptr i o) = some (.ptr i o) := rfl
@[simp] theorem nilA_ep (c : List AV) (o : Nat) : nilA (.ep c o) = some (.ep c o) := rfl
@[simp] theorem movePtr_ptr (i o d : Nat) : movePtr (.ptr i o) d = some (.ptr i (o + d)) := rfl
@[simp] theorem movePtr_ep (c : List AV) (o d : Nat) : movePtr (.ep c o) d = some (.ep c (o + d)) := rfl
@[simp] theorem pickA_true (a b : AV) : pickA (.bool true) a b = some a := rfl
@[simp] theorem pickA_false (a b : AV) : pickA (.bool false) a b = some b := rfl
@[simp] theorem unA_not (b : Bool) : unA .not (.bool b) = some (.bool (!b)) := rfl
@[simp] theorem binA_add (k : IntKind) (a b : Int) : binA .add (.int k a) (.int k b) = some (.int k (k.wrap (a + b))) := by simp [binA, intBin]
@[simp] theorem binA_sub (k : IntKind) (a b : Int) : binA .sub (.int k a) (.int k b) = some (.int k (k.wrap (a - b))) := by simp [binA, intBin]
@[simp] theorem binA_mul (k : IntKind) (a b : Int) : binA .mul (.int k a) (.int k b) = some (.int k (k.wrap (a * b))) := by simp [binA, intBin]
@[simp] theorem binA_eql (k : IntKind) (a b : Int) : binA .eql (.int k a) (.int k b) = some (.bool (decide (a = b))) := by simp [binA, intBin]; rfl
@[simp] theorem binA_neq (k : IntKind) (a b : Int) : binA .neq (.int k a) (.int k b) = some (.bool (decide (a ≠ b))) := by simp [binA, intBin]; by_cases h : a = b <;> simp [h]
@[simp] theorem binA_lss (k : IntKind) (a b : Int) : binA .lss (.int k a) (.int k b) = some (.bool (decide (a < b))) := by simp [binA, intBin]
@[simp] theorem binA_leq (k : IntKind) (a b : Int) : binA .leq (.int k a) (.int k b) = some (.bool (decide (a ≤ b))) := by simp [binA, intBin]
@[simp] theorem binA_gtr (k : IntKind) (a b : Int) : binA .gtr (.int k a) (.int k b) = some (.bool (decide (a > b))) := by simp [binA, intBin]
@[simp] theorem binA_geq (k : IntKind) (a b : Int) : binA .geq (.int k a) (.int k b) = some (.bool (decide (a ≥ b))) := by simp [binA, intBin]
@[simp] theorem binE_bool_eql (a b : Bool) : binE .bool .eql (.bool a) (.bool b) = some (.bool (a == b)) := rfl
@[simp] theorem binE_bool_neq (a b : Bool) : binE .bool .neq (.bool a) (.bool b) = some (.bool (!(a == b))) := rfl
@[simp] theorem lenSlA_vs (z : Nat) (es : List (List AV)) (r : Rt) : lenSlA (.vs z es r) = some (.int .i64 es.length) := rfl
@[simp] theorem lenStrA_str (s : List UInt8) : lenStrA (.str s) = some (.int .i64 s.length) := rfl
@[simp] theorem callK_def {Ca : Nat → List AV → St → (AV → St → Prop) → Prop} {g : Nat} {xs : List AV} {S : St} {k : AV → St → Prop} : callK Ca g xs S k = optK (argsA xs) fun xs => Ca g xs S k := rfl
@[simp] theorem free_int (k : IntKind) (n : Int) : AV.free (.int k n) = true := rfl
@[simp] theorem free_bool (b : Bool) : AV.free (.bool b) = true := rfl
@[simp] theorem free_str (s : List UInt8) : AV.free (.str s) = true := rfl
@[simp] theorem free_vs (z : Nat) (es : List (List AV)) (r : Rt) : AV.free (.vs z es r) = true := rfl
@[simp] theorem free_ptr (i o : Nat) : AV.free (.ptr i o) = true := rfl
@[simp] theorem free_nil : AV.free .nil = true := rfl
@[simp] theorem free_map (m : Option Nat) : AV.free (.map m) = true := rfl
@[simp] theorem free_agg (cs : List AV) : AV.free (.agg cs) = cs.all AV.free1 := rfl
@[simp] theorem free_fn (f : Nat) (a b : List AV) : AV.free (.fn f a b) = true := rfl
@[simp] theorem free_ifc (t : Nat) (v : AV) : AV.free (.ifc t v) = true := rfl
@[simp] theorem free1_int (k : IntKind) (n : Int) : AV.free1 (.int k n) = true := rfl
@[simp] theorem free1_bool (b : Bool) : AV.free1 (.bool b) = true := rfl
@[simp] theorem free1_str (s : List UInt8) : AV.free1 (.str s) = true := rfl
@[simp] theorem free1_vs (z : Nat) (es : List (List AV)) (r : Rt) : AV.free1 (.vs z es r) = true := rfl
@[simp] theorem free1_ptr (i o : Nat) : AV.free1 (.ptr i o) = true := rfl
@[simp] theorem free1_map (m : Option Nat) : AV.free1 (.map m) = true := rfl
@[simp] theorem cells_int (k : IntKind) (n : Int) : AV.cells (.int k n) = [.int k n] := rfl
@[simp] theorem cells_bool (b : Bool) : AV.cells (.bool b) = [.bool b] := rfl
@[simp] theorem cells_str (s : List UInt8) : AV.cells (.str s) = [.str s] := rfl
@[simp] theorem cells_vs (z : Nat) (es : List (List AV)) (r : Rt) : AV.cells (.vs z es r) = [.vs z es r] := rfl
@[simp] theorem cells_ptr (i o : Nat) : AV.cells (.ptr i o) = [.ptr i o] := rfl
@[simp] theorem cells_map (m : Option Nat) : AV.cells (.map m) = [.map m] := rfl
@[simp] theorem cells_agg (cs : List AV) : AV.cells (.agg cs) = cs := rfl
attribute [simp] readT argsA storeCellsA writeAt lloadA lstoreA boxA partA noTup buildA fillA fillE elemVals stripBox
@[simp] theorem convIntA_int (k k' : IntKind) (n : Int) : convIntA k (.int k' n) = some (.int k (k.wrap n)) := rfl
@[simp] theorem or_join {c : Bool} {k : AV → Prop} {B : (AV → Prop) → Prop} :
    joinK (fun x => optK (pickA (.bool c) (.bool true) x) k) (fun j => ifK (.bool c) (j (.tup [])) (B j)) = joinK k (fun j => ifK (.bool c) (j (.bool true)) (B j)) := by cases c <;> rfl
@[simp] theorem and_join {c : Bool} {k : AV → Prop} {B : (AV → Prop) → Prop} :
    joinK (fun x => optK (pickA (.bool c) x (.bool false)) k) (fun j => ifK (.bool c) (B j) (j (.tup []))) = joinK k (fun j => ifK (.bool c) (B j) (j (.bool false))) := by cases c <;> rfl
@[simp] theorem or_joinS {c : Bool} {k : St → AV → Prop} {S : St} {B : (AV → St → Prop) → Prop} :
    joinK (fun x S => optK (pickA (.bool c) (.bool true) x) (k S)) (fun j => ifK (.bool c) (j (.tup []) S) (B j)) = joinK (fun x S => k S x) (fun j => ifK (.bool c) (j (.bool true) S) (B j)) := by cases c <;> rfl
@[simp] theorem and_joinS {c : Bool} {k : St → AV → Prop} {S : St} {B : (AV → St → Prop) → Prop} :
    joinK (fun x S => optK (pickA (.bool c) x (.bool false)) (k S)) (fun j => ifK (.bool c) (B j) (j (.tup []) S)) = joinK (fun x S => k S x) (fun j => ifK (.bool c) (B j) (j (.bool false) S)) := by cases c <;> rfl
@[simp] theorem or_pure {c d : Bool} {k : AV → Prop} : joinK k (fun j => ifK (.bool c) (j (.bool true)) (j (.bool d))) = k (.bool (c || d)) := by cases c <;> rfl
@[simp] theorem and_pure {c d : Bool} {k : AV → Prop} : joinK k (fun j => ifK (.bool c) (j (.bool d)) (j (.bool false))) = k (.bool (c && d)) := by cases c <;> rfl
@[simp] theorem join_one {α : Type} {k : α → Prop} {x : α} : joinK k (fun j => j x) = k x := rfl
@[simp] theorem join_one2 {α β : Type} {k : α → β → Prop} {x : α} {y : β} : joinK k (fun j => j x y) = k x y := rfl
structure Nx {σ : Type} (e : σ → Lv) (Inv : Nat → σ → St → Prop) (n : Nat) (x : Lv) (S' : St) : Prop where
  ex : ∃ m s', m < n ∧ x = e s' ∧ Inv m s' S'
theorem loopQ_by {σ : Type} {x0 : Lv} {pj : (Nat → AV) → (Nat → Option (List AV)) → Lv} {body : (Lv → St → Prop) → (Nat → AV) → (Nat → Option (List AV)) → St → Prop} {S : St} (e : σ → Lv) (Inv : Nat → σ → St → Prop) (n0 : Nat) (s0 : σ)
    (h0 : x0 = e s0) (hi : Inv n0 s0 S) (hb : ∀ n s S v b, Inv n s S → pj v b = e s → body (Nx e Inv n) v b S) : loopQ x0 pj body S := by
  refine ⟨fun n x S => ∃ s, x = e s ∧ Inv n s S, ⟨n0, s0, h0, hi⟩, ?_⟩
  rintro n v b S ⟨s, hx, hI⟩
  have := hb n s S v b hI hx
  have e2 : Nx e Inv n = (fun x S' => ∃ m, m < n ∧ ∃ s, x = e s ∧ Inv m s S') := by
    funext x S'
    apply propext
    constructor
    · rintro ⟨m, s', h1, h2, h3⟩
      exact ⟨m, h1, s', h2, h3⟩
    · rintro ⟨m, h1, s', h2, h3⟩
      exact ⟨m, s', h1, h2, h3⟩
  rw [← e2]
  exact this
structure Nl {σ : Type} (e : Nat → σ → Lv) (Inv : Nat → σ → St → Prop) (k i : Nat) (x : Lv) (S' : St) : Prop where
  ex : ∃ j s', i < j ∧ j ≤ k ∧ x = e j s' ∧ Inv j s' S'
theorem Nl.next {σ : Type} {e : Nat → σ → Lv} {Inv : Nat → σ → St → Prop} {k i : Nat} {x : Lv} {S' : St} (h : i < k) (s' : σ) (hx : x = e (i + 1) s') (hi : Inv (i + 1) s' S') : Nl e Inv k i x S' := ⟨i + 1, s', by omega, by omega, hx, hi⟩
theorem loop_list {α σ : Type} {x0 : Lv} {pj : (Nat → AV) → (Nat → Option (List AV)) → Lv} {body : (Lv → St → Prop) → (Nat → AV) → (Nat → Option (List AV)) → St → Prop} {S : St} (l : List α) (e : Nat → σ → Lv) (Inv : Nat → σ → St → Prop) (s0 : σ)
    (h0 : x0 = e 0 s0) (hi : Inv 0 s0 S)
    (hs : ∀ i s S v b x, i < l.length → l[i]? = some x → l.drop i = x :: l.drop (i + 1) → (i : Int) < l.length → x ∈ l → Inv i s S → pj v b = e i s → body (Nl e Inv l.length i) v b S)
    (he : ∀ s S v b, Inv l.length s S → pj v b = e l.length s → ∀ N, body N v b S) : loopQ x0 pj body S := by
  refine ⟨fun n x S => ∃ s, n ≤ l.length ∧ x = e (l.length - n) s ∧ Inv (l.length - n) s S, ⟨l.length, s0, Nat.le_refl _, by rw [Nat.sub_self]; exact h0, by rw [Nat.sub_self]; exact hi⟩, ?_⟩
  rintro n v b S ⟨s, hn, hx, hI⟩
  by_cases c : l.length - n < l.length
  · have hh := hs (l.length - n) s S v b l[l.length - n] c (by simp [c]) (List.drop_eq_getElem_cons c) (by omega) (List.getElem_mem c) hI hx
    have : (Nl e Inv l.length (l.length - n)) = (fun x S' => ∃ m, m < n ∧ ∃ s, m ≤ l.length ∧ x = e (l.length - m) s ∧ Inv (l.length - m) s S') := by
      funext x S'
      apply propext
      constructor
      · rintro ⟨j, s', h1, h2, h3, h4⟩
        have : l.length - (l.length - j) = j := by omega
        exact ⟨l.length - j, by omega, s', by omega, by rw [this]; exact h3, by rw [this]; exact h4⟩
      · rintro ⟨m, h1, s', h2, h3, h4⟩
        exact ⟨l.length - m, s', by omega, by omega, h3, h4⟩
    rw [← this]
    exact hh
  · have : l.length - n = l.length := by omega
    rw [this] at hx hI
    exact he s S v b hI hx _
@[simp] theorem rt_strip_strip (r : Rt) : r.strip.strip = r.strip := by cases r <;> rfl
@[simp] theorem minA_int (k : IntKind) (x y : Int) : minA [.int k x, .int k y] = some (.int k (if y < x then y else x)) := by simp [minA]
@[simp] theorem maxA_int (k : IntKind) (x y : Int) : maxA [.int k x, .int k y] = some (.int k (if y > x then y else x)) := by simp [maxA]
@[simp] theorem idxSlA_vs (ei : TI) (es : List (List AV)) (r : Rt) (k : IntKind) (i sz : Nat) : idxSlA ei (.vs sz es r) (.int k (i : Int)) = if sz = ei.size then (es[i]?).map (.ep · 0) else none := by simp [idxSlA]
@[simp] theorem idxSlA_vs_lit (ei : TI) (es : List (List AV)) (r : Rt) (k : IntKind) (i sz : Nat) : idxSlA ei (.vs sz es r) (.int k (no_index (OfNat.ofNat i))) = if sz = ei.size then (es[i]?).map (.ep · 0) else none := idxSlA_vs ei es r k i sz
@[simp] theorem charA_str {s : List UInt8} {k : IntKind} {i : Nat} : charA (.str s) (.int k (i : Int)) = (s[i]?).map (fun b => .int .u8 b.toNat) := by simp [charA]
@[simp] theorem str_beq (a b : List UInt8) : (a == b) = decide (a = b) := by by_cases h : a = b <;> simp [h]
@[simp] theorem int_beq (a b : Int) : (a == b) = decide (a = b) := by by_cases h : a = b <;> simp [h]
@[simp] theorem binA_eql_str (a b : List UInt8) : binA .eql (.str a) (.str b) = some (.bool (decide (a = b))) := by simp [binA, strBin]
@[simp] theorem binA_neq_str (a b : List UInt8) : binA .neq (.str a) (.str b) = some (.bool (!decide (a = b))) := by simp [binA, strBin]
@[simp] theorem binA_lss_str (a b : List UInt8) : binA .lss (.str a) (.str b) = some (.bool (Op.bytesLess a b)) := rfl
@[simp] theorem binA_geq_str (a b : List UInt8) : binA .geq (.str a) (.str b) = some (.bool (!Op.bytesLess a b)) := rfl
theorem binA_add_str {a b : List UInt8} (h : a.length + b.length ≤ 1000000000000) : binA .add (.str a) (.str b) = some (.str (a ++ b)) := by simp [binA, strBin, h]
@[simp] theorem cutStr_lh (s : List UInt8) (k1 k2 : IntKind) (i k : Nat) : cutStrA (.str s) (some (.int k1 i)) (some (.int k2 k)) = if i ≤ k ∧ k ≤ s.length then some (.str ((s.take k).drop i)) else none := by
  by_cases h1 : k ≤ s.length
  · by_cases h2 : i ≤ k
    · simp [cutStrA, bnd, h1, h2]
    · simp [cutStrA, bnd, h1, h2]
  · simp [cutStrA, bnd, h1]
@[simp] theorem cutStr_l (s : List UInt8) (k1 : IntKind) (i : Nat) : cutStrA (.str s) (some (.int k1 i)) none = if i ≤ s.length then some (.str (s.drop i)) else none := by
  by_cases h2 : i ≤ s.length <;> simp [cutStrA, bnd, h2]
@[simp] theorem cutStr_h (s : List UInt8) (k2 : IntKind) (k : Nat) : cutStrA (.str s) none (some (.int k2 k)) = if k ≤ s.length then some (.str (s.take k)) else none := by
  by_cases h2 : k ≤ s.length <;> simp [cutStrA, bnd, h2]
@[simp] theorem cutStr_l_lit (s : List UInt8) (k1 : IntKind) (i : Nat) : cutStrA (.str s) (some (.int k1 (no_index (OfNat.ofNat i)))) none = if i ≤ s.length then some (.str (s.drop i)) else none := cutStr_l s k1 i
@[simp] theorem cutStr_h_lit (s : List UInt8) (k1 : IntKind) (i : Nat) : cutStrA (.str s) none (some (.int k1 (no_index (OfNat.ofNat i)))) = if i ≤ s.length then some (.str (s.take i)) else none := cutStr_h s k1 i
@[simp] theorem cutA_lh (ei : TI) (sz : Nat) (es : List (List AV)) (r : Rt) (k1 k2 : IntKind) (i k : Nat) :
    cutA ei (.vs sz es r) (some (.int k1 i)) (some (.int k2 k)) none = if sz = ei.size ∧ (i ≤ k ∧ k ≤ es.length) ∧ (r = .nil → es = []) then some (.vs sz ((es.take k).drop i) (if k = es.length then r else .none)) else none := by
  by_cases h0 : sz = ei.size
  case neg => simp [cutA, h0]
  by_cases h1 : k ≤ es.length
  case neg => simp [cutA, bnd, h0, h1]
  by_cases h2 : i ≤ k
  case neg => simp [cutA, bnd, h0, h1, h2]
  by_cases hr : r = .nil
  · subst hr
    by_cases he : es = []
    · subst he
      have : k = 0 := by simpa using h1
      subst this
      have : i = 0 := by omega
      subst this
      simp [cutA, bnd, h0]
    · simp [cutA, bnd, h0, h1, h2, he]
  · simp [cutA, bnd, h0, h1, h2, hr]
@[simp] theorem cutA_l (ei : TI) (sz : Nat) (es : List (List AV)) (r : Rt) (k1 : IntKind) (i : Nat) :
    cutA ei (.vs sz es r) (some (.int k1 i)) none none = if sz = ei.size ∧ i ≤ es.length ∧ (r = .nil → es = []) then some (.vs sz (es.drop i) r) else none := by
  have h := cutA_lh ei sz es r k1 k1 i es.length
  have e : cutA ei (.vs sz es r) (some (.int k1 i)) none none = cutA ei (.vs sz es r) (some (.int k1 i)) (some (.int k1 es.length)) none := by simp [cutA, bnd]
  rw [e, h]
  simp
@[simp] theorem cutA_h (ei : TI) (sz : Nat) (es : List (List AV)) (r : Rt) (k1 : IntKind) (k : Nat) :
    cutA ei (.vs sz es r) none (some (.int k1 k)) none = if sz = ei.size ∧ k ≤ es.length ∧ (r = .nil → es = []) then some (.vs sz (es.take k) (if k = es.length then r else .none)) else none := by
  have h := cutA_lh ei sz es r k1 k1 0 k
  have e : cutA ei (.vs sz es r) none (some (.int k1 k)) none = cutA ei (.vs sz es r) (some (.int k1 (0 : Nat))) (some (.int k1 k)) none := by simp [cutA, bnd]
  rw [e, h]
  simp
@[simp] theorem cutA_l_lit (ei : TI) (sz : Nat) (es : List (List AV)) (r : Rt) (k1 : IntKind) (i : Nat) :
    cutA ei (.vs sz es r) (some (.int k1 (no_index (OfNat.ofNat i)))) none none = if sz = ei.size ∧ i ≤ es.length ∧ (r = .nil → es = []) then some (.vs sz (es.drop i) r) else none := cutA_l ei sz es r k1 i
@[simp] theorem cutA_h_lit (ei : TI) (sz : Nat) (es : List (List AV)) (r : Rt) (k1 : IntKind) (k : Nat) :
    cutA ei (.vs sz es r) none (some (.int k1 (no_index (OfNat.ofNat k)))) none = if sz = ei.size ∧ k ≤ es.length ∧ (r = .nil → es = []) then some (.vs sz (es.take k) (if k = es.length then r else .none)) else none := cutA_h ei sz es r k1 k
@[simp] theorem strip0_str (s : List UInt8) : AV.strip0 (.str s) = .str s := rfl
@[simp] theorem strip0_bool (b : Bool) : AV.strip0 (.bool b) = .bool b := rfl
@[simp] theorem strip0_ptr (i o : Nat) : AV.strip0 (.ptr i o) = .ptr i o := rfl
@[simp] theorem strip0_nil : AV.strip0 .nil = .nil := rfl
@[simp] theorem strip0_map (m : Option Nat) : AV.strip0 (.map m) = .map m := rfl
@[simp] theorem strip0_rs (a b c d : Nat) : AV.strip0 (.rs a b c d) = .rs a b c d := rfl
@[simp] theorem strip2_nilifc : AV.strip2 .nilifc = .nilifc := rfl
@[simp] theorem flat_nilifc : AV.flat .nilifc = .nilifc := rfl
@[simp] theorem flat_map (m : Option Nat) : AV.flat (.map m) = .map m := rfl
@[simp] theorem flat_rs (a b c d : Nat) : AV.flat (.rs a b c d) = .rs a b c d := rfl
@[simp] theorem flat_fn (f : Nat) (a b : List AV) : AV.flat (.fn f a b) = .fn f a b := rfl
@[simp] theorem free_nilifc : AV.free .nilifc = true := rfl
@[simp] theorem free1_nilifc : AV.free1 .nilifc = true := rfl
@[simp] theorem free1_nil : AV.free1 .nil = true := rfl
@[simp] theorem free1_fn (f : Nat) (a b : List AV) : AV.free1 (.fn f a b) = true := rfl
@[simp] theorem free1_rs (a b c d : Nat) : AV.free1 (.rs a b c d) = true := rfl
@[simp] theorem free_rs (a b c d : Nat) : AV.free (.rs a b c d) = true := rfl
@[simp] theorem free1_ifc (t : Nat) (v : AV) : AV.free1 (.ifc t v) = true := rfl
@[simp] theorem strip1_nilifc : AV.strip1 .nilifc = .nilifc := rfl
@[simp] theorem strip1_rs (a b c d : Nat) : AV.strip1 (.rs a b c d) = .rs a b c d := rfl
@[simp] theorem strip1_nilfn : AV.strip1 .nilfn = .nilfn := rfl
@[simp] theorem free1_nilfn : AV.free1 .nilfn = true := rfl
@[simp] theorem cells_nil : AV.cells .nil = [.nil] := rfl
@[simp] theorem cells_rs (a b c d : Nat) : AV.cells (.rs a b c d) = [.rs a b c d] := rfl
@[simp] theorem cells_fn (f : Nat) (a b : List AV) : AV.cells (.fn f a b) = [.fn f a b] := rfl
@[simp] theorem cells_ifc (t : Nat) (v : AV) : AV.cells (.ifc t v) = [.ifc t v] := rfl
@[simp] theorem cells_nilifc : AV.cells .nilifc = [.nilifc] := rfl
@[simp] theorem gK_bool (c : Bool) (A B Z : Prop) : gK (.bool c) A B Z = ifK (.bool c) A B := by cases c <;> rfl
@[simp] theorem idxSlA_rs (ei : TI) (sz id off len : Nat) (k : IntKind) (i : Nat) : idxSlA ei (.rs sz id off len) (.int k (i : Int)) = if sz = ei.size ∧ i < len then some (.ptr id (off + i * sz)) else none := by simp [idxSlA]
@[simp] theorem idxSlA_rs_lit (ei : TI) (sz id off len : Nat) (k : IntKind) (i : Nat) : idxSlA ei (.rs sz id off len) (.int k (no_index (OfNat.ofNat i))) = if sz = ei.size ∧ i < len then some (.ptr id (off + i * sz)) else none := idxSlA_rs ei sz id off len k i
@[simp] theorem lenSlA_rs (sz id off len : Nat) : lenSlA (.rs sz id off len) = some (.int .i64 len) := rfl
@[simp] theorem charA_str_lit {s : List UInt8} {k : IntKind} {i : Nat} : charA (.str s) (.int k (no_index (OfNat.ofNat i))) = (s[i]?).map (fun b => .int .u8 b.toNat) := charA_str
@[simp] theorem cutA_rs_h (ei : TI) (sz id off len : Nat) (k : IntKind) (n : Nat) : cutA ei (.rs sz id off len) none (some (.int k (n : Int))) none = if sz = ei.size ∧ n ≤ len then some (.rs sz id off n) else none := by
  by_cases h0 : sz = ei.size <;> by_cases h1 : n ≤ len <;> simp [cutA, bnd, h0, h1]
end Go.Av
