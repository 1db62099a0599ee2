/- Parts of the proofs of this seat: abstract values over the model, and what the functions of the program do. No condition. -/
import Derived.Test.YtdjfhghokfiieaaGreatDoorM11
import Derived.Test.YtdjfhghokfiieaaGreatDoorM7
import Derived.IntWalk
set_option linter.all false
namespace Go.Av
section
variable {α : Type}
@[simp] theorem C2 {x : α} {k : α → Prop} : AA (some x) k = k x := rfl
@[simp] theorem bI {k : α → Prop} : AA none k = False := rfl
theorem AD {r : α} {b : α → Prop} : AJ r b = b r := rfl
@[simp] theorem OS {A B : Prop} : ifK (.bool true) A B = A := rfl
@[simp] theorem MD {A B : Prop} : ifK (.bool false) A B = B := rfl
theorem Wa {b : Bool} {A B : Prop} (h1 : b = true → A) (h2 : b = false → B) : ifK (.bool b) A B := by
 cases b
 ·exact h2 rfl
 ·exact h1 rfl
@[simp] theorem dw {A B Z : Prop} : gK (.bool true) A B Z = A := rfl
@[simp] theorem dS {A B Z : Prop} : gK (.bool false) A B Z = B := rfl
@[simp] theorem dn {A B Z : Prop} : gK (.tup []) A B Z = Z := rfl
end
@[simp] theorem cL (k : IntKind) (n : Int) : AV.strip (.int k n) = .int k n := rfl
@[simp] theorem aW (b : Bool) : AV.strip (.bool b) = .bool b := rfl
@[simp] theorem bh (s : List UInt8) : AV.strip (.str s) = .str s := rfl
@[simp] theorem strip_nil : AV.strip .nil = .nil := rfl
@[simp] theorem bm (i o : Nat) : AV.strip (.ptr i o) = .ptr i o := rfl
@[simp] theorem dW (c : List AV) (o : Nat) : AV.strip (.ep c o) = .ep c o := rfl
@[simp] theorem c8 (z : Nat) (es : List (List AV)) (r : Rt) : AV.strip (.vs z es r) = .vs z es r.strip := rfl
@[simp] theorem dE (a b c d : Nat) : AV.strip (.rs a b c d) = .rs a b c d := rfl
@[simp] theorem cT (m : Option Nat) : AV.strip (.map m) = .map m := rfl
@[simp] theorem co (f : Nat) (a b : List AV) : AV.strip (.fn f a b) = .fn f a b := rfl
@[simp] theorem Zv : AV.strip .nilfn = .nilfn := rfl
@[simp] theorem cS (t : Nat) (v : AV) : AV.strip (.ifc t v) = .ifc t v := rfl
@[simp] theorem ZP : AV.strip .nilifc = .nilifc := rfl
@[simp] theorem cR (cs : List AV) : AV.strip (.agg cs) = .agg (cs.map AV.strip1) := rfl
@[simp] theorem aA : AV.strip .undef = .undef := rfl
@[simp] theorem bz (cs : List AV) : AV.strip (.tup cs) = .tup (cs.map AV.strip2) := rfl
@[simp] theorem a8 (k : IntKind) (n : Int) : AV.strip1 (.int k n) = .int k n := rfl
@[simp] theorem Zp (b : Bool) : AV.strip1 (.bool b) = .bool b := rfl
@[simp] theorem aj (s : List UInt8) : AV.strip1 (.str s) = .str s := rfl
@[simp] theorem bg (z : Nat) (es : List (List AV)) (r : Rt) : AV.strip1 (.vs z es r) = .vs z es r.strip := rfl
@[simp] theorem aU (m : Option Nat) : AV.strip1 (.map m) = .map m := rfl
@[simp] theorem aP (i o : Nat) : AV.strip1 (.ptr i o) = .ptr i o := rfl
@[simp] theorem av : AV.strip1 .nil = .nil := rfl
@[simp] theorem cJ (f : Nat) (a b : List AV) : AV.strip1 (.fn f a b) = .fn f a b := rfl
@[simp] theorem aQ (t : Nat) (v : AV) : AV.strip1 (.ifc t v) = .ifc t v := rfl
@[simp] theorem cX (z : Nat) (es : List (List AV)) (r : Rt) : AV.strip0 (.vs z es r) = .vs z es r := rfl
@[simp] theorem aO (cs : List AV) : AV.strip0 (.agg cs) = .agg (cs.map AV.strip1) := rfl
@[simp] theorem Yq (t : Nat) : Rt.strip (.own t) = .none := rfl
@[simp] theorem ZE : Rt.strip .nil = .nil := rfl
@[simp] theorem Yb : Rt.strip .full = .full := rfl
@[simp] theorem Ya : Rt.strip .none = .none := rfl
theorem AQ {i : TI} {S : St} {id off tg : Nat} {cs : List AV} (h : S[id]? = some (.cells cs tg)) : Ad i S (.ptr id off) = HQ i cs off := by simp [Ad, Bx, h]
@[simp] theorem dg {i : TI} {S : St} {off : Nat} {cs : List AV} : Ad i S (.ep cs off) = HQ i cs off := rfl
theorem Ae {i : TI} {S : St} {id off tg : Nat} {cs : List AV} {x : AV} (h : S[id]? = some (.cells cs tg)) : Bk i S (.ptr id off) x = (Cr i cs off x).map fun cs' => S.set id (.cells cs' tg) := by simp [Bk, Bx, G6, h]
@[simp] theorem Ct {S : St} {id off tg : Nat} {cs : List AV} (h : S[id]? = some (.cells cs tg)) : stripMem S (.ptr id off) = S.set id (.cells (cs.modify off AV.strip1) tg) := by simp [stripMem, Bx, G6, h]
theorem wrap64 {n : Int} (h1 : -9223372036854775808 ≤ n) (h2 : n ≤ 9223372036854775807) : IntKind.i64.wrap n = n := IntWalk.i64_in n ⟨h1, h2⟩
theorem Ar {S : St} {id : Nat} {o o' : Obj} (h : S[id]? = some o) : (S.set id o')[id]? = some o' := by
 have := (List.getElem?_eq_some_iff.1 h).1
 simp [this]
theorem Bh {S : St} {id j : Nat} {o' : Obj} (h : id ≠ j) : (S.set id o')[j]? = S[j]? := by simp [h]
@[simp] theorem ah (a : AV) (l : List AV) : AN (.tup (a :: l)) 0 = .tup (a.strip2 :: l) := rfl
@[simp] theorem ag (a b : AV) (l : List AV) : AN (.tup (a :: b :: l)) 1 = .tup (a :: b.strip2 :: l) := rfl
@[simp] theorem ay (a b c : AV) (l : List AV) : AN (.tup (a :: b :: c :: l)) 2 = .tup (a :: b :: c.strip2 :: l) := rfl
@[simp] theorem aL (a b c d : AV) (l : List AV) : AN (.tup (a :: b :: c :: d :: l)) 3 = .tup (a :: b :: c :: d.strip2 :: l) := rfl
@[simp] theorem bK (a : AV) (l : List AV) : AL (.tup (a :: l)) 0 = some a := rfl
@[simp] theorem bQ (a b : AV) (l : List AV) : AL (.tup (a :: b :: l)) 1 = some b := rfl
@[simp] theorem am (a b c : AV) (l : List AV) : AL (.tup (a :: b :: c :: l)) 2 = some c := rfl
@[simp] theorem aJ (a b c d : AV) (l : List AV) : AL (.tup (a :: b :: c :: d :: l)) 3 = some d := rfl
@[simp] theorem ao (k : IntKind) (n : Int) : AV.strip2 (.int k n) = .int k n := rfl
@[simp] theorem Zo (b : Bool) : AV.strip2 (.bool b) = .bool b := rfl
@[simp] theorem ac (s : List UInt8) : AV.strip2 (.str s) = .str s := rfl
@[simp] theorem bT : AV.strip2 .nil = .nil := rfl
@[simp] theorem bR (i o : Nat) : AV.strip2 (.ptr i o) = .ptr i o := rfl
@[simp] theorem cD (z : Nat) (es : List (List AV)) (r : Rt) : AV.strip2 (.vs z es r) = .vs z es r.strip := rfl
@[simp] theorem bJ (m : Option Nat) : AV.strip2 (.map m) = .map m := rfl
@[simp] theorem bC (cs : List AV) : AV.strip2 (.agg cs) = .agg (cs.map AV.strip1) := rfl
@[simp] theorem bM (k : IntKind) (n : Int) : AV.strip0 (.int k n) = .int k n := rfl
@[simp] theorem cw (k : IntKind) (n : Int) : AV.flat (.int k n) = .int k n := rfl
@[simp] theorem bc (b : Bool) : AV.flat (.bool b) = .bool b := rfl
@[simp] theorem dj (s : List UInt8) : AV.flat (.str s) = .str s := rfl
@[simp] theorem dy (z : Nat) (es : List (List AV)) (r : Rt) : AV.flat (.vs z es r) = .vs z es r := rfl
@[simp] theorem flat_agg (cs : List AV) : AV.flat (.agg cs) = .agg cs := rfl
@[simp] theorem da (i o : Nat) : AV.flat (.ptr i o) = .ptr i o := rfl
@[simp] theorem di : AV.flat .nil = .nil := rfl
@[simp] theorem dJ (i o : Nat) : LS (.ptr i o) = some (.ptr i o) := rfl
@[simp] theorem dr (c : List AV) (o : Nat) : LS (.ep c o) = some (.ep c o) := rfl
@[simp] theorem Zy (i o d : Nat) : DT (.ptr i o) d = some (.ptr i (o + d)) := rfl
@[simp] theorem aV (c : List AV) (o d : Nat) : DT (.ep c o) d = some (.ep c (o + d)) := rfl
@[simp] theorem aK (a b : AV) : Aa (.bool true) a b = some a := rfl
@[simp] theorem aC (a b : AV) : Aa (.bool false) a b = some b := rfl
@[simp] theorem d9 (b : Bool) : unA .not (.bool b) = some (.bool (!b)) := rfl
@[simp] theorem dk (k : IntKind) (a b : Int) : AI .add (.int k a) (.int k b) = some (.int k (k.wrap (a + b))) := by simp [AI, Dq]
@[simp] theorem XJ (k : IntKind) (a b : Int) : AI .sub (.int k a) (.int k b) = some (.int k (k.wrap (a - b))) := by simp [AI, Dq]
@[simp] theorem ch (k : IntKind) (a b : Int) : AI .mul (.int k a) (.int k b) = some (.int k (k.wrap (a * b))) := by simp [AI, Dq]
@[simp] theorem dK (k : IntKind) (a b : Int) : AI .eql (.int k a) (.int k b) = some (.bool (decide (a = b))) := by simp [AI, Dq]; rfl
@[simp] theorem cc (k : IntKind) (a b : Int) : AI .neq (.int k a) (.int k b) = some (.bool (decide (a ≠ b))) := by simp [AI, Dq]; by_cases h : a = b <;> simp [h]
@[simp] theorem db (k : IntKind) (a b : Int) : AI .lss (.int k a) (.int k b) = some (.bool (decide (a < b))) := by simp [AI, Dq]
@[simp] theorem dN (k : IntKind) (a b : Int) : AI .leq (.int k a) (.int k b) = some (.bool (decide (a ≤ b))) := by simp [AI, Dq]
@[simp] theorem dQ (k : IntKind) (a b : Int) : AI .gtr (.int k a) (.int k b) = some (.bool (decide (a > b))) := by simp [AI, Dq]
@[simp] theorem dL (k : IntKind) (a b : Int) : AI .geq (.int k a) (.int k b) = some (.bool (decide (a ≥ b))) := by simp [AI, Dq]
@[simp] theorem YX (a b : Bool) : F4 .bool .eql (.bool a) (.bool b) = some (.bool (a == b)) := rfl
@[simp] theorem YW (a b : Bool) : F4 .bool .neq (.bool a) (.bool b) = some (.bool (!(a == b))) := rfl
@[simp] theorem bX (z : Nat) (es : List (List AV)) (r : Rt) : A7 (.vs z es r) = some (.int .i64 es.length) := rfl
@[simp] theorem Zt (s : List UInt8) : CM (.str s) = some (.int .i64 s.length) := rfl
@[simp] theorem bu {Ca : Nat → List AV → St → (AV → St → Prop) → Prop} {g : Nat} {xs : List AV} {S : St} {k : AV → St → Prop} : Az Ca g xs S k = AA (Mu xs) fun xs => Ca g xs S k := rfl
@[simp] theorem Xz (k : IntKind) (n : Int) : AV.free (.int k n) = true := rfl
@[simp] theorem bY (b : Bool) : AV.free (.bool b) = true := rfl
@[simp] theorem cp (s : List UInt8) : AV.free (.str s) = true := rfl
@[simp] theorem dq (z : Nat) (es : List (List AV)) (r : Rt) : AV.free (.vs z es r) = true := rfl
@[simp] theorem dM (i o : Nat) : AV.free (.ptr i o) = true := rfl
@[simp] theorem ci : AV.free .nil = true := rfl
@[simp] theorem cu (m : Option Nat) : AV.free (.map m) = true := rfl
@[simp] theorem cz (cs : List AV) : AV.free (.agg cs) = cs.all AV.free1 := rfl
@[simp] theorem dl (f : Nat) (a b : List AV) : AV.free (.fn f a b) = true := rfl
@[simp] theorem cq (t : Nat) (v : AV) : AV.free (.ifc t v) = true := rfl
@[simp] theorem cA (k : IntKind) (n : Int) : AV.free1 (.int k n) = true := rfl
@[simp] theorem aq (b : Bool) : AV.free1 (.bool b) = true := rfl
@[simp] theorem bZ (s : List UInt8) : AV.free1 (.str s) = true := rfl
@[simp] theorem cj (z : Nat) (es : List (List AV)) (r : Rt) : AV.free1 (.vs z es r) = true := rfl
@[simp] theorem cV (i o : Nat) : AV.free1 (.ptr i o) = true := rfl
@[simp] theorem cC (m : Option Nat) : AV.free1 (.map m) = true := rfl
@[simp] theorem WE (k : IntKind) (n : Int) : AV.cells (.int k n) = [.int k n] := rfl
@[simp] theorem au (b : Bool) : AV.cells (.bool b) = [.bool b] := rfl
@[simp] theorem cH (s : List UInt8) : AV.cells (.str s) = [.str s] := rfl
@[simp] theorem ce (z : Nat) (es : List (List AV)) (r : Rt) : AV.cells (.vs z es r) = [.vs z es r] := rfl
@[simp] theorem cB (i o : Nat) : AV.cells (.ptr i o) = [.ptr i o] := rfl
@[simp] theorem cM (m : Option Nat) : AV.cells (.map m) = [.map m] := rfl
@[simp] theorem bt (cs : List AV) : AV.cells (.agg cs) = cs := rfl
attribute [simp] HQ Mu Cr CL AG AP FU Ts Tv EY Qu QX Bm Bu
@[simp] theorem ZB (k k' : IntKind) (n : Int) : E2 k (.int k' n) = some (.int k (k.wrap n)) := rfl
theorem X7 (k : IntKind) (a b : Int) (hb : b ≠ 0) : AI .rem (.int k a) (.int k b) = some (.int k (a.tmod b)) := by simp [AI, Dq, hb]
theorem X2 (k : IntKind) (a b : Int) (hb : b ≠ 0) : AI .quo (.int k a) (.int k b) = some (.int k (k.wrap (a.tdiv b))) := by simp [AI, Dq, hb]
@[simp] theorem dz {c : Bool} {k : AV → Prop} {B : (AV → Prop) → Prop} :
  AJ (fun x => AA (Aa (.bool c) (.bool true) x) k) (fun j => ifK (.bool c) (j (.tup [])) (B j)) = AJ k (fun j => ifK (.bool c) (j (.bool true)) (B j)) := by cases c <;> rfl
@[simp] theorem dP {c : Bool} {k : AV → Prop} {B : (AV → Prop) → Prop} :
  AJ (fun x => AA (Aa (.bool c) x (.bool false)) k) (fun j => ifK (.bool c) (B j) (j (.tup []))) = AJ k (fun j => ifK (.bool c) (B j) (j (.bool false))) := by cases c <;> rfl
@[simp] theorem dB {c : Bool} {k : St → AV → Prop} {S : St} {B : (AV → St → Prop) → Prop} :
  AJ (fun x S => AA (Aa (.bool c) (.bool true) x) (k S)) (fun j => ifK (.bool c) (j (.tup []) S) (B j)) = AJ (fun x S => k S x) (fun j => ifK (.bool c) (j (.bool true) S) (B j)) := by cases c <;> rfl
@[simp] theorem cK {c : Bool} {k : St → AV → Prop} {S : St} {B : (AV → St → Prop) → Prop} :
  AJ (fun x S => AA (Aa (.bool c) x (.bool false)) (k S)) (fun j => ifK (.bool c) (B j) (j (.tup []) S)) = AJ (fun x S => k S x) (fun j => ifK (.bool c) (B j) (j (.bool false) S)) := by cases c <;> rfl
@[simp] theorem dv {c d : Bool} {k : AV → Prop} : AJ k (fun j => ifK (.bool c) (j (.bool true)) (j (.bool d))) = k (.bool (c || d)) := by cases c <;> rfl
@[simp] theorem dC {c d : Bool} {k : AV → Prop} : AJ k (fun j => ifK (.bool c) (j (.bool d)) (j (.bool false))) = k (.bool (c && d)) := by cases c <;> rfl
@[simp] theorem join_one {α : Type} {k : α → Prop} {x : α} : AJ k (fun j => j x) = k x := rfl
@[simp] theorem bf {α β : Type} {k : α → β → Prop} {x : α} {y : β} : AJ k (fun j => j x y) = k x y := rfl
theorem MG {α : Type} {r : α} {b : α → Prop} (J : α → Prop) (h1 : J r) (h2 : ∀ j, J j → b j) : AJ r b := h2 r h1
theorem Zz {c : Bool} {A B : Prop} (h1 : c = true → A) (h2 : c = false → B) : ifK (.bool c) A B := Wa h1 h2
structure Nx {σ : Type} (e : σ → Lv) (Inv : Nat → σ → St → Prop) (n : Nat) (x : Lv) (S' : St) : Prop where
 ex : ∃ m s', m < n ∧ x = e s' ∧ Inv m s' S'
theorem EH {σ : Type} {x0 : Lv} {pj : (Nat → AV) → (Nat → Option (List AV)) → Lv} {body : (Lv → St → Prop) → (Nat → AV) → (Nat → Option (List AV)) → St → Prop} {S : St} (e : σ → Lv) (Inv : Nat → σ → St → Prop) (n0 : Nat) (s0 : σ)
  (h0 : x0 = e s0) (hi : Inv n0 s0 S) (hb : ∀ n s S v b, Inv n s S → pj v b = e s → body (Nx e Inv n) v b S) : CE x0 pj body S := by
 refine ⟨fun n x S => ∃ s, x = e s ∧ Inv n s S, ⟨n0, s0, h0, hi⟩, ?_⟩
 rintro n v b S ⟨s, hx, hI⟩
 have := hb n s S v b hI hx
 have e2 : Nx e Inv n = (fun x S' => ∃ m, m < n ∧ ∃ s, x = e s ∧ Inv m s S') := by
  funext x S'
  apply propext
  constructor
  ·rintro ⟨m, s', h1, h2, h3⟩
   exact ⟨m, h1, s', h2, h3⟩
  ·rintro ⟨m, h1, s', h2, h3⟩
   exact ⟨m, s', h1, h2, h3⟩
 rw [← e2]
 exact this
structure Nl {σ : Type} (e : Nat → σ → Lv) (Inv : Nat → σ → St → Prop) (k i : Nat) (x : Lv) (S' : St) : Prop where
 ex : ∃ j s', i < j ∧ j ≤ k ∧ x = e j s' ∧ Inv j s' S'
theorem Nl.next {σ : Type} {e : Nat → σ → Lv} {Inv : Nat → σ → St → Prop} {k i : Nat} {x : Lv} {S' : St} (h : i < k) (s' : σ) (hx : x = e (i + 1) s') (hi : Inv (i + 1) s' S') : Nl e Inv k i x S' := ⟨i + 1, s', by omega, by omega, hx, hi⟩
theorem BI {α σ : Type} {x0 : Lv} {pj : (Nat → AV) → (Nat → Option (List AV)) → Lv} {body : (Lv → St → Prop) → (Nat → AV) → (Nat → Option (List AV)) → St → Prop} {S : St} (l : List α) (e : Nat → σ → Lv) (Inv : Nat → σ → St → Prop) (s0 : σ)
  (h0 : x0 = e 0 s0) (hi : Inv 0 s0 S)
  (hs : ∀ i s S v b x, i < l.length → l[i]? = some x → l.drop i = x :: l.drop (i + 1) → (i : Int) < l.length → x ∈ l → Inv i s S → pj v b = e i s → body (Nl e Inv l.length i) v b S)
  (he : ∀ s S v b, Inv l.length s S → pj v b = e l.length s → ∀ N, body N v b S) : CE x0 pj body S := by
 refine ⟨fun n x S => ∃ s, n ≤ l.length ∧ x = e (l.length - n) s ∧ Inv (l.length - n) s S, ⟨l.length, s0, Nat.le_refl _, by rw [Nat.sub_self]; exact h0, by rw [Nat.sub_self]; exact hi⟩, ?_⟩
 rintro n v b S ⟨s, hn, hx, hI⟩
 by_cases c : l.length - n < l.length
 ·have hh := hs (l.length - n) s S v b l[l.length - n] c (by simp [c]) (List.drop_eq_getElem_cons c) (by omega) (List.getElem_mem c) hI hx
  have : (Nl e Inv l.length (l.length - n)) = (fun x S' => ∃ m, m < n ∧ ∃ s, m ≤ l.length ∧ x = e (l.length - m) s ∧ Inv (l.length - m) s S') := by
   funext x S'
   apply propext
   constructor
   ·rintro ⟨j, s', h1, h2, h3, h4⟩
    have : l.length - (l.length - j) = j := by omega
    exact ⟨l.length - j, by omega, s', by omega, by rw [this]; exact h3, by rw [this]; exact h4⟩
   ·rintro ⟨m, h1, s', h2, h3, h4⟩
    exact ⟨l.length - m, s', by omega, by omega, h3, h4⟩
  rw [← this]
  exact hh
 ·have : l.length - n = l.length := by omega
  rw [this] at hx hI
  exact he s S v b hI hx _
@[simp] theorem Xw (r : Rt) : r.strip.strip = r.strip := by cases r <;> rfl
@[simp] theorem dh (k : IntKind) (x y : Int) : Xj [.int k x, .int k y] = some (.int k (if y < x then y else x)) := by simp [Xj]
@[simp] theorem dZ (k : IntKind) (x y : Int) : Sb [.int k x, .int k y] = some (.int k (if y > x then y else x)) := by simp [Sb]
@[simp] theorem WB (ei : TI) (es : List (List AV)) (r : Rt) (k : IntKind) (i sz : Nat) : Aq ei (.vs sz es r) (.int k (i : Int)) = if sz = ei.size then (es[i]?).map (.ep · 0) else none := by simp [Aq]
@[simp] theorem Yk (ei : TI) (es : List (List AV)) (r : Rt) (k : IntKind) (i sz : Nat) : Aq ei (.vs sz es r) (.int k (no_index (OfNat.ofNat i))) = if sz = ei.size then (es[i]?).map (.ep · 0) else none := WB ei es r k i sz
@[simp] theorem MO {s : List UInt8} {k : IntKind} {i : Nat} : DI (.str s) (.int k (i : Int)) = (s[i]?).map (fun b => .int .u8 b.toNat) := by simp [DI]
@[simp] theorem dt (a b : List UInt8) : (a == b) = decide (a = b) := by by_cases h : a = b <;> simp [h]
@[simp] theorem dp (a b : Int) : (a == b) = decide (a = b) := by by_cases h : a = b <;> simp [h]
@[simp] theorem ZQ (a b : List UInt8) : AI .eql (.str a) (.str b) = some (.bool (decide (a = b))) := by simp [AI, MM]
@[simp] theorem Y0 (a b : List UInt8) : AI .neq (.str a) (.str b) = some (.bool (!decide (a = b))) := by simp [AI, MM]
@[simp] theorem ZU (a b : List UInt8) : AI .lss (.str a) (.str b) = some (.bool (Op.bytesLess a b)) := rfl
@[simp] theorem ZO (a b : List UInt8) : AI .geq (.str a) (.str b) = some (.bool (!Op.bytesLess a b)) := rfl
theorem GL {a b : List UInt8} (h : a.length + b.length ≤ 1000000000000) : AI .add (.str a) (.str b) = some (.str (a ++ b)) := by simp [AI, MM, h]
theorem Xd {α : Type} {l : List α} {i : Nat} (c : i < l.length) : ∃ x, l[i]? = some x ∧ l.drop i = x :: l.drop (i + 1) ∧ (i : Int) < l.length ∧ x ∈ l :=
 ⟨l[i], by simp [c], List.drop_eq_getElem_cons c, by omega, List.getElem_mem c⟩
theorem Oj (s : List UInt8) (k1 k2 : IntKind) (a b : Int) (ha : 0 ≤ a) (hab : a ≤ b) (hb : b ≤ s.length) : Ba (.str s) (some (.int k1 a)) (some (.int k2 b)) = some (.str ((s.take b.toNat).drop a.toNat)) := by
 have h2 : a ≤ (b.toNat : Int) := by omega
 simp [Ba, bnd, ha, hb, show 0 ≤ b by omega]
 omega
@[simp] theorem cQ (s : List UInt8) (k1 k2 : IntKind) (i k : Nat) : Ba (.str s) (some (.int k1 i)) (some (.int k2 k)) = if i ≤ k ∧ k ≤ s.length then some (.str ((s.take k).drop i)) else none := by
 by_cases h1 : k ≤ s.length
 ·by_cases h2 : i ≤ k
  ·simp [Ba, bnd, h1, h2]
  ·simp [Ba, bnd, h1, h2]
 ·simp [Ba, bnd, h1]
@[simp] theorem Tz (s : List UInt8) (k1 : IntKind) (i : Nat) : Ba (.str s) (some (.int k1 i)) none = if i ≤ s.length then some (.str (s.drop i)) else none := by
 by_cases h2 : i ≤ s.length <;> simp [Ba, bnd, h2]
@[simp] theorem YK (s : List UInt8) (k2 : IntKind) (k : Nat) : Ba (.str s) none (some (.int k2 k)) = if k ≤ s.length then some (.str (s.take k)) else none := by
 by_cases h2 : k ≤ s.length <;> simp [Ba, bnd, h2]
@[simp] theorem Zg (s : List UInt8) (k1 : IntKind) (i : Nat) : Ba (.str s) (some (.int k1 (no_index (OfNat.ofNat i)))) none = if i ≤ s.length then some (.str (s.drop i)) else none := Tz s k1 i
@[simp] theorem Y3 (s : List UInt8) (k1 : IntKind) (i : Nat) : Ba (.str s) none (some (.int k1 (no_index (OfNat.ofNat i)))) = if i ≤ s.length then some (.str (s.take i)) else none := YK s k1 i
@[simp] theorem Vo (ei : TI) (sz : Nat) (es : List (List AV)) (r : Rt) (k1 k2 : IntKind) (i k : Nat) :
  Cm ei (.vs sz es r) (some (.int k1 i)) (some (.int k2 k)) none = if sz = ei.size ∧ (i ≤ k ∧ k ≤ es.length) ∧ (r = .nil → es = []) then some (.vs sz ((es.take k).drop i) (if k = es.length then r else .none)) else none := by
 by_cases h0 : sz = ei.size
 case neg => simp [Cm, h0]
 by_cases h1 : k ≤ es.length
 case neg => simp [Cm, bnd, h0, h1]
 by_cases h2 : i ≤ k
 case neg => simp [Cm, bnd, h0, h1, h2]
 by_cases hr : r = .nil
 ·subst hr
  by_cases he : es = []
  ·subst he
   have : k = 0 := by simpa using h1
   subst this
   have : i = 0 := by omega
   subst this
   simp [Cm, bnd, h0]
  ·simp [Cm, bnd, h0, h1, h2, he]
 ·simp [Cm, bnd, h0, h1, h2, hr]
@[simp] theorem Uh (ei : TI) (sz : Nat) (es : List (List AV)) (r : Rt) (k1 : IntKind) (i : Nat) :
  Cm ei (.vs sz es r) (some (.int k1 i)) none none = if sz = ei.size ∧ i ≤ es.length ∧ (r = .nil → es = []) then some (.vs sz (es.drop i) r) else none := by
 have h := Vo ei sz es r k1 k1 i es.length
 have e : Cm ei (.vs sz es r) (some (.int k1 i)) none none = Cm ei (.vs sz es r) (some (.int k1 i)) (some (.int k1 es.length)) none := by simp [Cm, bnd]
 rw [e, h]
 simp
@[simp] theorem UW (ei : TI) (sz : Nat) (es : List (List AV)) (r : Rt) (k1 : IntKind) (k : Nat) :
  Cm ei (.vs sz es r) none (some (.int k1 k)) none = if sz = ei.size ∧ k ≤ es.length ∧ (r = .nil → es = []) then some (.vs sz (es.take k) (if k = es.length then r else .none)) else none := by
 have h := Vo ei sz es r k1 k1 0 k
 have e : Cm ei (.vs sz es r) none (some (.int k1 k)) none = Cm ei (.vs sz es r) (some (.int k1 (0 : Nat))) (some (.int k1 k)) none := by simp [Cm, bnd]
 rw [e, h]
 simp
@[simp] theorem bP (ei : TI) (sz : Nat) (es : List (List AV)) (r : Rt) (k1 : IntKind) (i : Nat) :
  Cm ei (.vs sz es r) (some (.int k1 (no_index (OfNat.ofNat i)))) none none = if sz = ei.size ∧ i ≤ es.length ∧ (r = .nil → es = []) then some (.vs sz (es.drop i) r) else none := Uh ei sz es r k1 i
@[simp] theorem ax (ei : TI) (sz : Nat) (es : List (List AV)) (r : Rt) (k1 : IntKind) (k : Nat) :
  Cm ei (.vs sz es r) none (some (.int k1 (no_index (OfNat.ofNat k)))) none = if sz = ei.size ∧ k ≤ es.length ∧ (r = .nil → es = []) then some (.vs sz (es.take k) (if k = es.length then r else .none)) else none := UW ei sz es r k1 k
@[simp] theorem bB (s : List UInt8) : AV.strip0 (.str s) = .str s := rfl
@[simp] theorem Z8 (b : Bool) : AV.strip0 (.bool b) = .bool b := rfl
@[simp] theorem aw (i o : Nat) : AV.strip0 (.ptr i o) = .ptr i o := rfl
@[simp] theorem ak : AV.strip0 .nil = .nil := rfl
@[simp] theorem ar (m : Option Nat) : AV.strip0 (.map m) = .map m := rfl
@[simp] theorem cO (a b c d : Nat) : AV.strip0 (.rs a b c d) = .rs a b c d := rfl
@[simp] theorem Yo : AV.strip2 .nilifc = .nilifc := rfl
@[simp] theorem aD : AV.flat .nilifc = .nilifc := rfl
@[simp] theorem dc (m : Option Nat) : AV.flat (.map m) = .map m := rfl
@[simp] theorem eA (a b c d : Nat) : AV.flat (.rs a b c d) = .rs a b c d := rfl
@[simp] theorem dm (f : Nat) (a b : List AV) : AV.flat (.fn f a b) = .fn f a b := rfl
@[simp] theorem aG : AV.free .nilifc = true := rfl
@[simp] theorem Y8 : AV.free1 .nilifc = true := rfl
@[simp] theorem cU : AV.free1 .nil = true := rfl
@[simp] theorem dT (f : Nat) (a b : List AV) : AV.free1 (.fn f a b) = true := rfl
@[simp] theorem dO (a b c d : Nat) : AV.free1 (.rs a b c d) = true := rfl
@[simp] theorem d8 (a b c d : Nat) : AV.free (.rs a b c d) = true := rfl
@[simp] theorem cF (t : Nat) (v : AV) : AV.free1 (.ifc t v) = true := rfl
@[simp] theorem Yd : AV.strip1 .nilifc = .nilifc := rfl
@[simp] theorem cW (a b c d : Nat) : AV.strip1 (.rs a b c d) = .rs a b c d := rfl
@[simp] theorem Ze : AV.strip1 .nilfn = .nilfn := rfl
@[simp] theorem Z1 : AV.free1 .nilfn = true := rfl
@[simp] theorem cP : AV.cells .nil = [.nil] := rfl
@[simp] theorem cx (a b c d : Nat) : AV.cells (.rs a b c d) = [.rs a b c d] := rfl
@[simp] theorem dU (f : Nat) (a b : List AV) : AV.cells (.fn f a b) = [.fn f a b] := rfl
@[simp] theorem bw (t : Nat) (v : AV) : AV.cells (.ifc t v) = [.ifc t v] := rfl
@[simp] theorem ZA : AV.cells .nilifc = [.nilifc] := rfl
@[simp] theorem eB (c : Bool) (A B Z : Prop) : gK (.bool c) A B Z = ifK (.bool c) A B := by cases c <;> rfl
@[simp] theorem V8 (ei : TI) (sz id off len : Nat) (k : IntKind) (i : Nat) : Aq ei (.rs sz id off len) (.int k (i : Int)) = if sz = ei.size ∧ i < len then some (.ptr id (off + i * sz)) else none := by simp [Aq]
@[simp] theorem YZ (ei : TI) (sz id off len : Nat) (k : IntKind) (i : Nat) : Aq ei (.rs sz id off len) (.int k (no_index (OfNat.ofNat i))) = if sz = ei.size ∧ i < len then some (.ptr id (off + i * sz)) else none := V8 ei sz id off len k i
@[simp] theorem ba (sz id off len : Nat) : A7 (.rs sz id off len) = some (.int .i64 len) := rfl
@[simp] theorem YY {s : List UInt8} {k : IntKind} {i : Nat} : DI (.str s) (.int k (no_index (OfNat.ofNat i))) = (s[i]?).map (fun b => .int .u8 b.toNat) := MO
@[simp] theorem bW (ei : TI) (sz id off len : Nat) (k : IntKind) (n : Nat) : Cm ei (.rs sz id off len) none (some (.int k (n : Int))) none = if sz = ei.size ∧ n ≤ len then some (.rs sz id off n) else none := by
 by_cases h0 : sz = ei.size <;> by_cases h1 : n ≤ len <;> simp [Cm, bnd, h0, h1]
end Go.Av
