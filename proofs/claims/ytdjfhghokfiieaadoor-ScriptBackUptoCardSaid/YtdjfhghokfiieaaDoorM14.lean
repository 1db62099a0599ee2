/- Parts of the proofs of this seat: abstract values over the model, and what the functions of the program do. No condition. -/
import Derived.Test.YtdjfhghokfiieaaDoorM13
import Derived.Test.YtdjfhghokfiieaaDoorM6
import Derived.IntWalk
set_option linter.all false
namespace Go.Av
section
variable {α : Type}
@[simp] theorem C5 {x : α} {k : α → Prop} : AA (some x) k = k x := rfl
@[simp] theorem TQ {k : α → Prop} : AA none k = False := rfl
theorem AJ {r : α} {b : α → Prop} : Ab r b = b r := rfl
@[simp] theorem VC {A B : Prop} : ifK (.bool true) A B = A := rfl
@[simp] theorem Ts {A B : Prop} : ifK (.bool false) A B = B := rfl
@[simp] theorem VQ {A B Z : Prop} : gK (.bool true) A B Z = A := rfl
@[simp] theorem Uf {A B Z : Prop} : gK (.bool false) A B Z = B := rfl
@[simp] theorem VN {A B Z : Prop} : gK (.tup []) A B Z = Z := rfl
end
@[simp] theorem UF (k : IntKind) (n : Int) : AV.strip (.int k n) = .int k n := rfl
@[simp] theorem Sw (b : Bool) : AV.strip (.bool b) = .bool b := rfl
@[simp] theorem T0 (s : List UInt8) : AV.strip (.str s) = .str s := rfl
@[simp] theorem strip_nil : AV.strip .nil = .nil := rfl
@[simp] theorem UM (i o : Nat) : AV.strip (.ptr i o) = .ptr i o := rfl
@[simp] theorem VG (c : List AV) (o : Nat) : AV.strip (.ep c o) = .ep c o := rfl
@[simp] theorem Uy (z : Nat) (es : List (List AV)) (r : Rt) : AV.strip (.vs z es r) = .vs z es r.strip := rfl
@[simp] theorem Ue (a b c d : Nat) : AV.strip (.rs a b c d) = .rs a b c d := rfl
@[simp] theorem UH (m : Option Nat) : AV.strip (.map m) = .map m := rfl
@[simp] theorem U6 (f : Nat) (a b : List AV) : AV.strip (.fn f a b) = .fn f a b := rfl
@[simp] theorem SJ : AV.strip .nilfn = .nilfn := rfl
@[simp] theorem UI (t : Nat) (v : AV) : AV.strip (.ifc t v) = .ifc t v := rfl
@[simp] theorem Rj : AV.strip .nilifc = .nilifc := rfl
@[simp] theorem Tw (cs : List AV) : AV.strip (.agg cs) = .agg (cs.map AV.strip1) := rfl
@[simp] theorem SS : AV.strip .undef = .undef := rfl
@[simp] theorem T7 (cs : List AV) : AV.strip (.tup cs) = .tup (cs.map AV.strip2) := rfl
@[simp] theorem TH (k : IntKind) (n : Int) : AV.strip1 (.int k n) = .int k n := rfl
@[simp] theorem SG (b : Bool) : AV.strip1 (.bool b) = .bool b := rfl
@[simp] theorem Sb (s : List UInt8) : AV.strip1 (.str s) = .str s := rfl
@[simp] theorem Tq (z : Nat) (es : List (List AV)) (r : Rt) : AV.strip1 (.vs z es r) = .vs z es r.strip := rfl
@[simp] theorem TL (m : Option Nat) : AV.strip1 (.map m) = .map m := rfl
@[simp] theorem Sg (i o : Nat) : AV.strip1 (.ptr i o) = .ptr i o := rfl
@[simp] theorem TC : AV.strip1 .nil = .nil := rfl
@[simp] theorem Tp (f : Nat) (a b : List AV) : AV.strip1 (.fn f a b) = .fn f a b := rfl
@[simp] theorem TM (t : Nat) (v : AV) : AV.strip1 (.ifc t v) = .ifc t v := rfl
@[simp] theorem T4 (z : Nat) (es : List (List AV)) (r : Rt) : AV.strip0 (.vs z es r) = .vs z es r := rfl
@[simp] theorem Sh (cs : List AV) : AV.strip0 (.agg cs) = .agg (cs.map AV.strip1) := rfl
@[simp] theorem Ru (t : Nat) : Rt.strip (.own t) = .none := rfl
@[simp] theorem RR : Rt.strip .nil = .nil := rfl
@[simp] theorem RJ : Rt.strip .full = .full := rfl
@[simp] theorem Q6 : Rt.strip .none = .none := rfl
theorem Ck {i : TI} {S : St} {id off tg : Nat} {cs : List AV} (h : S[id]? = some (.cells cs tg)) : Al i S (.ptr id off) = E1 i cs off := by simp [Al, BN, h]
@[simp] theorem UW {i : TI} {S : St} {off : Nat} {cs : List AV} : Al i S (.ep cs off) = E1 i cs off := rfl
theorem BZ {i : TI} {S : St} {id off tg : Nat} {cs : List AV} {x : AV} (h : S[id]? = some (.cells cs tg)) : Cc i S (.ptr id off) x = (CZ i cs off x).map fun cs' => S.set id (.cells cs' tg) := by simp [Cc, BN, Eo, h]
@[simp] theorem EO {S : St} {id off tg : Nat} {cs : List AV} (h : S[id]? = some (.cells cs tg)) : stripMem S (.ptr id off) = S.set id (.cells (cs.modify off AV.strip1) tg) := by simp [stripMem, BN, Eo, h]
theorem wrap64 {n : Int} (h1 : -9223372036854775808 ≤ n) (h2 : n ≤ 9223372036854775807) : IntKind.i64.wrap n = n := IntWalk.i64_in n ⟨h1, h2⟩
theorem A3 {S : St} {id : Nat} {o o' : Obj} (h : S[id]? = some o) : (S.set id o')[id]? = some o' := by
 have := (List.getElem?_eq_some_iff.1 h).1
 simp [this]
theorem EP {S : St} {id j : Nat} {o' : Obj} (h : id ≠ j) : (S.set id o')[j]? = S[j]? := by simp [h]
@[simp] theorem Ta (a : AV) (l : List AV) : AY (.tup (a :: l)) 0 = .tup (a.strip2 :: l) := rfl
@[simp] theorem SX (a b : AV) (l : List AV) : AY (.tup (a :: b :: l)) 1 = .tup (a :: b.strip2 :: l) := rfl
@[simp] theorem So (a b c : AV) (l : List AV) : AY (.tup (a :: b :: c :: l)) 2 = .tup (a :: b :: c.strip2 :: l) := rfl
@[simp] theorem Sj (a b c d : AV) (l : List AV) : AY (.tup (a :: b :: c :: d :: l)) 3 = .tup (a :: b :: c :: d.strip2 :: l) := rfl
@[simp] theorem Sk (a : AV) (l : List AV) : AZ (.tup (a :: l)) 0 = some a := rfl
@[simp] theorem Sy (a b : AV) (l : List AV) : AZ (.tup (a :: b :: l)) 1 = some b := rfl
@[simp] theorem Sc (a b c : AV) (l : List AV) : AZ (.tup (a :: b :: c :: l)) 2 = some c := rfl
@[simp] theorem TO (a b c d : AV) (l : List AV) : AZ (.tup (a :: b :: c :: d :: l)) 3 = some d := rfl
@[simp] theorem S7 (k : IntKind) (n : Int) : AV.strip2 (.int k n) = .int k n := rfl
@[simp] theorem SN (b : Bool) : AV.strip2 (.bool b) = .bool b := rfl
@[simp] theorem TP (s : List UInt8) : AV.strip2 (.str s) = .str s := rfl
@[simp] theorem Tb : AV.strip2 .nil = .nil := rfl
@[simp] theorem S5 (i o : Nat) : AV.strip2 (.ptr i o) = .ptr i o := rfl
@[simp] theorem T3 (z : Nat) (es : List (List AV)) (r : Rt) : AV.strip2 (.vs z es r) = .vs z es r.strip := rfl
@[simp] theorem TS (m : Option Nat) : AV.strip2 (.map m) = .map m := rfl
@[simp] theorem Tf (cs : List AV) : AV.strip2 (.agg cs) = .agg (cs.map AV.strip1) := rfl
@[simp] theorem TZ (k : IntKind) (n : Int) : AV.strip0 (.int k n) = .int k n := rfl
@[simp] theorem Ut (k : IntKind) (n : Int) : AV.flat (.int k n) = .int k n := rfl
@[simp] theorem UO (b : Bool) : AV.flat (.bool b) = .bool b := rfl
@[simp] theorem Ui (s : List UInt8) : AV.flat (.str s) = .str s := rfl
@[simp] theorem VX (z : Nat) (es : List (List AV)) (r : Rt) : AV.flat (.vs z es r) = .vs z es r := rfl
@[simp] theorem flat_agg (cs : List AV) : AV.flat (.agg cs) = .agg cs := rfl
@[simp] theorem VH (i o : Nat) : AV.flat (.ptr i o) = .ptr i o := rfl
@[simp] theorem Uv : AV.flat .nil = .nil := rfl
@[simp] theorem U9 (i o : Nat) : Ri (.ptr i o) = some (.ptr i o) := rfl
@[simp] theorem VM (c : List AV) (o : Nat) : Ri (.ep c o) = some (.ep c o) := rfl
@[simp] theorem R5 (i o d : Nat) : H3 (.ptr i o) d = some (.ptr i (o + d)) := rfl
@[simp] theorem Si (c : List AV) (o d : Nat) : H3 (.ep c o) d = some (.ep c (o + d)) := rfl
@[simp] theorem TR (a b : AV) : Ax (.bool true) a b = some a := rfl
@[simp] theorem SF (a b : AV) : Ax (.bool false) a b = some b := rfl
@[simp] theorem VW (b : Bool) : unA .not (.bool b) = some (.bool (!b)) := rfl
@[simp] theorem UU (k : IntKind) (a b : Int) : AF .add (.int k a) (.int k b) = some (.int k (k.wrap (a + b))) := by simp [AF, Co]
@[simp] theorem QB (k : IntKind) (a b : Int) : AF .sub (.int k a) (.int k b) = some (.int k (k.wrap (a - b))) := by simp [AF, Co]
@[simp] theorem Ur (k : IntKind) (a b : Int) : AF .mul (.int k a) (.int k b) = some (.int k (k.wrap (a * b))) := by simp [AF, Co]
@[simp] theorem Uj (k : IntKind) (a b : Int) : AF .eql (.int k a) (.int k b) = some (.bool (decide (a = b))) := by simp [AF, Co]; rfl
@[simp] theorem UR (k : IntKind) (a b : Int) : AF .neq (.int k a) (.int k b) = some (.bool (decide (a ≠ b))) := by simp [AF, Co]; by_cases h : a = b <;> simp [h]
@[simp] theorem US (k : IntKind) (a b : Int) : AF .lss (.int k a) (.int k b) = some (.bool (decide (a < b))) := by simp [AF, Co]
@[simp] theorem Uu (k : IntKind) (a b : Int) : AF .leq (.int k a) (.int k b) = some (.bool (decide (a ≤ b))) := by simp [AF, Co]
@[simp] theorem UQ (k : IntKind) (a b : Int) : AF .gtr (.int k a) (.int k b) = some (.bool (decide (a > b))) := by simp [AF, Co]
@[simp] theorem UZ (k : IntKind) (a b : Int) : AF .geq (.int k a) (.int k b) = some (.bool (decide (a ≥ b))) := by simp [AF, Co]
@[simp] theorem RG (a b : Bool) : HH .bool .eql (.bool a) (.bool b) = some (.bool (a == b)) := rfl
@[simp] theorem RI (a b : Bool) : HH .bool .neq (.bool a) (.bool b) = some (.bool (!(a == b))) := rfl
@[simp] theorem Tu (z : Nat) (es : List (List AV)) (r : Rt) : Ao (.vs z es r) = some (.int .i64 es.length) := rfl
@[simp] theorem SV (s : List UInt8) : E3 (.str s) = some (.int .i64 s.length) := rfl
@[simp] theorem Tr {Ca : Nat → List AV → St → (AV → St → Prop) → Prop} {g : Nat} {xs : List AV} {S : St} {k : AV → St → Prop} : As Ca g xs S k = AA (JO xs) fun xs => Ca g xs S k := rfl
@[simp] theorem U2 (k : IntKind) (n : Int) : AV.free (.int k n) = true := rfl
@[simp] theorem Tt (b : Bool) : AV.free (.bool b) = true := rfl
@[simp] theorem Uo (s : List UInt8) : AV.free (.str s) = true := rfl
@[simp] theorem Vc (z : Nat) (es : List (List AV)) (r : Rt) : AV.free (.vs z es r) = true := rfl
@[simp] theorem U7 (i o : Nat) : AV.free (.ptr i o) = true := rfl
@[simp] theorem Ul : AV.free .nil = true := rfl
@[simp] theorem U0 (m : Option Nat) : AV.free (.map m) = true := rfl
@[simp] theorem VB (cs : List AV) : AV.free (.agg cs) = cs.all AV.free1 := rfl
@[simp] theorem VJ (f : Nat) (a b : List AV) : AV.free (.fn f a b) = true := rfl
@[simp] theorem Uw (t : Nat) (v : AV) : AV.free (.ifc t v) = true := rfl
@[simp] theorem T8 (k : IntKind) (n : Int) : AV.free1 (.int k n) = true := rfl
@[simp] theorem TU (b : Bool) : AV.free1 (.bool b) = true := rfl
@[simp] theorem UL (s : List UInt8) : AV.free1 (.str s) = true := rfl
@[simp] theorem Ua (z : Nat) (es : List (List AV)) (r : Rt) : AV.free1 (.vs z es r) = true := rfl
@[simp] theorem Tm (i o : Nat) : AV.free1 (.ptr i o) = true := rfl
@[simp] theorem T9 (m : Option Nat) : AV.free1 (.map m) = true := rfl
@[simp] theorem UG (k : IntKind) (n : Int) : AV.cells (.int k n) = [.int k n] := rfl
@[simp] theorem TF (b : Bool) : AV.cells (.bool b) = [.bool b] := rfl
@[simp] theorem UA (s : List UInt8) : AV.cells (.str s) = [.str s] := rfl
@[simp] theorem U5 (z : Nat) (es : List (List AV)) (r : Rt) : AV.cells (.vs z es r) = [.vs z es r] := rfl
@[simp] theorem T1 (i o : Nat) : AV.cells (.ptr i o) = [.ptr i o] := rfl
@[simp] theorem Tj (m : Option Nat) : AV.cells (.map m) = [.map m] := rfl
@[simp] theorem UP (cs : List AV) : AV.cells (.agg cs) = cs := rfl
attribute [simp] E1 JO CZ Bk AG A4 GT NA NU Hh MI Lt Bx D2
@[simp] theorem Rw (k k' : IntKind) (n : Int) : Em k (.int k' n) = some (.int k (k.wrap n)) := rfl
@[simp] theorem VV {c : Bool} {k : AV → Prop} {B : (AV → Prop) → Prop} :
  Ab (fun x => AA (Ax (.bool c) (.bool true) x) k) (fun j => ifK (.bool c) (j (.tup [])) (B j)) = Ab k (fun j => ifK (.bool c) (j (.bool true)) (B j)) := by cases c <;> rfl
@[simp] theorem UT {c : Bool} {k : AV → Prop} {B : (AV → Prop) → Prop} :
  Ab (fun x => AA (Ax (.bool c) x (.bool false)) k) (fun j => ifK (.bool c) (B j) (j (.tup []))) = Ab k (fun j => ifK (.bool c) (B j) (j (.bool false))) := by cases c <;> rfl
@[simp] theorem Us {c : Bool} {k : St → AV → Prop} {S : St} {B : (AV → St → Prop) → Prop} :
  Ab (fun x S => AA (Ax (.bool c) (.bool true) x) (k S)) (fun j => ifK (.bool c) (j (.tup []) S) (B j)) = Ab (fun x S => k S x) (fun j => ifK (.bool c) (j (.bool true) S) (B j)) := by cases c <;> rfl
@[simp] theorem Tv {c : Bool} {k : St → AV → Prop} {S : St} {B : (AV → St → Prop) → Prop} :
  Ab (fun x S => AA (Ax (.bool c) x (.bool false)) (k S)) (fun j => ifK (.bool c) (B j) (j (.tup []) S)) = Ab (fun x S => k S x) (fun j => ifK (.bool c) (B j) (j (.bool false) S)) := by cases c <;> rfl
@[simp] theorem VS {c d : Bool} {k : AV → Prop} : Ab k (fun j => ifK (.bool c) (j (.bool true)) (j (.bool d))) = k (.bool (c || d)) := by cases c <;> rfl
@[simp] theorem Up {c d : Bool} {k : AV → Prop} : Ab k (fun j => ifK (.bool c) (j (.bool d)) (j (.bool false))) = k (.bool (c && d)) := by cases c <;> rfl
@[simp] theorem join_one {α : Type} {k : α → Prop} {x : α} : Ab k (fun j => j x) = k x := rfl
@[simp] theorem Tl {α β : Type} {k : α → β → Prop} {x : α} {y : β} : Ab k (fun j => j x y) = k x y := rfl
theorem Ir {α : Type} {r : α} {b : α → Prop} (J : α → Prop) (h1 : J r) (h2 : ∀ j, J j → b j) : Ab r b := h2 r h1
structure Nx {σ : Type} (e : σ → Lv) (Inv : Nat → σ → St → Prop) (n : Nat) (x : Lv) (S' : St) : Prop where
 ex : ∃ m s', m < n ∧ x = e s' ∧ Inv m s' S'
theorem K8 {σ : Type} {x0 : Lv} {pj : (Nat → AV) → (Nat → Option (List AV)) → Lv} {body : (Lv → St → Prop) → (Nat → AV) → (Nat → Option (List AV)) → St → Prop} {S : St} (e : σ → Lv) (Inv : Nat → σ → St → Prop) (n0 : Nat) (s0 : σ)
  (h0 : x0 = e s0) (hi : Inv n0 s0 S) (hb : ∀ n s S v b, Inv n s S → pj v b = e s → body (Nx e Inv n) v b S) : Br x0 pj body S := by
 refine ⟨fun n x S => ∃ s, x = e s ∧ Inv n s S, ⟨n0, s0, h0, hi⟩, ?_⟩
 rintro n v b S ⟨s, hx, hI⟩
 have := hb n s S v b hI hx
 have e2 : Nx e Inv n = (fun x S' => ∃ m, m < n ∧ ∃ s, x = e s ∧ Inv m s S') := by
  funext x S'
  apply propext
  constructor
  ·rintro ⟨m, s', h1, h2, h3⟩
   exact ⟨m, h1, s', h2, h3⟩
  ·rintro ⟨m, h1, s', h2, h3⟩
   exact ⟨m, s', h1, h2, h3⟩
 rw [← e2]
 exact this
structure Nl {σ : Type} (e : Nat → σ → Lv) (Inv : Nat → σ → St → Prop) (k i : Nat) (x : Lv) (S' : St) : Prop where
 ex : ∃ j s', i < j ∧ j ≤ k ∧ x = e j s' ∧ Inv j s' S'
theorem Nl.next {σ : Type} {e : Nat → σ → Lv} {Inv : Nat → σ → St → Prop} {k i : Nat} {x : Lv} {S' : St} (h : i < k) (s' : σ) (hx : x = e (i + 1) s') (hi : Inv (i + 1) s' S') : Nl e Inv k i x S' := ⟨i + 1, s', by omega, by omega, hx, hi⟩
theorem A1 {α σ : Type} {x0 : Lv} {pj : (Nat → AV) → (Nat → Option (List AV)) → Lv} {body : (Lv → St → Prop) → (Nat → AV) → (Nat → Option (List AV)) → St → Prop} {S : St} (l : List α) (e : Nat → σ → Lv) (Inv : Nat → σ → St → Prop) (s0 : σ)
  (h0 : x0 = e 0 s0) (hi : Inv 0 s0 S)
  (hs : ∀ i s S v b x, i < l.length → l[i]? = some x → l.drop i = x :: l.drop (i + 1) → (i : Int) < l.length → x ∈ l → Inv i s S → pj v b = e i s → body (Nl e Inv l.length i) v b S)
  (he : ∀ s S v b, Inv l.length s S → pj v b = e l.length s → ∀ N, body N v b S) : Br x0 pj body S := by
 refine ⟨fun n x S => ∃ s, n ≤ l.length ∧ x = e (l.length - n) s ∧ Inv (l.length - n) s S, ⟨l.length, s0, Nat.le_refl _, by rw [Nat.sub_self]; exact h0, by rw [Nat.sub_self]; exact hi⟩, ?_⟩
 rintro n v b S ⟨s, hn, hx, hI⟩
 by_cases c : l.length - n < l.length
 ·have hh := hs (l.length - n) s S v b l[l.length - n] c (by simp [c]) (List.drop_eq_getElem_cons c) (by omega) (List.getElem_mem c) hI hx
  have : (Nl e Inv l.length (l.length - n)) = (fun x S' => ∃ m, m < n ∧ ∃ s, m ≤ l.length ∧ x = e (l.length - m) s ∧ Inv (l.length - m) s S') := by
   funext x S'
   apply propext
   constructor
   ·rintro ⟨j, s', h1, h2, h3, h4⟩
    have : l.length - (l.length - j) = j := by omega
    exact ⟨l.length - j, by omega, s', by omega, by rw [this]; exact h3, by rw [this]; exact h4⟩
   ·rintro ⟨m, h1, s', h2, h3, h4⟩
    exact ⟨l.length - m, s', by omega, by omega, h3, h4⟩
  rw [← this]
  exact hh
 ·have : l.length - n = l.length := by omega
  rw [this] at hx hI
  exact he s S v b hI hx _
@[simp] theorem Qq (r : Rt) : r.strip.strip = r.strip := by cases r <;> rfl
@[simp] theorem VA (k : IntKind) (x y : Int) : Qj [.int k x, .int k y] = some (.int k (if y < x then y else x)) := by simp [Qj]
@[simp] theorem U1 (k : IntKind) (x y : Int) : Ng [.int k x, .int k y] = some (.int k (if y > x then y else x)) := by simp [Ng]
@[simp] theorem PY (ei : TI) (es : List (List AV)) (r : Rt) (k : IntKind) (i sz : Nat) : Ae ei (.vs sz es r) (.int k (i : Int)) = if sz = ei.size then (es[i]?).map (.ep · 0) else none := by simp [Ae]
@[simp] theorem RE (ei : TI) (es : List (List AV)) (r : Rt) (k : IntKind) (i sz : Nat) : Ae ei (.vs sz es r) (.int k (no_index (OfNat.ofNat i))) = if sz = ei.size then (es[i]?).map (.ep · 0) else none := PY ei es r k i sz
@[simp] theorem FZ {s : List UInt8} {k : IntKind} {i : Nat} : Cw (.str s) (.int k (i : Int)) = (s[i]?).map (fun b => .int .u8 b.toNat) := by simp [Cw]
@[simp] theorem VP (a b : List UInt8) : (a == b) = decide (a = b) := by by_cases h : a = b <;> simp [h]
@[simp] theorem VU (a b : Int) : (a == b) = decide (a = b) := by by_cases h : a = b <;> simp [h]
@[simp] theorem Rp (a b : List UInt8) : AF .eql (.str a) (.str b) = some (.bool (decide (a = b))) := by simp [AF, Ik]
@[simp] theorem RQ (a b : List UInt8) : AF .neq (.str a) (.str b) = some (.bool (!decide (a = b))) := by simp [AF, Ik]
@[simp] theorem Rk (a b : List UInt8) : AF .lss (.str a) (.str b) = some (.bool (Op.bytesLess a b)) := rfl
@[simp] theorem Ry (a b : List UInt8) : AF .geq (.str a) (.str b) = some (.bool (!Op.bytesLess a b)) := rfl
theorem AE {a b : List UInt8} (h : a.length + b.length ≤ 1000000000000) : AF .add (.str a) (.str b) = some (.str (a ++ b)) := by simp [AF, Ik, h]
@[simp] theorem Tz (s : List UInt8) (k1 k2 : IntKind) (i k : Nat) : CQ (.str s) (some (.int k1 i)) (some (.int k2 k)) = if i ≤ k ∧ k ≤ s.length then some (.str ((s.take k).drop i)) else none := by
 by_cases h1 : k ≤ s.length
 ·by_cases h2 : i ≤ k
  ·simp [CQ, bnd, h1, h2]
  ·simp [CQ, bnd, h1, h2]
 ·simp [CQ, bnd, h1]
@[simp] theorem QE (s : List UInt8) (k1 : IntKind) (i : Nat) : CQ (.str s) (some (.int k1 i)) none = if i ≤ s.length then some (.str (s.drop i)) else none := by
 by_cases h2 : i ≤ s.length <;> simp [CQ, bnd, h2]
@[simp] theorem QS (s : List UInt8) (k2 : IntKind) (k : Nat) : CQ (.str s) none (some (.int k2 k)) = if k ≤ s.length then some (.str (s.take k)) else none := by
 by_cases h2 : k ≤ s.length <;> simp [CQ, bnd, h2]
@[simp] theorem Rz (s : List UInt8) (k1 : IntKind) (i : Nat) : CQ (.str s) (some (.int k1 (no_index (OfNat.ofNat i)))) none = if i ≤ s.length then some (.str (s.drop i)) else none := QE s k1 i
@[simp] theorem Rn (s : List UInt8) (k1 : IntKind) (i : Nat) : CQ (.str s) none (some (.int k1 (no_index (OfNat.ofNat i)))) = if i ≤ s.length then some (.str (s.take i)) else none := QS s k1 i
@[simp] theorem O6 (ei : TI) (sz : Nat) (es : List (List AV)) (r : Rt) (k1 k2 : IntKind) (i k : Nat) :
  Bt ei (.vs sz es r) (some (.int k1 i)) (some (.int k2 k)) none = if sz = ei.size ∧ (i ≤ k ∧ k ≤ es.length) ∧ (r = .nil → es = []) then some (.vs sz ((es.take k).drop i) (if k = es.length then r else .none)) else none := by
 by_cases h0 : sz = ei.size
 case neg => simp [Bt, h0]
 by_cases h1 : k ≤ es.length
 case neg => simp [Bt, bnd, h0, h1]
 by_cases h2 : i ≤ k
 case neg => simp [Bt, bnd, h0, h1, h2]
 by_cases hr : r = .nil
 ·subst hr
  by_cases he : es = []
  ·subst he
   have : k = 0 := by simpa using h1
   subst this
   have : i = 0 := by omega
   subst this
   simp [Bt, bnd, h0]
  ·simp [Bt, bnd, h0, h1, h2, he]
 ·simp [Bt, bnd, h0, h1, h2, hr]
@[simp] theorem Te (ei : TI) (sz : Nat) (es : List (List AV)) (r : Rt) (k1 : IntKind) (i : Nat) :
  Bt ei (.vs sz es r) (some (.int k1 i)) none none = if sz = ei.size ∧ i ≤ es.length ∧ (r = .nil → es = []) then some (.vs sz (es.drop i) r) else none := by
 have h := O6 ei sz es r k1 k1 i es.length
 have e : Bt ei (.vs sz es r) (some (.int k1 i)) none none = Bt ei (.vs sz es r) (some (.int k1 i)) (some (.int k1 es.length)) none := by simp [Bt, bnd]
 rw [e, h]
 simp
@[simp] theorem Sz (ei : TI) (sz : Nat) (es : List (List AV)) (r : Rt) (k1 : IntKind) (k : Nat) :
  Bt ei (.vs sz es r) none (some (.int k1 k)) none = if sz = ei.size ∧ k ≤ es.length ∧ (r = .nil → es = []) then some (.vs sz (es.take k) (if k = es.length then r else .none)) else none := by
 have h := O6 ei sz es r k1 k1 0 k
 have e : Bt ei (.vs sz es r) none (some (.int k1 k)) none = Bt ei (.vs sz es r) (some (.int k1 (0 : Nat))) (some (.int k1 k)) none := by simp [Bt, bnd]
 rw [e, h]
 simp
@[simp] theorem Sv (ei : TI) (sz : Nat) (es : List (List AV)) (r : Rt) (k1 : IntKind) (i : Nat) :
  Bt ei (.vs sz es r) (some (.int k1 (no_index (OfNat.ofNat i)))) none none = if sz = ei.size ∧ i ≤ es.length ∧ (r = .nil → es = []) then some (.vs sz (es.drop i) r) else none := Te ei sz es r k1 i
@[simp] theorem Sd (ei : TI) (sz : Nat) (es : List (List AV)) (r : Rt) (k1 : IntKind) (k : Nat) :
  Bt ei (.vs sz es r) none (some (.int k1 (no_index (OfNat.ofNat k)))) none = if sz = ei.size ∧ k ≤ es.length ∧ (r = .nil → es = []) then some (.vs sz (es.take k) (if k = es.length then r else .none)) else none := Sz ei sz es r k1 k
@[simp] theorem S9 (s : List UInt8) : AV.strip0 (.str s) = .str s := rfl
@[simp] theorem SA (b : Bool) : AV.strip0 (.bool b) = .bool b := rfl
@[simp] theorem TJ (i o : Nat) : AV.strip0 (.ptr i o) = .ptr i o := rfl
@[simp] theorem Tg : AV.strip0 .nil = .nil := rfl
@[simp] theorem Th (m : Option Nat) : AV.strip0 (.map m) = .map m := rfl
@[simp] theorem UE (a b c d : Nat) : AV.strip0 (.rs a b c d) = .rs a b c d := rfl
@[simp] theorem RA : AV.strip2 .nilifc = .nilifc := rfl
@[simp] theorem SP : AV.flat .nilifc = .nilifc := rfl
@[simp] theorem VF (m : Option Nat) : AV.flat (.map m) = .map m := rfl
@[simp] theorem VL (a b c d : Nat) : AV.flat (.rs a b c d) = .rs a b c d := rfl
@[simp] theorem VY (f : Nat) (a b : List AV) : AV.flat (.fn f a b) = .fn f a b := rfl
@[simp] theorem SK : AV.free .nilifc = true := rfl
@[simp] theorem Rq : AV.free1 .nilifc = true := rfl
@[simp] theorem UJ : AV.free1 .nil = true := rfl
@[simp] theorem Ub (f : Nat) (a b : List AV) : AV.free1 (.fn f a b) = true := rfl
@[simp] theorem UV (a b c d : Nat) : AV.free1 (.rs a b c d) = true := rfl
@[simp] theorem VT (a b c d : Nat) : AV.free (.rs a b c d) = true := rfl
@[simp] theorem Tx (t : Nat) (v : AV) : AV.free1 (.ifc t v) = true := rfl
@[simp] theorem Q8 : AV.strip1 .nilifc = .nilifc := rfl
@[simp] theorem Ti (a b c d : Nat) : AV.strip1 (.rs a b c d) = .rs a b c d := rfl
@[simp] theorem Rb : AV.strip1 .nilfn = .nilfn := rfl
@[simp] theorem SI : AV.free1 .nilfn = true := rfl
@[simp] theorem UD : AV.cells .nil = [.nil] := rfl
@[simp] theorem Ud (a b c d : Nat) : AV.cells (.rs a b c d) = [.rs a b c d] := rfl
@[simp] theorem Uc (f : Nat) (a b : List AV) : AV.cells (.fn f a b) = [.fn f a b] := rfl
@[simp] theorem UC (t : Nat) (v : AV) : AV.cells (.ifc t v) = [.ifc t v] := rfl
@[simp] theorem RO : AV.cells .nilifc = [.nilifc] := rfl
@[simp] theorem VZ (c : Bool) (A B Z : Prop) : gK (.bool c) A B Z = ifK (.bool c) A B := by cases c <;> rfl
@[simp] theorem PO (ei : TI) (sz id off len : Nat) (k : IntKind) (i : Nat) : Ae ei (.rs sz id off len) (.int k (i : Int)) = if sz = ei.size ∧ i < len then some (.ptr id (off + i * sz)) else none := by simp [Ae]
@[simp] theorem RC (ei : TI) (sz id off len : Nat) (k : IntKind) (i : Nat) : Ae ei (.rs sz id off len) (.int k (no_index (OfNat.ofNat i))) = if sz = ei.size ∧ i < len then some (.ptr id (off + i * sz)) else none := PO ei sz id off len k i
@[simp] theorem UN (sz id off len : Nat) : Ao (.rs sz id off len) = some (.int .i64 len) := rfl
@[simp] theorem Q4 {s : List UInt8} {k : IntKind} {i : Nat} : Cw (.str s) (.int k (no_index (OfNat.ofNat i))) = (s[i]?).map (fun b => .int .u8 b.toNat) := FZ
@[simp] theorem UK (ei : TI) (sz id off len : Nat) (k : IntKind) (n : Nat) : Bt ei (.rs sz id off len) none (some (.int k (n : Int))) none = if sz = ei.size ∧ n ≤ len then some (.rs sz id off n) else none := by
 by_cases h0 : sz = ei.size <;> by_cases h1 : n ≤ len <;> simp [Bt, bnd, h0, h1]
end Go.Av
