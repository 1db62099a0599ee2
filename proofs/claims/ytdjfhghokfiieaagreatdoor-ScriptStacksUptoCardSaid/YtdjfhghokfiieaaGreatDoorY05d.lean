/- Parts of the proofs of this seat: abstract values over the model, and what the functions of the program do. No condition. -/
import Derived.Test.YtdjfhghokfiieaaGreatDoorY05b
import Derived.Test.YtdjfhghokfiieaaGreatDoorX04L
import Derived.Test.YtdjfhghokfiieaaGreatDoorDRow
import Derived.Test.YtdjfhghokfiieaaGreatDoorY04
import Derived.Test.YtdjfhghokfiieaaGreatDoorX04
set_option linter.all false
namespace Go.Av
theorem Sg {α : Type} (l : List α) : (cr l = .nil → l = []) ∧ ((cr l).strip = .nil → l = []) ∧ (cr l).strip = cr l := by
 cases l <;> simp [cr, Rt.strip]
structure Zu (st : RS) (n : Node) (st' : RS) : Prop where
 ok : n.ok
 len : st'.s.length ≤ st.s.length
 bad : st.bad = true → st'.bad = true
 lo : -1 ≤ st'.left
 hi : st'.left ≤ st.left
 nb : st'.bad = false → 0 ≤ st'.left
theorem RS.items_ok {rd : RS → Node × RS} (hrd : ∀ st : RS, st.s.length ≤ 1048568 → 0 ≤ st.left → Zu st (rd st).1 (rd st).2) : ∀ (c : Nat) (st : RS), st.s.length ≤ 1048568 → 0 ≤ st.left →
  (RS.items rd c st).1.length + (RS.items rd c st).2.2.s.length ≤ st.s.length + 1 ∧ (RS.items rd c st).2.1.length = (RS.items rd c st).1.length ∧ (∀ s ∈ (RS.items rd c st).1, s.length ≤ 1048576) ∧ (∀ n ∈ (RS.items rd c st).2.1, n.ok) ∧ (RS.items rd c st).2.2.s.length ≤ st.s.length ∧
   (st.bad = true → RS.items rd c st = ([], [], st)) ∧ -1 ≤ (RS.items rd c st).2.2.left ∧ (RS.items rd c st).2.2.left ≤ st.left ∧ ((RS.items rd c st).2.2.bad = false → 0 ≤ (RS.items rd c st).2.2.left)
 | 0, st, h, hl => by simp [RS.items]; omega
 | c + 1, st, h, hl => by
  rw [RS.items]
  by_cases hb : st.bad = true
  ·rw [if_pos hb]; simp; omega
  ·rw [if_neg hb]
   simp only
   generalize hA : st.text 1 = A
   have ht := RS.text_lt (k := 1) (st := st)
   rw [hA] at ht
   obtain ⟨t1, t2, t3, t4⟩ := ht
   generalize hB : rd A.2 = B
   have hr := hrd A.2 (by omega) (by omega)
   rw [hB] at hr
   obtain ⟨r1, r2, r3, r4, r5, r6⟩ := hr
   by_cases hb2 : B.2.bad = true
   ·have e : RS.items rd c B.2 = ([], [], B.2) := by cases c <;> rw [RS.items]; rw [if_pos hb2]
    rw [e]
    refine ⟨by (try simp); omega, rfl, by (try simp); omega, by simpa using r1, by (try simp); omega, fun e => absurd e hb, r4, by (try simp); omega, by simp [hb2]⟩
   ·have hbA : A.2.bad = false := by
     cases hh : A.2.bad with
     | false => rfl
     | true => exact absurd (r3 hh) hb2
    have hbB : B.2.bad = false := by simpa using hb2
    obtain ⟨h1, h2, h3, h4, h5, h6, h7, h8, h9⟩ := RS.items_ok hrd c B.2 (by omega) (r6 hbB)
    have t2 := t2 hbA (by omega)
    refine ⟨by (try simp); omega, by simp [h2], ?_, ?_, by (try simp); omega, fun e => absurd e hb, h7, by (try simp); omega, h9⟩
    ·intro x hx
     rcases List.mem_cons.1 hx with rfl | hx
     ·omega
     ·exact h3 x hx
    ·intro x hx
     rcases List.mem_cons.1 hx with rfl | hx
     ·exact r1
     ·exact h4 x hx
theorem Ms {k : Int} {o : Bool} {ns : List Str} {its : List Node} {sz : Int} {es : List Ext} {t : Str} (h1 : I64 k) (h2 : ns.length ≤ 1048576 ∧ ∀ s ∈ ns, s.length ≤ 1048576) (h3 : its.length ≤ 1048576 ∧ ∀ n ∈ its, n.ok) (h4 : I64 sz) (h5 : es.length ≤ 1048576 ∧ ∀ e ∈ es, e.ok) (h6 : t.length ≤ 1048576) :
  (Node.mk k o ⟨ns, cr ns⟩ its (cr its) sz es (cr es) t).ok := by
 rw [Node.ok_iff]
 exact ⟨h1, ⟨(Sg ns).1, h2⟩, ⟨(Sg its).2.1, h3.1⟩, h3.2, h4, ⟨(Sg es).2.1, h5⟩, h6⟩
theorem RS.node_ok : ∀ (f : Nat) (st : RS), st.s.length ≤ 1048568 → 0 ≤ st.left → Zu st (RS.node f st).1 (RS.node f st).2
 | 0, st, h, hl => by
  rw [RS.node]
  exact ⟨Node.none_ok, Nat.le_refl _, fun _ => rfl, by (try simp); omega, by (try simp); omega, by simp⟩
 | f + 1, st, h, hl => by
  rw [RS.node]
  by_cases hb : st.bad = true ∨ st.left - 1 < 0
  ·rw [if_pos hb]
   exact ⟨Node.none_ok, Nat.le_refl _, fun _ => rfl, by (try simp); omega, by (try simp); omega, by simp⟩
  ·rw [if_neg hb]
   have hb0 : ¬ st.bad = true := fun e => hb (.inl e)
   have hl1 : 0 ≤ st.left - 1 := by omega
   simp only
   have hn := RS.num_lt (k := 1) (st := { st with left := st.left - 1 })
   generalize RS.num 1 { st with left := st.left - 1 } = A at hn ⊢
   obtain ⟨n1, n2, n3, n4⟩ := hn
   simp only at n2 n3
   rw [p1] at n1
   by_cases c1 : A.1 = 1
   ·rw [if_pos c1]
    have hB := RS.num_lt (k := 4) (st := A.2)
    generalize RS.num 4 A.2 = B at hB ⊢
    obtain ⟨b1, b2, b3, b4⟩ := hB
    have hC := RS.num_lt (k := 4) (st := B.2)
    generalize RS.num 4 B.2 = D at hC ⊢
    obtain ⟨d1, d2, d3, d4⟩ := hC
    have hE := RS.exts_lt D.1 D.2
    generalize RS.exts D.1 D.2 = E at hE ⊢
    obtain ⟨e1, e2, e3, e4, e5⟩ := hE
    rw [p4] at b1
    refine ⟨Ms (ns := []) (its := []) (by unfold I64; omega) (by simp) (by simp) (by unfold I64; omega) ⟨by omega, fun x hx => ?_⟩ (by simp), by (try simp); omega, fun e => absurd e hb0, by (try simp); omega, by (try simp); omega, fun _ => by (try simp); omega⟩
    have := e2 x hx
    unfold Ext.ok
    omega
   rw [if_neg c1]
   by_cases c2 : A.1 = 2
   ·rw [if_pos c2]
    have hB := RS.num_lt (k := 1) (st := A.2)
    generalize RS.num 1 A.2 = B at hB ⊢
    obtain ⟨b1, b2, b3, b4⟩ := hB
    have hC := RS.num_lt (k := 2) (st := { B.2 with bad := B.2.bad || decide (1 < B.1) })
    simp only at hC ⊢
    generalize RS.num 2 { B.2 with bad := B.2.bad || decide (1 < B.1) } = D at hC ⊢
    obtain ⟨d1, d2, d3, d4⟩ := hC
    obtain ⟨h1, h2, h3, h4, h5, h6, h7, h8, h9⟩ := RS.items_ok (RS.node_ok f) D.1 D.2 (by omega) (by omega)
    generalize RS.items (RS.node f) D.1 D.2 = E at h1 h2 h3 h4 h5 h6 h7 h8 h9 ⊢
    refine ⟨Ms (es := []) (by unfold I64; omega) ⟨by omega, h3⟩ ⟨by omega, h4⟩ (by unfold I64; omega) (by simp) (by simp), by (try simp); omega, fun e => absurd e hb0, h7, by (try simp); omega, h9⟩
   rw [if_neg c2]
   by_cases c3 : A.1 = 3
   ·rw [if_pos c3]
    have hB := RS.text_lt (k := 2) (st := A.2)
    generalize RS.text 2 A.2 = B at hB ⊢
    obtain ⟨b1, b2, b3, b4⟩ := hB
    refine ⟨Ms (ns := []) (its := []) (es := []) (by unfold I64; omega) (by simp) (by simp) (by unfold I64; omega) (by simp) (by omega), by (try simp); omega, fun e => absurd e hb0, by (try simp); omega, by (try simp); omega, fun _ => by (try simp); omega⟩
   ·rw [if_neg c3]
    refine ⟨Ms (ns := []) (its := []) (es := []) (by unfold I64; omega) (by simp) (by simp) (by unfold I64; omega) (by simp) (by simp), by (try simp); omega, fun e => absurd e hb0, by (try simp); omega, by (try simp); omega, fun _ => by (try simp); omega⟩
def Cw (s : Str) : Option Node :=
 if s.length < 7 ∨ 4194304 < s.length ∨ s.take 7 ≠ [115, 111, 99, 97, 103, 101, 49] then none else
  let r := RS.node 16 ⟨s.drop 7, false, 4096⟩
  if r.2.bad = false ∧ r.2.s = [] ∧ BT r.1 = true then some r.1 else none
def IN (s : Str) : Option Node :=
 if s.length < 7 ∨ 4194304 < s.length ∨ s.take 7 ≠ [115, 111, 99, 97, 103, 101, 49] then none else
  match D9 16 (s.drop 7) with
  | some (n, r) => if r = [] ∧ BT n = true then some n else none
  | none => none
open Go.Proofs
def rdC (s : Str) : Obj := .cells [.str s] Bz
theorem YD {n : Nat} (hn : n < 16777216) : AI .shl (.int .i64 (n : Int)) (.int .u64 8) = some (.int .i64 ((n * 256 : Nat) : Int)) := by
 simp only [AI]
 rw [if_neg (by omega)]
 simp only [IntKind.bits]
 have : (n : Int) * 2 ^ (min (Int.toNat 8) 64) = ((n * 256 : Nat) : Int) := by
  rw [show (min (Int.toNat 8) 64) = 8 from rfl]; omega
 rw [this, wrap64 (by omega) (by omega)]
theorem Yx {n b : Nat} (hn : n < 16777216) (hb : b < 256) : AI .or (.int .i64 ((n * 256 : Nat) : Int)) (.int .i64 (b : Int)) = some (.int .i64 ((n * 256 + b : Nat) : Int)) := by
 simp only [AI, if_true, Dq]
 have h1 : (BitVec.ofInt 64 ((n * 256 : Nat) : Int) ||| BitVec.ofInt 64 (b : Int)).toNat = n * 256 + b := by
  rw [BitVec.toNat_or, BitVec.ofInt_natCast, BitVec.ofInt_natCast, BitVec.toNat_ofNat, BitVec.toNat_ofNat, Nat.mod_eq_of_lt (by omega), Nat.mod_eq_of_lt (by omega)]
  have := Nat.shiftLeft_add_eq_or_of_lt (i := 8) (b := b) (by omega) n
  rw [Nat.shiftLeft_eq] at this
  exact this.symm
 show some (AV.int .i64 (IntKind.i64.wrap (((BitVec.ofInt 64 ((n * 256 : Nat) : Int) ||| BitVec.ofInt 64 (b : Int)).toNat : Nat) : Int))) = _
 rw [h1, wrap64 (by omega) (by omega)]
theorem T7 {s : Str} {i : Nat} {x : UInt8} (h : s[i]? = some x) : val (s.take (i + 1)) = val (s.take i) * 256 + x.toNat := by
 have hi := (List.getElem?_eq_some_iff.1 h).1
 rw [List.take_succ, h]
 generalize s.take i = l
 clear h hi
 simp only [Option.toList]
 induction l with
 | nil => simp [val]
 | cons y l ih =>
  rw [List.cons_append, val, val, ih, List.length_append, List.length_singleton, Nat.pow_succ]
  rw [Nat.add_mul]
  rw [Nat.mul_assoc]
  omega
theorem Mm {w0 : World} {S : St} {id k : Nat} {s : Str} (hS : S[id]? = some (rdC s)) (hk : 1 ≤ k ∧ k ≤ 4) (hl : s.length ≤ 1000000000) {Q : AV → St → Prop}
  (hq : match takeN k s with | some (n, r) => Q (.tup [.int .i64 n, .bool true]) (S.set id (rdC r)) | none => Q (.tup [.int .i64 0, .bool false]) S) : AC w0 DS [.ptr id 0, .int .i64 k] S Q := by
 apply KF
 unfold EZ
 have hS' : S[id]? = some (.cells [.str s] Bz) := hS
 unfold takeN at hq
 by_cases c : s.length < k
 ·rw [if_pos c] at hq
  simp [show ¬ ((k : Int) < 1) by omega, show ¬ (4 < (k : Int)) by omega, AQ hS', AD, show ((s.length : Int) < (k : Int)) by omega]
  exact hq
 ·rw [if_neg c] at hq
  simp [show ¬ ((k : Int) < 1) by omega, show ¬ (4 < (k : Int)) by omega, AQ hS', AD, show ¬ ((s.length : Int) < (k : Int)) by omega]
  refine EH (fun p : Nat × Nat => ([.int .i64 (p.1 : Nat), .int .i64 (p.2 : Nat)], [])) (fun m p S' => S' = S ∧ m = k - p.2 ∧ p.2 ≤ k ∧ p.1 = val (s.take p.2)) k (0, 0) rfl ⟨rfl, rfl, by simp, by simp [val]⟩ ?_
  rintro m ⟨n, i⟩ S' v b ⟨rfl, rfl, h1, h2⟩ hv
  simp at hv h1 h2
  obtain ⟨hv1, hv2⟩ := hv
  simp [hv1, hv2]
  by_cases c2 : i = k
  ·subst c2
   simp
   simp only [Ct hS', AQ hS']
   have e1 : S'.set id (.cells [.str s] Bz) = S' := by
    obtain ⟨hlt, he⟩ := List.getElem?_eq_some_iff.1 hS'
    rw [← he, List.set_getElem_self]
   simp [e1, show i ≤ s.length by omega, Ae hS']
   rw [← h2] at hq
   exact hq
  ·have c3 : i < k := by omega
   have hi : i < s.length := by omega
   obtain ⟨x, hx⟩ : ∃ x, s[i]? = some x := ⟨s[i], by simp [hi]⟩
   have gx : s[i] = x := (List.getElem?_eq_some_iff.1 hx).2
   have hnl : n < 16777216 := by
    have := JD (s.take i)
    rw [List.length_take, Nat.min_eq_left (by omega), ← h2] at this
    have h3 : 256 ^ i ≤ 256 ^ 3 := Nat.pow_le_pow_right (by omega) (by omega)
    have h4 : (256 : Nat) ^ 3 = 16777216 := rfl
    omega
   have hx256 : x.toNat < 256 := x.toNat_lt
   have e1 : IntKind.i64.wrap ((x.toNat : Nat) : Int) = ((x.toNat : Nat) : Int) := wrap64 (by omega) (by omega)
   simp only [YD hnl]
   simp [c3, AQ hS', hx, gx, hi, e1]
   have := Yx hnl hx256
   have this' : AI .or (.int .i64 ((n : Int) * 256)) (.int .i64 (x.toNat : Int)) = some (.int .i64 ((n * 256 + x.toNat : Nat) : Int)) := by rw [show (n : Int) * 256 = ((n * 256 : Nat) : Int) by omega]; exact this
   simp only [this', C2]
   try simp (disch := omega) only [wrap64]
   refine ⟨_, (n * 256 + x.toNat, i + 1), by show k - (i + 1) < k - i; omega, rfl, rfl, rfl, by show i + 1 ≤ k; omega, ?_⟩
   show n * 256 + x.toNat = val (s.take (i + 1))
   rw [T7 hx, h2]
theorem R2 {w0 : World} {S : St} {id k : Nat} {s : Str} (hS : S[id]? = some (rdC s)) (hk : 1 ≤ k ∧ k ≤ 4) (hl : s.length ≤ 1000000000) {Q : AV → St → Prop}
  (hq : match Gy k s with | some (t, r) => Q (.tup [.str t, .bool true]) (S.set id (rdC r)) | none => Q (.tup [.str [], .bool false]) S) : AC w0 Eb [.ptr id 0, .int .i64 k] S Q := by
 apply KI
 unfold EU
 have hS' : S[id]? = some (.cells [.str s] Bz) := hS
 have e1 : S.set id (.cells [.str s] Bz) = S := by
  obtain ⟨hlt, he⟩ := List.getElem?_eq_some_iff.1 hS'
  rw [← he, List.set_getElem_self]
 simp [AQ hS']
 refine Mm hS hk hl ?_
 unfold Gy at hq
 cases hT : takeN k s with
 | none =>
  rw [hT] at hq
  simp at hq
  simp [AD, Ae hS', e1]
  exact hq
 | some p =>
  obtain ⟨n, r⟩ := p
  rw [hT] at hq
  simp only [Option.bind_some] at hq
  have hS2 : (S.set id (rdC r))[id]? = some (.cells [.str r] Bz) := Ar hS
  by_cases c : r.length < n
  ·rw [if_pos c] at hq
   have c' : ((r.length : Int) < (n : Int)) := by omega
   simp [AD, AQ hS2, c, c', Ae hS2, e1]
   exact hq
  ·rw [if_neg c] at hq
   have c' : ¬ ((r.length : Int) < (n : Int)) := by omega
   have c2 : n ≤ r.length := by omega
   have e2 : (S.set id (rdC r)).set id (.cells [.str r] Bz) = S.set id (rdC r) := by rw [List.set_set]; rfl
   simp [AD, AQ hS2, c, c', c2]
   simp only [Ct hS2]
   rw [show List.modify [AV.str r] 0 AV.strip1 = [AV.str r] from rfl]
   simp [e2, AQ hS2, c2, Ae hS2]
   simp only [Ct hS2]
   rw [show List.modify [AV.str r] 0 AV.strip1 = [AV.str r] from rfl]
   simp [e2, Ae hS2]
   exact hq
def RdO (S : St) (rid wid : Nat) (st : RS) : Prop := S[rid]? = some (.cells [.ptr wid 0, .bool st.bad, .int .i64 st.left] A3) ∧ S[wid]? = some (rdC st.s)
theorem RdO.put {S : St} {rid wid : Nat} {st : RS} (h : RdO S rid wid st) (hne : rid ≠ wid) {s : Str} : RdO (S.set wid (rdC s)) rid wid { st with s := s } :=
 ⟨by rw [Bh (Ne.symm hne)]; exact h.1, Ar h.2⟩
theorem RdO.flag {S : St} {rid wid : Nat} {st : RS} (h : RdO S rid wid st) (hne : rid ≠ wid) (b : Bool) : RdO (S.set rid (.cells [.ptr wid 0, .bool b, .int .i64 st.left] A3)) rid wid { st with bad := b } :=
 ⟨Ar h.1, by rw [Bh hne]; exact h.2⟩
theorem Hu {w0 : World} {S : St} {rid wid b k : Nat} {st : RS} (h : RdO S rid wid st) (hne : rid ≠ wid) (hb : b ≤ rid ∧ b ≤ wid) (hk : 1 ≤ k ∧ k ≤ 4) (hl : st.s.length ≤ 1000000000) {Q : AV → St → Prop}
  (hq : ∀ S', RdO S' rid wid (st.num k).2 → Kp b S S' → Q (.int .i64 (st.num k).1) S') : AC w0 BP [.ptr rid 0, .int .i64 k] S Q := by
 apply It
 unfold Db
 simp [AQ h.1]
 refine Mm h.2 hk hl ?_
 unfold RS.num at hq
 cases hT : takeN k st.s with
 | none =>
  rw [hT] at hq
  cases hbad : st.bad with
  | true =>
   have hS1 := h.1
   rw [hbad] at hS1
   simp [AQ hS1, Ae hS1]
   have := h.flag hne true
   exact hq _ this (Kp.set hb.1)
  | false =>
   have hS1 := h.1
   rw [hbad] at hS1
   simp [AQ hS1, Ae hS1]
   have := h.flag hne true
   exact hq _ this (Kp.set hb.1)
 | some p =>
  obtain ⟨n, r⟩ := p
  rw [hT] at hq
  have h2 := h.put hne (s := r)
  have h3 := h2.flag hne st.bad
  have hS1 := h2.1
  cases hbad : st.bad with
  | true =>
   simp only [hbad] at hS1 h3
   simp [AQ hS1, Ae hS1]
   refine hq _ ?_ ((Kp.set hb.2).trans (Kp.set hb.1))
   have e : ({ s := r, bad := st.bad, left := st.left } : RS) = { s := r, bad := true, left := st.left } := by rw [hbad]
   show RdO _ _ _ { s := r, bad := st.bad, left := st.left }
   rw [e]
   exact h3
  | false =>
   simp only [hbad] at hS1 h3
   simp [AQ hS1, Ae hS1]
   refine hq _ ?_ ((Kp.set hb.2).trans (Kp.set hb.1))
   have e : ({ s := r, bad := st.bad, left := st.left } : RS) = { s := r, bad := false, left := st.left } := by rw [hbad]
   show RdO _ _ _ { s := r, bad := st.bad, left := st.left }
   rw [e]
   exact h3
theorem RR {w0 : World} {S : St} {rid wid b k : Nat} {st : RS} (h : RdO S rid wid st) (hne : rid ≠ wid) (hb : b ≤ rid ∧ b ≤ wid) (hk : 1 ≤ k ∧ k ≤ 4) (hl : st.s.length ≤ 1000000000) {Q : AV → St → Prop}
  (hq : ∀ S', RdO S' rid wid (st.text k).2 → Kp b S S' → Q (.str (st.text k).1) S') : AC w0 CZ [.ptr rid 0, .int .i64 k] S Q := by
 apply Jo
 unfold D3
 simp [AQ h.1]
 refine R2 h.2 hk hl ?_
 unfold RS.text at hq
 cases hT : Gy k st.s with
 | none =>
  rw [hT] at hq
  cases hbad : st.bad with
  | true =>
   have hS1 := h.1
   rw [hbad] at hS1
   simp [AQ hS1, Ae hS1]
   have := h.flag hne true
   exact hq _ this (Kp.set hb.1)
  | false =>
   have hS1 := h.1
   rw [hbad] at hS1
   simp [AQ hS1, Ae hS1]
   have := h.flag hne true
   exact hq _ this (Kp.set hb.1)
 | some p =>
  obtain ⟨n, r⟩ := p
  rw [hT] at hq
  have h2 := h.put hne (s := r)
  have h3 := h2.flag hne st.bad
  have hS1 := h2.1
  cases hbad : st.bad with
  | true =>
   simp only [hbad] at hS1 h3
   simp [AQ hS1, Ae hS1]
   refine hq _ ?_ ((Kp.set hb.2).trans (Kp.set hb.1))
   have e : ({ s := r, bad := st.bad, left := st.left } : RS) = { s := r, bad := true, left := st.left } := by rw [hbad]
   show RdO _ _ _ { s := r, bad := st.bad, left := st.left }
   rw [e]
   exact h3
  | false =>
   simp only [hbad] at hS1 h3
   simp [AQ hS1, Ae hS1]
   refine hq _ ?_ ((Kp.set hb.2).trans (Kp.set hb.1))
   have e : ({ s := r, bad := st.bad, left := st.left } : RS) = { s := r, bad := false, left := st.left } := by rw [hbad]
   show RdO _ _ _ { s := r, bad := st.bad, left := st.left }
   rw [e]
   exact h3
def okA {α : Type} (r : Rt) (l : List α) : Prop := (r = .nil ∧ l = []) ∨ ((∃ t, r = .own t) ∧ l ≠ [])
theorem okA.cr {α : Type} {r : Rt} {l : List α} (h : okA r l) : r.strip = cr l := by
 rcases h with ⟨rfl, rfl⟩ | ⟨⟨t, rfl⟩, h⟩
 ·rfl
 ·cases l
  ·exact (h rfl).elim
  ·rfl
theorem okA.ne {α : Type} {r : Rt} {l : List α} (h : okA r l) : r ≠ .none ∧ r ≠ .full := by
 rcases h with ⟨rfl, rfl⟩ | ⟨⟨t, rfl⟩, h⟩ <;> simp
theorem okA.app {α : Type} {t : Nat} {l : List α} {x : α} : okA (.own t) (l ++ [x]) := .inr ⟨⟨t, rfl⟩, by simp⟩
def ndC (k : Int) (o : Bool) (ns : List Str) (nr : Rt) (its : List Node) (ir : Rt) (sz : Int) (es : List Ext) (er : Rt) (t : Str) : List AV := [.int .i64 k, .bool o, .vs 1 (ns.map CH) nr, .vs 7 (its.map Node.c) ir, .int .i64 sz, .vs 2 (es.map Ext.c) er, .str t]
set_option maxRecDepth 100000 in
theorem RZ {w0 : World} : ∀ (f : Nat) {S : St} {Q : AV → St → Prop} {rid wid b : Nat} {st : RS} {d : Int}, f ≤ 16 → d = 16 - (f : Int) → RdO S rid wid st → rid ≠ wid → (b ≤ rid ∧ b ≤ wid) → st.s.length ≤ 1048568 → 0 ≤ st.left → st.left ≤ 1000000 →
  (∀ S', RdO S' rid wid (RS.node f st).2 → Kp b S S' → Q (.agg (RS.node f st).1.c) S') → AC w0 C9 [.ptr rid 0, .int .i64 d] S Q := by
 intro f
 induction f with
 | zero =>
  intro S Q rid wid b st d hf hd0 h hne hb hl h0 h1 hq
  apply Fq
  unfold DA
  rw [AD]
  simp only [AQ h.1]
  simp
  simp [Ae h.1]
  try simp (disch := omega) only [wrap64]
  have hS1 := Ar (o' := .cells [.ptr wid 0, .bool st.bad, .int .i64 (st.left - 1)] A3) h.1
  have hS2 := Ar (o' := .cells [.ptr wid 0, .bool true, .int .i64 (st.left - 1)] A3) h.1
  have hfin : Q (.agg [.int .i64 0, .bool false, .vs 1 [] .nil, .vs 7 [] .nil, .int .i64 0, .vs 2 [] .nil, .str []]) (S.set rid (.cells [.ptr wid 0, .bool true, .int .i64 (st.left - 1)] A3)) := by
   have := hq (S.set rid (.cells [.ptr wid 0, .bool true, .int .i64 (st.left - 1)] A3)) ⟨hS2, by rw [Bh hne]; exact h.2⟩ (Kp.set hb.1)
   rw [RS.node] at this
   simp only [Node.none_c] at this
   exact this
  simp [AQ hS1]
  have hd : (15 : Int) < d := by omega
  by_cases c : st.left < 1
  ·simp [c, hd, show st.left - 1 < 0 by omega, Ae hS1, AQ hS2]
   exact hfin
  ·simp [c, hd, show ¬ st.left - 1 < 0 by omega, Ae hS1, AQ hS2]
   exact hfin
 | succ f ih =>
  intro S Q rid wid b st d hf hd0 h hne hb hl h0 h1 hq
  apply Fq
  unfold DA
  simp [AQ h.1, Ae h.1]
  try simp (disch := omega) only [wrap64]
  have hS1 := Ar (o' := .cells [.ptr wid 0, .bool st.bad, .int .i64 (st.left - 1)] A3) h.1
  have hS2 := Ar (o' := .cells [.ptr wid 0, .bool true, .int .i64 (st.left - 1)] A3) h.1
  have hfin : (st.bad = true ∨ st.left - 1 < 0) → Q (.agg [.int .i64 0, .bool false, .vs 1 [] .nil, .vs 7 [] .nil, .int .i64 0, .vs 2 [] .nil, .str []]) (S.set rid (.cells [.ptr wid 0, .bool true, .int .i64 (st.left - 1)] A3)) := fun hc => by
   rw [RS.node, if_pos hc] at hq
   have := hq (S.set rid (.cells [.ptr wid 0, .bool true, .int .i64 (st.left - 1)] A3)) ⟨hS2, by rw [Bh hne]; exact h.2⟩ (Kp.set hb.1)
   simp only [Node.none_c] at this
   exact this
  have hd : ¬ (15 : Int) < d := by omega
  simp [AQ hS1]
  by_cases c : st.left < 1
  ·have := hfin (.inr (by omega))
   simp [c, show st.left - 1 < 0 by omega, Ae hS1, AQ hS2, AD]
   exact this
  have c' : ¬ st.left - 1 < 0 := by omega
  cases hbad : st.bad with
  | true =>
   have := hfin (.inl hbad)
   rw [hbad] at hS1
   simp [c, c', hd, AQ hS1, AD]
   exact this
  | false =>
  rw [hbad] at hS1
  simp [c, c', hd]
  simp [AQ hS1]
  have hR1 : RdO (S.set rid (.cells [.ptr wid 0, .bool false, .int .i64 (st.left - 1)] A3)) rid wid { st with left := st.left - 1 } := ⟨by rw [← hbad] at hS1; simpa [hbad] using hS1, by rw [Bh hne]; exact h.2⟩
  have hK1 : Kp b S (S.set rid (.cells [.ptr wid 0, .bool false, .int .i64 (st.left - 1)] A3)) := Kp.set hb.1
  rw [RS.node, if_neg (by rw [hbad]; simp; omega)] at hq
  simp only at hq
  generalize S.set rid (.cells [.ptr wid 0, .bool false, .int .i64 (st.left - 1)] A3) = S1 at hR1 hK1 ⊢
  have hN := RS.num_lt (k := 1) (st := { st with left := st.left - 1 })
  refine Hu hR1 hne hb (k := 1) (by omega) (by simp; omega) (fun S2 hR2 hK2 => ?_)
  generalize RS.num 1 { st with left := st.left - 1 } = A at hq hN hR2 ⊢
  obtain ⟨a1, a2, a3, _⟩ := hN
  simp only at a2 a3
  rw [p1] at a1
  simp
  refine MG (fun j => ∀ (k : Int) (o : Bool) (ns : List Str) (nr : Rt) (its : List Node) (ir : Rt) (sz : Int) (es : List Ext) (er : Rt) (t : Str) (S' : St), okA nr ns → okA ir its → okA er es → Q (.agg (Node.mk k o ⟨ns, cr ns⟩ its (cr its) sz es (cr es) t).c) S' → j (some (ndC k o ns nr its ir sz es er t)) S') ?_ (fun j hj => ?_)
  ·intro k o ns nr its ir sz es er t S' g1 g2 g3 hQ
   rw [Node.c_eq'] at hQ
   simp at hQ
   simp [ndC]
   rw [g1.cr, g2.cr, g3.cr]
   have e1 : ∀ {α : Type} (l : List α), (cr l).strip = cr l := fun l => (Sg l).2.2
   rw [e1, e1, e1] at hQ
   exact hQ
  have e1 : ((A.1 : Int) = 1) = (A.1 = 1) := propext (by omega)
  have e2 : ((A.1 : Int) = 2) = (A.1 = 2) := propext (by omega)
  have e3 : ((A.1 : Int) = 3) = (A.1 = 3) := propext (by omega)
  by_cases c1 : A.1 = 1
  ·rw [if_pos c1] at hq
   simp only at hq
   simp [c1]
   have hB := RS.num_lt (k := 4) (st := A.2)
   refine Hu hR2 hne hb (k := 4) (by omega) (by omega) (fun S3 hR3 hK3 => ?_)
   generalize RS.num 4 A.2 = B at hB hR3 hq ⊢
   obtain ⟨b1, b2, b3, b4⟩ := hB
   simp
   have hC := RS.num_lt (k := 4) (st := B.2)
   refine Hu hR3 hne hb (k := 4) (by omega) (by omega) (fun S4 hR4 hK4 => ?_)
   generalize RS.num 4 B.2 = D at hC hR4 hq ⊢
   obtain ⟨d1, d2, d3, d4⟩ := hC
   have hK : Kp b S S4 := ((hK1.trans hK2).trans hK3).trans hK4
   rw [p4] at d1
   refine EH (fun p : Nat × List Ext × Rt => ([.int .i64 (p.1 : Nat)], [some (ndC 1 false [] .nil [] .nil B.1 p.2.1 p.2.2 [])])) (fun m p S' => m = p.1 ∧ p.1 ≤ D.1 ∧ ∃ st' : RS, RdO S' rid wid st' ∧ Kp b S S' ∧ okA p.2.2 p.2.1 ∧ st'.s.length ≤ st.s.length ∧ p.2.1.length + st'.s.length ≤ 1048577 ∧ (st'.bad = false → p.2.1.length + st'.s.length ≤ 1048576) ∧
    RS.exts D.1 D.2 = (p.2.1 ++ (RS.exts p.1 st').1, (RS.exts p.1 st').2)) D.1 (D.1, [], .nil) rfl ⟨rfl, Nat.le_refl _, D.2, hR4, hK, .inl ⟨rfl, rfl⟩, by omega, by simp; omega, fun _ => by simp; omega, by simp⟩ ?_
   rintro m ⟨c, l, r⟩ S5 v bx ⟨rfl, hc, st', hR5, hK5, hr, hl5, hl6, hl7, he⟩ hv
   simp at hv hc hr hl6 hl7 he
   obtain ⟨hv1, hv2⟩ := hv
   simp only [ndC] at hv2
   simp [hv1, hv2, AQ hR5.1, AD]
   by_cases cm : m = 0
   ·subst cm
    rw [RS.exts] at he
    simp at he
    rw [he] at hq
    have := hj 1 false [] .nil [] .nil B.1 l r [] S5 (.inl ⟨rfl, rfl⟩) (.inl ⟨rfl, rfl⟩) hr (hq S5 hR5 hK5)
    simpa [ndC] using this
   have cm' : 0 < m := by omega
   cases hbd : st'.bad with
   | true =>
    have : RS.exts m st' = ([], st') := by cases m <;> rw [RS.exts]; rw [if_pos hbd]
    rw [this] at he
    simp at he
    rw [he] at hq
    have := hj 1 false [] .nil [] .nil B.1 l r [] S5 (.inl ⟨rfl, rfl⟩) (.inl ⟨rfl, rfl⟩) hr (hq S5 hR5 hK5)
    simp [cm']
    simpa [ndC] using this
   | false =>
    obtain ⟨q, rfl⟩ : ∃ q, m = q + 1 := ⟨m - 1, by omega⟩
    simp
    rw [RS.exts, if_neg (by rw [hbd]; simp)] at he
    simp only at he
    have hF := RS.num_lt (k := 4) (st := st')
    refine Hu hR5 hne hb (k := 4) (by omega) (by omega) (fun S6 hR6 hK6 => ?_)
    generalize RS.num 4 st' = F at hF hR6 he ⊢
    obtain ⟨f1, f2, f3, f4⟩ := hF
    simp
    have hG := RS.text_lt (k := 4) (st := F.2)
    refine RR hR6 hne hb (k := 4) (by omega) (by omega) (fun S7 hR7 hK7 => ?_)
    generalize RS.text 4 F.2 = G at hG hR7 he ⊢
    obtain ⟨g1, g2, g3, g4⟩ := hG
    obtain ⟨n1, n2⟩ := hr.ne
    have hl7 := hl7 hbd
    have hlim : l.length + 1 ≤ lim := by unfold lim; omega
    simp [Ao, A6, n1, hlim]
    have hwr : IntKind.i64.wrap (q : Int) = (q : Int) := wrap64 (by omega) (by omega)
    refine ⟨_, (q, l ++ [⟨F.1, G.1⟩], .own (Cy Ah r)), Nat.lt_succ_self q, ?_, rfl, by show q ≤ D.1; omega, G.2, hR7, (hK5.trans hK6).trans hK7, .app, by omega, ?_, ?_, ?_⟩
    ·simp [ndC, hwr]
    ·simp; omega
    ·intro hg
     have := g2 hg (by omega)
     simp; omega
    ·rw [he]; simp
  rw [if_neg c1] at hq
  by_cases c2 : A.1 = 2
  ·rw [if_pos c2] at hq
   simp only at hq
   simp [c2]
   have hB := RS.num_lt (k := 1) (st := A.2)
   refine Hu hR2 hne hb (k := 1) (by omega) (by omega) (fun S3 hR3 hK3 => ?_)
   generalize RS.num 1 A.2 = B at hB hR3 hq ⊢
   obtain ⟨b1, b2, b3, b4⟩ := hB
   have eb1 : ((B.1 : Int) = 1) = (B.1 = 1) := propext (by omega)
   have eb2 : ((1 : Int) < B.1) = (1 < B.1) := propext (by omega)
   simp [AQ hR3.1]
   have hR4 := hR3.flag hne (B.2.bad || decide (1 < B.1))
   have hK4 : Kp b S3 (S3.set rid (.cells [.ptr wid 0, .bool (B.2.bad || decide (1 < B.1)), .int .i64 B.2.left] A3)) := Kp.set hb.1
   simp [Ae hR3.1, eb1, eb2]
   generalize S3.set rid (.cells [.ptr wid 0, .bool (B.2.bad || decide (1 < B.1)), .int .i64 B.2.left] A3) = S4 at hR4 hK4 ⊢
   have hC := RS.num_lt (k := 2) (st := { B.2 with bad := B.2.bad || decide (1 < B.1) })
   simp only at hC
   refine Hu hR4 hne hb (k := 2) (by omega) (by simp; omega) (fun S5 hR5 hK5 => ?_)
   generalize RS.num 2 { B.2 with bad := B.2.bad || decide (1 < B.1) } = D at hC hR5 hq ⊢
   obtain ⟨d1, d2, d3, d4⟩ := hC
   have hK : Kp b S S5 := (((hK1.trans hK2).trans hK3).trans hK4).trans hK5
   rw [p2] at d1
   refine EH (fun p : Nat × List Str × List Node × Rt × Rt => ([.int .i64 (p.1 : Nat)], [some (ndC 2 (decide (B.1 = 1)) p.2.1 p.2.2.2.1 p.2.2.1 p.2.2.2.2 0 [] .nil [])])) (fun m p S' => m = p.1 ∧ p.1 ≤ D.1 ∧ ∃ st' : RS, RdO S' rid wid st' ∧ Kp b S S' ∧ okA p.2.2.2.1 p.2.1 ∧ okA p.2.2.2.2 p.2.2.1 ∧ p.2.2.1.length = p.2.1.length ∧ st'.s.length ≤ st.s.length ∧
    (st'.bad = false → p.2.1.length + st'.s.length ≤ 1048576) ∧ (st'.bad = false → 0 ≤ st'.left) ∧ st'.left ≤ 1000000 ∧
    RS.items (RS.node f) D.1 D.2 = (p.2.1 ++ (RS.items (RS.node f) p.1 st').1, p.2.2.1 ++ (RS.items (RS.node f) p.1 st').2.1, (RS.items (RS.node f) p.1 st').2.2)) D.1 (D.1, [], [], .nil, .nil) rfl ⟨rfl, Nat.le_refl _, D.2, hR5, hK, .inl ⟨rfl, rfl⟩, .inl ⟨rfl, rfl⟩, rfl, by omega, fun _ => by simp; omega, fun _ => by omega, by omega, by simp⟩ ?_
   rintro m ⟨c, ns, its, r1, r2⟩ S6 v bx ⟨rfl, hc, st', hR6, hK6, hr1, hr2, hlen, hl5, hl7, hl8, hl9, he⟩ hv
   simp at hv hc hr1 hr2 hl7 hlen he
   obtain ⟨hv1, hv2⟩ := hv
   simp only [ndC] at hv2
   simp [hv1, hv2, AQ hR6.1, AD]
   have hend : RS.items (RS.node f) D.1 D.2 = (ns, its, st') → j (some (ndC 2 (decide (B.1 = 1)) ns r1 its r2 0 [] .nil [])) S6 := fun he => by
    rw [he] at hq
    exact hj 2 (decide (B.1 = 1)) ns r1 its r2 0 [] .nil [] S6 hr1 hr2 (.inl ⟨rfl, rfl⟩) (hq S6 hR6 hK6)
   by_cases cm : m = 0
   ·subst cm
    rw [RS.items] at he
    have := hend (by simpa using he)
    simpa [ndC] using this
   have cm' : 0 < m := by omega
   cases hbd : st'.bad with
   | true =>
    have e : RS.items (RS.node f) m st' = ([], [], st') := by cases m <;> rw [RS.items]; rw [if_pos hbd]
    rw [e] at he
    have := hend (by simpa using he)
    simp [cm']
    simpa [ndC] using this
   | false =>
    obtain ⟨q, rfl⟩ : ∃ q, m = q + 1 := ⟨m - 1, by omega⟩
    have hl8 := hl8 hbd
    have hl7 := hl7 hbd
    simp
    rw [RS.items, if_neg (by rw [hbd]; simp)] at he
    simp only at he
    have hF := RS.text_lt (k := 1) (st := st')
    refine RR hR6 hne hb (k := 1) (by omega) (by omega) (fun S7 hR7 hK7 => ?_)
    generalize RS.text 1 st' = F at hF hR7 he ⊢
    obtain ⟨f1, f2, f3, f4⟩ := hF
    obtain ⟨n1, n2⟩ := hr1.ne
    obtain ⟨n3, n4⟩ := hr2.ne
    have hlim : ns.length + 1 ≤ lim := by unfold lim; omega
    have hlim2 : its.length + 1 ≤ lim := by rw [hlen]; exact hlim
    simp [Ao, A6, n1, hlim]
    have hG := RS.node_ok f F.2 (by omega) (by omega)
    refine ih (by omega) (by omega) hR7 hne hb (by omega) (by omega) (by omega) (fun S8 hR8 hK8 => ?_)
    generalize RS.node f F.2 = G at hG hR8 he ⊢
    obtain ⟨g1, g2, g3, g4, g5, g6⟩ := hG
    simp [n3, hlim2]
    have hwr : IntKind.i64.wrap (q : Int) = (q : Int) := wrap64 (by omega) (by omega)
    refine ⟨_, (q, ns ++ [F.1], its ++ [G.1], .own (Cy AF r1), .own (Cy AB r2)), Nat.lt_succ_self q, ?_, rfl, by show q ≤ D.1; omega, G.2, hR8, (hK6.trans hK7).trans hK8, .app, .app, by simp [hlen], by omega, ?_, g6, by omega, ?_⟩
    ·simp [ndC, hwr]
    ·intro hg
     have hF2 : F.2.bad = false := by
      cases hh : F.2.bad with
      | false => rfl
      | true => rw [g3 hh] at hg; cases hg
     have := f2 hF2 (by omega)
     simp; omega
    ·rw [he]; simp
  rw [if_neg c2] at hq
  by_cases c3 : A.1 = 3
  ·rw [if_pos c3] at hq
   simp only at hq
   simp [c3]
   refine RR hR2 hne hb (k := 2) (by omega) (by omega) (fun S3 hR3 hK3 => ?_)
   simp
   have := hj 3 false [] .nil [] .nil 0 [] .nil (RS.text 2 A.2).1 S3 (.inl ⟨rfl, rfl⟩) (.inl ⟨rfl, rfl⟩) (.inl ⟨rfl, rfl⟩) (hq S3 hR3 ((hK1.trans hK2).trans hK3))
   simpa [ndC] using this
  ·rw [if_neg c3] at hq
   simp only at hq
   simp [e1, e2, e3, c1, c2, c3]
   have := hj A.1 false [] .nil [] .nil 0 [] .nil [] S2 (.inl ⟨rfl, rfl⟩) (.inl ⟨rfl, rfl⟩) (.inl ⟨rfl, rfl⟩) (hq S2 hR2 (hK1.trans hK2))
   simpa [ndC] using this
open Go.Proofs
set_option maxRecDepth 100000 in
theorem Rn {w0 : World} (n : Node) : ∀ {S : St} {Q : AV → St → Prop} {id : Nat} {T : List Ino}, n.ok → ZD S id T → T.length + n.count ≤ 1000000 →
  (∀ S' T', ZD S' id (T ++ T') → T'.map Ino.p = n.tab T.length → Kp id S S' → Q (.int .i64 T.length) S') → AC w0 C7 [.ptr id 0, .agg n.c] S Q := by
 induction n using Node.ind with
 | h n ih =>
  intro S Q id T hok hT hcnt hq
  have hcc := n.c_eq'
  rw [hcc]
  apply JW
  unfold D4
  rw [Node.ok_iff] at hok
  obtain ⟨h1, h2, h3, h4, h5, h6, h7⟩ := hok
  rw [Node.count_eq] at hcnt
  simp
  have key : ∀ K : AV → St → Prop, (∀ S1 t, id < t → S1[id]? = some (.cells [.rs 8 t 0 (T.length + 1)] B9) → S1[t]? = some (.cells (Aw Ino.c (T ++ [Pv])) 0) → Kp id S S1 → K (.int .i64 T.length) S1) →
    AA (Ad BG S (.ptr id 0)) fun t12 => AA (A7 (AV.strip t12)) fun t13 => AA (Ad BG S (.ptr id 0)) fun t18 =>
     AA (appendR BU (stripMem S (.ptr id 0)) (AV.strip0 t18) (.vs 8 [[.int .i64 0, .bool false, .vs 1 [] .nil, .vs 7 [] .nil, .int .i64 0, .vs 2 [] .nil, .str [], .vs 1 [] .nil]] .full)) fun p21 =>
     AA (Bk BG p21.2 (.ptr id 0) p21.1) fun S1 => K t13 S1 := by
   intro K hK
   rcases hT with ⟨rfl, hS⟩ | ⟨t, ht, hS, hS2⟩
   ·have e1 : stripMem S (.ptr id 0) = S := by
     rw [Ct hS]
     obtain ⟨hlt, he⟩ := List.getElem?_eq_some_iff.1 hS
     rw [show List.modify [AV.vs 8 [] .nil] 0 AV.strip1 = [AV.vs 8 [] .nil] from rfl, ← he, List.set_getElem_self]
    have hlt := (List.getElem?_eq_some_iff.1 hS).1
    have hS3 : (S ++ [Obj.cells [.int .i64 0, .bool false, .vs 1 [] .nil, .vs 7 [] .nil, .int .i64 0, .vs 2 [] .nil, .str [], .vs 1 [] .nil] 0])[id]? = some (.cells [.vs 8 [] .nil] B9) := by
     rw [List.getElem?_append_left hlt]; exact hS
    simp [AQ hS, e1, appendR, A6, lim, Ae hS3]
    refine hK _ S.length hlt ?_ ?_ ?_
    ·exact Ar hS3
    ·rw [Bh (by omega)]; simp [Aw, Ino.c, Pv]
    ·intro j hj
     rw [Bh (by omega), List.getElem?_append_left (by omega)]
   ·have e1 : stripMem S (.ptr id 0) = S := by
     rw [Ct hS]
     obtain ⟨hlt, he⟩ := List.getElem?_eq_some_iff.1 hS
     rw [show List.modify [AV.rs 8 t 0 T.length] 0 AV.strip1 = [AV.rs 8 t 0 T.length] from rfl, ← he, List.set_getElem_self]
    have hlt := (List.getElem?_eq_some_iff.1 hS).1
    have hl : (Aw Ino.c T).length = T.length * 8 := D0 (fun x => x.c_len) T
    have hS3 : (S.set t .dead ++ [Obj.cells (Aw Ino.c T ++ [.int .i64 0, .bool false, .vs 1 [] .nil, .vs 7 [] .nil, .int .i64 0, .vs 2 [] .nil, .str [], .vs 1 [] .nil]) 0])[id]? = some (.cells [.rs 8 t 0 T.length] B9) := by
     rw [List.getElem?_append_left (by simpa using hlt), Bh (by omega)]; exact hS
    have hlim : T.length + 1 ≤ lim := by unfold lim; omega
    have htk : (Aw Ino.c T).take (T.length * 8) = Aw Ino.c T := by rw [← hl, List.take_length]
    simp [AQ hS, e1, appendR, A6, Bx, hS2, hl, hlim, htk, Ae hS3]
    refine hK _ S.length hlt ?_ ?_ ?_
    ·exact Ar hS3
    ·rw [Bh (by omega)]
     rw [List.getElem?_append_right (by simp)]
     simp [Aw, Ino.c, Pv]
    ·intro j hj
     rw [Bh (by omega), List.getElem?_append_left (by simp; omega), Bh (by omega)]
  refine key _ (fun S1 t ht hS1 hS1t hK1 => ?_)
  simp
  have hnames : okR n.names.r.strip n.names.l := fun e => h2.1 (by cases h : n.names.r <;> simp_all [Rt.strip])
  refine MG (fun j => ∀ (S2 : St) (T2 : List Ino) (r : Rt), ZD S2 id (T ++ Pv :: T2) → T2.map Ino.p = Node.tabs n.items (T.length + 1) → Kp id S S2 → okA r (Node.idsOf n.items (T.length + 1)) →
   j (some [.int .i64 n.kind, .bool n.opq, .vs 1 (n.names.l.map CH) n.names.r.strip, .vs 7 (n.items.map Node.c) n.ir.strip, .int .i64 n.size, .vs 2 (n.exts.map Ext.c) n.er.strip, .str n.target, .vs 1 ((Node.idsOf n.items (T.length + 1)).map Y4) r]) S2) ?_ (fun j hj => ?_)
  ·intro S2 T2 r hT2 hm hK2 hr
   have hl1 := h2.2.1
   have hl2 := h6.2.1
   simp
   refine T4 (l := n.names.l) (by simpa [okR] using hnames) (by omega) (fun q1 k1 => ?_)
   refine ST (l := n.exts) (by simpa [okR] using h6.1) (by omega) (fun q2 k2 => ?_)
   simp
   rcases hT2 with ⟨e, _⟩ | ⟨t2, ht2, hS2, hS2t⟩
   ·simp at e
   simp [AQ hS2]
   have hget : (T ++ Pv :: T2)[T.length]? = some Pv := by simp
   have hS2t' : S2[t2]? = some (.cells (Aw Ino.c (T ++ Pv :: T2) ++ []) 0) := by rw [List.append_nil]; exact hS2t
   have hst := V6 (T := BU) (enc := Ino.c) (n := 8) (v := .agg (Ino.c ⟨n.hd T.length, q1, q2, r⟩)) ⟨n.hd T.length, q1, q2, r⟩ hS2t' rfl (fun x => x.c_len) hget rfl (by simp [Ino.c])
   have hc8 : Ino.c ⟨n.hd T.length, q1, q2, r⟩ = [.int .i64 n.kind, .bool n.opq, .vs 1 (n.names.l.map CH) q1.strip, .vs 7 [] .nil, .int .i64 n.size, .vs 2 (n.exts.map Ext.c) q2.strip, .str n.target, .vs 1 ((Node.idsOf n.items (T.length + 1)).map Y4) r.strip] := rfl
   rw [hc8] at hst
   rw [hst]
   have hset : (T ++ Pv :: T2).set T.length ⟨n.hd T.length, q1, q2, r⟩ = T ++ (⟨n.hd T.length, q1, q2, r⟩ : Ino) :: T2 := by simp
   rw [hset, List.append_nil]
   refine hq _ (⟨n.hd T.length, q1, q2, r⟩ :: T2) (.inr ⟨t2, ht2, ?_, ?_⟩) ?_ ?_
   ·rw [Bh (by omega), hS2]
    simp
   ·exact Ar hS2t
   ·rw [List.map_cons, hm, Node.tab_eq]
   ·exact hK2.trans (Kp.set (by omega))
  ·refine BI n.items (fun i (r : Rt) => ([.int .i64 i], [some [.int .i64 n.kind, .bool n.opq, .vs 1 (n.names.l.map CH) n.names.r.strip, .vs 7 (n.items.map Node.c) n.ir.strip, .int .i64 n.size, .vs 2 (n.exts.map Ext.c) n.er.strip, .str n.target, .vs 1 ((Node.idsOf (n.items.take i) (T.length + 1)).map Y4) r]]))
    (fun i r S' => ∃ T2 : List Ino, ZD S' id (T ++ Pv :: T2) ∧ T2.map Ino.p = Node.tabs (n.items.take i) (T.length + 1) ∧ Kp id S S' ∧ okA r (Node.idsOf (n.items.take i) (T.length + 1))) .nil (by simp [Node.idsOf]) ⟨[], .inr ⟨t, ht, by simpa using hS1, hS1t⟩, by simp [Node.tabs_nil], hK1, .inl ⟨rfl, by simp [Node.idsOf]⟩⟩ ?_ ?_
   ·rintro i r S2 v bx x c hxi hd hc hm ⟨T2, hT2, hTm, hK2, hr⟩ hv
    simp at hv
    obtain ⟨hv1, hv2⟩ := hv
    simp [hv1, hv2, hc, hxi]
    have hlen : (T ++ Pv :: T2).length = T.length + 1 + Node.counts (n.items.take i) := by
     have := congrArg List.length hTm
     rw [List.length_map, Node.tabs_len] at this
     simp; omega
    have hct := Node.counts_take hxi
    have hcl := Node.counts_take_le n.items (i + 1)
    refine ih x hm (h4 x hm) hT2 (by rw [hlen]; omega) (fun S3 T3 hT3 hTm3 hK3 => ?_)
    rw [hlen] at hTm3 ⊢
    obtain ⟨n1, n2⟩ := hr.ne
    have hlim : (Node.idsOf (n.items.take i) (T.length + 1)).length + 1 ≤ lim := by rw [Node.idsOf_len, List.length_take]; unfold lim; omega
    simp [Ao, A6, n1, hlim]
    try simp (disch := omega) only [wrap64]
    refine .next c (.own (Cy Aj r)) ?_ ⟨T2 ++ T3, by simpa using hT3, ?_, hK2.trans hK3, ?_⟩
    ·rw [Node.idsOf_take hxi]
     simp
    ·rw [List.map_append, hTm, hTm3, Node.tabs_take hxi]
    ·rw [Node.idsOf_take hxi]
     exact .app
   ·rintro r S2 v bx ⟨T2, hT2, hTm, hK2, hr⟩ hv N
    simp at hv
    obtain ⟨hv1, hv2⟩ := hv
    rw [List.take_length] at hTm hr
    have := hj S2 T2 r hT2 hTm hK2 hr
    simp [hv1, hv2]
    simpa using this
open Go.Proofs
theorem RN {w0 : World} (hm : If w0) {n : Node} {S : St} (hok : n.ok) {Q : AV → St → Prop}
  (h1 : BT n = true → ∀ S' id, Sx S S' → S.length ≤ id → Br S' id (n.tab 0) → Q (.tup [.ptr id 0, .int .i64 0]) S') (h2 : BT n = false → ∀ S', Sx S S' → Q (.tup [.nil, .int .i64 1]) S') : AC w0 Ii [.agg n.c] S Q := by
 have hcc := n.c_eq'
 rw [hcc]
 apply QM
 unfold IE
 simp [← hcc]
 refine L2 hm hok (fun S1 hS1 => ?_)
 cases hr : BT n with
 | false =>
  simp
  exact h2 hr _ hS1
 | true =>
  obtain ⟨r1, r2, r3, r4⟩ := ES hr
  simp
  refine Rn n (T := []) hok (.inl ⟨rfl, by simp⟩) (by simp; omega) (fun S2 T2 hT2 hm2 hK => ?_)
  rcases hT2 with ⟨e, _⟩ | ⟨t, ht, hS2, hS2t⟩
  ·have := congrArg List.length hm2
   rw [List.length_map, Node.tab_len, Node.count_eq] at this
   simp at e
   subst e
   simp at this
   omega
  refine h1 hr S2 S1.length (fun j hj => ?_) hS1.le ⟨t, T2, ht, by simpa using hS2, by simpa using hS2t, by simpa using hm2⟩
  have := hS1.le
  rw [hK j (by omega), List.getElem?_append_left (by omega)]
  exact hS1 j hj
def Dc.good (x : Dc) : Prop := x.names.Pairwise (fun a b => slt a b = true) ∧ x.names.length = x.ids.length ∧ x.names.length ≤ 1000000
open Go.Proofs
theorem JZ {w0 : World} {S : St} {s : Stk} {Q : AV → St → Prop} (hq : Q (.int .i64 s.l.length) S) : AC w0 Cq [.agg s.c] S Q := by
 unfold Stk.c
 apply K5
 unfold Er
 simp
 exact hq
def Stk.at_ (s : Stk) (k : Int) : Option Mnt := if k < 0 then Option.none else s.l[k.toNat]?
theorem TN {w0 : World} {S : St} {s : Stk} {id : Nat} {P : List Dc} (hs : s.ok) {Q : AV → St → Prop} (h1 : 64 ≤ s.l.length → Q (.tup [.agg s.c, .int .i64 0, .int .i64 6]) S)
  (h2 : s.l.length < 64 → ∀ r, r.strip ≠ .nil → Q (.tup [.agg (Stk.c ⟨⟨s.next, id, P⟩ :: s.l, r, s.next + 1⟩), .int .i64 s.next, .int .i64 0]) S) : AC w0 E3 [.agg s.c, .ptr id 0] S Q := by
 unfold Stk.c at *
 apply Kt
 unfold FC
 have hn := hs.next
 by_cases c : 64 ≤ s.l.length
 ·have := h1 c
  simp [show (64 : Int) ≤ s.l.length by omega]
  exact this
 ·simp [show ¬ (64 : Int) ≤ s.l.length by omega]
  try simp (disch := omega) only [wrap64]
  by_cases e : s.l = []
  ·have := h2 (by omega) .full (by simp)
   simp [Ao, A6, e, Mnt.c] at this ⊢
   exact this
  ·have := h2 (by omega) .none (by simp)
   simp [Mnt.c] at this
   simp [Ao, A6, e, show s.l.length + 1 ≤ lim by unfold lim; omega, show 1 + s.l.length ≤ lim by unfold lim; omega]
   exact this
structure Oo (S0 S : St) (l : List Node) (s : Stk) : Prop where
 ok : s.ok
 on : s.on S
 len : s.l.length = l.length
 next : s.next = l.length
 tabs : s.l.map Mnt.tab = l.reverse.map fun n => n.tab 0
 nums : s.l.map Mnt.num = (List.range l.length).reverse
 ids : ∀ m ∈ s.l, S0.length ≤ m.id
@[simp] theorem Stk.c_len (s : Stk) : s.c.length = 2 := rfl
@[simp] theorem Stk.c_free (s : Stk) : (AV.agg s.c).free = true := by simp [Stk.c]
@[simp] theorem Stk.c_strip (s : Stk) : (AV.agg s.c).strip = .agg s.c := by simp [Stk.c]
@[simp] theorem Stk.c_map (s : Stk) : s.c.map AV.strip1 = s.c := by simp [Stk.c]
@[simp] theorem Stk.c_free1 (s : Stk) : (∀ x ∈ s.c, x.free1 = true) ↔ True := by simp [Stk.c]
@[simp] theorem Stk.c_take (s : Stk) : s.c.take 2 = s.c := rfl
@[simp] theorem Stk.c_drop (s : Stk) : s.c.drop 2 = [] := rfl
open Go.Proofs
abbrev Spot := Nat × Nat
def spC (x : Spot) : List AV := [.int .i64 x.1, .int .i64 x.2]
@[simp] theorem dx (x : Spot) : (spC x).length = 2 := rfl
structure Fnd where
 kind : Int
 sp : Spot
 dirs : List Spot
 deriving DecidableEq
def Fnd.c (f : Fnd) (r : Rt) : List AV := [.int .i64 f.kind, .int .i64 f.sp.1, .int .i64 f.sp.2, .vs 2 (f.dirs.map spC) r]
def Fnd.none : Fnd := ⟨0, (0, 0), []⟩
def Stk.tabs (s : Stk) : List (List Dc) := s.l.map Mnt.tab
def dV (L : List (List Dc)) : Prop := ∀ P ∈ L, ∀ i, (LO P i).good
theorem Dc.none_good : Dc.none.good := ⟨by simp [Dc.none], rfl, by simp [Dc.none]⟩
theorem XX (n : Node) : n.ok → n.allB = true → n.count ≤ 1000000 → ∀ b, ∀ p ∈ n.tab b, p.good := by
 induction n using Node.ind with
 | h n ih =>
  intro hok hall hc b p hp
  rw [Node.all_eq] at hall
  simp only [Bool.and_eq_true] at hall
  obtain ⟨ha, ho⟩ := hall
  obtain ⟨hz, hk⟩ := GM ho
  rw [Node.ok_iff] at hok
  obtain ⟨h1, h2, h3, h4, h5, h6, h7⟩ := hok
  rw [Node.count_eq] at hc
  rw [Node.tab_eq] at hp
  rcases List.mem_cons.1 hp with rfl | hp
  ·have hl := IF (l := n.items)
   by_cases k : n.kind = 2
   ·have hn : Dd n = true := by simpa [CK, k] using hk
    obtain ⟨c1, c2⟩ := Gw hn
    obtain ⟨c3, _, _⟩ := Hw _ _ c1
    exact ⟨c3, by simp [Node.hd, Node.idsOf_len, c2], by simp only [Node.hd]; rw [c2]; omega⟩
   ·have hi := JJ hz k
    have hnm : n.names.l = [] := by simp [Cg, k] at hz; exact hz.1.1.1.2
    exact ⟨by simp [Node.hd, hnm], by simp [Node.hd, hnm, hi, Node.idsOf], by simp [Node.hd, hnm]⟩
  ·have : ∀ (l : List Node) (b : Nat), (∀ x ∈ l, x ∈ n.items) → p ∈ Node.tabs l b → p.good := by
    intro l
    induction l with
    | nil => intro b _ h; rw [Node.tabs_nil] at h; cases h
    | cons x l ihl =>
     intro b hm h
     rw [Node.tabs_cons] at h
     rcases List.mem_append.1 h with h | h
     ·have hx := hm x (by simp)
      exact ih x hx (h4 x hx) (Lf ha x hx) (by have := (IF (l := n.items)).2 x hx; omega) b p h
     ·exact ihl _ (fun y hy => hm y (by simp [hy])) h
   exact this n.items _ (fun _ h => h) hp
theorem WP {P : List Dc} {i : Int} : LO P i = Dc.none ∨ LO P i ∈ P := by
 unfold LO
 split
 ·exact .inl rfl
 ·cases h : P[i.toNat]? with
  | none => exact .inl rfl
  | some x => exact .inr (by simpa using List.mem_of_getElem? h)
theorem UI {n : Node} (hok : n.ok) (hr : BT n = true) (i : Int) : (LO (n.tab 0) i).good := by
 obtain ⟨r1, r2, r3, r4⟩ := ES hr
 rcases WP (P := n.tab 0) (i := i) with h | h
 ·rw [h]; exact Dc.none_good
 ·exact XX n hok r2 (by omega) 0 _ h
theorem Mz : ∀ (l : List Node) (k : Nat), VQ l k = 0 → ∀ n ∈ l, BT n = true
 | [], _, _ => by simp
 | n :: l, k, h => by
  rw [VQ] at h
  split at h
  ·cases h
  ·rename_i c
   split at h
   ·cases h
   ·intro x hx
    rcases List.mem_cons.1 hx with rfl | hx
    ·simpa using c
    ·exact Mz l _ h x hx
theorem Oo.good {S0 S : St} {l : List Node} {s : Stk} (h : Oo S0 S l s) (hok : ∀ n ∈ l, n.ok) (he : VQ l 0 = 0) : dV s.tabs := by
 intro P hP i
 unfold Stk.tabs at hP
 rw [h.tabs] at hP
 obtain ⟨n, hn, rfl⟩ := List.mem_map.1 hP
 rw [List.mem_reverse] at hn
 exact UI (hok n hn) (Mz l 0 he n hn) i
theorem Stk.at_some {s : Stk} {k : Nat} {m : Mnt} (h : s.l[k]? = some m) : s.at_ (k : Int) = some m ∧ s.tabs[k]? = some m.tab := by
 have : ¬ ((k : Int) < 0) := by omega
 simp [Stk.at_, Stk.tabs, h]
end Go.Av
