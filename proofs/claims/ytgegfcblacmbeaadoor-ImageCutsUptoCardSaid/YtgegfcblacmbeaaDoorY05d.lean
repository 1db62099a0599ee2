/- Parts of the proofs of this seat: abstract values over the model, and what the functions of the program do. No condition. -/
import Derived.Test.YtgegfcblacmbeaaDoorY05b
import Derived.Test.YtgegfcblacmbeaaDoorX04L
import Derived.Test.YtgegfcblacmbeaaDoorDRow
set_option linter.all false
set_option linter.unusedVariables false
/-! Images: bounds of what is read; decoding. -/
namespace Go.Av
theorem cr_ok {α : Type} (l : List α) : (cr l = .nil → l = []) ∧ ((cr l).strip = .nil → l = []) ∧ (cr l).strip = cr l := by
  cases l <;> simp [cr, Rt.strip]
/-- What a reader of nodes keeps. -/
structure RdInv (st : RS) (n : Node) (st' : RS) : Prop where
  ok : n.ok
  len : st'.s.length ≤ st.s.length
  bad : st.bad = true → st'.bad = true
  lo : -1 ≤ st'.left
  hi : st'.left ≤ st.left
  nb : st'.bad = false → 0 ≤ st'.left
theorem RS.items_ok {rd : RS → Node × RS} (hrd : ∀ st : RS, st.s.length ≤ 1048568 → 0 ≤ st.left → RdInv st (rd st).1 (rd st).2) : ∀ (c : Nat) (st : RS), st.s.length ≤ 1048568 → 0 ≤ st.left →
    (RS.items rd c st).1.length + (RS.items rd c st).2.2.s.length ≤ st.s.length + 1 ∧ (RS.items rd c st).2.1.length = (RS.items rd c st).1.length ∧ (∀ s ∈ (RS.items rd c st).1, s.length ≤ 1048576) ∧ (∀ n ∈ (RS.items rd c st).2.1, n.ok) ∧ (RS.items rd c st).2.2.s.length ≤ st.s.length ∧
      (st.bad = true → RS.items rd c st = ([], [], st)) ∧ -1 ≤ (RS.items rd c st).2.2.left ∧ (RS.items rd c st).2.2.left ≤ st.left ∧ ((RS.items rd c st).2.2.bad = false → 0 ≤ (RS.items rd c st).2.2.left)
  | 0, st, h, hl => by simp [RS.items]; omega
  | c + 1, st, h, hl => by
    rw [RS.items]
    by_cases hb : st.bad = true
    · rw [if_pos hb]; simp; omega
    · rw [if_neg hb]
      simp only
      generalize hA : st.text 1 = A
      have ht := RS.text_lt (k := 1) (st := st)
      rw [hA] at ht
      obtain ⟨t1, t2, t3, t4⟩ := ht
      generalize hB : rd A.2 = B
      have hr := hrd A.2 (by omega) (by omega)
      rw [hB] at hr
      obtain ⟨r1, r2, r3, r4, r5, r6⟩ := hr
      by_cases hb2 : B.2.bad = true
      · have e : RS.items rd c B.2 = ([], [], B.2) := by cases c <;> rw [RS.items]; rw [if_pos hb2]
        rw [e]
        refine ⟨by (try simp); omega, rfl, by (try simp); omega, by simpa using r1, by (try simp); omega, fun e => absurd e hb, r4, by (try simp); omega, by simp [hb2]⟩
      · have hbA : A.2.bad = false := by
          cases hh : A.2.bad with
          | false => rfl
          | true => exact absurd (r3 hh) hb2
        have hbB : B.2.bad = false := by simpa using hb2
        obtain ⟨h1, h2, h3, h4, h5, h6, h7, h8, h9⟩ := RS.items_ok hrd c B.2 (by omega) (r6 hbB)
        have t2 := t2 hbA (by omega)
        refine ⟨by (try simp); omega, by simp [h2], ?_, ?_, by (try simp); omega, fun e => absurd e hb, h7, by (try simp); omega, h9⟩
        · intro x hx
          rcases List.mem_cons.1 hx with rfl | hx
          · omega
          · exact h3 x hx
        · intro x hx
          rcases List.mem_cons.1 hx with rfl | hx
          · exact r1
          · exact h4 x hx
theorem mk_ok {k : Int} {o : Bool} {ns : List Str} {its : List Node} {sz : Int} {es : List Ext} {t : Str} (h1 : I64 k) (h2 : ns.length ≤ 1048576 ∧ ∀ s ∈ ns, s.length ≤ 1048576) (h3 : its.length ≤ 1048576 ∧ ∀ n ∈ its, n.ok) (h4 : I64 sz) (h5 : es.length ≤ 1048576 ∧ ∀ e ∈ es, e.ok) (h6 : t.length ≤ 1048576) :
    (Node.mk k o ⟨ns, cr ns⟩ its (cr its) sz es (cr es) t).ok := by
  rw [Node.ok_iff]
  exact ⟨h1, ⟨(cr_ok ns).1, h2⟩, ⟨(cr_ok its).2.1, h3.1⟩, h3.2, h4, ⟨(cr_ok es).2.1, h5⟩, h6⟩
theorem RS.node_ok : ∀ (f : Nat) (st : RS), st.s.length ≤ 1048568 → 0 ≤ st.left → RdInv st (RS.node f st).1 (RS.node f st).2
  | 0, st, h, hl => by
    rw [RS.node]
    exact ⟨Node.none_ok, Nat.le_refl _, fun _ => rfl, by (try simp); omega, by (try simp); omega, by simp⟩
  | f + 1, st, h, hl => by
    rw [RS.node]
    by_cases hb : st.bad = true ∨ st.left - 1 < 0
    · rw [if_pos hb]
      exact ⟨Node.none_ok, Nat.le_refl _, fun _ => rfl, by (try simp); omega, by (try simp); omega, by simp⟩
    · rw [if_neg hb]
      have hb0 : ¬ st.bad = true := fun e => hb (.inl e)
      have hl1 : 0 ≤ st.left - 1 := by omega
      simp only
      have hn := RS.num_lt (k := 1) (st := { st with left := st.left - 1 })
      generalize RS.num 1 { st with left := st.left - 1 } = A at hn ⊢
      obtain ⟨n1, n2, n3, n4⟩ := hn
      simp only at n2 n3
      rw [p1] at n1
      by_cases c1 : A.1 = 1
      · rw [if_pos c1]
        have hB := RS.num_lt (k := 4) (st := A.2)
        generalize RS.num 4 A.2 = B at hB ⊢
        obtain ⟨b1, b2, b3, b4⟩ := hB
        have hC := RS.num_lt (k := 4) (st := B.2)
        generalize RS.num 4 B.2 = D at hC ⊢
        obtain ⟨d1, d2, d3, d4⟩ := hC
        have hE := RS.exts_lt D.1 D.2
        generalize RS.exts D.1 D.2 = E at hE ⊢
        obtain ⟨e1, e2, e3, e4, e5⟩ := hE
        rw [p4] at b1
        refine ⟨mk_ok (ns := []) (its := []) (by unfold I64; omega) (by simp) (by simp) (by unfold I64; omega) ⟨by omega, fun x hx => ?_⟩ (by simp), by (try simp); omega, fun e => absurd e hb0, by (try simp); omega, by (try simp); omega, fun _ => by (try simp); omega⟩
        have := e2 x hx
        unfold Ext.ok
        omega
      rw [if_neg c1]
      by_cases c2 : A.1 = 2
      · rw [if_pos c2]
        have hB := RS.num_lt (k := 1) (st := A.2)
        generalize RS.num 1 A.2 = B at hB ⊢
        obtain ⟨b1, b2, b3, b4⟩ := hB
        have hC := RS.num_lt (k := 2) (st := { B.2 with bad := B.2.bad || decide (1 < B.1) })
        simp only at hC ⊢
        generalize RS.num 2 { B.2 with bad := B.2.bad || decide (1 < B.1) } = D at hC ⊢
        obtain ⟨d1, d2, d3, d4⟩ := hC
        obtain ⟨h1, h2, h3, h4, h5, h6, h7, h8, h9⟩ := RS.items_ok (RS.node_ok f) D.1 D.2 (by omega) (by omega)
        generalize RS.items (RS.node f) D.1 D.2 = E at h1 h2 h3 h4 h5 h6 h7 h8 h9 ⊢
        refine ⟨mk_ok (es := []) (by unfold I64; omega) ⟨by omega, h3⟩ ⟨by omega, h4⟩ (by unfold I64; omega) (by simp) (by simp), by (try simp); omega, fun e => absurd e hb0, h7, by (try simp); omega, h9⟩
      rw [if_neg c2]
      by_cases c3 : A.1 = 3
      · rw [if_pos c3]
        have hB := RS.text_lt (k := 2) (st := A.2)
        generalize RS.text 2 A.2 = B at hB ⊢
        obtain ⟨b1, b2, b3, b4⟩ := hB
        refine ⟨mk_ok (ns := []) (its := []) (es := []) (by unfold I64; omega) (by simp) (by simp) (by unfold I64; omega) (by simp) (by omega), by (try simp); omega, fun e => absurd e hb0, by (try simp); omega, by (try simp); omega, fun _ => by (try simp); omega⟩
      · rw [if_neg c3]
        refine ⟨mk_ok (ns := []) (its := []) (es := []) (by unfold I64; omega) (by simp) (by simp) (by unfold I64; omega) (by simp) (by simp), by (try simp); omega, fun e => absurd e hb0, by (try simp); omega, by (try simp); omega, fun _ => by (try simp); omega⟩
/-- The tree of an image. -/
def decS (s : Str) : Option Node :=
  if s.length < 7 ∨ 4194304 < s.length ∨ s.take 7 ≠ [115, 111, 99, 97, 103, 101, 49] then none else
    let r := RS.node 16 ⟨s.drop 7, false, 4096⟩
    if r.2.bad = false ∧ r.2.s = [] ∧ rightB r.1 = true then some r.1 else none
def decR (s : Str) : Option Node :=
  if s.length < 7 ∨ 4194304 < s.length ∨ s.take 7 ≠ [115, 111, 99, 97, 103, 101, 49] then none else
    match getP 16 (s.drop 7) with
    | some (n, r) => if r = [] ∧ rightB n = true then some n else none
    | none => none
end Go.Av
set_option linter.unusedVariables false
/-! Images: read. -/
namespace Go.Av
open Go.Proofs
def rdC (s : Str) : Obj := .cells [.str s] t_wire_Reader
theorem shl_byte {n : Nat} (hn : n < 16777216) : binA .shl (.int .i64 (n : Int)) (.int .u64 8) = some (.int .i64 ((n * 256 : Nat) : Int)) := by
  simp only [binA]
  rw [if_neg (by omega)]
  simp only [IntKind.bits]
  have : (n : Int) * 2 ^ (min (Int.toNat 8) 64) = ((n * 256 : Nat) : Int) := by
    rw [show (min (Int.toNat 8) 64) = 8 from rfl]; omega
  rw [this, wrap64 (by omega) (by omega)]
theorem or_byte {n b : Nat} (hn : n < 16777216) (hb : b < 256) : binA .or (.int .i64 ((n * 256 : Nat) : Int)) (.int .i64 (b : Int)) = some (.int .i64 ((n * 256 + b : Nat) : Int)) := by
  simp only [binA, if_true, intBin]
  have h1 : (BitVec.ofInt 64 ((n * 256 : Nat) : Int) ||| BitVec.ofInt 64 (b : Int)).toNat = n * 256 + b := by
    rw [BitVec.toNat_or, BitVec.ofInt_natCast, BitVec.ofInt_natCast, BitVec.toNat_ofNat, BitVec.toNat_ofNat, Nat.mod_eq_of_lt (by omega), Nat.mod_eq_of_lt (by omega)]
    have := Nat.shiftLeft_add_eq_or_of_lt (i := 8) (b := b) (by omega) n
    rw [Nat.shiftLeft_eq] at this
    exact this.symm
  show some (AV.int .i64 (IntKind.i64.wrap (((BitVec.ofInt 64 ((n * 256 : Nat) : Int) ||| BitVec.ofInt 64 (b : Int)).toNat : Nat) : Int))) = _
  rw [h1, wrap64 (by omega) (by omega)]
theorem val_take {s : Str} {i : Nat} {x : UInt8} (h : s[i]? = some x) : val (s.take (i + 1)) = val (s.take i) * 256 + x.toNat := by
  have hi := (List.getElem?_eq_some_iff.1 h).1
  rw [List.take_succ, h]
  generalize s.take i = l
  clear h hi
  simp only [Option.toList]
  induction l with
  | nil => simp [val]
  | cons y l ih =>
    rw [List.cons_append, val, val, ih, List.length_append, List.length_singleton, Nat.pow_succ]
    rw [Nat.add_mul]
    rw [Nat.mul_assoc]
    omega
theorem wire_Take_A {w0 : World} {S : St} {id k : Nat} {s : Str} (hS : S[id]? = some (rdC s)) (hk : 1 ≤ k ∧ k ≤ 4) (hl : s.length ≤ 1000000000) {Q : AV → St → Prop}
    (hq : match takeN k s with | some (n, r) => Q (.tup [.int .i64 n, .bool true]) (S.set id (rdC r)) | none => Q (.tup [.int .i64 0, .bool false]) S) : AC w0 F_wire_Reader_Take [.ptr id 0, .int .i64 k] S Q := by
  apply wire_Reader_Take_ok
  unfold G_wire_Reader_Take
  have hS' : S[id]? = some (.cells [.str s] t_wire_Reader) := hS
  unfold takeN at hq
  by_cases c : s.length < k
  · rw [if_pos c] at hq
    simp [show ¬ ((k : Int) < 1) by omega, show ¬ (4 < (k : Int)) by omega, loadA_ptr hS', joinK_eq, show ((s.length : Int) < (k : Int)) by omega]
    exact hq
  · rw [if_neg c] at hq
    simp [show ¬ ((k : Int) < 1) by omega, show ¬ (4 < (k : Int)) by omega, loadA_ptr hS', joinK_eq, show ¬ ((s.length : Int) < (k : Int)) by omega]
    refine loopQ_by (fun p : Nat × Nat => ([.int .i64 (p.1 : Nat), .int .i64 (p.2 : Nat)], [])) (fun m p S' => S' = S ∧ m = k - p.2 ∧ p.2 ≤ k ∧ p.1 = val (s.take p.2)) k (0, 0) rfl ⟨rfl, rfl, by simp, by simp [val]⟩ ?_
    rintro m ⟨n, i⟩ S' v b ⟨rfl, rfl, h1, h2⟩ hv
    simp at hv h1 h2
    obtain ⟨hv1, hv2⟩ := hv
    simp [hv1, hv2]
    by_cases c2 : i = k
    · subst c2
      simp
      simp only [stripMem_ptr hS', loadA_ptr hS']
      have e1 : S'.set id (.cells [.str s] t_wire_Reader) = S' := by
        obtain ⟨hlt, he⟩ := List.getElem?_eq_some_iff.1 hS'
        rw [← he, List.set_getElem_self]
      simp [e1, show i ≤ s.length by omega, storeA_ptr hS']
      rw [← h2] at hq
      exact hq
    · have c3 : i < k := by omega
      have hi : i < s.length := by omega
      obtain ⟨x, hx⟩ : ∃ x, s[i]? = some x := ⟨s[i], by simp [hi]⟩
      have gx : s[i] = x := (List.getElem?_eq_some_iff.1 hx).2
      have hnl : n < 16777216 := by
        have := val_lt (s.take i)
        rw [List.length_take, Nat.min_eq_left (by omega), ← h2] at this
        have h3 : 256 ^ i ≤ 256 ^ 3 := Nat.pow_le_pow_right (by omega) (by omega)
        have h4 : (256 : Nat) ^ 3 = 16777216 := rfl
        omega
      have hx256 : x.toNat < 256 := x.toNat_lt
      have e1 : IntKind.i64.wrap ((x.toNat : Nat) : Int) = ((x.toNat : Nat) : Int) := wrap64 (by omega) (by omega)
      simp only [shl_byte hnl]
      simp [c3, loadA_ptr hS', hx, gx, hi, e1]
      have := or_byte hnl hx256
      have this' : binA .or (.int .i64 ((n : Int) * 256)) (.int .i64 (x.toNat : Int)) = some (.int .i64 ((n * 256 + x.toNat : Nat) : Int)) := by rw [show (n : Int) * 256 = ((n * 256 : Nat) : Int) by omega]; exact this
      simp only [this', optK_some']
      try simp (disch := omega) only [wrap64]
      refine ⟨_, (n * 256 + x.toNat, i + 1), by show k - (i + 1) < k - i; omega, rfl, rfl, rfl, by show i + 1 ≤ k; omega, ?_⟩
      show n * 256 + x.toNat = val (s.take (i + 1))
      rw [val_take hx, h2]
theorem wire_RText_A {w0 : World} {S : St} {id k : Nat} {s : Str} (hS : S[id]? = some (rdC s)) (hk : 1 ≤ k ∧ k ≤ 4) (hl : s.length ≤ 1000000000) {Q : AV → St → Prop}
    (hq : match takeT k s with | some (t, r) => Q (.tup [.str t, .bool true]) (S.set id (rdC r)) | none => Q (.tup [.str [], .bool false]) S) : AC w0 F_wire_Reader_Text [.ptr id 0, .int .i64 k] S Q := by
  apply wire_Reader_Text_ok
  unfold G_wire_Reader_Text
  have hS' : S[id]? = some (.cells [.str s] t_wire_Reader) := hS
  have e1 : S.set id (.cells [.str s] t_wire_Reader) = S := by
    obtain ⟨hlt, he⟩ := List.getElem?_eq_some_iff.1 hS'
    rw [← he, List.set_getElem_self]
  simp [loadA_ptr hS']
  refine wire_Take_A hS hk hl ?_
  unfold takeT at hq
  cases hT : takeN k s with
  | none =>
    rw [hT] at hq
    simp at hq
    simp [joinK_eq, storeA_ptr hS', e1]
    exact hq
  | some p =>
    obtain ⟨n, r⟩ := p
    rw [hT] at hq
    simp only [Option.bind_some] at hq
    have hS2 : (S.set id (rdC r))[id]? = some (.cells [.str r] t_wire_Reader) := getSet_self hS
    by_cases c : r.length < n
    · rw [if_pos c] at hq
      have c' : ((r.length : Int) < (n : Int)) := by omega
      simp [joinK_eq, loadA_ptr hS2, c, c', storeA_ptr hS2, e1]
      exact hq
    · rw [if_neg c] at hq
      have c' : ¬ ((r.length : Int) < (n : Int)) := by omega
      have c2 : n ≤ r.length := by omega
      have e2 : (S.set id (rdC r)).set id (.cells [.str r] t_wire_Reader) = S.set id (rdC r) := by rw [List.set_set]; rfl
      simp [joinK_eq, loadA_ptr hS2, c, c', c2]
      simp only [stripMem_ptr hS2]
      rw [show List.modify [AV.str r] 0 AV.strip1 = [AV.str r] from rfl]
      simp [e2, loadA_ptr hS2, c2, storeA_ptr hS2]
      simp only [stripMem_ptr hS2]
      rw [show List.modify [AV.str r] 0 AV.strip1 = [AV.str r] from rfl]
      simp [e2, storeA_ptr hS2]
      exact hq
/-- A reader of nodes. -/
def RdO (S : St) (rid wid : Nat) (st : RS) : Prop := S[rid]? = some (.cells [.ptr wid 0, .bool st.bad, .int .i64 st.left] t_image_reader) ∧ S[wid]? = some (rdC st.s)
theorem RdO.put {S : St} {rid wid : Nat} {st : RS} (h : RdO S rid wid st) (hne : rid ≠ wid) {s : Str} : RdO (S.set wid (rdC s)) rid wid { st with s := s } :=
  ⟨by rw [getSet_other (Ne.symm hne)]; exact h.1, getSet_self h.2⟩
theorem RdO.flag {S : St} {rid wid : Nat} {st : RS} (h : RdO S rid wid st) (hne : rid ≠ wid) (b : Bool) : RdO (S.set rid (.cells [.ptr wid 0, .bool b, .int .i64 st.left] t_image_reader)) rid wid { st with bad := b } :=
  ⟨getSet_self h.1, by rw [getSet_other hne]; exact h.2⟩
theorem number_A {w0 : World} {S : St} {rid wid b k : Nat} {st : RS} (h : RdO S rid wid st) (hne : rid ≠ wid) (hb : b ≤ rid ∧ b ≤ wid) (hk : 1 ≤ k ∧ k ≤ 4) (hl : st.s.length ≤ 1000000000) {Q : AV → St → Prop}
    (hq : ∀ S', RdO S' rid wid (st.num k).2 → Kp b S S' → Q (.int .i64 (st.num k).1) S') : AC w0 F_image_reader_number [.ptr rid 0, .int .i64 k] S Q := by
  apply image_reader_number_ok
  unfold G_image_reader_number
  simp [loadA_ptr h.1]
  refine wire_Take_A h.2 hk hl ?_
  unfold RS.num at hq
  cases hT : takeN k st.s with
  | none =>
    rw [hT] at hq
    cases hbad : st.bad with
    | true =>
      have hS1 := h.1
      rw [hbad] at hS1
      simp [loadA_ptr hS1, storeA_ptr hS1]
      have := h.flag hne true
      exact hq _ this (Kp.set hb.1)
    | false =>
      have hS1 := h.1
      rw [hbad] at hS1
      simp [loadA_ptr hS1, storeA_ptr hS1]
      have := h.flag hne true
      exact hq _ this (Kp.set hb.1)
  | some p =>
    obtain ⟨n, r⟩ := p
    rw [hT] at hq
    have h2 := h.put hne (s := r)
    have h3 := h2.flag hne st.bad
    have hS1 := h2.1
    cases hbad : st.bad with
    | true =>
      simp only [hbad] at hS1 h3
      simp [loadA_ptr hS1, storeA_ptr hS1]
      refine hq _ ?_ ((Kp.set hb.2).trans (Kp.set hb.1))
      have e : ({ s := r, bad := st.bad, left := st.left } : RS) = { s := r, bad := true, left := st.left } := by rw [hbad]
      show RdO _ _ _ { s := r, bad := st.bad, left := st.left }
      rw [e]
      exact h3
    | false =>
      simp only [hbad] at hS1 h3
      simp [loadA_ptr hS1, storeA_ptr hS1]
      refine hq _ ?_ ((Kp.set hb.2).trans (Kp.set hb.1))
      have e : ({ s := r, bad := st.bad, left := st.left } : RS) = { s := r, bad := false, left := st.left } := by rw [hbad]
      show RdO _ _ _ { s := r, bad := st.bad, left := st.left }
      rw [e]
      exact h3
theorem rtext_A {w0 : World} {S : St} {rid wid b k : Nat} {st : RS} (h : RdO S rid wid st) (hne : rid ≠ wid) (hb : b ≤ rid ∧ b ≤ wid) (hk : 1 ≤ k ∧ k ≤ 4) (hl : st.s.length ≤ 1000000000) {Q : AV → St → Prop}
    (hq : ∀ S', RdO S' rid wid (st.text k).2 → Kp b S S' → Q (.str (st.text k).1) S') : AC w0 F_image_reader_text [.ptr rid 0, .int .i64 k] S Q := by
  apply image_reader_text_ok
  unfold G_image_reader_text
  simp [loadA_ptr h.1]
  refine wire_RText_A h.2 hk hl ?_
  unfold RS.text at hq
  cases hT : takeT k st.s with
  | none =>
    rw [hT] at hq
    cases hbad : st.bad with
    | true =>
      have hS1 := h.1
      rw [hbad] at hS1
      simp [loadA_ptr hS1, storeA_ptr hS1]
      have := h.flag hne true
      exact hq _ this (Kp.set hb.1)
    | false =>
      have hS1 := h.1
      rw [hbad] at hS1
      simp [loadA_ptr hS1, storeA_ptr hS1]
      have := h.flag hne true
      exact hq _ this (Kp.set hb.1)
  | some p =>
    obtain ⟨n, r⟩ := p
    rw [hT] at hq
    have h2 := h.put hne (s := r)
    have h3 := h2.flag hne st.bad
    have hS1 := h2.1
    cases hbad : st.bad with
    | true =>
      simp only [hbad] at hS1 h3
      simp [loadA_ptr hS1, storeA_ptr hS1]
      refine hq _ ?_ ((Kp.set hb.2).trans (Kp.set hb.1))
      have e : ({ s := r, bad := st.bad, left := st.left } : RS) = { s := r, bad := true, left := st.left } := by rw [hbad]
      show RdO _ _ _ { s := r, bad := st.bad, left := st.left }
      rw [e]
      exact h3
    | false =>
      simp only [hbad] at hS1 h3
      simp [loadA_ptr hS1, storeA_ptr hS1]
      refine hq _ ?_ ((Kp.set hb.2).trans (Kp.set hb.1))
      have e : ({ s := r, bad := st.bad, left := st.left } : RS) = { s := r, bad := false, left := st.left } := by rw [hbad]
      show RdO _ _ _ { s := r, bad := st.bad, left := st.left }
      rw [e]
      exact h3
/-- The right of a row that is appended to. -/
def okA {α : Type} (r : Rt) (l : List α) : Prop := (r = .nil ∧ l = []) ∨ ((∃ t, r = .own t) ∧ l ≠ [])
theorem okA.cr {α : Type} {r : Rt} {l : List α} (h : okA r l) : r.strip = cr l := by
  rcases h with ⟨rfl, rfl⟩ | ⟨⟨t, rfl⟩, h⟩
  · rfl
  · cases l
    · exact (h rfl).elim
    · rfl
theorem okA.ne {α : Type} {r : Rt} {l : List α} (h : okA r l) : r ≠ .none ∧ r ≠ .full := by
  rcases h with ⟨rfl, rfl⟩ | ⟨⟨t, rfl⟩, h⟩ <;> simp
theorem okA.app {α : Type} {t : Nat} {l : List α} {x : α} : okA (.own t) (l ++ [x]) := .inr ⟨⟨t, rfl⟩, by simp⟩
def ndC (k : Int) (o : Bool) (ns : List Str) (nr : Rt) (its : List Node) (ir : Rt) (sz : Int) (es : List Ext) (er : Rt) (t : Str) : List AV := [.int .i64 k, .bool o, .vs 1 (ns.map wStr) nr, .vs 7 (its.map Node.c) ir, .int .i64 sz, .vs 2 (es.map Ext.c) er, .str t]
set_option maxRecDepth 100000 in
theorem image_node_A {w0 : World} : ∀ (f : Nat) {S : St} {Q : AV → St → Prop} {rid wid b : Nat} {st : RS} {d : Int}, f ≤ 16 → d = 16 - (f : Int) → RdO S rid wid st → rid ≠ wid → (b ≤ rid ∧ b ≤ wid) → st.s.length ≤ 1048568 → 0 ≤ st.left → st.left ≤ 1000000 →
    (∀ S', RdO S' rid wid (RS.node f st).2 → Kp b S S' → Q (.agg (RS.node f st).1.c) S') → AC w0 F_image_reader_node [.ptr rid 0, .int .i64 d] S Q := by
  intro f
  induction f with
  | zero =>
    intro S Q rid wid b st d hf hd0 h hne hb hl h0 h1 hq
    apply image_reader_node_ok
    unfold G_image_reader_node
    rw [joinK_eq]
    simp only [loadA_ptr h.1]
    simp
    simp [storeA_ptr h.1]
    try simp (disch := omega) only [wrap64]
    have hS1 := getSet_self (o' := .cells [.ptr wid 0, .bool st.bad, .int .i64 (st.left - 1)] t_image_reader) h.1
    have hS2 := getSet_self (o' := .cells [.ptr wid 0, .bool true, .int .i64 (st.left - 1)] t_image_reader) h.1
    have hfin : Q (.agg [.int .i64 0, .bool false, .vs 1 [] .nil, .vs 7 [] .nil, .int .i64 0, .vs 2 [] .nil, .str []]) (S.set rid (.cells [.ptr wid 0, .bool true, .int .i64 (st.left - 1)] t_image_reader)) := by
      have := hq (S.set rid (.cells [.ptr wid 0, .bool true, .int .i64 (st.left - 1)] t_image_reader)) ⟨hS2, by rw [getSet_other hne]; exact h.2⟩ (Kp.set hb.1)
      rw [RS.node] at this
      simp only [Node.none_c] at this
      exact this
    simp [loadA_ptr hS1]
    have hd : (15 : Int) < d := by omega
    by_cases c : st.left < 1
    · simp [c, hd, show st.left - 1 < 0 by omega, storeA_ptr hS1, loadA_ptr hS2]
      exact hfin
    · simp [c, hd, show ¬ st.left - 1 < 0 by omega, storeA_ptr hS1, loadA_ptr hS2]
      exact hfin
  | succ f ih =>
    intro S Q rid wid b st d hf hd0 h hne hb hl h0 h1 hq
    apply image_reader_node_ok
    unfold G_image_reader_node
    simp [loadA_ptr h.1, storeA_ptr h.1]
    try simp (disch := omega) only [wrap64]
    have hS1 := getSet_self (o' := .cells [.ptr wid 0, .bool st.bad, .int .i64 (st.left - 1)] t_image_reader) h.1
    have hS2 := getSet_self (o' := .cells [.ptr wid 0, .bool true, .int .i64 (st.left - 1)] t_image_reader) h.1
    have hfin : (st.bad = true ∨ st.left - 1 < 0) → Q (.agg [.int .i64 0, .bool false, .vs 1 [] .nil, .vs 7 [] .nil, .int .i64 0, .vs 2 [] .nil, .str []]) (S.set rid (.cells [.ptr wid 0, .bool true, .int .i64 (st.left - 1)] t_image_reader)) := fun hc => by
      rw [RS.node, if_pos hc] at hq
      have := hq (S.set rid (.cells [.ptr wid 0, .bool true, .int .i64 (st.left - 1)] t_image_reader)) ⟨hS2, by rw [getSet_other hne]; exact h.2⟩ (Kp.set hb.1)
      simp only [Node.none_c] at this
      exact this
    have hd : ¬ (15 : Int) < d := by omega
    simp [loadA_ptr hS1]
    by_cases c : st.left < 1
    · have := hfin (.inr (by omega))
      simp [c, show st.left - 1 < 0 by omega, storeA_ptr hS1, loadA_ptr hS2, joinK_eq]
      exact this
    have c' : ¬ st.left - 1 < 0 := by omega
    cases hbad : st.bad with
    | true =>
      have := hfin (.inl hbad)
      rw [hbad] at hS1
      simp [c, c', hd, loadA_ptr hS1, joinK_eq]
      exact this
    | false =>
    rw [hbad] at hS1
    simp [c, c', hd]
    simp [loadA_ptr hS1]
    have hR1 : RdO (S.set rid (.cells [.ptr wid 0, .bool false, .int .i64 (st.left - 1)] t_image_reader)) rid wid { st with left := st.left - 1 } := ⟨by rw [← hbad] at hS1; simpa [hbad] using hS1, by rw [getSet_other hne]; exact h.2⟩
    have hK1 : Kp b S (S.set rid (.cells [.ptr wid 0, .bool false, .int .i64 (st.left - 1)] t_image_reader)) := Kp.set hb.1
    rw [RS.node, if_neg (by rw [hbad]; simp; omega)] at hq
    simp only at hq
    generalize S.set rid (.cells [.ptr wid 0, .bool false, .int .i64 (st.left - 1)] t_image_reader) = S1 at hR1 hK1 ⊢
    have hN := RS.num_lt (k := 1) (st := { st with left := st.left - 1 })
    refine number_A hR1 hne hb (k := 1) (by omega) (by simp; omega) (fun S2 hR2 hK2 => ?_)
    generalize RS.num 1 { st with left := st.left - 1 } = A at hq hN hR2 ⊢
    obtain ⟨a1, a2, a3, _⟩ := hN
    simp only at a2 a3
    rw [p1] at a1
    simp
    refine joinK_gen (fun j => ∀ (k : Int) (o : Bool) (ns : List Str) (nr : Rt) (its : List Node) (ir : Rt) (sz : Int) (es : List Ext) (er : Rt) (t : Str) (S' : St), okA nr ns → okA ir its → okA er es → Q (.agg (Node.mk k o ⟨ns, cr ns⟩ its (cr its) sz es (cr es) t).c) S' → j (some (ndC k o ns nr its ir sz es er t)) S') ?_ (fun j hj => ?_)
    · intro k o ns nr its ir sz es er t S' g1 g2 g3 hQ
      rw [Node.c_eq'] at hQ
      simp at hQ
      simp [ndC]
      rw [g1.cr, g2.cr, g3.cr]
      have e1 : ∀ {α : Type} (l : List α), (cr l).strip = cr l := fun l => (cr_ok l).2.2
      rw [e1, e1, e1] at hQ
      exact hQ
    have e1 : ((A.1 : Int) = 1) = (A.1 = 1) := propext (by omega)
    have e2 : ((A.1 : Int) = 2) = (A.1 = 2) := propext (by omega)
    have e3 : ((A.1 : Int) = 3) = (A.1 = 3) := propext (by omega)
    by_cases c1 : A.1 = 1
    · rw [if_pos c1] at hq
      simp only at hq
      simp [c1]
      have hB := RS.num_lt (k := 4) (st := A.2)
      refine number_A hR2 hne hb (k := 4) (by omega) (by omega) (fun S3 hR3 hK3 => ?_)
      generalize RS.num 4 A.2 = B at hB hR3 hq ⊢
      obtain ⟨b1, b2, b3, b4⟩ := hB
      simp
      have hC := RS.num_lt (k := 4) (st := B.2)
      refine number_A hR3 hne hb (k := 4) (by omega) (by omega) (fun S4 hR4 hK4 => ?_)
      generalize RS.num 4 B.2 = D at hC hR4 hq ⊢
      obtain ⟨d1, d2, d3, d4⟩ := hC
      have hK : Kp b S S4 := ((hK1.trans hK2).trans hK3).trans hK4
      rw [p4] at d1
      refine loopQ_by (fun p : Nat × List Ext × Rt => ([.int .i64 (p.1 : Nat)], [some (ndC 1 false [] .nil [] .nil B.1 p.2.1 p.2.2 [])])) (fun m p S' => m = p.1 ∧ p.1 ≤ D.1 ∧ ∃ st' : RS, RdO S' rid wid st' ∧ Kp b S S' ∧ okA p.2.2 p.2.1 ∧ st'.s.length ≤ st.s.length ∧ p.2.1.length + st'.s.length ≤ 1048577 ∧ (st'.bad = false → p.2.1.length + st'.s.length ≤ 1048576) ∧
        RS.exts D.1 D.2 = (p.2.1 ++ (RS.exts p.1 st').1, (RS.exts p.1 st').2)) D.1 (D.1, [], .nil) rfl ⟨rfl, Nat.le_refl _, D.2, hR4, hK, .inl ⟨rfl, rfl⟩, by omega, by simp; omega, fun _ => by simp; omega, by simp⟩ ?_
      rintro m ⟨c, l, r⟩ S5 v bx ⟨rfl, hc, st', hR5, hK5, hr, hl5, hl6, hl7, he⟩ hv
      simp at hv hc hr hl6 hl7 he
      obtain ⟨hv1, hv2⟩ := hv
      simp only [ndC] at hv2
      simp [hv1, hv2, loadA_ptr hR5.1, joinK_eq]
      by_cases cm : m = 0
      · subst cm
        rw [RS.exts] at he
        simp at he
        rw [he] at hq
        have := hj 1 false [] .nil [] .nil B.1 l r [] S5 (.inl ⟨rfl, rfl⟩) (.inl ⟨rfl, rfl⟩) hr (hq S5 hR5 hK5)
        simpa [ndC] using this
      have cm' : 0 < m := by omega
      cases hbd : st'.bad with
      | true =>
        have : RS.exts m st' = ([], st') := by cases m <;> rw [RS.exts]; rw [if_pos hbd]
        rw [this] at he
        simp at he
        rw [he] at hq
        have := hj 1 false [] .nil [] .nil B.1 l r [] S5 (.inl ⟨rfl, rfl⟩) (.inl ⟨rfl, rfl⟩) hr (hq S5 hR5 hK5)
        simp [cm']
        simpa [ndC] using this
      | false =>
        obtain ⟨q, rfl⟩ : ∃ q, m = q + 1 := ⟨m - 1, by omega⟩
        simp
        rw [RS.exts, if_neg (by rw [hbd]; simp)] at he
        simp only at he
        have hF := RS.num_lt (k := 4) (st := st')
        refine number_A hR5 hne hb (k := 4) (by omega) (by omega) (fun S6 hR6 hK6 => ?_)
        generalize RS.num 4 st' = F at hF hR6 he ⊢
        obtain ⟨f1, f2, f3, f4⟩ := hF
        simp
        have hG := RS.text_lt (k := 4) (st := F.2)
        refine rtext_A hR6 hne hb (k := 4) (by omega) (by omega) (fun S7 hR7 hK7 => ?_)
        generalize RS.text 4 F.2 = G at hG hR7 he ⊢
        obtain ⟨g1, g2, g3, g4⟩ := hG
        obtain ⟨n1, n2⟩ := hr.ne
        have hl7 := hl7 hbd
        have hlim : l.length + 1 ≤ lim := by unfold lim; omega
        simp [appendA, elemsA, n1, hlim]
        have hwr : IntKind.i64.wrap (q : Int) = (q : Int) := wrap64 (by omega) (by omega)
        refine ⟨_, (q, l ++ [⟨F.1, G.1⟩], .own (rowTy T_api_Extent r)), Nat.lt_succ_self q, ?_, rfl, by show q ≤ D.1; omega, G.2, hR7, (hK5.trans hK6).trans hK7, .app, by omega, ?_, ?_, ?_⟩
        · simp [ndC, hwr]
        · simp; omega
        · intro hg
          have := g2 hg (by omega)
          simp; omega
        · rw [he]; simp
    rw [if_neg c1] at hq
    by_cases c2 : A.1 = 2
    · rw [if_pos c2] at hq
      simp only at hq
      simp [c2]
      have hB := RS.num_lt (k := 1) (st := A.2)
      refine number_A hR2 hne hb (k := 1) (by omega) (by omega) (fun S3 hR3 hK3 => ?_)
      generalize RS.num 1 A.2 = B at hB hR3 hq ⊢
      obtain ⟨b1, b2, b3, b4⟩ := hB
      have eb1 : ((B.1 : Int) = 1) = (B.1 = 1) := propext (by omega)
      have eb2 : ((1 : Int) < B.1) = (1 < B.1) := propext (by omega)
      simp [loadA_ptr hR3.1]
      have hR4 := hR3.flag hne (B.2.bad || decide (1 < B.1))
      have hK4 : Kp b S3 (S3.set rid (.cells [.ptr wid 0, .bool (B.2.bad || decide (1 < B.1)), .int .i64 B.2.left] t_image_reader)) := Kp.set hb.1
      simp [storeA_ptr hR3.1, eb1, eb2]
      generalize S3.set rid (.cells [.ptr wid 0, .bool (B.2.bad || decide (1 < B.1)), .int .i64 B.2.left] t_image_reader) = S4 at hR4 hK4 ⊢
      have hC := RS.num_lt (k := 2) (st := { B.2 with bad := B.2.bad || decide (1 < B.1) })
      simp only at hC
      refine number_A hR4 hne hb (k := 2) (by omega) (by simp; omega) (fun S5 hR5 hK5 => ?_)
      generalize RS.num 2 { B.2 with bad := B.2.bad || decide (1 < B.1) } = D at hC hR5 hq ⊢
      obtain ⟨d1, d2, d3, d4⟩ := hC
      have hK : Kp b S S5 := (((hK1.trans hK2).trans hK3).trans hK4).trans hK5
      rw [p2] at d1
      refine loopQ_by (fun p : Nat × List Str × List Node × Rt × Rt => ([.int .i64 (p.1 : Nat)], [some (ndC 2 (decide (B.1 = 1)) p.2.1 p.2.2.2.1 p.2.2.1 p.2.2.2.2 0 [] .nil [])])) (fun m p S' => m = p.1 ∧ p.1 ≤ D.1 ∧ ∃ st' : RS, RdO S' rid wid st' ∧ Kp b S S' ∧ okA p.2.2.2.1 p.2.1 ∧ okA p.2.2.2.2 p.2.2.1 ∧ p.2.2.1.length = p.2.1.length ∧ st'.s.length ≤ st.s.length ∧
        (st'.bad = false → p.2.1.length + st'.s.length ≤ 1048576) ∧ (st'.bad = false → 0 ≤ st'.left) ∧ st'.left ≤ 1000000 ∧
        RS.items (RS.node f) D.1 D.2 = (p.2.1 ++ (RS.items (RS.node f) p.1 st').1, p.2.2.1 ++ (RS.items (RS.node f) p.1 st').2.1, (RS.items (RS.node f) p.1 st').2.2)) D.1 (D.1, [], [], .nil, .nil) rfl ⟨rfl, Nat.le_refl _, D.2, hR5, hK, .inl ⟨rfl, rfl⟩, .inl ⟨rfl, rfl⟩, rfl, by omega, fun _ => by simp; omega, fun _ => by omega, by omega, by simp⟩ ?_
      rintro m ⟨c, ns, its, r1, r2⟩ S6 v bx ⟨rfl, hc, st', hR6, hK6, hr1, hr2, hlen, hl5, hl7, hl8, hl9, he⟩ hv
      simp at hv hc hr1 hr2 hl7 hlen he
      obtain ⟨hv1, hv2⟩ := hv
      simp only [ndC] at hv2
      simp [hv1, hv2, loadA_ptr hR6.1, joinK_eq]
      have hend : RS.items (RS.node f) D.1 D.2 = (ns, its, st') → j (some (ndC 2 (decide (B.1 = 1)) ns r1 its r2 0 [] .nil [])) S6 := fun he => by
        rw [he] at hq
        exact hj 2 (decide (B.1 = 1)) ns r1 its r2 0 [] .nil [] S6 hr1 hr2 (.inl ⟨rfl, rfl⟩) (hq S6 hR6 hK6)
      by_cases cm : m = 0
      · subst cm
        rw [RS.items] at he
        have := hend (by simpa using he)
        simpa [ndC] using this
      have cm' : 0 < m := by omega
      cases hbd : st'.bad with
      | true =>
        have e : RS.items (RS.node f) m st' = ([], [], st') := by cases m <;> rw [RS.items]; rw [if_pos hbd]
        rw [e] at he
        have := hend (by simpa using he)
        simp [cm']
        simpa [ndC] using this
      | false =>
        obtain ⟨q, rfl⟩ : ∃ q, m = q + 1 := ⟨m - 1, by omega⟩
        have hl8 := hl8 hbd
        have hl7 := hl7 hbd
        simp
        rw [RS.items, if_neg (by rw [hbd]; simp)] at he
        simp only at he
        have hF := RS.text_lt (k := 1) (st := st')
        refine rtext_A hR6 hne hb (k := 1) (by omega) (by omega) (fun S7 hR7 hK7 => ?_)
        generalize RS.text 1 st' = F at hF hR7 he ⊢
        obtain ⟨f1, f2, f3, f4⟩ := hF
        obtain ⟨n1, n2⟩ := hr1.ne
        obtain ⟨n3, n4⟩ := hr2.ne
        have hlim : ns.length + 1 ≤ lim := by unfold lim; omega
        have hlim2 : its.length + 1 ≤ lim := by rw [hlen]; exact hlim
        simp [appendA, elemsA, n1, hlim]
        have hG := RS.node_ok f F.2 (by omega) (by omega)
        refine ih (by omega) (by omega) hR7 hne hb (by omega) (by omega) (by omega) (fun S8 hR8 hK8 => ?_)
        generalize RS.node f F.2 = G at hG hR8 he ⊢
        obtain ⟨g1, g2, g3, g4, g5, g6⟩ := hG
        simp [n3, hlim2]
        have hwr : IntKind.i64.wrap (q : Int) = (q : Int) := wrap64 (by omega) (by omega)
        refine ⟨_, (q, ns ++ [F.1], its ++ [G.1], .own (rowTy T_string r1), .own (rowTy T_api_Node r2)), Nat.lt_succ_self q, ?_, rfl, by show q ≤ D.1; omega, G.2, hR8, (hK6.trans hK7).trans hK8, .app, .app, by simp [hlen], by omega, ?_, g6, by omega, ?_⟩
        · simp [ndC, hwr]
        · intro hg
          have hF2 : F.2.bad = false := by
            cases hh : F.2.bad with
            | false => rfl
            | true => rw [g3 hh] at hg; cases hg
          have := f2 hF2 (by omega)
          simp; omega
        · rw [he]; simp
    rw [if_neg c2] at hq
    by_cases c3 : A.1 = 3
    · rw [if_pos c3] at hq
      simp only at hq
      simp [c3]
      refine rtext_A hR2 hne hb (k := 2) (by omega) (by omega) (fun S3 hR3 hK3 => ?_)
      simp
      have := hj 3 false [] .nil [] .nil 0 [] .nil (RS.text 2 A.2).1 S3 (.inl ⟨rfl, rfl⟩) (.inl ⟨rfl, rfl⟩) (.inl ⟨rfl, rfl⟩) (hq S3 hR3 ((hK1.trans hK2).trans hK3))
      simpa [ndC] using this
    · rw [if_neg c3] at hq
      simp only at hq
      simp [e1, e2, e3, c1, c2, c3]
      have := hj A.1 false [] .nil [] .nil 0 [] .nil [] S2 (.inl ⟨rfl, rfl⟩) (.inl ⟨rfl, rfl⟩) (.inl ⟨rfl, rfl⟩) (hq S2 hR2 (hK1.trans hK2))
      simpa [ndC] using this
end Go.Av
set_option linter.unusedVariables false
/-! Images: decoded. -/
namespace Go.Av
open Go.Proofs
theorem image_Decode_A {w0 : World} (hm : MaxL w0) {S : St} {s : Str} (hs : s.length ≤ 1048575) {Q : AV → St → Prop}
    (hq : ∀ S', Sx S S' → (∀ n, decS s = some n → n.ok → Q (.tup [.agg n.c, .int .i64 0]) S') ∧ (decS s = none → Q (.tup [.agg Node.none.c, .int .i64 1]) S')) : AC w0 F_image_Decode [.str s] S Q := by
  apply image_Decode_ok
  unfold G_image_Decode
  have hn0 : decS s = none → Q (.tup [.agg [.int .i64 0, .bool false, .vs 1 [] .nil, .vs 7 [] .nil, .int .i64 0, .vs 2 [] .nil, .str []], .int .i64 1]) S := fun h => by
    have := (hq S (Sx.refl _)).2 h
    rwa [Node.none_c] at this
  by_cases c1 : s.length < 7
  · have : decS s = none := by simp [decS, c1]
    simp [joinK_eq, show ¬ (4194304 < (s.length : Int)) by omega, show (s.length : Int) < 7 by omega]
    exact hn0 this
  by_cases c2 : s.take 7 = [115, 111, 99, 97, 103, 101, 49]
  case neg =>
    have : decS s = none := by simp [decS, c2]
    simp [joinK_eq, show ¬ (4194304 < (s.length : Int)) by omega, show ¬ (s.length : Int) < 7 by omega, show 7 ≤ s.length by omega, c2]
    exact hn0 this
  simp [joinK_eq, show ¬ (4194304 < (s.length : Int)) by omega, show ¬ (s.length : Int) < 7 by omega, show 7 ≤ s.length by omega, c2]
  apply wire_Read_ok
  unfold G_wire_Read
  simp
  have hR : RdO (S ++ [Obj.cells [.str (s.drop 7)] t_wire_Reader, Obj.cells [.ptr S.length 0, .bool false, .int .i64 4096] t_image_reader]) (S.length + 1) S.length ⟨s.drop 7, false, 4096⟩ := ⟨by simp, by simp [rdC]⟩
  have hl : (s.drop 7).length ≤ 1048568 := by simp; omega
  have hI := RS.node_ok 16 ⟨s.drop 7, false, 4096⟩ hl (by simp)
  refine image_node_A 16 (b := S.length) (d := 0) (by omega) (by simp) hR (by omega) (by omega) hl (by simp) (by simp) (fun S2 hR2 hK2 => ?_)
  have hd : decS s = if (RS.node 16 ⟨s.drop 7, false, 4096⟩).2.bad = false ∧ (RS.node 16 ⟨s.drop 7, false, 4096⟩).2.s = [] ∧ rightB (RS.node 16 ⟨s.drop 7, false, 4096⟩).1 = true then some (RS.node 16 ⟨s.drop 7, false, 4096⟩).1 else none := by
    rw [decS, if_neg (by simp [c1, c2]; omega)]
  generalize RS.node 16 ⟨s.drop 7, false, 4096⟩ = r at hR2 hd hI ⊢
  have hSx : Sx S S2 := fun j hj => by
    rw [hK2 j hj, List.getElem?_append_left hj]
  have hno : ∀ S3, Sx S S3 → decS s = none → Q (.tup [.agg [.int .i64 0, .bool false, .vs 1 [] .nil, .vs 7 [] .nil, .int .i64 0, .vs 2 [] .nil, .str []], .int .i64 1]) S3 := fun S3 h3 h => by
    have := (hq S3 h3).2 h
    rwa [Node.none_c] at this
  simp [loadA_ptr hR2.1]
  cases hb : r.2.bad with
  | true =>
    simp
    exact hno S2 hSx (by rw [hd, hb]; simp)
  | false =>
    simp
    have hR3 : S2[S.length]? = some (.cells [.str r.2.s] t_wire_Reader) := hR2.2
    apply wire_Reader_Left_ok
    unfold G_wire_Reader_Left
    simp [loadA_ptr hR3]
    by_cases c3 : r.2.s = []
    case neg =>
      have := List.length_pos_iff.2 c3
      simp [show (0 : Int) < r.2.s.length by omega, this]
      exact hno S2 hSx (by rw [hd]; simp [c3])
    simp [c3]
    refine tree_Right_A hm hI.ok (fun S3 hS3 => ?_)
    cases hr : rightB r.1 with
    | false =>
      simp
      exact hno S3 (hSx.trans hS3) (by rw [hd]; simp [hr])
    | true =>
      simp
      exact (hq S3 (hSx.trans hS3)).1 r.1 (by rw [hd, hb]; simp [hr, c3]) hI.ok
theorem ref02_Get_A {w0 : World} {S : St} {s : Str} (hs : s.length ≤ 4) {Q : AV → St → Prop} (hq : Q (.int .i64 (val s : Int)) S) : AC w0 F_ref02_Get [.str s] S Q := by
  apply ref02_Get_ok
  unfold G_ref02_Get
  simp [joinK_eq]
  refine loop_list s (fun i (_ : Unit) => ([.int .i64 (val (s.take i) : Nat), .int .i64 i], [])) (fun i _ S' => S' = S) () (by simp [val]) rfl ?_ ?_
  · rintro i _ S' v b x c hxi hd hc hm rfl hv
    simp at hv
    have hlt := val_lt (s.take i)
    have h4 : 256 ^ (s.take i).length ≤ 256 ^ 3 := Nat.pow_le_pow_right (by omega) (by rw [List.length_take]; omega)
    have h5 : (256 : Nat) ^ 3 = 16777216 := rfl
    have hx256 : x.toNat < 256 := x.toNat_lt
    simp [hv, hc, hxi]
    try simp (disch := omega) only [wrap64]
    try simp
    try simp (disch := omega) only [wrap64]
    exact .next c () (by rw [val_take hxi]; simp) rfl
  · rintro _ S' v b rfl hv N
    simp at hv
    simp [hv]
    exact hq
def numV (z : Str) (a k : Nat) : Int := match takeN k (z.drop a) with | some p => (p.1 : Int) | none => -1
theorem ref05_number_A {w0 : World} {S : St} {s : Str} {a k : Nat} {ai : Int} (ha : ai = a) (hk : 1 ≤ k ∧ k ≤ 4) (hl : a ≤ 1000000000) {Q : AV → St → Prop} (hq : Q (.int .i64 (numV s a k)) S) : AC w0 F_ref05_number [.str s, .int .i64 ai, .int .i64 k] S Q := by
  subst ha
  apply ref05_number_ok
  unfold G_ref05_number
  try simp (disch := omega) only [wrap64]
  simp [joinK_eq, show ¬ ((a : Int) < 0) by omega]
  unfold numV takeN at hq
  by_cases c : (s.drop a).length < k
  · rw [if_pos c] at hq
    simp at c
    simp [show ((s.length : Int) < (a : Int) + k) by omega]
    exact hq
  · rw [if_neg c] at hq
    simp at c
    simp [show ¬ ((s.length : Int) < (a : Int) + k) by omega]
    rw [cutStr_int _ _ _ _ _ (by omega) (by omega) (by omega)]
    simp
    have e : (s.take (a + k)).drop a = (s.drop a).take k := by rw [List.drop_take]; congr 1; omega
    have e0 : (((a : Int) + k).toNat) = a + k := by omega
    rw [e0, e]
    refine ref02_Get_A (by simp; omega) ?_
    exact hq
def gotC (o : Option (Node × Str)) (len : Nat) : List AV := match o with | some p => p.1.c ++ [.int .i64 ((len : Int) - p.2.length)] | none => Node.none.c ++ [.int .i64 (-1)]
theorem gotC_none (len : Nat) : gotC none len = [.int .i64 0, .bool false, .vs 1 [] .nil, .vs 7 [] .nil, .int .i64 0, .vs 2 [] .nil, .str [], .int .i64 (-1)] := by simp [gotC, Node.none_c]
theorem takeN_at {z : Str} {a k : Nat} (hk : 1 ≤ k) : takeN k (z.drop a) = if z.length < a + k then none else some (val ((z.drop a).take k), z.drop (a + k)) := by
  unfold takeN
  by_cases c : z.length < a + k
  · rw [if_pos c, if_pos (by simp; omega)]
  · rw [if_neg c, if_neg (by simp; omega), List.drop_drop]
theorem numV_none {z : Str} {a k : Nat} (hk : 1 ≤ k) (h : z.length < a + k) : numV z a k = -1 := by unfold numV; rw [takeN_at hk, if_pos h]
theorem numV_some {z : Str} {a k : Nat} (hk : 1 ≤ k) (h : ¬ z.length < a + k) : numV z a k = val ((z.drop a).take k) := by unfold numV; rw [takeN_at hk, if_neg h]
theorem takeT_at {z : Str} {a k : Nat} (hk : 1 ≤ k) : takeT k (z.drop a) = if z.length < a + k then none else if z.length < a + k + val ((z.drop a).take k) then none else some ((z.drop (a + k)).take (val ((z.drop a).take k)), z.drop (a + k + val ((z.drop a).take k))) := by
  unfold takeT
  rw [takeN_at hk]
  by_cases c : z.length < a + k
  · rw [if_pos c, if_pos c]; rfl
  · rw [if_neg c, if_neg c, Option.bind_some]
    simp only
    by_cases c2 : z.length < a + k + val ((z.drop a).take k)
    · rw [if_pos c2, if_pos (by simp; omega)]
    · rw [if_neg c2, if_neg (by simp; omega), List.drop_drop]
theorem val_bnd {z : Str} {k a : Nat} (h : k ≤ 4) : val ((z.drop a).take k) < 4294967296 := by
  have h1 := val_lt ((z.drop a).take k)
  have h2 : 256 ^ ((z.drop a).take k).length ≤ 256 ^ 4 := Nat.pow_le_pow_right (by omega) (by rw [List.length_take]; omega)
  rw [p4] at h2
  omega
theorem getP_sfx {f : Nat} {z r : Str} {n : Node} {a : Nat} (h : getP f (z.drop a) = some (n, r)) : r.length ≤ (z.drop a).length ∧ r = z.drop (a + ((z.drop a).length - r.length)) := by
  have := getP_of _ _ _ _ h
  have hl := congrArg List.length this
  rw [List.length_append] at hl
  refine ⟨by omega, ?_⟩
  rw [← List.drop_drop, hl, Nat.add_sub_cancel]
  conv => rhs; rw [this]
  rw [List.drop_left]
theorem cut_at {z : Str} {a n : Nat} {x y : Int} (hx : x = a) (hy : y = (a + n : Nat)) (h : a + n ≤ z.length) : cutStrA (.str z) (some (.int .i64 x)) (some (.int .i64 y)) = some (.str ((z.drop a).take n)) := by
  subst hx hy
  rw [cutStr_int _ _ _ _ _ (by omega) (by omega) (by omega)]
  simp only [Int.toNat_natCast]
  rw [List.drop_take, Nat.add_sub_cancel_left]
set_option maxRecDepth 100000 in
theorem ref05_get_A {w0 : World} : ∀ (f : Nat) {S : St} {Q : AV → St → Prop} {s : Str} {d : Int}, f ≤ 16 → d = 16 - (f : Int) → s.length ≤ 1048576 → Q (.agg (gotC (getP f s) s.length)) S → AC w0 F_ref05_get [.str s, .int .i64 d] S Q := by
  intro f
  induction f with
  | zero =>
    intro S Q s d hf hd hl hq
    apply ref05_get_ok
    unfold G_ref05_get
    rw [getP, gotC_none] at hq
    simp [joinK_eq, show (15 : Int) < d by omega]
    exact hq
  | succ f ih =>
    intro S Q s d hf hd hl hq
    apply ref05_get_ok
    unfold G_ref05_get
    have hd' : ¬ (15 : Int) < d := by omega
    cases s with
    | nil =>
      rw [getP, show takeN 1 ([] : Str) = none from rfl, Option.bind_none, gotC_none] at hq
      simp [joinK_eq, hd']
      exact hq
    | cons x s =>
    have hT : takeN 1 (x :: s) = some (x.toNat, s) := by simp [takeN, val]
    rw [getP, hT, Option.bind_some] at hq
    simp only at hq
    have hx256 : x.toNat < 256 := x.toNat_lt
    have e0 : IntKind.i64.wrap ((x.toNat : Nat) : Int) = ((x.toNat : Nat) : Int) := wrap64 (by omega) (by omega)
    have hsl : ¬ (((x :: s).length : Int) < 1) := by simp; omega
    simp only [hd', hsl, decide_false]
    rw [joinK_eq]
    simp [e0]
    refine joinK_gen (fun j => ∀ (at_ : Int) (y : Option (List AV)) (k : Int) (o : Bool) (ns : List Str) (nr : Rt) (its : List Node) (ir : Rt) (sz : Int) (es : List Ext) (er : Rt) (t : Str) (r : Str), okA nr ns → okA ir its → okA er es → at_ = (x :: s).length - r.length → (∃ zs, y = some zs ∧ zs.length = 8) →
      Q (.agg (gotC (some (Node.mk k o ⟨ns, cr ns⟩ its (cr its) sz es (cr es) t, r)) (x :: s).length)) S → j (.int .i64 at_) y (some (ndC k o ns nr its ir sz es er t)) S) ?_ (fun j hj => ?_)
    · rintro at_ y k o ns nr its ir sz es er t r g1 g2 g3 rfl ⟨zs, rfl, hz⟩ hQ
      simp only [gotC] at hQ
      rw [Node.c_eq'] at hQ
      simp at hQ
      have hzd : zs.drop 8 = [] := by simp; omega
      simp [ndC, hz, hzd]
      rw [g1.cr, g2.cr, g3.cr]
      have e1 : ∀ {α : Type} (l : List α), (cr l).strip = cr l := fun l => (cr_ok l).2.2
      rw [e1, e1, e1] at hQ
      exact hQ
    generalize hz : x :: s = z at hj hq hl ⊢
    have hzs : s = z.drop 1 := by rw [← hz]; rfl
    have hz1 : 1 ≤ z.length := by rw [← hz]; simp
    clear hz hT hsl
    subst hzs
    have e1 : ((x.toNat : Int) = 1) = (x.toNat = 1) := propext (by omega)
    have e2 : ((x.toNat : Int) = 2) = (x.toNat = 2) := propext (by omega)
    have e3 : ((x.toNat : Int) = 3) = (x.toNat = 3) := propext (by omega)
    have e4 : ((x.toNat : Int) = 4) = (x.toNat = 4) := propext (by omega)
    by_cases c1 : x.toNat = 1
    · rw [if_pos c1, takeN_at (by omega)] at hq
      simp [c1]
      refine ref05_number_A (a := 1) rfl (k := 4) (by omega) (by omega) ?_
      simp
      refine ref05_number_A (a := 5) rfl (k := 4) (by omega) (by omega) ?_
      by_cases d1 : z.length < 5 + 4
      · rw [numV_none (a := 5) (by omega) d1]
        have : Q (.agg (gotC none z.length)) S := by
          by_cases d2 : z.length < 1 + 4
          · rw [if_pos d2] at hq; exact hq
          · rw [if_neg d2, Option.bind_some] at hq
            simp only at hq
            rw [takeN_at (by omega), if_pos (by omega)] at hq
            exact hq
        rw [gotC_none] at this
        simp
        exact this
      rw [numV_some (a := 5) (by omega) d1, numV_some (a := 1) (by omega) (by omega)]
      rw [if_neg (by omega), Option.bind_some] at hq
      simp only at hq
      rw [show 1 + 4 = 5 from rfl, takeN_at (by omega), if_neg d1, Option.bind_some] at hq
      simp only at hq
      have hvb := val_bnd (z := z) (k := 4) (a := 5) (by omega)
      have hva := val_bnd (z := z) (k := 4) (a := 1) (by omega)
      generalize val ((z.drop 5).take 4) = c at hq hvb ⊢
      generalize val ((z.drop 1).take 4) = b at hq hva ⊢
      simp [show ¬ ((c : Int) < 0) by omega]
      refine loopQ_by (fun p : Nat × Nat × List Ext × Rt => ([.str z, .int .i64 (p.1 : Nat), .int .i64 (p.2.1 : Nat)], [some [.int .i64 0, .bool false, .vs 1 [] .nil, .vs 7 [] .nil, .int .i64 0, .vs 2 [] .nil, .str [], .int .i64 0], some [.int .i64 0, .bool false, .vs 1 [] .nil, .vs 7 [] .nil, .int .i64 0, .vs 2 [] .nil, .str [], .int .i64 (-1)], some (ndC 1 false [] .nil [] .nil b p.2.2.1 p.2.2.2 [])]))
        (fun m p S' => m = c - p.2.1 ∧ p.2.1 ≤ c ∧ S' = S ∧ p.1 ≤ z.length ∧ okA p.2.2.2 p.2.2.1 ∧ p.2.2.1.length ≤ p.2.1 ∧ getX c (z.drop 9) = (getX (c - p.2.1) (z.drop p.1)).bind fun e => some (p.2.2.1 ++ e.1, e.2)) c (9, 0, [], .nil) rfl ⟨rfl, by simp, rfl, by simp; omega, .inl ⟨rfl, rfl⟩, by simp, by simp; cases getX c (z.drop 9) <;> simp⟩ ?_
      rintro m ⟨a, i, l, r⟩ S' v bx ⟨rfl, hi, rfl, ha, hr, hli, he⟩ hv
      simp at hv hi ha hr hli he
      obtain ⟨hv1, hv2⟩ := hv
      simp only [ndC] at hv2
      simp [hv1, hv2]
      by_cases c3 : i < c
      case neg =>
        have : i = c := by omega
        subst this
        simp
        rw [Nat.sub_self, getX, Option.bind_some] at he
        simp at he
        rw [he, Option.bind_some] at hq
        have := hj (a : Int) (some [.int .i64 0, .bool false, .vs 1 [] .nil, .vs 7 [] .nil, .int .i64 0, .vs 2 [] .nil, .str [], .int .i64 0]) 1 false [] .nil [] .nil b l r [] (z.drop a) (.inl ⟨rfl, rfl⟩) (.inl ⟨rfl, rfl⟩) hr (by simp; omega) ⟨_, rfl, rfl⟩ hq
        simpa [ndC] using this
      simp [c3]
      refine ref05_number_A (a := a) rfl (k := 4) (by omega) (by omega) ?_
      simp
      try simp (disch := omega) only [wrap64]
      refine ref05_number_A (a := a + 4) (by omega) (k := 4) (by omega) (by omega) ?_
      simp
      obtain ⟨q, hq2⟩ : ∃ q, c - i = q + 1 := ⟨c - i - 1, by omega⟩
      rw [hq2, getX, takeN_at (by omega)] at he
      have hnone : getX c (z.drop 9) = none → Q (.agg [.int .i64 0, .bool false, .vs 1 [] .nil, .vs 7 [] .nil, .int .i64 0, .vs 2 [] .nil, .str [], .int .i64 (-1)]) S' := fun e => by
        rw [e, Option.bind_none, gotC_none] at hq
        exact hq
      by_cases d2 : z.length < a + 4 + 4
      · have := hnone (by
          by_cases d3 : z.length < a + 4
          · rw [if_pos d3] at he; exact he
          · rw [if_neg d3, Option.bind_some] at he
            simp only at he
            rw [takeT_at (by omega), if_pos d2] at he
            exact he)
        rw [numV_none (a := a + 4) (by omega) d2]
        simp [joinK_eq]
        exact this
      rw [if_neg (by omega), Option.bind_some] at he
      simp only at he
      rw [takeT_at (by omega), if_neg d2] at he
      rw [numV_some (a := a + 4) (by omega) d2, numV_some (a := a) (by omega) (by omega)]
      have hvo := val_bnd (z := z) (k := 4) (a := a) (by omega)
      have hvs := val_bnd (z := z) (k := 4) (a := a + 4) (by omega)
      generalize val ((z.drop (a + 4)).take 4) = sz at he hvs ⊢
      generalize val ((z.drop a).take 4) = off at he hvo ⊢
      simp [show ¬ ((sz : Int) < 0) by omega]
      try simp (disch := omega) only [wrap64]
      by_cases d4 : z.length < a + 4 + 4 + sz
      · have := hnone (by rw [if_pos d4] at he; exact he)
        simp [joinK_eq, show ((z.length : Int) < (a : Int) + 8 + sz) by omega]
        exact this
      rw [if_neg d4, Option.bind_some] at he
      simp only at he
      simp [joinK_eq, show ¬ ((z.length : Int) < (a : Int) + 8 + sz) by omega]
      have hcut := cut_at (z := z) (a := a + 8) (n := sz) (x := (a : Int) + 8) (y := (a : Int) + 8 + sz) (by omega) (by omega) (by omega)
      simp only [hcut]
      obtain ⟨n1, n2⟩ := hr.ne
      have hlim : l.length + 1 ≤ lim := by unfold lim; omega
      simp [appendA, elemsA, n1, hlim]
      try simp (disch := omega) only [wrap64]
      refine ⟨_, (a + 8 + sz, i + 1, l ++ [⟨off, (z.drop (a + 8)).take sz⟩], .own (rowTy T_api_Extent r)), by show c - (i + 1) < c - i; omega, by simp [ndC], rfl, by show i + 1 ≤ c; omega, rfl, by show a + 8 + sz ≤ z.length; omega, .app, by simp; omega, ?_⟩
      rw [he]
      simp only
      have e5 : c - (i + 1) = q := by omega
      rw [e5, show a + 4 + 4 = a + 8 from rfl]
      cases getX q (z.drop (a + 8 + sz)) with
      | none => rfl
      | some p => simp
    rw [if_neg c1] at hq
    by_cases c2 : x.toNat = 2
    · rw [if_pos c2, takeN_at (by omega)] at hq
      simp [c2]
      refine ref05_number_A (a := 2) rfl (k := 2) (by omega) (by omega) ?_
      have hnone0 : gotC none z.length = _ := gotC_none _
      by_cases d1 : z.length < 2 + 2
      · rw [numV_none (by omega) d1]
        have : Q (.agg (gotC none z.length)) S := by
          by_cases d2 : z.length < 1 + 1
          · rw [if_pos d2] at hq; exact hq
          · rw [if_neg d2, Option.bind_some] at hq
            simp only at hq
            rw [takeN_at (by omega), if_pos (by omega)] at hq
            exact hq
        rw [gotC_none] at this
        simp [joinK_eq]
        exact this
      rw [numV_some (by omega) d1]
      rw [if_neg (by omega), Option.bind_some] at hq
      simp only at hq
      rw [show 1 + 1 = 2 from rfl, takeN_at (by omega), if_neg d1, Option.bind_some] at hq
      simp only at hq
      have hvb : val ((z.drop 2).take 2) < 65536 := by
        have h1 := val_lt ((z.drop 2).take 2)
        have h2 : 256 ^ ((z.drop 2).take 2).length ≤ 256 ^ 2 := Nat.pow_le_pow_right (by omega) (by rw [List.length_take]; omega)
        rw [p2] at h2
        omega
      generalize val ((z.drop 2).take 2) = c at hq hvb ⊢
      obtain ⟨w, hw⟩ : ∃ w, z[1]? = some w := ⟨z[1]'(by omega), by simp [show 1 < z.length by omega]⟩
      have gw : z[1]'(by omega) = w := (List.getElem?_eq_some_iff.1 hw).2
      have hwv : val ((z.drop 1).take 1) = w.toNat := by
        have : (z.drop 1).take 1 = [w] := by
          rw [List.drop_eq_getElem_cons (by omega), gw]; simp
        rw [this]; simp [val]
      rw [hwv] at hq
      have hw256 : w.toNat < 256 := w.toNat_lt
      simp [joinK_eq, show ¬ ((c : Int) < 0) by omega, show 1 < z.length by omega, gw]
      by_cases d5 : 1 < w.toNat
      · rw [if_pos d5, gotC_none] at hq
        simp [show (1 : Int) < w.toNat by omega]
        exact hq
      rw [if_neg d5] at hq
      have ew : ((w.toNat : Int) = 1) = (w.toNat = 1) := propext (by omega)
      simp [show ¬ (1 : Int) < w.toNat by omega, ew]
      refine loopQ_by (fun p : Nat × Nat × (List Str × List Node) × Rt × Rt => ([.str z, .int .i64 (p.1 : Nat), .int .i64 (p.2.1 : Nat)], [some [.int .i64 0, .bool false, .vs 1 [] .nil, .vs 7 [] .nil, .int .i64 0, .vs 2 [] .nil, .str [], .int .i64 0], some [.int .i64 0, .bool false, .vs 1 [] .nil, .vs 7 [] .nil, .int .i64 0, .vs 2 [] .nil, .str [], .int .i64 (-1)], some (ndC 2 (decide (w.toNat = 1)) p.2.2.1.1 p.2.2.2.1 p.2.2.1.2 p.2.2.2.2 0 [] .nil [])]))
        (fun m p S' => m = c - p.2.1 ∧ p.2.1 ≤ c ∧ S' = S ∧ p.1 ≤ z.length ∧ okA p.2.2.2.1 p.2.2.1.1 ∧ okA p.2.2.2.2 p.2.2.1.2 ∧ p.2.2.1.1.length ≤ p.2.1 ∧ p.2.2.1.2.length ≤ p.2.1 ∧ getI (getP f) c (z.drop 4) = (getI (getP f) (c - p.2.1) (z.drop p.1)).bind fun e => some (p.2.2.1.1 ++ e.1, p.2.2.1.2 ++ e.2.1, e.2.2)) c (4, 0, ([], []), .nil, .nil) rfl ⟨rfl, by simp, rfl, by simp; omega, .inl ⟨rfl, rfl⟩, .inl ⟨rfl, rfl⟩, by simp, by simp, by simp; cases getI (getP f) c (z.drop 4) <;> simp⟩ ?_
      rintro m ⟨a, i, ⟨ns, its⟩, r1, r2⟩ S' v bx ⟨rfl, hi, rfl, ha, hr1, hr2, hli, hli2, he⟩ hv
      simp at hv hi ha hr1 hr2 hli hli2 he
      obtain ⟨hv1, hv2⟩ := hv
      simp only [ndC] at hv2
      simp [hv1, hv2]
      by_cases c3 : i < c
      case neg =>
        have : i = c := by omega
        subst this
        simp
        rw [Nat.sub_self, getI, Option.bind_some] at he
        simp at he
        rw [show 2 + 2 = 4 from rfl, he, Option.bind_some] at hq
        have := hj (a : Int) (some [.int .i64 0, .bool false, .vs 1 [] .nil, .vs 7 [] .nil, .int .i64 0, .vs 2 [] .nil, .str [], .int .i64 0]) 2 (decide (w.toNat = 1)) ns r1 its r2 0 [] .nil [] (z.drop a) hr1 hr2 (.inl ⟨rfl, rfl⟩) (by simp; omega) ⟨_, rfl, rfl⟩ hq
        simpa [ndC] using this
      simp [c3]
      refine ref05_number_A (a := a) rfl (k := 1) (by omega) (by omega) ?_
      obtain ⟨q, hq2⟩ : ∃ q, c - i = q + 1 := ⟨c - i - 1, by omega⟩
      rw [hq2, getI, takeT_at (by omega)] at he
      have hnone : getI (getP f) c (z.drop 4) = none → Q (.agg [.int .i64 0, .bool false, .vs 1 [] .nil, .vs 7 [] .nil, .int .i64 0, .vs 2 [] .nil, .str [], .int .i64 (-1)]) S' := fun e => by
        rw [show 2 + 2 = 4 from rfl, e, Option.bind_none, gotC_none] at hq
        exact hq
      by_cases d2 : z.length < a + 1
      · have := hnone (by rw [if_pos d2] at he; exact he)
        rw [numV_none (by omega) d2]
        simp
        exact this
      rw [if_neg d2] at he
      rw [numV_some (by omega) d2]
      have hvs : val ((z.drop a).take 1) < 256 := by
        have h1 := val_lt ((z.drop a).take 1)
        have h2 : 256 ^ ((z.drop a).take 1).length ≤ 256 ^ 1 := Nat.pow_le_pow_right (by omega) (by rw [List.length_take]; omega)
        rw [p1] at h2
        omega
      generalize val ((z.drop a).take 1) = sz at he hvs ⊢
      simp [show ¬ ((sz : Int) < 0) by omega]
      try simp (disch := omega) only [wrap64]
      by_cases d4 : z.length < a + 1 + sz
      · have := hnone (by rw [if_pos d4] at he; exact he)
        simp [show ((z.length : Int) < (a : Int) + 1 + sz) by omega]
        exact this
      rw [if_neg d4, Option.bind_some] at he
      simp only at he
      simp [show ¬ ((z.length : Int) < (a : Int) + 1 + sz) by omega]
      have hcut := cut_at (z := z) (a := a + 1) (n := sz) (x := (a : Int) + 1) (y := (a : Int) + 1 + sz) (by omega) (by omega) (by omega)
      simp only [hcut]
      obtain ⟨n1, n2⟩ := hr1.ne
      obtain ⟨n3, n4⟩ := hr2.ne
      have hlim : ns.length + 1 ≤ lim := by unfold lim; omega
      have hlim2 : its.length + 1 ≤ lim := by unfold lim; omega
      simp [appendA, elemsA, n1, hlim]
      have hcast : (a : Int) + 1 + sz = ((a + 1 + sz : Nat) : Int) := by omega
      rw [hcast, cutStr_l, if_pos (by omega)]
      simp
      try simp (disch := omega) only [wrap64]
      refine ih (by omega) (by omega) (by simp; omega) ?_
      cases hg : getP f (z.drop (a + 1 + sz)) with
      | none =>
        rw [hg, Option.bind_none] at he
        have := hnone he
        rw [gotC_none]
        simp
        exact this
      | some pr =>
        obtain ⟨y, rr⟩ := pr
        rw [hg, Option.bind_some] at he
        simp only at he
        obtain ⟨g1, g2⟩ := getP_sfx hg
        simp at g1 g2
        obtain ⟨L, hL⟩ : ∃ L, L = z.length - (a + 1 + sz) - rr.length := ⟨_, rfl⟩
        have hgc : gotC (some (y, rr)) (z.drop (a + 1 + sz)).length = y.c ++ [.int .i64 (L : Int)] := by
          simp only [gotC]
          congr 3
          simp; omega
        have q1 : (y.c ++ [AV.int .i64 (L : Int)]).length = 8 := by simp
        have q2 : (y.c ++ [AV.int .i64 (L : Int)])[7]? = some (.int .i64 (L : Int)) := by
          rw [List.getElem?_append_right (by simp)]; simp
        have q3 : (y.c ++ [AV.int .i64 (L : Int)]).take 7 = y.c := by
          rw [List.take_append_of_le_length (by simp)]; simp
        have q4 : (AV.agg (y.c ++ [AV.int .i64 (L : Int)])).free = true := by
          rw [Node.c_eq]; simp
        rw [hgc]
        generalize y.c ++ [AV.int .i64 (L : Int)] = G at q1 q2 q3 q4 ⊢
        have q5 : G[7]'(by omega) = .int .i64 (L : Int) := (List.getElem?_eq_some_iff.1 q2).2
        have q6 : (∀ x, x ∈ G → x.free1 = true) = True := eq_true (by simpa using q4)
        have q7 : G.drop 8 = [] := by simp; omega
        simp [q1, q3, q5, q6, q7, n3, hlim2, show ¬ ((L : Int) < 0) by omega]
        try simp (disch := omega) only [wrap64]
        refine ⟨_, (a + 1 + sz + L, i + 1, (ns ++ [(z.drop (a + 1)).take sz], its ++ [y]), .own (rowTy T_string r1), .own (rowTy T_api_Node r2)), by show c - (i + 1) < c - i; omega, by simp [ndC], rfl, by show i + 1 ≤ c; omega, rfl, by show a + 1 + sz + L ≤ z.length; omega, .app, .app, by simp; omega, by simp; omega, ?_⟩
        rw [he]
        simp only
        have e5 : c - (i + 1) = q := by omega
        rw [e5]
        have e6 : rr = z.drop (a + 1 + sz + L) := by rw [hL]; exact g2
        rw [← e6]
        cases getI (getP f) q rr with
        | none => rfl
        | some p => simp
    rw [if_neg c2] at hq
    by_cases c3 : x.toNat = 3
    · rw [if_pos c3, takeT_at (by omega)] at hq
      simp [c3]
      refine ref05_number_A (a := 1) rfl (k := 2) (by omega) (by omega) ?_
      by_cases d1 : z.length < 1 + 2
      · rw [if_pos d1, Option.bind_none, gotC_none] at hq
        rw [numV_none (by omega) d1]
        simp [joinK_eq]
        exact hq
      rw [if_neg d1] at hq
      rw [numV_some (by omega) d1]
      have hvb := val_bnd (z := z) (k := 2) (a := 1) (by omega)
      generalize val ((z.drop 1).take 2) = sz at hq hvb ⊢
      simp [joinK_eq, show ¬ ((sz : Int) < 0) by omega]
      try simp (disch := omega) only [wrap64]
      by_cases d4 : z.length < 1 + 2 + sz
      · rw [if_pos d4, Option.bind_none, gotC_none] at hq
        simp [show (((z.length - 1 : Nat) : Int) + 1 < (3 : Int) + sz) by omega]
        exact hq
      rw [if_neg d4, Option.bind_some] at hq
      simp only at hq
      have hcut := cut_at (z := z) (a := 3) (n := sz) (x := 3) (y := (3 : Int) + sz) (by omega) (by omega) (by omega)
      simp [show ¬ (((z.length - 1 : Nat) : Int) + 1 < (3 : Int) + sz) by omega, hcut]
      have := hj ((3 : Int) + sz) (some [.int .i64 0, .bool false, .vs 1 [] .nil, .vs 7 [] .nil, .int .i64 0, .vs 2 [] .nil, .str [], .int .i64 0]) 3 false [] .nil [] .nil 0 [] .nil ((z.drop 3).take sz) (z.drop (3 + sz)) (.inl ⟨rfl, rfl⟩) (.inl ⟨rfl, rfl⟩) (.inl ⟨rfl, rfl⟩) (by simp; omega) ⟨_, rfl, rfl⟩ hq
      simpa [ndC] using this
    rw [if_neg c3] at hq
    by_cases c4 : x.toNat = 4
    · rw [if_pos c4] at hq
      simp [c4]
      have := hj 1 (some [.int .i64 0, .bool false, .vs 1 [] .nil, .vs 7 [] .nil, .int .i64 0, .vs 2 [] .nil, .str [], .int .i64 0]) 4 false [] .nil [] .nil 0 [] .nil [] (z.drop 1) (.inl ⟨rfl, rfl⟩) (.inl ⟨rfl, rfl⟩) (.inl ⟨rfl, rfl⟩) (by simp; omega) ⟨_, rfl, rfl⟩ hq
      simpa [ndC] using this
    · rw [if_neg c4, gotC_none] at hq
      simp [e1, e2, e3, e4, c1, c2, c3, c4]
      exact hq
end Go.Av
