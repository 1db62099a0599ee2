/- Parts of the proofs of this seat: abstract values over the model, and what the functions of the program do. No condition. -/
import Derived.Test.YtcmiahkfbnojnaaM11
import Derived.Shelf.Lay
import Derived.Shelf.LaySoft
import Derived.Shelf.Strings.Builder1
import Derived.Shelf.Strings.Repeat
import Derived.DataReads
set_option linter.all false
set_option linter.unusedVariables false
/-! strings.Builder, strings.Repeat. -/
namespace Go.Proofs
open Go.Shelf Go.Av
shelf_lay Lays.n105 Nm 105 at Try as Try.lays105
theorem Try.Builder_Extra_105 : Builder.Extra Try.prog Try.lays105_ren where
  sizeBuilder := by kernel_rfl
  liesBuilder := by kernel_rfl
  t5 := un_uint8
  a5 := ag_uint8
  z5 := sz_uint8
  v5 := zv_uint8
  infoByte := by kernel_rfl
  cellsByte := by kernel_rfl
  sizeByte := by kernel_rfl
  neB5 := by decide
theorem Try.lays240 : Lays.n240 Try.prog Try.lays105_ren := let L := Try.lays105; { L with }
theorem Try.lays169 : Lays.n169 Try.prog Try.lays105_ren := let L := Try.lays105; { L with }
end Go.Proofs
namespace Go.Av
open Go.Proofs Go.Shelf
/-- A builder that holds l. -/
def Bld (S : St) (id : Nat) (l : Str) : Prop :=
  ∃ c r, S[id]? = some (.cells [c, .vs 1 (byteCells l) r] t_strings_Builder) ∧ (c = .nil ∨ c = .ptr id 0) ∧ (r = .nil ∧ l = [] ∨ r = .own t_uint8 ∧ l ≠ [])
theorem copyCheck_A' {w0 : World} {S : St} {id : Nat} {c buf : AV} (hS : S[id]? = some (.cells [c, buf] t_strings_Builder)) (hc : c = .nil ∨ c = .ptr id 0) {Q : AV → St → Prop} (hq : ∀ r, Q r (S.set id (.cells [.ptr id 0, buf] t_strings_Builder))) :
    AC w0 F_strings_Builder_copyCheck [.ptr id 0] S Q :=
  AC_mono (copyCheck_A (E := En w0) Try.lays240 Try.Builder_Extra_105.toX72 (by decide) hS hc) (by rintro r S' rfl; exact hq r)
theorem Repeat_A {w0 : World} {S : St} {l : List UInt8} {c : Nat} (hc : c ≤ 9223372036854775807) (hl : l.length * c ≤ 140737488355328) {Q : AV → St → Prop} (hq : Q (.str (Lib.repeatL l c)) S) :
    AC w0 F_strings_Repeat [.str l, .int .i64 c] S Q := by
  refine ACalls.of_below fn_strings_Repeat (by kernel_rfl) (by kernel_rfl) fun G w args' hl' ha => ?_
  obtain ⟨v, u, rfl⟩ : ∃ v u, args' = #[v, u] := by
    match args', hl' with
    | ⟨[v, u]⟩, _ => exact ⟨v, u, rfl⟩
  have h0 := ha 0 _ v rfl rfl
  have h1 := ha 1 _ u rfl rfl
  cases h0
  cases h1
  refine (Any.strings_Repeat Try.lays105 Try.Builder_Extra_105 ⟨l.toArray⟩ c w hc (by simpa [ByteArray.size] using hl)).mono ?_
  rintro e w' ⟨rfl, hb⟩
  exact ⟨_, _, rfl, hb, .str _, rfl, hq⟩
theorem repeatL_one (x : UInt8) (n : Nat) : Lib.repeatL [x] n = List.replicate n x := by
  induction n with
  | zero => rfl
  | succ n ih => simp [Lib.repeatL, ih, List.replicate_succ]
theorem Bld.lt {S : St} {id : Nat} {l : Str} (h : Bld S id l) : id < S.length := by
  obtain ⟨c, r, h, _⟩ := h
  exact (List.getElem?_eq_some_iff.1 h).1
theorem Builder_Len_A {w0 : World} {S : St} {id : Nat} {l : Str} (h : Bld S id l) {Q : AV → St → Prop} (hq : Q (.int .i64 (l.length : Int)) S) : AC w0 F_strings_Builder_Len [.ptr id 0] S Q := by
  obtain ⟨c, r, h, hc, hr⟩ := h
  apply strings_Builder_Len_ok
  unfold G_strings_Builder_Len
  simpa [loadA_ptr h, byteCells] using hq
theorem Builder_WriteString_A {w0 : World} {S : St} {id : Nat} {l s : Str} (h : Bld S id l) (hl : l.length + s.length ≤ lim) {Q : AV → St → Prop}
    (hq : ∀ r S', S'.length = S.length → (∀ j, j ≠ id → S'[j]? = S[j]?) → Bld S' id (l ++ s) → Q r S') : AC w0 F_strings_Builder_WriteString [.ptr id 0, .str s] S Q := by
  obtain ⟨c, r, h, hc, hr⟩ := h
  apply strings_Builder_WriteString_ok
  unfold G_strings_Builder_WriteString
  refine copyCheck_A' h hc fun _ => ?_
  have e1 := getSet_self (o' := .cells [.ptr id 0, .vs 1 (byteCells l) r] t_strings_Builder) h
  have e2 := getSet_self (o' := .cells [.ptr id 0, .vs 1 (byteCells l) r.strip] t_strings_Builder) e1
  simp [loadA_ptr e1, stripMem_ptr e1]
  by_cases hs : s = []
  · subst hs
    simp [appendA, elemsA]
    rw [storeA_ptr (getSet_self h)]
    simp
    refine hq _ _ (by simp) (fun j hj => getSet_other (Ne.symm hj)) ⟨_, r, by rw [getSet_self h]; simp, .inr rfl, by simpa using hr⟩
  · have hra : (r ≠ .none ∧ (r = .nil ∨ True)) ∧ rowTy T_uint8 r = t_uint8 := by
      rcases hr with ⟨rfl, _⟩ | ⟨rfl, _⟩ <;> simp [rowTy]
    have hlen : (byteCells l).length + s.length ≤ lim := by simpa [byteCells] using hl
    simp [appendA, elemsA, hs, hra.1.1, hlen, hra.2]
    rw [storeA_ptr (getSet_self h)]
    simp
    refine hq _ _ (by simp) (fun j hj => getSet_other (Ne.symm hj)) ⟨_, .own t_uint8, ?_, .inr rfl, .inr ⟨rfl, by simp [hs]⟩⟩
    rw [getSet_self h]
    simp [byteCells]
theorem Builder_String_A {w0 : World} {S : St} {id : Nat} {l : Str} (h : Bld S id l) (h63 : l.length ≤ lim) {Q : AV → St → Prop}
    (hq : ∀ S', S'.length = S.length → (∀ j, j ≠ id → S'[j]? = S[j]?) → Q (.str l) S') : AC w0 F_strings_Builder_String [.ptr id 0] S Q := by
  obtain ⟨c, r, h, hc, hr⟩ := h
  rcases hr with ⟨rfl, rfl⟩ | ⟨rfl, h0⟩
  · refine AC_mono (String_nil_A (E := En w0) Try.lays169 Try.Builder_Extra_105 (by decide) h) ?_
    rintro r S' ⟨rfl, rfl⟩
    exact hq _ rfl fun _ _ => rfl
  · refine AC_mono (String_A (E := En w0) Try.lays169 Try.Builder_Extra_105 (by decide) (by decide) h0 (by unfold lim at h63; omega) h) ?_
    rintro r S' ⟨rfl, rfl⟩
    exact hq _ (by simp) fun j hj => getSet_other (Ne.symm hj)
theorem Bld_new (S : St) : Bld (S ++ [.cells T_strings_Builder.zero t_strings_Builder]) S.length [] := ⟨.nil, .nil, by simp [byteCells], .inl rfl, .inl ⟨rfl, rfl⟩⟩
theorem Bld_keep {S S' : St} {id : Nat} {l : Str} (h : Bld S id l) (e : S'[id]? = S[id]?) : Bld S' id l := by
  obtain ⟨c, r, h, h2⟩ := h
  exact ⟨c, r, e.trans h, h2⟩
end Go.Av
set_option linter.unusedVariables false
/-! Extents. -/
namespace Go.Av
open Go.Proofs
/-- Extents, each behind the one ahead of it, none empty, none beyond the end. -/
def extChain (size : Int) : Int → List Ext → Bool
  | _, [] => true
  | at_, x :: l => decide (at_ ≤ x.off ∧ x.data ≠ [] ∧ x.off + x.data.length ≤ size) && extChain size (x.off + x.data.length) l
def extOk (size : Int) (l : List Ext) : Bool := decide (0 ≤ size ∧ size ≤ 1048576) && extChain size 0 l
def ExtB (l : List Ext) : Prop := (∀ x ∈ l, -9223372036854775808 ≤ x.off ∧ x.off ≤ 9223372036854775807 ∧ x.data.length ≤ 1000000000000000) ∧ l.length ≤ 1000000000000000

theorem extent_Right_A {w0 : World} {size : Int} {l : List Ext} {r : Rt} {S : St} {Q : AV → St → Prop} (hs : -9223372036854775808 ≤ size ∧ size ≤ 9223372036854775807) (hb : ExtB l)
   (hq : Q (.bool (extOk size l)) S) : AC w0 F_extent_Right [.int .i64 size, .vs 2 (l.map Ext.c) r] S Q := by
  apply extent_Right_ok
  unfold G_extent_Right
  simp
  rw [joinK_eq]
  obtain ⟨hb1, hb2⟩ := hb
  by_cases hneg : size < 0
  · have hf : extOk size l = false := by simp [extOk]; omega
    rw [hf] at hq
    refine loop_list l (fun i at_ => ([.int .i64 at_, .int .i64 i], [])) (fun i at_ S' => S' = S) 0 rfl rfl ?_ ?_
    · rintro i at_ S' v b x c hxi hd hc hm rfl hv
      simp at hv
      simp [hv, hc, hxi]
      refine ifK_b (fun h => hq) (fun h => ?_)
      try simp (disch := omega) only [wrap64]
      exact .next c _ rfl rfl
    · rintro at_ S' v b rfl hv N
      simp at hv
      simpa [hv, show ¬ 0 ≤ size by omega] using hq
  refine loop_list l (fun i at_ => ([.int .i64 at_, .int .i64 i], [])) (fun i at_ S' => S' = S ∧ 0 ≤ at_ ∧ extChain size 0 l = extChain size at_ (l.drop i)) 0 rfl (by simp) ?_ ?_
  · rintro i at_ S' v b x c hxi hd hc hm ⟨rfl, h0, hx⟩ hv
    simp at hv
    obtain ⟨h1, h2, h3⟩ := hb1 x hm
    simp [hv, hc, hxi]
    rw [hd, extChain] at hx
    by_cases c1 : x.off < at_
    · have : extOk size l = false := by simp [extOk, hx]; omega
      simpa [c1, this] using hq
    by_cases c2 : x.data = []
    · have : extOk size l = false := by simp [extOk, hx, c2]
      simpa [c1, c2, this] using hq
    try simp (disch := omega) only [wrap64]
    by_cases c3 : size - x.off < x.data.length
    · have : extOk size l = false := by simp [extOk, hx]; omega
      simpa [c1, c2, c3, this] using hq
    simp [c1, c2, c3]
    try simp (disch := omega) only [wrap64]
    exact .next c _ rfl ⟨rfl, by omega, by simp [hx, c2]; omega⟩
  · rintro at_ S' v b ⟨rfl, h0, hx⟩ hv N
    simp at hv
    simp [hv]
    simpa [extOk, hx, extChain] using hq
/-- Where the extents ahead of place i end. -/
def endAt (l : List Ext) (i : Nat) : Int := if i = 0 then 0 else match l[i - 1]? with | some x => x.off + x.data.length | none => 0
theorem ref03_Right_A {w0 : World} {size : Int} {l : List Ext} {r : Rt} {S : St} {Q : AV → St → Prop} (hs : -9223372036854775808 ≤ size ∧ size ≤ 9223372036854775807) (hb : ExtB l)
   (hq : Q (.bool (extOk size l)) S) : AC w0 F_ref03_Right [.int .i64 size, .vs 2 (l.map Ext.c) r] S Q := by
  apply ref03_Right_ok
  unfold G_ref03_Right
  simp
  obtain ⟨hb1, hb2⟩ := hb
  refine ifK_b (fun h => ?_) (fun h => ?_) <;> simp at h
  · have : extOk size l = false := by simp [extOk]; omega
    rwa [this] at hq
  rw [joinK_eq]
  refine loop_list l (fun i (_ : Unit) => ([.int .i64 i], [])) (fun i _ S' => S' = S ∧ (0 ≤ endAt l i ∧ endAt l i ≤ size) ∧ extChain size 0 l = extChain size (endAt l i) (l.drop i)) () rfl (by simp [endAt]; omega) ?_ ?_
  · rintro i _ S' v b x c hxi hd hc hm ⟨rfl, h0, hx⟩ hv
    simp at hv
    obtain ⟨h1, h2, h3⟩ := hb1 x hm
    simp [hv, hc, hxi]
    rw [hd, extChain] at hx
    by_cases c1 : x.off < 0
    · have : extOk size l = false := by simp [extOk, hx]; omega
      simpa [c1, this] using hq
    by_cases c2 : size < x.off
    · have : extOk size l = false := by simp [extOk, hx]; omega
      simpa [c1, c2, this] using hq
    by_cases c3 : x.data = []
    · have : extOk size l = false := by simp [extOk, hx, c3]
      simpa [c1, c2, c3, this] using hq
    have c3' : ¬ ((x.data.length : Int) < 1) := by have := List.length_pos_iff.2 c3; omega
    simp [c1, c2, c3, c3']
    try simp (disch := omega) only [wrap64]
    by_cases c4 : size < x.off + x.data.length
    · have : extOk size l = false := by simp [extOk, hx]; omega
      simpa [c4, this] using hq
    simp [c4]
    cases i with
    | zero =>
      simp [endAt] at h0 hx ⊢
      refine .next c () rfl ⟨rfl, ?_⟩
      simp [endAt] at hxi ⊢
      simp [hxi, hx, c3]
      omega
    | succ i =>
      obtain ⟨y, hyi⟩ : ∃ y, l[i]? = some y := ⟨l[i]'(by omega), by simp⟩
      obtain ⟨g1, g2, g3⟩ := hb1 y (List.mem_of_getElem? hyi)
      simp [endAt, hyi] at h0 hx ⊢
      try simp (disch := omega) only [wrap64]
      by_cases c5 : x.off < y.off + y.data.length
      · have : extOk size l = false := by simp [extOk, hx]; omega
        simpa [c5, this] using hq
      simp [c5]
      refine .next c () (by simp) ⟨rfl, ?_⟩
      simp [endAt, hxi, hx, c3]
      omega
  · rintro _ S' v b ⟨rfl, h0, hx⟩ hv N
    simp at hv
    simp [hv]
    have : extOk size l = true := by simp [extOk, hx, extChain]; omega
    rwa [this] at hq

/-- The byte at a place. -/
def atE : List Ext → Int → UInt8
  | [], _ => 0
  | x :: l, p => if x.off ≤ p ∧ p < x.off + x.data.length then x.data.getD (p - x.off).toNat 0 else atE l p
theorem ref03_At_A {w0 : World} {l : List Ext} {r : Rt} {p : Int} {S : St} {Q : AV → St → Prop} (hl : ∀ x ∈ l, 0 ≤ x.off ∧ x.off + x.data.length ≤ 1048576) (hp : 0 ≤ p ∧ p ≤ 1048576) (hn : l.length ≤ 1000000000000000)
   (hq : Q (.int .u8 (atE l p).toNat) S) : AC w0 F_ref03_At [.vs 2 (l.map Ext.c) r, .int .i64 p] S Q := by
  apply ref03_At_ok
  unfold G_ref03_At
  simp
  rw [joinK_eq]
  refine loop_list l (fun i (_ : Unit) => ([.int .i64 i], [])) (fun i _ S' => S' = S ∧ atE l p = atE (l.drop i) p) () rfl (by simp) ?_ ?_
  · rintro i _ S' v b x c hxi hd hc hm ⟨rfl, hx⟩ hv
    simp at hv
    obtain ⟨h1, h2⟩ := hl x hm
    simp [hv, hc, hxi]
    rw [hd, atE] at hx
    by_cases c1 : x.off ≤ p
    case neg =>
      simp [c1] at hx ⊢
      try simp (disch := omega) only [wrap64]
      exact .next c () rfl ⟨rfl, hx⟩
    simp [c1]
    try simp (disch := omega) only [wrap64]
    by_cases c2 : p < x.off + x.data.length
    case neg =>
      simp [c2] at hx ⊢
      try simp (disch := omega) only [wrap64]
      exact .next c () rfl ⟨rfl, hx⟩
    simp [c2, c1] at hx ⊢
    obtain ⟨k, hk⟩ : ∃ k : Nat, p - x.off = k := ⟨(p - x.off).toNat, by omega⟩
    have hk2 : k < x.data.length := by omega
    try simp (disch := omega) only [wrap64]
    simp [hk, hk2] at hx ⊢
    rwa [hx] at hq
  · rintro _ S' v b ⟨rfl, hx⟩ hv N
    simp at hv
    simp [hv]
    rw [hx] at hq
    simpa [atE] using hq
theorem bytesOf_byteCells (l : Str) : bytesOf (byteCells l) = some l := by
  induction l with
  | nil => rfl
  | cons x l ih =>
    simp only [byteCells, List.map_cons] at ih ⊢
    simp only [bytesOf, ih]
    simp
/-- What is read. -/
def readE (size : Int) (l : List Ext) (off n : Int) : Str := if off < 0 then [] else (List.range (min n (size - off)).toNat).map fun i : Nat => atE l (off + (i : Int))
theorem ref03_Read_A {w0 : World} {size : Int} {l : List Ext} {r : Rt} {off n : Int} {S : St} {Q : AV → St → Prop} (hl : ∀ x ∈ l, 0 ≤ x.off ∧ x.off + x.data.length ≤ 1048576) (hn : l.length ≤ 1000000000000000)
   (hs : 0 ≤ size ∧ size ≤ 1048576) (ho : off ≤ 9223372036854775807) (hq : Q (.str (readE size l off n)) S) : AC w0 F_ref03_Read [.int .i64 size, .vs 2 (l.map Ext.c) r, .int .i64 off, .int .i64 n] S Q := by
  apply ref03_Read_ok
  unfold G_ref03_Read
  simp
  refine ifK_b (fun h => ?_) (fun h => ?_) <;> simp at h
  · simpa [readE, h] using hq
  refine joinK_gen (fun j => ∀ r : Rt, j (.vs 1 (byteCells (readE size l off n)) r) S) (fun r => ?_) (fun j hj => ?_)
  · simpa [convBytesA, bytesOf_byteCells] using hq
  refine loopQ_by (fun s : Nat × Rt => ([.vs 1 (byteCells ((List.range s.1).map fun i : Nat => atE l (off + (i : Int)))) s.2, .int .i64 s.1], []))
    (fun k s S' => S' = S ∧ s.2 ≠ .none ∧ s.1 ≤ (min n (size - off)).toNat ∧ k = (min n (size - off)).toNat - s.1) _ (0, .full) rfl ⟨rfl, by simp, by simp, rfl⟩ ?_
  rintro k ⟨i, r⟩ S' v b ⟨rfl, hr, hi, rfl⟩ hv
  simp at hv hi hr
  simp [hv]
  simp (disch := omega) only [wrap64]
  by_cases c : (i : Int) < n ∧ (i : Int) < size - off
  · simp [c]
    try simp (disch := omega) only [wrap64]
    refine ref03_At_A hl (by omega) hn ?_
    simp [byteCells, elemsA, appendA, hr, show i + 1 ≤ lim by unfold lim; omega]
    refine ⟨_, (i + 1, .own (rowTy T_uint8 r)), ?_, ?_, rfl, by simp, by simp; omega, rfl⟩
    · simp; omega
    · simp [byteCells, List.range_succ]
  · have : i = (min n (size - off)).toNat := by omega
    have hc : (decide ((i : Int) < n) && decide ((i : Int) < size - off)) = false := by simp; omega
    simp [hc]
    have := hj r
    simpa [readE, show ¬ off < 0 by omega, ← ‹i = _›] using this

def totE (l : List Ext) : Nat := (l.map fun x => x.data.length + 1).sum
theorem totE_take (l : List Ext) {i : Nat} {x : Ext} (h : l[i]? = some x) : totE (l.take (i + 1)) = totE (l.take i) + (x.data.length + 1) := by
  have hi := (List.getElem?_eq_some_iff.1 h).1
  rw [List.take_succ, h]
  simp [totE]
theorem totE_app (a b : List Ext) : totE (a ++ b) = totE a + totE b := by simp [totE]
theorem totE_le (l : List Ext) (i : Nat) : totE (l.take i) ≤ totE l := by
  have := totE_app (l.take i) (l.drop i)
  rw [List.take_append_drop] at this
  omega
theorem law03_big_A {w0 : World} {l : List Ext} {r : Rt} {S : St} {Q : AV → St → Prop} (hb : ExtB l) (hq : Q (.bool (decide (500 < totE l))) S) : AC w0 F_law03_big [.vs 2 (l.map Ext.c) r] S Q := by
  apply law03_big_ok
  unfold G_law03_big
  simp
  rw [joinK_eq]
  obtain ⟨hb1, hb2⟩ := hb
  refine loop_list l (fun i (_ : Unit) => ([.int .i64 (totE (l.take i) : Int), .int .i64 i], [])) (fun i _ S' => S' = S ∧ totE (l.take i) ≤ 500) () rfl ⟨rfl, by simp [totE]⟩ ?_ ?_
  · rintro i _ S' v b x c hxi hd hc hm ⟨rfl, h0⟩ hv
    simp at hv
    obtain ⟨h1, h2, h3⟩ := hb1 x hm
    simp [hv, hc, hxi]
    try simp (disch := omega) only [wrap64]
    have ht := totE_take l hxi
    have hle := totE_le l (i + 1)
    refine ifK_b (fun h => ?_) (fun h => ?_) <;> simp at h
    · have : decide (500 < totE l) = true := by simp; omega
      rwa [this] at hq
    · try simp (disch := omega) only [wrap64]
      exact .next c () (by simp [ht]) ⟨rfl, by omega⟩
  · rintro _ S' v b ⟨rfl, h0⟩ hv N
    simp at hv h0
    simp [hv]
    have : decide (500 < totE l) = false := by simp; omega
    rwa [this] at hq

/-- The extents of bytes, from place i on. -/
def ofE (i : Nat) (s : Str) : List Ext :=
  if h : s = [] then [] else
    (if s.takeWhile (· != 0) = [] then [] else [⟨i, s.takeWhile (· != 0)⟩]) ++ ofE (i + (s.takeWhile (· != 0)).length + 1) (s.drop ((s.takeWhile (· != 0)).length + 1))
termination_by s.length
decreasing_by
  have : 0 < s.length := List.length_pos_iff.2 h
  simp; omega
theorem takeWhile_pos {p : UInt8 → Bool} : ∀ {s : Str} {j : Nat}, j < (s.takeWhile p).length → ∃ x, s[j]? = some x ∧ p x = true
  | [], j, h => by simp at h
  | x :: s, j, h => by
    by_cases c : p x = true
    · rw [List.takeWhile_cons_of_pos c] at h
      cases j with
      | zero => exact ⟨x, rfl, c⟩
      | succ j => obtain ⟨y, h1, h2⟩ := takeWhile_pos (s := s) (j := j) (by simpa using h); exact ⟨y, by simpa using h1, h2⟩
    · rw [List.takeWhile_cons_of_neg c] at h; simp at h
theorem takeWhile_end {p : UInt8 → Bool} : ∀ {s : Str} {x : UInt8}, s[(s.takeWhile p).length]? = some x → p x = false
  | [], x, h => by simp at h
  | y :: s, x, h => by
    by_cases c : p y = true
    · rw [List.takeWhile_cons_of_pos c] at h
      exact takeWhile_end (s := s) (by simpa using h)
    · rw [List.takeWhile_cons_of_neg c] at h
      simp at h; subst h; simpa using c
theorem take_takeWhile {p : UInt8 → Bool} (s : Str) : s.take (s.takeWhile p).length = s.takeWhile p :=
  (List.prefix_iff_eq_take.1 (List.takeWhile_prefix p)).symm
theorem len_takeWhile {p : UInt8 → Bool} (s : Str) : (s.takeWhile p).length ≤ s.length := (List.takeWhile_prefix p).length_le
theorem extent_Of_A {w0 : World} {s : Str} {S : St} {Q : AV → St → Prop} (hl : s.length ≤ 1000000000) (hq : ∀ r, r = .nil ∨ r = .none → Q (.vs 2 ((ofE 0 s).map Ext.c) r) S) : AC w0 F_extent_Of [.str s] S Q := by
  apply extent_Of_ok
  unfold G_extent_Of
  simp
  refine joinK_gen (fun j => ∀ r : Rt, r = .nil ∨ r = .own 0 ∨ r = .own t_api_Extent → j (.vs 2 ((ofE 0 s).map Ext.c) r) S) (fun r hr => ?_) (fun j4 hj4 => ?_)
  · rcases hr with rfl | rfl | rfl <;> simp [hq]
  refine loopQ_by (fun s' : Nat × List Ext × Rt => ([.str s, .vs 2 (s'.2.1.map Ext.c) s'.2.2, .int .i64 s'.1], []))
    (fun k s' S' => S' = S ∧ (s'.2.2 = .nil ∨ s'.2.2 = .own 0 ∨ s'.2.2 = .own t_api_Extent) ∧ s'.2.1 ++ ofE s'.1 (s.drop s'.1) = ofE 0 s ∧ s'.1 ≤ s.length + 1 ∧ k = s.length + 1 - s'.1 ∧ s'.2.1.length ≤ s'.1) _ (0, [], .nil) rfl ⟨rfl, by simp, by simp, by simp, rfl, by simp⟩ ?_
  rintro k ⟨i, out, r⟩ S' v b ⟨rfl, hr, ho, hi, rfl, hol⟩ hv
  simp at hv hr ho hi hol
  simp [hv]
  by_cases c : i < s.length
  case neg =>
    have : s.drop i = [] := by simp; omega
    rw [this, ofE] at ho
    simp at ho
    subst ho
    simpa [c] using hj4 r hr
  simp [c]
  have hne : s.drop i ≠ [] := by simp; omega
  generalize hrun : (s.drop i).takeWhile (· != 0) = run at *
  have hrl : run.length ≤ s.length - i := by have := len_takeWhile (p := (· != 0)) (s.drop i); rw [hrun] at this; simpa using this
  obtain ⟨k, hk⟩ : ∃ k, k = i + run.length := ⟨_, rfl⟩
  refine joinK_gen (fun j => j (.int .i64 (k : Int)) S') ?_ (fun j3 hj3 => ?_)
  · rw [ofE] at ho
    simp only [hne, dite_false, hrun, List.drop_drop] at ho
    rw [show i + (run.length + 1) = k + 1 by omega, show i + run.length + 1 = k + 1 by omega] at ho
    by_cases ce : run = []
    · have hki : k = i := by rw [hk, ce]; rfl
      subst hki
      simp [ce] at ho ⊢
      try simp (disch := omega) only [wrap64]
      exact ⟨_, (k + 1, out, r), by show s.length + 1 - (k + 1) < _; omega, rfl, rfl, hr, ho, by show k + 1 ≤ _; omega, rfl, by show out.length ≤ k + 1; omega⟩
    · have hpos := List.length_pos_iff.2 ce
      have hcut : (s.take k).drop i = run := by
        rw [List.drop_take, show k - i = run.length by omega, ← hrun, take_takeWhile]
      have hle : k ≤ s.length ∧ i ≤ k := by omega
      have hlt : i < k := by omega
      have hr' : r ≠ .none ∧ (r = .nil ∨ True) := by rcases hr with rfl | rfl | rfl <;> simp
      have hol' : out.length + 1 ≤ lim := by unfold lim; omega
      simp [hlt, hle, hcut, ce, appendA, elemsA, hr'.1, hol'] at ho ⊢
      try simp (disch := omega) only [wrap64]
      refine ⟨_, (k + 1, out ++ [⟨i, run⟩], .own (rowTy T_api_Extent r)), by show s.length + 1 - (k + 1) < _; omega, ?_, rfl, ?_, by simpa using ho, by show k + 1 ≤ _; omega, rfl, by simp; omega⟩
      · simp
      · rcases hr with rfl | rfl | rfl <;> simp [rowTy]
  · refine loopQ_by (fun q : Nat => ([.int .i64 q], [])) (fun m q S2 => S2 = S' ∧ i ≤ q ∧ q ≤ k ∧ m = k - q) _ i rfl ⟨rfl, by omega, by omega, rfl⟩ ?_
    rintro m q S2 v2 b2 ⟨rfl, h1, h2, rfl⟩ hv2
    simp at hv2
    simp [hv2]
    by_cases c2 : q < s.length
    case neg =>
      have : q = k := by omega
      subst this
      simpa [c2] using hj3
    by_cases c3 : q = k
    · subst c3
      have := takeWhile_end (p := (· != 0)) (s := s.drop i) (x := s[q]) (by rw [hrun]; simp [← hk, c2])
      simp at this
      simpa [c2, this] using hj3
    · obtain ⟨x, hx, hx2⟩ := takeWhile_pos (p := (· != 0)) (s := s.drop i) (j := q - i) (by rw [hrun]; omega)
      have hx' : s[q]? = some x := by simpa [show i + (q - i) = q by omega] using hx
      simp at hx2
      have hx3 : ¬ x.toNat = 0 := fun e => hx2 (by apply UInt8.toNat_inj.1; simpa using e)
      have hx4 : s[q] = x := by simpa [c2] using hx'
      simp [c2, hx4, hx3]
      try simp (disch := omega) only [wrap64]
      exact ⟨_, q + 1, by show k - (q + 1) < _; omega, rfl, rfl, by omega, by omega, rfl⟩

/-- One more extent is read. -/
def rFrom (off : Int) (out : Str) (x : Ext) : Int := if off + out.length > x.off then off + out.length else x.off
def rTo (off m : Int) (x : Ext) : Int := if off + m < x.off + x.data.length then off + m else x.off + x.data.length
def readStep (off m : Int) (out : Str) (x : Ext) : Str :=
  if rFrom off out x ≥ rTo off m x then out else
    out ++ List.replicate (rFrom off out x - off - out.length).toNat 0 ++ (x.data.take (rTo off m x - x.off).toNat).drop (rFrom off out x - x.off).toNat
theorem readStep_len {off m : Int} {out : Str} {x : Ext} (h : out.length ≤ m) (hx : 0 ≤ x.off) (ho : 0 ≤ off) : ((readStep off m out x).length : Int) ≤ m := by
  unfold readStep
  split
  · exact h
  · rename_i c
    have : rTo off m x ≤ off + m ∧ rTo off m x ≤ x.off + x.data.length := by unfold rTo; split <;> omega
    have h2 : off + out.length ≤ rFrom off out x ∧ x.off ≤ rFrom off out x := by unfold rFrom; split <;> omega
    simp; omega
/-- What is read, extent by extent. -/
def readP (size : Int) (l : List Ext) (off n : Int) : Str :=
  if off < 0 ∨ off ≥ size ∨ n < 1 then [] else
    let m := if size - off < n then size - off else n
    let out := l.foldl (readStep off m) []
    out ++ List.replicate (m - out.length).toNat 0
theorem foldl_take {α β : Type} (f : β → α → β) (b : β) {l : List α} {i : Nat} {x : α} (h : l[i]? = some x) : (l.take (i + 1)).foldl f b = f ((l.take i).foldl f b) x := by
  rw [List.take_succ, h]; simp
theorem extent_Read_A {w0 : World} {size : Int} {l : List Ext} {r : Rt} {off n : Int} {S : St} {Q : AV → St → Prop} (hl : ∀ x ∈ l, 0 ≤ x.off ∧ x.off + x.data.length ≤ 1048576) (hn : l.length ≤ 1000000000000000)
   (hs : 0 ≤ size ∧ size ≤ 1048576) (hq : ∀ S', Sx S S' → Q (.str (readP size l off n)) S') : AC w0 F_extent_Read [.int .i64 size, .vs 2 (l.map Ext.c) r, .int .i64 off, .int .i64 n] S Q := by
  apply extent_Read_ok
  unfold G_extent_Read
  simp
  refine ifK_b (fun h => ?_) (fun h => ?_) <;> simp at h
  · simpa [readP, show (off < 0 ∨ off ≥ size ∨ n < 1) by omega] using hq S (.refl S)
  have hw : IntKind.i64.wrap (size - off) = size - off := wrap64 (by omega) (by omega)
  simp only [hw]
  obtain ⟨m, hm⟩ : ∃ m, m = if size - off < n then size - off else n := ⟨_, rfl⟩
  rw [← hm]
  have hm2 : 1 ≤ m ∧ m ≤ size - off ∧ m ≤ n := by split at hm <;> omega
  have hP : readP size l off n = l.foldl (readStep off m) [] ++ List.replicate (m - (l.foldl (readStep off m) []).length).toNat 0 := by
    simp only [readP, show ¬ (off < 0 ∨ off ≥ size ∨ n < 1) by omega, if_false, ← hm]
  have hlen : ∀ i, ((l.take i).foldl (readStep off m) []).length ≤ m := by
    intro i
    induction i with
    | zero => simp; omega
    | succ i ih =>
      by_cases c : i < l.length
      · rw [foldl_take _ _ (List.getElem?_eq_getElem c)]
        exact readStep_len ih (hl _ (List.getElem_mem c)).1 (by omega)
      · rw [List.take_of_length_le (by omega)] at ih ⊢; exact ih
  refine joinK_gen (fun j => ∀ S', Sx S S' → Bld S' S.length (l.foldl (readStep off m) []) → j S') (fun S' hx hB => ?_) (fun j hj => ?_)
  · refine Builder_Len_A hB ?_
    have hl2 := hlen l.length
    rw [List.take_length] at hl2
    generalize l.foldl (readStep off m) [] = out at *
    obtain ⟨k, hk⟩ : ∃ k : Nat, m - out.length = k := ⟨(m - out.length).toNat, by omega⟩
    have : IntKind.i64.wrap (m - out.length) = k := by rw [wrap64 (by omega) (by omega), hk]
    simp [this]
    refine Repeat_A (by omega) (by simp; omega) ?_
    simp [repeatL_one]
    refine Builder_WriteString_A hB (by unfold lim; simp; omega) fun _ S2 h1 h2 h3 => ?_
    refine Builder_String_A h3 (by unfold lim; simp; omega) fun S3 h4 h5 => ?_
    rw [hP, hk] at hq
    exact hq _ fun j hj => by rw [h5 j (by omega), h2 j (by omega), hx j hj]
  refine loop_list l (fun i (_ : Unit) => ([.int .i64 i], [])) (fun i _ S' => Sx S S' ∧ Bld S' S.length ((l.take i).foldl (readStep off m) [])) () rfl ⟨.app _ _, by simpa using Bld_new S⟩ ?_ ?_
  · rintro i _ S' v b x c hxi hd hc hm ⟨hx, hB⟩ hv
    simp at hv
    obtain ⟨h1, h2⟩ := hl x hm
    have ho := hlen i
    have hf := foldl_take (readStep off m) [] hxi
    generalize (l.take i).foldl (readStep off m) [] = out at *
    simp [hv, hc, hxi]
    rw [joinK_eq]
    try simp (disch := omega) only [wrap64]
    refine Builder_Len_A hB ?_
    simp
    try simp (disch := omega) only [wrap64]
    obtain ⟨f, hf1⟩ : ∃ f, f = rFrom off out x := ⟨_, rfl⟩
    obtain ⟨t, ht1⟩ : ∃ t, t = rTo off m x := ⟨_, rfl⟩
    have hf2 := hf1
    have ht2 := ht1
    simp only [rFrom, gt_iff_lt] at hf2
    simp only [rTo] at ht2
    rw [← hf2, ← ht2]
    have hf3 : x.off ≤ f ∧ off + out.length ≤ f := by rw [hf2]; split <;> omega
    have ht3 : t ≤ x.off + x.data.length ∧ t ≤ off + m := by rw [ht2]; split <;> omega
    refine ifK_b (fun h => ?_) (fun h => ?_) <;> simp at h
    · refine .next c () rfl ⟨hx, ?_⟩
      rw [hf, readStep, ← hf1, ← ht1, if_pos (by omega)]
      exact hB
    try simp (disch := omega) only [wrap64]
    refine Builder_Len_A hB ?_
    obtain ⟨k, hk⟩ : ∃ k : Nat, f - off - out.length = k := ⟨(f - off - out.length).toNat, by omega⟩
    have hw2 : IntKind.i64.wrap (f - off - out.length) = k := by rw [wrap64 (by omega) (by omega), hk]
    simp [hw2]
    refine Repeat_A (by omega) (by simp; omega) ?_
    simp [repeatL_one]
    refine Builder_WriteString_A hB (by unfold lim; simp; omega) fun _ S2 h1 h2 h3 => ?_
    try simp (disch := omega) only [wrap64]
    rw [cutStr_int _ _ _ _ _ (by omega) (by omega) (by omega)]
    simp
    refine Builder_WriteString_A h3 (by unfold lim; simp; omega) fun _ S3 h4 h5 h6 => ?_
    refine .next c () rfl ⟨fun j hj => by rw [h5 j (by omega), h2 j (by omega), hx j hj], ?_⟩
    rw [hf, readStep, ← hf1, ← ht1, if_neg (by omega), hk]
    simpa using h6
  · rintro _ S' v b ⟨hx, hB⟩ hv N
    simp at hv
    simp [hv]
    exact hj S' hx (by simpa using hB)
end Go.Av
set_option linter.unusedVariables false
/-! Extents: the plain law. -/
namespace Go.Av
abbrev has (x : Ext) (p : Int) : Prop := x.off ≤ p ∧ p < x.off + x.data.length
theorem atE_none {p : Int} : ∀ {l : List Ext}, (∀ x ∈ l, ¬ has x p) → atE l p = 0
  | [], _ => rfl
  | x :: l, h => by
    rw [atE, if_neg (h x (by simp)), atE_none fun y hy => h y (by simp [hy])]
theorem atE_at {p : Int} {x : Ext} {r : List Ext} : ∀ {l : List Ext}, (∀ y ∈ l, ¬ has y p) → has x p → atE (l ++ x :: r) p = x.data.getD (p - x.off).toNat 0
  | [], _, h => by rw [List.nil_append, atE, if_pos h]
  | y :: l, h, hx => by
    rw [List.cons_append, atE, if_neg (h y (by simp)), atE_at (fun z hz => h z (by simp [hz])) hx]
theorem chain_ge {size : Int} : ∀ {l : List Ext} {a : Int}, extChain size a l = true → ∀ y ∈ l, a ≤ y.off ∧ y.off + y.data.length ≤ size ∧ y.data ≠ []
  | [], _, _, y, hy => by simp at hy
  | x :: l, a, h, y, hy => by
    simp only [extChain, Bool.and_eq_true, decide_eq_true_eq] at h
    rcases List.mem_cons.1 hy with rfl | hy
    · exact ⟨h.1.1, h.1.2.2, h.1.2.1⟩
    · have := chain_ge h.2 y hy
      exact ⟨by omega, this.2⟩
theorem chain_drop {size : Int} : ∀ {l : List Ext} {a : Int} {i : Nat} {x : Ext} {r : List Ext}, extChain size a l = true → l.drop i = x :: r → extChain size (x.off + x.data.length) r = true
  | [], _, i, x, r, _, h => by simp at h
  | y :: l, a, 0, x, r, h, e => by
    simp at e
    obtain ⟨rfl, rfl⟩ := e
    simp only [extChain, Bool.and_eq_true] at h
    exact h.2
  | y :: l, a, i + 1, x, r, h, e => by
    simp only [extChain, Bool.and_eq_true] at h
    exact chain_drop h.2 (by simpa using e)
theorem extOk_in {size : Int} {l : List Ext} (h : extOk size l = true) : 0 ≤ size ∧ size ≤ 1048576 ∧ ∀ x ∈ l, 0 ≤ x.off ∧ x.off + x.data.length ≤ 1048576 := by
  simp [extOk] at h
  refine ⟨h.1.1, h.1.2, fun x hx => ?_⟩
  have := chain_ge h.2 x hx
  omega
theorem readP_eq {size : Int} {l : List Ext} {off n : Int} (h : extOk size l = true) : readP size l off n = readE size l off n := by
  obtain ⟨h1, h2, h3⟩ := extOk_in h
  have hch : extChain size 0 l = true := by simp [extOk] at h; exact h.2
  unfold readP readE
  by_cases c : off < 0 ∨ off ≥ size ∨ n < 1
  · rw [if_pos c]
    by_cases c0 : off < 0
    · simp [c0]
    · have : (min n (size - off)).toNat = 0 := by omega
      simp [c0, this]
  have hm : (if size - off < n then size - off else n) = min n (size - off) := by split <;> omega
  rw [if_neg c]
  simp only [show ¬ off < 0 by omega, if_false, hm]
  generalize hmm : min n (size - off) = m
  have hm1 : 1 ≤ m ∧ off + m ≤ size := by omega
  have key : ∀ i, i ≤ l.length → let out := (l.take i).foldl (readStep off m) []
      (∀ j, j < out.length → out[j]? = some (atE l (off + j))) ∧ (out.length : Int) ≤ m ∧ (out = [] ∨ ∀ y ∈ l.drop i, off + out.length ≤ y.off) ∧
      ∀ x ∈ l.take i, ∀ p, off + out.length ≤ p → p < off + m → ¬ has x p := by
    intro i
    induction i with
    | zero => intro _; simp; omega
    | succ i ih =>
      intro hi
      obtain ⟨x, hxi, hd, _, hx⟩ := at_lt (l := l) (i := i) (by omega)
      obtain ⟨k1, k2, k3, k4⟩ := ih (by omega)
      obtain ⟨g1, g2⟩ := h3 x hx
      have hrest := fun y hy => (chain_ge (chain_drop hch hd) y hy).1
      rw [foldl_take _ _ hxi]
      have hsplit : l = l.take i ++ x :: l.drop (i + 1) := by rw [← hd, List.take_append_drop]
      have htk : l.take (i + 1) = l.take i ++ [x] := by rw [List.take_succ, hxi]; rfl
      generalize (l.take i).foldl (readStep off m) [] = out at *
      have hlen := readStep_len (off := off) (m := m) (out := out) (x := x) k2 g1 (by omega)
      have hf : rFrom off out x = max x.off (off + out.length) := by unfold rFrom; split <;> omega
      have ht : rTo off m x = min (x.off + x.data.length) (off + m) := by unfold rTo; split <;> omega
      unfold readStep at hlen ⊢
      by_cases cc : rFrom off out x ≥ rTo off m x
      · simp only [cc, if_true] at hlen ⊢
        refine ⟨k1, k2, ?_, fun y hy p p1 p2 => ?_⟩
        · rcases k3 with k3 | k3
          · exact .inl k3
          · right
            intro y hy
            exact k3 y (by rw [hd]; simp [hy])
        · rw [htk] at hy
          rcases List.mem_append.1 hy with hy | hy
          · exact k4 y hy p p1 p2
          · simp at hy; subst hy
            unfold has
            omega
      · simp only [cc, if_false] at hlen ⊢
        have hz : ((rFrom off out x - off - out.length).toNat : Int) = rFrom off out x - off - out.length := by omega
        have hfx : out = [] ∨ rFrom off out x = x.off := by
          rcases k3 with k3 | k3
          · exact .inl k3
          · right; have := k3 x (by rw [hd]; simp); omega
        generalize hzz : (rFrom off out x - off - out.length).toNat = z at *
        have hsl : ((x.data.take (rTo off m x - x.off).toNat).drop (rFrom off out x - x.off).toNat).length = (rTo off m x - rFrom off out x).toNat := by simp; omega
        refine ⟨fun j hj => ?_, hlen, .inr fun y hy => ?_, fun y hy p p1 p2 => ?_⟩
        · simp only [List.length_append, List.length_replicate, hsl] at hj
          by_cases c1 : j < out.length
          · rw [List.append_assoc, List.getElem?_append_left c1]; exact k1 j c1
          by_cases c2 : j < out.length + z
          · rw [List.append_assoc, List.getElem?_append_right (by omega), List.getElem?_append_left (by simp; omega)]
            rw [List.getElem?_replicate, if_pos (by omega), atE_none]
            intro y hy
            rw [hsplit] at hy
            rcases List.mem_append.1 hy with hy | hy
            · exact k4 y hy _ (by omega) (by omega)
            rcases List.mem_cons.1 hy with rfl | hy
            · unfold has; omega
            · have := hrest y hy
              unfold has; omega
          · rw [List.getElem?_append_right (by simp; omega)]
            simp only [List.length_append, List.length_replicate]
            have e : off + (j : Int) - x.off = ((j - (out.length + z) + (rFrom off out x - x.off).toNat : Nat) : Int) := by omega
            have hat : atE l (off + j) = x.data.getD (off + j - x.off).toNat 0 := by
              rw [hsplit]
              refine atE_at (fun y hy => k4 y hy _ (by omega) (by omega)) ?_
              unfold has; omega
            rw [hat, e, List.getElem?_drop, List.getElem?_take_of_lt (by omega), Int.toNat_natCast, List.getD_eq_getElem?_getD, Nat.add_comm]
            rw [List.getElem?_eq_getElem (by omega)]
            rfl
        · have := hrest y hy
          simp only [List.length_append, List.length_replicate, hsl]
          omega
        · simp only [List.length_append, List.length_replicate, hsl] at p1
          rw [htk] at hy
          rcases List.mem_append.1 hy with hy | hy
          · exact k4 y hy p (by omega) p2
          · simp at hy; subst hy
            unfold has
            omega
  obtain ⟨k1, k2, k3, k4⟩ := key l.length (Nat.le_refl _)
  rw [List.take_length] at k1 k2 k3 k4
  generalize l.foldl (readStep off m) [] = out at *
  have hz : ((m - out.length).toNat : Int) = m - out.length := by omega
  apply List.ext_getElem?
  intro j
  by_cases c1 : j < out.length
  · rw [List.getElem?_append_left c1, k1 j c1, List.getElem?_map, List.getElem?_range (by omega)]
    rfl
  · rw [List.getElem?_append_right (by omega), List.getElem?_replicate]
    by_cases c2 : j < m.toNat
    · rw [if_pos (by omega)]
      rw [List.getElem?_map, List.getElem?_range c2]
      simp only [Option.map_some]
      rw [atE_none fun y hy => k4 y hy _ (by omega) (by omega)]
    · have : (List.range m.toNat)[j]? = none := List.getElem?_eq_none (by simp; omega)
      rw [if_neg (by omega), List.getElem?_map, this]
      rfl

/-- The extents of bytes: none has a nought, no two touch, and they read as the bytes. -/
theorem ofE_spec : ∀ (n : Nat) (s : Str) (i : Nat), s.length ≤ n →
    (∀ x ∈ ofE i s, (i : Int) ≤ x.off ∧ x.off + x.data.length ≤ i + s.length ∧ x.data ≠ [] ∧ ∀ b ∈ x.data, b ≠ 0) ∧
    (ofE i s).Pairwise (fun x y : Ext => x.off + (x.data.length : Int) < y.off) ∧ (ofE i s).length ≤ s.length ∧
    ∀ j, j < s.length → atE (ofE i s) (i + j) = s.getD j 0
  | 0, s, i, hn => by
    have : s = [] := by simpa using hn
    subst this
    simp [ofE]
  | n + 1, s, i, hn => by
    by_cases h : s = []
    · subst h; simp [ofE]
    rw [ofE, dif_neg h]
    have hpos := List.length_pos_iff.2 h
    have hpre := List.takeWhile_prefix (p := fun x : UInt8 => x != 0) (l := s)
    have hall : ∀ b ∈ s.takeWhile (· != 0), b ≠ 0 := fun b hb => by
      have := List.all_eq_true.1 (List.all_takeWhile (p := fun x : UInt8 => x != 0) (l := s)) b hb
      simpa using this
    have hend := fun x => takeWhile_end (p := fun x : UInt8 => x != 0) (s := s) (x := x)
    have htk := take_takeWhile (p := (· != 0)) s
    generalize s.takeWhile (· != 0) = run at *
    have hlen := hpre.length_le
    obtain ⟨h1, h2, h3, h4⟩ := ofE_spec n (s.drop (run.length + 1)) (i + run.length + 1) (by simp; omega)
    have hdl : (s.drop (run.length + 1)).length ≤ s.length - (run.length + 1) := by simp
    have hget : ∀ j, j < run.length → s.getD j 0 = run.getD j 0 := fun j hj => by
      simp only [List.getD_eq_getElem?_getD]
      conv => rhs; rw [← htk, List.getElem?_take_of_lt hj]
    have hrest : ∀ j, run.length < j → s.getD j 0 = (s.drop (run.length + 1)).getD (j - (run.length + 1)) 0 := fun j hj => by
      simp only [List.getD_eq_getElem?_getD, List.getElem?_drop]
      rw [show run.length + 1 + (j - (run.length + 1)) = j by omega]
    have hat : s.getD run.length 0 = 0 := by
      by_cases c : run.length < s.length
      · have := hend _ (List.getElem?_eq_getElem c)
        simp [List.getD_eq_getElem?_getD, c]; simpa using this
      · rw [List.getD_eq_getElem?_getD, List.getElem?_eq_none (by omega)]; rfl
    by_cases hr : run = []
    · subst hr
      simp only [if_true, List.nil_append, List.length_nil, Nat.zero_add, Nat.add_zero] at *
      refine ⟨fun x hx => ?_, h2, by omega, fun j hj => ?_⟩
      · obtain ⟨k1, k2, k3⟩ := h1 x hx
        have := List.length_pos_of_mem hx
        exact ⟨by omega, by omega, k3⟩
      · by_cases c : j = 0
        · subst c
          rw [hat, atE_none]
          intro x hx
          have := (h1 x hx).1
          unfold has; omega
        · rw [hrest j (by omega), ← h4 (j - 1) (by simp; omega)]
          congr 1
          omega
    · simp only [hr, if_false]
      have hrp := List.length_pos_iff.2 hr
      refine ⟨fun x hx => ?_, ?_, by rw [List.length_append, List.length_singleton]; omega, fun j hj => ?_⟩
      · rcases List.mem_append.1 hx with hx | hx
        · simp at hx; subst hx
          exact ⟨by simp, by simp; omega, hr, hall⟩
        · obtain ⟨k1, k2, k3⟩ := h1 x hx
          have := List.length_pos_of_mem hx
          exact ⟨by omega, by omega, k3⟩
      · refine List.pairwise_append.2 ⟨by simp, h2, fun x hx y hy => ?_⟩
        simp at hx; subst hx
        have := (h1 y hy).1
        simp only; omega
      · by_cases c : j < run.length
        · have e := atE_at (p := (i : Int) + j) (x := ⟨i, run⟩) (r := ofE (i + run.length + 1) (s.drop (run.length + 1))) (l := []) (by simp) (by unfold has; simp only; omega)
          simp only [List.nil_append] at e
          rw [show ([⟨i, run⟩] ++ ofE (i + run.length + 1) (s.drop (run.length + 1)) : List Ext) = ⟨i, run⟩ :: ofE (i + run.length + 1) (s.drop (run.length + 1)) from rfl, e, hget j c]
          congr 1
          omega
        · rw [List.singleton_append, atE, if_neg (by simp only; omega)]
          by_cases c2 : j = run.length
          · subst c2
            rw [hat, atE_none]
            intro x hx
            have := (h1 x hx).1
            unfold has; omega
          · rw [hrest j (by omega), ← h4 (j - (run.length + 1)) (by simp; omega)]
            congr 1
            omega
theorem chain_of_pair {size : Int} : ∀ {l : List Ext} {a : Int}, (∀ x ∈ l, a ≤ x.off ∧ x.data ≠ [] ∧ x.off + x.data.length ≤ size) → l.Pairwise (fun x y : Ext => x.off + (x.data.length : Int) < y.off) → extChain size a l = true
  | [], _, _, _ => rfl
  | x :: l, a, h, hp => by
    have hx := h x (by simp)
    have hp' := List.pairwise_cons.1 hp
    simp only [extChain, Bool.and_eq_true, decide_eq_true_eq]
    exact ⟨hx, chain_of_pair (fun y hy => ⟨by have := hp'.1 y hy; omega, (h y (by simp [hy])).2⟩) hp'.2⟩
theorem ofE_ok {s : Str} (h : s.length ≤ 1048576) : extOk s.length (ofE 0 s) = true := by
  obtain ⟨h1, h2, h3, h4⟩ := ofE_spec s.length s 0 (Nat.le_refl _)
  simp only [extOk, Bool.and_eq_true, decide_eq_true_eq]
  exact ⟨by omega, chain_of_pair (fun x hx => by have := h1 x hx; exact ⟨by omega, this.2.2.1, by omega⟩) h2⟩
theorem ofE_reads {s : Str} (h : s.length ≤ 1048576) : readE s.length (ofE 0 s) 0 s.length = s := by
  obtain ⟨h1, h2, h3, h4⟩ := ofE_spec s.length s 0 (Nat.le_refl _)
  unfold readE
  apply List.ext_getElem?
  intro j
  by_cases c : j < s.length
  · simp [c]
    have := h4 j c
    simpa [List.getD_eq_getElem?_getD, c] using this
  · rw [List.getElem?_eq_none (by simp; omega), List.getElem?_eq_none (by omega)]
end Go.Av
set_option linter.unusedVariables false
/-! The laws of extents. -/
namespace Go.Av
open Go.Proofs
theorem law03_speaks_A {w0 : World} {S : St} {Q : AV → St → Prop} (hq : ∀ S', Sx S S' → Q (.bool true) S') : AC w0 F_law03_speaks [] S Q := by
  apply law03_speaks_ok
  unfold G_law03_speaks
  have hb : ExtB [⟨1, [98]⟩] := by simp [ExtB]
  refine extent_Right_A (l := [⟨1, [98]⟩]) (by omega) hb ?_
  rw [show extOk 6 [⟨1, [98]⟩] = true by decide]
  simp [joinK_eq]
  refine extent_Right_A (l := [⟨1, [98]⟩]) (by omega) hb ?_
  rw [show extOk 1 [⟨1, [98]⟩] = false by decide]
  simp
  refine extent_Read_A (l := [⟨1, [98]⟩]) (by simp) (by simp) (by omega) fun S1 h1 => ?_
  rw [show readP 6 [⟨1, [98]⟩] 0 9 = [0, 98, 0, 0, 0, 0] by decide]
  simp
  refine extent_Of_A (by simp) fun r hr => ?_
  have : ofE 0 [0, 98, 0] = [⟨1, [98]⟩] := by simp [ofE]
  simp [this]
  exact hq _ h1
theorem law03_ExtentRight_L (w0 : World) (x0 x1 : AV) (h0 : TV t_int x0) (h1 : TV t_s_api_Extent x1) : AC w0 F_law03_ExtentRight [x0, x1] [] fun r _ => r = .bool true := by
  obtain ⟨n, rfl, hn⟩ := h0.int un_int
  obtain ⟨l, r, rfl, hr, hl, hx⟩ := h1.slice (enc := Ext.c) (ok := Ext.ok) un_s_api_Extent ce_api_Extent dec_Ext
  apply law03_ExtentRight_ok
  unfold G_law03_ExtentRight
  refine law03_speaks_A fun S _ => ?_
  simp
  have hb : ExtB l := ⟨fun x hm => by have := hx x hm; unfold Ext.ok at this; omega, by omega⟩
  refine law03_big_A hb ?_
  rw [joinK_eq]
  by_cases c : 500 < totE l
  · simp [c]
  simp [c]
  refine extent_Right_A hn hb ?_
  refine ref03_Right_A hn hb ?_
  simp
set_option maxRecDepth 100000 in
theorem law03_ExtentReads_L (w0 : World) (x0 x1 x2 : AV) (h0 : TV t_int x0) (h1 : TV t_s_api_Extent x1) (h2 : TV t_2_int x2) : AC w0 F_law03_ExtentReads [x0, x1, x2] [] fun r _ => r = .bool true := by
  obtain ⟨n, rfl, hn⟩ := h0.int un_int
  obtain ⟨l, r, rfl, hr, hl, hx⟩ := h1.slice (enc := Ext.c) (ok := Ext.ok) un_s_api_Extent ce_api_Extent dec_Ext
  obtain ⟨p, q, rfl, hp, hq⟩ : ∃ p q : Int, x2 = .agg [.int .i64 p, .int .i64 q] ∧ (-9223372036854775808 ≤ p ∧ p ≤ 9223372036854775807) ∧ -9223372036854775808 ≤ q ∧ q ≤ 9223372036854775807 := by
    obtain ⟨cs, rfl, k0⟩ := h2.agg (by simp [isAgg, show Try.prog.underlying t_2_int = _ from un_2_int])
    obtain ⟨e1, e2⟩ := k0.array_inv un_2_int
    rw [ce_2_int] at e1
    match cs, e1 with
    | [a, b], _ =>
      have k1 := e2 0 (by omega)
      have k2 := e2 1 (by omega)
      rw [ce_int] at k1 k2
      obtain ⟨p, e3, e4⟩ := dec_int k1 un_int
      obtain ⟨q, e5, e6⟩ := dec_int k2 un_int
      simp at e3 e5
      subst e3 e5
      exact ⟨p, q, rfl, e4, e6⟩
  apply law03_ExtentReads_ok
  unfold G_law03_ExtentReads
  have hb : ExtB l := ⟨fun x hm => by have := hx x hm; unfold Ext.ok at this; omega, by omega⟩
  simp
  refine law03_speaks_A fun S _ => ?_
  simp
  refine law03_big_A hb ?_
  rw [joinK_eq]
  by_cases c : 500 < totE l
  · simp [c]
  simp [c]
  refine ref03_Right_A hn hb ?_
  by_cases ce : extOk n l = true
  case neg => simp [ce]
  simp [ce]
  refine ifK_b (fun h => by simp) (fun h => ?_)
  obtain ⟨k1, k2, k3⟩ := extOk_in ce
  refine extent_Read_A k3 (by omega) ⟨k1, k2⟩ fun S1 _ => ?_
  refine ref03_Read_A k3 (by omega) ⟨k1, k2⟩ (by omega) ?_
  simp [readP_eq ce]
theorem law03_ExtentBack_L (w0 : World) (x0 : AV) (h0 : TV t_string x0) : AC w0 F_law03_ExtentBack [x0] [] fun r _ => r = .bool true := by
  obtain ⟨s, rfl, hs⟩ := h0.str un_string
  apply law03_ExtentBack_ok
  unfold G_law03_ExtentBack
  refine law03_speaks_A fun S _ => ?_
  simp
  refine ifK_b (fun h => by simp) (fun h => ?_)
  simp at h
  refine extent_Of_A (by omega) fun r hr => ?_
  have hsp := ofE_spec s.length s 0 (Nat.le_refl _)
  have hok := ofE_ok (s := s) (by omega)
  have hrd := ofE_reads (s := s) (by omega)
  obtain ⟨p1, p2, p3, p4⟩ := hsp
  obtain ⟨k1, k2, k3⟩ := extOk_in hok
  have hb : ExtB (ofE 0 s) := ⟨fun x hm => by have := k3 x hm; omega, by omega⟩
  generalize ofE 0 s = l at *
  simp
  refine joinK_gen (fun j => ∀ S, j S) (fun S => ?_) (fun j4 hj4 => ?_)
  · refine ref03_Right_A (by omega) hb ?_
    rw [joinK_eq]
    simp [hok]
    refine extent_Read_A k3 (by omega) ⟨k1, k2⟩ fun S1 _ => ?_
    simp [readP_eq hok, hrd]
  have hpw : ∀ i x y, l[i]? = some x → l[i + 1]? = some y → x.off + (x.data.length : Int) < y.off := fun i x y hx hy => by
    obtain ⟨a1, a2⟩ := List.getElem?_eq_some_iff.1 hx
    obtain ⟨b1, b2⟩ := List.getElem?_eq_some_iff.1 hy
    have := List.pairwise_iff_getElem.1 p2 i (i + 1) a1 b1 (by omega)
    rw [a2, b2] at this
    exact this
  refine loop_list l (fun i (e : Int) => ([.int .i64 e, .int .i64 i], [])) (fun i e S' => -1 ≤ e ∧ ∀ x, l[i]? = some x → e < x.off) (-1) rfl ⟨by omega, fun x hx => by have := (p1 x (List.mem_of_getElem? hx)).1; omega⟩ ?_ ?_
  · rintro i e S' v b x c hxi hd hc hm ⟨he0, he⟩ hv
    simp at hv
    obtain ⟨q1, q2⟩ := k3 x hm
    have q3 := he x hxi
    simp [hv, hc, hxi, show ¬ x.off ≤ e by omega]
    rw [joinK_eq]
    refine joinK_gen (fun j => ∀ S, j (some x.c) S) (fun S => ?_) (fun j hj => ?_)
    · simp
      try simp (disch := omega) only [wrap64]
      refine .next c (x.off + x.data.length) rfl ⟨by omega, fun y hy => hpw i x y hxi hy⟩
    · refine loop_list x.data (fun k (_ : Unit) => ([.int .i64 k], [some x.c])) (fun k _ S' => True) () rfl trivial ?_ ?_
      · rintro k _ S2 v2 b2 y c2 hyi hd2 hc2 hm2 _ hv2
        simp at hv2
        have hy0 : ¬ y.toNat = 0 := fun e => (p1 x hm).2.2.2 y hm2 (by apply UInt8.toNat_inj.1; simpa using e)
        simp [hv2, hc2, hyi, hy0]
        try simp (disch := omega) only [wrap64]
        exact .next c2 () rfl trivial
      · rintro _ S2 v2 b2 _ hv2 N
        simp at hv2
        simp [hv2]
        exact hj S2
  · rintro e S' v b _ hv N
    simp at hv
    simp [hv]
    exact hj4 _
end Go.Av
