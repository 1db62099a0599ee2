/- Parts of the proofs of this seat: abstract values over the model, and what the functions of the program do. No condition. -/
import Derived.Test.YtgegfcblacmbeaaDoorM9
import Derived.Test.YtgegfcblacmbeaaDoorD0
import Derived.Test.YtgegfcblacmbeaaDoorM11
import Derived.Test.YtgegfcblacmbeaaDoorY01
import Derived.Test.YtgegfcblacmbeaaDoorXSA
import Derived.Shelf.Strings.Split
import Derived.Shelf.Lay
import Derived.Shelf.Vars
import Derived.Shelf.LaySoft
set_option linter.all false
set_option linter.unusedVariables false
/-! strings.Split. -/
namespace Go.Proofs
open Go.Shelf Go.Av
shelf_lay Lays.n146 Nm 146 at Tryd as Tryd.lays146
end Go.Proofs
namespace Go.Av
open Go.Proofs Go.Shelf
/-- The variable that the shelf's contracts ask for holds a number. -/
def MaxL (w0 : World) : Prop := ∃ m, w0.cell? ⟨Tryd.lays146_ren.g 1, 0, none⟩ = some (.int .i64 m)
theorem maxL_shaped {W : World} (h : W.ShapedOpen Tryd.prog) : MaxL W := cell_of_shapedOpen_int (zero := #[.int .i64 0]) (t := t_int) h (of_decide_eq_true (by kernel_rfl)) (by kernel_rfl) rfl (by kernel_rfl) (by kernel_rfl) un_int
theorem cell_old {E : Env} {G : Gh} {w : World} {S : St} (h : Rel E G w S) {b o : Nat} {v : Value} (hc : E.w0.cell? ⟨b, o, none⟩ = some v) : w.cell? ⟨b, o, none⟩ = some v := by
  have hlt : b < E.w0.heap.size := by
    unfold World.cell? at hc
    split at hc
    · rename_i c e fz hh
      exact (Array.getElem?_eq_some_iff.1 hh).1
    · cases hc
  rw [← hc]
  exact World.cell?_of_block (w := E.w0) (h.old b hlt).1
set_option maxRecDepth 100000 in
theorem Split_A {w0 : World} {S : St} {s : Str} (hm : MaxL w0) (hs : s.length < 4294967281) {Q : AV → St → Prop} (hq : Q (.vs 1 ((splitS s).map fun s => [.str s]) .full) S) :
    AC w0 F_strings_Split [.str s, .str [47]] S Q := by
  refine ACalls.of_strs fn_strings_Split (by kernel_rfl) (by kernel_rfl) fun G w args' hr hl' ha => ?_
  obtain ⟨v, u, rfl⟩ : ∃ v u, args' = #[v, u] := by
    match args', hl' with
    | ⟨[v, u]⟩, _ => exact ⟨v, u, rfl⟩
  have h0' := ha 0 _ v rfl rfl
  have h1' := ha 1 _ u rfl rfl
  cases h0'
  cases h1'
  obtain ⟨m, hm⟩ := hm
  refine (Any.strings_Split Tryd.lays146 (by kernel_rfl) ⟨s.toArray⟩ ⟨#[47]⟩ m w (by simpa [ByteArray.size] using hs) (cell_old hr hm) (by decide)).mono ?_
  rintro e w' ⟨rfl, rfl⟩
  have hd : (Lib.splitB ⟨#[47]⟩ 0 (Lib.countB ⟨s.toArray⟩ ⟨#[47]⟩) ⟨s.toArray⟩).map (·.data.toList) = splitS s := by
    rw [Lib.splitB_data]
    exact splitS_eq s
  have hlen : (splitS s).length = Lib.countB ⟨s.toArray⟩ ⟨#[47]⟩ + 1 := by
    rw [← hd, List.length_map]
    exact Lib.splitB_all ⟨#[47]⟩ (by decide) 0 _ ⟨s.toArray⟩ rfl
  have he : (Lib.splitB ⟨#[47]⟩ 0 (Lib.countB ⟨s.toArray⟩ ⟨#[47]⟩) ⟨s.toArray⟩).map Value.string = (splitS s).map fun s => Value.string ⟨s.toArray⟩ := by
    rw [← hd, List.map_map]
    rfl
  refine ⟨splitS s, Tryd.lays146_ren.t 9, ?_, ?_, hq⟩
  · rw [hlen]
  · rw [he]
end Go.Av
set_option linter.unusedVariables false
/-! Names and paths. -/
namespace Go.Av
open Go.Proofs
theorem isEmpty_ne {α : Type} {s : List α} (h : s ≠ []) : List.isEmpty s = false := by
  cases s with
  | nil => exact absurd rfl h
  | cons _ _ => rfl
theorem u8_beq (x y : UInt8) : (x == y) = decide (x.toNat = y.toNat) := by
  rw [Bool.eq_iff_iff]
  simp [UInt8.toNat_inj]
theorem name_Right_A {w0 : World} {S : St} {s : Str} (hs : s.length < 4294967281) {Q : AV → St → Prop} (hq : Q (.bool (nameR s)) S) : AC w0 F_name_Right [.str s] S Q := by
  apply name_Right_ok
  unfold G_name_Right
  unfold nameR at hq
  by_cases c1 : s = []
  · simpa [c1, joinK_eq] using hq
  have e1 := isEmpty_ne c1
  by_cases c2 : s = [46]
  · simpa [c1, c2, joinK_eq] using hq
  by_cases c3 : s = [46, 46]
  · simpa [c1, c2, c3, joinK_eq] using hq
  by_cases c4 : s.length ≤ 64
  · have c4' : (s.length : Int) ≤ 64 := by omega
    have b2 : (s == [46]) = false := beq_eq_false_iff_ne.2 c2
    have b3 : (s == [46, 46]) = false := beq_eq_false_iff_ne.2 c3
    simp [e1, b2, b3, c4', joinK_eq]
    refine ContainsAny_A (c0 := 47) (c1 := 0) (by decide) (by decide) hs ?_
    simpa [e1, c2, c3, c4, bne, b2, b3] using hq
  · have c4' : ¬ (s.length : Int) ≤ 64 := by omega
    have b2 : (s == [46]) = false := beq_eq_false_iff_ne.2 c2
    have b3 : (s == [46, 46]) = false := beq_eq_false_iff_ne.2 c3
    simp [e1, b2, b3, c4', joinK_eq]
    simpa [e1, b2, b3, c4, bne] using hq
theorem ref01_Right_A {w0 : World} {S : St} {s : Str} (hs : s.length ≤ 1048576) {Q : AV → St → Prop} (hq : Q (.bool (nameR s)) S) : AC w0 F_ref01_Right [.str s] S Q := by
  apply ref01_Right_ok
  unfold G_ref01_Right
  unfold nameR at hq
  by_cases c1 : s = []
  · simpa [c1, joinK_eq] using hq
  have e1 := isEmpty_ne c1
  by_cases c2 : s = [46]
  · simpa [c1, c2, joinK_eq] using hq
  by_cases c3 : s = [46, 46]
  · simpa [c1, c2, c3, joinK_eq] using hq
  have b2 : (s == [46]) = false := beq_eq_false_iff_ne.2 c2
  have b3 : (s == [46, 46]) = false := beq_eq_false_iff_ne.2 c3
  by_cases c4 : s.length ≤ 64
  · have c4' : ¬ 64 < (s.length : Int) := by omega
    have hq' : Q (.bool (!(s.any fun b => b == 47 || b == 0))) S := by simpa [e1, b2, b3, c4, bne] using hq
    simp only [joinK_eq]
    simp [e1, b2, b3, c4', joinK_eq]
    refine loop_list s (fun i (_ : Unit) => ([.int .i64 i], [])) (fun i _ S' => S' = S ∧ (s.any fun b => b == 47 || b == 0) = ((s.drop i).any fun b => b == 47 || b == 0)) () rfl (by simp) ?_ ?_
    · rintro i _ S' v b x c hxi hd hc hm ⟨rfl, hx⟩ hv
      simp at hv
      simp [hv, hc, hxi]
      rw [hd, List.any_cons] at hx
      have u47 : (x == 47) = decide (x.toNat = 47) := u8_beq x 47
      have u0 : (x == 0) = decide (x.toNat = 0) := u8_beq x 0
      rw [u47, u0] at hx
      by_cases h1 : x.toNat = 47
      · have h1' : (x.toNat : Int) = 47 := by omega
        have hx2 : (s.any fun b => b == 47 || b == 0) = true := by rw [hx]; simp [h1]
        rw [hx2] at hq'
        simpa [h1', h1] using hq'
      have h1' : ¬ (x.toNat : Int) = 47 := by omega
      by_cases h2 : x.toNat = 0
      · have hx2 : (s.any fun b => b == 47 || b == 0) = true := by rw [hx]; simp [h2]
        rw [hx2] at hq'
        simpa [h1', h2] using hq'
      · simp [h1', h2]
        simp only [h1, h2, decide_false, Bool.false_or] at hx
        try simp (disch := omega) only [wrap64]
        exact .next c () rfl ⟨rfl, hx⟩
    · rintro _ S' v b ⟨rfl, hx⟩ hv N
      simp at hv
      simp [hv]
      rw [hx] at hq'
      simpa using hq'
  · have c4' : 64 < (s.length : Int) := by omega
    simp [e1, b2, b3, c4', joinK_eq]
    simpa [e1, b2, b3, c4, bne] using hq
set_option maxHeartbeats 1000000 in
theorem name_Split_A {w0 : World} {S : St} {s : Str} (hm : MaxL w0) (hs : s.length ≤ 1048576) {Q : AV → St → Prop}
    (hq : match splitP s with
      | none => Q (.tup [.vs 1 [] .nil, .bool false, .int .i64 1]) S
      | some l => ∀ r, (r = .nil → l = []) → (r = .nil ∨ r = .none) → Q (.tup [.vs 1 (l.map wStr) r, .bool (s.head? == some 47), .int .i64 0]) S) : AC w0 F_name_Split [.str s] S Q := by
  apply name_Split_ok
  unfold G_name_Split
  unfold splitP at hq
  by_cases c1 : s = []
  · simpa [c1, joinK_eq] using hq
  have e1 := isEmpty_ne c1
  by_cases c2 : 1024 < s.length
  · have c2' : (1024 : Int) < s.length := by omega
    simpa [e1, c1, c2, c2', joinK_eq] using hq
  have c2' : ¬ (1024 : Int) < s.length := by omega
  rw [if_neg (by simp [c1, c2])] at hq
  simp [e1, c2', joinK_eq]
  refine Split_A hm (by omega) ?_
  simp
  have hsl := splitS_len s
  have hap := splitS_ne s
  generalize splitS s = l at hq hsl hap
  refine loop_list l (fun i (a : List Str × Rt) => ([.vs 1 (a.1.map wStr) a.2, .int .i64 i], [])) (fun i a S' => S' = S ∧ partsP l = (partsP (l.drop i)).map (a.1 ++ ·) ∧ a.1.length ≤ i ∧ (a.2 = .nil ∧ a.1 = [] ∨ a.2 = .own t_string)) ([], .nil) rfl ⟨rfl, by simp, by simp, by simp⟩ ?_ ?_
  · rintro i ⟨acc, ra⟩ S' v b x c hxi hd hc hm' ⟨rfl, hx, hal, hra⟩ hv
    simp at hv hx hal hra
    have hra' : ra ≠ .none := by rcases hra with ⟨rfl, _⟩ | rfl <;> simp
    have hrt : rowTy T_string ra = t_string := by rcases hra with ⟨rfl, _⟩ | rfl <;> rfl
    have hlim : acc.length + 1 ≤ lim := by unfold lim; have := hsl.1; omega
    simp [hv, hc, hxi]
    rw [hd, partsP] at hx
    by_cases h1 : x = []
    · simp [h1] at hx ⊢
      try simp (disch := omega) only [wrap64]
      exact .next c (acc, ra) rfl ⟨rfl, hx, by simp; omega, hra⟩
    by_cases h2 : x = [46]
    · simp [h2] at hx ⊢
      try simp (disch := omega) only [wrap64]
      exact .next c (acc, ra) rfl ⟨rfl, hx, by simp; omega, hra⟩
    have e1 := isEmpty_ne h1
    have b2 : (x == [46]) = false := beq_eq_false_iff_ne.2 h2
    have hadd : x = [46, 46] ∨ nameR x = true → partsP l = (partsP (l.drop (i + 1))).map ((acc ++ [x]) ++ ·) := fun h => by
      rw [hx, if_neg (by simp [h1, h2]), if_pos h, Option.map_map]
      congr 1
      funext y
      simp
    by_cases h3 : x = [46, 46]
    · have hx := hadd (.inl h3)
      subst h3
      simp [appendA, elemsA, hra', hlim, hrt]
      try simp (disch := omega) only [wrap64]
      exact .next c (acc ++ [[46, 46]], .own t_string) (by simp) ⟨rfl, hx, by simp; omega, .inr rfl⟩
    have b3 : (x == [46, 46]) = false := beq_eq_false_iff_ne.2 h3
    simp [e1, b2, b3, h1, h2, h3]
    refine name_Right_A (by have := hsl.2 x hm'; omega) ?_
    cases h4 : nameR x with
    | true =>
      have hx := hadd (.inr h4)
      simp [appendA, elemsA, hra', hlim, hrt]
      try simp (disch := omega) only [wrap64]
      exact .next c (acc ++ [x], .own t_string) (by simp) ⟨rfl, hx, by simp; omega, .inr rfl⟩
    | false =>
      rw [if_neg (by simp [h1, h2]), if_neg (by simp [h3, h4])] at hx
      rw [hx] at hq
      simpa using hq
  · rintro ⟨acc, ra⟩ S' v b ⟨rfl, hx, hal, hra⟩ hv N
    simp at hv hx hal hra
    simp [partsP] at hx
    rw [hx] at hq
    obtain ⟨y, tl, rfl⟩ : ∃ y tl, s = y :: tl := by
      cases s with
      | nil => exact absurd rfl c1
      | cons y tl => exact ⟨y, tl, rfl⟩
    simp [hv]
    have e47 : ((y.toNat : Int) = 47) = (y.toNat = 47) := propext (by omega)
    have := hq (ra.strip) (by rcases hra with ⟨rfl, h⟩ | rfl <;> simp [Rt.strip, *]) (by rcases hra with ⟨rfl, h⟩ | rfl <;> simp [Rt.strip])
    simpa [u8_beq, e47] using this
/-- What is ahead of the first piece. -/
def preP (cur : Str) : List Str → List Str
  | h :: t => (cur ++ h) :: t
  | [] => [cur]
theorem preP_nil (s : Str) : preP [] (splitS s) = splitS s := by
  cases h : splitS s with
  | nil => exact absurd h (splitS_ne s)
  | cons h t => rfl
theorem preP_slash (cur s : Str) : preP cur (splitS (47 :: s)) = cur :: splitS s := by simp [splitS, preP]
theorem preP_char (cur s : Str) {c : UInt8} (hc : c ≠ 47) : preP cur (splitS (c :: s)) = preP (cur ++ [c]) (splitS s) := by
  cases h : splitS s with
  | nil => exact absurd h (splitS_ne s)
  | cons h' t => simp [splitS, hc, h, preP]
set_option maxHeartbeats 1000000 in
theorem ref01_Split_A {w0 : World} {S : St} {s : Str} (hs : s.length ≤ 1048576) {Q : AV → St → Prop}
    (hq : match splitP s with
      | none => Q (.tup [.vs 1 [] .nil, .bool false]) S
      | some l => ∀ r, (r = .nil → l = []) → (r = .full ∨ r = .none) → Q (.tup [.vs 1 (l.map wStr) r, .bool true]) S) : AC w0 F_ref01_Split [.str s] S Q := by
  apply ref01_Split_ok
  unfold G_ref01_Split
  unfold splitP at hq
  by_cases c1 : s = []
  · simpa [c1, joinK_eq] using hq
  have e1 := isEmpty_ne c1
  have hpos : 0 < s.length := List.length_pos_iff.2 c1
  have c1' : ¬ ((s.length : Int) < 1) := by omega
  have c1'' : decide ((s.length : Int) < 1) = false := decide_eq_false c1'
  by_cases c2 : 1024 < s.length
  · have c2' : decide ((s.length : Int) > 1024) = true := decide_eq_true (by omega)
    have hq' : Q (.tup [.vs 1 [] .nil, .bool false]) S := by simpa [c1, c2] using hq
    rw [c1'', c2']
    simpa [joinK_eq] using hq'
  have c2' : decide ((s.length : Int) > 1024) = false := decide_eq_false (by omega)
  rw [if_neg (by simp [c1, c2])] at hq
  rw [c1'', c2']
  simp [joinK_eq]
  refine loopQ_by (fun k : Nat × Nat × List Str × Rt => ([.str s, .vs 1 (k.2.2.1.map wStr) k.2.2.2, .int .i64 k.1, .int .i64 k.2.1], [])) (fun n k S' => S' = S ∧ k.1 ≤ k.2.1 ∧ k.2.1 + n = s.length + 1 ∧ k.2.2.1.length ≤ k.2.1 ∧ (k.2.2.2 = .full ∨ k.2.2.2 = .own t_string) ∧
    if k.2.1 ≤ s.length then partsP (splitS s) = (partsP (preP ((s.take k.2.1).drop k.1) (splitS (s.drop k.2.1)))).map (k.2.2.1 ++ ·) else partsP (splitS s) = some k.2.2.1) (s.length + 1) (0, 0, [], .full) rfl ⟨rfl, by simp, by simp, by simp, by simp, by simp [preP_nil]⟩ ?_
  rintro n ⟨f, k, out, r⟩ S' v b ⟨rfl, hfk, hn, hol, hr, hx⟩ hv
  simp only at hfk hn hol hr hx
  simp at hv
  have hr0 : r ≠ .none := by rcases hr with rfl | rfl <;> simp
  have hrt : rowTy T_string r = t_string := by rcases hr with rfl | rfl <;> rfl
  have hlim : out.length + 1 ≤ lim := by unfold lim; omega
  by_cases ck : k ≤ s.length
  · rw [if_pos ck] at hx
    obtain ⟨m, rfl⟩ : ∃ m, n = m + 1 := ⟨n - 1, by omega⟩
    have hcl : ((s.take k).drop f).length ≤ 1024 := by simp; omega
    by_cases hch : ∃ c, s[k]? = some c ∧ c ≠ 47
    · obtain ⟨c, h1, h2⟩ := hch
      have ck2 : k < s.length := (List.getElem?_eq_some_iff.1 h1).1
      have h2' : ¬ (c.toNat : Int) = 47 := fun e => h2 (UInt8.toNat_inj.1 (by show c.toNat = 47; omega))
      have hchr : charA (.str s) (.int .i64 k) = some (.int .u8 c.toNat) := by simp [h1]
      simp [hv, ck, ck2, hchr, h2']
      try simp (disch := omega) only [wrap64]
      refine ⟨m, (f, k + 1, out, r), by omega, rfl, rfl, by show f ≤ k + 1; omega, by show k + 1 + m = _; omega, by show out.length ≤ k + 1; omega, hr, ?_⟩
      show if k + 1 ≤ s.length then _ else _
      rw [if_pos (by omega), hx]
      have hd : s.drop k = c :: s.drop (k + 1) := by rw [List.drop_eq_getElem_cons ck2]; congr 1; exact (List.getElem?_eq_some_iff.1 h1).2
      have ht : (s.take (k + 1)).drop f = (s.take k).drop f ++ [c] := by
        rw [List.take_add_one, h1, List.drop_append_of_le_length (by simp; omega)]
        rfl
      rw [hd, preP_char _ _ h2, ht]
    · obtain ⟨rest, hr1, hr2⟩ : ∃ rest, partsP (splitS s) = (partsP ((s.take k).drop f :: rest)).map (out ++ ·) ∧ ∀ out', partsP (splitS s) = (partsP rest).map (out' ++ ·) →
          if k + 1 ≤ s.length then partsP (splitS s) = (partsP (preP ((s.take (k + 1)).drop (k + 1)) (splitS (s.drop (k + 1))))).map (out' ++ ·) else partsP (splitS s) = some out' := by
        have hnil : (s.take (k + 1)).drop (k + 1) = [] := by rw [List.drop_eq_nil_iff]; simp; omega
        by_cases ck2 : k < s.length
        · have h1 : s[k]? = some 47 := by
            by_cases e : s[k]? = some 47
            · exact e
            · exact absurd ⟨s[k], by simp [ck2], fun e2 => e (by simp [ck2, e2])⟩ hch
          have hd : s.drop k = 47 :: s.drop (k + 1) := by rw [List.drop_eq_getElem_cons ck2]; congr 1; exact (List.getElem?_eq_some_iff.1 h1).2
          rw [hd, preP_slash] at hx
          refine ⟨_, hx, fun out' h => ?_⟩
          rw [if_pos (by omega), hnil, preP_nil]
          exact h
        · have hd : s.drop k = [] := by rw [List.drop_eq_nil_iff]; omega
          rw [hd] at hx
          refine ⟨[], by simpa [splitS, preP] using hx, fun out' h => ?_⟩
          rw [if_neg (by omega)]
          simpa [partsP] using h
      clear hx
      have fin : ∀ out' r', (partsP (splitS s) = (partsP rest).map (out' ++ ·)) → out'.length ≤ k + 1 → (r' = .full ∨ r' = .own t_string) → ∀ S'', S'' = S' → Nx (fun k : Nat × Nat × List Str × Rt => ([.str s, .vs 1 (k.2.2.1.map wStr) k.2.2.2, .int .i64 k.1, .int .i64 k.2.1], [])) (fun n k S'' => S'' = S' ∧ k.1 ≤ k.2.1 ∧ k.2.1 + n = s.length + 1 ∧ k.2.2.1.length ≤ k.2.1 ∧ (k.2.2.2 = .full ∨ k.2.2.2 = .own t_string) ∧
          if k.2.1 ≤ s.length then partsP (splitS s) = (partsP (preP ((s.take k.2.1).drop k.1) (splitS (s.drop k.2.1)))).map (k.2.2.1 ++ ·) else partsP (splitS s) = some k.2.2.1) (m + 1) ([.str s, .vs 1 (out'.map wStr) r', .int .i64 ((k : Int) + 1), .int .i64 ((k : Int) + 1)], []) S'' := fun out' r' h1 h2 h3 S'' e =>
        ⟨m, (k + 1, k + 1, out', r'), by omega, rfl, e, Nat.le_refl _, by show k + 1 + m = _; omega, h2, h3, hr2 out' h1⟩
      have hgo : (k < s.length ∧ s[k]? = some 47) ∨ ¬ k < s.length := by
        by_cases ck2 : k < s.length
        · left
          refine ⟨ck2, ?_⟩
          by_cases e : s[k]? = some 47
          · exact e
          · exact absurd ⟨s[k], by simp [ck2], fun e2 => e (by simp [ck2, e2])⟩ hch
        · exact .inr ck2
      have u47 : (((47 : UInt8).toNat : Int) = 47) := rfl
      have hcut : cutStrA (.str s) (some (.int .i64 f)) (some (.int .i64 k)) = some (.str ((s.take k).drop f)) := by simp [hfk, ck]
      generalize List.drop f (List.take k s) = cur at hcl hr1 hcut
      rcases hgo with ⟨ck2, h1⟩ | ck2
      · have hchr : charA (.str s) (.int .i64 k) = some (.int .u8 (47 : UInt8).toNat) := by simp [h1]
        simp [hv, ck, ck2, hchr, hcut]
        by_cases p1 : cur = []
        · simp [p1]
          try simp (disch := omega) only [wrap64]
          exact fin out r (by rw [hr1, partsP, if_pos (.inl p1)]) (by omega) hr _ rfl
        by_cases p2 : cur = [46]
        · simp [p2]
          try simp (disch := omega) only [wrap64]
          exact fin out r (by rw [hr1, partsP, if_pos (.inr p2)]) (by omega) hr _ rfl
        have hadd : cur = [46, 46] ∨ nameR cur = true → partsP (splitS s) = (partsP rest).map ((out ++ [cur]) ++ ·) := fun h => by
          rw [hr1, partsP, if_neg (by simp [p1, p2]), if_pos h, Option.map_map]
          congr 1
          funext y
          simp
        by_cases p3 : cur = [46, 46]
        · have hx := hadd (.inl p3)
          simp [p3, appendA, elemsA, hr0, hlim, hrt]
          try simp (disch := omega) only [wrap64]
          rw [p3] at hx
          simpa using fin (out ++ [[46, 46]]) (.own t_string) hx (by simp; omega) (.inr rfl) _ rfl
        simp [p1, p2, p3]
        refine ref01_Right_A (by omega) ?_
        cases p4 : nameR cur with
        | true =>
          have hx := hadd (.inr p4)
          simp [appendA, elemsA, hr0, hlim, hrt]
          try simp (disch := omega) only [wrap64]
          simpa using fin (out ++ [cur]) (.own t_string) hx (by simp; omega) (.inr rfl) _ rfl
        | false =>
          rw [hr1, partsP, if_neg (by simp [p1, p2]), if_neg (by simp [p3, p4])] at hq
          simpa using hq
      · simp [hv, ck, ck2, hcut]
        by_cases p1 : cur = []
        · simp [p1]
          try simp (disch := omega) only [wrap64]
          exact fin out r (by rw [hr1, partsP, if_pos (.inl p1)]) (by omega) hr _ rfl
        by_cases p2 : cur = [46]
        · simp [p2]
          try simp (disch := omega) only [wrap64]
          exact fin out r (by rw [hr1, partsP, if_pos (.inr p2)]) (by omega) hr _ rfl
        have hadd : cur = [46, 46] ∨ nameR cur = true → partsP (splitS s) = (partsP rest).map ((out ++ [cur]) ++ ·) := fun h => by
          rw [hr1, partsP, if_neg (by simp [p1, p2]), if_pos h, Option.map_map]
          congr 1
          funext y
          simp
        by_cases p3 : cur = [46, 46]
        · have hx := hadd (.inl p3)
          simp [p3, appendA, elemsA, hr0, hlim, hrt]
          try simp (disch := omega) only [wrap64]
          rw [p3] at hx
          simpa using fin (out ++ [[46, 46]]) (.own t_string) hx (by simp; omega) (.inr rfl) _ rfl
        simp [p1, p2, p3]
        refine ref01_Right_A (by omega) ?_
        cases p4 : nameR cur with
        | true =>
          have hx := hadd (.inr p4)
          simp [appendA, elemsA, hr0, hlim, hrt]
          try simp (disch := omega) only [wrap64]
          simpa using fin (out ++ [cur]) (.own t_string) hx (by simp; omega) (.inr rfl) _ rfl
        | false =>
          rw [hr1, partsP, if_neg (by simp [p1, p2]), if_neg (by simp [p3, p4])] at hq
          simpa using hq
  · rw [if_neg ck] at hx
    rw [hx] at hq
    simp [hv, ck]
    have := hq r.strip (by rcases hr with rfl | rfl <;> simp [Rt.strip]) (by rcases hr with rfl | rfl <;> simp [Rt.strip])
    simpa using this
end Go.Av
