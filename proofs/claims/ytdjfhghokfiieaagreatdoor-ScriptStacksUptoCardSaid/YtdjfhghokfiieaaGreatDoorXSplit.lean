/- Parts of the proofs of this seat: abstract values over the model, and what the functions of the program do. No condition. -/
import Derived.Test.YtdjfhghokfiieaaGreatDoorM9
import Derived.Test.YtdjfhghokfiieaaGreatDoorD0
import Derived.Test.YtdjfhghokfiieaaGreatDoorM11
import Derived.Test.YtdjfhghokfiieaaGreatDoorY01
import Derived.Test.YtdjfhghokfiieaaGreatDoorXSA
import Derived.Shelf.Strings.Split
import Derived.Shelf.Lay
import Derived.Shelf.Vars
import Derived.Shelf.LaySoft
set_option linter.all false
set_option maxRecDepth 100000
namespace Go.Proofs
open Go.Shelf Go.Av
shelf_lay Lays.n146 Nm 146 at Tryz as Tryz.lays146
end Go.Proofs
namespace Go.Av
open Go.Proofs Go.Shelf
def If (w0 : World) : Prop := ∃ m, w0.cell? ⟨Tryz.lays146_ren.g 1, 0, none⟩ = some (.int .i64 m)
theorem TE {W : World} (h : W.ShapedOpen Tryz.prog) : If W := cell_of_shapedOpen_int (zero := #[.int .i64 0]) (t := DH) h (of_decide_eq_true (by kernel_rfl)) (by kernel_rfl) rfl (by kernel_rfl) (by kernel_rfl) Ro
theorem H9 {E : Env} {G : Gh} {w : World} {S : St} (h : Rel E G w S) {b o : Nat} {v : Value} (hc : E.w0.cell? ⟨b, o, none⟩ = some v) : w.cell? ⟨b, o, none⟩ = some v := by
 have hlt : b < E.w0.heap.size := by
  unfold World.cell? at hc
  split at hc
  ·rename_i c e fz hh
   exact (Array.getElem?_eq_some_iff.1 hh).1
  ·cases hc
 rw [← hc]
 exact World.cell?_of_block (w := E.w0) (h.old b hlt).1
set_option maxRecDepth 100000 in
theorem ZI {w0 : World} {S : St} {s : Str} (hm : If w0) (hs : s.length < 4294967281) {Q : AV → St → Prop} (hq : Q (.vs 1 ((BA s).map fun s => [.str s]) .full) S) :
  AC w0 Da [.str s, .str [47]] S Q := by
 refine AM.of_strs H3 (by kernel_rfl) (by kernel_rfl) fun G w args' hr hl' ha => ?_
 obtain ⟨v, u, rfl⟩ : ∃ v u, args' = #[v, u] := by
  match args', hl' with
  | ⟨[v, u]⟩, _ => exact ⟨v, u, rfl⟩
 have h0' := ha 0 _ v rfl rfl
 have h1' := ha 1 _ u rfl rfl
 cases h0'
 cases h1'
 obtain ⟨m, hm⟩ := hm
 refine (Any.strings_Split Tryz.lays146 (by kernel_rfl) ⟨s.toArray⟩ ⟨#[47]⟩ m w (by simpa [ByteArray.size] using hs) (H9 hr hm) (by decide)).mono ?_
 rintro e w' ⟨rfl, rfl⟩
 have hd : (Lib.splitB ⟨#[47]⟩ 0 (Lib.countB ⟨s.toArray⟩ ⟨#[47]⟩) ⟨s.toArray⟩).map (·.data.toList) = BA s := by
  rw [Lib.splitB_data]
  exact Qv s
 have hlen : (BA s).length = Lib.countB ⟨s.toArray⟩ ⟨#[47]⟩ + 1 := by
  rw [← hd, List.length_map]
  exact Lib.splitB_all ⟨#[47]⟩ (by decide) 0 _ ⟨s.toArray⟩ rfl
 have he : (Lib.splitB ⟨#[47]⟩ 0 (Lib.countB ⟨s.toArray⟩ ⟨#[47]⟩) ⟨s.toArray⟩).map Value.string = (BA s).map fun s => Value.string ⟨s.toArray⟩ := by
  rw [← hd, List.map_map]
  rfl
 refine ⟨BA s, Tryz.lays146_ren.t 9, ?_, ?_, hq⟩
 ·rw [hlen]
 ·rw [he]
open Go.Proofs
theorem Ge {α : Type} {s : List α} (h : s ≠ []) : List.isEmpty s = false := by
 cases s with
 | nil => exact absurd rfl h
 | cons _ _ => rfl
theorem US (x y : UInt8) : (x == y) = decide (x.toNat = y.toNat) := by
 rw [Bool.eq_iff_iff]
 simp [UInt8.toNat_inj]
theorem LZ {w0 : World} {S : St} {s : Str} (hs : s.length < 4294967281) {Q : AV → St → Prop} (hq : Q (.bool (FN s)) S) : AC w0 GH [.str s] S Q := by
 apply P8
 unfold IY
 unfold FN at hq
 by_cases c1 : s = []
 ·simpa [c1, AD] using hq
 have e1 := Ge c1
 by_cases c2 : s = [46]
 ·simpa [c1, c2, AD] using hq
 by_cases c3 : s = [46, 46]
 ·simpa [c1, c2, c3, AD] using hq
 by_cases c4 : s.length ≤ 64
 ·have c4' : (s.length : Int) ≤ 64 := by omega
  have b2 : (s == [46]) = false := beq_eq_false_iff_ne.2 c2
  have b3 : (s == [46, 46]) = false := beq_eq_false_iff_ne.2 c3
  simp [e1, b2, b3, c4', AD]
  refine QC (c0 := 47) (c1 := 0) (by decide) (by decide) hs ?_
  simpa [e1, c2, c3, c4, bne, b2, b3] using hq
 ·have c4' : ¬ (s.length : Int) ≤ 64 := by omega
  have b2 : (s == [46]) = false := beq_eq_false_iff_ne.2 c2
  have b3 : (s == [46, 46]) = false := beq_eq_false_iff_ne.2 c3
  simp [e1, b2, b3, c4', AD]
  simpa [e1, b2, b3, c4, bne] using hq
theorem Hg {w0 : World} {S : St} {s : Str} (hs : s.length ≤ 1048576) {Q : AV → St → Prop} (hq : Q (.bool (FN s)) S) : AC w0 Fm [.str s] S Q := by
 apply N6
 unfold Hi
 unfold FN at hq
 by_cases c1 : s = []
 ·simpa [c1, AD] using hq
 have e1 := Ge c1
 by_cases c2 : s = [46]
 ·simpa [c1, c2, AD] using hq
 by_cases c3 : s = [46, 46]
 ·simpa [c1, c2, c3, AD] using hq
 have b2 : (s == [46]) = false := beq_eq_false_iff_ne.2 c2
 have b3 : (s == [46, 46]) = false := beq_eq_false_iff_ne.2 c3
 by_cases c4 : s.length ≤ 64
 ·have c4' : ¬ 64 < (s.length : Int) := by omega
  have hq' : Q (.bool (!(s.any fun b => b == 47 || b == 0))) S := by simpa [e1, b2, b3, c4, bne] using hq
  simp only [AD]
  simp [e1, b2, b3, c4', AD]
  refine BI s (fun i (_ : Unit) => ([.int .i64 i], [])) (fun i _ S' => S' = S ∧ (s.any fun b => b == 47 || b == 0) = ((s.drop i).any fun b => b == 47 || b == 0)) () rfl (by simp) ?_ ?_
  ·rintro i _ S' v b x c hxi hd hc hm ⟨rfl, hx⟩ hv
   simp at hv
   simp [hv, hc, hxi]
   rw [hd, List.any_cons] at hx
   have u47 : (x == 47) = decide (x.toNat = 47) := US x 47
   have u0 : (x == 0) = decide (x.toNat = 0) := US x 0
   rw [u47, u0] at hx
   by_cases h1 : x.toNat = 47
   ·have h1' : (x.toNat : Int) = 47 := by omega
    have hx2 : (s.any fun b => b == 47 || b == 0) = true := by rw [hx]; simp [h1]
    rw [hx2] at hq'
    simpa [h1', h1] using hq'
   have h1' : ¬ (x.toNat : Int) = 47 := by omega
   by_cases h2 : x.toNat = 0
   ·have hx2 : (s.any fun b => b == 47 || b == 0) = true := by rw [hx]; simp [h2]
    rw [hx2] at hq'
    simpa [h1', h2] using hq'
   ·simp [h1', h2]
    simp only [h1, h2, decide_false, Bool.false_or] at hx
    try simp (disch := omega) only [wrap64]
    exact .next c () rfl ⟨rfl, hx⟩
  ·rintro _ S' v b ⟨rfl, hx⟩ hv N
   simp at hv
   simp [hv]
   rw [hx] at hq'
   simpa using hq'
 ·have c4' : 64 < (s.length : Int) := by omega
  simp [e1, b2, b3, c4', AD]
  simpa [e1, b2, b3, c4, bne] using hq
set_option maxHeartbeats 1000000 in
theorem RY {w0 : World} {S : St} {s : Str} (hm : If w0) (hs : s.length ≤ 1048576) {Q : AV → St → Prop}
  (hq : match IV s with
   | none => Q (.tup [.vs 1 [] .nil, .bool false, .int .i64 1]) S
   | some l => ∀ r, (r = .nil → l = []) → (r = .nil ∨ r = .own CN) → Q (.tup [.vs 1 (l.map CH) r, .bool (s.head? == some 47), .int .i64 0]) S) : AC w0 Ir [.str s] S Q := by
 apply Pm
 unfold Iq
 unfold IV at hq
 by_cases c1 : s = []
 ·simpa [c1, AD] using hq
 have e1 := Ge c1
 by_cases c2 : 1024 < s.length
 ·have c2' : (1024 : Int) < s.length := by omega
  simpa [e1, c1, c2, c2', AD] using hq
 have c2' : ¬ (1024 : Int) < s.length := by omega
 rw [if_neg (by simp [c1, c2])] at hq
 simp [e1, c2', AD]
 refine ZI hm (by omega) ?_
 simp
 have hsl := PW s
 have hap := KE s
 generalize BA s = l at hq hsl hap
 refine BI l (fun i (a : List Str × Rt) => ([.vs 1 (a.1.map CH) a.2, .int .i64 i], [])) (fun i a S' => S' = S ∧ Be l = (Be (l.drop i)).map (a.1 ++ ·) ∧ a.1.length ≤ i ∧ (a.2 = .nil ∧ a.1 = [] ∨ a.2 = .own CN)) ([], .nil) rfl ⟨rfl, by simp, by simp, by simp⟩ ?_ ?_
 ·rintro i ⟨acc, ra⟩ S' v b x c hxi hd hc hm' ⟨rfl, hx, hal, hra⟩ hv
  simp at hv hx hal hra
  have hra' : ra ≠ .none := by rcases hra with ⟨rfl, _⟩ | rfl <;> simp
  have hrt : Cy AF ra = CN := by rcases hra with ⟨rfl, _⟩ | rfl <;> rfl
  have hlim : acc.length + 1 ≤ lim := by unfold lim; have := hsl.1; omega
  simp [hv, hc, hxi]
  rw [hd, Be] at hx
  by_cases h1 : x = []
  ·simp [h1] at hx ⊢
   try simp (disch := omega) only [wrap64]
   exact .next c (acc, ra) rfl ⟨rfl, hx, by simp; omega, hra⟩
  by_cases h2 : x = [46]
  ·simp [h2] at hx ⊢
   try simp (disch := omega) only [wrap64]
   exact .next c (acc, ra) rfl ⟨rfl, hx, by simp; omega, hra⟩
  have e1 := Ge h1
  have b2 : (x == [46]) = false := beq_eq_false_iff_ne.2 h2
  have hadd : x = [46, 46] ∨ FN x = true → Be l = (Be (l.drop (i + 1))).map ((acc ++ [x]) ++ ·) := fun h => by
   rw [hx, if_neg (by simp [h1, h2]), if_pos h, Option.map_map]
   congr 1
   funext y
   simp
  by_cases h3 : x = [46, 46]
  ·have hx := hadd (.inl h3)
   subst h3
   simp [Ao, A6, hra', hlim, hrt]
   try simp (disch := omega) only [wrap64]
   exact .next c (acc ++ [[46, 46]], .own CN) (by simp) ⟨rfl, hx, by simp; omega, .inr rfl⟩
  have b3 : (x == [46, 46]) = false := beq_eq_false_iff_ne.2 h3
  simp [e1, b2, b3, h1, h2, h3]
  refine LZ (by have := hsl.2 x hm'; omega) ?_
  cases h4 : FN x with
  | true =>
   have hx := hadd (.inr h4)
   simp [Ao, A6, hra', hlim, hrt]
   try simp (disch := omega) only [wrap64]
   exact .next c (acc ++ [x], .own CN) (by simp) ⟨rfl, hx, by simp; omega, .inr rfl⟩
  | false =>
   rw [if_neg (by simp [h1, h2]), if_neg (by simp [h3, h4])] at hx
   rw [hx] at hq
   simpa using hq
 ·rintro ⟨acc, ra⟩ S' v b ⟨rfl, hx, hal, hra⟩ hv N
  simp at hv hx hal hra
  simp [Be] at hx
  rw [hx] at hq
  obtain ⟨y, tl, rfl⟩ : ∃ y tl, s = y :: tl := by
   cases s with
   | nil => exact absurd rfl c1
   | cons y tl => exact ⟨y, tl, rfl⟩
  simp [hv]
  have e47 : ((y.toNat : Int) = 47) = (y.toNat = 47) := propext (by omega)
  have := hq ra (by rcases hra with ⟨rfl, h⟩ | rfl <;> simp [*]) (by rcases hra with ⟨rfl, h⟩ | rfl <;> simp)
  simpa [US, e47] using this
def Pl (cur : Str) : List Str → List Str
 | h :: t => (cur ++ h) :: t
 | [] => [cur]
theorem SU (s : Str) : Pl [] (BA s) = BA s := by
 cases h : BA s with
 | nil => exact absurd h (KE s)
 | cons h t => rfl
theorem U9 (cur s : Str) : Pl cur (BA (47 :: s)) = cur :: BA s := by simp [BA, Pl]
theorem Wl (cur s : Str) {c : UInt8} (hc : c ≠ 47) : Pl cur (BA (c :: s)) = Pl (cur ++ [c]) (BA s) := by
 cases h : BA s with
 | nil => exact absurd h (KE s)
 | cons h' t => simp [BA, hc, h, Pl]
set_option maxHeartbeats 1000000 in
theorem Pk {w0 : World} {S : St} {s : Str} (hs : s.length ≤ 1048576) {Q : AV → St → Prop}
  (hq : match IV s with
   | none => Q (.tup [.vs 1 [] .nil, .bool false]) S
   | some l => ∀ r, (r = .nil → l = []) → (r = .full ∨ r = .none) → Q (.tup [.vs 1 (l.map CH) r, .bool true]) S) : AC w0 Fl [.str s] S Q := by
 apply OU
 unfold Hn
 unfold IV at hq
 by_cases c1 : s = []
 ·simpa [c1, AD] using hq
 have e1 := Ge c1
 have hpos : 0 < s.length := List.length_pos_iff.2 c1
 have c1' : ¬ ((s.length : Int) < 1) := by omega
 have c1'' : decide ((s.length : Int) < 1) = false := decide_eq_false c1'
 by_cases c2 : 1024 < s.length
 ·have c2' : decide ((s.length : Int) > 1024) = true := decide_eq_true (by omega)
  have hq' : Q (.tup [.vs 1 [] .nil, .bool false]) S := by simpa [c1, c2] using hq
  rw [c1'', c2']
  simpa [AD] using hq'
 have c2' : decide ((s.length : Int) > 1024) = false := decide_eq_false (by omega)
 rw [if_neg (by simp [c1, c2])] at hq
 rw [c1'', c2']
 simp [AD]
 refine EH (fun k : Nat × Nat × List Str × Rt => ([.str s, .vs 1 (k.2.2.1.map CH) k.2.2.2, .int .i64 k.1, .int .i64 k.2.1], [])) (fun n k S' => S' = S ∧ k.1 ≤ k.2.1 ∧ k.2.1 + n = s.length + 1 ∧ k.2.2.1.length ≤ k.2.1 ∧ (k.2.2.2 = .full ∨ k.2.2.2 = .own CN) ∧
  if k.2.1 ≤ s.length then Be (BA s) = (Be (Pl ((s.take k.2.1).drop k.1) (BA (s.drop k.2.1)))).map (k.2.2.1 ++ ·) else Be (BA s) = some k.2.2.1) (s.length + 1) (0, 0, [], .full) rfl ⟨rfl, by simp, by simp, by simp, by simp, by simp [SU]⟩ ?_
 rintro n ⟨f, k, out, r⟩ S' v b ⟨rfl, hfk, hn, hol, hr, hx⟩ hv
 simp only at hfk hn hol hr hx
 simp at hv
 have hr0 : r ≠ .none := by rcases hr with rfl | rfl <;> simp
 have hrt : Cy AF r = CN := by rcases hr with rfl | rfl <;> rfl
 have hlim : out.length + 1 ≤ lim := by unfold lim; omega
 by_cases ck : k ≤ s.length
 ·rw [if_pos ck] at hx
  obtain ⟨m, rfl⟩ : ∃ m, n = m + 1 := ⟨n - 1, by omega⟩
  have hcl : ((s.take k).drop f).length ≤ 1024 := by simp; omega
  by_cases hch : ∃ c, s[k]? = some c ∧ c ≠ 47
  ·obtain ⟨c, h1, h2⟩ := hch
   have ck2 : k < s.length := (List.getElem?_eq_some_iff.1 h1).1
   have h2' : ¬ (c.toNat : Int) = 47 := fun e => h2 (UInt8.toNat_inj.1 (by show c.toNat = 47; omega))
   have hchr : DI (.str s) (.int .i64 k) = some (.int .u8 c.toNat) := by simp [h1]
   simp [hv, ck, ck2, hchr, h2']
   try simp (disch := omega) only [wrap64]
   refine ⟨m, (f, k + 1, out, r), by omega, rfl, rfl, by show f ≤ k + 1; omega, by show k + 1 + m = _; omega, by show out.length ≤ k + 1; omega, hr, ?_⟩
   show if k + 1 ≤ s.length then _ else _
   rw [if_pos (by omega), hx]
   have hd : s.drop k = c :: s.drop (k + 1) := by rw [List.drop_eq_getElem_cons ck2]; congr 1; exact (List.getElem?_eq_some_iff.1 h1).2
   have ht : (s.take (k + 1)).drop f = (s.take k).drop f ++ [c] := by
    rw [List.take_add_one, h1, List.drop_append_of_le_length (by simp; omega)]
    rfl
   rw [hd, Wl _ _ h2, ht]
  ·obtain ⟨rest, hr1, hr2⟩ : ∃ rest, Be (BA s) = (Be ((s.take k).drop f :: rest)).map (out ++ ·) ∧ ∀ out', Be (BA s) = (Be rest).map (out' ++ ·) →
     if k + 1 ≤ s.length then Be (BA s) = (Be (Pl ((s.take (k + 1)).drop (k + 1)) (BA (s.drop (k + 1))))).map (out' ++ ·) else Be (BA s) = some out' := by
    have hnil : (s.take (k + 1)).drop (k + 1) = [] := by rw [List.drop_eq_nil_iff]; simp; omega
    by_cases ck2 : k < s.length
    ·have h1 : s[k]? = some 47 := by
      by_cases e : s[k]? = some 47
      ·exact e
      ·exact absurd ⟨s[k], by simp [ck2], fun e2 => e (by simp [ck2, e2])⟩ hch
     have hd : s.drop k = 47 :: s.drop (k + 1) := by rw [List.drop_eq_getElem_cons ck2]; congr 1; exact (List.getElem?_eq_some_iff.1 h1).2
     rw [hd, U9] at hx
     refine ⟨_, hx, fun out' h => ?_⟩
     rw [if_pos (by omega), hnil, SU]
     exact h
    ·have hd : s.drop k = [] := by rw [List.drop_eq_nil_iff]; omega
     rw [hd] at hx
     refine ⟨[], by simpa [BA, Pl] using hx, fun out' h => ?_⟩
     rw [if_neg (by omega)]
     simpa [Be] using h
   clear hx
   have fin : ∀ out' r', (Be (BA s) = (Be rest).map (out' ++ ·)) → out'.length ≤ k + 1 → (r' = .full ∨ r' = .own CN) → ∀ S'', S'' = S' → Nx (fun k : Nat × Nat × List Str × Rt => ([.str s, .vs 1 (k.2.2.1.map CH) k.2.2.2, .int .i64 k.1, .int .i64 k.2.1], [])) (fun n k S'' => S'' = S' ∧ k.1 ≤ k.2.1 ∧ k.2.1 + n = s.length + 1 ∧ k.2.2.1.length ≤ k.2.1 ∧ (k.2.2.2 = .full ∨ k.2.2.2 = .own CN) ∧
     if k.2.1 ≤ s.length then Be (BA s) = (Be (Pl ((s.take k.2.1).drop k.1) (BA (s.drop k.2.1)))).map (k.2.2.1 ++ ·) else Be (BA s) = some k.2.2.1) (m + 1) ([.str s, .vs 1 (out'.map CH) r', .int .i64 ((k : Int) + 1), .int .i64 ((k : Int) + 1)], []) S'' := fun out' r' h1 h2 h3 S'' e =>
    ⟨m, (k + 1, k + 1, out', r'), by omega, rfl, e, Nat.le_refl _, by show k + 1 + m = _; omega, h2, h3, hr2 out' h1⟩
   have hgo : (k < s.length ∧ s[k]? = some 47) ∨ ¬ k < s.length := by
    by_cases ck2 : k < s.length
    ·left
     refine ⟨ck2, ?_⟩
     by_cases e : s[k]? = some 47
     ·exact e
     ·exact absurd ⟨s[k], by simp [ck2], fun e2 => e (by simp [ck2, e2])⟩ hch
    ·exact .inr ck2
   have u47 : (((47 : UInt8).toNat : Int) = 47) := rfl
   have hcut : Ba (.str s) (some (.int .i64 f)) (some (.int .i64 k)) = some (.str ((s.take k).drop f)) := by simp [hfk, ck]
   generalize List.drop f (List.take k s) = cur at hcl hr1 hcut
   rcases hgo with ⟨ck2, h1⟩ | ck2
   ·have hchr : DI (.str s) (.int .i64 k) = some (.int .u8 (47 : UInt8).toNat) := by simp [h1]
    simp [hv, ck, ck2, hchr, hcut]
    by_cases p1 : cur = []
    ·simp [p1]
     try simp (disch := omega) only [wrap64]
     exact fin out r (by rw [hr1, Be, if_pos (.inl p1)]) (by omega) hr _ rfl
    by_cases p2 : cur = [46]
    ·simp [p2]
     try simp (disch := omega) only [wrap64]
     exact fin out r (by rw [hr1, Be, if_pos (.inr p2)]) (by omega) hr _ rfl
    have hadd : cur = [46, 46] ∨ FN cur = true → Be (BA s) = (Be rest).map ((out ++ [cur]) ++ ·) := fun h => by
     rw [hr1, Be, if_neg (by simp [p1, p2]), if_pos h, Option.map_map]
     congr 1
     funext y
     simp
    by_cases p3 : cur = [46, 46]
    ·have hx := hadd (.inl p3)
     simp [p3, Ao, A6, hr0, hlim, hrt]
     try simp (disch := omega) only [wrap64]
     rw [p3] at hx
     simpa using fin (out ++ [[46, 46]]) (.own CN) hx (by simp; omega) (.inr rfl) _ rfl
    simp [p1, p2, p3]
    refine Hg (by omega) ?_
    cases p4 : FN cur with
    | true =>
     have hx := hadd (.inr p4)
     simp [Ao, A6, hr0, hlim, hrt]
     try simp (disch := omega) only [wrap64]
     simpa using fin (out ++ [cur]) (.own CN) hx (by simp; omega) (.inr rfl) _ rfl
    | false =>
     rw [hr1, Be, if_neg (by simp [p1, p2]), if_neg (by simp [p3, p4])] at hq
     simpa using hq
   ·simp [hv, ck, ck2, hcut]
    by_cases p1 : cur = []
    ·simp [p1]
     try simp (disch := omega) only [wrap64]
     exact fin out r (by rw [hr1, Be, if_pos (.inl p1)]) (by omega) hr _ rfl
    by_cases p2 : cur = [46]
    ·simp [p2]
     try simp (disch := omega) only [wrap64]
     exact fin out r (by rw [hr1, Be, if_pos (.inr p2)]) (by omega) hr _ rfl
    have hadd : cur = [46, 46] ∨ FN cur = true → Be (BA s) = (Be rest).map ((out ++ [cur]) ++ ·) := fun h => by
     rw [hr1, Be, if_neg (by simp [p1, p2]), if_pos h, Option.map_map]
     congr 1
     funext y
     simp
    by_cases p3 : cur = [46, 46]
    ·have hx := hadd (.inl p3)
     simp [p3, Ao, A6, hr0, hlim, hrt]
     try simp (disch := omega) only [wrap64]
     rw [p3] at hx
     simpa using fin (out ++ [[46, 46]]) (.own CN) hx (by simp; omega) (.inr rfl) _ rfl
    simp [p1, p2, p3]
    refine Hg (by omega) ?_
    cases p4 : FN cur with
    | true =>
     have hx := hadd (.inr p4)
     simp [Ao, A6, hr0, hlim, hrt]
     try simp (disch := omega) only [wrap64]
     simpa using fin (out ++ [cur]) (.own CN) hx (by simp; omega) (.inr rfl) _ rfl
    | false =>
     rw [hr1, Be, if_neg (by simp [p1, p2]), if_neg (by simp [p3, p4])] at hq
     simpa using hq
 ·rw [if_neg ck] at hx
  rw [hx] at hq
  simp [hv, ck]
  have := hq r.strip (by rcases hr with rfl | rfl <;> simp [Rt.strip]) (by rcases hr with rfl | rfl <;> simp [Rt.strip])
  simpa using this
end Go.Av
