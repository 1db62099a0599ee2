/- Parts of the proofs of this seat: abstract values over the model, and what the functions of the program do. No condition. -/
import Derived.Shelf.Strings.IndexAnyAll
import Derived.Lib.DecodeN
import Derived.Shelf.Small.Strs
import Derived.Shelf.Small.Utf8
import Derived.Laws.Runes
import Derived.WalkMore
set_option linter.all false
namespace Go.Proofs
open Go.Shelf Go.RowKit Go.Lib
variable {P : Program} {ρ : Ren}
set_option maxHeartbeats 2000000 in
set_option maxRecDepth 1000000 in
/-- IndexRune at the rune of an error, over ASCII bytes. -/
theorem IndexRune_err (L : Lays.n152 P ρ) (s : ByteArray) (w : World) (hascii : ∀ (j : Nat) b, s.data.toList[j]? = some b → b.toNat < 128) :
    Calls P (ρ.f 152) #[.string s, .int .i32 65533] w fun e w' => e = .returned (.int .i64 (-1)) ∧ ∃ pos, w' = w.iter s pos := by
  have HA : Aside (∀ (j : Nat) b, s.data.toList[j]? = some b → b.toNat < 128) := hascii
  clear hascii
  have t3 := L.t3; have a3 := L.a3; have z3 := L.z3; have v3 := L.v3
  have t4 := L.t4; have a4 := L.a4; have z4 := L.z4; have v4 := L.v4
  have t5 := L.t5; have a5 := L.a5; have z5 := L.z5; have v5 := L.v5
  have t9 := L.t9; have a9 := L.a9; have z9 := L.z9; have v9 := L.v9
  have t21 := L.t21; have a21 := L.a21; have z21 := L.z21; have v21 := L.v21
  go_enter L.f152, Body.n152_ntmps ρ
  go_wp2
  go_loopg [5, 6] s.size (fun g _ _ wx => ∃ i : Nat, i + g = s.size ∧ wx = w.iter s i)
  case atStart => exact ⟨0, by omega, rfl⟩
  case round =>
    obtain ⟨i, hig, rfl⟩ := hrel
    cases gk with
    | zero =>
      obtain rfl : i = s.size := by omega
      have hnx := run_next_end (P := P) w s s.size
      go_wp2
      go_ret
      exact ⟨rfl, _, rfl⟩
    | succ g =>
      have hi : i < s.size := by omega
      obtain ⟨x, hx⟩ : ∃ x : UInt8, s[i]'hi = x := ⟨_, rfl⟩
      have hxl : s.data.toList[i]? = some x := by rw [← hx]; exact Lib.data_getElem? s i hi
      have hx128 : x.toNat < 128 := HA.out i x hxl
      have hnx := fun ty => run_next_ascii (P := P) w s i ty hi (by rw [hx]; exact hx128)
      rw [hx] at hnx
      clear hxl hx
      have hne : ((x.toNat : Int) == 65533) = false := beq_eq_false_iff_ne.2 (by omega)
      go_wp2
      go_roundg g
      case measure => omega
      case rel => exact ⟨i + 1, by omega, rfl⟩
set_option maxHeartbeats 4000000 in
set_option maxRecDepth 1000000 in
/-- IndexRune at another rune that is no ASCII, over two ASCII bytes. -/
theorem IndexRune_two (L : Lays.n152 P ρ) (s : ByteArray) (c0 c1 : UInt8) (hs : s = ⟨#[c0, c1]⟩) (h0 : c0.toNat < 128) (h1 : c1.toNat < 128) (r : Int) (hr : 128 ≤ r) (hr2 : r ≤ 1114111) (hne : r ≠ 65533) (hv : Utf8.valid r = true) (w : World) :
    Calls P (ρ.f 152) #[.string s, .int .i32 r] w fun e w' => e = .returned (.int .i64 (-1)) ∧ Below w.heap.size w w' := by
  have t3 := L.t3; have a3 := L.a3; have z3 := L.z3; have v3 := L.v3
  have t4 := L.t4; have a4 := L.a4; have z4 := L.z4; have v4 := L.v4
  have t5 := L.t5; have a5 := L.a5; have z5 := L.z5; have v5 := L.v5
  have t9 := L.t9; have a9 := L.a9; have z9 := L.z9; have v9 := L.v9
  have t21 := L.t21; have a21 := L.a21; have z21 := L.z21; have v21 := L.v21
  have e137 : ∀ args w, (callFunc (ρ.f 137) args).run P w = .ok (.enter (ρ.f 137) args) w := enters_of L.f137 (by kernel_rfl) rfl
  have n1 : (r == 65533) = false := beq_eq_false_iff_ne.2 hne
  have n2 : decide (r < 128) = false := decide_eq_false (by omega)
  have n3 : decide ((0 : Int) ≤ r) = true := decide_eq_true (by omega)
  go_enter L.f152, Body.n152_ntmps ρ
  have e119 : ∀ args w, (callFunc (ρ.f 119) args).run P w = .ok (.enter (ρ.f 119) args) w := enters_of L.f119 (by kernel_rfl) rfl
  have hval : Lib.validRune r = true := by
    unfold Utf8.valid at hv
    unfold Lib.validRune
    simp at hv ⊢
    omega
  -- the bytes of the rune
  have hef := encode_facts r hv hr
  go_wp2_with (go_at_fn (ρ.f 119); refine (Any.utf8_ValidRune { L with } _ _).mono ?_; rintro e w' ⟨rfl, hw⟩; rw [hw, hval])
  have hconv : ∀ w, (convert (ρ.t 21) (ρ.t 9) (.int .i32 r)).run P w = .ok (.string (Utf8.encode r)) w := fun w => run_convert_int_string w _ _ _ _ (by rw [t21]; rfl) t9
  generalize Utf8.encode r = rs at hef hconv
  obtain ⟨k1, k2, k3⟩ := hef
  have k3 := k3 (by omega)
  generalize hb : rs[rs.size - 1]'(by omega) = bl at k3
  have hszs : s.size = 2 := by rw [hs]; rfl
  go_step3
  go_wp2
  go_loopg [9] 1 (fun g i wx => g = 1 ∧ i = Value.int .i64 ((rs.size : Int) - 1) ∧ wx = w)
  case atStart => exact ⟨rfl, rfl, rfl⟩
  case round =>
    obtain ⟨rfl, rfl, rfl⟩ := hrel
    by_cases c : rs.size = 2
    · have hi : ((rs.size : Int) - 1) = 1 := by omega
      simp only [hi]
      have hlt : ((1 : Int) < 2) := by omega
      have hb1 : rs[1]'(by omega) = bl := by rw [← hb]; congr 1; omega
      have hrsz : ((rs.size : Int)) = 2 := by omega
      simp only [hrsz]
      go_wp2
      go_step3
      go_wp2
      have mixed := L.mixed
      go_region_o
      go_wp2
      · have hE : ∀ c : UInt8, Lib.indexByte (s.extract 2 2).data.toList c = -1 := by intro c; subst hs; rfl
        have hs2 : ∀ c : Int, Lib.indexByte (ByteArray.mk #[]).data.toList c.toNat.toUInt8 = -1 := fun _ => rfl
        have hx : ((ByteArray.mk #[c0, c1]).extract 2 2) = ByteArray.mk #[] := rfl
        have hm : Lib.indexByte [] bl = -1 := rfl
        go_region_with_o (go_at_fn (ρ.f 137); refine (Any.strings_IndexByte { L with } _ _ _).mono ?_; rintro e w' ⟨rfl, hw⟩; rw [hw])
        all_goals (
          (try simp only [hm])
          go_wp2
          simp only [Exit.noGoto_ret, Exit.inBlock, Exit.then]
          go_ret
          exact ⟨rfl, (Below.refl _ _).drew.drew⟩)
      · exfalso
        have hlt1 : 1 < (ByteArray.mk #[c0, c1]).size := by simp [ByteArray.size]
        have hb' : ((((ByteArray.mk #[c0, c1])[1]'hlt1).toNat : Int) != (bl.toNat : Int)) = false := by assumption
        have hb' : ((c1.toNat : Int) != (bl.toNat : Int)) = false := hb'
        have : (c1.toNat : Int) = bl.toNat := by simpa using hb'
        omega
    · go_wp2
      rw [Exit.noGoto_ret]
      go_ret
      exact ⟨rfl, Below.refl _ _⟩
end Go.Proofs
