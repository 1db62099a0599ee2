/- Parts of the proofs of this seat: abstract values over the model, and what the functions of the program do. No condition. -/
import Derived.Test.YtdjfhghokfiieaaDoorM8
import Derived.Test.YtdjfhghokfiieaaDoorD0
import Derived.Test.YtdjfhghokfiieaaDoorM15
import Derived.Test.YtdjfhghokfiieaaDoorM10
import Derived.Shelf.Lay
import Derived.Shelf.LaySoft
import Derived.Shelf.Strings.Builder1
set_option linter.all false
set_option linter.unusedVariables false
set_option maxRecDepth 100000
namespace Go.Proofs
open Go.Shelf Go.Av
shelf_lay Lays.n156 Nm 156 at Tryd as Tryd.lays156d
theorem Tryd.lays240d : Lays.n240 Tryd.prog Tryd.lays156d_ren := let L := Tryd.lays156d; { L with }
theorem Tryd.lays169d : Lays.n169 Tryd.prog Tryd.lays156d_ren := let L := Tryd.lays156d; { L with }
theorem Tryd.Builder_Extra_240 : Builder.Extra Tryd.prog Tryd.lays156d_ren where
  sizeBuilder := by kernel_rfl
  liesBuilder := by kernel_rfl
  t5 := un_uint8
  a5 := ag_uint8
  z5 := sz_uint8
  v5 := zv_uint8
  infoByte := by kernel_rfl
  cellsByte := by kernel_rfl
  sizeByte := by kernel_rfl
  neB5 := by decide
end Go.Proofs
namespace Go.Av
open Go.Proofs Go.Shelf
def Bld (S : St) (id : Nat) (l : Str) : Prop :=
  ∃ c r, S[id]? = some (.cells [c, .vs 1 (byteCells l) r] t_strings_Builder) ∧ (c = .nil ∨ c = .ptr id 0) ∧ (r = .nil ∧ l = [] ∨ r = .own t_uint8 ∧ l ≠ [])
theorem copyCheck_A' {w0 : World} {S : St} {id : Nat} {c buf : AV} (hS : S[id]? = some (.cells [c, buf] t_strings_Builder)) (hc : c = .nil ∨ c = .ptr id 0) {Q : AV → St → Prop} (hq : ∀ r, Q r (S.set id (.cells [.ptr id 0, buf] t_strings_Builder))) :
    AC w0 F_strings_Builder_copyCheck [.ptr id 0] S Q :=
  AC_mono (copyCheck_A (E := En w0) Tryd.lays240d Tryd.Builder_Extra_240.toX72 (by decide) hS hc) (by rintro r S' rfl; exact hq r)
theorem Bld.lt {S : St} {id : Nat} {l : Str} (h : Bld S id l) : id < S.length := by
  obtain ⟨c, r, h, _⟩ := h
  exact (List.getElem?_eq_some_iff.1 h).1
theorem Builder_WriteByte_A {w0 : World} {S : St} {id : Nat} {l : Str} {c : UInt8} (h : Bld S id l) (hl : l.length + 1 ≤ lim) {Q : AV → St → Prop}
    (hq : ∀ S', S'.length = S.length → (∀ j, j ≠ id → S'[j]? = S[j]?) → Bld S' id (l ++ [c]) → Q .nilifc S') : AC w0 F_strings_Builder_WriteByte [.ptr id 0, .int .u8 c.toNat] S Q := by
  obtain ⟨c', r, h, hc, hr⟩ := h
  apply strings_Builder_WriteByte_ok
  unfold G_strings_Builder_WriteByte
  refine copyCheck_A' h hc fun _ => ?_
  have e1 := getSet_self (o' := .cells [.ptr id 0, .vs 1 (byteCells l) r] t_strings_Builder) h
  have e2 := getSet_self (o' := .cells [.ptr id 0, .vs 1 (byteCells l) r.strip] t_strings_Builder) e1
  simp [loadA_ptr e1, stripMem_ptr e1]
  have hra : (r ≠ .none ∧ (r = .nil ∨ True)) ∧ rowTy T_uint8 r = t_uint8 := by
    rcases hr with ⟨rfl, _⟩ | ⟨rfl, _⟩ <;> simp [rowTy]
  have hlen : (byteCells l).length + 1 ≤ lim := by simpa [byteCells] using hl
  simp [appendA, elemsA, hra.1.1, hlen, hra.2]
  rw [storeA_ptr (getSet_self h)]
  simp
  refine hq _ (by simp) (fun j hj => getSet_other (Ne.symm hj)) ⟨_, .own t_uint8, ?_, .inr rfl, .inr ⟨rfl, by simp⟩⟩
  rw [getSet_self h]
  simp [byteCells]
theorem Builder_String_A {w0 : World} {S : St} {id : Nat} {l : Str} (h : Bld S id l) (h63 : l.length ≤ lim) {Q : AV → St → Prop}
    (hq : ∀ S', S'.length = S.length → (∀ j, j ≠ id → S'[j]? = S[j]?) → Q (.str l) S') : AC w0 F_strings_Builder_String [.ptr id 0] S Q := by
  obtain ⟨c, r, h, hc, hr⟩ := h
  rcases hr with ⟨rfl, rfl⟩ | ⟨rfl, h0⟩
  · refine AC_mono (String_nil_A (E := En w0) Tryd.lays169d Tryd.Builder_Extra_240 (by decide) h) ?_
    rintro r S' ⟨rfl, rfl⟩
    exact hq _ rfl fun _ _ => rfl
  · refine AC_mono (String_A (E := En w0) Tryd.lays169d Tryd.Builder_Extra_240 (by decide) (by decide) h0 (by unfold lim at h63; omega) h) ?_
    rintro r S' ⟨rfl, rfl⟩
    exact hq _ (by simp) fun j hj => getSet_other (Ne.symm hj)
theorem Bld_new (S : St) : Bld (S ++ [.cells T_strings_Builder.zero t_strings_Builder]) S.length [] := ⟨.nil, .nil, by simp [byteCells], .inl rfl, .inl ⟨rfl, rfl⟩⟩
end Go.Av
