/- Parts of the proofs of this seat: abstract values over the model, and what the functions of the program do. No condition. -/
import Derived.Test.YtdjfhghokfiieaaDoorM8
import Derived.Test.YtdjfhghokfiieaaDoorD0
import Derived.Test.YtdjfhghokfiieaaDoorM16
import Derived.Test.YtdjfhghokfiieaaDoorM10
import Derived.Shelf.Lay
import Derived.Shelf.LaySoft
import Derived.Shelf.Strings.Builder1
set_option linter.all false
set_option maxRecDepth 100000
namespace Go.Proofs
open Go.Shelf Go.Av
shelf_lay Lays.n156 Nm 156 at Tryd as Tryd.lays156d
theorem Tryd.lays240d : Lays.n240 Tryd.prog Tryd.lays156d_ren := let L := Tryd.lays156d; { L with }
theorem Tryd.lays169d : Lays.n169 Tryd.prog Tryd.lays156d_ren := let L := Tryd.lays156d; { L with }
theorem Tryd.Builder_Extra_240 : Builder.Extra Tryd.prog Tryd.lays156d_ren where
 sizeBuilder := by kernel_rfl
 liesBuilder := by kernel_rfl
 t5 := NT
 a5 := OA
 z5 := Ni
 v5 := Nj
 infoByte := by kernel_rfl
 cellsByte := by kernel_rfl
 sizeByte := by kernel_rfl
 neB5 := by decide
end Go.Proofs
namespace Go.Av
open Go.Proofs Go.Shelf
def Bld (S : St) (id : Nat) (l : Str) : Prop :=
 ∃ c r, S[id]? = some (.cells [c, .vs 1 (byteCells l) r] BE) ∧ (c = .nil ∨ c = .ptr id 0) ∧ (r = .nil ∧ l = [] ∨ r = .own HD ∧ l ≠ [])
theorem Mb {w0 : World} {S : St} {id : Nat} {c buf : AV} (hS : S[id]? = some (.cells [c, buf] BE)) (hc : c = .nil ∨ c = .ptr id 0) {Q : AV → St → Prop} (hq : ∀ r, Q r (S.set id (.cells [.ptr id 0, buf] BE))) :
  AC w0 CO [.ptr id 0] S Q :=
 MM (M9 (E := En w0) Tryd.lays240d Tryd.Builder_Extra_240.toX72 (by decide) hS hc) (by rintro r S' rfl; exact hq r)
theorem Bld.lt {S : St} {id : Nat} {l : Str} (h : Bld S id l) : id < S.length := by
 obtain ⟨c, r, h, _⟩ := h
 exact (List.getElem?_eq_some_iff.1 h).1
theorem EH {w0 : World} {S : St} {id : Nat} {l : Str} {c : UInt8} (h : Bld S id l) (hl : l.length + 1 ≤ lim) {Q : AV → St → Prop}
  (hq : ∀ S', S'.length = S.length → (∀ j, j ≠ id → S'[j]? = S[j]?) → Bld S' id (l ++ [c]) → Q .nilifc S') : AC w0 BL [.ptr id 0, .int .u8 c.toNat] S Q := by
 obtain ⟨c', r, h, hc, hr⟩ := h
 apply ED
 unfold Bm
 refine Mb h hc fun _ => ?_
 have e1 := A3 (o' := .cells [.ptr id 0, .vs 1 (byteCells l) r] BE) h
 have e2 := A3 (o' := .cells [.ptr id 0, .vs 1 (byteCells l) r.strip] BE) e1
 simp [Ck e1, EO e1]
 have hra : (r ≠ .none ∧ (r = .nil ∨ True)) ∧ DE CN r = HD := by
  rcases hr with ⟨rfl, _⟩ | ⟨rfl, _⟩ <;> simp [DE]
 have hlen : (byteCells l).length + 1 ≤ lim := by simpa [byteCells] using hl
 simp [Bl, BH, hra.1.1, hlen, hra.2]
 rw [BZ (A3 h)]
 simp
 refine hq _ (by simp) (fun j hj => EP (Ne.symm hj)) ⟨_, .own HD, ?_, .inr rfl, .inr ⟨rfl, by simp⟩⟩
 rw [A3 h]
 simp [byteCells]
theorem Io {w0 : World} {S : St} {id : Nat} {l : Str} (h : Bld S id l) (h63 : l.length ≤ lim) {Q : AV → St → Prop}
  (hq : ∀ S', S'.length = S.length → (∀ j, j ≠ id → S'[j]? = S[j]?) → Q (.str l) S') : AC w0 Cv [.ptr id 0] S Q := by
 obtain ⟨c, r, h, hc, hr⟩ := h
 rcases hr with ⟨rfl, rfl⟩ | ⟨rfl, h0⟩
 ·refine MM (Mo (E := En w0) Tryd.lays169d Tryd.Builder_Extra_240 (by decide) h) ?_
  rintro r S' ⟨rfl, rfl⟩
  exact hq _ rfl fun _ _ => rfl
 ·refine MM (Qm (E := En w0) Tryd.lays169d Tryd.Builder_Extra_240 (by decide) (by decide) h0 (by unfold lim at h63; omega) h) ?_
  rintro r S' ⟨rfl, rfl⟩
  exact hq _ (by simp) fun j hj => EP (Ne.symm hj)
theorem RP (S : St) : Bld (S ++ [.cells BF.zero BE]) S.length [] := ⟨.nil, .nil, by simp [byteCells], .inl rfl, .inl ⟨rfl, rfl⟩⟩
end Go.Av
