/- Parts of the proofs of this seat: abstract values over the model, and what the functions of the program do. No condition. -/
import Derived.Test.YtdjfhghokfiieaaDoorM8
import Derived.Test.YtdjfhghokfiieaaDoorD1
import Derived.Test.YtdjfhghokfiieaaDoorM10
import Derived.Shelf.Lay
import Derived.Shelf.LaySoft
import Derived.Shelf.Strings.OnBuilder
import Derived.Shelf.Strings.LastIndex
set_option linter.all false
set_option maxRecDepth 100000
namespace Go.Proofs
open Go.Shelf Go.Av
shelf_lay Lays.n156 Nm 156 at Tryd as Tryd.lays156
theorem Tryd.Builder_Extra_156 : Builder.Extra Tryd.prog Tryd.lays156_ren where
 sizeBuilder := by kernel_rfl
 liesBuilder := by kernel_rfl
 t5 := NT
 a5 := OA
 z5 := Ni
 v5 := Nj
 infoByte := by kernel_rfl
 cellsByte := by kernel_rfl
 sizeByte := by kernel_rfl
 neB5 := by decide
end Go.Proofs
namespace Go.Av
open Go.Proofs Go.Shelf
set_option maxRecDepth 100000 in
theorem SY {w0 : World} {S : St} {l : List Str} {r : Rt} {sep : Str} (hl : l.length ≤ 140737488355328) (hn : (Lib.join l sep).length ≤ 140737488355328) {Q : AV → St → Prop} (hq : Q (.str (Lib.join l sep)) S) :
  AC w0 Gi [.vs 1 (l.map Dj) r, .str sep] S Q := by
 refine AW.of_below_rel Jf (by kernel_rfl) (by kernel_rfl) fun G w args' hrel hl' ha => ?_
 obtain ⟨v, u, rfl⟩ : ∃ v u, args' = #[v, u] := by
  match args', hl' with
  | ⟨[v, u]⟩, _ => exact ⟨v, u, rfl⟩
 have h0' := ha 0 _ v rfl rfl
 have h1' := ha 1 _ u rfl rfl
 cases h1'
 have emp : l = [] → ∀ (a : Option Addr) (c : Nat), Calls Tryd.prog (Tryd.lays156_ren.f 156) #[.slice a 0 c, .string ⟨sep.toArray⟩] w fun e w' => ∃ v r, e = .returned v ∧ RowKit.Below w.heap.size w w' ∧ VR G v r ∧ r.cell1 = true ∧ Q r S := fun hl0 a c => by
  subst hl0
  refine (Any.strings_Join_none Tryd.lays156 Tryd.Builder_Extra_156 a c ⟨sep.toArray⟩ w).mono ?_
  rintro e w' ⟨rfl, rfl⟩
  exact ⟨_, .str _, rfl, RowKit.Below.refl _ _, .str [], rfl, hq⟩
 have hlm : (l.map Dj).length = l.length := List.length_map ..
 generalize hes : l.map Dj = es at h0' hlm
 cases h0' with
 | vsnil => exact emp (List.length_eq_zero_iff.1 hlm.symm) _ _
 | vse a sz r hr => exact emp (List.length_eq_zero_iff.1 hlm.symm) _ _
 | vs b o cap sz es' r f hr hc hf hs h h2 =>
  subst hes
  rw [hlm] at hc ⊢
  have hcell : ∀ (j : Nat) (x : ByteArray), (l.map fun s : Str => (⟨s.toArray⟩ : ByteArray))[j]? = some x → w.cell? ⟨b, o + j, none⟩ = some (.string x) := fun j x hx => by
   rw [List.getElem?_map, Option.map_eq_some_iff] at hx
   obtain ⟨s, hs', rfl⟩ := hx
   have e1 : (l.map Dj)[j]? = some (Dj s) := by simp [hs']
   have k1 := h j _ 0 _ e1 rfl
   have k2 := h2 j _ 0 _ e1 rfl
   have k3 := hrel.imm _ _ _ k1
   have : f j 0 = .string ⟨s.toArray⟩ := by
    generalize f j 0 = y at k2
    cases k2
    rfl
   rw [this] at k3
   simpa using k3
  by_cases hl0 : l = []
  ·subst hl0
   exact emp rfl _ _
  have hb : b < w.heap.size := by
   obtain ⟨s, tl, rfl⟩ : ∃ s tl, l = s :: tl := by
    cases l with
    | nil => exact absurd rfl hl0
    | cons s tl => exact ⟨s, tl, rfl⟩
   have := hcell 0 _ rfl
   unfold World.cell? at this
   split at this
   ·rename_i c e fz hh
    exact (Array.getElem?_eq_some_iff.1 hh).1
   ·cases this
  have hm : (l.map fun s : Str => (⟨s.toArray⟩ : ByteArray)).map (fun x : ByteArray => x.data.toList) = l := by
   rw [List.map_map]
   conv => rhs; rw [← List.map_id l]
   congr 1
  have := Any.strings_Join Tryd.lays156 Tryd.Builder_Extra_156 b o cap (l.map fun s : Str => (⟨s.toArray⟩ : ByteArray)) ⟨sep.toArray⟩ w hcell hb (by simpa using hl) (by simpa using hc) (by rw [hm]; exact hn)
  rw [hm, List.length_map] at this
  refine this.mono ?_
  rintro e w' ⟨rfl, hbl⟩
  exact ⟨_, .str _, rfl, hbl, .str _, rfl, hq⟩
end Go.Av
