/- Parts of the proofs of this seat: abstract values over the model, and what the functions of the program do. No condition. -/
import Derived.Test.YtgegfcblacmbeaaDoorM11
import Derived.Test.YtgegfcblacmbeaaDoorD0
import Derived.Test.YtgegfcblacmbeaaDoorM13
import Derived.Test.YtgegfcblacmbeaaDoorY01
import Derived.Shelf.Strings.Split
import Derived.Shelf.Lay
import Derived.Shelf.Vars
import Derived.Shelf.LaySoft
set_option linter.all false
set_option linter.unusedVariables false
/-! strings.Split. -/
namespace Go.Proofs
open Go.Shelf Go.Av
shelf_lay Lays.n146 Nm 146 at Tryd as Tryd.lays146
end Go.Proofs
namespace Go.Av
open Go.Proofs Go.Shelf
/-- The variable that the shelf's contracts ask for holds a number. -/
def MaxL (w0 : World) : Prop := ∃ m, w0.cell? ⟨Tryd.lays146_ren.g 1, 0, none⟩ = some (.int .i64 m)
theorem maxL_shaped {W : World} (h : W.ShapedOpen Tryd.prog) : MaxL W := cell_of_shapedOpen_int (zero := #[.int .i64 0]) (t := t_int) h (of_decide_eq_true (by kernel_rfl)) (by kernel_rfl) rfl (by kernel_rfl) (by kernel_rfl) un_int
theorem cell_old {E : Env} {G : Gh} {w : World} {S : St} (h : Rel E G w S) {b o : Nat} {v : Value} (hc : E.w0.cell? ⟨b, o, none⟩ = some v) : w.cell? ⟨b, o, none⟩ = some v := by
  have hlt : b < E.w0.heap.size := by
    unfold World.cell? at hc
    split at hc
    · rename_i c e fz hh
      exact (Array.getElem?_eq_some_iff.1 hh).1
    · cases hc
  rw [← hc]
  exact World.cell?_of_block (w := E.w0) (h.old b hlt).1
set_option maxRecDepth 100000 in
theorem Split_A {w0 : World} {S : St} {s : Str} (hm : MaxL w0) (hs : s.length < 4294967281) {Q : AV → St → Prop} (hq : Q (.vs 1 ((splitS s).map fun s => [.str s]) .full) S) :
    AC w0 F_strings_Split [.str s, .str [47]] S Q := by
  refine ACalls.of_strs fn_strings_Split (by kernel_rfl) (by kernel_rfl) fun G w args' hr hl' ha => ?_
  obtain ⟨v, u, rfl⟩ : ∃ v u, args' = #[v, u] := by
    match args', hl' with
    | ⟨[v, u]⟩, _ => exact ⟨v, u, rfl⟩
  have h0' := ha 0 _ v rfl rfl
  have h1' := ha 1 _ u rfl rfl
  cases h0'
  cases h1'
  obtain ⟨m, hm⟩ := hm
  refine (Any.strings_Split Tryd.lays146 (by kernel_rfl) ⟨s.toArray⟩ ⟨#[47]⟩ m w (by simpa [ByteArray.size] using hs) (cell_old hr hm) (by decide)).mono ?_
  rintro e w' ⟨rfl, rfl⟩
  have hd : (Lib.splitB ⟨#[47]⟩ 0 (Lib.countB ⟨s.toArray⟩ ⟨#[47]⟩) ⟨s.toArray⟩).map (·.data.toList) = splitS s := by
    rw [Lib.splitB_data]
    exact splitS_eq s
  have hlen : (splitS s).length = Lib.countB ⟨s.toArray⟩ ⟨#[47]⟩ + 1 := by
    rw [← hd, List.length_map]
    exact Lib.splitB_all ⟨#[47]⟩ (by decide) 0 _ ⟨s.toArray⟩ rfl
  have he : (Lib.splitB ⟨#[47]⟩ 0 (Lib.countB ⟨s.toArray⟩ ⟨#[47]⟩) ⟨s.toArray⟩).map Value.string = (splitS s).map fun s => Value.string ⟨s.toArray⟩ := by
    rw [← hd, List.map_map]
    rfl
  refine ⟨splitS s, Tryd.lays146_ren.t 9, ?_, ?_, hq⟩
  · rw [hlen]
  · rw [he]
end Go.Av
