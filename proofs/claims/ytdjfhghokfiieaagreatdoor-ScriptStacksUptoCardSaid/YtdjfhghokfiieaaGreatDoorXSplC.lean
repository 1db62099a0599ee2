/- Parts of the proofs of this seat: abstract values over the model, and what the functions of the program do. No condition. -/
import Derived.Test.YtdjfhghokfiieaaGreatDoorXCut
import Derived.Test.YtdjfhghokfiieaaGreatDoorY25
import Derived.Test.YtdjfhghokfiieaaGreatDoorD0
set_option linter.all false
set_option maxRecDepth 100000
namespace Go.Av
open Go.Proofs Go.Shelf Go.RowKit
set_option maxRecDepth 100000 in
theorem Ta {w0 : World} {S : St} {s : Str} {c : UInt8} (hm : If w0) (hs : s.length < 4294967281) {Q : AV → St → Prop} (hq : Q (.vs 1 ((BO c s).map CH) .full) S) :
  AC w0 Da [.str s, .str [c]] S Q := by
 refine AM.of_strs H3 (by kernel_rfl) (by kernel_rfl) fun G w args' hr hl' ha => ?_
 obtain ⟨v, u, rfl⟩ : ∃ v u, args' = #[v, u] := by
  match args', hl' with
  | ⟨[v, u]⟩, _ => exact ⟨v, u, rfl⟩
 have h0' := ha 0 _ v rfl rfl
 have h1' := ha 1 _ u rfl rfl
 cases h0'
 cases h1'
 obtain ⟨m, hm⟩ := hm
 have hne : (⟨#[c]⟩ : ByteArray).size ≠ 0 := by simp [ByteArray.size]
 refine (Any.strings_Split Tryz.lays146 (by kernel_rfl) ⟨s.toArray⟩ ⟨#[c]⟩ m w (by simpa [ByteArray.size] using hs) (H9 hr hm) (by simp [ByteArray.size])).mono ?_
 rintro e w' ⟨rfl, rfl⟩
 have hd : (Lib.splitB ⟨#[c]⟩ 0 (Lib.countB ⟨s.toArray⟩ ⟨#[c]⟩) ⟨s.toArray⟩).map (·.data.toList) = BO c s := by
  rw [Lib.splitB_data]
  exact QW c s
 have hlen : (BO c s).length = Lib.countB ⟨s.toArray⟩ ⟨#[c]⟩ + 1 := by
  rw [← hd, List.length_map]
  exact Lib.splitB_all ⟨#[c]⟩ (by simp [ByteArray.size]) 0 _ ⟨s.toArray⟩ rfl
 have he : (Lib.splitB ⟨#[c]⟩ 0 (Lib.countB ⟨s.toArray⟩ ⟨#[c]⟩) ⟨s.toArray⟩).map Value.string = (BO c s).map fun s => Value.string ⟨s.toArray⟩ := by
  rw [← hd, List.map_map]
  rfl
 refine ⟨BO c s, Tryz.lays146_ren.t 9, ?_, ?_, hq⟩
 ·rw [hlen]
 ·rw [he]
end Go.Av
