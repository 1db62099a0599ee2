/- Parts of the proofs of this seat: abstract values over the model, and what the functions of the program do. No condition. -/
import Derived.Test.YtdjfhghokfiieaaGreatDoorM9
import Derived.Test.YtdjfhghokfiieaaGreatDoorD0
import Derived.Test.YtdjfhghokfiieaaGreatDoorM11
import Derived.Test.YtdjfhghokfiieaaGreatDoorM15
import Derived.Test.YtdjfhghokfiieaaGreatDoorM22
import Derived.Shelf.Strings.Builder1
import Derived.Shelf.Lay
import Derived.Shelf.LaySoft
set_option linter.all false
set_option maxRecDepth 100000
namespace Go.Proofs
open Go.Shelf Go.Av
end Go.Proofs
namespace Go.Av
open Go.Proofs Go.Shelf
def cd (S : St) (id : Nat) (l : Str) : Prop :=
 ∃ c r, S[id]? = some (.cells [c, .vs 1 (byteCells l) r] E9) ∧ (c = .nil ∨ c = .ptr id 0) ∧ (r = .nil ∧ l = [] ∨ r = .own KA ∧ l ≠ [])
theorem cd.lt {S : St} {id : Nat} {l : Str} (h : cd S id l) : id < S.length := by
 obtain ⟨c, r, h, _⟩ := h
 exact (List.getElem?_eq_some_iff.1 h).1
end Go.Av
