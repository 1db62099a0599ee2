/- Parts of the proofs of this seat: abstract values over the model, and what the functions of the program do. No condition. -/
import Derived.Test.YtehadbpejfjheaaGreatDoorM8
import Derived.Test.YtehadbpejfjheaaGreatDoorM9
import Derived.Test.YtehadbpejfjheaaGreatDoorD0
import Derived.Test.YtehadbpejfjheaaGreatDoorM12
import Derived.Test.YtehadbpejfjheaaGreatDoorM16
import Derived.Test.YtehadbpejfjheaaGreatDoorM24
import Derived.Shelf.Strings.Builder1
import Derived.Shelf.Lay
import Derived.Shelf.LaySoft
import Derived.Shelf.Strings.Repeat
set_option linter.all false
set_option maxRecDepth 100000
namespace Go.Proofs
open Go.Shelf Go.Av
shelf_lay Lays.n105 Nm 105 at Tryz as Tryz.lays105
end Go.Proofs
namespace Go.Av
open Go.Proofs Go.Shelf
def Bld(S:St)(id:Nat)(l:Str):Prop:=
 ∃c r,S[id]? =some (.cells [c,.vs 1 (byteCells l) r] LM)∧(c= .nil∨c= .ptr id 0)∧(r= .nil∧l=[]∨r= .own dy∧l≠[])
theorem Bld.lt{S:St}{id:Nat}{l:Str}(h:Bld S id l):id < S.length:=by
 obtain⟨c,r,h,_⟩:=h;exact(List.getElem?_eq_some_iff.1 h).1
end Go.Av
