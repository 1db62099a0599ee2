/- Parts of the proofs of this seat: abstract values over the model, and what the functions of the program do. No condition. -/
import Derived.Test.YtdjfhghokfiieaaGreatDoorM15
import Derived.Test.YtdjfhghokfiieaaGreatDoorM11
import Derived.Shelf.Strings.Builder1
set_option linter.all false
namespace Go.Av
open Go.RowKit Go.Proofs Go.Shelf
def byteCells (l : List UInt8) : List (List AV) := l.map fun x => [.int .u8 x.toNat]
end Go.Av
