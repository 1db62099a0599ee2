/- Parts of the proofs of this seat: abstract values over the model, and what the functions of the program do. No condition. -/
import Derived.Test.YtehadbpejfjheaaGreatDoorM16
import Derived.Test.YtehadbpejfjheaaGreatDoorM12
import Derived.Shelf.Strings.Builder1
set_option linter.all false
set_option maxRecDepth 100000
namespace Go.Av
open Go.RowKit Go.Proofs Go.Shelf
def byteCells(l:List UInt8):List (List AV):=l.map fun x=>[.int .u8 x.toNat]
end Go.Av
