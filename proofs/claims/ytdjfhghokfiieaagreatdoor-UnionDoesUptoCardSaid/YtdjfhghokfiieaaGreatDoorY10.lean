/- Parts of the proofs of this seat: abstract values over the model, and what the functions of the program do. No condition. -/
import Derived.Test.YtdjfhghokfiieaaGreatDoorX04L
import Derived.Test.YtdjfhghokfiieaaGreatDoorY09
import Derived.Test.YtdjfhghokfiieaaGreatDoorX05M
import Derived.Test.YtdjfhghokfiieaaGreatDoorXFrz
set_option linter.all false
set_option linter.unusedVariables false
namespace Go.Av
structure Ent where
  name : Str
  kind : Int
  deriving DecidableEq
@[simp] def Ent.c (x : Ent) : List AV := [.str x.name, .int .i64 x.kind]
end Go.Av
set_option linter.unusedVariables false
namespace Go.Av
open Go.Proofs
def Ss.u (x : Ss) : List AV := [.vs 1 (x.l.map wStr) x.r]
end Go.Av
