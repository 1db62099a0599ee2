/- Parts of the proofs of this seat: abstract values over the model, and what the functions of the program do. No condition. -/
import Derived.Test.YtdjfhghokfiieaaGreatDoorY19
import Derived.Test.YtdjfhghokfiieaaGreatDoorD0
set_option linter.all false
namespace Go.Av
structure WT where
 err : Int := 0
 kind : Int := 0
 size : Int := 0
 where_ : Int := 0
 id : Int := 0
 text : Str := []
 names : List Str := []
 end_ : Bool := false
def WT.c (x : WT) (r : Rt) : List AV := [.int .i64 x.err, .int .i64 x.kind, .int .i64 x.size, .int .i64 x.where_, .int .i64 x.id, .str x.text, .vs 1 (x.names.map CH) r, .bool x.end_]
@[simp] theorem WT.c_len (x : WT) (r : Rt) : (x.c r).length = 8 := rfl
def OpN.c (o : OpN) : List AV := [.int .i64 o.kind, .str o.path, .int .i64 o.off, .int .i64 o.n, .int .i64 o.id, .str o.image]
@[simp] theorem OpN.c_len (o : OpN) : o.c.length = 6 := rfl
end Go.Av
