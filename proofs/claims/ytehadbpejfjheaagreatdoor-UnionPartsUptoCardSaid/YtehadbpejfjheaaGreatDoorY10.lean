/- Parts of the proofs of this seat: abstract values over the model, and what the functions of the program do. No condition. -/
import Derived.Test.YtehadbpejfjheaaGreatDoorX04L
import Derived.Test.YtehadbpejfjheaaGreatDoorY09
import Derived.Test.YtehadbpejfjheaaGreatDoorX05M
import Derived.Test.YtehadbpejfjheaaGreatDoorXFrz
set_option linter.all false
set_option maxRecDepth 100000
namespace Go.Av
structure Ent where
 name:Str
 kind:Int
 deriving DecidableEq
@[simp] def Ent.c(x:Ent):List AV:=[.str x.name,.int .i64 x.kind]
def eE(dirs:List Node)(s:Str):Option Ent:=match DZ dirs s with|[]=>none|x::_=>some ⟨s,x.kind⟩
def X8(dirs:List Node):List Ent:=(O3 (dirs.map (·.names))).filterMap (eE dirs)
theorem QV:∀(f:Nat) (rs:List Ss),(Pl f rs).length≤f
 |0,rs=>by simp[Pl]
 |f+1,rs=>by
  rw[Pl];cases RY 0 none rs with
  |none=>simp
  |some p=>have:=QV f (aY rs p.1);simp;omega
open Go.Proofs
def Ss.u(x:Ss):List AV:=[.vs 1 (x.l.map EH) x.r]
end Go.Av
