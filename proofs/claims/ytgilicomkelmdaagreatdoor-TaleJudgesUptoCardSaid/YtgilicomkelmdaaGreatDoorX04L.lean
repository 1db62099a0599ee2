/- Parts of the proofs of this seat: abstract values over the model, and what the functions of the program do. No condition. -/
import Derived.Test.YtgilicomkelmdaaGreatDoorXSplit
import Derived.Test.YtgilicomkelmdaaGreatDoorY05
set_option linter.all false
set_option maxRecDepth 100000
namespace Go.Av
open Go.Proofs
theorem mK{w0:World}{f:Nat}{args:List AV}(h:∀Q:AV→St→Prop,(∀S,Q (.bool true) S)→AC w0 f args [] Q):AC w0 f args [] fun r _=>r= .bool true:=h _ (fun _=>rfl)
open Go.Proofs
theorem XE:∀l:List Ext,(JX l).length=8*l.length+(l.map fun x=>x.data.length).sum
 |[]=>rfl
 |x::l=>by
  have:=XE l;simp[JX,ks,Lj] at this ⊢;rw[this];omega
def Gl:Str:=[115,111,99,97,103,101,49]
theorem FQ{n:Node}(h:Bi n=true):n.kind=2∧n.allB=true∧n.count≤4096∧n.depth≤15:=by
 simpa[Bi] using h
end Go.Av
