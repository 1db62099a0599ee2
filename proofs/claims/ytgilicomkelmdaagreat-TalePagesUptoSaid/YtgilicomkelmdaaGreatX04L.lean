/- Parts of the proofs of this seat: abstract values over the model, and what the functions of the program do. No condition. -/
import Derived.Test.YtgilicomkelmdaaGreatXSplit
import Derived.Test.YtgilicomkelmdaaGreatY05
set_option linter.all false
namespace Go.Av
open Go.Proofs
theorem jg{w0:World}{f:Nat}{args:List AV}(h:∀Q:AV→St→Prop,(∀S,Q (.bool true) S)→AC w0 f args [] Q):AC w0 f args [] fun r _=>r= .bool true:=h _ (fun _=>rfl)
structure Chain(k:Nat)(d:Node):Prop where
 ok:d.ok
 kind:d.kind=2
 count:d.count=k+1
 depth:d.depth=k
 all:d.allB=true
theorem Chain.zero{q1 q2:Rt}(k1:okR q1 ([]:List Str))(k2:okR q2 ([]:List Node)):Chain 0 (X2 false [] q1 [] q2):=
 ⟨aq (by simp) (by simp) k1 k2,rfl,rfl,rfl,rfl⟩
theorem Chain.succ{k:Nat}{d:Node}(h:Chain k d){q1 q2:Rt}(k1:okR q1 [([97]:Str)])(k2:okR q2 [d]):Chain (k+1) (X2 false [[97]] q1 [d] q2):=by
 refine⟨aq (by simp) (by simp[h.ok]) k1 k2,rfl,?_,?_,?_⟩
 ·rw[Node.count_eq];show 1+Node.counts [d]=_;rw[Node.counts,Node.counts,h.count];omega
 ·rw[Node.depth_eq];show Node.depths [d]=_;rw[Node.depths,Node.depths,h.depth];omega
 ·rw[Node.all_eq];show (Node.allsB [d]&&_)=true;rw[Node.allsB,h.all];rfl
open Go.Proofs
def Z1:Str:=[115,111,99,97,103,101,49]
theorem Ha{n:Node}(h:DR n=true):n.kind=2∧n.allB=true∧n.count≤4096∧n.depth≤15:=by
 simpa[DR] using h
end Go.Av
