/- Parts of the proofs of this seat: abstract values over the model, and what the functions of the program do. No condition. -/
import Derived.Test.YtehadbpejfjheaaGreatDoorY10
import Derived.Test.YtehadbpejfjheaaGreatDoorX08d
set_option linter.all false
set_option maxRecDepth 100000
namespace Go.Av
open Go.Proofs
theorem Wx(dirs:List Node)(b:Nat)(hd:∀n∈dirs,n.names.l.length≤b):(X8 dirs).length≤dirs.length*b:=by
 have h0:(X8 dirs).length≤(O3 (dirs.map (·.names))).length:=List.length_filterMap_le _ _;have h1:(O3 (dirs.map (·.names))).length≤Yf (dirs.map (·.names)):=by
  unfold O3;rw[List.length_map];exact Nat.le_trans (P1 _ _) (QV _ _)
 have h2:∀l:List Node,(∀n∈l,n.names.l.length≤b)→Yf (l.map (·.names))≤l.length*b:=by
  intro l
  induction l with
  |nil=>intro _;simp[Yf]
  |cons x l ih=>
   intro h;have h3:=ih fun y hy=>h y (by simp[hy])
   have h4:=h x (by simp)
   simp only[Yf,List.map_cons,List.sum_cons,List.length_cons,Nat.add_mul] at h3 ⊢;omega
 have h5:=h2 dirs hd;omega
end Go.Av
