/- Parts of the proofs of this seat: abstract values over the model, and what the functions of the program do. No condition. -/
import Derived.Test.YtgilicomkelmdaaGreatDoorY10
import Derived.Test.YtgilicomkelmdaaGreatDoorX08d
import Derived.Test.YtgilicomkelmdaaGreatDoorY06
import Derived.Test.YtgilicomkelmdaaGreatDoorX05e
set_option linter.all false
set_option maxRecDepth 100000
namespace Go.Av
open Go.Proofs
theorem fZ(dirs:List Node)(b:Nat)(hd:∀n∈dirs,n.names.l.length≤b):(IN dirs).length≤dirs.length*b:=by
 have h0:(IN dirs).length≤(F2 (dirs.map (·.names))).length:=List.length_filterMap_le _ _;have h1:(F2 (dirs.map (·.names))).length≤DX (dirs.map (·.names)):=by
  unfold F2;rw[List.length_map];exact Nat.le_trans (Ot _ _) (LF _ _)
 have h2:∀l:List Node,(∀n∈l,n.names.l.length≤b)→DX (l.map (·.names))≤l.length*b:=by
  intro l
  induction l with
  |nil=>intro _;simp[DX]
  |cons x l ih=>
   intro h;have h3:=ih fun y hy=>h y (by simp[hy])
   have h4:=h x (by simp)
   simp only[DX,List.map_cons,List.sum_cons,List.length_cons,Nat.add_mul] at h3 ⊢;omega
 have h5:=h2 dirs hd;omega
open Go.Proofs
theorem Ends.way{L:List (List Bm)}{D:List Node}{want:AtN}{t:Fnd}(h:Ends L D want t)(hk:∀y l,want.nodes=y::l→y.kind=2):∃ds,JY L D ds want.names∧want.nodes=DC D want.names:=by
 obtain⟨he,ds,names,hw,hc⟩:=h;rcases hc with ⟨h1,h2,h3⟩|⟨s,y,l,hs,h1,h2,h3,h4,h5⟩
 ·exact⟨ds,by rw[h1];exact hw,by rw[h1];exact h2⟩
 ·exact absurd (hk y l h4) h3
end Go.Av
