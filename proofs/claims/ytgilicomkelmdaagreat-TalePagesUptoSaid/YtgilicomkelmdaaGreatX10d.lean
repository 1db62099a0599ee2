/- Parts of the proofs of this seat: abstract values over the model, and what the functions of the program do. No condition. -/
import Derived.Test.YtgilicomkelmdaaGreatY10
import Derived.Test.YtgilicomkelmdaaGreatX08d
import Derived.Test.YtgilicomkelmdaaGreatY06
import Derived.Test.YtgilicomkelmdaaGreatX05e
set_option linter.all false
namespace Go.Av
open Go.Proofs
theorem ba(dirs:List Node)(b:Nat)(hd:∀n∈dirs,n.names.l.length≤b):(LZ dirs).length≤dirs.length*b:=by
 have h0:(LZ dirs).length≤(Hf (dirs.map (·.names))).length:=List.length_filterMap_le _ _;have h1:(Hf (dirs.map (·.names))).length≤Dk (dirs.map (·.names)):=by
  unfold Hf;rw[List.length_map];exact Nat.le_trans (Ns _ _) (K4 _ _)
 have h2:∀l:List Node,(∀n∈l,n.names.l.length≤b)→Dk (l.map (·.names))≤l.length*b:=by
  intro l
  induction l with
  |nil=>intro _;simp[Dk]
  |cons x l ih=>
   intro h;have h3:=ih fun y hy=>h y (by simp[hy])
   have h4:=h x (by simp)
   simp only[Dk,List.map_cons,List.sum_cons,List.length_cons,Nat.add_mul] at h3 ⊢;omega
 have h5:=h2 dirs hd;omega
open Go.Proofs
theorem Ends.way{L:List (List Bk)}{D:List Node}{want:AtN}{t:Fnd}(h:Ends L D want t)(hk:∀y l,want.nodes=y::l→y.kind=2):∃ds,IY L D ds want.names∧want.nodes=Dz D want.names:=by
 obtain⟨he,ds,names,hw,hc⟩:=h;rcases hc with ⟨h1,h2,h3⟩|⟨s,y,l,hs,h1,h2,h3,h4,h5⟩
 ·exact⟨ds,by rw[h1];exact hw,by rw[h1];exact h2⟩
 ·exact absurd (hk y l h4) h3
end Go.Av
