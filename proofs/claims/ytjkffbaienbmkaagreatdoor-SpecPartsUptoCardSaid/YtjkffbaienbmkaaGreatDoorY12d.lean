/- Parts of the proofs of this seat: abstract values over the model, and what the functions of the program do. No condition. -/
import Derived.Test.YtjkffbaienbmkaaGreatDoorY19
import Derived.Test.YtjkffbaienbmkaaGreatDoorY10
import Derived.Test.YtjkffbaienbmkaaGreatDoorX05e
set_option linter.all false
namespace Go.Av
open Go.Proofs
theorem Ends.way{L:List (List CU)}{D:List Node}{want:AtN}{t:Fnd}(h:Ends L D want t)(hk:∀y l,want.nodes=y::l→y.kind=2):∃ds,Je L D ds want.names∧want.nodes=Dc D want.names:=by
 obtain⟨he,ds,names,hw,hc⟩:=h;rcases hc with ⟨h1,h2,h3⟩|⟨s,y,l,hs,h1,h2,h3,h4,h5⟩
 ·exact⟨ds,by rw[h1];exact hw,by rw[h1];exact h2⟩
 ·exact absurd (hk y l h4) h3
end Go.Av
