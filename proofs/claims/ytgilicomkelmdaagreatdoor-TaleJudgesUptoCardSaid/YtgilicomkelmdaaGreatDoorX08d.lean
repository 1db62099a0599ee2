/- Parts of the proofs of this seat: abstract values over the model, and what the functions of the program do. No condition. -/
import Derived.Test.YtgilicomkelmdaaGreatDoorY05e
set_option linter.all false
set_option maxRecDepth 100000
namespace Go.Av
open Go.Proofs
theorem Zn:∀(l:List Node) (L:List (List Bm)) (k:Nat),L.drop k=l.map (fun n=>n.tab 0)→OnP L (Gz (l.map fun n=>n.tab 0) k) (De l)
 |[],_,_,_=>trivial
 |n::l,L,k,h=>by
  have h0:L[k]? =some (n.tab 0):=by
   have:=congrArg (fun x=>x[0]?) h
   simpa using this
  have h1:L.drop (k+1)=l.map (fun n=>n.tab 0):=by
   have:=congrArg (fun x=>x.drop 1) h
   simpa[List.drop_drop,Nat.add_comm] using this
  rw[List.map_cons,Gz,De];refine⟨⟨n.tab 0,h0,At.root n⟩,?_⟩;have ho:(BM (n.tab 0) 0).opq=n.opq:=by rw[gh];rfl
  rw[ho];split
  ·trivial
  ·exact Zn l L (k+1) h1
open Go.Proofs
theorem Ends.short{L:List (List Bm)}{D:List Node}{want:AtN}{t:Fnd}(h:Ends L D want t):want.names.length≤15∧∀x∈want.names,DQ x=true:=by
 obtain⟨he,ds,names,hw,hc⟩:=h;obtain⟨d,_,_,hd⟩:=hw.last;rcases hc with ⟨h1,h2,h3⟩|⟨s,y,l,hs,h1,h2,h3,h4,h5⟩
 ·rw[h1];exact⟨hd.short,hw.nm⟩
 ·rw[h1];have:=(RZ hd.good h2 y (by simp)).2.2.2.1
  refine⟨by simp;omega,fun x hx=>?_⟩
  rcases List.mem_append.1 hx with hx|hx
  ·exact hw.nm x hx
  ·rw[List.mem_singleton] at hx;subst hx;exact hs
end Go.Av
