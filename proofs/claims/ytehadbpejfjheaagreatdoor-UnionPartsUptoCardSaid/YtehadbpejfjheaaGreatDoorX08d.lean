/- Parts of the proofs of this seat: abstract values over the model, and what the functions of the program do. No condition. -/
import Derived.Test.YtehadbpejfjheaaGreatDoorX05M
set_option linter.all false
set_option maxRecDepth 100000
namespace Go.Av
open Go.Proofs
theorem UL:∀(l:List Node) (L:List (List Bk)) (k:Nat),L.drop k=l.map (fun n=>n.tab 0)→OnP L (Ga (l.map fun n=>n.tab 0) k) (D5 l)
 |[],_,_,_=>trivial
 |n::l,L,k,h=>by
  have h0:L[k]? =some (n.tab 0):=by
   have:=congrArg (fun x=>x[0]?) h
   simpa using this
  have h1:L.drop (k+1)=l.map (fun n=>n.tab 0):=by
   have:=congrArg (fun x=>x.drop 1) h
   simpa[List.drop_drop,Nat.add_comm] using this
  rw[List.map_cons,Ga,D5];refine⟨⟨n.tab 0,h0,At.root n⟩,?_⟩;have ho:(BO (n.tab 0) 0).opq=n.opq:=by rw[YL];rfl
  rw[ho];split
  ·trivial
  ·exact UL l L (k+1) h1
open Go.Proofs
theorem Leads.of{S0 S:St}{l:List Node}{s:Stk}(hs:KM S0 S l s)(hok:∀n∈l,n.ok)(hall:∀n∈l,C2 n=true)(hl:l.length≤64):Leads S s l.reverse:=by
 have herr:=Kr l 0 hall (by omega)
 have hroot:=UL l.reverse s.tabs 0 (by rw[M5 hs];rfl)
 rw[←M5 hs] at hroot;have hd:(D5 l.reverse).length≤64:=by
  have:=hroot.len;have h2:=Ra s.tabs 0;have h3:s.tabs.length=l.length:=by rw[M5 hs];simp
  omega
 refine⟨hs.ok,hs.on,hs.good hok herr,hroot,fun n hn=>?_,hd⟩
 have hn2:n∈l:=by have:=Iv hn;simpa using this
 obtain⟨q1,q2,q3,q4⟩:=JN (hall n hn2);exact⟨hok n hn2,q2,q1,q4,by omega⟩
theorem Docs.of{l:List Node}(hok:∀n∈l,n.ok)(hall:∀n∈l,C2 n=true)(hl:l.length≤64):Docs l.reverse:=by
 have hd:∀l:List Node,(D5 l).length≤l.length:=by
  intro l
  induction l with
  |nil=>simp[D5]
  |cons x l ih=>rw[D5];split<;>simp;omega
 refine⟨by simp;omega,fun n hn=>hok n (by simpa using hn),fun n hn=>?_,by have:=hd l.reverse;simp at this;omega⟩
 have hn2:n∈l:=by have:=Iv hn;simpa using this
 exact⟨hok n hn2,(JN (hall n hn2)).2.1⟩
theorem Ends.short{L:List (List Bk)}{D:List Node}{want:AtN}{t:Fnd}(h:Ends L D want t):want.names.length≤15∧∀x∈want.names,DW x=true:=by
 obtain⟨he,ds,names,hw,hc⟩:=h;obtain⟨d,_,_,hd⟩:=hw.last;rcases hc with ⟨h1,h2,h3⟩|⟨s,y,l,hs,h1,h2,h3,h4,h5⟩
 ·rw[h1];exact⟨hd.short,hw.nm⟩
 ·rw[h1];have:=(Ns hd.good h2 y (by simp)).2.2.2.1
  refine⟨by simp;omega,fun x hx=>?_⟩
  rcases List.mem_append.1 hx with hx|hx
  ·exact hw.nm x hx
  ·rw[List.mem_singleton] at hx;subst hx;exact hs
end Go.Av
