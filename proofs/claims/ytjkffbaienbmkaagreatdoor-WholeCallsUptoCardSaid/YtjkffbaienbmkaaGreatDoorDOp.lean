/- Parts of the proofs of this seat: abstract values over the model, and what the functions of the program do. No condition. -/
import Derived.Test.YtjkffbaienbmkaaGreatDoorD0
import Derived.Test.YtjkffbaienbmkaaGreatDoorY19
import Derived.Test.YtjkffbaienbmkaaGreatDoorY10
import Derived.Test.YtjkffbaienbmkaaGreatDoorX05e
set_option linter.all false
namespace Go.Av
open Go.Proofs
set_option maxRecDepth 100000 in
theorem jG(ys:List AV)(h:TT Xm ys):∃o:OpN,ys=o.c∧(o.ok∧o.path.length≤1048576∧o.image.length≤1048576):=by
 obtain⟨h1,h2⟩:=h.struct_inv js
 match ys,h1 with
 |[a0,a1,a2,a3,a4,a5],_=>
  obtain⟨k,e0,hk⟩:=Lb (h2 _ (List.mem_cons_self)) NT;obtain⟨p,e1,hp⟩:=P0 (h2 _ (List.mem_cons_of_mem _ List.mem_cons_self)) KS;obtain⟨of_,e2,ho⟩:=Lb (h2 _ (List.mem_cons_of_mem _ (List.mem_cons_of_mem _ List.mem_cons_self))) NT;obtain⟨n,e3,hn⟩:=Lb (h2 _ (List.mem_cons_of_mem _ (List.mem_cons_of_mem _ (List.mem_cons_of_mem _ List.mem_cons_self)))) NT;obtain⟨i,e4,hi⟩:=Lb (h2 _ (List.mem_cons_of_mem _ (List.mem_cons_of_mem _ (List.mem_cons_of_mem _ (List.mem_cons_of_mem _ List.mem_cons_self))))) NT;obtain⟨m,e5,hm⟩:=P0 (h2 _ (List.mem_cons_of_mem _ (List.mem_cons_of_mem _ (List.mem_cons_of_mem _ (List.mem_cons_of_mem _ (List.mem_cons_of_mem _ List.mem_cons_self)))))) KS;cases e0;cases e1;cases e2;cases e3;cases e4;cases e5;exact⟨⟨k,p,of_,n,i,m⟩,rfl,⟨hk,ho,hn,hi⟩,hp,hm⟩
open Go.Proofs
theorem allB_chain{n:Node}(h:n.allB=true):nchain Option.none n.names.l=true:=by
 rw[Node.all_eq] at h;simp only[Bool.and_eq_true] at h;obtain⟨hz,hk⟩:=F0 h.2
 by_cases k:n.kind=2
 ·have hn:F2 n=true:=by simpa[Dq,k] using hk
  exact(Kw hn).1
 ·have hnm:n.names.l=[]:=by simp[Dt,k] at hz;exact hz.1.1.1.2
  rw[hnm];rfl
theorem find_nameR{n:Node}(ha:n.allB=true){s:Str}{x:Node}(h:n.find s=some x):D5 s=true:=by
 unfold Node.find at h;obtain⟨k,h1,_⟩:=Option.bind_eq_some_iff.1 h;obtain⟨hk,h2,_⟩:=List.findIdx?_eq_some_iff_getElem.1 h1;have hs:n.names.l[k]=s:=by simpa using h2
 have hm:s∈n.names.l:=by rw[←hs];exact List.getElem_mem hk
 have hch:nchain none n.names.l=true:=allB_chain ha;exact(PB _ _ hch).2.2 s hm
theorem seenN_nameR{H:List Node}(ha:∀n∈H,n.allB=true){s:Str}{y:Node}{l:List Node}(h:Dn H s=y::l):D5 s=true:=by
 have hy:y∈Dn H s:=by rw[h];simp
 have h2:y∈CI H s:=by
  unfold Dn at hy;cases he:CI H s with
  |nil=>rw[he] at hy;cases hy
  |cons z r=>
   rw[he] at hy;simp only at hy;split at hy
   ·cases hy
   ·split at hy
    ·rw[List.mem_singleton] at hy;simp[hy]
    ·exact(List.takeWhile_sublist _).subset (I2 hy)
 obtain⟨n,h3,h4⟩:=List.mem_filterMap.1 h2;exact find_nameR (ha n h3) h4
theorem Ends.way{L:List (List CU)}{D:List Node}{want:AtN}{t:Fnd}(h:Ends L D want t)(hk:∀y l,want.nodes=y::l→y.kind=2):∃ds,Je L D ds want.names∧want.nodes=Dc D want.names:=by
 obtain⟨he,ds,names,hw,hc⟩:=h;rcases hc with ⟨h1,h2,h3⟩|⟨s,y,l,hs,h1,h2,h3,h4,h5⟩
 ·exact⟨ds,by rw[h1];exact hw,by rw[h1];exact h2⟩
 ·exact absurd (hk y l h4) h3
end Go.Av
