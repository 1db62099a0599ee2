/- Parts of the proofs of this seat: abstract values over the model, and what the functions of the program do. No condition. -/
import Derived.Test.YtjkffbaienbmkaaGreatDoorD0
import Derived.Test.YtjkffbaienbmkaaGreatDoorY19
set_option linter.all false
namespace Go.Av
open Go.Proofs
set_option maxRecDepth 100000 in
theorem jG(ys:List AV)(h:TT Xm ys):∃o:OpN,ys=o.c∧(o.ok∧o.path.length≤1048576∧o.image.length≤1048576):=by
 obtain⟨h1,h2⟩:=h.struct_inv js
 match ys,h1 with
 |[a0,a1,a2,a3,a4,a5],_=>
  obtain⟨k,e0,hk⟩:=Lb (h2 _ (List.mem_cons_self)) NT;obtain⟨p,e1,hp⟩:=P0 (h2 _ (List.mem_cons_of_mem _ List.mem_cons_self)) KS;obtain⟨of_,e2,ho⟩:=Lb (h2 _ (List.mem_cons_of_mem _ (List.mem_cons_of_mem _ List.mem_cons_self))) NT;obtain⟨n,e3,hn⟩:=Lb (h2 _ (List.mem_cons_of_mem _ (List.mem_cons_of_mem _ (List.mem_cons_of_mem _ List.mem_cons_self)))) NT;obtain⟨i,e4,hi⟩:=Lb (h2 _ (List.mem_cons_of_mem _ (List.mem_cons_of_mem _ (List.mem_cons_of_mem _ (List.mem_cons_of_mem _ List.mem_cons_self))))) NT;obtain⟨m,e5,hm⟩:=P0 (h2 _ (List.mem_cons_of_mem _ (List.mem_cons_of_mem _ (List.mem_cons_of_mem _ (List.mem_cons_of_mem _ (List.mem_cons_of_mem _ List.mem_cons_self)))))) KS;cases e0;cases e1;cases e2;cases e3;cases e4;cases e5;exact⟨⟨k,p,of_,n,i,m⟩,rfl,⟨hk,ho,hn,hi⟩,hp,hm⟩
end Go.Av
