/- Parts of the proofs of this seat: abstract values over the model, and what the functions of the program do. No condition. -/
import Derived.Test.YtehadbpejfjheaaGreatDoorD0
import Derived.Test.YtehadbpejfjheaaGreatDoorY19
set_option linter.all false
set_option maxRecDepth 100000
namespace Go.Av
open Go.Proofs
theorem Zq(ys:List AV)(h:TT NJ ys):∃o:OpN,ys=o.c∧(o.ok∧o.path.length≤1048576∧o.image.length≤1048576):=by
 obtain⟨h1,h2⟩:=h.struct_inv RP
 match ys,h1 with
 |[a0,a1,a2,a3,a4,a5],_=>
  obtain⟨k,e0,hk⟩:=ID (h2 _ (List.mem_cons_self)) Kk;obtain⟨p,e1,hp⟩:=Kq (h2 _ (List.mem_cons_of_mem _ List.mem_cons_self)) Iz;obtain⟨of_,e2,ho⟩:=ID (h2 _ (List.mem_cons_of_mem _ (List.mem_cons_of_mem _ List.mem_cons_self))) Kk;obtain⟨n,e3,hn⟩:=ID (h2 _ (List.mem_cons_of_mem _ (List.mem_cons_of_mem _ (List.mem_cons_of_mem _ List.mem_cons_self)))) Kk;obtain⟨i,e4,hi⟩:=ID (h2 _ (List.mem_cons_of_mem _ (List.mem_cons_of_mem _ (List.mem_cons_of_mem _ (List.mem_cons_of_mem _ List.mem_cons_self))))) Kk;obtain⟨m,e5,hm⟩:=Kq (h2 _ (List.mem_cons_of_mem _ (List.mem_cons_of_mem _ (List.mem_cons_of_mem _ (List.mem_cons_of_mem _ (List.mem_cons_of_mem _ List.mem_cons_self)))))) Iz;cases e0;cases e1;cases e2;cases e3;cases e4;cases e5;exact⟨⟨k,p,of_,n,i,m⟩,rfl,⟨hk,ho,hn,hi⟩,hp,hm⟩
theorem TyV.opN{x:AV}(h:TV NJ x):∃o:OpN,x= .agg o.c∧o.ok∧o.path.length≤1048576∧o.image.length≤1048576:=by
 obtain⟨xs,rfl,h2⟩:=h.agg (by simp[isAgg,RP])
 obtain⟨o,rfl,ho⟩:=Zq xs h2;exact⟨o,rfl,ho⟩
end Go.Av
