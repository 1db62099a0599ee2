/- Parts of the proofs of this seat: abstract values over the model, and what the functions of the program do. No condition. -/
import Derived.Test.YtgilicomkelmdaaGreatDoorD0
import Derived.Lib.ItoaNum
import Derived.Lib.AtoiAllCases
set_option linter.all false
set_option maxRecDepth 100000
namespace Go.Av
abbrev ke(n:Int):Prop:=-9223372036854775808≤n∧n≤9223372036854775807
structure OpN where
 kind:Int
 path:Str
 off:Int
 n:Int
 id:Int
 image:Str
 deriving DecidableEq
structure OpN.ok(o:OpN):Prop where
 kind:ke o.kind
 off:ke o.off
 n:ke o.n
 id:ke o.id
structure A6 where
 err:Int:=0
 kind:Int:=0
 size:Int:=0
 where_:Int:=0
 id:Int:=0
 text:Str:=[]
 names:List Str:=[]
 end_:Bool:=false
def A6.c(x:A6)(r:Rt):List AV:=[.int .i64 x.err,.int .i64 x.kind,.int .i64 x.size,.int .i64 x.where_,.int .i64 x.id,.str x.text,.vs 1 (x.names.map BO) r,.bool x.end_]
@[simp] theorem A6.c_len(x:A6)(r:Rt):(x.c r).length=8:=rfl
def An(e:Int):A6:={err:=e}
def OpN.c(o:OpN):List AV:=[.int .i64 o.kind,.str o.path,.int .i64 o.off,.int .i64 o.n,.int .i64 o.id,.str o.image]
@[simp] theorem OpN.c_len(o:OpN):o.c.length=6:=rfl
open Go.Proofs
theorem kR(ys:List AV)(h:TT aN ys):∃o:OpN,ys=o.c∧(o.ok∧o.path.length≤1048576∧o.image.length≤1048576):=by
 obtain⟨h1,h2⟩:=h.struct_inv gL
 match ys,h1 with
 |[a0,a1,a2,a3,a4,a5],_=>
  obtain⟨k,e0,hk⟩:=D3 (h2 _ (List.mem_cons_self)) E6;obtain⟨p,e1,hp⟩:=Nh (h2 _ (List.mem_cons_of_mem _ List.mem_cons_self)) Ir;obtain⟨of_,e2,ho⟩:=D3 (h2 _ (List.mem_cons_of_mem _ (List.mem_cons_of_mem _ List.mem_cons_self))) E6;obtain⟨n,e3,hn⟩:=D3 (h2 _ (List.mem_cons_of_mem _ (List.mem_cons_of_mem _ (List.mem_cons_of_mem _ List.mem_cons_self)))) E6;obtain⟨i,e4,hi⟩:=D3 (h2 _ (List.mem_cons_of_mem _ (List.mem_cons_of_mem _ (List.mem_cons_of_mem _ (List.mem_cons_of_mem _ List.mem_cons_self))))) E6;obtain⟨m,e5,hm⟩:=Nh (h2 _ (List.mem_cons_of_mem _ (List.mem_cons_of_mem _ (List.mem_cons_of_mem _ (List.mem_cons_of_mem _ (List.mem_cons_of_mem _ List.mem_cons_self)))))) Ir;cases e0;cases e1;cases e2;cases e3;cases e4;cases e5;exact⟨⟨k,p,of_,n,i,m⟩,rfl,⟨hk,ho,hn,hi⟩,hp,hm⟩
end Go.Av
