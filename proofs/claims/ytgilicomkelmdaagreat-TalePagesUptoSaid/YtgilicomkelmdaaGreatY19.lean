/- Parts of the proofs of this seat: abstract values over the model, and what the functions of the program do. No condition. -/
import Derived.Test.YtgilicomkelmdaaGreatD0
import Derived.Lib.ItoaNum
import Derived.Lib.AtoiAllCases
set_option linter.all false
namespace Go.Av
abbrev iB(n:Int):Prop:=-9223372036854775808≤n∧n≤9223372036854775807
structure OpN where
 kind:Int
 path:Str
 off:Int
 n:Int
 id:Int
 image:Str
 deriving DecidableEq
def OpN.zero:OpN:=⟨0,[],0,0,0,[]⟩
structure OpN.ok(o:OpN):Prop where
 kind:iB o.kind
 off:iB o.off
 n:iB o.n
 id:iB o.id
structure CU where
 err:Int:=0
 kind:Int:=0
 size:Int:=0
 where_:Int:=0
 id:Int:=0
 text:Str:=[]
 names:List Str:=[]
 end_:Bool:=false
def CU.c(x:CU)(r:Rt):List AV:=[.int .i64 x.err,.int .i64 x.kind,.int .i64 x.size,.int .i64 x.where_,.int .i64 x.id,.str x.text,.vs 1 (x.names.map DB) r,.bool x.end_]
@[simp] theorem CU.c_len(x:CU)(r:Rt):(x.c r).length=8:=rfl
def BG(e:Int):CU:={err:=e}
def OpN.c(o:OpN):List AV:=[.int .i64 o.kind,.str o.path,.int .i64 o.off,.int .i64 o.n,.int .i64 o.id,.str o.image]
@[simp] theorem OpN.c_len(o:OpN):o.c.length=6:=rfl
open Go.Proofs
set_option maxRecDepth 100000 in
theorem gu(ys:List AV)(h:TT Xm ys):∃o:OpN,ys=o.c∧(o.ok∧o.path.length≤1048576∧o.image.length≤1048576):=by
 obtain⟨h1,h2⟩:=h.struct_inv cC
 match ys,h1 with
 |[a0,a1,a2,a3,a4,a5],_=>
  obtain⟨k,e0,hk⟩:=ED (h2 _ (List.mem_cons_self)) E8;obtain⟨p,e1,hp⟩:=Kc (h2 _ (List.mem_cons_of_mem _ List.mem_cons_self)) Ih;obtain⟨of_,e2,ho⟩:=ED (h2 _ (List.mem_cons_of_mem _ (List.mem_cons_of_mem _ List.mem_cons_self))) E8;obtain⟨n,e3,hn⟩:=ED (h2 _ (List.mem_cons_of_mem _ (List.mem_cons_of_mem _ (List.mem_cons_of_mem _ List.mem_cons_self)))) E8;obtain⟨i,e4,hi⟩:=ED (h2 _ (List.mem_cons_of_mem _ (List.mem_cons_of_mem _ (List.mem_cons_of_mem _ (List.mem_cons_of_mem _ List.mem_cons_self))))) E8;obtain⟨m,e5,hm⟩:=Kc (h2 _ (List.mem_cons_of_mem _ (List.mem_cons_of_mem _ (List.mem_cons_of_mem _ (List.mem_cons_of_mem _ (List.mem_cons_of_mem _ List.mem_cons_self)))))) Ih;cases e0;cases e1;cases e2;cases e3;cases e4;cases e5;exact⟨⟨k,p,of_,n,i,m⟩,rfl,⟨hk,ho,hn,hi⟩,hp,hm⟩
end Go.Av
