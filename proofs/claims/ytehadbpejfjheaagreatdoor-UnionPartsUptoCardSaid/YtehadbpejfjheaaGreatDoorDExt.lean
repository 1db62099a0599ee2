/- Parts of the proofs of this seat: abstract values over the model, and what the functions of the program do. No condition. -/
import Derived.Test.YtehadbpejfjheaaGreatDoorD0
set_option linter.all false
set_option maxRecDepth 100000
namespace Go.Av
open Go.Proofs
def Ext.ok(x:Ext):Prop:=-9223372036854775808≤x.off∧x.off≤9223372036854775807∧x.data.length≤1048576
theorem Zb(cs:List AV)(h:TT FP cs):∃x:Ext,cs=x.c∧x.ok:=by
 obtain⟨h1,h2⟩:=h.struct_inv Q1
 match cs,h1 with
 |[a,b],_=>
  obtain⟨n,h3,h4⟩:=ID (h2 _ (List.mem_cons_self)) Kk;obtain⟨s,h5,h6⟩:=Kq (h2 _ (List.mem_cons_of_mem _ List.mem_cons_self)) Iz;cases h3;cases h5;exact⟨⟨n,s⟩,rfl,h4.1,h4.2,h6⟩
open Go.Proofs
inductive Node where
 |mk (kind:Int) (opq:Bool) (names:Ss) (items:List Node) (ir:Rt) (size:Int) (exts:List Ext) (er:Rt) (target:Str)
def Node.kind:Node→Int| .mk k _ _ _ _ _ _ _ _=>k
def Node.opq:Node→Bool| .mk _ o _ _ _ _ _ _ _=>o
def Node.names:Node→Ss| .mk _ _ n _ _ _ _ _ _=>n
def Node.items:Node→List Node| .mk _ _ _ i _ _ _ _ _=>i
def Node.ir:Node→Rt| .mk _ _ _ _ r _ _ _ _=>r
def Node.size:Node→Int| .mk _ _ _ _ _ s _ _ _=>s
def Node.exts:Node→List Ext| .mk _ _ _ _ _ _ e _ _=>e
def Node.er:Node→Rt| .mk _ _ _ _ _ _ _ r _=>r
def Node.target:Node→Str| .mk _ _ _ _ _ _ _ _ t=>t
mutual
def Node.c:Node→List AV
 | .mk k o ns its ir sz es er t=>[.int .i64 k,.bool o,ns.v,.vs 7 (Node.cs its) ir.strip,.int .i64 sz,.vs 2 (es.map Ext.c) er.strip,.str t]
def Node.cs:List Node→List (List AV)
 |[]=>[]
 |n::l=>n.c::Node.cs l
end
theorem Node.cs_eq:∀l:List Node,Node.cs l=l.map Node.c
 |[]=>rfl
 |n::l=>by rw[Node.cs,List.map_cons,Node.cs_eq l]
theorem Node.c_eq(n:Node):n.c=[.int .i64 n.kind,.bool n.opq,n.names.v,.vs 7 (n.items.map Node.c) n.ir.strip,.int .i64 n.size,.vs 2 (n.exts.map Ext.c) n.er.strip,.str n.target]:=by
 cases n;rw[Node.c,Node.cs_eq];rfl
def I64(n:Int):Prop:=-9223372036854775808≤n∧n≤9223372036854775807
mutual
def Node.ok:Node→Prop
 | .mk k _ ns its ir sz es er t=>I64 k∧ns.ok∧((ir.strip= .nil→its=[])∧its.length≤1048576)∧Node.oks its∧I64 sz∧((er.strip= .nil→es=[])∧es.length≤1048576∧∀e∈es,e.ok)∧t.length≤1048576
def Node.oks:List Node→Prop
 |[]=>True
 |n::l=>n.ok∧Node.oks l
end
theorem Node.oks_iff:∀l:List Node,Node.oks l↔∀n∈l,n.ok
 |[]=>by simp[Node.oks]
 |n::l=>by rw[Node.oks,Node.oks_iff l];simp
theorem Node.ok_iff(n:Node):n.ok↔I64 n.kind∧n.names.ok∧((n.ir.strip= .nil→n.items=[])∧n.items.length≤1048576)∧(∀x∈n.items,x.ok)∧I64 n.size∧((n.er.strip= .nil→n.exts=[])∧n.exts.length≤1048576∧∀e∈n.exts,e.ok)∧n.target.length≤1048576:=by
 cases n;rw[Node.ok,Node.oks_iff];rfl
theorem Node.ind{p:Node→Prop}(h:∀n,(∀x∈n.items,p x)→p n)(n:Node):p n:=
 Node.rec (motive_1:=p) (motive_2:=fun l=>∀x∈l,p x) (fun k o ns its ir sz es er t ih=>h _ ih) (by simp) (fun n l h1 h2 x hx=>by
  rcases List.mem_cons.1 hx with rfl|hx
  ·exact h1
  ·exact h2 x hx) n
theorem SH{t:TypeId}{cs:List AV}(h:TT t cs):(t=L4→∃n:Node,cs=n.c∧n.ok)∧
  (t=JH→∃(l:List Node) (r:Rt),cs=[.vs 7 (l.map Node.c) r]∧inR r l∧l.length≤1048576∧∀n∈l,n.ok):=by
 induction h with
 |bool b h=>exact⟨fun e=>(by subst e;rw[EO] at h;cases h),fun e=>(by subst e;rw[DI] at h;cases h)⟩
 |int n h hw=>exact⟨fun e=>(by subst e;rw[EO] at h;cases h),fun e=>(by subst e;rw[DI] at h;cases h)⟩
 |str l h hl=>exact⟨fun e=>(by subst e;rw[EO] at h;cases h),fun e=>(by subst e;rw[DI] at h;cases h)⟩
 | nil h => exact ⟨fun e => (by subst e; rw [EO] at h; cases h), fun e => (by
   subst e;rw[DI] at h;cases h;exact⟨[],.nil,by rw[KG];rfl,.inl ⟨rfl,rfl⟩,by simp,by simp⟩)⟩
 | slice es h hl he ih => exact ⟨fun e => (by subst e; rw [EO] at h; cases h), fun e => (by
   subst e;rw[DI] at h;cases h;have:∃l:List Node,es=l.map Node.c∧∀n∈l,n.ok:=by
    clear hl
    induction es with
    |nil=>exact⟨[],rfl,by simp⟩
    |cons y es ih2=>
     obtain⟨l,e1,e2⟩:=ih2 (fun z hz=>he z (by simp[hz])) (fun z hz=>ih z (by simp[hz]))
     obtain⟨a,e3,e4⟩:=(ih y (by simp)).1 rfl
     exact⟨a::l,by simp[e1,e3],by simpa[e4] using e2⟩
   obtain⟨l,rfl,hk⟩:=this;exact⟨l,.none,by rw[KG],.inr rfl,by simpa using hl,hk⟩)⟩
 |array xs h hl hf ih=>exact⟨fun e=>(by subst e;rw[EO] at h;cases h),fun e=>(by subst e;rw[DI] at h;cases h)⟩
 |struct xs h hl hf ih=>
  refine⟨fun e=>?_,fun e=>(by subst e;rw[DI] at h;cases h)⟩
  subst e;rw[EO] at h;cases h;rw[KG] at hl
  match xs,hl with
  |[x0,x1,x2,x3,x4,x5,x6],_=>
   obtain⟨k,h0,hk⟩:=ID (hf _ (List.mem_cons_self)) Kk;obtain⟨o,h1⟩:=UT (hf _ (List.mem_cons_of_mem _ List.mem_cons_self)) Zj;obtain⟨ns,h2,hns⟩:=ba _ (hf _ (List.mem_cons_of_mem _ (List.mem_cons_of_mem _ List.mem_cons_self)));obtain⟨its,ir,h3,hir,hil,hio⟩:=(ih _ (List.mem_cons_of_mem _ (List.mem_cons_of_mem _ (List.mem_cons_of_mem _ List.mem_cons_self)))).2 rfl;obtain⟨sz,h4,hsz⟩:=ID (hf _ (List.mem_cons_of_mem _ (List.mem_cons_of_mem _ (List.mem_cons_of_mem _ (List.mem_cons_of_mem _ List.mem_cons_self))))) Kk;obtain⟨es,er,h5,her,hel,heo⟩:=Nf (enc:=Ext.c) (ok:=Ext.ok) (hf _ (List.mem_cons_of_mem _ (List.mem_cons_of_mem _ (List.mem_cons_of_mem _ (List.mem_cons_of_mem _ (List.mem_cons_of_mem _ List.mem_cons_self)))))) Ox Qo Zb
   obtain⟨t,h6,ht⟩:=Kq (hf _ (List.mem_cons_of_mem _ (List.mem_cons_of_mem _ (List.mem_cons_of_mem _ (List.mem_cons_of_mem _ (List.mem_cons_of_mem _ (List.mem_cons_of_mem _ List.mem_cons_self))))))) Iz;cases h0;cases h1;cases h2;cases h3;cases h4;cases h5;cases h6;have e1:∀{α:Type} {r:Rt} {l:List α},inR r l→r.strip=r∧(r.strip= .nil→l=[]):=fun {α r l} h=>by
    rcases h with ⟨rfl,h⟩|rfl
    ·exact⟨rfl,fun _=>h⟩
    ·exact⟨rfl,fun e=>by cases e⟩
   obtain⟨e2,e3⟩:=e1 hir;obtain⟨e4,e5⟩:=e1 her;refine⟨.mk k o ns its ir sz es er t,?_,?_⟩
   ·rw[Node.c,Node.cs_eq,e2,e4]
   ·rw[Node.ok,Node.oks_iff];exact⟨hk,hns,⟨e3,hil⟩,hio,hsz,⟨e5,hel,heo⟩,ht⟩
end Go.Av
