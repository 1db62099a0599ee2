/- Parts of the proofs of this seat: abstract values over the model, and what the functions of the program do. No condition. -/
import Derived.Test.YtehadbpejfjheaaGreatDoorX04L
import Derived.Test.YtehadbpejfjheaaGreatDoorX05M
import Derived.Test.YtehadbpejfjheaaGreatDoorXBld
set_option linter.all false
set_option maxRecDepth 100000
namespace Go.Av
mutual
def Node.pre:Node→List Node
 | .mk k o ns its ir sz es er t=>.mk k o ns its ir sz es er t::Node.pres its
def Node.pres:List Node→List Node
 |[]=>[]
 |n::l=>n.pre++Node.pres l
end
theorem Node.pre_eq(n:Node):n.pre=n::Node.pres n.items:=by cases n;rw[Node.pre];rfl
theorem Node.pres_nil:Node.pres []=[]:=by rw[Node.pres]
theorem Node.pres_cons(n:Node)(l:List Node):Node.pres (n::l)=n.pre++Node.pres l:=by rw[Node.pres]
theorem Node.pre_len(n:Node):n.pre.length=n.count:=by
 induction n using Node.ind with
 |h n ih=>
  have:∀(l:List Node),(∀x∈l,x.pre.length=x.count)→(Node.pres l).length=Node.counts l:=by
   intro l
   induction l with
   |nil=>intro _;rw[Node.pres_nil];simp[Node.counts]
   |cons x l ihl=>intro h;rw[Node.pres_cons,List.length_append,h x (by simp),ihl (fun y hy=>h y (by simp[hy])),Node.counts]
  rw[Node.pre_eq,List.length_cons,this _ ih,Node.count_eq];omega
theorem Um:∀{l:List Node} {m:Nat} {x:Node},(Node.pres l)[m]? =some x→∃j c k,l[j]? =some c∧m=Node.counts (l.take j)+k∧c.pre[k]? =some x
 |[],m,x,h=>by rw[Node.pres_nil] at h;simp at h
 |y::l,m,x,h=>by
  rw[Node.pres_cons] at h
  by_cases c:m < y.pre.length
  ·rw[List.getElem?_append_left c] at h;exact⟨0,y,m,rfl,by simp[Node.counts],h⟩
  ·rw[List.getElem?_append_right (by omega)] at h
   obtain⟨j,d,k,h1,h2,h3⟩:=Um h;rw[Node.pre_len] at h2 c;exact⟨j+1,d,k,by simpa using h1,by simp only[List.take_succ_cons,Node.counts];omega,h3⟩
theorem At.pre{P:List Bk}(n:Node):∀{i k:Nat} {x:Node},At P i n→n.pre[k]? =some x→At P (i+k) x:=by
 induction n using Node.ind with
 |h n ih=>
  intro i k x h hk;rw[Node.pre_eq] at hk;cases k with
  |zero=>simp at hk;subst hk;exact h
  |succ k=>
   simp only[List.getElem?_cons_succ] at hk;obtain⟨j,c,m,h1,h2,h3⟩:=Um hk;have:=ih c (List.mem_of_getElem? h1) (h.kid h1) h3;rw[h2,show i+(Node.counts (n.items.take j)+m+1)=i+1+Node.counts (n.items.take j)+m by omega]
   exact this
open Go.Proofs
def bc(x:Bk):Prop:=0≤x.size∧x.size≤1048576∧(∀e∈x.exts,0≤e.off∧e.off+e.data.length≤1048576)∧x.exts.length≤1000000000
theorem YJ{n:Node}(hok:n.ok)(h:n.allB=true)(b:Nat):bc (n.hd b):=by
 have hx:n.exts.length≤1000000000:=by
  have:=((Node.ok_iff n).1 hok).2.2.2.2.2.1.2.1;omega
 rw[Node.all_eq] at h;simp only[Bool.and_eq_true] at h;obtain⟨hz,hk⟩:=Iu h.2
 by_cases k:n.kind=1
 ·have he:DO n.size n.exts=true:=by simpa[Dl,k] using hk
  obtain⟨h1,h2,h3⟩:=X0 he;exact⟨h1,h2,h3,hx⟩
 ·simp[Dw,k] at hz;have h1:n.size=0:=hz.1.2.1;have h2:n.exts=[]:=hz.1.2.2;exact⟨by simp[Node.hd,h1],by simp[Node.hd,h1],by simp[Node.hd,h2],by simp[Node.hd,h2]⟩
theorem RL{w0:World}{S:St}{id:Nat}{P:List Bk}{i off n:Int}(hB:Br S id P)(hf:bc (BO P i)){Q:AV→St→Prop}(hq:∀S',Sx S S'→Q (.str (P6 (BO P i).size (BO P i).exts off n)) S'):
  AC w0 Eb [.ptr id 0,.int .i64 i,.int .i64 off,.int .i64 n] S Q:=by
 apply Jn;unfold Ge;refine FA hB (fun _ _ _=>?_)
 simp[Ino.c];obtain⟨f1,f2,f3,f4⟩:=hf;exact Qy f3 (by omega) ⟨f1,f2⟩ hq
end Go.Av
