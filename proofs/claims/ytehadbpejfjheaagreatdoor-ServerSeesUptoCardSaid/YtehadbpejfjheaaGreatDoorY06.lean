/- Parts of the proofs of this seat: abstract values over the model, and what the functions of the program do. No condition. -/
import Derived.Test.YtehadbpejfjheaaGreatDoorX04L
set_option linter.all false
set_option maxRecDepth 100000
namespace Go.Av
mutual
def Node.pre:Node→List Node
 | .mk k o ns its ir sz es er t=>.mk k o ns its ir sz es er t::Node.pres its
def Node.pres:List Node→List Node
 |[]=>[]
 |n::l=>n.pre++Node.pres l
end
theorem Node.pre_eq(n:Node):n.pre=n::Node.pres n.items:=by cases n;rw[Node.pre];rfl
theorem Node.pres_nil:Node.pres []=[]:=by rw[Node.pres]
theorem Node.pres_cons(n:Node)(l:List Node):Node.pres (n::l)=n.pre++Node.pres l:=by rw[Node.pres]
theorem Node.pre_len(n:Node):n.pre.length=n.count:=by
 induction n using Node.ind with
 |h n ih=>
  have:∀(l:List Node),(∀x∈l,x.pre.length=x.count)→(Node.pres l).length=Node.counts l:=by
   intro l
   induction l with
   |nil=>intro _;rw[Node.pres_nil];simp[Node.counts]
   |cons x l ihl=>intro h;rw[Node.pres_cons,List.length_append,h x (by simp),ihl (fun y hy=>h y (by simp[hy])),Node.counts]
  rw[Node.pre_eq,List.length_cons,this _ ih,Node.count_eq];omega
theorem bt:∀{l:List Node} {m:Nat} {x:Node},(Node.pres l)[m]? =some x→∃j c k,l[j]? =some c∧m=Node.counts (l.take j)+k∧c.pre[k]? =some x
 |[],m,x,h=>by rw[Node.pres_nil] at h;simp at h
 |y::l,m,x,h=>by
  rw[Node.pres_cons] at h
  by_cases c:m < y.pre.length
  ·rw[List.getElem?_append_left c] at h;exact⟨0,y,m,rfl,by simp[Node.counts],h⟩
  ·rw[List.getElem?_append_right (by omega)] at h
   obtain⟨j,d,k,h1,h2,h3⟩:=bt h;rw[Node.pre_len] at h2 c;exact⟨j+1,d,k,by simpa using h1,by simp only[List.take_succ_cons,Node.counts];omega,h3⟩
theorem At.pre{P:List Cn}(n:Node):∀{i k:Nat} {x:Node},At P i n→n.pre[k]? =some x→At P (i+k) x:=by
 induction n using Node.ind with
 |h n ih=>
  intro i k x h hk;rw[Node.pre_eq] at hk;cases k with
  |zero=>simp at hk;subst hk;exact h
  |succ k=>
   simp only[List.getElem?_cons_succ] at hk;obtain⟨j,c,m,h1,h2,h3⟩:=bt hk;have:=ih c (List.mem_of_getElem? h1) (h.kid h1) h3;rw[h2,show i+(Node.counts (n.items.take j)+m+1)=i+1+Node.counts (n.items.take j)+m by omega]
   exact this
end Go.Av
