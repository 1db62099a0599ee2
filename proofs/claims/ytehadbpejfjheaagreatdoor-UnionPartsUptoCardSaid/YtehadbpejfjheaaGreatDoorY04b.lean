/- Parts of the proofs of this seat: abstract values over the model, and what the functions of the program do. No condition. -/
import Derived.Test.YtehadbpejfjheaaGreatDoorX03
set_option linter.all false
set_option maxRecDepth 100000
namespace Go.Av
mutual
def Node.weight:Node→Nat
 | .mk _ _ ns its _ _ es _ t=>1+ns.l.length+es.length+(es.map fun x=>x.data.length).sum+t.length+Node.weights its
def Node.weights:List Node→Nat
 |[]=>0
 |n::l=>n.weight+Node.weights l
end
def Node.own(n:Node):Nat:=1+n.names.l.length+n.exts.length+(n.exts.map fun x=>x.data.length).sum+n.target.length
theorem Node.weight_eq(n:Node):n.weight=n.own+Node.weights n.items:=by cases n;rw[Node.weight];rfl
theorem Node.count_weight(n:Node):n.count≤n.weight:=by
 induction n using Node.ind with
 |h n ih=>
  rw[Node.count_eq,Node.weight_eq];have:∀l:List Node,(∀x∈l,x.count≤x.weight)→Node.counts l≤Node.weights l:=by
   intro l
   induction l with
   |nil=>simp[Node.counts,Node.weights]
   |cons x l ihl=>
    intro h;rw[Node.counts,Node.weights];have:=h x (by simp)
    have:=ihl fun y hy=>h y (by simp[hy])
    omega
  have:=this _ ih;unfold Node.own;omega
mutual
def Node.sml:Node→Int→Int→Bool×Int
 | .mk k o ns its ir sz es er t,d,left=>
  if left - (Node.mk k o ns its ir sz es er t).own < 0∨d < 0 then (false,left - (Node.mk k o ns its ir sz es er t).own) else Node.smls its (d - 1) (left - (Node.mk k o ns its ir sz es er t).own)
def Node.smls:List Node→Int→Int→Bool×Int
 |[],_,left=>(true,left)
 |n::l,d,left=>if (n.sml d left).1=true then Node.smls l d (n.sml d left).2 else (false,(n.sml d left).2)
end
theorem Node.sml_eq(n:Node)(d left:Int):n.sml d left=if left - n.own < 0∨d < 0 then (false,left - n.own) else Node.smls n.items (d - 1) (left - n.own):=by
 cases n;rw[Node.sml];rfl
theorem Node.smls_drop{l:List Node}{i:Nat}{x:Node}(h:l[i]? =some x)(d left:Int):Node.smls (l.drop i) d left=if (x.sml d left).1=true then Node.smls (l.drop (i+1)) d (x.sml d left).2 else (false,(x.sml d left).2):=by
 have hi:=(List.getElem?_eq_some_iff.1 h).1;rw[List.drop_eq_getElem_cons hi,Node.smls,(List.getElem?_eq_some_iff.1 h).2]
theorem Node.sml_spec(n:Node):∀(d left:Int),0≤left→(n.sml d left).1=true→(n.sml d left).2=left - n.weight∧0≤(n.sml d left).2∧(n.depth:Int)≤d:=by
 induction n using Node.ind with
 |h n ih=>
  intro d left hleft h;rw[Node.sml_eq] at h ⊢;rw[Node.weight_eq,Node.depth_eq];split at h
  ·cases h
  ·rename_i c;rw[if_neg c];have key:∀l:List Node,(∀x∈l,x∈n.items)→∀lf:Int,0≤lf→(Node.smls l (d - 1) lf).1=true→(Node.smls l (d - 1) lf).2=lf - Node.weights l∧0≤(Node.smls l (d - 1) lf).2∧(Node.depths l:Int)≤d:=by
    intro l
    induction l with
    |nil=>intro _ lf hlf _;simp[Node.smls,Node.weights,Node.depths];omega
    |cons x l ihl=>
     intro hm lf hlf hh;rw[Node.smls] at hh ⊢
     by_cases hx:(x.sml (d - 1) lf).1=true
     ·rw[if_pos hx] at hh ⊢;obtain⟨p1,p2,p3⟩:=ih x (hm x (by simp)) (d - 1) lf hlf hx
      obtain⟨r1,r2,r3⟩:=ihl (fun y hy=>hm y (List.mem_cons_of_mem _ hy)) _ p2 hh
      rw[Node.weights,Node.depths];refine⟨by rw[r1,p1];omega,r2,by omega⟩
     ·rw[if_neg hx] at hh;cases hh
   obtain⟨r1,r2,r3⟩:=key n.items (fun _ h=>h) (left - n.own) (by omega) h
   exact⟨by rw[r1];omega,r2,by omega⟩
def Node.small(n:Node):Bool:=(n.sml 30 400).1
theorem Node.small_spec{n:Node}(h:n.small=true):n.weight≤400∧n.depth≤30:=by
 obtain⟨h1,h2,h3⟩:=n.sml_spec 30 400 (by omega) h
 omega
end Go.Av
