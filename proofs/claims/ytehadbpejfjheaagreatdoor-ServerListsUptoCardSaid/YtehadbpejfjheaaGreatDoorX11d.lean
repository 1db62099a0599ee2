/- Parts of the proofs of this seat: abstract values over the model, and what the functions of the program do. No condition. -/
import Derived.Test.YtehadbpejfjheaaGreatDoorX08d
import Derived.Test.YtehadbpejfjheaaGreatDoorX04L
set_option linter.all false
set_option maxRecDepth 100000
namespace Go.Av
open Go.Proofs
def MX(t:Str):Node:=.mk 3 false ⟨[],.nil⟩ [] .nil 0 [] .nil t
theorem iX{t:Str}(h:t.length≤1048576):(MX t).ok:=by
 rw[Node.ok_iff];simp[MX,Node.kind,Node.names,Node.items,Node.ir,Node.size,Node.exts,Node.er,Node.target,I64,Ss.ok];omega
structure mL where
 trees:List Node
 tr:Rt
 path:Str
 follow:Bool
theorem ce{x:AV}(h:TV HR x):∃c:mL,x= .agg [.vs 7 (c.trees.map Node.c) c.tr.strip,.str c.path,.bool c.follow]∧(∀n∈c.trees,n.ok)∧c.trees.length≤1048576∧c.path.length≤1048576∧(c.tr.strip= .nil→c.trees=[]):=by
 obtain⟨xs,rfl,h2⟩:=h.agg (by simp[isAgg,J8])
 obtain⟨hl,hf⟩:=h2.struct_inv J8
 match xs,hl with
 |[a0,a1,a2],_=>
  obtain⟨l,lr,e0,hlr,hll,hlok⟩:=(Zq (hf _ (List.mem_cons_self))).2 rfl;obtain⟨p,e1,hp⟩:=Rl (hf _ (List.mem_cons_of_mem _ List.mem_cons_self)) PQ;obtain⟨f,e2⟩:=OO (hf _ (List.mem_cons_of_mem _ (List.mem_cons_of_mem _ List.mem_cons_self))) U6;cases e0;cases e1;cases e2;have hs:lr.strip=lr∧(lr.strip= .nil→l=[]):=by
   rcases hlr with ⟨rfl,h0⟩|rfl
   ·exact⟨rfl,fun _=>h0⟩
   ·exact⟨rfl,fun e=>by cases e⟩
  exact⟨⟨l,lr,p,f⟩,by simp[hs.1],hlok,hll,hp,hs.2⟩
end Go.Av
