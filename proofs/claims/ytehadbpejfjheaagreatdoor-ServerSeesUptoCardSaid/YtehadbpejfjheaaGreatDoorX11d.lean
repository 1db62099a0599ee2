/- Parts of the proofs of this seat: abstract values over the model, and what the functions of the program do. No condition. -/
import Derived.Test.YtehadbpejfjheaaGreatDoorX08d
import Derived.Test.YtehadbpejfjheaaGreatDoorX04L
set_option linter.all false
set_option maxRecDepth 100000
namespace Go.Av
open Go.Proofs
def MX(t:Str):Node:=.mk 3 false ⟨[],.nil⟩ [] .nil 0 [] .nil t
theorem iX{t:Str}(h:t.length≤1048576):(MX t).ok:=by
 rw[Node.ok_iff];simp[MX,Node.kind,Node.names,Node.items,Node.ir,Node.size,Node.exts,Node.er,Node.target,I64,Ss.ok];omega
open Go.Proofs
theorem walk_tell_A{w0:World}(hm:L2 w0){S:St}{s:Stk}{D:List Node}{want:AtN}{id:Nat}{w:Wk}{h:Nat}{names:List Str}{nm:Str}{rest:List Str}(hW:Nw S id w)(g:Going s.tabs D want w h names)(ht:w.todo=nm::rest)(hnd:nm≠dd)(htl:w.todo.length≤100000)
  {f:Fnd} {rf:Rt} (hf:f=Ej s.tabs nm (FR s.tabs names) Fnd.none) {target:Str} (htg:target.length≤1048576) (hty:f.kind=3→∀y l,Do (Dw D names) nm=y::l→target=y.target) {k:AV→St→Prop}
  (hk:∀S' e,Exo id S S'→(e≠0→want.err=e→k (.int .i64 e) S')∧(e=0→∀w2,Nw S' id w2→((∃h' names',Going s.tabs D want w2 h' names'∧(w2.todo=rest∧h'=h∨h=h'+1∧∃p,p.length≤128∧w2.todo=p++rest))∨
   (∃gg nms,LG s.tabs D w2.dirs nms∧w2.fin=some (pathOf want.names,gg)∧w2.todo=[]∧Ends s.tabs D want gg))→k (.int .i64 0) S')):
  AC w0 Fo [.ptr id 0,.agg (f.c rf.strip),.bool (!decide (f.kind=0)),.str target] S k:=by
 obtain⟨d,d1,d2,hd⟩:=g.on.last;have hdl:w.dirs.length≤16:=by
  have:=hd.short;have:=g.on.len;omega
 have hdn:w.dirs≠[]:=fun e=>by have:=g.on.len;rw[e] at this;simp at this
 have hnl:nm.length≤64:=by
  have:=(g.td nm (by rw[ht];simp)).resolve_left hnd
  exact(Jd this).2.2.2.1
 have hpth:d.path.length≤1000:=by rw[hd.path];exact Vy hd.short g.on.nm
 have hhd:w.todo.head?≠some dd:=by rw[ht];simpa using hnd
 have hdec:(!decide (f.kind=0))=decide (f.kind≠0):=by simp
 rw[hdec];refine bT hm hW g.fin hdn (by omega) (by have:=g.hops;omega) htl htg hhd (fun e=>by rw[ht] at e;cases e) (fun s' rest' d' e1 e2=>?_)
 rw[ht] at e1;cases e1;rw[d1] at e2;cases e2;refine⟨by omega,fun S5 hE5 hW5=>?_⟩
 obtain⟨d2,k1,k2,k3,k4,k5⟩:=g.step (fr:=rf) ht hnd hf hty;rw[d1] at k1;cases k1;rw[k2] at hW5 ⊢;generalize w.tell (pathOf names) nm rest f rf (decide (f.kind≠0)) target=te at k5 hW5 ⊢;obtain⟨w2,e⟩:=te;simp only at k5 hW5 ⊢;obtain⟨k6,k7⟩:=k5;refine(hk S5 e hE5).elim fun q1 q2=>?_
 by_cases he:e=0
 ·subst he;refine q2 rfl w2 hW5 ?_;rcases k7 rfl with ⟨h',nm2,g2,hc⟩|⟨gg,c1,c2,c3,c4⟩
  ·exact .inl ⟨h',nm2,g2,hc⟩
  ·exact .inr ⟨gg,names,by rw[c4];exact g.on,c1,by rw[c4],c2⟩
 ·exact q1 he (k6 he)
end Go.Av
