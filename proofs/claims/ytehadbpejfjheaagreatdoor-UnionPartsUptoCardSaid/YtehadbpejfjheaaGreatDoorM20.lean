/- Parts of the proofs of this seat: abstract values over the model, and what the functions of the program do. No condition. -/
import Derived.Test.YtehadbpejfjheaaGreatDoorM16
import Derived.Test.YtehadbpejfjheaaGreatDoorM11
import Derived.Test.YtehadbpejfjheaaGreatDoorM13
import Derived.Shelf.Strings.Builder1
set_option linter.all false
set_option maxRecDepth 100000
namespace Go.Av
open Go.RowKit Go.Proofs Go.Shelf
theorem setCell_eq_setRow{w:World}{b:Nat}{arr:Array Value}{e:TypeId}(hb:w.heap[b]? =some (.cells arr e (0,0)))(v:Value):w.setCell ⟨b,0,none⟩ v=w.setRow b (arr.setIfInBounds 0 v):=by
 have hlt:=(Array.getElem?_eq_some_iff.1 hb).1;unfold World.setCell World.setRow;congr 1;apply Array.ext_getElem?;intro i;rw[Array.getElem?_modify,Array.getElem?_modify]
 by_cases h:b=i
 ·subst h;simp[hb]
 ·simp[h]
theorem UI{E:Env}{ρ:Ren}(L:Lays.n240 E.P ρ)(X:Builder.X72 E.P ρ)(h0:ρ.t 72≠0){S:St}{id:Nat}{c buf:AV}(hS:S[id]? =some (.cells [c,buf] (ρ.t 72)))(hc:c= .nil∨c= .ptr id 0):
  AN E (ρ.f 240) [.ptr id 0] S fun r S'=>S'=S.set id (.cells [.ptr id 0,buf] (ρ.t 72)):=by
 refine⟨⟨_,L.f240,by kernel_rfl,by kernel_rfl⟩,fun G w hrel hrole args' hl ha=>?_⟩
 obtain⟨v,rfl⟩:∃v,args'=#[v]:=by
  match args',hl with
  |⟨[v]⟩,_=>exact⟨v,rfl⟩
 have hv:=(ha 0 (.ptr id 0) v rfl rfl).1;cases hv with
 |ptr _ _ b hrho=>
  obtain⟨b',arr,e,k1,k2,k3,k4,k5⟩:=hrel.obj id _ hS;rw[hrho] at k1;cases k1;obtain⟨rfl,hsz⟩:=k5 h0;have hid:id < S.length:=(List.getElem?_eq_some_iff.1 hS).1;have hex:∀b,(∃id,G.role b= .obj id)∨(∃id j,G.role b= .ocell id j)∨G.role b= .ext∨G.role b= .ret∨∃i,G.role b= .retc i:=fun b=>by
   rcases hrole b with h|h|h
   ·exact .inl h
   ·exact .inr (.inl h)
   ·exact .inr (.inr (.inl h))
  obtain⟨v0,hv0,hcr⟩:=k4.get (j:=0) rfl;have hcell:w.cell? ⟨b,0,none⟩=some v0:=by simp[World.cell?,k3,hv0]
  rcases hc with rfl|rfl
  ·have:=hcr.vr;cases this;refine(Any.Builder_copyCheck_fresh L X b w hcell (by simp[World.shape?,k3,hsz]) (by simp[World.frozen?,k3])).mono ?_
   rintro e w' ⟨rfl,rfl⟩;rw[setCell_eq_setRow k3];have hc:=Chg.setRow (w:=w) k2 (arr.setIfInBounds 0 (.pointer (some ⟨b,0,none⟩)));refine⟨_,.undef,_,G,rfl,rfl,?_,.undef _,hc.weaken (by rintro κ rfl;simp),hex⟩
   refine hrel.setRow k2 (.inl ⟨id,rfl⟩) k3 (by simp) _ (by simp) fun id' o ho=>?_
   rw[List.getElem?_set] at ho
   by_cases e':id=id'
   ·subst e';simp only[if_true,hid,Option.some.injEq] at ho;subst ho;refine .inr ⟨b,_,_,hrho,k2,setRow_heap w b arr _ _ _ k3,⟨by simp[hsz],fun j x v hx hv=>?_⟩,fun _=>⟨rfl,by simp[hsz]⟩⟩
    match j with
    |0=>
     have hx':x= .ptr id 0:=by simpa using hx.symm
     have hv':v= .pointer (some ⟨b,0,none⟩):=by
      rw[Array.getElem?_setIfInBounds_self_of_lt (by rw[hsz];simp)] at hv
      exact(Option.some.inj hv).symm
     subst hx' hv';exact⟨.ptr _ _ _ hrho,rfl,.of_not rfl⟩
    |j+1=>
     have hv':arr[j+1]? =some v:=by
      rw[Array.getElem?_setIfInBounds_ne (by omega)] at hv;exact hv
     exact(k4.2 (j+1) x v (by simpa using hx) hv').chg hc (by simp)
   ·simp only[e',if_false] at ho;exact .inl ⟨ho,by simpa using e'⟩
  ·have:=hcr.vr;cases this with
   |ptr _ _ b2 hr2=>
    rw[hrho] at hr2;cases hr2;refine(Any.Builder_copyCheck_used L X b w hcell).mono ?_;rintro e w' ⟨rfl,rfl⟩;have hset:S.set id (.cells [.ptr id 0,buf] (ρ.t 72))=S:=by
     apply List.ext_getElem?;intro i;rw[List.getElem?_set]
     by_cases h:id=i
     ·subst h;simp only[if_true,hid];exact hS.symm
     ·simp[h]
    exact⟨_,.undef,_,G,rfl,hset.symm,hrel,.undef _,.refl _ _ _,hex⟩
open Go.RowKit Go.Proofs Go.Shelf
theorem SU{E:Env}{ρ:Ren}(L:Lays.n169 E.P ρ)(X:Builder.Extra E.P ρ)(h72:ρ.t 72≠0){S:St}{id:Nat}{c:AV}(hS:S[id]? =some (.cells [c,.vs 1 [] .nil] (ρ.t 72))):
  AN E (ρ.f 169) [.ptr id 0] S fun r S'=>S'=S∧r= .str []:=by
 refine⟨⟨_,L.f169,by kernel_rfl,by kernel_rfl⟩,fun G w hrel hrole args' hl ha=>?_⟩
 obtain⟨v,rfl⟩:∃v,args'=#[v]:=by
  match args',hl with
  |⟨[v]⟩,_=>exact⟨v,rfl⟩
 have hv:=(ha 0 (.ptr id 0) v rfl rfl).1;cases hv with
 |ptr _ _ b hrho=>
  obtain⟨b',arr,e,k1,k2,k3,k4,k5⟩:=hrel.obj id _ hS;rw[hrho] at k1;cases k1;obtain⟨rfl,hsz⟩:=k5 h72;obtain⟨p,u,rfl⟩:∃p u,arr=#[p,u]:=by
   match arr,hsz with
   |⟨[p,u]⟩,_=>exact⟨p,u,rfl⟩
  have hu:=(k4.2 1 _ u rfl rfl).vr;have hu':u= .slice none 0 0:=by
   cases hu with
   |vsnil=>rfl
   |vs _ _ _ _ _ _ _ hr=>exact(hr rfl).elim
   |vse _ _ _ hr=>rcases hr with hr|hr<;>cases hr
  subst hu';refine(Om L X b p w k3).mono ?_;rintro e w' ⟨rfl,rfl⟩;have hb:Below w.heap.size w w.drew:=Below.drew (Below.refl _ _);refine⟨_,.str [],S,G,rfl,⟨rfl,rfl⟩,hrel.below hb,.of_cell1 (.str []) rfl,Chg.below hb,fun b=>?_⟩
  rcases hrole b with h|h|h
  ·exact .inl h
  ·exact .inr (.inl h)
  ·exact .inr (.inr (.inl h))
theorem World.freeze_other{w:World}{g o n b:Nat}(h:b≠g):(w.freeze ⟨g,o,none⟩ n).heap[b]? =w.heap[b]?:=by
 unfold World.freeze;split
 ·rfl
 ·simp[Array.getElem?_modify,Ne.symm h]
theorem World.freeze_self{w:World}{g o n:Nat}{arr:Array Value}{e:TypeId}{fz:Nat×Nat}(h:w.heap[g]? =some (.cells arr e fz)):∃fz',(w.freeze ⟨g,o,none⟩ n).heap[g]? =some (.cells arr e fz'):=by
 unfold World.freeze;split
 ·exact⟨_,h⟩
 ·simp only[Array.getElem?_modify,if_true,h,Option.map_some];exact⟨_,rfl⟩
theorem World.freeze_cell{w:World}{g o n:Nat}(a:Addr):(w.freeze ⟨g,o,none⟩ n).cell? a=w.cell? a:=by
 unfold World.cell?
 by_cases h:a.block=g
 ·rw[h];cases hh:w.heap[g]? with
  |none=>
   have:(w.freeze ⟨g,o,none⟩ n).heap[g]? =none:=by
    unfold World.freeze;split
    ·exact hh
    ·simp[Array.getElem?_modify,hh]
   rw[this]
  |some ob=>
   cases ob with
   |cells arr e fz=>
    obtain⟨fz',h'⟩:=World.freeze_self (o:=o) (n:=n) hh;rw[h']
   |_=>
    have h2:(w.freeze ⟨g,o,none⟩ n).heap[g]? =w.heap[g]?:=by
     unfold World.freeze;split
     ·rfl
     ·simp[Array.getElem?_modify,hh]
    rw[h2,hh]
 ·rw[World.freeze_other h]
theorem World.freeze_size{w:World}{a:Addr}{n:Nat}:(w.freeze a n).heap.size=w.heap.size:=by
 unfold World.freeze;split<;>simp
theorem World.freeze_rest{w:World}{a:Addr}{n:Nat}:(w.freeze a n).os=w.os∧(w.freeze a n).tape=w.tape∧(w.freeze a n).output=w.output:=by
 unfold World.freeze;split<;>exact⟨rfl,rfl,rfl⟩
def byteCells(l:List UInt8):List (List AV):=l.map fun x=>[.int .u8 x.toNat]
theorem Yi{E:Env}{ρ:Ren}(L:Lays.n169 E.P ρ)(X:Builder.Extra E.P ρ)(h72:ρ.t 72≠0)(h5:ρ.t 5≠0){S:St}{id:Nat}{c:AV}{l:List UInt8}(h0:l≠[])(h63:l.length≤9223372036854775807)
  (hS:S[id]? =some (.cells [c,.vs 1 (byteCells l) (.own (ρ.t 5))] (ρ.t 72))):
  AN E (ρ.f 169) [.ptr id 0] S fun r S'=>S'=S.set id (.cells [c,.vs 1 (byteCells l) .none] (ρ.t 72))∧r= .str l:=by
 refine⟨⟨_,L.f169,by kernel_rfl,by kernel_rfl⟩,fun G w hrel hrole args' hl ha=>?_⟩
 obtain⟨v,rfl⟩:∃v,args'=#[v]:=by
  match args',hl with
  |⟨[v]⟩,_=>exact⟨v,rfl⟩
 have hv:=(ha 0 (.ptr id 0) v rfl rfl).1;cases hv with
 |ptr _ _ b hrho=>
  obtain⟨b',arr,e,k1,k2,k3,k4,k5⟩:=hrel.obj id _ hS;rw[hrho] at k1;cases k1;obtain⟨rfl,hsz⟩:=k5 h72;obtain⟨p,u,rfl⟩:∃p u,arr=#[p,u]:=by
   match arr,hsz with
   |⟨[p,u]⟩,_=>exact⟨p,u,rfl⟩
  have hc0:=k4.2 0 c p rfl rfl;have hc1:=k4.2 1 _ u rfl rfl;obtain⟨g,o,len,cap,rfl,sz,es,t,he,hlen,hrg,⟨cur,ec,hg,hsize,hec⟩,_⟩:=hc1.tail rfl;have hes:byteCells l=es:=by cases he;rfl
  have hsz1:1=sz:=by cases he;rfl
  have ht:ρ.t 5=t:=by cases he;rfl
  subst hes hsz1 ht;have hec:=hec h5;subst hec;have hll:(byteCells l).length=l.length:=by simp[byteCells]
  rw[hll] at hlen;subst hlen;have hvr:=hc1.vr;have hcap:l.length≤cap:=by
   generalize hnn:l.length=nn at hvr ⊢;generalize hbb:byteCells l=bb at hvr;cases hvr with
   |vs b2 o2 cap2 _ _ _ f hr hc2 hf hs hh hh2=>exact hc2
   |vse a2 _ _ hr=>exact Nat.le_refl _
  have hcell:∀j x,l[j]? =some x→w.cell? ((⟨g,o,none⟩:Addr).add j)=some (.int .u8 x.toNat):=by
   intro j x hx;generalize hnn:l.length=nn at hvr;generalize hbb:byteCells l=bb at hvr;cases hvr with
   |vs b2 o2 cap2 _ _ _ f hr hc2 hf hs hh hh2=>
    subst hbb;have e1:(byteCells l)[j]? =some [.int .u8 x.toNat]:=by simp[byteCells,hx]
    have h1:=hh j _ 0 _ e1 rfl;have h2:=hh2 j _ 0 _ e1 rfl;have h3:=hrel.imm _ _ _ h1;generalize f j 0=fv at h2 h3;cases h2;rw[PC];simpa using h3
   |vse a2 _ _ hr=>rcases hr with hr|hr<;>cases hr
  have hl1:1≤l.length:=by
   cases l with
   |nil=>exact(h0 rfl).elim
   |cons x l=>simp
  refine(Ul L X b g o cap p cur l w h0 k3 hg (by omega) (by omega) h63 hcell).mono ?_
  rintro e w' ⟨rfl,rfl⟩;have hgid:g≠b:=by
   intro e;subst e;rw[hrg] at k2;cases k2
  have hd:w.drew.heap[g]? =some (.cells cur (ρ.t 5) (0,0)):=hg;have hchg:Chg (fun κ=>κ= .ocell id 1) G w G (w.drew.freeze ⟨g,o,none⟩ l.length):=by
   refine⟨.refl G,by rw[World.freeze_size];exact Nat.le_refl _,fun b2 hb2 hk=>⟨?_,rfl,fun _=>rfl⟩⟩
   exact(World.freeze_other (w:=w.drew) (o:=o) (n:=l.length) (fun e=>hk (by rw[e];exact hrg))).trans rfl
  have hR:=World.freeze_rest (w:=w.drew) (a:=⟨g,o,none⟩) (n:=l.length);have hlt:id < S.length:=(List.getElem?_eq_some_iff.1 hS).1;refine⟨_,.str l,_,G,rfl,⟨rfl,rfl⟩,⟨hR.1.trans hrel.os,hR.2.1.trans hrel.tape,hR.2.2.trans hrel.output,by rw[World.freeze_size];exact hrel.size,fun b2 hb2=>⟨?_,(hrel.old b2 hb2).2⟩,fun b2 o2 v2 hv2=>?_,fun b2 hb2=>?_,hrel.noimm,
   fun i b2 hi=>?_,fun b2 hb2=>?_,fun i ob hi=>?_⟩,.of_cell1 (.str l) rfl,hchg.weaken (by rintro κ rfl;simp),fun b=>?_⟩
  ·have hne:b2≠g:=by intro e;subst e;have:=(hrel.old b2 hb2).2;rw[hrg] at this;cases this
   rw[World.freeze_other hne];exact(hrel.old b2 hb2).1
  ·rw[World.freeze_cell];exact hrel.imm b2 o2 v2 hv2
  ·rw[World.freeze_size] at hb2;exact hrel.role b2 hb2
  ·rw[World.freeze_size,List.length_set];exact hrel.rho i b2 hi
  ·obtain⟨a2,e2,fz2,h1,h2⟩:=hrel.len b2 hb2
   by_cases hne:b2=g
   ·subst hne;rw[hg] at h1;cases h1;obtain⟨fz',h'⟩:=World.freeze_self (o:=o) (n:=l.length) hd;exact⟨_,_,_,h',h2⟩
   ·exact⟨a2,e2,fz2,by rw[World.freeze_other hne];exact h1,h2⟩
  ·rw[List.getElem?_set] at hi
   by_cases hii:id=i
   ·subst hii;simp only[if_true,hlt,Option.some.injEq] at hi;subst hi;refine⟨b,#[p,.slice (some ⟨g,o,none⟩) l.length cap],ρ.t 72,hrho,k2,(World.freeze_other (w:=w.drew) (o:=o) (n:=l.length) (Ne.symm hgid)).trans k3,⟨by simp,fun j x v hx hv=>?_⟩,fun _=>⟨rfl,by simp⟩⟩
    match j with
    |0=>
     simp at hx hv;subst hx hv;exact hc0.chg hchg (by simp)
    |1=>
     simp at hx hv;subst hx hv;exact⟨hc1.vr.strip1,rfl,.of_not rfl⟩
    |j+2=>simp at hx
   ·simp only[hii,if_false] at hi;exact(hrel.obj i ob hi).chg hchg (by simp) (fun j e=>hii (by cases e;rfl))
  ·rcases hrole b with h|h|h
   ·exact .inl h
   ·exact .inr (.inl h)
   ·exact .inr (.inr (.inl h))
end Go.Av
