/- Parts of the proofs of this seat: abstract values over the model, and what the functions of the program do. No condition. -/
import Derived.Test.YtjkffbaienbmkaaGreatDoorXDel
import Derived.Test.YtjkffbaienbmkaaGreatDoorX10L
import Derived.Test.YtjkffbaienbmkaaGreatDoorXFew
import Derived.Test.YtjkffbaienbmkaaGreatDoorM11
import Derived.Test.YtjkffbaienbmkaaGreatDoorXSplit
import Derived.Test.YtjkffbaienbmkaaGreatDoorCards
import Derived.Test.YtjkffbaienbmkaaGreatDoorTie
import Derived.WalkKit
import Derived.ProofKit
import Derived.OpenShut
import Derived.Below
import Derived.JoinedCond
import Derived.Deep.DeepHandedRow
import Derived.Deep.DeepWitnessRowRef
import Derived.Lib.LaidTab
set_option linter.all false
namespace Go.Av
open Go.Proofs
abbrev CuX:=FA×Rt
def CuX.c(x:CuX):List AV:=[.int .i64 x.1.id,.int .i64 x.1.epoch,.vs 1 (x.1.names.map Bz) x.2,.int .i64 x.1.at_]
@[simp] theorem CuX.len(x:CuX):(CuX.c x).length=4:=rfl
def iC(n:Int):List AV:=[.int .i64 n]
structure SpX where
 rd:Rt
 ri:Rt
 ro:Rt
 ox:List CuX
def SpX.c(X:SpX)(σ:SpN):List AV:=[.vs 7 (σ.D.map Node.c) X.rd,.vs 1 (σ.ids.map iC) X.ri,.int .i64 σ.next,.int .i64 σ.epoch,.int .i64 σ.room,.vs 4 (X.ox.map CuX.c) X.ro,.int .i64 σ.made]
structure SpX.ok(X:SpX)(σ:SpN):Prop where
 rd:X.rd.strip=X.rd∧okR X.rd σ.D
 ri:X.ri.strip=X.ri∧okR X.ri σ.ids
 ro:X.ro.strip=X.ro∧okR X.ro X.ox
 ox:X.ox.map (·.1)=σ.opens
 rx:∀x∈X.ox,x.2.strip=x.2
@[simp] theorem SpX.len(X:SpX)(σ:SpN):(X.c σ).length=7:=rfl
theorem strip_strip(r:Rt):r.strip.strip=r.strip:=by cases r<;>rfl
theorem SpX.map(X:SpX)(σ:SpN)(h:X.ok σ):(X.c σ).map AV.strip1=X.c σ:=by
 simp[SpX.c,AV.strip1,h.rd.1,h.ri.1,h.ro.1]
@[simp] theorem SpX.free1(X:SpX)(σ:SpN):(∀x∈X.c σ,x.free1=true)↔True:=by simp[SpX.c,AV.free1]
theorem K9{q:Rt}(h:q≠ .nil):q.strip≠ .nil:=by cases q<;>simp_all [Rt.strip]
theorem DE{ei:TI}{S:St}{sz:Nat}(hs:sz=ei.size){es ys:List (List AV)}{r r':Rt}(hr:r≠ .none∧r≠ .nil)(hl:es.length+ys.length≤lim):∃q,(q≠ .none∧q≠ .nil)∧AT ei S (.vs sz es r) (.vs sz ys r')=some (.vs sz (es++ys) q):=by
 by_cases h:ys=[]
 ·exact⟨r,hr,by simp[AT,BM,hs,h]⟩
 ·exact⟨.own (By ei r),by simp,by simp[AT,BM,hs,h,hr.1,hl]⟩
theorem lG{ei:TI}{sz:Nat}(hs:sz=ei.size){es:List (List AV)}{r:Rt}(hr:r= .nil→es=[]){n:Int}{k:Nat}(hn:n=k)(hk:k≤es.length):∃q,Dk ei (.vs sz es r) none (some (.int .i64 n)) none=some (.vs sz (es.take k) q):=by
 subst hn;have h:=gR ei sz es r .i64 k;rw[if_pos ⟨hs,hk,hr⟩] at h;exact⟨_,h⟩
theorem SI{ei:TI}{sz:Nat}(hs:sz=ei.size){es:List (List AV)}{r:Rt}(hr:r= .nil→es=[]){n:Int}{k:Nat}(hn:n=k)(hk:k≤es.length):Dk ei (.vs sz es r) (some (.int .i64 n)) none none=some (.vs sz (es.drop k) r):=by
 subst hn;have h:=Uu ei sz es r .i64 k;rw[if_pos ⟨hs,hk,hr⟩] at h;exact h
theorem okR.nil{α:Type}{r:Rt}{l:List α}(h:okR r l):r= .nil→l=[]:=fun e=>h (by rw[e];rfl)
theorem Ol{α β:Type}{f:α→β}{l:List α}(h:l=[]):l.map f=[]:=by rw[h];rfl
theorem EA{w0:World}{S:St}{e:Int}{Q:AV→St→Prop}(hq:Q (.agg ((Ai e).c .nil)) S):AC w0 DO [.int .i64 e] S Q:=by
 apply XT;unfold QW;exact hq
set_option maxRecDepth 100000 in
theorem TQ{w0:World}{S:St}{σ:SpN}{X:SpX}{n:Node}{k:Nat}(hX:X.ok σ)(hok:σ.ok k)(hk:k≤1000000){Q:AV→St→Prop}(hq:∀Y:SpX,Y.ok (EL σ n)→Q (.agg (Y.c (EL σ n))) S):AC w0 Jy [.agg (X.c σ),.agg n.c] S Q:=by
 have hcc:=n.c_eq';have h1:=hok.few;have h2:=hok.ids;have h3:=hok.next.1;have h4:=hok.epoch;unfold SpX.c;rw[hcc];apply Zj;unfold TU;simp[←hcc];obtain⟨q1,⟨g1,g2⟩,g3⟩:=DE (ei:=AF) (S:=S) (sz:=7) rfl (es:=[n.c]) (ys:=σ.D.map Node.c) (r:=.full) (r':=X.rd.strip) (by simp) (by simp[lim];omega)
 obtain⟨q2,⟨g4,g5⟩,g6⟩:=DE (ei:=AN) (S:=S) (sz:=1) rfl (es:=[[.int .i64 (σ.next:Int)]]) (ys:=σ.ids.map iC) (r:=.full) (r':=X.ri.strip) (by simp) (by simp[lim];omega)
 have hnc:=n.c_eq;simp[g3,g6]
 try simp (disch:=omega) only[wrap64]
 have:=hq ⟨q1.strip,q2.strip,X.ro,X.ox⟩ ⟨⟨strip_strip _,fun h=>absurd (by rw[strip_strip] at h;exact h) (K9 g2)⟩,⟨strip_strip _,fun h=>absurd (by rw[strip_strip] at h;exact h) (K9 g5)⟩,hX.ro,hX.ox,hX.rx⟩
 simpa[SpX.c,EL,iC,hX.ro.1] using this
set_option maxRecDepth 100000 in
theorem Td{w0:World}{S:St}{l:List CuX}{r:Rt}{id:Int}(hl:l.length≤1000000){Q:AV→St→Prop}(hq:Q (.int .i64 (match Ey (l.map (·.1)) id with|some k=>(k:Int)|none=>-1)) S):AC w0 KJ [.vs 4 (l.map CuX.c) r,.int .i64 id] S Q:=by
 apply Y4;unfold TL;simp[AH];refine Al l (fun i (_:Unit)=>([.int .i64 i],[])) (fun i _ S'=>S'=S∧∀x∈l.take i,x.1.id≠id) () rfl ⟨rfl,by simp⟩ ?_ ?_
 ·rintro i _ S' v b x hi hxi hd hc hmem ⟨rfl,hno⟩ hv;simp at hv;simp[hv,hc,hxi,CuX.c]
  by_cases e:x.1.id=id
  ·have hf:Ey (l.map (·.1)) id=some i:=by
    unfold Ey;rw[List.findIdx?_eq_some_iff_getElem];refine⟨by simpa using hi,?_,fun j hj=>?_⟩
    ·have:=(List.getElem?_eq_some_iff.1 hxi).2;simp[this,e]
    ·have hm:l[j]'(by omega)∈l.take i:=by
      rw[List.mem_take_iff_getElem];exact⟨j,by omega,rfl⟩
     simpa using hno _ hm
   rw[hf] at hq;simp[e];exact hq
  ·simp[e]
   try simp (disch:=omega) only[wrap64]
   have hnew:∀y∈l.take (i+1),y.1.id≠id:=fun y hy=>by
    rw[List.take_succ,hxi] at hy;rcases List.mem_append.1 hy with hy|hy
    ·exact hno y hy
    ·simp at hy;subst hy;exact e
   refine .next hi () rfl ⟨rfl,?_⟩;simpa using hnew
 ·rintro _ S' v b ⟨rfl,hno⟩ hv N;simp at hv;rw[List.take_length] at hno;have hf:Ey (l.map (·.1)) id=none:=by
   unfold Ey;rw[List.findIdx?_eq_none_iff];intro c hc;obtain⟨x,hx,rfl⟩:=List.mem_map.1 hc;simpa using hno x hx
  rw[hf] at hq;simp[hv];exact hq
set_option maxRecDepth 100000 in
theorem V7{w0:World}{S:St}{l:List Int}{r:Rt}{k:Nat}(hr:okR r l)(hl:l.length≤1000000)(hk:k < l.length){Q:AV→St→Prop}(hq:∀q,q≠ .nil→Q (.vs 1 ((l.eraseIdx k).map iC) q) S):AC w0 Jj [.vs 1 (l.map iC) r,.int .i64 k] S Q:=by
 apply Ur;unfold OA;obtain⟨q0,c1⟩:=lG (ei:=AN) (sz:=1) rfl (es:=l.map iC) (r:=r.strip) (fun e=>Ol (hr (by rw[←e]))) (n:=(k:Int)) rfl (by simp;omega)
 have c2:=SI (ei:=AN) (sz:=1) rfl (es:=l.map iC) (r:=r.strip) (fun e=>Ol (hr (by rw[←e]))) (n:=IntKind.i64.wrap ((k:Int)+1)) (k:=k+1) (by rw[wrap64 (by omega) (by omega)];omega) (by simp;omega)
 obtain⟨q1,g1,g3⟩:=DE (ei:=AN) (S:=S) (sz:=1) rfl (es:=[]) (ys:=(l.map iC).take k) (r:=.full) (r':=q0) (by simp) (by simp[lim];omega)
 obtain⟨q2,g4,g6⟩:=DE (ei:=AN) (S:=S) (sz:=1) rfl (es:=[]++(l.map iC).take k) (ys:=(l.map iC).drop (k+1)) (r':=r.strip) g1 (by simp[lim];omega)
 simp only[c1,c2,g3,g6,Cf];have:=hq q2 g4.2;rw[List.eraseIdx_eq_take_drop_succ] at this;simpa using this
open Go.Proofs
theorem Wi{D:List Node}(h:∀n∈D,n.ok∧Bs n=true)(hl:D.length≤64):Docs D:=by
 have hd:∀l:List Node,(Dm l).length≤l.length:=by
  intro l
  induction l with
  |nil=>simp[Dm]
  |cons x l ih=>rw[Dm];split<;>simp;omega
 refine⟨by omega,fun n hn=>(h n hn).1,fun n hn=>?_,by have:=hd D;omega⟩
 have:=I2 hn;exact⟨(h n this).1,(FB (h n this).2).2.1⟩
set_option maxRecDepth 100000 in
theorem JD{w0:World}{S:St}{s:Stk}{D:List Node}{dr:Rt}{path:Str}(hL:Leads S s D)(hD:Docs D)(hp:path.length≤1048576){Q:AV→St→Prop}
  (hq:∀r r2:Rt,Q (.tup [.vs 1 ((if CT (BP D path true)=0 then (BP D path true).names else []).map Bz) r.strip,.vs 2 ((Fs D path).map Ent.c) r2,.int .i64 (CT (BP D path true))]) S):AC w0 Fj [.vs 7 (D.map Node.c) dr,.str path] S Q:=by
 unfold Fs at hq;refine bv hL hD hp (fun he=>?_) (fun he r r2=>?_)
 ·have:=hq .nil .nil;rw[if_neg he,if_neg he] at this;exact this
 ·have:=hq r r2;rw[if_pos he,if_pos he,he] at this;exact this
structure PgI where
 i:Nat
 q:Nat
 r:Rt
set_option maxRecDepth 100000 in
theorem bI{w0:World}{S:St}{σ:SpN}{X:SpX}{o:OpN}{s:Stk}{k:Nat}(hX:X.ok σ)(hok:σ.ok k)(hk:k≤1000000)(hL:Leads S s σ.D)(hn:o.n≤1000000){Q:AV→St→Prop}
  (hq:∀(Y:SpX) (rt:Rt),Y.ok (HX σ o.id o.n).1→Q (.tup [.agg (Y.c (HX σ o.id o.n).1),.agg ((HX σ o.id o.n).2.c rt)]) S):AC w0 NG [.agg (X.c σ),.agg o.c] S Q:=by
 have hoc:o.c=[.int .i64 o.kind,.str o.path,.int .i64 o.off,.int .i64 o.n,.int .i64 o.id,.str o.image]:=rfl;have hxc:X.c σ=[.vs 7 (σ.D.map Node.c) X.rd,.vs 1 (σ.ids.map iC) X.ri,.int .i64 σ.next,.int .i64 σ.epoch,.int .i64 σ.room,.vs 4 (X.ox.map CuX.c) X.ro,.int .i64 σ.made]:=rfl;have hrm:=hok.room;have hop:=hok.opens;have hxl:X.ox.length=σ.opens.length:=by rw[←hX.ox,List.length_map]
 rw[hoc,hxc];apply Y7;unfold Tf;simp[hX.rd.1,hX.ri.1,hX.ro.1];refine Td (by omega) ?_
 rw[hX.ox];have hnegQ:∀e:Int,HX σ o.id o.n=(σ,Ai e)→Q (.tup [.agg (X.c σ),.agg ((Ai e).c .nil)]) S:=fun e he=>by
  have:=hq X .nil;rw[he] at this;exact this hX
 unfold HX at hq;cases hf:Ey σ.opens o.id with
 |none=>
  have hs:Eo σ o.id= .inr 9:=by unfold Eo;rw[hf]
  rw[hs] at hq;have:=hq X .nil hX;simp;refine EA ?_;simp[Bb.c,Ai,hX.rd.1,hX.ri.1,hX.ro.1];simpa[Bb.c,Ai,SpX.c] using this
 |some j=>
  obtain⟨c,hj,hid⟩:=NF hf;obtain⟨x,hxj,hx1⟩:∃x,X.ox[j]? =some x∧x.1=c:=by
   rw[←hX.ox,List.getElem?_map] at hj;cases h:X.ox[j]? with
   |none=>rw[h] at hj;cases hj
   |some x=>rw[h] at hj;exact⟨x,rfl,by simpa using hj⟩
  obtain⟨c',xr⟩:=x;simp only at hx1;subst hx1;have hxr:=hX.rx _ (List.mem_of_getElem? hxj);have hjl:=(List.getElem?_eq_some_iff.1 hxj).1;simp[show ¬((j:Int) < 0) by omega,hxj,CuX.c]
  by_cases he:c'.epoch=σ.epoch
  case neg=>
   have hs:Eo σ o.id= .inr 8:=by unfold Eo;rw[hf];simp[hj,he]
   rw[hs] at hq;have:=hq X .nil hX;simp[he];refine EA ?_;simp[Bb.c,Ai,hX.rd.1,hX.ri.1,hX.ro.1];simpa[Bb.c,Ai,SpX.c,CuX.c] using this
  have hs:Eo σ o.id= .inl (j,c'):=by unfold Eo;rw[hf];simp[hj,he]
  rw[hs] at hq;simp only at hq;obtain⟨c1,c2,c3,c4,c5⟩:=hok.cur c' (List.mem_of_getElem? hj);have hc4:=c4 he;have hLl:=(Leads.fine hL).list (pathOf c'.names);have hpn:=Ke c2 c3;have hD:=Wi hok.trees hok.few;simp[he];refine T1 (by omega) (by omega) ?_
  refine JD hL hD (by omega) (fun r1 r2=>?_)
  generalize hl:Fs σ.D (pathOf c'.names)=l at hq hc4 hLl ⊢;simp;rw[AH];obtain⟨M,hM⟩:∃M:Nat,M=min o.n.toNat (l.length - c'.at_):=⟨_,rfl⟩;have htake:(l.drop c'.at_).take o.n.toNat=(l.drop c'.at_).take M:=by
   rw[hM]
   by_cases hh:o.n.toNat≤l.length - c'.at_
   ·rw[Nat.min_eq_left hh]
   ·rw[Nat.min_eq_right (by omega),List.take_of_length_le (by simp;omega),List.take_of_length_le (by simp)]
  rw[htake] at hq;have hMl:((l.drop c'.at_).take M).length=M:=by rw[List.length_take,List.length_drop];omega
  rw[hMl] at hq;obtain⟨NL,hNL⟩:∃NL:List (List AV),NL=l.map fun y=>Bz y.name:=⟨_,rfl⟩
  have hNLl:NL.length=l.length:=by rw[hNL,List.length_map]
  refine De (fun p:PgI=>([],[some [.int .i64 o.kind,.str o.path,.int .i64 o.off,.int .i64 o.n,.int .i64 o.id,.str o.image],some [.int .i64 c'.id,.int .i64 σ.epoch,.vs 1 (c'.names.map Bz) xr,.int .i64 (p.q:Int)],some [.int .i64 0,.int .i64 0,.int .i64 0,.int .i64 0,.int .i64 0,.str [],.vs 1 ((NL.drop c'.at_).take p.i) p.r,.bool false]]))
   (fun n p S'=>S'=S∧p.i+n=M∧p.r≠ .none∧p.q=c'.at_+p.i) M ⟨0,c'.at_,.nil⟩ (by simp[hxr]) ⟨rfl,by simp,by simp,by simp⟩ ?_
  rintro n ⟨pi,pq,pr⟩ S' v b ⟨rfl,hpn2,hpr,hpq⟩ hv;simp only at hpn2 hpr hpq;simp at hv;obtain⟨hb3,hb7,hb11⟩:=hv;have htl:((NL.drop c'.at_).take pi).length=pi:=by rw[List.length_take,List.length_drop];omega
  generalize hW:(NL.drop c'.at_).take pi=W at hb11 htl;simp only[hb3,hb7,hb11];simp[htl]
  by_cases hlt:pi < M
  ·obtain⟨y,hy⟩:∃y,l[pq]? =some y:=⟨l[pq]'(by omega),List.getElem?_eq_getElem (by omega)⟩
   have hyN:NL[pq]? =some (Bz y.name):=by rw[hNL,List.getElem?_map,hy];rfl
   have hap:AT AG S' (.vs 1 W pr) (.vs 1 [[.str y.name]] .full)=some (.vs 1 (W++[[.str y.name]]) (.own (By AG pr))):=by
    simp[AT,BM,hpr,htl,show pi+1≤lim by unfold lim;omega]
   have hW2:W++[[.str y.name]]=(NL.drop c'.at_).take (pi+1):=by
    rw[List.take_succ,hW,List.getElem?_drop,←hpq,hyN];rfl
   have hql:pq < l.length:=by omega
   have hye:=(List.getElem?_eq_some_iff.1 hy).2;simp[hql,show (pi:Int) < o.n by omega,hye,hap]
   try simp (disch:=omega) only[wrap64]
   rw[hW2];exact⟨n - 1,⟨pi+1,pq+1,.own (By AG pr)⟩,by omega,by simp,rfl,by simp only;omega,by simp,by simp only;omega⟩
  ·have hiM:pi=M:=by omega
   have hro:=hX.ro.2.nil;have hjn:¬j=X.ox.length:=by omega
   have hron:¬X.ro=Rt.nil:=fun e=>by
    have:=hro e;rw[this] at hjl;simp at hjl
   have hW3:W=((l.drop c'.at_).take M).map fun y=>Bz y.name:=by rw[←hW,hNL,hiM,List.map_take,List.map_drop]
   obtain⟨q1,g1,g2⟩:=DE (ei:=AY) (S:=S') (sz:=4) rfl (es:=[]) (ys:=(X.ox.map CuX.c).take j) (r:=.full) (r':=.none) (by simp) (by simp[lim];omega)
   obtain⟨q2,g3,g4⟩:=DE (ei:=AY) (S:=S') (sz:=4) rfl (es:=[]++(X.ox.map CuX.c).take j) (ys:=[[.int .i64 c'.id,.int .i64 σ.epoch,.vs 1 (c'.names.map Bz) xr.strip,.int .i64 (pq:Int)]]) (r':=.full) g1 (by simp[lim];omega)
   obtain⟨q3,g5,g6⟩:=DE (ei:=AY) (S:=S') (sz:=4) rfl (es:=([]++(X.ox.map CuX.c).take j)++[[.int .i64 c'.id,.int .i64 σ.epoch,.vs 1 (c'.names.map Bz) xr.strip,.int .i64 (pq:Int)]]) (ys:=(X.ox.map CuX.c).drop (j+1)) (r':=X.ro) g3 (by simp[lim];omega)
   have c2:=SI (ei:=AY) (sz:=4) rfl (es:=X.ox.map CuX.c) (r:=X.ro) (fun e=>Ol (hro e)) (n:=(j:Int)+1) (k:=j+1) (by omega) (by simp;omega)
   simp only[List.nil_append] at g2 g4 g6;have hset:(X.ox.map CuX.c).take j++[[.int .i64 c'.id,.int .i64 σ.epoch,.vs 1 (c'.names.map Bz) xr.strip,.int .i64 (pq:Int)]]++(X.ox.map CuX.c).drop (j+1)=(X.ox.set j ({c' with at_:=c'.at_+M},xr.strip)).map CuX.c:=by
    rw[List.set_eq_take_append_cons_drop,if_pos hjl];simp[CuX.c,List.map_take,List.map_drop,he,hpq,hiM]
   have hres:=fun rt=>hq ⟨X.rd,X.ri,q3.strip,X.ox.set j ({c' with at_:=c'.at_+M},xr.strip)⟩ rt ⟨hX.rd,hX.ri,⟨strip_strip _,fun h=>absurd (by rw[strip_strip] at h;exact h) (K9 g5.2)⟩,by
    simp only;rw[List.map_set,hX.ox],fun x hx=>by
    rcases List.mem_or_eq_of_mem_set hx with hx|rfl
    ·exact hX.rx x hx
    ·exact strip_strip _⟩
   rw[hset] at g6
   by_cases hql:pq < l.length
   ·have hend:decide (c'.at_+M=l.length)=false:=by simp;omega
    rw[hend] at hres;have hre:=hres pr.strip;simp[hql,show ¬(pi:Int) < o.n by omega,Nat.le_of_lt hjl,hjn,hron,g2,g4]
    try simp (disch:=omega) only[wrap64]
    simp[-Uu,c2,g6,hX.rd.1,hX.ri.1];have hcomp:(Bz ∘Ent.name)=fun y:Ent=>[AV.str y.name]:=rfl
    simp[SpX.c,Bb.c,hW3,hcomp] at hre ⊢;have hqe:¬(pq:Int)=l.length:=by omega
    simpa[hqe] using hre
   ·have hqe:pq=l.length:=by omega
    subst hqe;have hend:decide (c'.at_+M=l.length)=true:=by simp;omega
    rw[hend] at hres;have hre:=hres pr.strip;simp[hql,Nat.le_of_lt hjl,hjn,hron,g2,g4]
    try simp (disch:=omega) only[wrap64]
    simp[-Uu,c2,g6,hX.rd.1,hX.ri.1];have hcomp:(Bz ∘Ent.name)=fun y:Ent=>[AV.str y.name]:=rfl
    simp[SpX.c,Bb.c,hW3,hcomp] at hre ⊢;simpa using hre
set_option maxRecDepth 100000 in
theorem Wn{w0:World}{S:St}{σ:SpN}{X:SpX}{o:OpN}{s:Stk}{k:Nat}(hX:X.ok σ)(hok:σ.ok k)(hk:k≤1000000)(hM:LO S s σ)(hp:o.path.length≤1048576)(hi:o.image.length≤1048575)(hoff:o.off≤9223372036854775807)(hn:o.n≤1000000){Q:AV→St→Prop}
  (hq:∀(Y:SpX) (rt:Rt),Y.ok (doS σ o).1→Q (.tup [.agg (Y.c (doS σ o).1),.agg ((doS σ o).2.c rt)]) S):AC w0 NO [.agg (X.c σ),.agg o.c] S Q:=by
 have hoc:o.c=[.int .i64 o.kind,.str o.path,.int .i64 o.off,.int .i64 o.n,.int .i64 o.id,.str o.image]:=rfl;have hxc:X.c σ=[.vs 7 (σ.D.map Node.c) X.rd,.vs 1 (σ.ids.map iC) X.ri,.int .i64 σ.next,.int .i64 σ.epoch,.int .i64 σ.room,.vs 4 (X.ox.map CuX.c) X.ro,.int .i64 σ.made]:=rfl;have hL:=hM.leads hok;have hD:=Wi hok.trees hok.few;have hrm:=hok.room;have hop:=hok.opens;have hmd:=hok.made.1;have hfew:=hok.few;have hep:=hok.epoch;have hxl:X.ox.length=σ.opens.length:=by rw[←hX.ox,List.length_map]
 have hil:=hok.ids;have hstr:X.rd.strip=X.rd∧X.ri.strip=X.ri∧X.ro.strip=X.ro:=⟨hX.rd.1,hX.ri.1,hX.ro.1⟩;obtain⟨hs1,hs2,hs3⟩:=hstr;rw[hoc,hxc];apply dU;unfold Xr;simp[hs1,hs2,hs3];rw[AH];unfold doS at hq
 by_cases k5:o.kind=5
 ·simp only[if_pos k5] at hq;simp[k5];refine JD hL hD hp (fun r1 r2=>?_)
  by_cases he:CT (BP σ.D o.path true)=0
  ·have he':¬(CT (BP σ.D o.path true)≠0):=by simpa using he
   rw[if_neg he'] at hq;unfold Im at hq;simp[he]
   by_cases hr:σ.room≤σ.opens.length
   ·rw[if_pos hr] at hq;have:=hq X .nil hX;simp[hxl,hr];refine EA ?_;simp[Bb.c,Ai,SpX.c,hs1,hs2,hs3] at this ⊢;exact this
   ·rw[if_neg hr] at hq;obtain⟨q1,g1,g2⟩:=DE (ei:=AY) (S:=S) (sz:=4) rfl (es:=[]) (ys:=X.ox.map CuX.c) (r:=.full) (r':=X.ro) (by simp) (by simp[lim];omega)
    obtain⟨q2,g3,g4⟩:=DE (ei:=AY) (S:=S) (sz:=4) rfl (es:=[]++X.ox.map CuX.c) (ys:=[[.int .i64 ((σ.made:Int)+1),.int .i64 σ.epoch,.vs 1 ((BP σ.D o.path true).names.map Bz) r1.strip,.int .i64 0]]) (r':=.full) g1 (by simp[lim];omega)
    simp only[List.nil_append] at g2 g4;have hset:X.ox.map CuX.c++[[.int .i64 ((σ.made:Int)+1),.int .i64 σ.epoch,.vs 1 ((BP σ.D o.path true).names.map Bz) r1.strip,.int .i64 0]]=(X.ox++[((⟨(σ.made:Int)+1,σ.epoch,(BP σ.D o.path true).names,0⟩:FA),r1.strip)]).map CuX.c:=by simp[CuX.c]
    rw[hset] at g4;have:=hq ⟨X.rd,X.ri,q2.strip,X.ox++[(⟨σ.made+1,σ.epoch,(BP σ.D o.path true).names,0⟩,r1.strip)]⟩ .nil ⟨hX.rd,hX.ri,⟨strip_strip _,fun h=>absurd (by rw[strip_strip] at h;exact h) (K9 g3.2)⟩,by simp[hX.ox],fun x hx=>by
     rcases List.mem_append.1 hx with hx|hx
     ·exact hX.rx x hx
     ·rw[List.mem_singleton] at hx;subst hx;exact strip_strip _⟩
    simp[hxl,hr]
    try simp (disch:=omega) only[wrap64]
    simp[g2,g4,strip_strip];simp[Bb.c,SpX.c,hs1,hs2,hs3] at this ⊢;exact this
  ·rw[if_pos he] at hq;have:=hq X .nil hX;simp[he];refine EA ?_;simp[Bb.c,Ai,SpX.c,hs1,hs2,hs3] at this ⊢;exact this
 by_cases k6:o.kind=6
 ·simp only[if_neg k5,if_pos k6] at hq;simp[k6]
  by_cases hn1:o.n < 1
  ·rw[if_pos hn1] at hq;have:=hq X .nil hX;simp[hn1];refine EA ?_;simp[Bb.c,Ai,SpX.c,hs1,hs2,hs3] at this ⊢;exact this
  ·rw[if_neg hn1] at hq;simp[hn1];have ho6:([.int .i64 6,.str o.path,.int .i64 o.off,.int .i64 o.n,.int .i64 o.id,.str o.image]:List AV)=o.c:=by rw[hoc,k6]
   rw[ho6,←hxc];refine bI hX hok hk hL hn (fun Y rt hY=>?_)
   have:=hq Y rt.strip hY;obtain⟨y1,y2,y3⟩:Y.rd.strip=Y.rd∧Y.ri.strip=Y.ri∧Y.ro.strip=Y.ro:=⟨hY.rd.1,hY.ri.1,hY.ro.1⟩;simp[Bb.c,SpX.c,y1,y2,y3] at this ⊢;exact this
 by_cases k7:o.kind=7
 ·simp only[if_neg k5,if_neg k6,if_pos k7] at hq;simp[k7];refine Td (by omega) ?_
  rw[hX.ox];unfold U4 at hq;cases hf:Ey σ.opens o.id with
  |none=>
   rw[hf] at hq;have:=hq X .nil hX;simp;refine EA ?_;simp[Bb.c,Ai,SpX.c,hs1,hs2,hs3] at this ⊢;exact this
  |some j=>
   rw[hf] at hq;simp only at hq;obtain⟨c,hj,hid⟩:=NF hf;have hjl:j < X.ox.length:=by rw[hxl];exact(List.getElem?_eq_some_iff.1 hj).1
   have hro:=hX.ro.2.nil;have hron:¬X.ro=Rt.nil:=fun e=>by
    have:=hro e;rw[this] at hjl;simp at hjl
   have hjn:¬j=X.ox.length:=by omega
   obtain⟨q1,g1,g2⟩:=DE (ei:=AY) (S:=S) (sz:=4) rfl (es:=[]) (ys:=(X.ox.map CuX.c).take j) (r:=.full) (r':=.none) (by simp) (by simp[lim];omega)
   obtain⟨q3,g5,g6⟩:=DE (ei:=AY) (S:=S) (sz:=4) rfl (es:=[]++(X.ox.map CuX.c).take j) (ys:=(X.ox.map CuX.c).drop (j+1)) (r':=X.ro) g1 (by simp[lim];omega)
   have c2:=SI (ei:=AY) (sz:=4) rfl (es:=X.ox.map CuX.c) (r:=X.ro) (fun e=>Ol (hro e)) (n:=(j:Int)+1) (k:=j+1) (by omega) (by simp;omega)
   simp only[List.nil_append] at g2 g6;have hset:(X.ox.map CuX.c).take j++(X.ox.map CuX.c).drop (j+1)=(X.ox.eraseIdx j).map CuX.c:=by
    rw[List.eraseIdx_eq_take_drop_succ];simp[List.map_take,List.map_drop]
   rw[hset] at g6;have:=hq ⟨X.rd,X.ri,q3.strip,X.ox.eraseIdx j⟩ .nil ⟨hX.rd,hX.ri,⟨strip_strip _,fun h=>absurd (by rw[strip_strip] at h;exact h) (K9 g5.2)⟩,by
    simp only;rw[KR,hX.ox],fun x hx=>hX.rx x (List.mem_of_mem_eraseIdx hx)⟩
   simp[show ¬((j:Int) < 0) by omega,Nat.le_of_lt hjl,hjn,hron,g2]
   try simp (disch:=omega) only[wrap64]
   simp[-Uu,c2,g6,strip_strip];simp[Bb.c,SpX.c,hs1,hs2,hs3] at this ⊢;exact this
 by_cases k8:o.kind=8
 ·simp only[if_neg k5,if_neg k6,if_neg k7,if_pos k8] at hq;simp[k8];have hde:=qP hi;refine Wp hi ⟨fun n hdn hnok=>?_,fun hdn=>?_⟩
  ·rw[hde] at hdn;rw[hdn] at hq;simp only at hq;unfold ZI at hq;have hnc:=n.c_eq;simp
   by_cases h64:64≤σ.D.length
   ·rw[if_pos h64] at hq;have:=hq X .nil hX;simp[show (64:Int)≤σ.D.length by omega]
    refine EA ?_;simp[Bb.c,Ai,SpX.c,hs1,hs2,hs3] at this ⊢;exact this
   ·rw[if_neg h64] at hq;simp[show ¬(64:Int)≤σ.D.length by omega]
    rw[←hxc];refine TQ hX hok hk (fun Y hY=>?_)
    have:=hq Y .nil hY;obtain⟨y1,y2,y3⟩:Y.rd.strip=Y.rd∧Y.ri.strip=Y.ri∧Y.ro.strip=Y.ro:=⟨hY.rd.1,hY.ri.1,hY.ro.1⟩;simp[Bb.c,SpX.c,y1,y2,y3] at this ⊢;exact this
  ·rw[hde] at hdn;rw[hdn] at hq;have:=hq X .nil hX;simp;refine EA ?_;simp[Bb.c,Ai,SpX.c,hs1,hs2,hs3] at this ⊢;exact this
 by_cases k9:o.kind=9
 ·simp only[if_neg k5,if_neg k6,if_neg k7,if_neg k8,if_pos k9] at hq;simp[k9];rw[AH];unfold IC at hq;have hro:=hX.ro.2.nil;refine Al σ.ids (fun i (_:Unit)=>([.int .i64 i],[some [.vs 7 (σ.D.map Node.c) X.rd,.vs 1 (σ.ids.map iC) X.ri,.int .i64 σ.next,.int .i64 σ.epoch,.int .i64 σ.room,.vs 4 (X.ox.map CuX.c) X.ro,.int .i64 σ.made],some [.int .i64 9,.str o.path,.int .i64 o.off,.int .i64 o.n,.int .i64 o.id,.str o.image],some [.vs 7 [] .nil,.vs 1 [] .nil,.int .i64 0,.int .i64 0,.int .i64 0,.vs 4 [] .nil,.int .i64 0],some [.int .i64 0,.int .i64 0,.int .i64 0,.int .i64 0,.int .i64 0,.str [],.vs 1 [] .nil,.bool false]])) (fun i _ S'=>S'=S∧∀x∈σ.ids.take i,x≠o.id) () (by simp) ⟨rfl,by simp⟩ ?_ ?_
  ·rintro i _ S' v b x hii hxi hd hcc hmem ⟨rfl,hno⟩ hv;simp at hv;obtain⟨hv1,hb2,hb3,hb4,hb5⟩:=hv;have hxe:=(List.getElem?_eq_some_iff.1 hxi).2;simp[hv1,hb2,hb3,hb4,hb5,hcc,hxe,hxi,iC,hs1,hs2,hs3]
   by_cases e:x=o.id
   ·have hf:σ.ids.findIdx? (fun i=>decide (i=o.id))=some i:=by
     rw[List.findIdx?_eq_some_iff_getElem];refine⟨hii,by simp[hxe,e],fun j hj=>?_⟩
     have hm:σ.ids[j]'(by omega)∈σ.ids.take i:=by
      rw[List.mem_take_iff_getElem];exact⟨j,by omega,rfl⟩
     simpa using hno _ hm
    rw[hf] at hq;simp only at hq;have hdl:i < σ.D.length:=by omega
    have hrd:=hX.rd.2.nil;have hrdn:¬X.rd=Rt.nil:=fun e=>by
     have:=hrd e;rw[this] at hdl;simp at hdl
    have hin:¬i=σ.D.length:=by omega
    obtain⟨q1,g1,g2⟩:=DE (ei:=AF) (S:=S') (sz:=7) rfl (es:=[]) (ys:=(σ.D.map Node.c).take i) (r:=.full) (r':=.none) (by simp) (by simp[lim];omega)
    obtain⟨q3,g5,g6⟩:=DE (ei:=AF) (S:=S') (sz:=7) rfl (es:=[]++(σ.D.map Node.c).take i) (ys:=(σ.D.map Node.c).drop (i+1)) (r':=X.rd) g1 (by simp[lim];omega)
    have c2:=SI (ei:=AF) (sz:=7) rfl (es:=σ.D.map Node.c) (r:=X.rd) (fun e=>Ol (hrd e)) (n:=(i:Int)+1) (k:=i+1) (by omega) (by simp;omega)
    simp only[List.nil_append] at g2 g6;have hset:(σ.D.map Node.c).take i++(σ.D.map Node.c).drop (i+1)=(σ.D.eraseIdx i).map Node.c:=by
     rw[List.eraseIdx_eq_take_drop_succ];simp[List.map_take,List.map_drop]
    rw[hset] at g6;simp[e,Nat.le_of_lt hdl,hin,hrdn,g2]
    try simp (disch:=omega) only[wrap64]
    simp[-Uu,c2,g6,strip_strip,hs2];refine V7 hX.ri.2 (by omega) hii (fun q hqn=>?_)
    have:=hq ⟨q3.strip,q.strip,X.ro,X.ox⟩ .nil ⟨⟨strip_strip _,fun h=>absurd (by rw[strip_strip] at h;exact h) (K9 g5.2)⟩,⟨strip_strip _,fun h=>absurd (by rw[strip_strip] at h;exact h) (K9 hqn)⟩,hX.ro,hX.ox,hX.rx⟩
    simp
    try simp (disch:=omega) only[wrap64]
    simp[Bb.c,SpX.c,hs1,hs2,hs3,strip_strip] at this ⊢;exact this
   ·simp[e]
    try simp (disch:=omega) only[wrap64]
    have hnew:∀y∈σ.ids.take (i+1),y≠o.id:=fun y hy=>by
     rw[List.take_succ,hxi] at hy;rcases List.mem_append.1 hy with hy|hy
     ·exact hno y hy
     ·simp at hy;subst hy;exact e
    refine .next hii () (by simp[iC]) ⟨rfl,?_⟩
    simpa using hnew
  ·rintro _ S' v b ⟨rfl,hno⟩ hv N;simp at hv;obtain⟨hv1,hb2,hb3,hb4,hb5⟩:=hv;rw[List.take_length] at hno;have hf:σ.ids.findIdx? (fun i=>decide (i=o.id))=none:=by
    rw[List.findIdx?_eq_none_iff];intro c hc;simpa using hno c hc
   rw[hf] at hq;have:=hq X .nil hX;simp[hv1,hb2,hb3,hb4,hb5];refine EA ?_;simp[Bb.c,Ai,SpX.c,hs1,hs2,hs3] at this ⊢;exact this
 ·simp only[if_neg k5,if_neg k6,if_neg k7,if_neg k8,if_neg k9] at hq;simp[k5,k6,k7,k8,k9];rw[←hoc];refine gL (D:=σ.D) (ids:=σ.ids) hL hM.tabs hD (fun n hn=>⟨(hok.trees n hn).1,(FB (hok.trees n hn).2).2.1⟩) hil hp hoff hL.ends ?_
  have:=hq X .nil hX;have hf:(fun k=>(σ.ids[k]?).getD 0)=σ.idf:=rfl
  simp only[hf];simp[Bb.c,SpX.c,hs1,hs2,hs3] at this ⊢;exact this
set_option maxRecDepth 100000
open Go.Proofs
def sp0(room:Int):SpN:=⟨[],[],0,0,Ev room,[],0⟩
theorem oH{σ:SpN}{k:Nat}(h:σ.ok k)(hd:σ.D.length < 64){n:Node}(hn:n.ok)(hr:Bs n=true):(EL σ n).ok (k+1):=by
 have:=h.add hn hr;unfold ZI at this;rw[if_neg (by omega)] at this
 exact this
theorem qF(room:Int):(sp0 room).ok 0:=by
 refine⟨by simp[sp0],by simp[sp0],rfl,⟨by simp[sp0],by simp[sp0]⟩,Nat.le_refl _,fP room,by simp[sp0],⟨Nat.le_refl _,by simp[sp0]⟩,by simp[sp0],by simp[sp0]⟩
theorem ja:∀(l:List Node) (σ:SpN) (k:Nat),σ.ok k→(∀n∈l,n.ok∧Bs n=true)→σ.D.length+l.length≤64→(l.foldl EL σ).ok (k+l.length)
 |[],σ,k,h,_,_=>h
 |n::l,σ,k,h,hl,hd=>by
  rw[List.foldl_cons];simp only[List.length_cons] at hd;have:=ja l (EL σ n) (k+1) (oH h (by omega) (hl n (by simp)).1 (hl n (by simp)).2) (fun m hm=>hl m (by simp[hm])) (by simp[EL];omega)
  rw[List.length_cons,show k+(l.length+1)=k+1+l.length by omega]
  exact this
set_option maxRecDepth 100000 in
theorem VC{w0:World}{S:St}{l:List Node}{r:Rt}{room:Int}(hl:l.length≤64)(hok:∀n∈l,n.ok∧Bs n=true){Q:AV→St→Prop}(hq:∀Y:SpX,Y.ok (ZU l room)→Q (.agg (Y.c (ZU l room))) S):AC w0 Ls [.vs 7 (l.map Node.c) r,.int .i64 room] S Q:=by
 apply cJ;unfold VY;simp;refine CN (fun j=>j (some [.vs 7 [] .nil,.vs 1 [] .nil,.int .i64 0,.int .i64 0,.int .i64 (if room < 1 then 1 else room),.vs 4 [] .nil,.int .i64 0])) ?_ (fun j hj=>?_)
 ·refine CN (fun j=>j (some [.vs 7 [] .nil,.vs 1 [] .nil,.int .i64 0,.int .i64 0,.int .i64 (Ev room:Nat),.vs 4 [] .nil,.int .i64 0])) ?_ (fun j hj=>?_)
  ·rw[AH];refine Al l (fun i (X:SpX)=>([.int .i64 i],[some (X.c ((l.take i).foldl EL (sp0 room)))])) (fun i X S'=>S'=S∧X.ok ((l.take i).foldl EL (sp0 room))) ⟨.nil,.nil,.nil,[]⟩ (by simp[SpX.c,sp0]) ⟨rfl,⟨⟨rfl,fun _=>rfl⟩,⟨rfl,fun _=>rfl⟩,⟨rfl,fun _=>rfl⟩,rfl,by simp⟩⟩ ?_ ?_
   ·rintro i X S' v b n hii hxi hd hcc hmem ⟨rfl,hX⟩ hv;simp at hv;obtain⟨hv1,hb⟩:=hv;have hfo:=ja (l.take i) (sp0 room) 0 (qF room) (fun m hm=>hok m (List.mem_of_mem_take hm)) (by simp[sp0];omega)
    have htk:(l.take (i+1)).foldl EL (sp0 room)=EL ((l.take i).foldl EL (sp0 room)) n:=by
     rw[List.take_succ,hxi,List.foldl_append];rfl
    generalize hσ:(l.take i).foldl EL (sp0 room)=σ at hX hb hfo htk;have hXm:=SpX.map X σ hX;simp[hv1,hb,hcc,hxi,hXm];refine TQ hX hfo (by rw[List.length_take];omega) (fun Y hY=>?_)
    simp
    try simp (disch:=omega) only[wrap64]
    refine .next hii Y ?_ ⟨rfl,by rw[htk];exact hY⟩
    rw[htk];simp
   ·rintro X S' v b ⟨rfl,hX⟩ hv N;simp at hv;obtain⟨hv1,hb⟩:=hv;rw[List.take_length] at hX;have h0:(sp0 room)=⟨[],[],0,0,Ev room,[],0⟩:=rfl;have hnew:ZU l room={l.foldl EL (sp0 room) with epoch:=0}:=rfl
    generalize hσ:l.foldl EL (sp0 room)=σ at hX hb hnew;have hres:=hq ⟨X.rd,X.ri,X.ro,X.ox⟩ (by rw[hnew];exact⟨hX.rd,hX.ri,hX.ro,hX.ox,hX.rx⟩)
    rw[hnew] at hres;obtain⟨y1,y2,y3⟩:X.rd.strip=X.rd∧X.ri.strip=X.ri∧X.ro.strip=X.ro:=⟨hX.rd.1,hX.ri.1,hX.ro.1⟩;simp[hv1,hb,SpX.c,y1,y2,y3] at hres ⊢;exact hres
  ·have e:((Ev room:Nat):Int)=if 1024 < (if room < 1 then 1 else room) then 1024 else (if room < 1 then 1 else room):=by
    unfold Ev
    by_cases h1:room < 1
    ·simp[h1]
    ·simp[h1];split<;>omega
   rw[e] at hj
   by_cases h2:1024 < (if room < 1 then 1 else room)
   ·rw[if_pos h2] at hj;simp[h2];exact hj
   ·rw[if_neg h2] at hj;simp[h2];exact hj
 ·by_cases h1:room < 1
  ·simp[h1] at hj ⊢;exact hj
  ·simp[h1] at hj ⊢;exact hj
set_option maxRecDepth 100000
open Go.Proofs
theorem Mj.newM{S0 S:St}{l:List Node}{s:Stk}(hs:Mj S0 S l s)(room:Int):LO S s (ZU l room):=by
 rw[Db];refine⟨hs.ok,hs.on,hs.tabs,?_,hs.next⟩;have h1:(s.l.map fun x=>(x.num:Int))=(s.l.map Mnt.num).map fun n:Nat=>(n:Int):=by rw[List.map_map];rfl
 rw[h1,hs.nums,List.map_reverse]
theorem nN{s:Str}:∀{L:List Ent},L.map Ent.name=[s]→∃y,L=[y]∧y.name=s
 |[y],h=>⟨y,rfl,by simpa using h⟩
 |[],h=>by simp at h
 |_::_::_,h=>by simp at h
set_option maxRecDepth 100000 in
theorem Kz{w0:World}(hm:KI w0){S:St}{Q:AV→St→Prop}(hq:∀S',Sx S S'→Q (.bool true) S'):AC w0 GJ [] S Q:=by
 apply WP;unfold PA;refine fT (by simp) (fun r1 hr1=>?_)
 refine bN ?_;simp;refine gn (l:=[[97],[98]]) (items:=[Kc [120] r1,MM]) Wo Wo (by simp) (by simp) (fun q3 q4 k3 k4=>?_)
 have hx:=mD (s:=[120]) (by simp) hr1
 have hok1:=bY (o:=false) (l:=[[97],[98]]) (items:=[Kc [120] r1,MM]) (by simp) (by simp[hx,mS]) k3 k4
 have a1:ME (Kc [120] r1)=true:=d7 (by simp)
 have a2:(Kc [120] r1).allB=true:=by rw[Node.all_eq,a1];rfl
 have hr:Bs (QM false [[97],[98]] q3 [Kc [120] r1,MM] q4)=true:=by
  have a3:ME (QM false [[97],[98]] q3 [Kc [120] r1,MM] q4)=true:=by rfl
  have a5:MM.allB=true:=by rfl
  have a4:(QM false [[97],[98]] q3 [Kc [120] r1,MM] q4).allB=true:=by
   rw[Node.all_eq,a3]
   show (Node.allsB [_,_]&&true)=true
   rw[Node.allsB,a2,Node.allsB,a5];rfl
  rw[Bs,a4];rfl
 have e1:CT (BP [QM false [[97],[98]] q3 [Kc [120] r1,MM] q4] [47] true)=0:=by rfl
 have e2:(BP [QM false [[97],[98]] q3 [Kc [120] r1,MM] q4] [47] true).names=[]:=by rfl
 have e3:(Fs [QM false [[97],[98]] q3 [Kc [120] r1,MM] q4] (pathOf [])).map Ent.name=[[97]]:=by rfl
 generalize QM false [[97],[98]] q3 [Kc [120] r1,MM] q4=d1 at hok1 hr e1 e2 e3 ⊢;have h0:=Pv [d1] 0 (by simp[hr]) (by simp)
 simp;refine W0 (l:=[d1]) hm (by simp[hok1]) (by simp) (fun S1 h1=>⟨fun _ s hs=>?_,fun h=>absurd h0 h⟩)
 have hM:=hs.newM 9;have hok:=WY (trees:=[d1]) 9 (by simp[hok1,hr]) (by simp)
 simp;rw[AH];refine Lj ?_;rw[hs.len];simp;refine Kb hM (by rw[Db]) (by rw[Db]) (by rw[Db]) (by rw[Db]) (fun S2 hS2 p t m hp ht hmm hA=>?_)
 simp;have hs0:ZU [d1] 9=⟨[d1],[0],1,0,9,[],0⟩:=by rw[Db];rfl
 rw[hs0] at hA hok;obtain⟨y,hy,hyn⟩:=nN e3;have f1:doS ⟨[d1],[0],1,0,9,[],0⟩ ⟨5,[47],0,0,0,[]⟩=(⟨[d1],[0],1,0,9,[⟨1,0,[],0⟩],1⟩,{id:=1}):=by
  simp[doS,e1,e2,Im]
 have f2:doS ⟨[d1],[0],1,0,9,[⟨1,0,[],0⟩],1⟩ ⟨6,[],0,1,1,[]⟩=(⟨[d1],[0],1,0,9,[⟨1,0,[],1⟩],1⟩,{names:=[[97]],end_:=true}):=by
  simp[doS,HX,Eo,Ey,hy,hyn]
 have f3:doS ⟨[d1],[0],1,0,9,[⟨1,0,[],1⟩],1⟩ ⟨9,[],0,0,0,[]⟩=(⟨[],[],1,1,9,[⟨1,0,[],1⟩],1⟩,{}):=by
  simp[doS,IC]
 have f4:doS ⟨[],[],1,1,9,[⟨1,0,[],1⟩],1⟩ ⟨6,[],0,1,1,[]⟩=(⟨[],[],1,1,9,[⟨1,0,[],1⟩],1⟩,Ai 8):=by
  simp[doS,HX,Eo,Ey]
 have hF1:=(hA.stk.leads hok).fine;have ok1:=K7 hok hF1 (o:=⟨5,[47],0,0,0,[]⟩) (by simp)
 rw[f1] at ok1;have ok2:=K7 ok1 hF1 (o:=⟨6,[],0,1,1,[]⟩) (by simp)
 rw[f2] at ok2;have ok3:=K7 ok2 hF1 (o:=⟨9,[],0,0,0,[]⟩) (by simp)
 rw[f3] at ok3;refine Ek (o:=⟨5,[47],0,0,0,[]⟩) hm hA hok (by omega) (by simp) (by simp) (fun S3 s3 rt3 hS3 hA3=>?_)
 rw[f1] at hA3 ⊢;simp[Bb.c];refine Ek (o:=⟨6,[],0,1,1,[]⟩) hm hA3 ok1 (by omega) (by simp) (by simp) (fun S4 s4 rt4 hS4 hA4=>?_)
 rw[f2] at hA4 ⊢;simp[Bb.c];refine Ek (o:=⟨9,[],0,0,0,[]⟩) hm hA4 ok2 (by omega) (by simp) (by simp) (fun S5 s5 rt5 hS5 hA5=>?_)
 rw[f3] at hA5 ⊢;simp[Bb.c];refine Ek (o:=⟨6,[],0,1,1,[]⟩) hm hA5 ok3 (by omega) (by simp) (by simp) (fun S6 s6 rt6 hS6 hA6=>?_)
 rw[f4];simp[Bb.c,Ai,AH];refine hq _ ?_;have hch:=((hS3.trans hS4).trans hS5).trans hS6;intro j hj;have h12:=h1.trans hS2;have hlt:=h12.le;have hj1:=h1.le;rw[hch.2 j (by omega) (by simp;omega)]
 exact h12 j hj
theorem aP(σ:SpN)(o:OpN):(doS σ o).2.names.length≤o.n.toNat:=by
 unfold doS;split
 ·split
  ·simp[Ai]
  ·unfold Im;split<;>simp[Ai]
 ·split
  ·split
   ·simp[Ai]
   ·unfold HX;split
    ·simp[Ai]
    ·simp only[List.length_map,List.length_take];exact Nat.min_le_left _ _
  ·split
   ·unfold U4;split<;>simp[Ai]
   ·split
    ·split
     ·simp[Ai]
     ·unfold ZI;split<;>simp[Ai]
    ·split
     ·unfold IC;split<;>simp[Ai]
     ·rw[kY];simp
set_option maxRecDepth 100000
open Go.Proofs
theorem YT{D:List Node}{f:Bool}{next:List Str→List Str→AtN}(hn:∀a b,0≤(next a b).err∧(next a b).err≤4):∀(a b:List Str),0≤(Ez D f next a b).err∧(Ez D f next a b).err≤4:=by
 intro a
 induction a with
 |nil=>intro b;unfold Ez;simp
 |cons s rest ih=>
  intro b;unfold Ez;split
  ·exact ih _
  ·split
   ·simp
   ·split
    ·exact ih _
    ·split
     ·exact hn _ _
     ·split<;>simp
theorem X3{D:List Node}{f:Bool}:∀(h:Nat) (a b:List Str),0≤(HM D f h a b).err∧(HM D f h a b).err≤4
 |0,a,b=>by rw[HM];exact YT (fun _ _=>by simp) a b
 |h+1,a,b=>by rw[HM];exact YT (X3 h) a b
theorem kx{D:List Node}{path:Str}{f:Bool}:0≤(BP D path f).err∧(BP D path f).err≤4:=by
 unfold BP;split
 ·simp
 ·exact X3 _ _ _
theorem gV{D:List Node}{path:Str}:0≤CT (BP D path true)∧CT (BP D path true)≤4:=by
 unfold CT;split
 ·exact kx
 ·split
  ·split<;>simp
  ·simp
theorem Fa.away{S S':St}{p t m p2 t2 m2:Nat}{σ τ:SpN}{s s2:Stk}(h:Fa S p t m σ s)(hx:∀x∈[p,t,m],x ∉ [p2,t2,m2])(h2:Fa S p2 t2 m2 τ s2)(k:Cg [p2,t2,m2] S S'):Fa S' p t m σ s:=
 h.chg k (hx p (by simp)) (hx t (by simp)) (hx m (by simp)) h2.notBr
set_option maxRecDepth 100000 in
theorem Sw(w0:World)(hm:KI w0)(x0 x1:AV)(h0:TV H6 x0)(h1:TV Rk x1):AC w0 Lc [x0,x1] [] fun r _=>r= .bool true:=by
 refine gh fun Q hq=>?_
 obtain⟨l,lr,e1,hlr,hll,hlok⟩:=(J4 (h0.one (by simp[isAgg,Dd]))).2 rfl
 have e1':x0= .vs 7 (l.map Node.c) lr:=by simpa using e1
 subst e1';obtain⟨ops,r2,rfl,hr2,hol,hok2⟩:=h1.slice (enc:=OpN.c) (ok:=fun o=>o.ok∧o.path.length≤1048576∧o.image.length≤1048576) VD aD jG
 apply Rb;unfold LX;refine Kz hm (fun S _=>?_)
 simp;refine Pg hlok (fun S2 hS2=>?_)
 cases hmay:WG l with
 |false=>simp[AH,hq]
 |true=>
 simp;rw[AH];refine VS (by omega) ?_
 by_cases hfew:ev ops 30=true
 case neg=>simp[hfew,hq]
 obtain⟨hf1,hf2⟩:=Pi.1 hfew;obtain⟨h8,hall⟩:=T6.1 hmay;have hright:∀n∈l,Bs n=true:=fun n hn=>(hall n hn).2
 simp[hfew];refine MK hm hlok hmay (fun S3 s hS3 hs=>?_)
 have hM:=hs.newM 2;have hok:=WY (trees:=l) 2 (fun n hn=>⟨hlok n hn,hright n hn⟩) (by omega)
 simp;refine Kb hM (by rw[Db]) (by rw[Db]) (by rw[Db]) (by rw[Db]) (fun S4 hS4 p t m hp ht hmm hA=>?_)
 refine Kb (hM.sx hS4) (by rw[Db]) (by rw[Db]) (by rw[Db]) (by rw[Db]) (fun S5 hS5 p2 t2 m2 hp2 ht2 hmm2 hA2=>?_)
 have hlt:p < S4.length∧t < S4.length∧m < S4.length:=⟨(List.getElem?_eq_some_iff.1 hA.obj).1,(List.getElem?_eq_some_iff.1 hA.tab.tab).1,(List.getElem?_eq_some_iff.1 hA.tab.map).1⟩;have hap:∀x∈[p,t,m],x ∉ [p2,t2,m2]:=by
  intro x hx;simp at hx ⊢;omega
 have hap2:∀x∈[p2,t2,m2],x ∉ [p,t,m]:=by
  intro x hx;simp at hx ⊢;omega
 refine VC (by omega) (fun n hn=>⟨hlok n hn,hright n hn⟩) (fun Y hY=>?_)
 simp;rw[AH];refine Al ops (fun i (σ:SpN×SpX)=>([.int .i64 i],[some (σ.2.c σ.1)])) (fun i σ S'=>(∃s,Fa S' p t m σ.1 s)∧(∃s,Fa S' p2 t2 m2 σ.1 s)∧σ.1.ok i∧σ.2.ok σ.1) (ZU l 2,Y) (by simp) ⟨⟨s,hA.sx hS5⟩,⟨s,hA2⟩,hok,hY⟩ ?_ ?_
 ·rintro i ⟨σ,X⟩ S' v b o hi hxi hdr hcc hmem ⟨⟨s3,hA3⟩,⟨s4,hA4⟩,hok2',hX⟩ hv;simp at hv hA3 hA4 hok2' hX;obtain⟨hv1,hb⟩:=hv;obtain⟨o1,o2,o3⟩:=hok2 o hmem;obtain⟨w1,w2,w3⟩:=XG.1 (hf2 o hmem);have hXm:=SpX.map X σ hX;have hoc:o.c=[.int .i64 o.kind,.str o.path,.int .i64 o.off,.int .i64 o.n,.int .i64 o.id,.str o.image]:=rfl;have hF:=(hA3.stk.leads hok2').fine;simp[hv1,hb,hcc,hxi,hXm,hoc];rw[←hoc];refine Wn hX hok2' (by omega) hA3.stk o2 (by omega) o1.off.2 (by omega) (fun Y2 rt2 hY2=>?_)
  have hYm:=SpX.map Y2 _ hY2;have hok3:=K7 hok2' hF (o:=o) (by omega)
  have hnm:=aP σ o;have hra:∀(a:Bb) (r:Rt),a.c r=[.int .i64 a.err,.int .i64 a.kind,.int .i64 a.size,.int .i64 a.where_,.int .i64 a.id,.str a.text,.vs 1 (a.names.map Bz) r,.bool a.end_]:=fun _ _=>rfl
  have gd:(X.c σ).drop 7=[]:=rfl;simp[hra];refine CN (fun j=>∀(S6:St) (r6:Rt),(∃s,Fa S6 p t m σ s)→(∃s,Fa S6 p2 t2 m2 (doS σ o).1 s)→j (some ((doS σ o).2.c r6)) S6) (fun S6 r6 hx6 hy6=>?_) (fun j hj=>?_)
  ·obtain⟨s6,hx6⟩:=hx6;obtain⟨s7,hy6⟩:=hy6;simp[hra,hYm];simp only[←hra];refine NU (a:=(doS σ o).2) (by omega) ?_
   simp;rw[AH];refine Ek hm hx6 hok2' (by omega) o2 (by omega) (fun S8 s8 rt8 hS8 hA8=>?_)
   have hy8:=hy6.away hap2 hx6 hS8;simp[hra];simp only[←hra];refine NU (a:=(doS σ o).2) (by omega) ?_
   simp
   try simp (disch:=omega) only[wrap64]
   have gt:(Y2.c (doS σ o).1).take 7=Y2.c (doS σ o).1:=rfl;exact .next hi ((doS σ o).1,Y2) (by simp[gt,gd]) ⟨⟨s8,hA8⟩,⟨s7,hy8⟩,hok3,hY2⟩
  ·have hpar:∀(S7:St) (r:Rt),(∃s,Fa S7 p2 t2 m2 (doS σ o).1 s)→Cg [p2,t2,m2] S' S7→j (some ((doS σ o).2.c r)) S7:=fun S7 r hy7 hc7=>hj S7 r ⟨s3,hA3.away hap hA4 hc7⟩ hy7
   have hyc:∀(S7:St) (r:Rt) (a:Bb),a=(doS σ o).2→j (some ((doS σ o).2.c r)) S7→j (some [.int .i64 a.err,.int .i64 a.kind,.int .i64 a.size,.int .i64 a.where_,.int .i64 a.id,.str a.text,.vs 1 (a.names.map Bz) r,.bool a.end_]) S7:=fun S7 r a ha h=>by rw[ha];exact h
   by_cases k9:o.kind=9
   ·simp[k9];have e:doS σ o=IC σ o.id:=by simp[doS,k9]
    refine Qg hA4 hok2' (by omega) (fun S7 s7 hS7 hA7=>?_)
    rw[←e] at hA7 ⊢;simp[hra];exact hpar S7 .nil ⟨s7,hA7⟩ hS7
   simp[k9];have hdef:AC w0 BW [.ptr p2 0,.agg o.c] S' fun t67 S_11=>AA (if t67.free=true∧t67.cells.length=8 then some (t67.cells++List.drop t67.cells.length [AV.int IntKind.i64 0,AV.int IntKind.i64 0,AV.int IntKind.i64 0,AV.int IntKind.i64 0,AV.int IntKind.i64 0,AV.str [],AV.vs 1 [] Rt.nil,AV.bool false]) else none) fun b14=>j (some b14) S_11:=by
    refine Ek hm hA4 hok2' (by omega) o2 (by omega) (fun S7 s7 rt7 hS7 hA7=>?_)
    simp[hra];exact hpar S7 rt7 ⟨s7,hA7⟩ hS7
   by_cases k5:o.kind=5
   ·by_cases he:CT (BP σ.D o.path true)=0
    ·have e:doS σ o=Im σ (BP σ.D o.path true).names:=by simp[doS,k5,he]
     have herr:(doS σ o).2.err=0∨(doS σ o).2.err=7:=by
      rw[e];unfold Im;split
      ·exact .inr rfl
      ·exact .inl rfl
     have hc:(decide (o.kind=5)&&(decide ((doS σ o).snd.err=0)||decide ((doS σ o).snd.err=7)))=true:=by
      rcases herr with h|h<;>simp[k5,h]
     have hD:=Wi hok2'.trees hok2'.few;obtain⟨n1,n2⟩:=hF.names o.path (H2 he).1;have hpn:=Ke n1 n2;rw[hc];simp[SpX.c];refine JD (hA3.stk.leads hok2') hD o2 (fun r4 r5=>?_)
     simp[he];refine T1 (by omega) (by omega) ?_
     simp;refine UC hA4 hok2' (by omega) (fun S7 hS7 hA7=>?_)
     rw[←e] at hA7 ⊢;simp[hra];exact hpar S7 .nil ⟨s4,hA7⟩ hS7
    ·have e:doS σ o=(σ,Ai (CT (BP σ.D o.path true))):=by simp[doS,k5,he]
     have hle:=gV (D:=σ.D) (path:=o.path);have h7:¬CT (BP σ.D o.path true)=7:=by omega
     have hc:(decide (o.kind=5)&&(decide ((doS σ o).snd.err=0)||decide ((doS σ o).snd.err=7)))=false:=by
      rw[e];simp[Ai,he,h7]
     rw[hc];simp[k5];exact hdef
   simp[k5]
   by_cases k6:o.kind=6∧1≤o.n
   ·obtain⟨k6,hn1⟩:=k6;simp[k6,hn1];refine H3 hA4 ?_;have hns:¬o.n < 1:=by omega
    have e:doS σ o=HX σ o.id o.n:=by simp[doS,k6,hns]
    cases hs:Eo σ o.id with
    |inr er=>
     have herr:(doS σ o).2.err=er:=by rw[e];unfold HX;rw[hs];rfl
     simp[gr];refine H3 hA3 ?_;rw[hs];simp[gr,Gw,eqA,BC,CE,FP,AH,herr];exact hdef
    |inl x=>
     obtain⟨jj,c⟩:=x;have herr:(doS σ o).2.err=0:=by rw[e];unfold HX;rw[hs]
     simp[FA.v];refine H3 hA3 ?_;rw[hs];simp[FA.v,Gw,eqA,BC,CE,FP,AH,herr];exact hdef
   ·have hc:(decide (o.kind=6)&&decide (1≤o.n))=false:=by
     by_cases h:o.kind=6
     ·have:¬1≤o.n:=fun h2=>k6 ⟨h,h2⟩
      simp[this]
     ·simp[h]
    rw[hc];simp;exact hdef
 ·rintro⟨σ,X⟩ S' v b ⟨⟨s2,hA2⟩,⟨s3,hA3⟩,hok2',hX⟩ hv N;simp at hv;obtain⟨hv1,hb⟩:=hv;simp[hv1,hb,AW hA2.obj,AW hA3.obj,AH];refine J6 hA2.tab ?_;simp[AW hA3.obj];refine J6 hA3.tab ?_;simp[hq]
end Go.Av
namespace Go.Proofs.YtjkffbaienbmkaaGreatDoor.specParts
open Go.ChangeShapes Go.WideShapes Go.ChangeAt Go.RowKit Go.Av
theorem own:ownKnob Tryz.prog.godebug=none:=by kernel_rfl
theorem EH{H:Type}:∀(l:List (DataW H)),l.length≤Rows.uptoBulkAll l∧∀d∈l,Rows.uptoBulk d≤Rows.uptoBulkAll l
 |[]=>⟨Nat.zero_le _,by simp⟩
 |d::l=>by
  obtain⟨h1,h2⟩:=EH l;have h3:1≤Rows.uptoBulk d:=by
   cases d with
   |lit l=>cases l<;>simp[Rows.uptoBulk]
   |_=>simp[Rows.uptoBulk]
  refine⟨by simp only[Rows.uptoBulkAll,List.length_cons];omega,fun e he=>?_⟩
  simp only[Rows.uptoBulkAll];rcases List.mem_cons.1 he with rfl|he
  ·omega
  ·have:=h2 e he;omega
theorem bdd{H:Type}:Bdd 1048576 (fun d:DataW H=>Rows.uptoBulk d≤1048576) where
 str l h:=by simp only[Rows.uptoBulk] at h;omega
 sl e s h:=by
  simp only[Rows.uptoBulk] at h;obtain⟨h1,h2⟩:=EH e;obtain⟨h3,h4⟩:=EH s;exact⟨by omega,fun d hd=>by have:=h2 d hd;omega,fun d hd=>by have:=h4 d hd;omega⟩
 agg ps h d hd:=by
  simp only[Rows.uptoBulk] at h;have:=(EH ps).2 d hd;omega
set_option maxRecDepth 100000 in
theorem law(w0:World)(hm:KI w0)(xs:List AV)(hl:xs.length=Tryz.f8.params.size)(hx:∀(j:Nat) (t:TypeId) (x:AV),Tryz.f8.params[j]? =some t→xs[j]? =some x→TyV Tryz.prog 1048576 t x):
  AP (En w0) 8 xs [] fun r _=>r= .bool true:=by
 rw[Tryz.params8] at hl hx
 match xs,(show xs.length=2 from hl) with
 |[x0,x1],_=>exact Sw w0 hm x0 x1 (hx 0 40 x0 rfl rfl) (hx 1 77 x1 rfl rfl)
def put(h:Array Go.Obj)(g:Nat)(cs:List Value):Array Go.Obj:=h.modify g fun
 | .cells _ t fz=>.cells cs.toArray t fz
 |o=>o
noncomputable def FU(os:Os):World:={World.holding Tryz.prog os ⟨#[],#[],[]⟩ with heap:=(put (put (World.holding Tryz.prog os ⟨#[],#[],[]⟩).heap 5 ([128,191,160,191,128,159,144,191,128,143,0,0,0,0,0,0,0,0,0,0,0,0,0,0,0,0,0,0,0,0,0,0].map fun n:Nat=>Value.int .u8 (n:Int))) 4 (Go.Pinned.utf8FirstZ.map fun n:Nat=>Value.int .u8 (n:Int)))}
theorem Oo(os:Os):laidMet Tryz.prog Rows.specPartsUptoRow.laid ((FU os).forCall (fun _ _=>0) ⟨#[],#[.slice none 0 0,.slice none 0 0],[]⟩).memory:=
 laidMet_of_run' 8 (by kernel_rfl) (by kernel_rfl)
theorem reads(os:Os){H:Type}(enc:TypeId×Value→H):∃places,DataW.whole enc Tryz.prog ((FU os).forCall (fun _ _=>0) ⟨#[],#[.slice none 0 0,.slice none 0 0],[]⟩).memory Tryz.f8.params.toList Rows.specPartsSpec.vars false #[.slice none 0 0,.slice none 0 0].toList 8=some ([.nil,.nil],[],places):=
 ⟨[],by kernel_rfl⟩
set_option maxRecDepth 100000 in
theorem lifted(os:Os)(started:os.Started)(H:Type)(enc:TypeId×Value→H)(F:Stop.Interp):
  ReturnsInHanded {} Tryz.checked os 8 .any ((Rows.OpenSpec.upto Rows.specPartsSpec).preRow enc Tryz.prog Tryz.f8 Rows.specPartsUptoRow.domain false Rows.specPartsUptoRow.laid) (((Rows.OpenSpec.upto Rows.specPartsSpec).at F).post enc Tryz.prog Tryz.f8 false true false false):=by
 obtain⟨places,hx⟩:=reads os enc;refine returnsInHanded_of_row (C:=Tryz.checked) (s:=Rows.OpenSpec.upto Rows.specPartsSpec) own started (by kernel_rfl) Tryz.func8
  (witness_row_atRef (enc:=enc) (C:=Tryz.checked) false (FU os) #[.slice none 0 0,.slice none 0 0] rfl (by kernel_rfl) (by kernel_rfl) (by kernel_rfl)
   (OpenSpec.preRow_of_cond 8 hx (by kernel_rfl) (fun k hk=>by cases hk;kernel_rfl) (by kernel_rfl) (Oo os))) ?_
 intro W base args ds gs before hval hW _ hk _ _ hsh _;have hk2:Rows.uptoBulkAll (ds++gs)≤1048576:=of_decide_eq_true (hk _ rfl);exact NR bdd (E:=En W) (fn:=Tryz.f8) (L:=[40,127,3,4,42,9,125,303,77,87]) (tb:=4) (by kernel_rfl) (by kernel_rfl) (by kernel_rfl) rfl Tryz.underlying4 rfl
  (fun ds hd=>by
   match ds,hd with
   |[d0,d1],_=>exact⟨rfl,rfl,rfl⟩) (law W (PG hsh)) hval hW (fun d hd=>Nat.le_trans ((EH (ds++gs)).2 d (List.mem_append_left _ hd)) hk2)
end Go.Proofs.YtjkffbaienbmkaaGreatDoor.specParts
