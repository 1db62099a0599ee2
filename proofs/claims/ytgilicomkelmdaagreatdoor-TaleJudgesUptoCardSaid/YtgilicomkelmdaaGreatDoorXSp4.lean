/- Parts of the proofs of this seat: abstract values over the model, and what the functions of the program do. No condition. -/
import Derived.Test.YtgilicomkelmdaaGreatDoorXDel
import Derived.Test.YtgilicomkelmdaaGreatDoorX10L
import Derived.Test.YtgilicomkelmdaaGreatDoorXFew
import Derived.Test.YtgilicomkelmdaaGreatDoorY06
import Derived.Test.YtgilicomkelmdaaGreatDoorXSplit
import Derived.Test.YtgilicomkelmdaaGreatDoorDExt
import Derived.Test.YtgilicomkelmdaaGreatDoorY19
import Derived.Test.YtgilicomkelmdaaGreatDoorD0
set_option linter.all false
set_option maxRecDepth 100000
namespace Go.Av
open Go.Proofs
abbrev CuX:=EW×Rt
def CuX.c(x:CuX):List AV:=[.int .i64 x.1.id,.int .i64 x.1.epoch,.vs 1 (x.1.names.map BO) x.2,.int .i64 x.1.at_]
@[simp] theorem CuX.len(x:CuX):(CuX.c x).length=4:=rfl
def iC(n:Int):List AV:=[.int .i64 n]
structure SpX where
 rd:Rt
 ri:Rt
 ro:Rt
 ox:List CuX
def SpX.c(X:SpX)(σ:SpN):List AV:=[.vs 7 (σ.D.map Node.c) X.rd,.vs 1 (σ.ids.map iC) X.ri,.int .i64 σ.next,.int .i64 σ.epoch,.int .i64 σ.room,.vs 4 (X.ox.map CuX.c) X.ro,.int .i64 σ.made]
structure SpX.ok(X:SpX)(σ:SpN):Prop where
 rd:X.rd.strip=X.rd∧okR X.rd σ.D
 ri:X.ri.strip=X.ri∧okR X.ri σ.ids
 ro:X.ro.strip=X.ro∧okR X.ro X.ox
 ox:X.ox.map (·.1)=σ.opens
 rx:∀x∈X.ox,x.2.strip=x.2
@[simp] theorem SpX.len(X:SpX)(σ:SpN):(X.c σ).length=7:=rfl
theorem strip_strip(r:Rt):r.strip.strip=r.strip:=by cases r<;>rfl
theorem SpX.map(X:SpX)(σ:SpN)(h:X.ok σ):(X.c σ).map AV.strip1=X.c σ:=by
 simp[SpX.c,AV.strip1,h.rd.1,h.ri.1,h.ro.1]
@[simp] theorem SpX.free1(X:SpX)(σ:SpN):(∀x∈X.c σ,x.free1=true)↔True:=by simp[SpX.c,AV.free1]
theorem JF{q:Rt}(h:q≠ .nil):q.strip≠ .nil:=by cases q<;>simp_all [Rt.strip]
theorem CI{ei:TI}{S:St}{sz:Nat}(hs:sz=ei.size){es ys:List (List AV)}{r r':Rt}(hr:r≠ .none∧r≠ .nil)(hl:es.length+ys.length≤lim):∃q,(q≠ .none∧q≠ .nil)∧AU ei S (.vs sz es r) (.vs sz ys r')=some (.vs sz (es++ys) q):=by
 by_cases h:ys=[]
 ·exact⟨r,hr,by simp[AU,A1,hs,h]⟩
 ·exact⟨.own (Ba ei r),by simp,by simp[AU,A1,hs,h,hr.1,hl]⟩
theorem fH{ei:TI}{sz:Nat}(hs:sz=ei.size){es:List (List AV)}{r:Rt}(hr:r= .nil→es=[]){n:Int}{k:Nat}(hn:n=k)(hk:k≤es.length):∃q,CT ei (.vs sz es r) none (some (.int .i64 n)) none=some (.vs sz (es.take k) q):=by
 subst hn;have h:=VM ei sz es r .i64 k;rw[if_pos ⟨hs,hk,hr⟩] at h;exact⟨_,h⟩
theorem Qo{ei:TI}{sz:Nat}(hs:sz=ei.size){es:List (List AV)}{r:Rt}(hr:r= .nil→es=[]){n:Int}{k:Nat}(hn:n=k)(hk:k≤es.length):CT ei (.vs sz es r) (some (.int .i64 n)) none none=some (.vs sz (es.drop k) r):=by
 subst hn;have h:=K7 ei sz es r .i64 k;rw[if_pos ⟨hs,hk,hr⟩] at h;exact h
theorem okR.nil{α:Type}{r:Rt}{l:List α}(h:okR r l):r= .nil→l=[]:=fun e=>h (by rw[e];rfl)
theorem Mg{α β:Type}{f:α→β}{l:List α}(h:l=[]):l.map f=[]:=by rw[h];rfl
theorem DD{w0:World}{S:St}{e:Int}{Q:AV→St→Prop}(hq:Q (.agg ((An e).c .nil)) S):AC w0 CQ [.int .i64 e] S Q:=by
 apply VJ;unfold OO;exact hq
theorem QL{w0:World}{S:St}{σ:SpN}{X:SpX}{n:Node}{k:Nat}(hX:X.ok σ)(hok:σ.ok k)(hk:k≤1000000){Q:AV→St→Prop}(hq:∀Y:SpX,Y.ok (DV σ n)→Q (.agg (Y.c (DV σ n))) S):AC w0 Ih [.agg (X.c σ),.agg n.c] S Q:=by
 have hcc:=n.c_eq';have h1:=hok.few;have h2:=hok.ids;have h3:=hok.next.1;have h4:=hok.epoch;unfold SpX.c;rw[hcc];apply WQ;unfold RC;simp[←hcc];obtain⟨q1,⟨g1,g2⟩,g3⟩:=CI (ei:=AG) (S:=S) (sz:=7) rfl (es:=[n.c]) (ys:=σ.D.map Node.c) (r:=.full) (r':=X.rd.strip) (by simp) (by simp[lim];omega)
 obtain⟨q2,⟨g4,g5⟩,g6⟩:=CI (ei:=AN) (S:=S) (sz:=1) rfl (es:=[[.int .i64 (σ.next:Int)]]) (ys:=σ.ids.map iC) (r:=.full) (r':=X.ri.strip) (by simp) (by simp[lim];omega)
 have hnc:=n.c_eq;simp[g3,g6]
 try simp (disch:=omega) only[wrap64]
 have:=hq ⟨q1.strip,q2.strip,X.ro,X.ox⟩ ⟨⟨strip_strip _,fun h=>absurd (by rw[strip_strip] at h;exact h) (JF g2)⟩,⟨strip_strip _,fun h=>absurd (by rw[strip_strip] at h;exact h) (JF g5)⟩,hX.ro,hX.ox,hX.rx⟩
 simpa[SpX.c,DV,iC,hX.ro.1] using this
theorem Pz{w0:World}{S:St}{l:List CuX}{r:Rt}{id:Int}(hl:l.length≤1000000){Q:AV→St→Prop}(hq:Q (.int .i64 (match Eb (l.map (·.1)) id with|some k=>(k:Int)|none=>-1)) S):AC w0 IS [.vs 4 (l.map CuX.c) r,.int .i64 id] S Q:=by
 apply Wi;unfold Qd;simp[AH];refine Ak l (fun i (_:Unit)=>([.int .i64 i],[])) (fun i _ S'=>S'=S∧∀x∈l.take i,x.1.id≠id) () rfl ⟨rfl,by simp⟩ ?_ ?_
 ·rintro i _ S' v b x hi hxi hd hc hmem ⟨rfl,hno⟩ hv;simp at hv;simp[hv,hc,hxi,CuX.c]
  by_cases e:x.1.id=id
  ·have hf:Eb (l.map (·.1)) id=some i:=by
    unfold Eb;rw[List.findIdx?_eq_some_iff_getElem];refine⟨by simpa using hi,?_,fun j hj=>?_⟩
    ·have:=(List.getElem?_eq_some_iff.1 hxi).2;simp[this,e]
    ·have hm:l[j]'(by omega)∈l.take i:=by
      rw[List.mem_take_iff_getElem];exact⟨j,by omega,rfl⟩
     simpa using hno _ hm
   rw[hf] at hq;simp[e];exact hq
  ·simp[e]
   try simp (disch:=omega) only[wrap64]
   have hnew:∀y∈l.take (i+1),y.1.id≠id:=fun y hy=>by
    rw[List.take_succ,hxi] at hy;rcases List.mem_append.1 hy with hy|hy
    ·exact hno y hy
    ·simp at hy;subst hy;exact e
   refine .next hi () rfl ⟨rfl,?_⟩;simpa using hnew
 ·rintro _ S' v b ⟨rfl,hno⟩ hv N;simp at hv;rw[List.take_length] at hno;have hf:Eb (l.map (·.1)) id=none:=by
   unfold Eb;rw[List.findIdx?_eq_none_iff];intro c hc;obtain⟨x,hx,rfl⟩:=List.mem_map.1 hc;simpa using hno x hx
  rw[hf] at hq;simp[hv];exact hq
theorem Ta{w0:World}{S:St}{l:List Int}{r:Rt}{k:Nat}(hr:okR r l)(hl:l.length≤1000000)(hk:k < l.length){Q:AV→St→Prop}(hq:∀q,q≠ .nil→Q (.vs 1 ((l.eraseIdx k).map iC) q) S):AC w0 IG [.vs 1 (l.map iC) r,.int .i64 k] S Q:=by
 apply Ry;unfold L8;obtain⟨q0,c1⟩:=fH (ei:=AN) (sz:=1) rfl (es:=l.map iC) (r:=r.strip) (fun e=>Mg (hr (by rw[←e]))) (n:=(k:Int)) rfl (by simp;omega)
 have c2:=Qo (ei:=AN) (sz:=1) rfl (es:=l.map iC) (r:=r.strip) (fun e=>Mg (hr (by rw[←e]))) (n:=IntKind.i64.wrap ((k:Int)+1)) (k:=k+1) (by rw[wrap64 (by omega) (by omega)];omega) (by simp;omega)
 obtain⟨q1,g1,g3⟩:=CI (ei:=AN) (S:=S) (sz:=1) rfl (es:=[]) (ys:=(l.map iC).take k) (r:=.full) (r':=q0) (by simp) (by simp[lim];omega)
 obtain⟨q2,g4,g6⟩:=CI (ei:=AN) (S:=S) (sz:=1) rfl (es:=[]++(l.map iC).take k) (ys:=(l.map iC).drop (k+1)) (r':=r.strip) g1 (by simp[lim];omega)
 simp only[c1,c2,g3,g6,Ay];have:=hq q2 g4.2;rw[List.eraseIdx_eq_take_drop_succ] at this;simpa using this
open Go.Proofs
theorem bM{D:List Node}(h:∀n∈D,n.ok∧Bi n=true)(hl:D.length≤64):Docs D:=by
 have hd:∀l:List Node,(De l).length≤l.length:=by
  intro l
  induction l with
  |nil=>simp[De]
  |cons x l ih=>rw[De];split<;>simp;omega
 refine⟨by omega,fun n hn=>(h n hn).1,fun n hn=>?_,by have:=hd D;omega⟩
 have:=Km hn;exact⟨(h n this).1,(FQ (h n this).2).2.1⟩
theorem OU{w0:World}{S SL:St}{s:Stk}{D:List Node}{dr:Rt}{path:Str}(hL:Leads SL s D)(hD:Docs D)(hp:path.length≤1048576){Q:AV→St→Prop}
  (hq:∀r r2:Rt,Q (.tup [.vs 1 ((if DR (Bj D path true)=0 then (Bj D path true).names else []).map BO) r.strip,.vs 2 ((K5 D path).map Ent.c) r2,.int .i64 (DR (Bj D path true))]) S):AC w0 GV [.vs 7 (D.map Node.c) dr,.str path] S Q:=by
 unfold K5 at hq;refine Yo hL hD hp (fun he=>?_) (fun he r r2=>?_)
 ·have:=hq .nil .nil;rw[if_neg he,if_neg he] at this;exact this
 ·have:=hq r r2;rw[if_pos he,if_pos he,he] at this;exact this
structure PgI where
 i:Nat
 q:Nat
 r:Rt
theorem YP{w0:World}{S SL:St}{σ:SpN}{X:SpX}{o:OpN}{s:Stk}{k:Nat}(hX:X.ok σ)(hok:σ.ok k)(hk:k≤1000000)(hL:Leads SL s σ.D)(hn:o.n≤1000000){Q:AV→St→Prop}
  (hq:∀(Y:SpX) (rt:Rt),Y.ok (KV σ o.id o.n).1→Q (.tup [.agg (Y.c (KV σ o.id o.n).1),.agg ((KV σ o.id o.n).2.c rt)]) S):AC w0 Lk [.agg (X.c σ),.agg o.c] S Q:=by
 have hoc:o.c=[.int .i64 o.kind,.str o.path,.int .i64 o.off,.int .i64 o.n,.int .i64 o.id,.str o.image]:=rfl;have hxc:X.c σ=[.vs 7 (σ.D.map Node.c) X.rd,.vs 1 (σ.ids.map iC) X.ri,.int .i64 σ.next,.int .i64 σ.epoch,.int .i64 σ.room,.vs 4 (X.ox.map CuX.c) X.ro,.int .i64 σ.made]:=rfl;have hrm:=hok.room;have hop:=hok.opens;have hxl:X.ox.length=σ.opens.length:=by rw[←hX.ox,List.length_map]
 rw[hoc,hxc];apply Vy;unfold P9;simp[hX.rd.1,hX.ri.1,hX.ro.1];refine Pz (by omega) ?_
 rw[hX.ox];have hnegQ:∀e:Int,KV σ o.id o.n=(σ,An e)→Q (.tup [.agg (X.c σ),.agg ((An e).c .nil)]) S:=fun e he=>by
  have:=hq X .nil;rw[he] at this;exact this hX
 unfold KV at hq;cases hf:Eb σ.opens o.id with
 |none=>
  have hs:E7 σ o.id= .inr 9:=by unfold E7;rw[hf]
  rw[hs] at hq;have:=hq X .nil hX;simp;refine DD ?_;simp[A6.c,An,hX.rd.1,hX.ri.1,hX.ro.1];simpa[A6.c,An,SpX.c] using this
 |some j=>
  obtain⟨c,hj,hid⟩:=LL hf;obtain⟨x,hxj,hx1⟩:∃x,X.ox[j]? =some x∧x.1=c:=by
   rw[←hX.ox,List.getElem?_map] at hj;cases h:X.ox[j]? with
   |none=>rw[h] at hj;cases hj
   |some x=>rw[h] at hj;exact⟨x,rfl,by simpa using hj⟩
  obtain⟨c',xr⟩:=x;simp only at hx1;subst hx1;have hxr:=hX.rx _ (List.mem_of_getElem? hxj);have hjl:=(List.getElem?_eq_some_iff.1 hxj).1;simp[show ¬((j:Int) < 0) by omega,hxj,CuX.c]
  by_cases he:c'.epoch=σ.epoch
  case neg=>
   have hs:E7 σ o.id= .inr 8:=by unfold E7;rw[hf];simp[hj,he]
   rw[hs] at hq;have:=hq X .nil hX;simp[he];refine DD ?_;simp[A6.c,An,hX.rd.1,hX.ri.1,hX.ro.1];simpa[A6.c,An,SpX.c,CuX.c] using this
  have hs:E7 σ o.id= .inl (j,c'):=by unfold E7;rw[hf];simp[hj,he]
  rw[hs] at hq;simp only at hq;obtain⟨c1,c2,c3,c4,c5⟩:=hok.cur c' (List.mem_of_getElem? hj);have hc4:=c4 he;have hLl:=(Leads.fine hL).list (pathOf c'.names);have hpn:=Oy c2 c3;have hD:=bM hok.trees hok.few;simp[he];refine ZQ (by omega) (by omega) ?_
  refine OU hL hD (by omega) (fun r1 r2=>?_)
  generalize hl:K5 σ.D (pathOf c'.names)=l at hq hc4 hLl ⊢;simp;rw[AH];obtain⟨M,hM⟩:∃M:Nat,M=min o.n.toNat (l.length - c'.at_):=⟨_,rfl⟩;have htake:(l.drop c'.at_).take o.n.toNat=(l.drop c'.at_).take M:=by
   rw[hM]
   by_cases hh:o.n.toNat≤l.length - c'.at_
   ·rw[Nat.min_eq_left hh]
   ·rw[Nat.min_eq_right (by omega),List.take_of_length_le (by simp;omega),List.take_of_length_le (by simp)]
  rw[htake] at hq;have hMl:((l.drop c'.at_).take M).length=M:=by rw[List.length_take,List.length_drop];omega
  rw[hMl] at hq;obtain⟨NL,hNL⟩:∃NL:List (List AV),NL=l.map fun y=>BO y.name:=⟨_,rfl⟩
  have hNLl:NL.length=l.length:=by rw[hNL,List.length_map]
  refine BV (fun p:PgI=>([],[some [.int .i64 o.kind,.str o.path,.int .i64 o.off,.int .i64 o.n,.int .i64 o.id,.str o.image],some [.int .i64 c'.id,.int .i64 σ.epoch,.vs 1 (c'.names.map BO) xr,.int .i64 (p.q:Int)],some [.int .i64 0,.int .i64 0,.int .i64 0,.int .i64 0,.int .i64 0,.str [],.vs 1 ((NL.drop c'.at_).take p.i) p.r,.bool false]]))
   (fun n p S'=>S'=S∧p.i+n=M∧p.r≠ .none∧p.q=c'.at_+p.i) M ⟨0,c'.at_,.nil⟩ (by simp[hxr]) ⟨rfl,by simp,by simp,by simp⟩ ?_
  rintro n ⟨pi,pq,pr⟩ S' v b ⟨rfl,hpn2,hpr,hpq⟩ hv;simp only at hpn2 hpr hpq;simp at hv;obtain⟨hb3,hb7,hb11⟩:=hv;have htl:((NL.drop c'.at_).take pi).length=pi:=by rw[List.length_take,List.length_drop];omega
  generalize hW:(NL.drop c'.at_).take pi=W at hb11 htl;simp only[hb3,hb7,hb11];simp[htl]
  by_cases hlt:pi < M
  ·obtain⟨y,hy⟩:∃y,l[pq]? =some y:=⟨l[pq]'(by omega),List.getElem?_eq_getElem (by omega)⟩
   have hyN:NL[pq]? =some (BO y.name):=by rw[hNL,List.getElem?_map,hy];rfl
   have hap:AU AJ S' (.vs 1 W pr) (.vs 1 [[.str y.name]] .full)=some (.vs 1 (W++[[.str y.name]]) (.own (Ba AJ pr))):=by
    simp[AU,A1,hpr,htl,show pi+1≤lim by unfold lim;omega]
   have hW2:W++[[.str y.name]]=(NL.drop c'.at_).take (pi+1):=by
    rw[List.take_succ,hW,List.getElem?_drop,←hpq,hyN];rfl
   have hql:pq < l.length:=by omega
   have hye:=(List.getElem?_eq_some_iff.1 hy).2;simp[hql,show (pi:Int) < o.n by omega,hye,hap]
   try simp (disch:=omega) only[wrap64]
   rw[hW2];exact⟨n - 1,⟨pi+1,pq+1,.own (Ba AJ pr)⟩,by omega,by simp,rfl,by simp only;omega,by simp,by simp only;omega⟩
  ·have hiM:pi=M:=by omega
   have hro:=hX.ro.2.nil;have hjn:¬j=X.ox.length:=by omega
   have hron:¬X.ro=Rt.nil:=fun e=>by
    have:=hro e;rw[this] at hjl;simp at hjl
   have hW3:W=((l.drop c'.at_).take M).map fun y=>BO y.name:=by rw[←hW,hNL,hiM,List.map_take,List.map_drop]
   obtain⟨q1,g1,g2⟩:=CI (ei:=Ab) (S:=S') (sz:=4) rfl (es:=[]) (ys:=(X.ox.map CuX.c).take j) (r:=.full) (r':=.none) (by simp) (by simp[lim];omega)
   obtain⟨q2,g3,g4⟩:=CI (ei:=Ab) (S:=S') (sz:=4) rfl (es:=[]++(X.ox.map CuX.c).take j) (ys:=[[.int .i64 c'.id,.int .i64 σ.epoch,.vs 1 (c'.names.map BO) xr.strip,.int .i64 (pq:Int)]]) (r':=.full) g1 (by simp[lim];omega)
   obtain⟨q3,g5,g6⟩:=CI (ei:=Ab) (S:=S') (sz:=4) rfl (es:=([]++(X.ox.map CuX.c).take j)++[[.int .i64 c'.id,.int .i64 σ.epoch,.vs 1 (c'.names.map BO) xr.strip,.int .i64 (pq:Int)]]) (ys:=(X.ox.map CuX.c).drop (j+1)) (r':=X.ro) g3 (by simp[lim];omega)
   have c2:=Qo (ei:=Ab) (sz:=4) rfl (es:=X.ox.map CuX.c) (r:=X.ro) (fun e=>Mg (hro e)) (n:=(j:Int)+1) (k:=j+1) (by omega) (by simp;omega)
   simp only[List.nil_append] at g2 g4 g6;have hset:(X.ox.map CuX.c).take j++[[.int .i64 c'.id,.int .i64 σ.epoch,.vs 1 (c'.names.map BO) xr.strip,.int .i64 (pq:Int)]]++(X.ox.map CuX.c).drop (j+1)=(X.ox.set j ({c' with at_:=c'.at_+M},xr.strip)).map CuX.c:=by
    rw[List.set_eq_take_append_cons_drop,if_pos hjl];simp[CuX.c,List.map_take,List.map_drop,he,hpq,hiM]
   have hres:=fun rt=>hq ⟨X.rd,X.ri,q3.strip,X.ox.set j ({c' with at_:=c'.at_+M},xr.strip)⟩ rt ⟨hX.rd,hX.ri,⟨strip_strip _,fun h=>absurd (by rw[strip_strip] at h;exact h) (JF g5.2)⟩,by
    simp only;rw[List.map_set,hX.ox],fun x hx=>by
    rcases List.mem_or_eq_of_mem_set hx with hx|rfl
    ·exact hX.rx x hx
    ·exact strip_strip _⟩
   rw[hset] at g6
   by_cases hql:pq < l.length
   ·have hend:decide (c'.at_+M=l.length)=false:=by simp;omega
    rw[hend] at hres;have hre:=hres pr.strip;simp[hql,show ¬(pi:Int) < o.n by omega,Nat.le_of_lt hjl,hjn,hron,g2,g4]
    try simp (disch:=omega) only[wrap64]
    simp[-K7,c2,g6,hX.rd.1,hX.ri.1];have hcomp:(BO ∘Ent.name)=fun y:Ent=>[AV.str y.name]:=rfl
    simp[SpX.c,A6.c,hW3,hcomp] at hre ⊢;have hqe:¬(pq:Int)=l.length:=by omega
    simpa[hqe] using hre
   ·have hqe:pq=l.length:=by omega
    subst hqe;have hend:decide (c'.at_+M=l.length)=true:=by simp;omega
    rw[hend] at hres;have hre:=hres pr.strip;simp[hql,Nat.le_of_lt hjl,hjn,hron,g2,g4]
    try simp (disch:=omega) only[wrap64]
    simp[-K7,c2,g6,hX.rd.1,hX.ri.1];have hcomp:(BO ∘Ent.name)=fun y:Ent=>[AV.str y.name]:=rfl
    simp[SpX.c,A6.c,hW3,hcomp] at hre ⊢;simpa using hre
theorem cw{w0:World}{S SL:St}{σ:SpN}{X:SpX}{o:OpN}{s:Stk}{k:Nat}(hX:X.ok σ)(hok:σ.ok k)(hk:k≤1000000)(hM:H7 SL s σ)(hp:o.path.length≤1048576)(hi:o.image.length≤1048575)(hoff:o.off≤9223372036854775807)(hn:o.n≤1000000){Q:AV→St→Prop}
  (hq:∀(Y:SpX) (rt:Rt),Y.ok (doS σ o).1→Q (.tup [.agg (Y.c (doS σ o).1),.agg ((doS σ o).2.c rt)]) S):AC w0 Ov [.agg (X.c σ),.agg o.c] S Q:=by
 have hoc:o.c=[.int .i64 o.kind,.str o.path,.int .i64 o.off,.int .i64 o.n,.int .i64 o.id,.str o.image]:=rfl;have hxc:X.c σ=[.vs 7 (σ.D.map Node.c) X.rd,.vs 1 (σ.ids.map iC) X.ri,.int .i64 σ.next,.int .i64 σ.epoch,.int .i64 σ.room,.vs 4 (X.ox.map CuX.c) X.ro,.int .i64 σ.made]:=rfl;have hL:=hM.leads hok;have hD:=bM hok.trees hok.few;have hrm:=hok.room;have hop:=hok.opens;have hmd:=hok.made.1;have hfew:=hok.few;have hep:=hok.epoch;have hxl:X.ox.length=σ.opens.length:=by rw[←hX.ox,List.length_map]
 have hil:=hok.ids;have hstr:X.rd.strip=X.rd∧X.ri.strip=X.ri∧X.ro.strip=X.ro:=⟨hX.rd.1,hX.ri.1,hX.ro.1⟩;obtain⟨hs1,hs2,hs3⟩:=hstr;rw[hoc,hxc];apply aQ;unfold VO;simp[hs1,hs2,hs3];rw[AH];unfold doS at hq
 by_cases k5:o.kind=5
 ·simp only[if_pos k5] at hq;simp[k5];refine OU hL hD hp (fun r1 r2=>?_)
  by_cases he:DR (Bj σ.D o.path true)=0
  ·have he':¬(DR (Bj σ.D o.path true)≠0):=by simpa using he
   rw[if_neg he'] at hq;unfold NR at hq;simp[he]
   by_cases hr:σ.room≤σ.opens.length
   ·rw[if_pos hr] at hq;have:=hq X .nil hX;simp[hxl,hr];refine DD ?_;simp[A6.c,An,SpX.c,hs1,hs2,hs3] at this ⊢;exact this
   ·rw[if_neg hr] at hq;obtain⟨q1,g1,g2⟩:=CI (ei:=Ab) (S:=S) (sz:=4) rfl (es:=[]) (ys:=X.ox.map CuX.c) (r:=.full) (r':=X.ro) (by simp) (by simp[lim];omega)
    obtain⟨q2,g3,g4⟩:=CI (ei:=Ab) (S:=S) (sz:=4) rfl (es:=[]++X.ox.map CuX.c) (ys:=[[.int .i64 ((σ.made:Int)+1),.int .i64 σ.epoch,.vs 1 ((Bj σ.D o.path true).names.map BO) r1.strip,.int .i64 0]]) (r':=.full) g1 (by simp[lim];omega)
    simp only[List.nil_append] at g2 g4;have hset:X.ox.map CuX.c++[[.int .i64 ((σ.made:Int)+1),.int .i64 σ.epoch,.vs 1 ((Bj σ.D o.path true).names.map BO) r1.strip,.int .i64 0]]=(X.ox++[((⟨(σ.made:Int)+1,σ.epoch,(Bj σ.D o.path true).names,0⟩:EW),r1.strip)]).map CuX.c:=by simp[CuX.c]
    rw[hset] at g4;have:=hq ⟨X.rd,X.ri,q2.strip,X.ox++[(⟨σ.made+1,σ.epoch,(Bj σ.D o.path true).names,0⟩,r1.strip)]⟩ .nil ⟨hX.rd,hX.ri,⟨strip_strip _,fun h=>absurd (by rw[strip_strip] at h;exact h) (JF g3.2)⟩,by simp[hX.ox],fun x hx=>by
     rcases List.mem_append.1 hx with hx|hx
     ·exact hX.rx x hx
     ·rw[List.mem_singleton] at hx;subst hx;exact strip_strip _⟩
    simp[hxl,hr]
    try simp (disch:=omega) only[wrap64]
    simp[g2,g4,strip_strip];simp[A6.c,SpX.c,hs1,hs2,hs3] at this ⊢;exact this
  ·rw[if_pos he] at hq;have:=hq X .nil hX;simp[he];refine DD ?_;simp[A6.c,An,SpX.c,hs1,hs2,hs3] at this ⊢;exact this
 by_cases k6:o.kind=6
 ·simp only[if_neg k5,if_pos k6] at hq;simp[k6]
  by_cases hn1:o.n < 1
  ·rw[if_pos hn1] at hq;have:=hq X .nil hX;simp[hn1];refine DD ?_;simp[A6.c,An,SpX.c,hs1,hs2,hs3] at this ⊢;exact this
  ·rw[if_neg hn1] at hq;simp[hn1];have ho6:([.int .i64 6,.str o.path,.int .i64 o.off,.int .i64 o.n,.int .i64 o.id,.str o.image]:List AV)=o.c:=by rw[hoc,k6]
   rw[ho6,←hxc];refine YP hX hok hk hL hn (fun Y rt hY=>?_)
   have:=hq Y rt.strip hY;obtain⟨y1,y2,y3⟩:Y.rd.strip=Y.rd∧Y.ri.strip=Y.ri∧Y.ro.strip=Y.ro:=⟨hY.rd.1,hY.ri.1,hY.ro.1⟩;simp[A6.c,SpX.c,y1,y2,y3] at this ⊢;exact this
 by_cases k7:o.kind=7
 ·simp only[if_neg k5,if_neg k6,if_pos k7] at hq;simp[k7];refine Pz (by omega) ?_
  rw[hX.ox];unfold RW at hq;cases hf:Eb σ.opens o.id with
  |none=>
   rw[hf] at hq;have:=hq X .nil hX;simp;refine DD ?_;simp[A6.c,An,SpX.c,hs1,hs2,hs3] at this ⊢;exact this
  |some j=>
   rw[hf] at hq;simp only at hq;obtain⟨c,hj,hid⟩:=LL hf;have hjl:j < X.ox.length:=by rw[hxl];exact(List.getElem?_eq_some_iff.1 hj).1
   have hro:=hX.ro.2.nil;have hron:¬X.ro=Rt.nil:=fun e=>by
    have:=hro e;rw[this] at hjl;simp at hjl
   have hjn:¬j=X.ox.length:=by omega
   obtain⟨q1,g1,g2⟩:=CI (ei:=Ab) (S:=S) (sz:=4) rfl (es:=[]) (ys:=(X.ox.map CuX.c).take j) (r:=.full) (r':=.none) (by simp) (by simp[lim];omega)
   obtain⟨q3,g5,g6⟩:=CI (ei:=Ab) (S:=S) (sz:=4) rfl (es:=[]++(X.ox.map CuX.c).take j) (ys:=(X.ox.map CuX.c).drop (j+1)) (r':=X.ro) g1 (by simp[lim];omega)
   have c2:=Qo (ei:=Ab) (sz:=4) rfl (es:=X.ox.map CuX.c) (r:=X.ro) (fun e=>Mg (hro e)) (n:=(j:Int)+1) (k:=j+1) (by omega) (by simp;omega)
   simp only[List.nil_append] at g2 g6;have hset:(X.ox.map CuX.c).take j++(X.ox.map CuX.c).drop (j+1)=(X.ox.eraseIdx j).map CuX.c:=by
    rw[List.eraseIdx_eq_take_drop_succ];simp[List.map_take,List.map_drop]
   rw[hset] at g6;have:=hq ⟨X.rd,X.ri,q3.strip,X.ox.eraseIdx j⟩ .nil ⟨hX.rd,hX.ri,⟨strip_strip _,fun h=>absurd (by rw[strip_strip] at h;exact h) (JF g5.2)⟩,by
    simp only;rw[Iq,hX.ox],fun x hx=>hX.rx x (List.mem_of_mem_eraseIdx hx)⟩
   simp[show ¬((j:Int) < 0) by omega,Nat.le_of_lt hjl,hjn,hron,g2]
   try simp (disch:=omega) only[wrap64]
   simp[-K7,c2,g6,strip_strip];simp[A6.c,SpX.c,hs1,hs2,hs3] at this ⊢;exact this
 by_cases k8:o.kind=8
 ·simp only[if_neg k5,if_neg k6,if_neg k7,if_pos k8] at hq;simp[k8];have hde:=mC hi;refine UG hi ⟨fun n hdn hnok=>?_,fun hdn=>?_⟩
  ·rw[hde] at hdn;rw[hdn] at hq;simp only at hq;unfold Vz at hq;have hnc:=n.c_eq;simp
   by_cases h64:64≤σ.D.length
   ·rw[if_pos h64] at hq;have:=hq X .nil hX;simp[show (64:Int)≤σ.D.length by omega]
    refine DD ?_;simp[A6.c,An,SpX.c,hs1,hs2,hs3] at this ⊢;exact this
   ·rw[if_neg h64] at hq;simp[show ¬(64:Int)≤σ.D.length by omega]
    rw[←hxc];refine QL hX hok hk (fun Y hY=>?_)
    have:=hq Y .nil hY;obtain⟨y1,y2,y3⟩:Y.rd.strip=Y.rd∧Y.ri.strip=Y.ri∧Y.ro.strip=Y.ro:=⟨hY.rd.1,hY.ri.1,hY.ro.1⟩;simp[A6.c,SpX.c,y1,y2,y3] at this ⊢;exact this
  ·rw[hde] at hdn;rw[hdn] at hq;have:=hq X .nil hX;simp;refine DD ?_;simp[A6.c,An,SpX.c,hs1,hs2,hs3] at this ⊢;exact this
 by_cases k9:o.kind=9
 ·simp only[if_neg k5,if_neg k6,if_neg k7,if_neg k8,if_pos k9] at hq;simp[k9];rw[AH];unfold J0 at hq;have hro:=hX.ro.2.nil;refine Ak σ.ids (fun i (_:Unit)=>([.int .i64 i],[some [.vs 7 (σ.D.map Node.c) X.rd,.vs 1 (σ.ids.map iC) X.ri,.int .i64 σ.next,.int .i64 σ.epoch,.int .i64 σ.room,.vs 4 (X.ox.map CuX.c) X.ro,.int .i64 σ.made],some [.int .i64 9,.str o.path,.int .i64 o.off,.int .i64 o.n,.int .i64 o.id,.str o.image],some [.vs 7 [] .nil,.vs 1 [] .nil,.int .i64 0,.int .i64 0,.int .i64 0,.vs 4 [] .nil,.int .i64 0],some [.int .i64 0,.int .i64 0,.int .i64 0,.int .i64 0,.int .i64 0,.str [],.vs 1 [] .nil,.bool false]])) (fun i _ S'=>S'=S∧∀x∈σ.ids.take i,x≠o.id) () (by simp) ⟨rfl,by simp⟩ ?_ ?_
  ·rintro i _ S' v b x hii hxi hd hcc hmem ⟨rfl,hno⟩ hv;simp at hv;obtain⟨hv1,hb2,hb3,hb4,hb5⟩:=hv;have hxe:=(List.getElem?_eq_some_iff.1 hxi).2;simp[hv1,hb2,hb3,hb4,hb5,hcc,hxe,hxi,iC,hs1,hs2,hs3]
   by_cases e:x=o.id
   ·have hf:σ.ids.findIdx? (fun i=>decide (i=o.id))=some i:=by
     rw[List.findIdx?_eq_some_iff_getElem];refine⟨hii,by simp[hxe,e],fun j hj=>?_⟩
     have hm:σ.ids[j]'(by omega)∈σ.ids.take i:=by
      rw[List.mem_take_iff_getElem];exact⟨j,by omega,rfl⟩
     simpa using hno _ hm
    rw[hf] at hq;simp only at hq;have hdl:i < σ.D.length:=by omega
    have hrd:=hX.rd.2.nil;have hrdn:¬X.rd=Rt.nil:=fun e=>by
     have:=hrd e;rw[this] at hdl;simp at hdl
    have hin:¬i=σ.D.length:=by omega
    obtain⟨q1,g1,g2⟩:=CI (ei:=AG) (S:=S') (sz:=7) rfl (es:=[]) (ys:=(σ.D.map Node.c).take i) (r:=.full) (r':=.none) (by simp) (by simp[lim];omega)
    obtain⟨q3,g5,g6⟩:=CI (ei:=AG) (S:=S') (sz:=7) rfl (es:=[]++(σ.D.map Node.c).take i) (ys:=(σ.D.map Node.c).drop (i+1)) (r':=X.rd) g1 (by simp[lim];omega)
    have c2:=Qo (ei:=AG) (sz:=7) rfl (es:=σ.D.map Node.c) (r:=X.rd) (fun e=>Mg (hrd e)) (n:=(i:Int)+1) (k:=i+1) (by omega) (by simp;omega)
    simp only[List.nil_append] at g2 g6;have hset:(σ.D.map Node.c).take i++(σ.D.map Node.c).drop (i+1)=(σ.D.eraseIdx i).map Node.c:=by
     rw[List.eraseIdx_eq_take_drop_succ];simp[List.map_take,List.map_drop]
    rw[hset] at g6;simp[e,Nat.le_of_lt hdl,hin,hrdn,g2]
    try simp (disch:=omega) only[wrap64]
    simp[-K7,c2,g6,strip_strip,hs2];refine Ta hX.ri.2 (by omega) hii (fun q hqn=>?_)
    have:=hq ⟨q3.strip,q.strip,X.ro,X.ox⟩ .nil ⟨⟨strip_strip _,fun h=>absurd (by rw[strip_strip] at h;exact h) (JF g5.2)⟩,⟨strip_strip _,fun h=>absurd (by rw[strip_strip] at h;exact h) (JF hqn)⟩,hX.ro,hX.ox,hX.rx⟩
    simp
    try simp (disch:=omega) only[wrap64]
    simp[A6.c,SpX.c,hs1,hs2,hs3,strip_strip] at this ⊢;exact this
   ·simp[e]
    try simp (disch:=omega) only[wrap64]
    have hnew:∀y∈σ.ids.take (i+1),y≠o.id:=fun y hy=>by
     rw[List.take_succ,hxi] at hy;rcases List.mem_append.1 hy with hy|hy
     ·exact hno y hy
     ·simp at hy;subst hy;exact e
    refine .next hii () (by simp[iC]) ⟨rfl,?_⟩
    simpa using hnew
  ·rintro _ S' v b ⟨rfl,hno⟩ hv N;simp at hv;obtain⟨hv1,hb2,hb3,hb4,hb5⟩:=hv;rw[List.take_length] at hno;have hf:σ.ids.findIdx? (fun i=>decide (i=o.id))=none:=by
    rw[List.findIdx?_eq_none_iff];intro c hc;simpa using hno c hc
   rw[hf] at hq;have:=hq X .nil hX;simp[hv1,hb2,hb3,hb4,hb5];refine DD ?_;simp[A6.c,An,SpX.c,hs1,hs2,hs3] at this ⊢;exact this
 ·simp only[if_neg k5,if_neg k6,if_neg k7,if_neg k8,if_neg k9] at hq;simp[k5,k6,k7,k8,k9];rw[←hoc];refine cK (D:=σ.D) (ids:=σ.ids) hL hM.tabs hD (fun n hn=>⟨(hok.trees n hn).1,(FQ (hok.trees n hn).2).2.1⟩) hil hp hoff hL.ends ?_
  have:=hq X .nil hX;have hf:(fun k=>(σ.ids[k]?).getD 0)=σ.idf:=rfl
  simp only[hf];simp[A6.c,SpX.c,hs1,hs2,hs3] at this ⊢;exact this
open Go.Proofs
def sp0(room:Int):SpN:=⟨[],[],0,0,FW room,[],0⟩
theorem kv{σ:SpN}{k:Nat}(h:σ.ok k)(hd:σ.D.length < 64){n:Node}(hn:n.ok)(hr:Bi n=true):(DV σ n).ok (k+1):=by
 have:=h.add hn hr;unfold Vz at this;rw[if_neg (by omega)] at this
 exact this
theorem l8(room:Int):(sp0 room).ok 0:=by
 refine⟨by simp[sp0],by simp[sp0],rfl,⟨by simp[sp0],by simp[sp0]⟩,Nat.le_refl _,aA room,by simp[sp0],⟨Nat.le_refl _,by simp[sp0]⟩,by simp[sp0],by simp[sp0]⟩
theorem eW:∀(l:List Node) (σ:SpN) (k:Nat),σ.ok k→(∀n∈l,n.ok∧Bi n=true)→σ.D.length+l.length≤64→(l.foldl DV σ).ok (k+l.length)
 |[],σ,k,h,_,_=>h
 |n::l,σ,k,h,hl,hd=>by
  rw[List.foldl_cons];simp only[List.length_cons] at hd;have:=eW l (DV σ n) (k+1) (kv h (by omega) (hl n (by simp)).1 (hl n (by simp)).2) (fun m hm=>hl m (by simp[hm])) (by simp[DV];omega)
  rw[List.length_cons,show k+(l.length+1)=k+1+l.length by omega]
  exact this
theorem aP{w0:World}{S:St}{l:List Node}{r:Rt}{room:Int}(hl:l.length≤64)(hok:∀n∈l,n.ok∧Bi n=true){Q:AV→St→Prop}(hq:∀Y:SpX,Y.ok (Kz l room)→Q (.agg (Y.c (Kz l room))) S):AC w0 Mh [.vs 7 (l.map Node.c) r,.int .i64 room] S Q:=by
 apply ZF;unfold SF;simp;refine A7 (fun j=>j (some [.vs 7 [] .nil,.vs 1 [] .nil,.int .i64 0,.int .i64 0,.int .i64 (if room < 1 then 1 else room),.vs 4 [] .nil,.int .i64 0])) ?_ (fun j hj=>?_)
 ·refine A7 (fun j=>j (some [.vs 7 [] .nil,.vs 1 [] .nil,.int .i64 0,.int .i64 0,.int .i64 (FW room:Nat),.vs 4 [] .nil,.int .i64 0])) ?_ (fun j hj=>?_)
  ·rw[AH];refine Ak l (fun i (X:SpX)=>([.int .i64 i],[some (X.c ((l.take i).foldl DV (sp0 room)))])) (fun i X S'=>S'=S∧X.ok ((l.take i).foldl DV (sp0 room))) ⟨.nil,.nil,.nil,[]⟩ (by simp[SpX.c,sp0]) ⟨rfl,⟨⟨rfl,fun _=>rfl⟩,⟨rfl,fun _=>rfl⟩,⟨rfl,fun _=>rfl⟩,rfl,by simp⟩⟩ ?_ ?_
   ·rintro i X S' v b n hii hxi hd hcc hmem ⟨rfl,hX⟩ hv;simp at hv;obtain⟨hv1,hb⟩:=hv;have hfo:=eW (l.take i) (sp0 room) 0 (l8 room) (fun m hm=>hok m (List.mem_of_mem_take hm)) (by simp[sp0];omega)
    have htk:(l.take (i+1)).foldl DV (sp0 room)=DV ((l.take i).foldl DV (sp0 room)) n:=by
     rw[List.take_succ,hxi,List.foldl_append];rfl
    generalize hσ:(l.take i).foldl DV (sp0 room)=σ at hX hb hfo htk;have hXm:=SpX.map X σ hX;simp[hv1,hb,hcc,hxi,hXm];refine QL hX hfo (by rw[List.length_take];omega) (fun Y hY=>?_)
    simp
    try simp (disch:=omega) only[wrap64]
    refine .next hii Y ?_ ⟨rfl,by rw[htk];exact hY⟩
    rw[htk];simp
   ·rintro X S' v b ⟨rfl,hX⟩ hv N;simp at hv;obtain⟨hv1,hb⟩:=hv;rw[List.take_length] at hX;have h0:(sp0 room)=⟨[],[],0,0,FW room,[],0⟩:=rfl;have hnew:Kz l room={l.foldl DV (sp0 room) with epoch:=0}:=rfl
    generalize hσ:l.foldl DV (sp0 room)=σ at hX hb hnew;have hres:=hq ⟨X.rd,X.ri,X.ro,X.ox⟩ (by rw[hnew];exact⟨hX.rd,hX.ri,hX.ro,hX.ox,hX.rx⟩)
    rw[hnew] at hres;obtain⟨y1,y2,y3⟩:X.rd.strip=X.rd∧X.ri.strip=X.ri∧X.ro.strip=X.ro:=⟨hX.rd.1,hX.ri.1,hX.ro.1⟩;simp[hv1,hb,SpX.c,y1,y2,y3] at hres ⊢;exact hres
  ·have e:((FW room:Nat):Int)=if 1024 < (if room < 1 then 1 else room) then 1024 else (if room < 1 then 1 else room):=by
    unfold FW
    by_cases h1:room < 1
    ·simp[h1]
    ·simp[h1];split<;>omega
   rw[e] at hj
   by_cases h2:1024 < (if room < 1 then 1 else room)
   ·rw[if_pos h2] at hj;simp[h2];exact hj
   ·rw[if_neg h2] at hj;simp[h2];exact hj
 ·by_cases h1:room < 1
  ·simp[h1] at hj ⊢;exact hj
  ·simp[h1] at hj ⊢;exact hj
open Go.Proofs
theorem XI.newM{S0 S:St}{l:List Node}{s:Stk}(hs:XI S0 S l s)(room:Int):H7 S s (Kz l room):=by
 rw[Ee];refine⟨hs.ok,hs.on,hs.tabs,?_,hs.next⟩;have h1:(s.l.map fun x=>(x.num:Int))=(s.l.map Mnt.num).map fun n:Nat=>(n:Int):=by rw[List.map_map];rfl
 rw[h1,hs.nums,List.map_reverse]
theorem W8(σ:SpN)(o:OpN):(doS σ o).2.names.length≤o.n.toNat:=by
 unfold doS;split
 ·split
  ·simp[An]
  ·unfold NR;split<;>simp[An]
 ·split
  ·split
   ·simp[An]
   ·unfold KV;split
    ·simp[An]
    ·simp only[List.length_map,List.length_take];exact Nat.min_le_left _ _
  ·split
   ·unfold RW;split<;>simp[An]
   ·split
    ·split
     ·simp[An]
     ·unfold Vz;split<;>simp[An]
    ·split
     ·unfold J0;split<;>simp[An]
     ·rw[fD];simp
def Jr(a b:A6):Bool:=decide (a.err=b.err)&&(decide (a.kind=b.kind)&&(decide (a.size=b.size)&&(decide (a.where_=b.where_)&&(decide (a.id=b.id)&&(decide (a.text=b.text)&&(decide (a.end_=b.end_)&&decide (a.names=b.names)))))))
theorem Rz{a b:A6}:Jr a b=true↔a=b:=by
 cases a;cases b;simp[Jr];intro _ _ _ _ _ _;exact And.comm
theorem Sm{w0:World}{S:St}{a b:A6}{r1 r2:Rt}{Q:AV→St→Prop}(hl:a.names.length≤1000000)(hq:Q (.bool (Jr a b)) S):AC w0 Hn [.agg (a.c r1),.agg (b.c r2)] S Q:=by
 unfold A6.c;apply Yu;unfold SS;unfold Jr at hq;simp
 by_cases h1:a.err=b.err
 case neg=>simp[h1,AH] at hq ⊢;exact hq
 by_cases h2:a.kind=b.kind
 case neg=>simp[h1,h2,AH] at hq ⊢;exact hq
 by_cases h3:a.size=b.size
 case neg=>simp[h1,h2,h3,AH] at hq ⊢;exact hq
 by_cases h4:a.where_=b.where_
 case neg=>simp[h1,h2,h3,h4,AH] at hq ⊢;exact hq
 by_cases h5:a.id=b.id
 case neg=>simp[h1,h2,h3,h4,h5,AH] at hq ⊢;exact hq
 by_cases h6:a.text=b.text
 case neg=>simp[h1,h2,h3,h4,h5,h6,AH] at hq ⊢;exact hq
 by_cases h7:a.end_=b.end_
 case neg=>
  have h7':(a.end_==b.end_)=false:=by simpa using h7
  simp[h1,h2,h3,h4,h5,h6,h7,h7',AH] at hq ⊢;exact hq
 simp[h1,h2,h3,h4,h5,h6,h7,AH,Dn] at hq ⊢;refine bU (by omega) ?_
 simpa using hq
theorem Q3{w0:World}{S:St}{a b:A6}{r1 r2:Rt}{Q:AV→St→Prop}(hl:a.names.length≤1000000)(hq:Q (.bool (Jr a b)) S):AC w0 Fe [.agg (a.c r1),.agg (b.c r2)] S Q:=by
 by_cases he:a=b
 ·subst he;have e:Jr a a=true:=Rz.2 rfl;rw[e] at hq;exact Yi hl hq
 have e:Jr a b=false:=by
  cases h:Jr a b with
  |false=>rfl
  |true=>exact absurd (Rz.1 h) he
 rw[e] at hq;unfold A6.c;apply OE;unfold Ln;simp
 by_cases h1:a.err=b.err
 case neg=>simp[h1,AH];exact hq
 by_cases h2:a.kind=b.kind
 case neg=>simp[h1,h2,AH];exact hq
 by_cases h3:a.size=b.size
 case neg=>simp[h1,h2,h3,AH];exact hq
 by_cases h4:a.where_=b.where_
 case neg=>simp[h1,h2,h3,h4,AH];exact hq
 by_cases h5:a.id=b.id
 case neg=>simp[h1,h2,h3,h4,h5,AH];exact hq
 by_cases h6:a.text=b.text
 case neg=>simp[h1,h2,h3,h4,h5,h6,AH];exact hq
 by_cases h7:a.end_=b.end_
 case neg=>
  have h7':(a.end_==b.end_)=false:=by simpa using h7
  simp[h1,h2,h3,h4,h5,h6,h7',AH];exact hq
 by_cases h8:a.names.length=b.names.length
 case neg=>
  have h8':decide ((a.names.length:Int)=b.names.length)=false:=by simp;omega
  simp[h1,h2,h3,h4,h5,h6,h7,h8',AH];exact hq
 have hne:a.names≠b.names:=by
  intro h9;apply he;cases a;cases b
  simp_all
 simp[h1,h2,h3,h4,h5,h6,h7,h8,AH];refine Ak a.names (fun i (_:Unit)=>([.int .i64 i],[some (a.c r1),some (b.c r2)])) (fun i _ S'=>S'=S∧a.names.take i=b.names.take i) () (by simp[A6.c,h1,h2,h3,h4,h5,h6,h7]) ⟨rfl,by simp⟩ ?_ ?_
 ·rintro i _ S' v bx s c hxi hd hc hmem ⟨rfl,ht⟩ hv;simp at hv;obtain⟨hv1,hv2,hv3⟩:=hv;obtain⟨s2,hx2⟩:∃s2,b.names[i]? =some s2:=⟨b.names[i]'(by omega),by rw[List.getElem?_eq_getElem]⟩
  simp[hv1,hv2,hv3,hc,hxi,hx2,A6.c]
  by_cases cs:s=s2
  ·simp[cs]
   try simp (disch:=omega) only[wrap64]
   refine .next c () (by simp[A6.c]) ⟨rfl,?_⟩
   rw[List.take_succ,List.take_succ,hxi,hx2,ht,cs]
  ·simp[cs];exact hq
 ·rintro _ S' v bx ⟨rfl,ht⟩ hv N;exfalso;apply hne;rw[List.take_length] at ht;rw[ht,h8,List.take_length]
theorem aO{w0:World}{S:St}{x y:Ac}{Q:AV→St→Prop}(hq:Q (.bool (decide (x.ret < y.call))) S):AC w0 Hl [.agg x.c,.agg y.c] S Q:=by
 unfold Ac.c;apply Ui;unfold OB;simp;exact hq
def Ls(x:Ac):Bool:=Rm x.op&&(decide (0≤x.call)&&(decide (0≤x.mark)&&(decide (0≤x.ret)&&(decide (x.call≤2147483647)&&(decide (x.mark≤2147483647)&&(decide (x.ret≤2147483647)&&decide (x.res.names.length≤100)))))))
def ZM(l:List Ac):Bool:=decide (l.length≤60)&&l.all Ls
theorem M8{x:Ac}:Ls x=true↔Rm x.op=true∧0≤x.call∧0≤x.mark∧0≤x.ret∧x.call≤2147483647∧x.mark≤2147483647∧x.ret≤2147483647∧x.res.names.length≤100:=by simp[Ls]
theorem Qc{l:List Ac}:ZM l=true↔l.length≤60∧∀x∈l,Ls x=true:=by simp[ZM]
theorem pb(x y z:Int):∃m:Int,TF [.int .i64 x,.int .i64 y,.int .i64 z]=some (.int .i64 m)∧(2147483647 < m↔(2147483647 < x∨2147483647 < y∨2147483647 < z)):=by
 refine⟨if z > (if y > x then y else x) then z else (if y > x then y else x),by simp[TF],?_⟩
 split<;>split<;>omega
theorem lI{w0:World}{S:St}{l:List Ac}{r:Rt}{Q:AV→St→Prop}(hq:Q (.bool (ZM l)) S):AC w0 Mq [.vs 19 (l.map Ac.c) r] S Q:=by
 apply Y8;unfold SG;simp only[List.length_map]
 by_cases c0:l.length≤60
 case neg=>
  have e:ZM l=false:=by
   cases h:ZM l with
   |false=>rfl
   |true=>exact absurd (Qc.1 h).1 c0
  have c1:(l.length:Int) > 60:=by omega
  rw[e] at hq;simp[c1];exact hq
 have c1:¬(l.length:Int) > 60:=by omega
 simp only[c1,decide_false,EU];rw[AH];refine Ak l (fun i (_:Unit)=>([.int .i64 i],[])) (fun i _ S'=>S'=S∧∀y∈l.take i,Ls y=true) () (by simp) ⟨rfl,by simp⟩ ?_ ?_
 ·rintro i _ S' v bx x c hxi hd hc hmem ⟨rfl,ht⟩ hv;simp at hv;have bad:Ls x=false→ZM l=false:=by
   intro h;cases h2:ZM l with
   |false=>rfl
   |true=>rw[(Qc.1 h2).2 x hmem] at h;cases h
  have hxc:x.c=[.int .i64 x.client,.int .i64 x.index,.int .i64 x.op.kind,.str x.op.path,.int .i64 x.op.off,.int .i64 x.op.n,.int .i64 x.op.id,.str x.op.image,
   .int .i64 x.res.err,.int .i64 x.res.kind,.int .i64 x.res.size,.int .i64 x.res.where_,.int .i64 x.res.id,.str x.res.text,.vs 1 (x.res.names.map BO) x.rt.strip,.bool x.res.end_,.int .i64 x.call,.int .i64 x.mark,.int .i64 x.ret]:=rfl
  simp[hv,hc,hxi,hxc];refine Zw (l:=[x.op]) (by simp) ?_
  have hf:Zz [x.op] 1=Rm x.op:=by simp[Zz]
  rw[hf];obtain⟨m,hm1,hm2⟩:=pb x.call x.mark x.ret
  by_cases h:Ls x=true
  ·obtain⟨h1,h2,h3,h4,h5,h6,h7,h8⟩:=M8.1 h;have g2:¬x.call < 0:=by omega
   have g3:¬x.mark < 0:=by omega
   have g4:¬x.ret < 0:=by omega
   have g5:¬2147483647 < m:=by rw[hm2];omega
   have g8:¬(100:Int) < x.res.names.length:=by omega
   simp[h1,g2,g3,g4,hm1,g5,g8,AH]
   try simp (disch:=omega) only[wrap64]
   refine .next c () rfl ⟨rfl,fun y hy=>?_⟩
   rw[List.take_succ,hxi] at hy;rcases List.mem_append.1 hy with hy|hy
   ·exact ht y hy
   ·simp at hy;subst hy;exact h
  ·have hb:=bad (by simpa using h)
   rw[hb] at hq
   by_cases h1:Rm x.op=true
   case neg=>simp[h1,AH];exact hq
   by_cases g2:x.call < 0
   case pos=>simp[h1,g2,AH];exact hq
   by_cases g3:x.mark < 0
   case pos=>simp[h1,g2,g3,AH];exact hq
   by_cases g4:x.ret < 0
   case pos=>simp[h1,g2,g3,g4,AH];exact hq
   by_cases g5:2147483647 < m
   case pos=>simp[h1,g2,g3,g4,hm1,g5,AH];exact hq
   have g8:(100:Int) < x.res.names.length:=by
    rw[hm2] at g5
    by_cases g8:(100:Int) < x.res.names.length
    ·exact g8
    ·exact absurd (M8.2 ⟨h1,by omega,by omega,by omega,by omega,by omega,by omega,by omega⟩) h
   simp[h1,g2,g3,g4,hm1,g5,g8,AH];exact hq
 ·rintro _ S' v bx ⟨rfl,ht⟩ hv N;simp at hv;have e:ZM l=true:=Qc.2 ⟨c0,by rw[List.take_length] at ht;exact ht⟩
  rw[e] at hq;simp[hv];exact hq
@[simp] theorem Ac.take19(x:Ac):x.c.take 19=x.c:=rfl
@[simp] theorem Ac.drop19(x:Ac):x.c.drop 19=[]:=rfl
@[simp] theorem Ac.map1'(x:Ac):x.c.map AV.strip1=x.c:=Ac.map1 x
theorem Ac.allf(x:Ac):∀y∈x.c,y.free1=true:=by
 intro z hz;simp[Ac.c] at hz;rcases hz with rfl|rfl|rfl|rfl|rfl|rfl|rfl|rfl|rfl|rfl|rfl|rfl|rfl|rfl|rfl|rfl|rfl|rfl|rfl<;>rfl
@[simp] theorem Ac.cells(x:Ac):(AV.agg x.c).cells=x.c:=rfl
def VU:List Ac→Bool
 |[]=>true
 |x::l=>(l.all fun y=>!decide (y.ret < x.call))&&VU l
theorem mS{w0:World}{S:St}{l:List Ac}{r:Rt}(hl:l.length≤100000)(hr:okR r l){Q:AV→St→Prop}(hq:Q (.bool (VU l)) S):AC w0 MZ [.vs 19 (l.map Ac.c) r] S Q:=by
 apply X0;unfold SY;rw[AH];simp only[List.length_map];have hxc:∀x:Ac,x.c=[.int .i64 x.client,.int .i64 x.index,.int .i64 x.op.kind,.str x.op.path,.int .i64 x.op.off,.int .i64 x.op.n,.int .i64 x.op.id,.str x.op.image,
   .int .i64 x.res.err,.int .i64 x.res.kind,.int .i64 x.res.size,.int .i64 x.res.where_,.int .i64 x.res.id,.str x.res.text,.vs 1 (x.res.names.map BO) x.rt.strip,.bool x.res.end_,.int .i64 x.call,.int .i64 x.mark,.int .i64 x.ret]:=fun _=>rfl
 refine Ak l (fun i (rr:Rt)=>([.vs 19 (l.map Ac.c) rr,.int .i64 i],[])) (fun i rr S'=>S'=S∧VU l=VU (l.drop i)∧okR rr l) r (by simp) ⟨rfl,rfl,hr⟩ ?_ ?_
 ·rintro i rr S' v bx x c hxi hd hc hmem ⟨rfl,ht,hrr⟩ hv;simp at hv;obtain⟨hv0,hv1⟩:=hv;have w1:IntKind.i64.wrap ((i:Int)+1)=((i+1:Nat):Int):=by rw[wrap64 (by omega) (by omega)];rfl
  simp[hv0,hv1,hc,hxi,w1];have hf:=Ac.allf x;obtain⟨r2,hcut⟩:∃r2,CT AF (.vs 19 (l.map Ac.c) rr) (some (.int .i64 ((i:Int)+1))) none none=some (.vs 19 ((l.drop (i+1)).map Ac.c) r2):=by
   have e:((i:Int)+1)=((i+1:Nat):Int):=by omega
   have hsz:AF.size=19:=rfl;have h1:i+1≤l.length:=by omega
   have h2:rr≠ .nil:=fun e=>by
    have h3:=hrr (by rw[e];rfl)
    rw[h3] at hxi;simp at hxi
   rw[e];rw[K7];exact⟨rr,by simp[hsz,h1,h2,List.map_drop]⟩
  rw[AH];rw[if_pos hf];simp only[Ay,hcut];simp only[Ap,Ay,List.length_map];have hall:VU (l.drop i)=(((l.drop (i+1)).all fun y=>!decide (y.ret < x.call))&&VU (l.drop (i+1))):=by rw[hd];rfl
  refine Ak (l.drop (i+1)) (fun k (_:Unit)=>([.int .i64 k],[some x.c])) (fun k _ S2=>S2=S'∧∀y∈(l.drop (i+1)).take k,¬y.ret < x.call) () (by simp) ⟨rfl,by simp⟩ ?_ ?_
  ·rintro k _ S2 v2 bx2 y ck hyi hyd hyc hym ⟨rfl,hk⟩ hv2;simp only[Prod.mk.injEq,List.cons.injEq,and_true] at hv2;obtain⟨hv2a,hv2b⟩:=hv2;have hfy:=Ac.allf y;simp only[hv2a,hv2b];have hyc':(k:Int) < (((l.drop (i+1)).length:Nat):Int):=hyc;have hgy:((l.drop (i+1)).map Ac.c)[k]? =some y.c:=by rw[List.getElem?_map,hyi];rfl
   simp only[bc,Ay,hyc',decide_true,FN,Xn,hgy];simp[hyc',hfy,AF];rw[if_pos hfy];simp[hf];refine aO ?_
   by_cases cb:y.ret < x.call
   ·have e:((l.drop (i+1)).all fun y=>!decide (y.ret < x.call))=false:=by
     rw[←Bool.not_eq_true,List.all_eq_true];intro h;have:=h y hym;simp at this;omega
    rw[ht,hall,e] at hq;simp[cb];exact hq
   ·simp[cb]
    try simp (disch:=omega) only[wrap64]
    have wk:IntKind.i64.wrap ((k:Int)+1)=(k:Int)+1:=by simp at ck;exact wrap64 (by omega) (by omega)
    refine .next (by simpa using ck) () (by simp[wk]) ⟨rfl,fun z hz=>?_⟩
    rw[List.take_succ,hyi] at hz;rcases List.mem_append.1 hz with hz|hz
    ·have:=hk z hz;simp at this ⊢;omega
    ·simp at hz;subst hz;simp at cb;first|exact cb|omega
  ·rintro _ S2 v2 bx2 ⟨rfl,hk⟩ hv2 N;simp only[Prod.mk.injEq,List.cons.injEq,and_true] at hv2;obtain⟨hv2a,hv2b⟩:=hv2;simp only[hv2a,hv2b];rw[List.take_length] at hk;have e:((l.drop (i+1)).all fun y=>!decide (y.ret < x.call))=true:=by
    rw[List.all_eq_true];intro y hy;simpa using hk y hy
   rw[hall,e,Bool.true_and] at ht;simp;exact .next c rr.strip (by simp) ⟨rfl,ht,by simpa[okR] using hrr⟩
 ·rintro rr S' v bx ⟨rfl,ht,hrr⟩ hv N;simp at hv;rw[ht,List.drop_length] at hq;simp[hv];exact hq
def Qn(last:Int)(x:Ac):Bool:=decide (x.mark≤last)||(decide (x.mark < x.call)||decide (x.ret < x.mark))
def Ft(σ:SpN)(last:Int)(i:Int):List Ac→Int
 |[]=>-1
 |x::l=>if Qn last x=true∨Jr (doS σ x.op).2 x.res=false then i else Ft (doS σ x.op).1 x.mark (i+1) l
theorem Ls.m{x:Ac}(h:Ls x=true):okM x:=by
 obtain⟨h1,h2,h3,h4,h5,h6,h7,h8⟩:=M8.1 h;exact⟨h3,h6⟩
theorem Yd{w0:World}(hm:KD w0){S:St}{s:Stk}{σ:SpN}{room:Int}{l:List Ac}{r:Rt}(h:H7 S s σ)(h0:σ.epoch=0)(h1:σ.opens=[])(h2:σ.made=0)(h3:σ.room=FW room)(hok:σ.ok 0)(hr:okR r l)(hl:l.length≤60)(hx:∀x∈l,Ls x=true){Q:AV→St→Prop}
  (hq:∀S',Sx S S'→Q (.int .i64 (Ft σ 0 0 (BZ Ac.mark l))) S'):AC w0 Gf [.agg s.c,.int .i64 room,.vs 19 (l.map Ac.c) r] S Q:=by
 have hc:s.c=[.vs 2 (s.l.map Mnt.c) s.r.strip,.int .i64 s.next]:=rfl;rw[hc];apply WU;unfold QN;have hbx:B9 AM (AV.agg [.vs 2 (s.l.map Mnt.c) s.r.strip,.int .i64 s.next])=some [.vs 2 (s.l.map Mnt.c) s.r.strip,.int .i64 s.next]:=by simp
 rw[hbx];simp[Dn];rw[←hc];refine cY h h0 h1 h2 h3 (fun S1 hS1 p t m hp ht hmm hA=>?_)
 have hif:KU EN Gg (.ptr p 0)=some (.ifc Gg (.ptr p 0)):=by simp[KU,EN,Qj]
 rw[hif];simp;rw[AH];refine Yt (r:=r.strip) (by simpa[okR] using hr) (by omega) (fun x hx2=>Ls.m (hx x hx2)) (fun S2 r2 hS2 _=>?_)
 have hA2:=hA.sx hS2;have hsrt:∀x∈BZ Ac.mark l,Ls x=true:=fun x h=>hx x ((GH l).1 h)
 have hlen:=Cj (f:=Ac.mark) l;generalize BZ Ac.mark l=L at hq hsrt hlen ⊢;have hSx:∀S',Cg [p,t,m] S2 S'→Sx S S':=fun S' hC j hj=>by
  have e1:=(hS1.trans hS2) j hj;have:=(hS1.trans hS2).le;rw[hC.2 j (by omega) (by simp;omega)]
  exact e1
 try simp
 refine Ak L (fun i (q:Int×SpN)=>([.int .i64 q.1,.int .i64 i],[])) (fun i q S'=>(∃s',G9 S' p t m q.2 s')∧q.2.ok i∧Ft q.2 q.1 i (L.drop i)=Ft σ 0 0 L∧Cg [p,t,m] S2 S') (0,σ) (by simp) ⟨⟨_,hA2⟩,hok,by simp,Cg.refl _ _⟩ ?_ ?_
 ·rintro i ⟨last,τ⟩ S' v bx x c hxi hd hcc hmem ⟨⟨s',hA3⟩,hok3,hw,hC⟩ hv;simp at hv hA3 hok3 hw;obtain⟨hv1,hv2⟩:=hv;obtain⟨g1,g2,g3,g4,g5,g6,g7,g8⟩:=M8.1 (hsrt x hmem);obtain⟨f1,f2,f3⟩:=VW.1 g1;have hf:=Ac.allf x;have hF:=(hA3.stk.leads hok3).fine;rw[hd,Ft] at hw;have hxc:x.c=[.int .i64 x.client,.int .i64 x.index,.int .i64 x.op.kind,.str x.op.path,.int .i64 x.op.off,.int .i64 x.op.n,.int .i64 x.op.id,.str x.op.image,
   .int .i64 x.res.err,.int .i64 x.res.kind,.int .i64 x.res.size,.int .i64 x.res.where_,.int .i64 x.res.id,.str x.res.text,.vs 1 (x.res.names.map BO) x.rt.strip,.bool x.res.end_,.int .i64 x.call,.int .i64 x.mark,.int .i64 x.ret]:=rfl
  simp[hv1,hv2,hcc,hxi,hxc]
  by_cases b1:x.mark≤last
  case pos=>
   have e:Qn last x=true:=by simp[Qn,b1]
   rw[if_pos (.inl e)] at hw;simp[b1,AH];rw[hw];exact hq S' (hSx S' hC)
  by_cases b2:x.mark < x.call
  case pos=>
   have e:Qn last x=true:=by simp[Qn,b2]
   rw[if_pos (.inl e)] at hw;simp[b1,b2,AH];rw[hw];exact hq S' (hSx S' hC)
  by_cases b3:x.ret < x.mark
  case pos=>
   have e:Qn last x=true:=by simp[Qn,b3]
   rw[if_pos (.inl e)] at hw;simp[b1,b2,b3,AH];rw[hw];exact hq S' (hSx S' hC)
  have e:Qn last x=false:=by simp[Qn];omega
  have hoc:x.op.c=[.int .i64 x.op.kind,.str x.op.path,.int .i64 x.op.off,.int .i64 x.op.n,.int .i64 x.op.id,.str x.op.image]:=rfl;have hrc:∀rt:Rt,x.res.c rt=[.int .i64 x.res.err,.int .i64 x.res.kind,.int .i64 x.res.size,.int .i64 x.res.where_,.int .i64 x.res.id,.str x.res.text,.vs 1 (x.res.names.map BO) rt,.bool x.res.end_]:=fun _=>rfl
  simp[b1,b2,b3,D2,Dn,Gd,AH];rw[←hoc];refine ft hm hA3 hok3 (by omega) (by omega) (by omega) (fun S4 s4 rt4 hC4 hA4=>?_)
  have hra:∀(a:A6) (r:Rt),a.c r=[.int .i64 a.err,.int .i64 a.kind,.int .i64 a.size,.int .i64 a.where_,.int .i64 a.id,.str a.text,.vs 1 (a.names.map BO) r,.bool a.end_]:=fun _ _=>rfl
  have hnm:=W8 τ x.op;have hok4:=jO hok3 hF (o:=x.op) (by omega)
  simp[hra];simp only[←hra];refine Sm (a:=(doS τ x.op).2) (b:=x.res) (by omega) ?_
  have hC':=hC.trans hC4;cases hs:Jr (doS τ x.op).2 x.res with
  |false=>
   rw[if_pos (.inr hs)] at hw;simp;rw[hw];exact hq S4 (hSx S4 hC')
  |true=>
   rw[if_neg (by simp[e,hs])] at hw
   simp
   try simp (disch:=omega) only[wrap64]
   exact .next c (x.mark,(doS τ x.op).1) (by simp) ⟨⟨s4,hA4⟩,hok4,by simpa using hw,hC'⟩
 ·rintro⟨last,τ⟩ S' v bx ⟨⟨s',hA3⟩,hok3,hw,hC⟩ hv N;simp at hv hw;obtain⟨hv1,hv2⟩:=hv;have:=hq S' (hSx S' hC);rw[←hw] at this;simp[hv1,hv2];simpa[Ft] using this
def GX:Ac:=⟨0,0,⟨7,[],0,0,0,[]⟩,{err:=9},.nil,1,1,1⟩
def K0:Ac:=⟨0,0,⟨9,[],0,0,0,[]⟩,{err:=2},.nil,2,4,5⟩
def T1:Ac:=⟨0,0,⟨9,[],0,0,0,[]⟩,{err:=0},.nil,2,4,5⟩
theorem sBA:BZ Ac.mark [K0,GX]=[GX,K0]:=rfl
theorem sAB:BZ Ac.mark [GX,K0]=[GX,K0]:=rfl
theorem sAC:BZ Ac.mark [GX,T1]=[GX,T1]:=rfl
theorem d1:doS (Kz [] 1) ⟨7,[],0,0,0,[]⟩=(Kz [] 1,{err:=9}):=by rfl
theorem d2:doS (Kz [] 1) ⟨9,[],0,0,0,[]⟩=(Kz [] 1,{err:=2}):=by rfl
theorem wAB:Ft (Kz [] 1) 0 0 [GX,K0]= -1:=by
 simp[Ft,GX,K0,d1,d2,Qn,Jr]
theorem wAC:Ft (Kz [] 1) 0 0 [GX,T1]=1:=by
 simp[Ft,GX,T1,d1,d2,Qn,Jr]
theorem kBA:VU [K0,GX]=false:=by rfl
theorem gq{S:St}:H7 S Stk.none (Kz [] 1):=by
 rw[Ee];exact⟨⟨fun _=>rfl,by simp[Stk.none],by simp[Stk.none],by simp[Stk.none]⟩,by simp[Stk.none,Stk.on],rfl,rfl,rfl⟩
theorem U7{w0:World}(hm:KD w0){S:St}{Q:AV→St→Prop}(hq:∀S',Sx S S'→Q (.bool true) S'):AC w0 I7 [] S Q:=by
 apply TD;unfold M6;have eB:[(.int .i64 0),(.int .i64 0),(.int .i64 9),(.str []),(.int .i64 0),(.int .i64 0),(.int .i64 0),(.str []),(.int .i64 2),(.int .i64 0),(.int .i64 0),(.int .i64 0),(.int .i64 0),(.str []),(.vs 1 [] .nil),(.bool false),(.int .i64 2),(.int .i64 4),(.int .i64 5)]=K0.c:=rfl;have eA:[(.int .i64 0),(.int .i64 0),(.int .i64 7),(.str []),(.int .i64 0),(.int .i64 0),(.int .i64 0),(.str []),(.int .i64 9),(.int .i64 0),(.int .i64 0),(.int .i64 0),(.int .i64 0),(.str []),(.vs 1 [] .nil),(.bool false),(.int .i64 1),(.int .i64 1),(.int .i64 1)]=GX.c:=rfl
 have eC:[(.int .i64 0),(.int .i64 0),(.int .i64 9),(.str []),(.int .i64 0),(.int .i64 0),(.int .i64 0),(.str []),(.int .i64 0),(.int .i64 0),(.int .i64 0),(.int .i64 0),(.int .i64 0),(.str []),(.vs 1 [] .nil),(.bool false),(.int .i64 2),(.int .i64 4),(.int .i64 5)]=T1.c:=rfl;simp only[eA,eB,eC];have oA:Ls GX=true:=rfl;have oB:Ls K0=true:=rfl;have oC:Ls T1=true:=rfl;have hok:(Kz [] 1).ok 0:=eP 1 (by simp) (by simp)
 refine Yt (l:=[K0,GX]) Ki (by simp) (by simp[Ls.m oA,Ls.m oB]) (fun S1 r1 h1 _=>?_)
 rw[sBA];have gA:(GX.c)[17]? =some (.int .i64 1):=rfl;simp[gA,AH];refine Yd hm (s:=Stk.none) (σ:=Kz [] 1) (l:=[GX,K0]) gq (by rw[Ee]) (by rw[Ee]) (by rw[Ee]) (by rw[Ee]) hok Ki (by simp) (by simp[oA,oB]) (fun S2 h2=>?_)
 rw[sAB,wAB];simp;refine Yd hm (s:=Stk.none) (σ:=Kz [] 1) (l:=[GX,T1]) gq (by rw[Ee]) (by rw[Ee]) (by rw[Ee]) (by rw[Ee]) hok Ki (by simp) (by simp[oA,oC]) (fun S3 h3=>?_)
 rw[sAC,wAC];simp;refine aO ?_;have hb:decide (GX.ret < K0.call)=true:=rfl;rw[hb];simp;refine mS (l:=[K0,GX]) (by simp) Ki ?_
 rw[kBA];simp;exact hq S3 ((h1.trans h2).trans h3)
theorem gf{w0:World}{S:St}{x:Ac}(hl:x.res.names.length≤1000000){Q:AV→St→Prop}(hq:Q (.bool true) S):AC w0 LX [.agg x.c,.agg x.c] S Q:=by
 unfold Ac.c;apply Wm;unfold Q6;have e:Jr x.res x.res=true:=Rz.2 rfl;have hra:∀(a:A6) (r:Rt),a.c r=[.int .i64 a.err,.int .i64 a.kind,.int .i64 a.size,.int .i64 a.where_,.int .i64 a.id,.str a.text,.vs 1 (a.names.map BO) r,.bool a.end_]:=fun _ _=>rfl
 simp[AH,Dn];have h1:AC w0 Fe [.agg (x.res.c x.rt.strip),.agg (x.res.c x.rt.strip)] S fun x50 S_2=>
  ifK x50.strip.strip
   (AC w0 Hn [.agg (x.res.c x.rt.strip),.agg (x.res.c x.rt.strip)] S_2 fun x57 S_4=>AA (AZ x50.strip.strip x57 (AV.bool false)) fun t58=>Q t58.strip S_4)
   (AA (AZ x50.strip.strip (AV.tup []) (AV.bool false)) fun t58=>Q t58.strip S_2):=by
  refine Q3 hl ?_;rw[e];simp;refine Sm hl ?_;rw[e];simp;exact hq
 exact h1
theorem YF{S:St}{l m:List Ac}{r r1:Rt}(hr:r≠ .none)(hn:r≠ .nil)(hl:l.length+m.length≤1000):∃r2,r2≠ .none∧r2≠ .nil∧AU AF S (.vs 19 (l.map Ac.c) r) (.vs 19 (m.map Ac.c) r1)=some (.vs 19 ((l++m).map Ac.c) r2):=by
 have hsz:AF.size=19:=rfl;have hlim:l.length+m.length≤lim:=by simp only[lim];omega
 have hm1:List.map (fun x=>List.map AV.strip1 x) (m.map Ac.c)=m.map Ac.c:=by
  rw[List.map_map];exact List.map_congr_left fun y _=>Ac.map1 y
 by_cases e:m=[]
 ·subst e;exact⟨r,hr,hn,by simp[AU,A1,hsz]⟩
 ·refine⟨.own (Ba AF r),by simp,by simp,?_⟩
  simp[AU,A1,hsz,hr,e,hlim]
theorem cg{w0:World}{S:St}{l:List Ac}{r:Rt}(hl:l.length≤60){Q:AV→St→Prop}(hq:∀r',Q (.vs 19 ((BZ Ac.mark l).map Ac.c) r') S):AC w0 Iz [.vs 19 (l.map Ac.c) r] S Q:=by
 apply Sz;unfold NP;rw[AH];simp only[List.length_map];refine Ak l (fun i (rr:Rt)=>([.vs 19 ((BZ Ac.mark (l.take i)).map Ac.c) rr,.int .i64 i],[])) (fun i rr S'=>S'=S∧(rr= .nil→i=0)) .nil (by simp[BZ]) ⟨rfl,fun _=>rfl⟩ ?_ ?_
 ·rintro i rr S' v bx x c hxi hd hc hmem ⟨rfl,hrr⟩ hv;simp only[Prod.mk.injEq,List.cons.injEq,and_true] at hv;obtain⟨hv0,hv1⟩:=hv;have hsl:(BZ Ac.mark (l.take i)).length=i:=by rw[Cj,List.length_take];omega
  have hso:=Fj (f:=Ac.mark) (l.take i);have hnext:BZ Ac.mark (l.take (i+1))=By Ac.mark (BZ Ac.mark (l.take i)) [x]:=by
   rw[List.take_succ,hxi];exact Iw _ _
  have hf:=Ac.allf x;have hgx:(l.map Ac.c)[i]? =some x.c:=by rw[List.getElem?_map,hxi];rfl
  simp only[hv0,hv1,bc,Ay,hc,decide_true,FN];generalize hO:BZ Ac.mark (l.take i)=O at hsl hso hnext ⊢;refine A7 (fun j=>∀r2,r2≠ .nil→j (.vs 19 ((BZ Ac.mark (l.take (i+1))).map Ac.c) r2) S') (fun r2 hr2=>?_) (fun j hj=>?_)
  ·simp
   try simp (disch:=omega) only[wrap64]
   exact .next c r2 (by simp) ⟨rfl,fun e=>absurd e hr2⟩
  ·simp[hxi,hgx,hf];rw[if_pos hf,Ay];have hrr2:rr.strip= .nil→O=[]:=fun e=>by
    have:rr= .nil:=by cases rr<;>first|rfl|exact absurd e (by intro h;cases h)
    have:=hrr this;exact List.length_eq_zero_iff.1 (by omega)
   have hsz:AF.size=19:=rfl;refine A7 (fun j=>∀k:Nat,k≤O.length→(∀p∈O.take k,p.mark≤x.mark)→(∀p∈O.drop k,x.mark < p.mark)→j (.int .i64 k) (some x.c) S') (fun k hk h1 h2=>?_) (fun j2 hj2=>?_)
   ·have e:By Ac.mark O [x]=O.take k++x::O.drop k:=by
     have:=UU (P1:=O.take k) (P2:=O.drop k) (y:=x) (by rw[List.take_append_drop];exact hso) h1 h2
     rwa [List.take_append_drop] at this
    obtain⟨r3,c1⟩:∃r3,CT AF (.vs 19 (O.map Ac.c) rr.strip) none (some (.int .i64 (k:Int))) none=some (.vs 19 ((O.take k).map Ac.c) r3):=by
     rw[VM];exact⟨_,by rw[if_pos ⟨hsz.symm,by simpa using hk,fun e=>by rw[hrr2 e];rfl⟩,List.map_take]⟩
    obtain⟨r4,c2⟩:∃r4,CT AF (.vs 19 (O.map Ac.c) rr.strip) (some (.int .i64 (k:Int))) none none=some (.vs 19 ((O.drop k).map Ac.c) r4):=by
     rw[K7];exact⟨_,by rw[if_pos ⟨hsz.symm,by simpa using hk,fun e=>by rw[hrr2 e];rfl⟩,List.map_drop]⟩
    obtain⟨q1,n1,m1,a1⟩:=YF (S:=S') (l:=[]) (m:=O.take k) (r:=.full) (r1:=r3) (by simp) (by simp) (by simp;omega)
    obtain⟨q2,n2,m2,a2⟩:=YF (S:=S') (l:=O.take k) (m:=[x]) (r:=q1) (r1:=.full) n1 m1 (by simp;omega)
    obtain⟨q3,n3,m3,a3⟩:=YF (S:=S') (l:=O.take k++[x]) (m:=O.drop k) (r:=q2) (r1:=r4) n2 m2 (by simp;omega)
    simp only[List.map_nil,List.nil_append] at a1;simp only[List.map_cons,List.map_nil] at a2;simp[-VM,-K7,Ac.free];rw[if_pos hf,Ay];simp only[c1,Ay,a1,a2,c2,a3];have:=hj q3 m3;rw[hnext,e] at this;simpa using this
   ·refine BV (fun k:Nat=>([.int .i64 k],[some x.c])) (fun n k S2=>S2=S'∧n=k∧k≤O.length∧∀p∈O.drop k,x.mark < p.mark) O.length O.length (by simp) ⟨rfl,rfl,Nat.le_refl _,by simp⟩ ?_
    rintro n k S2 v2 bx2 ⟨rfl,rfl,hk,hp⟩ hv2;simp only[Prod.mk.injEq,List.cons.injEq,and_true] at hv2;obtain⟨hv2a,hv2b⟩:=hv2;simp only[hv2a,hv2b];have hxm:(x.c)[17]? =some (.int .i64 x.mark):=rfl;cases n with
    |zero=>
     have:=hj2 0 (by omega) (by simp) hp
     simp[AH];simpa using this
    |succ n=>
     obtain⟨y,hy⟩:∃y,O[n]? =some y:=⟨O[n]'(by omega),by rw[List.getElem?_eq_getElem]⟩
     have hgy:(O.map Ac.c)[n]? =some y.c:=by rw[List.getElem?_map,hy];rfl
     have w1:IntKind.i64.wrap (((n+1:Nat):Int) - 1)=(n:Int):=by rw[wrap64 (by omega) (by omega)];omega
     have w1':IntKind.i64.wrap (n:Int)=(n:Int):=wrap64 (by omega) (by omega)
     have hym:(y.c)[17]? =some (.int .i64 y.mark):=rfl;have hpos:(0:Int) < (n:Int)+1:=by omega
     have hns:¬((n:Int)+1≤0):=by omega
     simp[w1,w1',hpos,hgy,hy,hxm,hym,AH]
     by_cases cm:x.mark < y.mark
     ·simp[cm];refine⟨_,n,by omega,rfl,rfl,rfl,by omega,fun p hp2=>?_⟩
      rw[List.drop_eq_getElem_cons (by omega)] at hp2
      rcases List.mem_cons.1 hp2 with rfl|hp2
      ·rw[(List.getElem?_eq_some_iff.1 hy).2];exact cm
      ·exact hp p hp2
     ·simp[cm];have:=hj2 (n+1) hk (Tx fun i z hi hz=>by
       have:=Em hso hz hy (by omega)
       omega) hp
      simpa using this
 ·rintro rr S' v bx ⟨rfl,hrr⟩ hv N;simp at hv;obtain⟨hv0,hv1⟩:=hv;simp[hv0,hv1];simpa using hq _
open Go.Proofs
theorem g0(ys:List AV)(h:TT Qf ys):∃(r:A6) (rt:Rt),ys=r.c rt.strip∧r.text.length≤1048576:=by
 obtain⟨hl,hf⟩:=h.struct_inv W4
 match ys,hl with
 |[a0,a1,a2,a3,a4,a5,a6,a7],_=>
  have m0:=hf _ (List.mem_cons_self);have m1:=hf _ (List.mem_cons_of_mem _ List.mem_cons_self);have m2:=hf _ (List.mem_cons_of_mem _ (List.mem_cons_of_mem _ List.mem_cons_self));have m3:=hf _ (List.mem_cons_of_mem _ (List.mem_cons_of_mem _ (List.mem_cons_of_mem _ List.mem_cons_self)));have m4:=hf _ (List.mem_cons_of_mem _ (List.mem_cons_of_mem _ (List.mem_cons_of_mem _ (List.mem_cons_of_mem _ List.mem_cons_self))));have m5:=hf _ (List.mem_cons_of_mem _ (List.mem_cons_of_mem _ (List.mem_cons_of_mem _ (List.mem_cons_of_mem _ (List.mem_cons_of_mem _ List.mem_cons_self)))));have m6:=hf _ (List.mem_cons_of_mem _ (List.mem_cons_of_mem _ (List.mem_cons_of_mem _ (List.mem_cons_of_mem _ (List.mem_cons_of_mem _ (List.mem_cons_of_mem _ List.mem_cons_self))))))
  have m7:=hf _ (List.mem_cons_of_mem _ (List.mem_cons_of_mem _ (List.mem_cons_of_mem _ (List.mem_cons_of_mem _ (List.mem_cons_of_mem _ (List.mem_cons_of_mem _ (List.mem_cons_of_mem _ List.mem_cons_self)))))));obtain⟨k0,e0,q0⟩:=D3 m0 YJ;obtain⟨k1,e1,q1⟩:=D3 m1 E6;obtain⟨k2,e2,q2⟩:=D3 m2 E6;obtain⟨k3,e3,q3⟩:=D3 m3 E6;obtain⟨k4,e4,q4⟩:=D3 m4 E6;obtain⟨t,e5,q5⟩:=Nh m5 Ir;obtain⟨ns,e6,q6⟩:=iX _ m6;obtain⟨b,e7⟩:=bA m7 dk;cases e0;cases e1;cases e2;cases e3;cases e4;cases e5;cases e6;cases e7;exact⟨⟨k0,k1,k2,k3,k4,t,ns.l,b⟩,ns.r,rfl,q5⟩
theorem kE(ys:List AV)(h:TT I5 ys):∃x:Ac,ys=x.c∧x.op.ok:=by
 obtain⟨hl,hf⟩:=h.struct_inv Td
 match ys,hl with
 |[a0,a1,a2,a3,a4,a5,a6,a7,a8,a9,b0,b1,b2,b3,b4,b5,b6,b7,b8],_=>
  have m0:=hf _ (List.mem_cons_self);have m1:=hf _ (List.mem_cons_of_mem _ List.mem_cons_self);have m2:=hf _ (List.mem_cons_of_mem _ (List.mem_cons_of_mem _ List.mem_cons_self));have m3:=hf _ (List.mem_cons_of_mem _ (List.mem_cons_of_mem _ (List.mem_cons_of_mem _ List.mem_cons_self)));have m4:=hf _ (List.mem_cons_of_mem _ (List.mem_cons_of_mem _ (List.mem_cons_of_mem _ (List.mem_cons_of_mem _ List.mem_cons_self))));have m5:=hf _ (List.mem_cons_of_mem _ (List.mem_cons_of_mem _ (List.mem_cons_of_mem _ (List.mem_cons_of_mem _ (List.mem_cons_of_mem _ List.mem_cons_self)))));have m6:=hf _ (List.mem_cons_of_mem _ (List.mem_cons_of_mem _ (List.mem_cons_of_mem _ (List.mem_cons_of_mem _ (List.mem_cons_of_mem _ (List.mem_cons_of_mem _ List.mem_cons_self))))));obtain⟨k0,e0,q0⟩:=D3 m0 E6;obtain⟨k1,e1,q1⟩:=D3 m1 E6;obtain⟨o,e2,q2,q3,q4⟩:=kR _ m2
  obtain⟨r,rt,e3,_⟩:=g0 _ m3;obtain⟨k4,e4,_⟩:=D3 m4 E6;obtain⟨k5,e5,_⟩:=D3 m5 E6;obtain⟨k6,e6,_⟩:=D3 m6 E6;cases e0;cases e1;cases e4;cases e5;cases e6;simp[OpN.c] at e2;simp[A6.c] at e3;obtain⟨rfl,rfl,rfl,rfl,rfl,rfl⟩:=e2;obtain⟨rfl,rfl,rfl,rfl,rfl,rfl,rfl,rfl⟩:=e3;exact⟨⟨k0,k1,o,r,rt,k4,k5,k6⟩,rfl,q2⟩
end Go.Av
