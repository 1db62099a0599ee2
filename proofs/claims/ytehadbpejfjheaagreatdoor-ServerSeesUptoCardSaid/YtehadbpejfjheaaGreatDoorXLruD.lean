/- Parts of the proofs of this seat: abstract values over the model, and what the functions of the program do. No condition. -/
import Derived.Test.YtehadbpejfjheaaGreatDoorD0
import Derived.Test.YtehadbpejfjheaaGreatDoorX07L
import Derived.Test.YtehadbpejfjheaaGreatDoorXSplit
set_option linter.all false
set_option maxRecDepth 100000
namespace Go.Av
structure Ap where
 epoch:Int
 there:Bool
 f:Fnd
 r:Rt
 target:Str
def Ap.c(x:Ap):List AV:=[.int .i64 x.epoch,.bool x.there,.int .i64 x.f.kind,.int .i64 x.f.sp.1,.int .i64 x.f.sp.2,.vs 2 (x.f.dirs.map spC) x.r.strip,.str x.target]
theorem Ap.c_eq(x:Ap):x.c=[.int .i64 x.epoch,.bool x.there,.int .i64 x.f.kind,.int .i64 x.f.sp.1,.int .i64 x.f.sp.2,.vs 2 (x.f.dirs.map spC) x.r.strip,.str x.target]:=rfl
def Ap.o:Ap:=⟨0,false,Fnd.none,.nil,[]⟩
def Fg(r:Int):Int:=if 1 > r then 1 else r
theorem gE(r:Int):1≤Fg r:=by unfold Fg;split<;>omega
def PrD(x:Str×Ap):List AV:=.str x.1::x.2.c
theorem Lb(x:Str×Ap):(PrD x).length=8:=rfl
theorem ME(x:Str×Ap):(PrD x).map AV.strip1=PrD x:=by simp[PrD,Ap.c]
theorem aR(x:Str×Ap):(AV.agg (PrD x)).free=true:=by simp[PrD,Ap.c]
theorem bS(x:Str×Ap):∀y∈PrD x,y.free1=true:=by
 have:=aR x;simpa using this
structure Lw(S:St)(id:Nat)(o:Option Nat)(room:Int)(l:List (Str×Ap)):Prop where
 obj:∃x,S[id]? =some (.cells [.int .i64 room,x] BY)∧Fb PrD 8 S x l o
 ful:∀j,o=some j→l≠[]
theorem Lw.ne{S:St}{id:Nat}{o:Option Nat}{room:Int}{l:List (Str×Ap)}(h:Lw S id o room l):o≠some id:=by
 rintro rfl;obtain⟨x,h1,h2⟩:=h.obj;have h3:=h2.2;rw[h1] at h3;simp at h3
theorem Lw.chg{S S':St}{id:Nat}{o:Option Nat}{room:Int}{l:List (Str×Ap)}{ids:List Nat}(h:Lw S id o room l)(k:Cg ids S S')(h1:id ∉ ids)(h2:∀j,o=some j→j ∉ ids):Lw S' id o room l:=by
 obtain⟨x,e1,e2⟩:=h.obj;refine⟨⟨x,k.get e1 h1,e2.mono fun j hj=>?_⟩,h.ful⟩
 subst hj;exact k.2 j e2.lt (h2 j rfl)
theorem aO{w0:World}{S:St}{room:Int}{Q:AV→St→Prop}(hq:∀S',Sx S S'→S'.length=S.length+1→Lw S' S.length none (Fg room) []→Q (.ptr S.length 0) S'):AC w0 EL [.int .i64 room] S Q:=by
 apply I1;unfold Fk;simp;exact hq _ (Sx.app S _) (by simp) ⟨⟨_,by simp[Fg],rfl,rfl⟩,fun j hj=>by cases hj⟩
theorem Lw.loads{S:St}{id:Nat}{o:Option Nat}{room:Int}{l:List (Str×Ap)}(h:Lw S id o room l):∃x,S[id]? =some (.cells [.int .i64 room,x] BY)∧Fb PrD 8 S x l o∧AI AU S (.ptr id 1)=some x∧AI Ak S (.ptr id 0)=some (.int .i64 room)∧x.strip=x∧x.strip0=x∧A6 x=some (.int .i64 l.length)∧stripMem S (.ptr id 1)=S:=by
 obtain⟨x,h1,h2⟩:=h.obj;have hs:=h2.strip;have hx1:x.strip1=x:=by
  cases o with
  |none=>obtain⟨rfl,_⟩:=h2;rfl
  |some j=>obtain⟨rfl,_⟩:=h2;rfl
 have hx0:x.strip0=x:=by
  cases o with
  |none=>obtain⟨rfl,_⟩:=h2;rfl
  |some j=>obtain⟨rfl,_⟩:=h2;rfl
 refine⟨x,h1,h2,by rw[Ac h1];rfl,by rw[Ac h1];rfl,hs.1,hx0,hs.2.2.2,?_⟩
 rw[E6 h1];obtain⟨hlt,he⟩:=List.getElem?_eq_some_iff.1 h1;rw[show List.modify [AV.int .i64 room,x] 1 AV.strip1=[AV.int .i64 room,x] by simp[List.modify,List.modifyTailIdx,List.modifyTailIdx.go,hx1],←he,List.set_getElem_self]
theorem aU{w0:World}{S:St}{id:Nat}{o:Option Nat}{room:Int}{l:List (Str×Ap)}(h:Lw S id o room l){Q:AV→St→Prop}(hq:Q (.int .i64 l.length) S):AC w0 Dg [.ptr id 0] S Q:=by
 obtain⟨x,h1,h2,h3,h4,h5,h6,h7,h8⟩:=h.loads;apply Gx;unfold Ep;simp[h3,h5,h7];exact hq
def pV(l:List (Str×Ap))(k:Str)(i:Nat):Prop:=∀j y,j < i→l[j]? =some y→y.1≠k
theorem SR{w0:World}{S:St}{id:Nat}{o:Option Nat}{room:Int}{l:List (Str×Ap)}(h:Lw S id o room l)(hl:l.length≤1000000){k:Str}{Q:AV→St→Prop}
  (hq:Q (.int .i64 (match Jv l k with|some i=>(i:Int)|none=>-1)) S):AC w0 Cd [.ptr id 0,.str k] S Q:=by
 obtain⟨x,h1,h2,h3,h4,h5,h6,h7,h8⟩:=h.loads;apply Gc;unfold EW;rw[AO];simp only[Nat.zero_add,h3,h5,h7,AF];refine BN l (fun i (_:Unit)=>([.int .i64 i],[])) (fun i _ S'=>S'=S∧pV l k i) () (by simp) ⟨rfl,fun j y hj=>by omega⟩ ?_ ?_
 ·rintro i _ S' v bx y c hxi hd hc hmem ⟨rfl,ht⟩ hv;simp at hv;obtain⟨oid,rfl⟩:=h2.is_some (fun e=>by rw[e] at hmem;cases hmem)
  have hT:AD.size=8:=rfl;have hix:=h2.idx hT c (k:=.i64);have hld:=h2.load Lb hT rfl hxi;have hf:=bS y;have hfl:AZ AD (some AD.zero) 0 (.agg (PrD y))=some (PrD y):=by
   simp[AZ,BS,A9,PrD,Ap.c]
  have hst:(AV.agg (PrD y)).strip= .agg (PrD y):=by simp[ME]
  have hg:AB AH (some (PrD y)) 0=some (.str y.1):=rfl;simp only[hv,hc,GL,AF,decide_true,Cf,hix,hld,hst,hfl,hg]
  by_cases ck:y.1=k
  ·have e:Jv l k=some i:=by
    unfold Jv;rw[List.findIdx?_eq_some_iff_getElem];refine⟨c,by rw[(List.getElem?_eq_some_iff.1 hxi).2];simpa using ck,fun j hj=>?_⟩
    have:=ht j (l[j]'(by omega)) hj (by simp[show j < l.length by omega])
    simpa using this
   rw[e] at hq;simp[ck];exact hq
  ·simp[ck]
   try simp (disch:=omega) only[wrap64]
   refine .next c () (by simp) ⟨rfl,fun j z hj hz=>?_⟩
   by_cases e:j=i
   ·subst e;rw[hxi] at hz;cases hz;exact ck
   ·exact ht j z (by omega) hz
 ·rintro _ S' v bx ⟨rfl,ht⟩ hv N;simp at hv;have e:Jv l k=none:=by
   unfold Jv;rw[List.findIdx?_eq_none_iff];intro y hy;obtain⟨j,hj,e⟩:=List.mem_iff_getElem.1 hy;have:=ht j y hj (by rw[←e];simp[hj])
   simpa using this
  rw[e] at hq;simp[hv];exact hq
theorem QJ{w0:World}{S:St}{id oid:Nat}{room:Int}{l:List (Str×Ap)}(h:Lw S id (some oid) room l){i:Nat}(hi:i < l.length)(hl:l.length≤1000000){x:Str×Ap}{Q:AV→St→Prop}
  (hq:∀S',Cg [oid] S S'→Lw S' id (some oid) room (x::l.eraseIdx i)→Q (.tup []) S'):AC w0 CU [.ptr id 0,.agg (PrD x),.int .i64 i] S Q:=by
 have hne:=h.ne;have hne2:id≠oid:=fun e=>hne (by rw[e])
 obtain⟨y,h1,h2,h3,h4,h5,h6,h7,h8⟩:=h.loads;have hT:AD.size=8:=rfl;obtain⟨d,s,p,c1,c2,c3⟩:=Yf hT Lb ME h2 hi;have w1:IntKind.i64.wrap ((i:Int)+1)=(i:Int)+1:=wrap64 (by omega) (by omega)
 obtain⟨hy,hS⟩:=h2;subst hy;have hlo:oid < S.length:=(List.getElem?_eq_some_iff.1 hS).1;have hx:PrD x= .str x.1::x.2.c:=rfl;have hbx:CC AD (.agg (PrD x))=some (PrD x):=by simp[CC,PrD,Ap.c]
 unfold PrD Ap.c;apply GI;unfold EO;have hxx:(.str x.1::x.2.c)=PrD x:=rfl;unfold Ap.c at hxx;rw[hxx,hbx];generalize hS1:S.set oid (.cells (A9 (Ab PrD l) 8 (Ab PrD (l.take i))) 0)=S1 at c3;have g1:S1[id]? =some (.cells [.int .i64 room,.rs 8 oid 0 l.length] BY):=by rw[←hS1,As (fun e=>hne2 e.symm)];exact h1
 have g2:S1[oid]? =some (.cells (A9 (Ab PrD l) 8 (Ab PrD (l.take i))) 0):=by rw[←hS1];exact Al hS
 have g3:AI AU S1 (.ptr id 1)=some (.rs 8 oid 0 l.length):=by rw[Ac g1];rfl
 have hll:AB AD (some (PrD x)) 0=some (.agg (PrD x)):=by simp[AB,Dv,PrD,Ap.c]
 have hix:Ae AD (.rs 8 oid 0 l.length) (.int .i64 0)=some (.ptr oid 0):=by
  have:l≠[]:=by rintro rfl;simp at hi
  simp[Ae,this]
 have hst:(AV.agg (PrD x)).strip= .agg (PrD x):=by simp[ME]
 have hlen:(A9 (Ab PrD l) 8 (Ab PrD (l.take i))).length=l.length*8:=by
  have e1:=C6 Lb l;have e2:=C6 Lb (l.take i);rw[List.length_take] at e2;simp only[A9,List.length_append,List.length_take,List.length_drop,e1,e2];omega
 have hsto:Bn AD S1 (.ptr oid 0) (.agg (PrD x))=some (S1.set oid (.cells (Ab PrD (x::l.eraseIdx i)) 0)):=by
  rw[Be g2];have hf:=aR x;have hcl:(AV.agg (PrD x)).cells=PrD x:=rfl;have hle:0+AD.size≤(A9 (Ab PrD l) 8 (Ab PrD (l.take i))).length:=by rw[hlen,hT];omega
  have hpl:(PrD x).length=AD.size:=rfl;simp only[BS,hf,hcl,hpl,hle,and_self,if_true,Option.map_some];rw[T6 Lb l hi x]
 simp only[Nat.zero_add,h3,h5,AF,w1,c1,c2,c3,g3,hll,hix,hst,hsto];have hSS:S1.set oid (.cells (Ab PrD (x::l.eraseIdx i)) 0)=S.set oid (.cells (Ab PrD (x::l.eraseIdx i)) 0):=by rw[←hS1,List.set_set]
 rw[hSS];refine hq _ (Cg.set (by simp)) ⟨⟨.rs 8 oid 0 (x::l.eraseIdx i).length,?_,rfl,Al hS⟩,fun _ _=>by simp⟩
 rw[As (fun e=>hne2 e.symm),h1]
 have:(x::l.eraseIdx i).length=l.length:=by simp[List.length_eraseIdx,hi];omega
 rw[this]
theorem Vg{id:Nat}{x:Str×Ap}{i:Int}:CD [.ptr id 0,.agg (PrD x),.int .i64 i]=some [.ptr id 0,.agg (PrD x),.int .i64 i]:=by
 simp[CD,ME];exact bS x
theorem aM{w0:World}{S:St}{id:Nat}{o:Option Nat}{room:Int}{l:List (Str×Ap)}(h:Lw S id o room l)(hl:l.length≤1000000){k:Str}{Q:AV→St→Prop}
  (hq:∀S',Cg o.toList S S'→Lw S' id o room (C9 l k).2→Q (.tup [.agg (((C9 l k).1.getD Ap.o).c),.bool (C9 l k).1.isSome]) S'):AC w0 Da [.ptr id 0,.str k] S Q:=by
 obtain⟨y,h1,h2,h3,h4,h5,h6,h7,h8⟩:=h.loads;apply Gt;unfold Eo;refine SR h hl ?_;cases hf:Jv l k with
 |none=>
  have e:C9 l k=(none,l):=by simp[C9,hf]
  rw[e] at hq;have:=hq S (Cg.refl _ _) h;simp;simpa[Ap.c,Ap.o,Fnd.none] using this
 |some i=>
  obtain⟨x,hx,hk,hi⟩:=I0 hf;have e:C9 l k=(some x.2,x::l.eraseIdx i):=by simp[C9,hf,hx]
  rw[e] at hq;obtain⟨oid,rfl⟩:=h2.is_some (fun e=>by rw[e] at hi;simp at hi)
  have hT:AD.size=8:=rfl;have hix:=h2.idx hT hi (k:=.i64);have hld:=h2.load Lb hT rfl hx;have hst:(AV.agg (PrD x)).strip= .agg (PrD x):=by simp[ME]
  have hll:AB AD (some (PrD x)) 0=some (.agg (PrD x)):=by simp[AB,Dv,PrD,Ap.c]
  have hfl:AZ AD (some AD.zero) 0 (.agg (PrD x))=some (PrD x):=by
   simp[AZ,BS,A9,PrD,Ap.c]
  have hneg:¬((i:Int) < 0):=by omega
  have hl2:AB AJ (some (PrD x)) 1=some (.agg x.2.c):=by simp[AB,Dv,PrD,Ap.c]
  have hs2:AZ AJ (some AJ.zero) 0 (.agg x.2.c)=some x.2.c:=by simp[AZ,BS,A9,Ap.c]
  have hl3:AB AJ (some x.2.c) 0=some (.agg x.2.c):=by simp[AB,Dv,Ap.c]
  have hst2:(AV.agg x.2.c).strip= .agg x.2.c:=by simp[Ap.c]
  simp only[Nat.zero_add,CG,GL,AF,hneg,decide_false,CP,h3,h5,hix,hld,hst,hfl,hll,AX,Vg];refine QJ h hi hl (fun S' hC hL=>?_)
  have:=hq S' (by simpa using hC) hL
  simp only[hl2,hs2,hl3,hst2,AF,Option.map_some];simpa using this
theorem Ws{S:St}{x:AV}{l:List (Str×Ap)}{o:Option Nat}(h:Fb PrD 8 S x l o)(hl:l.length≤1000000):
  ∃x' S' o',appendR AD S x (.vs 8 [PrD ([],Ap.o)] .full)=some (x',S')∧Fb PrD 8 S' x' (l++[([],Ap.o)]) o'∧(∀j,j < S.length→o≠some j→S'[j]? =S[j]?)∧S.length≤S'.length∧(∀j,o'=some j→o=some j∨S.length≤j):=
 h.append Lb (T:=AD) rfl (m:=[([],Ap.o)]) (by simp[BO]) (by simp[lim];omega)
theorem aE{w0:World}{S:St}{id:Nat}{o:Option Nat}{room:Int}{l:List (Str×Ap)}(h:Lw S id o room l)(hl:l.length≤900000)(hroom:1≤room){k:Str}{v:Ap}{Q:AV→St→Prop}
  (hq:∀S' o' g b,Cg (id::o.toList) S S'→(∀j,o'=some j→o=some j∨S.length≤j)→Lw S' id o' room (Pi room l k v)→Q (.tup [.str g,.bool b]) S'):AC w0 DZ [.ptr id 0,.str k,.agg v.c] S Q:=by
 obtain⟨y,h1,h2,h3,h4,h5,h6,h7,h8⟩:=h.loads;have hT:AD.size=8:=rfl;have hbx:CC AJ (.agg v.c)=some v.c:=by simp[CC,Ap.c]
 unfold Ap.c;apply Gp;unfold Ef;have hvx:[AV.int .i64 v.epoch]++v.c.drop 1=v.c:=rfl;unfold Ap.c at hbx;rw[hbx];simp only[AF];refine SR h (by omega) ?_
 have hl3:AB AJ (some v.c) 0=some (.agg v.c):=by simp[AB,Dv,Ap.c]
 have hst3:(AV.agg v.c).strip= .agg v.c:=by simp[Ap.c]
 have hbd:By AD 1 [(0,.str k),(1,.agg v.c)]=some (.agg (PrD (k,v))):=by simp[By,Md,A9,PrD,Ap.c]
 unfold Ap.c at hl3 hst3 hbd;refine DX (fun j=>∀(g:Str) (b:Bool) (i:Nat) (S1:St) (o1:Option Nat) (l1:List (Str×Ap)),Cg (id::o.toList) S S1→(∀j,o1=some j→o=some j∨S.length≤j)→i < l1.length→l1.length≤1000000→Lw S1 id o1 room l1→(k,v)::l1.eraseIdx i=Pi room l k v→j (.str g) (.bool b) (.int .i64 i) S1) ?_ (fun j hj=>?_)
 ·intro g b i S1 o1 l1 hC1 ho1 hi hl1 hL1 he;obtain⟨y1,_,r2,_⟩:=hL1.loads;obtain⟨oid,rfl⟩:=r2.is_some (fun e=>by rw[e] at hi;simp at hi)
  simp only[hl3,hst3,hbd,AF,CG,AX,Vg];refine QJ hL1 hi hl1 (fun S' hC hL=>?_)
  rw[he] at hL;have hC2:Cg (id::o.toList) S S':=by
   refine⟨Nat.le_trans hC1.1 hC.1,fun j hj hn=>?_⟩
   rw[hC.2 j (Nat.lt_of_lt_of_le hj hC1.1) (fun hm=>?_),hC1.2 j hj hn]
   simp at hm;subst hm;rcases ho1 j rfl with h|h
   ·simp[h] at hn
   ·omega
  have:=hq S' (some oid) g b hC2 ho1 hL;simpa using this
 ·cases hf:Jv l k with
  |some i=>
   obtain⟨x,hx,hk,hi⟩:=I0 hf;have hge:(0:Int)≤i:=by omega
   simp[hge];exact hj [] false i S o l (Cg.refl _ _) (fun j hj=>.inl hj) hi (by omega) h (by simp[Pi,hf])
  |none=>
   by_cases c:(l.length:Int) < room
   ·obtain⟨x2,S2,o2,a1,a2,a3,a4,a5⟩:=Ws h2 (by omega)
    have hidl:id < S.length:=(List.getElem?_eq_some_iff.1 h1).1;have g1:S2[id]? =some (.cells [.int .i64 room,y] BY):=by rw[a3 id hidl h.ne];exact h1
    simp[PrD,Ap.c,Ap.o,Fnd.none] at a1;have hxf:=a2.strip.2.1;have hxc:x2.cells=[x2]:=by
     cases o2 with
     |none=>obtain⟨rfl,_⟩:=a2;rfl
     |some j=>obtain⟨rfl,_⟩:=a2;rfl
    have hsto:Bn AU S2 (.ptr id 1) x2=some (S2.set id (.cells [.int .i64 room,x2] BY)):=by
     rw[Be g1];simp[BS,hxc,hxf,A9]
    simp[h3,h4,h5,h6,h7,h8,c,a1,hsto];refine hj [] false l.length _ o2 (l++[([],Ap.o)]) ?_ a5 (by simp) (by simp;omega) ⟨⟨x2,Al g1,a2.mono fun j hj=>?_⟩,fun _ _=>by simp⟩ ?_
    ·refine⟨by simpa using a4,fun j hj hn=>?_⟩
     simp at hn;rw[As (fun e=>hn.1 e.symm),a3 j hj (fun e=>hn.2 e)]
    ·subst hj;refine As (fun e=>?_)
     subst e;rcases a5 id rfl with e|e
     ·exact h.ne e
     ·omega
    ·have:(l++[([],Ap.o)]).eraseIdx l.length=l:=by
      rw[List.eraseIdx_append_of_length_le (Nat.le_refl _)];simp
     rw[this];simp[Pi,hf,c]
   ·have hpos:0 < l.length:=by omega
    obtain⟨oid,rfl⟩:=h2.is_some (fun e=>by rw[e] at hpos;simp at hpos)
    obtain⟨z,hz⟩:∃z,l[l.length - 1]? =some z:=⟨l[l.length - 1]'(by omega),by rw[List.getElem?_eq_getElem]⟩
    have hix:=h2.idx hT (i:=l.length - 1) (by omega) (k:=.i64)
    have hcl:=h2.cell Lb (T:=AH) rfl hz (k:=0) (by omega)
    have hcz:(PrD z)[0]? =some (.str z.1):=rfl;have w1:IntKind.i64.wrap ((l.length:Int) - 1)=((l.length - 1:Nat):Int):=by rw[wrap64 (by omega) (by omega)];omega
    simp only[Nat.add_zero] at hcl;simp[h3,h4,h5,h7,c,w1,hix,hcl,hcz,Bd];exact hj z.1 true (l.length - 1) S (some oid) l (Cg.refl _ _) (fun j hj=>.inl hj) (by omega) (by omega) h (by simp[Pi,hf,c])
structure ShD(S:St)(p:Nat)(fp:List Nat)(room:Int)(sh:List (List (Str×Ap))):Prop where
 ex:∃(q:Nat) (ids:List Nat) (os:List (Option Nat)),fp=p::q::(ids++os.flatMap Option.toList)∧S[p]? =some (.cells [.rs 1 q 0 ids.length] Bc)∧S[q]? =some (.cells (ids.map fun i=>.ptr i 0) 0)∧ids.length=sh.length∧os.length=sh.length∧ids.Nodup∧
  (∀i j o:Nat,os[i]? =some (some o)→os[j]? =some (some o)→i=j)∧∀(i id:Nat) (o:Option Nat) (l:List (Str×Ap)),ids[i]? =some id→os[i]? =some o→sh[i]? =some l→Lw S id o room l
 pos:1≤sh.length
 few:sh.length≤256
theorem ShD.fps{S:St}{p:Nat}{fp:List Nat}{room:Int}{sh:List (List (Str×Ap))}(h:ShD S p fp room sh):∀j∈fp,∃ob,S[j]? =some ob∧Ni ob∧∀cs tg,ob= .cells cs tg→tg=0∨tg=Bc∨tg=BY:=by
 obtain⟨q,ids,os,rfl,h1,h2,h3,h4,h5,h6,h7⟩:=h.ex;have hpos:=h.pos;intro j hj;simp only[List.mem_cons,List.mem_append,List.mem_flatMap] at hj;have ptr_ne:∀T:List Ino,(ids.map fun i=>AV.ptr i 0)≠Ab Ino.c T:=by
  intro T e;cases ids with
  |nil=>simp at h3;omega
  |cons a ids=>
   cases T with
   |nil=>simp[Ab] at e
   |cons t T=>simp[Ab,Ino.c] at e
 rcases hj with rfl|rfl|hj|⟨o,ho,hj⟩
 ·exact⟨_,h1,Gd (by decide) (by simp),fun cs tg e=>by cases e;exact .inr (.inl rfl)⟩
 ·exact⟨_,h2,⟨by decide,fun⟨T,e⟩=>ptr_ne T e⟩,fun cs tg e=>by cases e;exact .inl rfl⟩
 ·obtain⟨i,hi,rfl⟩:=List.mem_iff_getElem.1 hj;obtain⟨x,e1,_⟩:=(h7 i ids[i] os[i] sh[i] (by simp[hi]) (by simp[show i < os.length by omega]) (by simp[show i < sh.length by omega])).obj
  exact⟨_,e1,Gd (by decide) (by simp),fun cs tg e=>by cases e;exact .inr (.inr rfl)⟩
 ·obtain⟨i,hi,rfl⟩:=List.mem_iff_getElem.1 ho;simp at hj;have hL:=h7 i (ids[i]'(by omega)) (some j) (sh[i]'(by omega)) (by simp[show i < ids.length by omega]) (by simp[hi,hj]) (by simp[show i < sh.length by omega])
  obtain⟨x,_,e2⟩:=hL.obj;refine⟨_,e2.2,⟨by decide,fun⟨T,e⟩=>?_⟩,fun cs tg e=>by cases e;exact .inl rfl⟩
  have hne:=hL.ful j rfl;generalize sh[i]'(by omega)=l at e hne
  cases l with
  |nil=>exact hne rfl
  |cons a l=>
   cases T with
   |nil=>simp[Ab,PrD] at e
   |cons t T=>simp[Ab,Ino.c,PrD] at e
theorem ShD.lt{S:St}{p:Nat}{fp:List Nat}{room:Int}{sh:List (List (Str×Ap))}(h:ShD S p fp room sh):∀j∈fp,j < S.length:=fun j hj=>by
 obtain⟨ob,e,_⟩:=h.fps j hj;exact(List.getElem?_eq_some_iff.1 e).1
theorem ShD.chg{S S':St}{p:Nat}{fp ids':List Nat}{room:Int}{sh:List (List (Str×Ap))}(h:ShD S p fp room sh)(k:Cg ids' S S')(hx:∀j∈fp,j ∉ ids'):ShD S' p fp room sh:=by
 obtain⟨q,ids,os,rfl,h1,h2,h3,h4,h5,h6,h7⟩:=h.ex;refine⟨⟨q,ids,os,rfl,k.get h1 (hx p (by simp)),k.get h2 (hx q (by simp)),h3,h4,h5,h6,fun i id o l e1 e2 e3=>(h7 i id o l e1 e2 e3).chg k (hx id (by simp[List.mem_of_getElem? e1])) fun j hj=>hx j ?_⟩,h.pos,h.few⟩
 simp only[List.mem_cons,List.mem_append,List.mem_flatMap];exact .inr (.inr (.inr ⟨o,List.mem_of_getElem? e2,by simp[hj]⟩))
theorem NU{w0:World}{S:St}{p:Nat}{fp:List Nat}{room:Int}{sh:List (List (Str×Ap))}(h:ShD S p fp room sh){k:Str}(hk:k.length≤1000000000){Q:AV→St→Prop}(hq:Q (.int .i64 (ofK sh.length k:Nat)) S):AC w0 Cl [.ptr p 0,.str k] S Q:=by
 obtain⟨q,ids,os,rfl,h1,h2,h3,h4,h5,h6,h7⟩:=h.ex;have hpos:=h.pos;have hfew:=h.few;obtain⟨r1,r2⟩:=WZ k;apply Ib;unfold Fe;have hld:AI AM S (.ptr p 0)=some (.rs 1 q 0 ids.length):=by rw[Ac h1];rfl
 have hln:A6 (.rs 1 q 0 ids.length)=some (.int .i64 ids.length):=rfl;have hcv:Cq .u32 (.int .i64 (ids.length:Int))=some (.int .u32 (ids.length:Int)):=by
  simp only[Cq];rw[i6 (by omega) (by omega)]
 have hne:¬((ids.length:Int)=0):=by omega
 have hrm:AP .rem (.int .u32 (ZO k)) (.int .u32 (ids.length:Int))=some (.int .u32 ((ofK sh.length k:Nat):Int)):=by
  have e:(ZO k).tmod (ids.length:Int)=((ofK sh.length k:Nat):Int):=by
   rw[Int.tmod_eq_emod_of_nonneg r1,h3];unfold ofK;rw[Int.natCast_emod,Int.toNat_of_nonneg r1]
  simp only[AP,GN,if_true,hne,if_false,e]
 have hof:=Gr hpos k;have hc2:Cq .i64 (.int .u32 ((ofK sh.length k:Nat):Int))=some (.int .i64 ((ofK sh.length k:Nat):Int)):=by
  simp only[Cq];rw[wrap64 (by omega) (by omega)]
 simp only[Nat.zero_add,hld,Ey,hln,hcv,AF];refine Uc hk ?_;simp only[hld,Ey,AF,hrm,hc2];exact⟨trivial,hq⟩
theorem ShD.at_{S:St}{p q:Nat}{ids:List Nat}{i id:Nat}(h2:S[q]? =some (.cells (ids.map fun i=>.ptr i 0) 0))(hi:ids[i]? =some id):
  Ae Ad (.rs 1 q 0 ids.length) (.int .i64 (i:Nat))=some (.ptr q i)∧AI Ad S (.ptr q i)=some (.ptr id 0):=by
 have hlt:=(List.getElem?_eq_some_iff.1 hi).1;refine⟨?_,?_⟩
 ·have:(i:Int) < ids.length:=by omega
  simp[Ae,this]
 ·rw[Ac h2];simp[Dv,hi]
theorem ShD.step{S S':St}{p:Nat}{room:Int}{sh:List (List (Str×Ap))}{q:Nat}{ids:List Nat}{os:List (Option Nat)}{i id:Nat}{o o':Option Nat}{l l':List (Str×Ap)}(hp:1≤sh.length)(hf:sh.length≤256)
  (h1:S[p]? =some (.cells [.rs 1 q 0 ids.length] Bc)) (h2:S[q]? =some (.cells (ids.map fun i=>.ptr i 0) 0)) (h3:ids.length=sh.length) (h4:os.length=sh.length) (h5:ids.Nodup)
  (h6:∀i j o:Nat,os[i]? =some (some o)→os[j]? =some (some o)→i=j) (h7:∀(i id:Nat) (o:Option Nat) (l:List (Str×Ap)),ids[i]? =some id→os[i]? =some o→sh[i]? =some l→Lw S id o room l)
  (e1:ids[i]? =some id) (e2:os[i]? =some o) (e3:sh[i]? =some l) (hC:Cg (id::o.toList) S S') (ho:∀j,o'=some j→o=some j∨S.length≤j) (hL:Lw S' id o' room l'):
  ShD S' p (p::q::(ids++(os.set i o').flatMap Option.toList)) room (sh.set i l')∧Cg (p::q::(ids++os.flatMap Option.toList)) S S'∧∀j∈p::q::(ids++(os.set i o').flatMap Option.toList),j∈p::q::(ids++os.flatMap Option.toList)∨S.length≤j:=by
 have hi:i < ids.length:=(List.getElem?_eq_some_iff.1 e1).1;have hLi:=h7 i id o l e1 e2 e3;obtain⟨x,g1,g2⟩:=hLi.obj;have hpn:p≠id:=by rintro rfl;exact H4 h1 g1 (by decide)
 have hqn:q≠id:=by rintro rfl;exact H4 h2 g1 (by decide)
 have hrow:∀j,o=some j→p≠j∧q≠j∧∀k∈ids,k≠j:=by
  rintro j rfl;have g3:=g2.2;refine⟨?_,?_,?_⟩
  ·rintro rfl;exact H4 h1 g3 (by decide)
  ·rintro rfl;rw[h2] at g3;have hne:=hLi.ful q rfl;cases ids with
   |nil=>simp at hi
   |cons a ids=>
    cases l with
    |nil=>exact hne rfl
    |cons b l=>simp[Ab,PrD] at g3
  ·intro k hk e;subst e;obtain⟨m,hm,e⟩:=List.mem_iff_getElem.1 hk;obtain⟨x2,g4,_⟩:=(h7 m ids[m] (os[m]'(by omega)) (sh[m]'(by omega)) (by simp[hm]) (by simp[show m < os.length by omega]) (by simp[show m < sh.length by omega])).obj
   rw[e] at g4;exact H4 g3 g4 (by decide)
 have nin:∀j,j≠id→(∀k,o=some k→j≠k)→j ∉ id::o.toList:=by
  intro j n1 n2 hm;simp at hm;rcases hm with rfl|hm
  ·exact n1 rfl
  ·exact n2 j hm rfl
 have kp:=hC.get h1 (nin p hpn fun k hk=>(hrow k hk).1)
 have kq:=hC.get h2 (nin q hqn fun k hk=>(hrow k hk).2.1)
 refine⟨⟨⟨q,ids,os.set i o',rfl,kp,kq,by simpa using h3,by simpa using h4,h5,?_,?_⟩,by simpa using hp,by simpa using hf⟩,hC.sub ?_,?_⟩
 ·have key:∀a b ob,a≠i→(os.set i o')[a]? =some (some ob)→(os.set i o')[b]? =some (some ob)→a=b:=by
   intro a b ob ha ea eb;rw[List.getElem?_set_ne (fun e=>ha e.symm)] at ea
   by_cases hb:b=i
   ·subst hb;rw[List.getElem?_set_self (by omega)] at eb
    cases eb;rcases ho ob rfl with rfl|hge
    ·exact h6 a b ob ea e2
    ·exfalso;have hal:=(List.getElem?_eq_some_iff.1 ea).1;obtain⟨x2,_,g5⟩:=(h7 a (ids[a]'(by omega)) (some ob) (sh[a]'(by omega)) (by simp[show a < ids.length by omega]) ea (by simp[show a < sh.length by omega])).obj
     have:=g5.lt;omega
   ·rw[List.getElem?_set_ne (fun e=>hb e.symm)] at eb
    exact h6 a b ob ea eb
  intro a b ob ea eb
  by_cases ha:a=i
  ·by_cases hb:b=i
   ·rw[ha,hb]
   ·exact(key b a ob hb eb ea).symm
  ·exact key a b ob ha ea eb
 ·intro a ida oa la ea eb ec
  by_cases ha:a=i
  ·subst ha;rw[List.getElem?_set_self (by omega)] at eb ec
   rw[e1] at ea;cases ea;cases eb;cases ec;exact hL
  ·rw[List.getElem?_set_ne (fun e=>ha e.symm)] at eb ec
   refine(h7 a ida oa la ea eb ec).chg hC (nin ida (fun e=>ha ?_) fun k hk=>(hrow k hk).2.2 ida (List.mem_of_getElem? ea)) fun j hj=>nin j (fun e=>?_) fun k hk e=>?_
   ·subst e;obtain⟨ha2,ea2⟩:=List.getElem?_eq_some_iff.1 ea;obtain⟨hi2,ei2⟩:=List.getElem?_eq_some_iff.1 e1;exact(List.getElem_inj h5).1 (ea2.trans ei2.symm)
   ·subst hj;subst e;obtain⟨x2,_,g5⟩:=(h7 a ida _ la ea eb ec).obj;exact H4 g5.2 g1 (by decide)
   ·subst hj;subst hk;subst e;exact ha (h6 a i j eb e2)
 ·intro j hj;simp only[List.mem_cons,List.mem_append,List.mem_flatMap] at hj ⊢;rcases hj with rfl|hj
  ·exact .inr (.inr (.inl (List.mem_of_getElem? e1)))
  ·exact .inr (.inr (.inr ⟨o,List.mem_of_getElem? e2,hj⟩))
 ·intro j hj;simp only[List.mem_cons,List.mem_append,List.mem_flatMap] at hj ⊢;rcases hj with rfl|rfl|hj|⟨ob,hob,hj⟩
  ·exact .inl (.inl rfl)
  ·exact .inl (.inr (.inl rfl))
  ·exact .inl (.inr (.inr (.inl hj)))
  ·rcases List.mem_or_eq_of_mem_set hob with hob|rfl
   ·exact .inl (.inr (.inr (.inr ⟨ob,hob,hj⟩)))
   ·simp at hj;rcases ho j hj with h|h
    ·exact .inl (.inr (.inr (.inr ⟨o,List.mem_of_getElem? e2,by simp[h]⟩)))
    ·exact .inr h
theorem P7{w0:World}{S:St}{p:Nat}{fp:List Nat}{room:Int}{sh:List (List (Str×Ap))}(h:ShD S p fp room sh)(hl:∀l∈sh,l.length≤1000000){k:Str}(hk:k.length≤1000000000){Q:AV→St→Prop}
  (hq:∀S' fp' i l,i=ofK sh.length k→sh[i]? =some l→Cg fp S S'→(∀j∈fp',j∈fp∨S.length≤j)→ShD S' p fp' room (sh.set i (C9 l k).2)→Q (.tup [.agg (((C9 l k).1.getD Ap.o).c),.bool (C9 l k).1.isSome]) S'):AC w0 DE [.ptr p 0,.str k] S Q:=by
 have h0:=h;obtain⟨q,ids,os,rfl,h1,h2,h3,h4,h5,h6,h7⟩:=h.ex;have hpos:=h.pos;have hof:=Gr hpos k;have e1:ids[ofK sh.length k]? =some (ids[ofK sh.length k]'(by omega)):=by rw[List.getElem?_eq_getElem]
 have e2:os[ofK sh.length k]? =some (os[ofK sh.length k]'(by omega)):=by rw[List.getElem?_eq_getElem]
 have e3:sh[ofK sh.length k]? =some (sh[ofK sh.length k]'(by omega)):=by rw[List.getElem?_eq_getElem]
 generalize ids[ofK sh.length k]'(by omega)=id at e1
 generalize os[ofK sh.length k]'(by omega)=o at e2
 generalize sh[ofK sh.length k]'(by omega)=l at e3
 apply IE;unfold FC;have hld:AI AM S (.ptr p 0)=some (.rs 1 q 0 ids.length):=by rw[Ac h1];rfl
 obtain⟨a1,a2⟩:=ShD.at_ (S:=S) (p:=p) h2 e1;simp only[Nat.zero_add,hld,Ey,AF];refine NU h0 hk ?_;have hca:CD [.ptr id 0,.str k]=some [.ptr id 0,.str k]:=by simp[CD]
 simp only[hld,Ey,AF,a1,a2,Bq,AX,hca,true_and];refine aM (h7 _ id o l e1 e2 e3) (hl l (List.mem_of_getElem? e3)) (fun S' hC hL=>?_)
 obtain⟨k1,k2,k3⟩:=ShD.step hpos h.few h1 h2 h3 h4 h5 h6 h7 e1 e2 e3 (hC.sub fun j hj=>by simp at hj ⊢;exact .inr hj) (fun j hj=>.inl hj) hL
 have:=hq S' _ _ l rfl e3 k2 k3 k1;have hs2:∀v:Ap,AZ AJ (some AJ.zero) 0 (.agg v.c)=some v.c:=fun v=>by simp[AZ,BS,A9,Ap.c]
 have hl3:∀v:Ap,AB AJ (some v.c) 0=some (.agg v.c):=fun v=>by simp[AB,Dv,Ap.c]
 have hst:∀v:Ap,(AV.agg v.c).strip= .agg v.c:=fun v=>by simp[Ap.c]
 have hx0:∀(v:Ap) (b:Bool),AK (.tup [.agg v.c,.bool b]) 0=some (.agg v.c):=fun _ _=>rfl
 have hx1:∀(v:Ap) (b:Bool),AK (AQ (.tup [.agg v.c,.bool b]) 0) 1=some (.bool b):=fun _ _=>rfl
 simp only[hx0,hx1,hs2,hl3,hst,AF,Option.map_some];exact this
theorem Xw{w0:World}{S:St}{p:Nat}{fp:List Nat}{room:Int}{sh:List (List (Str×Ap))}(h:ShD S p fp room sh)(hl:∀l∈sh,l.length≤900000)(hroom:1≤room){k:Str}(hk:k.length≤1000000000){v:Ap}{Q:AV→St→Prop}
  (hq:∀S' fp' i l g b,i=ofK sh.length k→sh[i]? =some l→Cg fp S S'→(∀j∈fp',j∈fp∨S.length≤j)→ShD S' p fp' room (sh.set i (Pi room l k v))→Q (.tup [.str g,.bool b]) S'):AC w0 DD [.ptr p 0,.str k,.agg v.c] S Q:=by
 have h0:=h;obtain⟨q,ids,os,rfl,h1,h2,h3,h4,h5,h6,h7⟩:=h.ex;have hpos:=h.pos;have hof:=Gr hpos k;have e1:ids[ofK sh.length k]? =some (ids[ofK sh.length k]'(by omega)):=by rw[List.getElem?_eq_getElem]
 have e2:os[ofK sh.length k]? =some (os[ofK sh.length k]'(by omega)):=by rw[List.getElem?_eq_getElem]
 have e3:sh[ofK sh.length k]? =some (sh[ofK sh.length k]'(by omega)):=by rw[List.getElem?_eq_getElem]
 generalize ids[ofK sh.length k]'(by omega)=id at e1
 generalize os[ofK sh.length k]'(by omega)=o at e2
 generalize sh[ofK sh.length k]'(by omega)=l at e3
 have hbx:CC AJ (.agg v.c)=some v.c:=by simp[CC,Ap.c]
 have hl3:AB AJ (some v.c) 0=some (.agg v.c):=by simp[AB,Dv,Ap.c]
 have hst:(AV.agg v.c).strip= .agg v.c:=by simp[Ap.c]
 have hvc:=v.c_eq;rw[hvc];apply Hq;unfold FF;simp only[←hvc];have hld:AI AM S (.ptr p 0)=some (.rs 1 q 0 ids.length):=by rw[Ac h1];rfl
 obtain⟨a1,a2⟩:=ShD.at_ (S:=S) (p:=p) h2 e1;simp only[Nat.zero_add,hld,Ey,AF,hbx,hl3];refine NU h0 hk ?_;have hca:CD [.ptr id 0,.str k,.agg v.c]=some [.ptr id 0,.str k,.agg v.c]:=by simp[CD,Ap.c]
 simp only[hld,Ey,AF,a1,a2,Bq,hst,AX,hca,true_and];refine aE (h7 _ id o l e1 e2 e3) (hl l (List.mem_of_getElem? e3)) hroom (fun S' o' g b hC ho hL=>?_)
 obtain⟨k1,k2,k3⟩:=ShD.step hpos h.few h1 h2 h3 h4 h5 h6 h7 e1 e2 e3 hC ho hL;have:=hq S' _ _ l g b rfl e3 k2 k3 k1;have hx0:AK (.tup [.str g,.bool b]) 0=some (.str g):=rfl;have hx1:AK (AQ (.tup [.str g,.bool b]) 0) 1=some (.bool b):=rfl;simp only[hx0,hx1,AF];exact this
theorem Wa{w0:World}{S:St}{p:Nat}{fp:List Nat}{room:Int}{sh:List (List (Str×Ap))}(h:ShD S p fp room sh){Q:AV→St→Prop}(hq:Q (.int .i64 (Ub sh:Nat)) S):AC w0 Dy [.ptr p 0] S Q:=by
 obtain⟨q,ids,os,rfl,h1,h2,h3,h4,h5,h6,h7⟩:=h.ex;have hfew:=h.few;apply Hn;unfold E0;have hld:AI AM S (.ptr p 0)=some (.rs 1 q 0 ids.length):=by rw[Ac h1];rfl
 have hln:A6 (.rs 1 q 0 ids.length)=some (.int .i64 (ids.length:Int)):=rfl;rw[AO];simp only[Nat.zero_add,hld,Ey,hln,AF];rw[h3];refine BN sh (fun i (n:Nat)=>([.int .i64 n,.int .i64 i],[])) (fun i n S'=>S'=S∧n=(sh.take i).foldl (fun n l=>max n l.length) 0) 0 (by simp) ⟨rfl,by simp⟩ ?_ ?_
 ·rintro i n S' v bx l c hxi hd hc hmem ⟨rfl,rfl⟩ hv;simp only[Prod.mk.injEq,List.cons.injEq,and_true] at hv;obtain⟨hv0,hv1⟩:=hv;have e1:ids[i]? =some (ids[i]'(by omega)):=by rw[List.getElem?_eq_getElem]
  have e2:os[i]? =some (os[i]'(by omega)):=by rw[List.getElem?_eq_getElem]
  obtain⟨a1,a2⟩:=ShD.at_ (S:=S') (p:=p) h2 e1;rw[h3] at a1;have hca:CD [.ptr (ids[i]'(by omega)) 0]=some [.ptr (ids[i]'(by omega)) 0]:=by simp[CD]
  simp only[hv0,hv1,GL,AF,hc,decide_true,Cf,a1,a2,Bq,AX,hca];refine aU (h7 i _ _ l e1 e2 hxi) ?_;have hmx:∀a b:Nat,SU [.int .i64 (a:Int),.int .i64 (b:Int)]=some (.int .i64 ((max a b:Nat):Int)):=fun a b=>by
   simp[SU]
   by_cases hab:a < b
   ·simp[hab];omega
   ·simp[hab];omega
  have w1:IntKind.i64.wrap ((i:Int)+1)=(i:Int)+1:=wrap64 (by omega) (by omega)
  have had:AP .add (.int .i64 (i:Int)) (.int .i64 1)=some (.int .i64 ((i:Int)+1)):=by simp[w1]
  simp only[CG,hmx,had,AF];refine .next c (max ((sh.take i).foldl (fun n l=>max n l.length) 0) l.length) (by simp) ⟨rfl,?_⟩
  rw[List.take_succ,hxi,List.foldl_append];rfl
 ·rintro n S' v bx ⟨rfl,rfl⟩ hv N;simp only[Prod.mk.injEq,List.cons.injEq,and_true] at hv;obtain⟨hv0,hv1⟩:=hv;rw[List.take_length] at hv0;simp[hv0,hv1];exact hq
def Un(i:Nat):List AV:=[.ptr i 0]
theorem Xd{w0:World}{S:St}{many room:Int}{Q:AV→St→Prop}
  (hq:∀S' p fp,Sx S S'→(∀j∈fp,S.length≤j)→ShD S' p fp (Fg room) (List.replicate (Eh many) [])→Q (.ptr p 0) S'):AC w0 FA [.int .i64 many,.int .i64 room] S Q:=by
 apply LE;unfold HG;obtain⟨m1,m2,m3⟩:=Yg many;rw[←m3];have hbx:CC Bv (.agg [.vs 1 [] .nil])=some [.vs 1 [] .nil]:=by simp[CC]
 simp only[hbx,AF];rw[AO];refine Fw (fun i:Nat=>([.int .i64 i],[])) (fun n i S'=>n=Eh many - i∧i≤Eh many∧Sx S S'∧S.length < S'.length∧∃x o ids,S'[S.length]? =some (.cells [x] Bc)∧Fb Un 1 S' x ids o∧ids.length=i∧ids.Nodup∧(∀j,o=some j→S.length < j)∧∀id∈ids,S.length≤id∧Lw S' id none (Fg room) [])
  (Eh many) 0 (by simp) ⟨rfl,by omega,Sx.app S _,by simp,.vs 1 [] .nil,none,[],by simp,⟨rfl,rfl⟩,rfl,List.nodup_nil,(fun j hj=>by cases hj),by simp⟩ ?_
 rintro n i S1 v bx ⟨rfl,hi,hS1,hlt,x,o,ids,g1,g2,g3,g4,g5,g6⟩ hv;simp at hv;have hld:AI AM S1 (.ptr S.length 0)=some x:=by rw[Ac g1];rfl
 obtain⟨x1,x2,_,x3⟩:=g2.strip
 by_cases c:i < Eh many
 ·have c1:(i:Int) < (Eh many:Int):=by omega
  simp only[hv,GL,AF,c1,decide_true,Cf,hld,x1];refine aO (fun S2 hS2 hl2 hL2=>?_)
  have g1':=hS2.get g1;have hld2:AI AM S2 (.ptr S.length 0)=some x:=by rw[Ac g1'];rfl
  have g2':=g2.sx hS2;obtain⟨x',S3,o',b1,b2,b3,b4,b5⟩:=Fb.append (enc:=Un) (n:=1) (l:=ids) (o:=o) (fun _=>rfl) (h:=g2') (T:=Ad) rfl (m:=[S1.length]) (y:=.vs 1 [Un S1.length] .full) (by simp[BO]) (by simp[lim];omega)
  have hev:CE 1 [.ptr S1.length 0]=some [Un S1.length]:=by simp[CE,Un]
  have hoS:o≠some S.length:=fun e=>by have:=g5 _ e;omega
  have g1'':S3[S.length]? =some (.cells [x] Bc):=by rw[b3 S.length (by omega) hoS];exact g1'
  obtain⟨y1,y2,_,y3⟩:=b2.strip;have hxc:x'.cells=[x']:=by
   cases o' with
   |none=>obtain⟨rfl,_⟩:=b2;rfl
   |some j=>obtain⟨rfl,_⟩:=b2;rfl
  have hsto:Bn AM S3 (.ptr S.length 0) x'=some (S3.set S.length (.cells [x'] Bc)):=by
   rw[Be g1''];simp[BS,hxc,y2,A9]
  have w1:IntKind.i64.wrap ((i:Int)+1)=((i+1:Nat):Int):=by rw[wrap64 (by omega) (by omega)];rfl
  have had:AP .add (.int .i64 (i:Int)) (.int .i64 1)=some (.int .i64 ((i+1:Nat):Int)):=by simp[w1]
  simp only[hld2,AF,x1,hev,b1,hsto,had,CG,true_and];have hlt3:S2.length≤S3.length:=b4;have hfr:∀j,j < S2.length→o≠some j→j≠S.length→(S3.set S.length (.cells [x'] Bc))[j]? =S2[j]?:=fun j h1 h2 h3=>by
   rw[As (fun e=>h3 e.symm),b3 j h1 h2]
  have hnew:∀j,o'=some j→S.length < j:=fun j hj=>by
   rcases b5 j hj with h|h
   ·exact g5 j h
   ·omega
  refine⟨_,i+1,?_,rfl,rfl,by omega,?_,?_,x',o',ids++[S1.length],?_,?_,by simp[g3],?_,hnew,?_⟩
  ·omega
  ·intro j hj;rw[hfr j (by omega) (fun e=>by have:=g5 j e;omega) (by omega),hS2 j (by omega),hS1 j hj]
  ·simp;omega
  ·exact Al g1''
  ·exact b2.mono fun j hj=>As (fun e=>by have:=hnew j hj;omega)
  ·rw[List.nodup_append];refine⟨g4,by simp,fun a ha b hb=>?_⟩
   simp at hb;subst hb;obtain⟨x9,e9,_⟩:=(g6 a ha).2.obj;have:=(List.getElem?_eq_some_iff.1 e9).1;omega
  ·intro id hid;rcases List.mem_append.1 hid with hid|hid
   ·obtain⟨k1,k2⟩:=g6 id hid;obtain⟨x9,e9,r9⟩:=k2.obj;have hidl:=(List.getElem?_eq_some_iff.1 e9).1;have hne1:id≠S.length:=fun e=>by rw[e] at e9;exact H4 g1 e9 (by decide)
    have hne2:o≠some id:=fun e=>by
     subst e;exact H4 g2.2 e9 (by decide)
    refine⟨k1,⟨⟨x9,?_,r9⟩,fun j hj=>by cases hj⟩⟩
    rw[hfr id (by omega) hne2 hne1,hS2 id hidl]
    exact e9
   ·simp at hid;subst hid;obtain⟨x9,e9,r9⟩:=hL2.obj;have hne1:S1.length≠S.length:=by omega
    have hne2:o≠some S1.length:=fun e=>by
     subst e;have:=g2.lt;omega
    refine⟨by omega,⟨⟨x9,?_,r9⟩,fun j hj=>by cases hj⟩⟩
    rw[hfr S1.length (by omega) hne2 hne1]
    exact e9
 ·have hie:i=Eh many:=by omega
  have c1:¬(i:Int) < (Eh many:Int):=by omega
  simp only[hv,GL,AF,c1,decide_false,CP];obtain⟨q,rfl⟩:=g2.is_some (fun e=>by rw[e] at g3;simp at g3;omega)
  obtain⟨rfl,g7⟩:=g2;refine hq S1 S.length (S.length::q::(ids++(List.replicate (Eh many) (none:Option Nat)).flatMap Option.toList)) hS1 ?_ ⟨⟨q,ids,List.replicate (Eh many) none,rfl,g1,?_,by simp[g3,hie],by simp,g4,?_,?_⟩,by simpa using m1,by simpa using m2⟩
  ·intro j hj;simp only[List.mem_cons,List.mem_append,List.mem_flatMap] at hj;rcases hj with rfl|rfl|hj|⟨o2,ho2,hj⟩
   ·exact Nat.le_refl _
   ·have:=g5 _ rfl;omega
   ·exact(g6 j hj).1
   ·obtain⟨_,rfl⟩:=List.mem_replicate.1 ho2;simp at hj
  ·rw[g7];congr 1;congr 1;have:∀l:List Nat,Ab Un l=l.map fun i=>AV.ptr i 0:=fun l=>by
    induction l with
    |nil=>rfl
    |cons a l ih=>simp only[Ab,List.flatMap_cons,List.map_cons] at ih ⊢;rw[ih];rfl
   exact this ids
  ·intro a b ob ea;rw[List.getElem?_replicate] at ea;split at ea<;>cases ea
  ·intro a ida oa la ea eb ec;have h1:=List.mem_replicate.1 (List.mem_of_getElem? eb);have h2:=List.mem_replicate.1 (List.mem_of_getElem? ec);rw[h1.2,h2.2];exact(g6 ida (List.mem_of_getElem? ea)).2
def Ap.cp(e:Ap):Ap:={e with r:=cr e.f.dirs}
def Dx(d s:Str):Str:=if d=[47] then d++s else d++47::s
structure DcA(S:St)(c:Nat)(fp:List Nat)(hits misses room:Int)(sh:List (List (Str×Ap))):Prop where
 ex:∃(p:Nat) (fp0:List Nat),fp=c::fp0∧c ∉ fp0∧S[c]? =some (.cells [.ptr p 0,.int .i64 hits,.int .i64 misses] DF)∧ShD S p fp0 room sh
theorem DcA.pos{S:St}{c:Nat}{fp:List Nat}{hits misses room:Int}{sh:List (List (Str×Ap))}(h:DcA S c fp hits misses room sh):1≤sh.length:=by
 obtain⟨p,fp0,rfl,h1,h2,h3⟩:=h.ex;exact h3.pos
theorem DcA.notBr{S:St}{c:Nat}{fp:List Nat}{hits misses room:Int}{sh:List (List (Str×Ap))}(h:DcA S c fp hits misses room sh):∀j∈fp,j < S.length∧∀o,S[j]? =some o→Ni o:=by
 obtain⟨p,fp0,rfl,h1,h2,h3⟩:=h.ex;intro j hj;rcases List.mem_cons.1 hj with rfl|hj
 ·refine⟨(List.getElem?_eq_some_iff.1 h2).1,fun o ho=>?_⟩
  rw[h2] at ho;cases ho;exact Gd (by decide) (by simp)
 ·obtain⟨ob,e1,e2,_⟩:=h3.fps j hj;refine⟨h3.lt j hj,fun o ho=>?_⟩
  rw[e1] at ho;cases ho;exact e2
theorem DcA.chg{S S':St}{c:Nat}{fp ids:List Nat}{hits misses room:Int}{sh:List (List (Str×Ap))}(h:DcA S c fp hits misses room sh)(k:Cg ids S S')(hx:∀j∈fp,j ∉ ids):DcA S' c fp hits misses room sh:=by
 obtain⟨p,fp0,rfl,h1,h2,h3⟩:=h.ex;exact⟨p,fp0,rfl,h1,k.get h2 (hx c (by simp)),h3.chg k fun j hj=>hx j (by simp[hj])⟩
theorem Ap.c_strip(e:Ap):(AV.agg e.c).strip= .agg e.c:=by simp[Ap.c]
theorem Ap.c_free(e:Ap):(AV.agg e.c).free=true:=by simp[Ap.c]
theorem Ap.st(e:Ap):AZ AJ (some AJ.zero) 0 (.agg e.c)=some e.c:=by simp[AZ,BS,A9,Ap.c]
theorem Ap.ld(e:Ap):AB AJ (some e.c) 0=some (.agg e.c):=by simp[AB,Dv,Ap.c]
theorem Ap.bx(e:Ap):CC AJ (.agg e.c)=some e.c:=by simp[CC,Ap.c]
theorem Nj{w0:World}{S:St}{e:Ap}(hl:e.f.dirs.length≤1000000){Q:AV→St→Prop}(hq:Q (.agg e.cp.c) S):AC w0 EA [.agg e.c] S Q:=by
 have hb:=e.bx;rw[e.c_eq] at hb ⊢;apply M9;unfold Io;rw[hb];have h5:AB CS (some e.c) 5=some (.vs 2 (e.f.dirs.map spC) e.r.strip):=rfl;rw[e.c_eq] at h5;have hap:∃r,Aj BV S (.vs 2 [] .nil) (.vs 2 (e.f.dirs.map spC) e.r.strip.strip)=some (.vs 2 (e.f.dirs.map spC) r)∧r.strip=cr e.f.dirs:=by
  cases hd:e.f.dirs with
  |nil=>exact⟨.nil,by simp[Aj,BO],rfl⟩
  |cons a l=>
   have:(a::l).length≤lim:=by rw[←hd];simp only[lim];omega
   have h2:BV.size=2:=rfl;refine⟨.own (C4 BV .nil),?_,rfl⟩;rw[List.length_cons] at this;simp[Aj,BO,h2,this]
 obtain⟨r,h6,h7⟩:=hap;have h8:AZ CS (some [.int .i64 e.epoch,.bool e.there,.int .i64 e.f.kind,.int .i64 e.f.sp.1,.int .i64 e.f.sp.2,.vs 2 (e.f.dirs.map spC) e.r.strip,.str e.target]) 5 (.vs 2 (e.f.dirs.map spC) r)=some [.int .i64 e.epoch,.bool e.there,.int .i64 e.f.kind,.int .i64 e.f.sp.1,.int .i64 e.f.sp.2,.vs 2 (e.f.dirs.map spC) r,.str e.target]:=by simp[AZ,BS,A9]
 have h10:AB AJ (some [.int .i64 e.epoch,.bool e.there,.int .i64 e.f.kind,.int .i64 e.f.sp.1,.int .i64 e.f.sp.2,.vs 2 (e.f.dirs.map spC) r,.str e.target]) 0=some (.agg [.int .i64 e.epoch,.bool e.there,.int .i64 e.f.kind,.int .i64 e.f.sp.1,.int .i64 e.f.sp.2,.vs 2 (e.f.dirs.map spC) r,.str e.target]):=by simp[AB,Dv]
 have h9:(AV.agg [.int .i64 e.epoch,.bool e.there,.int .i64 e.f.kind,.int .i64 e.f.sp.1,.int .i64 e.f.sp.2,.vs 2 (e.f.dirs.map spC) r,.str e.target]).strip= .agg e.cp.c:=by
  have:(cr e.f.dirs).strip=cr e.f.dirs:=by cases e.f.dirs<;>rfl
  simp[Ap.c,Ap.cp,h7,this]
 simp only[AF,h5,ML,h6,h8,h10,h9,Ap.st,Ap.ld,Ap.c_strip,Option.map_some];exact hq
theorem Ck{xs:List AV}(h:xs.all AV.free=true)(h2:xs.map AV.strip=xs):CD xs=some xs:=by unfold CD;rw[if_pos h,h2]
theorem Xa{w0:World}{S:St}{c:Nat}{fp:List Nat}{hits misses room:Int}{sh:List (List (Str×Ap))}(h:DcA S c fp hits misses room sh)(hl:∀l∈sh,l.length≤1000000∧∀p∈l,p.2.f.dirs.length≤1000000)(hh:0≤hits∧hits≤1000000000∧0≤misses∧misses≤1000000000){epoch:Int}{d s:Str}(hs:d.length+s.length≤100000000){Q:AV→St→Prop}
  (h1:∀S' fp' l e,sh[ofK sh.length (Dx d s)]? =some l→(C9 l (Dx d s)).1=some e→e.epoch=epoch→Cg fp S S'→(∀j∈fp',j∈fp∨S.length≤j)→DcA S' c fp' (hits+1) misses room (sh.set (ofK sh.length (Dx d s)) (C9 l (Dx d s)).2)→Q (.tup [.agg e.cp.c,.bool true]) S')
  (h2:∀S' fp' l,sh[ofK sh.length (Dx d s)]? =some l→(∀e,(C9 l (Dx d s)).1=some e→e.epoch≠epoch)→Cg fp S S'→(∀j∈fp',j∈fp∨S.length≤j)→DcA S' c fp' hits (misses+1) room (sh.set (ofK sh.length (Dx d s)) (C9 l (Dx d s)).2)→Q (.tup [.agg Ap.o.c,.bool false]) S'):
  AC w0 Gv [.ptr c 0,.int .i64 epoch,.str d,.str s] S Q:=by
 obtain⟨p,fp0,rfl,g1,g2,g3⟩:=h.ex;apply PB;unfold J3;have hld:∀S':St,S'[c]? =some (.cells [.ptr p 0,.int .i64 hits,.int .i64 misses] DF)→AI Aa S' (.ptr c 0)=some (.ptr p 0)∧AI Ak S' (.ptr c 1)=some (.int .i64 hits)∧AI Ak S' (.ptr c 2)=some (.int .i64 misses):=fun S' e=>⟨by rw[Ac e];rfl,by rw[Ac e];rfl,by rw[Ac e];rfl⟩
 simp only[Nat.zero_add,(hld S g2).1,Bq,AF];refine IA (by omega) ?_
 have hkey:(if d=[47] then d++s else d++47::s)=Dx d s:=rfl
 have hkl:(Dx d s).length≤1000000000:=by unfold Dx;split<;>simp<;>omega
 rw[hkey];have hca:CD [.ptr p 0,.str (Dx d s)]=some [.ptr p 0,.str (Dx d s)]:=Ck rfl rfl;simp only[(hld S g2).1,Bq,AF,true_and,AX,hca];refine P7 g3 (fun l hm=>(hl l hm).1) hkl (fun S1 fp1 i l hi hsl hC hfp hSh=>?_)
 subst hi;have hc1:S1[c]? =some (.cells [.ptr p 0,.int .i64 hits,.int .i64 misses] DF):=hC.get g2 g1;obtain⟨q1,q2,q3⟩:=hld S1 hc1;have hcl:c < S.length:=(List.getElem?_eq_some_iff.1 g2).1;have hnc:c ∉ fp1:=fun hm=>by
  rcases hfp c hm with h|h
  ·exact g1 h
  ·omega
 have hC1:Cg (c::fp0) S S1:=hC.sub fun j hj=>by simp[hj]
 have hfp1:∀j∈c::fp1,j∈c::fp0∨S.length≤j:=by
  intro j hj;rcases List.mem_cons.1 hj with rfl|hj
  ·exact .inl (by simp)
  ·rcases hfp j hj with h|h
   ·exact .inl (by simp[h])
   ·exact .inr h
 have hx0:∀(v:Ap) (b:Bool),AK (.tup [.agg v.c,.bool b]) 0=some (.agg v.c):=fun _ _=>rfl
 have hx1:∀(v:Ap) (b:Bool),AK (AQ (.tup [.agg v.c,.bool b]) 0) 1=some (.bool b):=fun _ _=>rfl
 have hep:∀v:Ap,AB Ak (some v.c) 0=some (.int .i64 v.epoch):=fun _=>rfl
 have hset:∀a b:Int,Cg [c] S1 (S1.set c (.cells [.ptr p 0,.int .i64 a,.int .i64 b] DF)):=fun a b=>Cg.set (by simp)
 have hmiss:(∀e,(C9 l (Dx d s)).1=some e→e.epoch≠epoch)→Q (.tup [.agg Ap.o.c,.bool false]) (S1.set c (.cells [.ptr p 0,.int .i64 hits,.int .i64 (misses+1)] DF)):=fun hn=>
  h2 _ (c::fp1) l hsl hn (hC1.trans ((hset _ _).sub fun j hj=>by simp at hj;simp[hj])) hfp1 ⟨p,fp1,rfl,hnc,Al hc1,hSh.chg (hset _ _) fun j hj hm=>by simp at hm;subst hm;exact hnc hj⟩
 have hst2:Bn Ak S1 (.ptr c 2) (.int .i64 (misses+1))=some (S1.set c (.cells [.ptr p 0,.int .i64 hits,.int .i64 (misses+1)] DF)):=by
  rw[Be hc1];simp[BS,A9]
 have hst1:Bn Ak S1 (.ptr c 1) (.int .i64 (hits+1))=some (S1.set c (.cells [.ptr p 0,.int .i64 (hits+1),.int .i64 misses] DF)):=by
  rw[Be hc1];simp[BS,A9]
 have wm:IntKind.i64.wrap (misses+1)=misses+1:=wrap64 (by omega) (by omega)
 have wh:IntKind.i64.wrap (hits+1)=hits+1:=wrap64 (by omega) (by omega)
 have hz:(AV.agg AJ.zero)= .agg Ap.o.c:=rfl;have am:AP .add (.int .i64 misses) (.int .i64 1)=some (.int .i64 (misses+1)):=by simp[wm]
 have ah:AP .add (.int .i64 hits) (.int .i64 1)=some (.int .i64 (hits+1)):=by simp[wh]
 cases hg:(C9 l (Dx d s)).1 with
 |none=>
  have:=hmiss (fun e he=>by rw[hg] at he;cases he)
  simp only[Option.getD_none,Option.isSome_none,hx0,hx1,Ap.st,AF,Ci,unA,Bool.not_false,AO,Cf,Aq,q3,CG,am,hst2,hz];exact this
 |some e=>
  by_cases he:e.epoch=epoch
  ·have hmem:((Dx d s),e)∈l:=YB hg;have hlm:=List.mem_of_getElem? hsl;have hdl:=(hl l hlm).2 _ hmem;have:=h1 _ (c::fp1) l e hsl hg he (hC1.trans ((hset _ _).sub fun j hj=>by simp at hj;simp[hj])) hfp1 ⟨p,fp1,rfl,hnc,Al hc1,hSh.chg (hset _ _) fun j hj hm=>by simp at hm;subst hm;exact hnc hj⟩
   have hne:AP .neq (.int .i64 e.epoch) (.int .i64 epoch)=some (.bool false):=by simp[he]
   have hce:CD [.agg e.c]=some [.agg e.c]:=Ck (by simp[Ap.c]) (by simp[Ap.c])
   simp only[Option.getD_some,Option.isSome_some,hx0,hx1,Ap.st,AF,Ci,unA,Bool.not_true,AO,CP,Aq,hep,CG,hne,q2,ah,hst1,Ap.ld,Ap.c_strip,AX,hce];refine Nj hdl ?_;simp only[Ap.st,Ap.ld,Ap.c_strip,AF,Option.map_some];exact this
  ·have:=hmiss (fun e' he'=>by rw[hg] at he';cases he';exact he)
   have hne:AP .neq (.int .i64 e.epoch) (.int .i64 epoch)=some (.bool true):=by simp[he]
   simp only[Option.getD_some,Option.isSome_some,hx0,hx1,Ap.st,AF,Ci,unA,Bool.not_true,AO,CP,Cf,Aq,hep,CG,hne,q3,am,hst2,hz];exact this
def bP(room:Int)(l:List (Str×Ap))(k:Str)(e:Ap)(l2:List (Str×Ap)):Prop:=(l2=(C9 l k).2∧∃w,(C9 l k).1=some w∧e.epoch < w.epoch)∨(l2=Pi room (C9 l k).2 k e.cp∧∀w,(C9 l k).1=some w→w.epoch≤e.epoch)
theorem Xp{w0:World}{S:St}{c:Nat}{fp:List Nat}{hits misses room:Int}{sh:List (List (Str×Ap))}(h:DcA S c fp hits misses room sh)(hroom:1≤room)(hl:∀l∈sh,l.length≤900000){d s:Str}(hs:d.length+s.length≤100000000){e:Ap}(hed:e.f.dirs.length≤1000000){Q:AV→St→Prop}
  (h1:∀S' fp' l l2 b,sh[ofK sh.length (Dx d s)]? =some l→bP room l (Dx d s) e l2→Cg fp S S'→(∀j∈fp',j∈fp∨S.length≤j)→DcA S' c fp' hits misses room (sh.set (ofK sh.length (Dx d s)) l2)→Q (.bool b) S'):
  AC w0 Gn [.ptr c 0,.str d,.str s,.agg e.c] S Q:=by
 obtain⟨p,fp0,rfl,g1,g2,g3⟩:=h.ex;have hb:=e.bx;have hle:=e.ld;have hep:∀v:Ap,AB Ak (some v.c) 0=some (.int .i64 v.epoch):=fun _=>rfl
 have hec:=e.c_eq;rw[hec];apply Oa;unfold KF;simp only[←hec];have hld:∀S':St,S'[c]? =some (.cells [.ptr p 0,.int .i64 hits,.int .i64 misses] DF)→AI Aa S' (.ptr c 0)=some (.ptr p 0):=fun S' e=>by rw[Ac e];rfl
 simp only[hb,AF];refine IA (by omega) ?_
 have hkey:(if d=[47] then d++s else d++47::s)=Dx d s:=rfl
 have hkl:(Dx d s).length≤1000000000:=by unfold Dx;split<;>simp<;>omega
 rw[hkey];have hca:CD [.ptr p 0,.str (Dx d s)]=some [.ptr p 0,.str (Dx d s)]:=Ck rfl rfl;simp only[Nat.zero_add,hld S g2,Bq,TF,AF,AX,hca];refine P7 g3 (fun l hm=>by have:=hl l hm;omega) hkl (fun S1 fp1 i l hi hsl hC hfp hSh=>?_)
 subst hi;have hc1:S1[c]? =some (.cells [.ptr p 0,.int .i64 hits,.int .i64 misses] DF):=hC.get g2 g1;have q1:=hld S1 hc1;have hcl:c < S.length:=(List.getElem?_eq_some_iff.1 g2).1;have hnc:c ∉ fp1:=fun hm=>by
  rcases hfp c hm with h|h
  ·exact g1 h
  ·omega
 have hC1:Cg (c::fp0) S S1:=hC.sub fun j hj=>by simp[hj]
 have hfp1:∀j∈c::fp1,j∈c::fp0∨S.length≤j:=by
  intro j hj;rcases List.mem_cons.1 hj with rfl|hj
  ·exact .inl (by simp)
  ·rcases hfp j hj with h|h
   ·exact .inl (by simp[h])
   ·exact .inr h
 have hx0:∀(v:Ap) (b:Bool),AK (.tup [.agg v.c,.bool b]) 0=some (.agg v.c):=fun _ _=>rfl
 have hx1:∀(v:Ap) (b:Bool),AK (AQ (.tup [.agg v.c,.bool b]) 0) 1=some (.bool b):=fun _ _=>rfl
 have hce:CD [.agg e.c]=some [.agg e.c]:=Ck (by simp[Ap.c]) (by simp[Ap.c])
 have hcp:CD [.ptr p 0,.str (Dx d s),.agg e.cp.c]=some [.ptr p 0,.str (Dx d s),.agg e.cp.c]:=Ck (by simp[Ap.c]) (by simp[Ap.c])
 have hif:ofK (sh.set (ofK sh.length (Dx d s)) (C9 l (Dx d s)).2).length (Dx d s)=ofK sh.length (Dx d s):=by simp
 have hofl:=Gr g3.pos (Dx d s);have hput:(∀w,(C9 l (Dx d s)).1=some w→w.epoch≤e.epoch)→AC w0 EA [.agg e.c] S1 fun t38 S_3=>(AI Aa S_3 (.ptr c 0)).elim False (fun t35_2=>t35_2.strip= .ptr p 0)∧AA (CD [.ptr p 0,.str (Dx d s),t38]) fun xs=>AC w0 DD xs S_3 fun t39 S_4=>Q (.bool true) S_4:=by
  intro hw;refine Nj hed ⟨by rw[q1];rfl,?_⟩
  rw[hcp];simp only[AF];refine Xw hSh (fun l' hm=>?_) hroom hkl (fun S2 fp2 i l' g b hi hsl' hC2 hfp2 hSh2=>?_)
  ·rcases List.mem_or_eq_of_mem_set hm with hm|rfl
   ·exact hl l' hm
   ·rw[Sa];exact hl l (List.mem_of_getElem? hsl)
  ·subst hi;rw[hif] at hsl' hSh2;rw[List.getElem?_set_self hofl] at hsl';cases hsl';rw[List.set_set] at hSh2;have hc2:=hC2.get hc1 hnc;have hnc2:c ∉ fp2:=fun hm=>by
    rcases hfp2 c hm with h|h
    ·exact hnc h
    ·have:=hC.1;omega
   refine h1 S2 (c::fp2) l _ true hsl (.inr ⟨rfl,hw⟩) ⟨Nat.le_trans hC.1 hC2.1,fun j hj hn=>?_⟩ ?_ ⟨p,fp2,rfl,hnc2,hc2,hSh2⟩
   ·simp at hn;rw[hC2.2 j (Nat.lt_of_lt_of_le hj hC.1) (fun hm=>by rcases hfp j hm with h|h;exact hn.2 h;omega),hC.2 j hj hn.2]
   ·intro j hj;rcases List.mem_cons.1 hj with rfl|hj
    ·exact .inl (by simp)
    ·rcases hfp2 j hj with h|h
     ·exact hfp1 j (by simp[h])
     ·exact .inr (Nat.le_trans hC.1 h)
 cases hg:(C9 l (Dx d s)).1 with
 |none=>
  have:=hput (fun w hw=>by rw[hg] at hw;cases hw)
  simp only[Option.getD_none,Option.isSome_none,hx0,hx1,Ap.st,AF,Ci,AO,CP,Aq,q1,Bq,hle,Ap.c_strip,AX,hce];refine Y9 this fun r S3 hr=>?_
  obtain⟨hr1,hr2⟩:=hr;refine⟨?_,hr2⟩;cases hld3:AI Aa S3 (.ptr c 0) with
  |none=>rw[hld3] at hr1;exact hr1
  |some t=>rw[hld3] at hr1;exact hr1
 |some w=>
  by_cases hw:e.epoch < w.epoch
  ·have:=h1 S1 (c::fp1) l _ false hsl (.inl ⟨rfl,w,hg,hw⟩) hC1 hfp1 ⟨p,fp1,rfl,hnc,hc1,hSh⟩;have hgt:AP .gtr (.int .i64 w.epoch) (.int .i64 e.epoch)=some (.bool true):=by simp[hw]
   simp only[Option.getD_some,Option.isSome_some,hx0,hx1,Ap.st,AF,Ci,AO,Cf,Aq,hep,CG,hgt];exact this
  ·have:=hput (fun w' hw'=>by rw[hg] at hw';cases hw';omega)
   have hgt:AP .gtr (.int .i64 w.epoch) (.int .i64 e.epoch)=some (.bool false):=by simp;omega
   simp only[Option.getD_some,Option.isSome_some,hx0,hx1,Ap.st,AF,Ci,AO,Cf,CP,Aq,hep,CG,hgt,q1,Bq,hle,Ap.c_strip,AX,hce];refine Y9 this fun r S3 hr=>?_
   obtain⟨hr1,hr2⟩:=hr;refine⟨?_,hr2⟩;cases hld3:AI Aa S3 (.ptr c 0) with
   |none=>rw[hld3] at hr1;exact hr1
   |some t=>rw[hld3] at hr1;exact hr1
theorem VV{w0:World}{S:St}{c:Nat}{fp:List Nat}{hits misses room:Int}{sh:List (List (Str×Ap))}(h:DcA S c fp hits misses room sh){d s:Str}(hs:d.length+s.length≤100000000){Q:AV→St→Prop}(hq:Q (.int .i64 (ofK sh.length (Dx d s):Nat)) S):
  AC w0 GJ [.ptr c 0,.str d,.str s] S Q:=by
 obtain⟨p,fp0,rfl,g1,g2,g3⟩:=h.ex;apply Nv;unfold Jm;have hld:AI Aa S (.ptr c 0)=some (.ptr p 0):=by rw[Ac g2];rfl
 simp only[Nat.zero_add,hld,Bq,AF];refine IA (by omega) ?_
 have hkl:(Dx d s).length≤1000000000:=by unfold Dx;split<;>simp<;>omega
 have hkey:(if d=[47] then d++s else d++47::s)=Dx d s:=rfl
 rw[hkey];have hca:CD [.ptr p 0,.str (Dx d s)]=some [.ptr p 0,.str (Dx d s)]:=Ck rfl rfl;simp only[hld,Bq,AF,true_and,AX,hca];exact NU g3 hkl hq
theorem XX{w0:World}{S:St}{c:Nat}{fp:List Nat}{hits misses room:Int}{sh:List (List (Str×Ap))}(h:DcA S c fp hits misses room sh){Q:AV→St→Prop}(hq:Q (.int .i64 (Ub sh:Nat)) S):AC w0 Gl [.ptr c 0] S Q:=by
 obtain⟨p,fp0,rfl,g1,g2,g3⟩:=h.ex;apply OK;unfold J1;have hld:AI Aa S (.ptr c 0)=some (.ptr p 0):=by rw[Ac g2];rfl
 have hca:CD [.ptr p 0]=some [.ptr p 0]:=Ck rfl rfl;simp only[Nat.zero_add,hld,Bq,AF,AX,hca];exact Wa g3 hq
theorem Um{w0:World}{S:St}{c:Nat}{fp:List Nat}{hits misses room:Int}{sh:List (List (Str×Ap))}(h:DcA S c fp hits misses room sh){Q:AV→St→Prop}(hq:Q (.tup [.int .i64 hits,.int .i64 misses]) S):AC w0 F5 [.ptr c 0] S Q:=by
 obtain⟨p,fp0,rfl,g1,g2,g3⟩:=h.ex;apply NO;unfold Im;have h1:AI Ak S (.ptr c 1)=some (.int .i64 hits):=by rw[Ac g2];rfl
 have h2:AI Ak S (.ptr c 2)=some (.int .i64 misses):=by rw[Ac g2];rfl
 simp only[Nat.zero_add,h1,h2,CG,AF];exact hq
theorem M0{w0:World}{S:St}{many room:Int}{Q:AV→St→Prop}
  (hq:∀S' c fp,Sx S S'→(∀j∈fp,S.length≤j)→DcA S' c fp 0 0 (Fg room) (List.replicate (Eh many) [])→Q (.ptr c 0) S'):AC w0 IK [.int .i64 many,.int .i64 room] S Q:=by
 apply X4;unfold SP;refine Xd (fun S1 p fp hS hfp hSh=>?_)
 have hb:By Dc 1 [(0,.ptr p 0)]=some (.agg [.ptr p 0,.int .i64 0,.int .i64 0]):=by simp[By,Md,A9]
 have hx:CC Dc (.agg [.ptr p 0,.int .i64 0,.int .i64 0])=some [.ptr p 0,.int .i64 0,.int .i64 0]:=by simp[CC]
 simp only[hb,hx,AF];have hnin:S1.length ∉ fp:=fun hm=>by have:=hSh.lt _ hm;omega
 refine hq _ S1.length (S1.length::fp) (hS.trans (Sx.app S1 _)) ?_ ⟨p,fp,rfl,hnin,by simp,hSh.chg ((Sx.app S1 _).chg []) (by simp)⟩
 intro j hj;rcases List.mem_cons.1 hj with rfl|hj
 ·exact hS.le
 ·exact hfp j hj
end Go.Av
