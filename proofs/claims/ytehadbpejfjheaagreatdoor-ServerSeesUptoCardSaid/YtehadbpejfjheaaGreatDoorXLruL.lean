/- Parts of the proofs of this seat: abstract values over the model, and what the functions of the program do. No condition. -/
import Derived.Test.YtehadbpejfjheaaGreatDoorXLruD
import Derived.Test.YtehadbpejfjheaaGreatDoorX07L
import Derived.Test.YtehadbpejfjheaaGreatDoorXNew
import Derived.Test.YtehadbpejfjheaaGreatDoorX11d
import Derived.Test.YtehadbpejfjheaaGreatDoorM12
import Derived.Test.YtehadbpejfjheaaGreatDoorXSplit
import Derived.Test.YtehadbpejfjheaaGreatDoorCards
import Derived.Test.YtehadbpejfjheaaGreatDoorTie
import Derived.WalkKit
import Derived.ProofKit
import Derived.OpenShut
import Derived.Below
import Derived.JoinedCond
import Derived.Deep.DeepHandedRow
import Derived.Deep.DeepWitnessRowRef
import Derived.Lib.LaidTab
set_option linter.all false
set_option maxRecDepth 100000
namespace Go.Av
structure BX where
 epoch:Int
 l:List Ent
 r:Rt
def BX.c(x:BX):List AV:=[.int .i64 x.epoch,.vs 2 (x.l.map Ent.c) x.r.strip]
theorem BX.c_eq(x:BX):x.c=[.int .i64 x.epoch,.vs 2 (x.l.map Ent.c) x.r.strip]:=rfl
def BX.o:BX:=⟨0,[],.nil⟩
def PrL(x:Str×BX):List AV:=.str x.1::x.2.c
theorem LQ(x:Str×BX):(PrL x).length=3:=rfl
theorem MM(x:Str×BX):(PrL x).map AV.strip1=PrL x:=by simp[PrL,BX.c]
theorem bX(x:Str×BX):(AV.agg (PrL x)).free=true:=by simp[PrL,BX.c]
theorem Z8(x:Str×BX):∀y∈PrL x,y.free1=true:=by
 have:=bX x;simpa using this
structure Lq(S:St)(id:Nat)(o:Option Nat)(room:Int)(l:List (Str×BX)):Prop where
 obj:∃x,S[id]? =some (.cells [.int .i64 room,x] BZ)∧Fb PrL 3 S x l o
 ful:∀j,o=some j→l≠[]
theorem Lq.ne{S:St}{id:Nat}{o:Option Nat}{room:Int}{l:List (Str×BX)}(h:Lq S id o room l):o≠some id:=by
 rintro rfl;obtain⟨x,h1,h2⟩:=h.obj;have h3:=h2.2;rw[h1] at h3;simp at h3
theorem Lq.chg{S S':St}{id:Nat}{o:Option Nat}{room:Int}{l:List (Str×BX)}{ids:List Nat}(h:Lq S id o room l)(k:Cg ids S S')(h1:id ∉ ids)(h2:∀j,o=some j→j ∉ ids):Lq S' id o room l:=by
 obtain⟨x,e1,e2⟩:=h.obj;refine⟨⟨x,k.get e1 h1,e2.mono fun j hj=>?_⟩,h.ful⟩
 subst hj;exact k.2 j e2.lt (h2 j rfl)
theorem aX{w0:World}{S:St}{room:Int}{Q:AV→St→Prop}(hq:∀S',Sx S S'→S'.length=S.length+1→Lq S' S.length none (Fg room) []→Q (.ptr S.length 0) S'):AC w0 EU [.int .i64 room] S Q:=by
 apply Jk;unfold Fz;simp;exact hq _ (Sx.app S _) (by simp) ⟨⟨_,by simp[Fg],rfl,rfl⟩,fun j hj=>by cases hj⟩
theorem Lq.loads{S:St}{id:Nat}{o:Option Nat}{room:Int}{l:List (Str×BX)}(h:Lq S id o room l):∃x,S[id]? =some (.cells [.int .i64 room,x] BZ)∧Fb PrL 3 S x l o∧AI AW S (.ptr id 1)=some x∧AI Ak S (.ptr id 0)=some (.int .i64 room)∧x.strip=x∧x.strip0=x∧A6 x=some (.int .i64 l.length)∧stripMem S (.ptr id 1)=S:=by
 obtain⟨x,h1,h2⟩:=h.obj;have hs:=h2.strip;have hx1:x.strip1=x:=by
  cases o with
  |none=>obtain⟨rfl,_⟩:=h2;rfl
  |some j=>obtain⟨rfl,_⟩:=h2;rfl
 have hx0:x.strip0=x:=by
  cases o with
  |none=>obtain⟨rfl,_⟩:=h2;rfl
  |some j=>obtain⟨rfl,_⟩:=h2;rfl
 refine⟨x,h1,h2,by rw[Ac h1];rfl,by rw[Ac h1];rfl,hs.1,hx0,hs.2.2.2,?_⟩
 rw[E6 h1];obtain⟨hlt,he⟩:=List.getElem?_eq_some_iff.1 h1;rw[show List.modify [AV.int .i64 room,x] 1 AV.strip1=[AV.int .i64 room,x] by simp[List.modify,List.modifyTailIdx,List.modifyTailIdx.go,hx1],←he,List.set_getElem_self]
theorem bp{w0:World}{S:St}{id:Nat}{o:Option Nat}{room:Int}{l:List (Str×BX)}(h:Lq S id o room l){Q:AV→St→Prop}(hq:Q (.int .i64 l.length) S):AC w0 Dh [.ptr id 0] S Q:=by
 obtain⟨x,h1,h2,h3,h4,h5,h6,h7,h8⟩:=h.loads;apply G7;unfold Et;simp[h3,h5,h7];exact hq
def pY(l:List (Str×BX))(k:Str)(i:Nat):Prop:=∀j y,j < i→l[j]? =some y→y.1≠k
theorem RT{w0:World}{S:St}{id:Nat}{o:Option Nat}{room:Int}{l:List (Str×BX)}(h:Lq S id o room l)(hl:l.length≤1000000){k:Str}{Q:AV→St→Prop}
  (hq:Q (.int .i64 (match Jv l k with|some i=>(i:Int)|none=>-1)) S):AC w0 Co [.ptr id 0,.str k] S Q:=by
 obtain⟨x,h1,h2,h3,h4,h5,h6,h7,h8⟩:=h.loads;apply Gi;unfold Ek;rw[AO];simp only[Nat.zero_add,h3,h5,h7,AF];refine BN l (fun i (_:Unit)=>([.int .i64 i],[])) (fun i _ S'=>S'=S∧pY l k i) () (by simp) ⟨rfl,fun j y hj=>by omega⟩ ?_ ?_
 ·rintro i _ S' v bx y c hxi hd hc hmem ⟨rfl,ht⟩ hv;simp at hv;obtain⟨oid,rfl⟩:=h2.is_some (fun e=>by rw[e] at hmem;cases hmem)
  have hT:AE.size=3:=rfl;have hix:=h2.idx hT c (k:=.i64);have hld:=h2.load LQ hT rfl hxi;have hf:=Z8 y;have hfl:AZ AE (some [AV.str [],.int .i64 0,.vs 2 [] .nil]) 0 (.agg (PrL y))=some (PrL y):=by
   simp[AZ,BS,A9,PrL,BX.c]
  have hst:(AV.agg (PrL y)).strip= .agg (PrL y):=by simp[MM]
  have hg:AB AH (some (PrL y)) 0=some (.str y.1):=rfl;simp only[hv,hc,GL,AF,decide_true,Cf,hix,hld,hst,hfl,hg]
  by_cases ck:y.1=k
  ·have e:Jv l k=some i:=by
    unfold Jv;rw[List.findIdx?_eq_some_iff_getElem];refine⟨c,by rw[(List.getElem?_eq_some_iff.1 hxi).2];simpa using ck,fun j hj=>?_⟩
    have:=ht j (l[j]'(by omega)) hj (by simp[show j < l.length by omega])
    simpa using this
   rw[e] at hq;simp[ck];exact hq
  ·simp[ck]
   try simp (disch:=omega) only[wrap64]
   refine .next c () (by simp) ⟨rfl,fun j z hj hz=>?_⟩
   by_cases e:j=i
   ·subst e;rw[hxi] at hz;cases hz;exact ck
   ·exact ht j z (by omega) hz
 ·rintro _ S' v bx ⟨rfl,ht⟩ hv N;simp at hv;have e:Jv l k=none:=by
   unfold Jv;rw[List.findIdx?_eq_none_iff];intro y hy;obtain⟨j,hj,e⟩:=List.mem_iff_getElem.1 hy;have:=ht j y hj (by rw[←e];simp[hj])
   simpa using this
  rw[e] at hq;simp[hv];exact hq
theorem P3{w0:World}{S:St}{id oid:Nat}{room:Int}{l:List (Str×BX)}(h:Lq S id (some oid) room l){i:Nat}(hi:i < l.length)(hl:l.length≤1000000){x:Str×BX}{Q:AV→St→Prop}
  (hq:∀S',Cg [oid] S S'→Lq S' id (some oid) room (x::l.eraseIdx i)→Q (.tup []) S'):AC w0 Cc [.ptr id 0,.agg (PrL x),.int .i64 i] S Q:=by
 have hne:=h.ne;have hne2:id≠oid:=fun e=>hne (by rw[e])
 obtain⟨y,h1,h2,h3,h4,h5,h6,h7,h8⟩:=h.loads;have hT:AE.size=3:=rfl;obtain⟨d,s,p,c1,c2,c3⟩:=Yf hT LQ MM h2 hi;have w1:IntKind.i64.wrap ((i:Int)+1)=(i:Int)+1:=wrap64 (by omega) (by omega)
 obtain⟨hy,hS⟩:=h2;subst hy;have hlo:oid < S.length:=(List.getElem?_eq_some_iff.1 hS).1;have hx:PrL x= .str x.1::x.2.c:=rfl;have hbx:CC AE (.agg (PrL x))=some (PrL x):=by simp[CC,PrL,BX.c]
 unfold PrL BX.c;apply Ge;unfold EX;have hxx:(.str x.1::x.2.c)=PrL x:=rfl;unfold BX.c at hxx;rw[hxx,hbx];generalize hS1:S.set oid (.cells (A9 (Ab PrL l) 3 (Ab PrL (l.take i))) 0)=S1 at c3;have g1:S1[id]? =some (.cells [.int .i64 room,.rs 3 oid 0 l.length] BZ):=by rw[←hS1,As (fun e=>hne2 e.symm)];exact h1
 have g2:S1[oid]? =some (.cells (A9 (Ab PrL l) 3 (Ab PrL (l.take i))) 0):=by rw[←hS1];exact Al hS
 have g3:AI AW S1 (.ptr id 1)=some (.rs 3 oid 0 l.length):=by rw[Ac g1];rfl
 have hll:AB AE (some (PrL x)) 0=some (.agg (PrL x)):=by simp[AB,Dv,PrL,BX.c]
 have hix:Ae AE (.rs 3 oid 0 l.length) (.int .i64 0)=some (.ptr oid 0):=by
  have:l≠[]:=by rintro rfl;simp at hi
  simp[Ae,this]
 have hst:(AV.agg (PrL x)).strip= .agg (PrL x):=by simp[MM]
 have hlen:(A9 (Ab PrL l) 3 (Ab PrL (l.take i))).length=l.length*3:=by
  have e1:=C6 LQ l;have e2:=C6 LQ (l.take i);rw[List.length_take] at e2;simp only[A9,List.length_append,List.length_take,List.length_drop,e1,e2];omega
 have hsto:Bn AE S1 (.ptr oid 0) (.agg (PrL x))=some (S1.set oid (.cells (Ab PrL (x::l.eraseIdx i)) 0)):=by
  rw[Be g2];have hf:=bX x;have hcl:(AV.agg (PrL x)).cells=PrL x:=rfl;have hle:0+AE.size≤(A9 (Ab PrL l) 3 (Ab PrL (l.take i))).length:=by rw[hlen,hT];omega
  have hpl:(PrL x).length=AE.size:=rfl;simp only[BS,hf,hcl,hpl,hle,and_self,if_true,Option.map_some];rw[T6 LQ l hi x]
 simp only[Nat.zero_add,h3,h5,AF,w1,c1,c2,c3,g3,hll,hix,hst,hsto];have hSS:S1.set oid (.cells (Ab PrL (x::l.eraseIdx i)) 0)=S.set oid (.cells (Ab PrL (x::l.eraseIdx i)) 0):=by rw[←hS1,List.set_set]
 rw[hSS];refine hq _ (Cg.set (by simp)) ⟨⟨.rs 3 oid 0 (x::l.eraseIdx i).length,?_,rfl,Al hS⟩,fun _ _=>by simp⟩
 rw[As (fun e=>hne2 e.symm),h1]
 have:(x::l.eraseIdx i).length=l.length:=by simp[List.length_eraseIdx,hi];omega
 rw[this]
theorem Vo{id:Nat}{x:Str×BX}{i:Int}:CD [.ptr id 0,.agg (PrL x),.int .i64 i]=some [.ptr id 0,.agg (PrL x),.int .i64 i]:=by
 simp[CD,MM];exact Z8 x
theorem bE{w0:World}{S:St}{id:Nat}{o:Option Nat}{room:Int}{l:List (Str×BX)}(h:Lq S id o room l)(hl:l.length≤1000000){k:Str}{Q:AV→St→Prop}
  (hq:∀S',Cg o.toList S S'→Lq S' id o room (C9 l k).2→Q (.tup [.agg (((C9 l k).1.getD BX.o).c),.bool (C9 l k).1.isSome]) S'):AC w0 Dm [.ptr id 0,.str k] S Q:=by
 obtain⟨y,h1,h2,h3,h4,h5,h6,h7,h8⟩:=h.loads;apply HH;unfold Ev;refine RT h hl ?_;cases hf:Jv l k with
 |none=>
  have e:C9 l k=(none,l):=by simp[C9,hf]
  rw[e] at hq;have:=hq S (Cg.refl _ _) h;simp;simpa[BX.c,BX.o,Fnd.none] using this
 |some i=>
  obtain⟨x,hx,hk,hi⟩:=I0 hf;have e:C9 l k=(some x.2,x::l.eraseIdx i):=by simp[C9,hf,hx]
  rw[e] at hq;obtain⟨oid,rfl⟩:=h2.is_some (fun e=>by rw[e] at hi;simp at hi)
  have hT:AE.size=3:=rfl;have hix:=h2.idx hT hi (k:=.i64);have hld:=h2.load LQ hT rfl hx;have hst:(AV.agg (PrL x)).strip= .agg (PrL x):=by simp[MM]
  have hll:AB AE (some (PrL x)) 0=some (.agg (PrL x)):=by simp[AB,Dv,PrL,BX.c]
  have hfl:AZ AE (some [AV.str [],.int .i64 0,.vs 2 [] .nil]) 0 (.agg (PrL x))=some (PrL x):=by
   simp[AZ,BS,A9,PrL,BX.c]
  have hneg:¬((i:Int) < 0):=by omega
  have hl2:AB BE (some (PrL x)) 1=some (.agg x.2.c):=by simp[AB,Dv,PrL,BX.c]
  have hs2:AZ BE (some [AV.int .i64 0,.vs 2 [] .nil]) 0 (.agg x.2.c)=some x.2.c:=by simp[AZ,BS,A9,BX.c]
  have hl3:AB BE (some x.2.c) 0=some (.agg x.2.c):=by simp[AB,Dv,BX.c]
  have hst2:(AV.agg x.2.c).strip= .agg x.2.c:=by simp[BX.c]
  simp only[Nat.zero_add,CG,GL,AF,hneg,decide_false,CP,h3,h5,hix,hld,hst,hfl,hll,AX,Vo];refine P3 h hi hl (fun S' hC hL=>?_)
  have:=hq S' (by simpa using hC) hL
  simp only[hl2,hs2,hl3,hst2,AF,Option.map_some];simpa using this
theorem XW{S:St}{x:AV}{l:List (Str×BX)}{o:Option Nat}(h:Fb PrL 3 S x l o)(hl:l.length≤1000000):
  ∃x' S' o',appendR AE S x (.vs 3 [PrL ([],BX.o)] .full)=some (x',S')∧Fb PrL 3 S' x' (l++[([],BX.o)]) o'∧(∀j,j < S.length→o≠some j→S'[j]? =S[j]?)∧S.length≤S'.length∧(∀j,o'=some j→o=some j∨S.length≤j):=
 h.append LQ (T:=AE) rfl (m:=[([],BX.o)]) (by simp[BO]) (by simp[lim];omega)
theorem bK{w0:World}{S:St}{id:Nat}{o:Option Nat}{room:Int}{l:List (Str×BX)}(h:Lq S id o room l)(hl:l.length≤900000)(hroom:1≤room){k:Str}{v:BX}{Q:AV→St→Prop}
  (hq:∀S' o' g b,Cg (id::o.toList) S S'→(∀j,o'=some j→o=some j∨S.length≤j)→Lq S' id o' room (Pi room l k v)→Q (.tup [.str g,.bool b]) S'):AC w0 Dj [.ptr id 0,.str k,.agg v.c] S Q:=by
 obtain⟨y,h1,h2,h3,h4,h5,h6,h7,h8⟩:=h.loads;have hT:AE.size=3:=rfl;have hbx:CC BE (.agg v.c)=some v.c:=by simp[CC,BX.c]
 unfold BX.c;apply G6;unfold Eu;have hvx:[AV.int .i64 v.epoch]++v.c.drop 1=v.c:=rfl;unfold BX.c at hbx;rw[hbx];simp only[AF];refine RT h (by omega) ?_
 have hl3:AB BE (some v.c) 0=some (.agg v.c):=by simp[AB,Dv,BX.c]
 have hst3:(AV.agg v.c).strip= .agg v.c:=by simp[BX.c]
 have hbd:By AE 1 [(0,.str k),(1,.agg v.c)]=some (.agg (PrL (k,v))):=by simp[By,Md,A9,PrL,BX.c]
 unfold BX.c at hl3 hst3 hbd;refine DX (fun j=>∀(g:Str) (b:Bool) (i:Nat) (S1:St) (o1:Option Nat) (l1:List (Str×BX)),Cg (id::o.toList) S S1→(∀j,o1=some j→o=some j∨S.length≤j)→i < l1.length→l1.length≤1000000→Lq S1 id o1 room l1→(k,v)::l1.eraseIdx i=Pi room l k v→j (.str g) (.bool b) (.int .i64 i) S1) ?_ (fun j hj=>?_)
 ·intro g b i S1 o1 l1 hC1 ho1 hi hl1 hL1 he;obtain⟨y1,_,r2,_⟩:=hL1.loads;obtain⟨oid,rfl⟩:=r2.is_some (fun e=>by rw[e] at hi;simp at hi)
  simp only[hl3,hst3,hbd,AF,CG,AX,Vo];refine P3 hL1 hi hl1 (fun S' hC hL=>?_)
  rw[he] at hL;have hC2:Cg (id::o.toList) S S':=by
   refine⟨Nat.le_trans hC1.1 hC.1,fun j hj hn=>?_⟩
   rw[hC.2 j (Nat.lt_of_lt_of_le hj hC1.1) (fun hm=>?_),hC1.2 j hj hn]
   simp at hm;subst hm;rcases ho1 j rfl with h|h
   ·simp[h] at hn
   ·omega
  have:=hq S' (some oid) g b hC2 ho1 hL;simpa using this
 ·cases hf:Jv l k with
  |some i=>
   obtain⟨x,hx,hk,hi⟩:=I0 hf;have hge:(0:Int)≤i:=by omega
   simp[hge];exact hj [] false i S o l (Cg.refl _ _) (fun j hj=>.inl hj) hi (by omega) h (by simp[Pi,hf])
  |none=>
   by_cases c:(l.length:Int) < room
   ·obtain⟨x2,S2,o2,a1,a2,a3,a4,a5⟩:=XW h2 (by omega)
    have hidl:id < S.length:=(List.getElem?_eq_some_iff.1 h1).1;have g1:S2[id]? =some (.cells [.int .i64 room,y] BZ):=by rw[a3 id hidl h.ne];exact h1
    simp[PrL,BX.c,BX.o,Fnd.none] at a1;have hxf:=a2.strip.2.1;have hxc:x2.cells=[x2]:=by
     cases o2 with
     |none=>obtain⟨rfl,_⟩:=a2;rfl
     |some j=>obtain⟨rfl,_⟩:=a2;rfl
    have hsto:Bn AW S2 (.ptr id 1) x2=some (S2.set id (.cells [.int .i64 room,x2] BZ)):=by
     rw[Be g1];simp[BS,hxc,hxf,A9]
    simp[h3,h4,h5,h6,h7,h8,c,a1,hsto];refine hj [] false l.length _ o2 (l++[([],BX.o)]) ?_ a5 (by simp) (by simp;omega) ⟨⟨x2,Al g1,a2.mono fun j hj=>?_⟩,fun _ _=>by simp⟩ ?_
    ·refine⟨by simpa using a4,fun j hj hn=>?_⟩
     simp at hn;rw[As (fun e=>hn.1 e.symm),a3 j hj (fun e=>hn.2 e)]
    ·subst hj;refine As (fun e=>?_)
     subst e;rcases a5 id rfl with e|e
     ·exact h.ne e
     ·omega
    ·have:(l++[([],BX.o)]).eraseIdx l.length=l:=by
      rw[List.eraseIdx_append_of_length_le (Nat.le_refl _)];simp
     rw[this];simp[Pi,hf,c]
   ·have hpos:0 < l.length:=by omega
    obtain⟨oid,rfl⟩:=h2.is_some (fun e=>by rw[e] at hpos;simp at hpos)
    obtain⟨z,hz⟩:∃z,l[l.length - 1]? =some z:=⟨l[l.length - 1]'(by omega),by rw[List.getElem?_eq_getElem]⟩
    have hix:=h2.idx hT (i:=l.length - 1) (by omega) (k:=.i64)
    have hcl:=h2.cell LQ (T:=AH) rfl hz (k:=0) (by omega)
    have hcz:(PrL z)[0]? =some (.str z.1):=rfl;have w1:IntKind.i64.wrap ((l.length:Int) - 1)=((l.length - 1:Nat):Int):=by rw[wrap64 (by omega) (by omega)];omega
    simp only[Nat.add_zero] at hcl;simp[h3,h4,h5,h7,c,w1,hix,hcl,hcz,Bd];exact hj z.1 true (l.length - 1) S (some oid) l (Cg.refl _ _) (fun j hj=>.inl hj) (by omega) (by omega) h (by simp[Pi,hf,c])
structure ShL(S:St)(p:Nat)(fp:List Nat)(room:Int)(sh:List (List (Str×BX))):Prop where
 ex:∃(q:Nat) (ids:List Nat) (os:List (Option Nat)),fp=p::q::(ids++os.flatMap Option.toList)∧S[p]? =some (.cells [.rs 1 q 0 ids.length] Bk)∧S[q]? =some (.cells (ids.map fun i=>.ptr i 0) 0)∧ids.length=sh.length∧os.length=sh.length∧ids.Nodup∧
  (∀i j o:Nat,os[i]? =some (some o)→os[j]? =some (some o)→i=j)∧∀(i id:Nat) (o:Option Nat) (l:List (Str×BX)),ids[i]? =some id→os[i]? =some o→sh[i]? =some l→Lq S id o room l
 pos:1≤sh.length
 few:sh.length≤256
theorem ShL.fps{S:St}{p:Nat}{fp:List Nat}{room:Int}{sh:List (List (Str×BX))}(h:ShL S p fp room sh):∀j∈fp,∃ob,S[j]? =some ob∧Ni ob∧∀cs tg,ob= .cells cs tg→tg=0∨tg=Bk∨tg=BZ:=by
 obtain⟨q,ids,os,rfl,h1,h2,h3,h4,h5,h6,h7⟩:=h.ex;have hpos:=h.pos;intro j hj;simp only[List.mem_cons,List.mem_append,List.mem_flatMap] at hj;have ptr_ne:∀T:List Ino,(ids.map fun i=>AV.ptr i 0)≠Ab Ino.c T:=by
  intro T e;cases ids with
  |nil=>simp at h3;omega
  |cons a ids=>
   cases T with
   |nil=>simp[Ab] at e
   |cons t T=>simp[Ab,Ino.c] at e
 rcases hj with rfl|rfl|hj|⟨o,ho,hj⟩
 ·exact⟨_,h1,Gd (by decide) (by simp),fun cs tg e=>by cases e;exact .inr (.inl rfl)⟩
 ·exact⟨_,h2,⟨by decide,fun⟨T,e⟩=>ptr_ne T e⟩,fun cs tg e=>by cases e;exact .inl rfl⟩
 ·obtain⟨i,hi,rfl⟩:=List.mem_iff_getElem.1 hj;obtain⟨x,e1,_⟩:=(h7 i ids[i] os[i] sh[i] (by simp[hi]) (by simp[show i < os.length by omega]) (by simp[show i < sh.length by omega])).obj
  exact⟨_,e1,Gd (by decide) (by simp),fun cs tg e=>by cases e;exact .inr (.inr rfl)⟩
 ·obtain⟨i,hi,rfl⟩:=List.mem_iff_getElem.1 ho;simp at hj;have hL:=h7 i (ids[i]'(by omega)) (some j) (sh[i]'(by omega)) (by simp[show i < ids.length by omega]) (by simp[hi,hj]) (by simp[show i < sh.length by omega])
  obtain⟨x,_,e2⟩:=hL.obj;refine⟨_,e2.2,⟨by decide,fun⟨T,e⟩=>?_⟩,fun cs tg e=>by cases e;exact .inl rfl⟩
  have hne:=hL.ful j rfl;generalize sh[i]'(by omega)=l at e hne
  cases l with
  |nil=>exact hne rfl
  |cons a l=>
   cases T with
   |nil=>simp[Ab,PrL] at e
   |cons t T=>simp[Ab,Ino.c,PrL] at e
theorem ShL.lt{S:St}{p:Nat}{fp:List Nat}{room:Int}{sh:List (List (Str×BX))}(h:ShL S p fp room sh):∀j∈fp,j < S.length:=fun j hj=>by
 obtain⟨ob,e,_⟩:=h.fps j hj;exact(List.getElem?_eq_some_iff.1 e).1
theorem ShL.chg{S S':St}{p:Nat}{fp ids':List Nat}{room:Int}{sh:List (List (Str×BX))}(h:ShL S p fp room sh)(k:Cg ids' S S')(hx:∀j∈fp,j ∉ ids'):ShL S' p fp room sh:=by
 obtain⟨q,ids,os,rfl,h1,h2,h3,h4,h5,h6,h7⟩:=h.ex;refine⟨⟨q,ids,os,rfl,k.get h1 (hx p (by simp)),k.get h2 (hx q (by simp)),h3,h4,h5,h6,fun i id o l e1 e2 e3=>(h7 i id o l e1 e2 e3).chg k (hx id (by simp[List.mem_of_getElem? e1])) fun j hj=>hx j ?_⟩,h.pos,h.few⟩
 simp only[List.mem_cons,List.mem_append,List.mem_flatMap];exact .inr (.inr (.inr ⟨o,List.mem_of_getElem? e2,by simp[hj]⟩))
theorem Mk{w0:World}{S:St}{p:Nat}{fp:List Nat}{room:Int}{sh:List (List (Str×BX))}(h:ShL S p fp room sh){k:Str}(hk:k.length≤1000000000){Q:AV→St→Prop}(hq:Q (.int .i64 (ofK sh.length k:Nat)) S):AC w0 Cx [.ptr p 0,.str k] S Q:=by
 obtain⟨q,ids,os,rfl,h1,h2,h3,h4,h5,h6,h7⟩:=h.ex;have hpos:=h.pos;have hfew:=h.few;obtain⟨r1,r2⟩:=WZ k;apply Iu;unfold Fl;have hld:AI AN S (.ptr p 0)=some (.rs 1 q 0 ids.length):=by rw[Ac h1];rfl
 have hln:A6 (.rs 1 q 0 ids.length)=some (.int .i64 ids.length):=rfl;have hcv:Cq .u32 (.int .i64 (ids.length:Int))=some (.int .u32 (ids.length:Int)):=by
  simp only[Cq];rw[i6 (by omega) (by omega)]
 have hne:¬((ids.length:Int)=0):=by omega
 have hrm:AP .rem (.int .u32 (ZO k)) (.int .u32 (ids.length:Int))=some (.int .u32 ((ofK sh.length k:Nat):Int)):=by
  have e:(ZO k).tmod (ids.length:Int)=((ofK sh.length k:Nat):Int):=by
   rw[Int.tmod_eq_emod_of_nonneg r1,h3];unfold ofK;rw[Int.natCast_emod,Int.toNat_of_nonneg r1]
  simp only[AP,GN,if_true,hne,if_false,e]
 have hof:=Gr hpos k;have hc2:Cq .i64 (.int .u32 ((ofK sh.length k:Nat):Int))=some (.int .i64 ((ofK sh.length k:Nat):Int)):=by
  simp only[Cq];rw[wrap64 (by omega) (by omega)]
 simp only[Nat.zero_add,hld,Ey,hln,hcv,AF];refine Uc hk ?_;simp only[hld,Ey,AF,hrm,hc2];exact⟨trivial,hq⟩
theorem ShL.at_{S:St}{p q:Nat}{ids:List Nat}{i id:Nat}(h2:S[q]? =some (.cells (ids.map fun i=>.ptr i 0) 0))(hi:ids[i]? =some id):
  Ae Af (.rs 1 q 0 ids.length) (.int .i64 (i:Nat))=some (.ptr q i)∧AI Af S (.ptr q i)=some (.ptr id 0):=by
 have hlt:=(List.getElem?_eq_some_iff.1 hi).1;refine⟨?_,?_⟩
 ·have:(i:Int) < ids.length:=by omega
  simp[Ae,this]
 ·rw[Ac h2];simp[Dv,hi]
theorem ShL.step{S S':St}{p:Nat}{room:Int}{sh:List (List (Str×BX))}{q:Nat}{ids:List Nat}{os:List (Option Nat)}{i id:Nat}{o o':Option Nat}{l l':List (Str×BX)}(hp:1≤sh.length)(hf:sh.length≤256)
  (h1:S[p]? =some (.cells [.rs 1 q 0 ids.length] Bk)) (h2:S[q]? =some (.cells (ids.map fun i=>.ptr i 0) 0)) (h3:ids.length=sh.length) (h4:os.length=sh.length) (h5:ids.Nodup)
  (h6:∀i j o:Nat,os[i]? =some (some o)→os[j]? =some (some o)→i=j) (h7:∀(i id:Nat) (o:Option Nat) (l:List (Str×BX)),ids[i]? =some id→os[i]? =some o→sh[i]? =some l→Lq S id o room l)
  (e1:ids[i]? =some id) (e2:os[i]? =some o) (e3:sh[i]? =some l) (hC:Cg (id::o.toList) S S') (ho:∀j,o'=some j→o=some j∨S.length≤j) (hL:Lq S' id o' room l'):
  ShL S' p (p::q::(ids++(os.set i o').flatMap Option.toList)) room (sh.set i l')∧Cg (p::q::(ids++os.flatMap Option.toList)) S S'∧∀j∈p::q::(ids++(os.set i o').flatMap Option.toList),j∈p::q::(ids++os.flatMap Option.toList)∨S.length≤j:=by
 have hi:i < ids.length:=(List.getElem?_eq_some_iff.1 e1).1;have hLi:=h7 i id o l e1 e2 e3;obtain⟨x,g1,g2⟩:=hLi.obj;have hpn:p≠id:=by rintro rfl;exact H4 h1 g1 (by decide)
 have hqn:q≠id:=by rintro rfl;exact H4 h2 g1 (by decide)
 have hrow:∀j,o=some j→p≠j∧q≠j∧∀k∈ids,k≠j:=by
  rintro j rfl;have g3:=g2.2;refine⟨?_,?_,?_⟩
  ·rintro rfl;exact H4 h1 g3 (by decide)
  ·rintro rfl;rw[h2] at g3;have hne:=hLi.ful q rfl;cases ids with
   |nil=>simp at hi
   |cons a ids=>
    cases l with
    |nil=>exact hne rfl
    |cons b l=>simp[Ab,PrL] at g3
  ·intro k hk e;subst e;obtain⟨m,hm,e⟩:=List.mem_iff_getElem.1 hk;obtain⟨x2,g4,_⟩:=(h7 m ids[m] (os[m]'(by omega)) (sh[m]'(by omega)) (by simp[hm]) (by simp[show m < os.length by omega]) (by simp[show m < sh.length by omega])).obj
   rw[e] at g4;exact H4 g3 g4 (by decide)
 have nin:∀j,j≠id→(∀k,o=some k→j≠k)→j ∉ id::o.toList:=by
  intro j n1 n2 hm;simp at hm;rcases hm with rfl|hm
  ·exact n1 rfl
  ·exact n2 j hm rfl
 have kp:=hC.get h1 (nin p hpn fun k hk=>(hrow k hk).1)
 have kq:=hC.get h2 (nin q hqn fun k hk=>(hrow k hk).2.1)
 refine⟨⟨⟨q,ids,os.set i o',rfl,kp,kq,by simpa using h3,by simpa using h4,h5,?_,?_⟩,by simpa using hp,by simpa using hf⟩,hC.sub ?_,?_⟩
 ·have key:∀a b ob,a≠i→(os.set i o')[a]? =some (some ob)→(os.set i o')[b]? =some (some ob)→a=b:=by
   intro a b ob ha ea eb;rw[List.getElem?_set_ne (fun e=>ha e.symm)] at ea
   by_cases hb:b=i
   ·subst hb;rw[List.getElem?_set_self (by omega)] at eb
    cases eb;rcases ho ob rfl with rfl|hge
    ·exact h6 a b ob ea e2
    ·exfalso;have hal:=(List.getElem?_eq_some_iff.1 ea).1;obtain⟨x2,_,g5⟩:=(h7 a (ids[a]'(by omega)) (some ob) (sh[a]'(by omega)) (by simp[show a < ids.length by omega]) ea (by simp[show a < sh.length by omega])).obj
     have:=g5.lt;omega
   ·rw[List.getElem?_set_ne (fun e=>hb e.symm)] at eb
    exact h6 a b ob ea eb
  intro a b ob ea eb
  by_cases ha:a=i
  ·by_cases hb:b=i
   ·rw[ha,hb]
   ·exact(key b a ob hb eb ea).symm
  ·exact key a b ob ha ea eb
 ·intro a ida oa la ea eb ec
  by_cases ha:a=i
  ·subst ha;rw[List.getElem?_set_self (by omega)] at eb ec
   rw[e1] at ea;cases ea;cases eb;cases ec;exact hL
  ·rw[List.getElem?_set_ne (fun e=>ha e.symm)] at eb ec
   refine(h7 a ida oa la ea eb ec).chg hC (nin ida (fun e=>ha ?_) fun k hk=>(hrow k hk).2.2 ida (List.mem_of_getElem? ea)) fun j hj=>nin j (fun e=>?_) fun k hk e=>?_
   ·subst e;obtain⟨ha2,ea2⟩:=List.getElem?_eq_some_iff.1 ea;obtain⟨hi2,ei2⟩:=List.getElem?_eq_some_iff.1 e1;exact(List.getElem_inj h5).1 (ea2.trans ei2.symm)
   ·subst hj;subst e;obtain⟨x2,_,g5⟩:=(h7 a ida _ la ea eb ec).obj;exact H4 g5.2 g1 (by decide)
   ·subst hj;subst hk;subst e;exact ha (h6 a i j eb e2)
 ·intro j hj;simp only[List.mem_cons,List.mem_append,List.mem_flatMap] at hj ⊢;rcases hj with rfl|hj
  ·exact .inr (.inr (.inl (List.mem_of_getElem? e1)))
  ·exact .inr (.inr (.inr ⟨o,List.mem_of_getElem? e2,hj⟩))
 ·intro j hj;simp only[List.mem_cons,List.mem_append,List.mem_flatMap] at hj ⊢;rcases hj with rfl|rfl|hj|⟨ob,hob,hj⟩
  ·exact .inl (.inl rfl)
  ·exact .inl (.inr (.inl rfl))
  ·exact .inl (.inr (.inr (.inl hj)))
  ·rcases List.mem_or_eq_of_mem_set hob with hob|rfl
   ·exact .inl (.inr (.inr (.inr ⟨ob,hob,hj⟩)))
   ·simp at hj;rcases ho j hj with h|h
    ·exact .inl (.inr (.inr (.inr ⟨o,List.mem_of_getElem? e2,by simp[h]⟩)))
    ·exact .inr h
theorem Ps{w0:World}{S:St}{p:Nat}{fp:List Nat}{room:Int}{sh:List (List (Str×BX))}(h:ShL S p fp room sh)(hl:∀l∈sh,l.length≤1000000){k:Str}(hk:k.length≤1000000000){Q:AV→St→Prop}
  (hq:∀S' fp' i l,i=ofK sh.length k→sh[i]? =some l→Cg fp S S'→(∀j∈fp',j∈fp∨S.length≤j)→ShL S' p fp' room (sh.set i (C9 l k).2)→Q (.tup [.agg (((C9 l k).1.getD BX.o).c),.bool (C9 l k).1.isSome]) S'):AC w0 DS [.ptr p 0,.str k] S Q:=by
 have h0:=h;obtain⟨q,ids,os,rfl,h1,h2,h3,h4,h5,h6,h7⟩:=h.ex;have hpos:=h.pos;have hof:=Gr hpos k;have e1:ids[ofK sh.length k]? =some (ids[ofK sh.length k]'(by omega)):=by rw[List.getElem?_eq_getElem]
 have e2:os[ofK sh.length k]? =some (os[ofK sh.length k]'(by omega)):=by rw[List.getElem?_eq_getElem]
 have e3:sh[ofK sh.length k]? =some (sh[ofK sh.length k]'(by omega)):=by rw[List.getElem?_eq_getElem]
 generalize ids[ofK sh.length k]'(by omega)=id at e1
 generalize os[ofK sh.length k]'(by omega)=o at e2
 generalize sh[ofK sh.length k]'(by omega)=l at e3
 apply If;unfold Fa;have hld:AI AN S (.ptr p 0)=some (.rs 1 q 0 ids.length):=by rw[Ac h1];rfl
 obtain⟨a1,a2⟩:=ShL.at_ (S:=S) (p:=p) h2 e1;simp only[Nat.zero_add,hld,Ey,AF];refine Mk h0 hk ?_;have hca:CD [.ptr id 0,.str k]=some [.ptr id 0,.str k]:=by simp[CD]
 simp only[hld,Ey,AF,a1,a2,Bq,AX,hca,true_and];refine bE (h7 _ id o l e1 e2 e3) (hl l (List.mem_of_getElem? e3)) (fun S' hC hL=>?_)
 obtain⟨k1,k2,k3⟩:=ShL.step hpos h.few h1 h2 h3 h4 h5 h6 h7 e1 e2 e3 (hC.sub fun j hj=>by simp at hj ⊢;exact .inr hj) (fun j hj=>.inl hj) hL
 have:=hq S' _ _ l rfl e3 k2 k3 k1;have hs2:∀v:BX,AZ BE (some [AV.int .i64 0,.vs 2 [] .nil]) 0 (.agg v.c)=some v.c:=fun v=>by simp[AZ,BS,A9,BX.c]
 have hl3:∀v:BX,AB BE (some v.c) 0=some (.agg v.c):=fun v=>by simp[AB,Dv,BX.c]
 have hst:∀v:BX,(AV.agg v.c).strip= .agg v.c:=fun v=>by simp[BX.c]
 have hx0:∀(v:BX) (b:Bool),AK (.tup [.agg v.c,.bool b]) 0=some (.agg v.c):=fun _ _=>rfl
 have hx1:∀(v:BX) (b:Bool),AK (AQ (.tup [.agg v.c,.bool b]) 0) 1=some (.bool b):=fun _ _=>rfl
 simp only[hx0,hx1,hs2,hl3,hst,AF,Option.map_some];exact this
theorem Xm{w0:World}{S:St}{p:Nat}{fp:List Nat}{room:Int}{sh:List (List (Str×BX))}(h:ShL S p fp room sh)(hl:∀l∈sh,l.length≤900000)(hroom:1≤room){k:Str}(hk:k.length≤1000000000){v:BX}{Q:AV→St→Prop}
  (hq:∀S' fp' i l g b,i=ofK sh.length k→sh[i]? =some l→Cg fp S S'→(∀j∈fp',j∈fp∨S.length≤j)→ShL S' p fp' room (sh.set i (Pi room l k v))→Q (.tup [.str g,.bool b]) S'):AC w0 DQ [.ptr p 0,.str k,.agg v.c] S Q:=by
 have h0:=h;obtain⟨q,ids,os,rfl,h1,h2,h3,h4,h5,h6,h7⟩:=h.ex;have hpos:=h.pos;have hof:=Gr hpos k;have e1:ids[ofK sh.length k]? =some (ids[ofK sh.length k]'(by omega)):=by rw[List.getElem?_eq_getElem]
 have e2:os[ofK sh.length k]? =some (os[ofK sh.length k]'(by omega)):=by rw[List.getElem?_eq_getElem]
 have e3:sh[ofK sh.length k]? =some (sh[ofK sh.length k]'(by omega)):=by rw[List.getElem?_eq_getElem]
 generalize ids[ofK sh.length k]'(by omega)=id at e1
 generalize os[ofK sh.length k]'(by omega)=o at e2
 generalize sh[ofK sh.length k]'(by omega)=l at e3
 have hbx:CC BE (.agg v.c)=some v.c:=by simp[CC,BX.c]
 have hl3:AB BE (some v.c) 0=some (.agg v.c):=by simp[AB,Dv,BX.c]
 have hst:(AV.agg v.c).strip= .agg v.c:=by simp[BX.c]
 have hvc:=v.c_eq;rw[hvc];apply Ie;unfold FW;simp only[←hvc];have hld:AI AN S (.ptr p 0)=some (.rs 1 q 0 ids.length):=by rw[Ac h1];rfl
 obtain⟨a1,a2⟩:=ShL.at_ (S:=S) (p:=p) h2 e1;simp only[Nat.zero_add,hld,Ey,AF,hbx,hl3];refine Mk h0 hk ?_;have hca:CD [.ptr id 0,.str k,.agg v.c]=some [.ptr id 0,.str k,.agg v.c]:=by simp[CD,BX.c]
 simp only[hld,Ey,AF,a1,a2,Bq,hst,AX,hca,true_and];refine bK (h7 _ id o l e1 e2 e3) (hl l (List.mem_of_getElem? e3)) hroom (fun S' o' g b hC ho hL=>?_)
 obtain⟨k1,k2,k3⟩:=ShL.step hpos h.few h1 h2 h3 h4 h5 h6 h7 e1 e2 e3 hC ho hL;have:=hq S' _ _ l g b rfl e3 k2 k3 k1;have hx0:AK (.tup [.str g,.bool b]) 0=some (.str g):=rfl;have hx1:AK (AQ (.tup [.str g,.bool b]) 0) 1=some (.bool b):=rfl;simp only[hx0,hx1,AF];exact this
theorem Wf{w0:World}{S:St}{p:Nat}{fp:List Nat}{room:Int}{sh:List (List (Str×BX))}(h:ShL S p fp room sh){Q:AV→St→Prop}(hq:Q (.int .i64 (Ub sh:Nat)) S):AC w0 D3 [.ptr p 0] S Q:=by
 obtain⟨q,ids,os,rfl,h1,h2,h3,h4,h5,h6,h7⟩:=h.ex;have hfew:=h.few;apply IC;unfold FD;have hld:AI AN S (.ptr p 0)=some (.rs 1 q 0 ids.length):=by rw[Ac h1];rfl
 have hln:A6 (.rs 1 q 0 ids.length)=some (.int .i64 (ids.length:Int)):=rfl;rw[AO];simp only[Nat.zero_add,hld,Ey,hln,AF];rw[h3];refine BN sh (fun i (n:Nat)=>([.int .i64 n,.int .i64 i],[])) (fun i n S'=>S'=S∧n=(sh.take i).foldl (fun n l=>max n l.length) 0) 0 (by simp) ⟨rfl,by simp⟩ ?_ ?_
 ·rintro i n S' v bx l c hxi hd hc hmem ⟨rfl,rfl⟩ hv;simp only[Prod.mk.injEq,List.cons.injEq,and_true] at hv;obtain⟨hv0,hv1⟩:=hv;have e1:ids[i]? =some (ids[i]'(by omega)):=by rw[List.getElem?_eq_getElem]
  have e2:os[i]? =some (os[i]'(by omega)):=by rw[List.getElem?_eq_getElem]
  obtain⟨a1,a2⟩:=ShL.at_ (S:=S') (p:=p) h2 e1;rw[h3] at a1;have hca:CD [.ptr (ids[i]'(by omega)) 0]=some [.ptr (ids[i]'(by omega)) 0]:=by simp[CD]
  simp only[hv0,hv1,GL,AF,hc,decide_true,Cf,a1,a2,Bq,AX,hca];refine bp (h7 i _ _ l e1 e2 hxi) ?_;have hmx:∀a b:Nat,SU [.int .i64 (a:Int),.int .i64 (b:Int)]=some (.int .i64 ((max a b:Nat):Int)):=fun a b=>by
   simp[SU]
   by_cases hab:a < b
   ·simp[hab];omega
   ·simp[hab];omega
  have w1:IntKind.i64.wrap ((i:Int)+1)=(i:Int)+1:=wrap64 (by omega) (by omega)
  have had:AP .add (.int .i64 (i:Int)) (.int .i64 1)=some (.int .i64 ((i:Int)+1)):=by simp[w1]
  simp only[CG,hmx,had,AF];refine .next c (max ((sh.take i).foldl (fun n l=>max n l.length) 0) l.length) (by simp) ⟨rfl,?_⟩
  rw[List.take_succ,hxi,List.foldl_append];rfl
 ·rintro n S' v bx ⟨rfl,rfl⟩ hv N;simp only[Prod.mk.injEq,List.cons.injEq,and_true] at hv;obtain⟨hv0,hv1⟩:=hv;rw[List.take_length] at hv0;simp[hv0,hv1];exact hq
theorem XA{w0:World}{S:St}{many room:Int}{Q:AV→St→Prop}
  (hq:∀S' p fp,Sx S S'→(∀j∈fp,S.length≤j)→ShL S' p fp (Fg room) (List.replicate (Eh many) [])→Q (.ptr p 0) S'):AC w0 FQ [.int .i64 many,.int .i64 room] S Q:=by
 apply Lt;unfold HY;obtain⟨m1,m2,m3⟩:=Yg many;rw[←m3];have hbx:CC B3 (.agg [.vs 1 [] .nil])=some [.vs 1 [] .nil]:=by simp[CC]
 simp only[hbx,AF];rw[AO];refine Fw (fun i:Nat=>([.int .i64 i],[])) (fun n i S'=>n=Eh many - i∧i≤Eh many∧Sx S S'∧S.length < S'.length∧∃x o ids,S'[S.length]? =some (.cells [x] Bk)∧Fb Un 1 S' x ids o∧ids.length=i∧ids.Nodup∧(∀j,o=some j→S.length < j)∧∀id∈ids,S.length≤id∧Lq S' id none (Fg room) [])
  (Eh many) 0 (by simp) ⟨rfl,by omega,Sx.app S _,by simp,.vs 1 [] .nil,none,[],by simp,⟨rfl,rfl⟩,rfl,List.nodup_nil,(fun j hj=>by cases hj),by simp⟩ ?_
 rintro n i S1 v bx ⟨rfl,hi,hS1,hlt,x,o,ids,g1,g2,g3,g4,g5,g6⟩ hv;simp at hv;have hld:AI AN S1 (.ptr S.length 0)=some x:=by rw[Ac g1];rfl
 obtain⟨x1,x2,_,x3⟩:=g2.strip
 by_cases c:i < Eh many
 ·have c1:(i:Int) < (Eh many:Int):=by omega
  simp only[hv,GL,AF,c1,decide_true,Cf,hld,x1];refine aX (fun S2 hS2 hl2 hL2=>?_)
  have g1':=hS2.get g1;have hld2:AI AN S2 (.ptr S.length 0)=some x:=by rw[Ac g1'];rfl
  have g2':=g2.sx hS2;obtain⟨x',S3,o',b1,b2,b3,b4,b5⟩:=Fb.append (enc:=Un) (n:=1) (l:=ids) (o:=o) (fun _=>rfl) (h:=g2') (T:=Af) rfl (m:=[S1.length]) (y:=.vs 1 [Un S1.length] .full) (by simp[BO]) (by simp[lim];omega)
  have hev:CE 1 [.ptr S1.length 0]=some [Un S1.length]:=by simp[CE,Un]
  have hoS:o≠some S.length:=fun e=>by have:=g5 _ e;omega
  have g1'':S3[S.length]? =some (.cells [x] Bk):=by rw[b3 S.length (by omega) hoS];exact g1'
  obtain⟨y1,y2,_,y3⟩:=b2.strip;have hxc:x'.cells=[x']:=by
   cases o' with
   |none=>obtain⟨rfl,_⟩:=b2;rfl
   |some j=>obtain⟨rfl,_⟩:=b2;rfl
  have hsto:Bn AN S3 (.ptr S.length 0) x'=some (S3.set S.length (.cells [x'] Bk)):=by
   rw[Be g1''];simp[BS,hxc,y2,A9]
  have w1:IntKind.i64.wrap ((i:Int)+1)=((i+1:Nat):Int):=by rw[wrap64 (by omega) (by omega)];rfl
  have had:AP .add (.int .i64 (i:Int)) (.int .i64 1)=some (.int .i64 ((i+1:Nat):Int)):=by simp[w1]
  simp only[hld2,AF,x1,hev,b1,hsto,had,CG,true_and];have hlt3:S2.length≤S3.length:=b4;have hfr:∀j,j < S2.length→o≠some j→j≠S.length→(S3.set S.length (.cells [x'] Bk))[j]? =S2[j]?:=fun j h1 h2 h3=>by
   rw[As (fun e=>h3 e.symm),b3 j h1 h2]
  have hnew:∀j,o'=some j→S.length < j:=fun j hj=>by
   rcases b5 j hj with h|h
   ·exact g5 j h
   ·omega
  refine⟨_,i+1,?_,rfl,rfl,by omega,?_,?_,x',o',ids++[S1.length],?_,?_,by simp[g3],?_,hnew,?_⟩
  ·omega
  ·intro j hj;rw[hfr j (by omega) (fun e=>by have:=g5 j e;omega) (by omega),hS2 j (by omega),hS1 j hj]
  ·simp;omega
  ·exact Al g1''
  ·exact b2.mono fun j hj=>As (fun e=>by have:=hnew j hj;omega)
  ·rw[List.nodup_append];refine⟨g4,by simp,fun a ha b hb=>?_⟩
   simp at hb;subst hb;obtain⟨x9,e9,_⟩:=(g6 a ha).2.obj;have:=(List.getElem?_eq_some_iff.1 e9).1;omega
  ·intro id hid;rcases List.mem_append.1 hid with hid|hid
   ·obtain⟨k1,k2⟩:=g6 id hid;obtain⟨x9,e9,r9⟩:=k2.obj;have hidl:=(List.getElem?_eq_some_iff.1 e9).1;have hne1:id≠S.length:=fun e=>by rw[e] at e9;exact H4 g1 e9 (by decide)
    have hne2:o≠some id:=fun e=>by
     subst e;exact H4 g2.2 e9 (by decide)
    refine⟨k1,⟨⟨x9,?_,r9⟩,fun j hj=>by cases hj⟩⟩
    rw[hfr id (by omega) hne2 hne1,hS2 id hidl]
    exact e9
   ·simp at hid;subst hid;obtain⟨x9,e9,r9⟩:=hL2.obj;have hne1:S1.length≠S.length:=by omega
    have hne2:o≠some S1.length:=fun e=>by
     subst e;have:=g2.lt;omega
    refine⟨by omega,⟨⟨x9,?_,r9⟩,fun j hj=>by cases hj⟩⟩
    rw[hfr S1.length (by omega) hne2 hne1]
    exact e9
 ·have hie:i=Eh many:=by omega
  have c1:¬(i:Int) < (Eh many:Int):=by omega
  simp only[hv,GL,AF,c1,decide_false,CP];obtain⟨q,rfl⟩:=g2.is_some (fun e=>by rw[e] at g3;simp at g3;omega)
  obtain⟨rfl,g7⟩:=g2;refine hq S1 S.length (S.length::q::(ids++(List.replicate (Eh many) (none:Option Nat)).flatMap Option.toList)) hS1 ?_ ⟨⟨q,ids,List.replicate (Eh many) none,rfl,g1,?_,by simp[g3,hie],by simp,g4,?_,?_⟩,by simpa using m1,by simpa using m2⟩
  ·intro j hj;simp only[List.mem_cons,List.mem_append,List.mem_flatMap] at hj;rcases hj with rfl|rfl|hj|⟨o2,ho2,hj⟩
   ·exact Nat.le_refl _
   ·have:=g5 _ rfl;omega
   ·exact(g6 j hj).1
   ·obtain⟨_,rfl⟩:=List.mem_replicate.1 ho2;simp at hj
  ·rw[g7];congr 1;congr 1;have:∀l:List Nat,Ab Un l=l.map fun i=>AV.ptr i 0:=fun l=>by
    induction l with
    |nil=>rfl
    |cons a l ih=>simp only[Ab,List.flatMap_cons,List.map_cons] at ih ⊢;rw[ih];rfl
   exact this ids
  ·intro a b ob ea;rw[List.getElem?_replicate] at ea;split at ea<;>cases ea
  ·intro a ida oa la ea eb ec;have h1:=List.mem_replicate.1 (List.mem_of_getElem? eb);have h2:=List.mem_replicate.1 (List.mem_of_getElem? ec);rw[h1.2,h2.2];exact(g6 ida (List.mem_of_getElem? ea)).2
structure LcA(S:St)(c:Nat)(fp:List Nat)(made room:Int)(sh:List (List (Str×BX))):Prop where
 ex:∃(p:Nat) (fp0:List Nat),fp=c::fp0∧c ∉ fp0∧S[c]? =some (.cells [.ptr p 0,.int .i64 made] DY)∧ShL S p fp0 room sh
theorem LcA.pos{S:St}{c:Nat}{fp:List Nat}{made room:Int}{sh:List (List (Str×BX))}(h:LcA S c fp made room sh):1≤sh.length:=by
 obtain⟨p,fp0,rfl,h1,h2,h3⟩:=h.ex;exact h3.pos
theorem LcA.notBr{S:St}{c:Nat}{fp:List Nat}{made room:Int}{sh:List (List (Str×BX))}(h:LcA S c fp made room sh):∀j∈fp,j < S.length∧∀o,S[j]? =some o→Ni o:=by
 obtain⟨p,fp0,rfl,h1,h2,h3⟩:=h.ex;intro j hj;rcases List.mem_cons.1 hj with rfl|hj
 ·refine⟨(List.getElem?_eq_some_iff.1 h2).1,fun o ho=>?_⟩
  rw[h2] at ho;cases ho;exact Gd (by decide) (by simp)
 ·obtain⟨ob,e1,e2,_⟩:=h3.fps j hj;refine⟨h3.lt j hj,fun o ho=>?_⟩
  rw[e1] at ho;cases ho;exact e2
theorem LcA.chg{S S':St}{c:Nat}{fp ids:List Nat}{made room:Int}{sh:List (List (Str×BX))}(h:LcA S c fp made room sh)(k:Cg ids S S')(hx:∀j∈fp,j ∉ ids):LcA S' c fp made room sh:=by
 obtain⟨p,fp0,rfl,h1,h2,h3⟩:=h.ex;exact⟨p,fp0,rfl,h1,k.get h2 (hx c (by simp)),h3.chg k fun j hj=>hx j (by simp[hj])⟩
theorem BX.st(e:BX):AZ BE (some [AV.int .i64 0,.vs 2 [] .nil]) 0 (.agg e.c)=some e.c:=by simp[AZ,BS,A9,BX.c]
theorem LcA.frame{S S1:St}{c p:Nat}{fp0 fp1:List Nat}{x:AV}(g2:S[c]? =some (.cells [.ptr p 0,x] DY))(g1:c ∉ fp0)(hC:Cg fp0 S S1)(hfp:∀j∈fp1,j∈fp0∨S.length≤j):
  S1[c]? =some (.cells [.ptr p 0,x] DY)∧c ∉ fp1∧Cg (c::fp0) S S1∧∀j∈c::fp1,j∈c::fp0∨S.length≤j:=by
 have hcl:c < S.length:=(List.getElem?_eq_some_iff.1 g2).1;refine⟨hC.get g2 g1,fun hm=>?_,hC.sub fun j hj=>by simp[hj],fun j hj=>?_⟩
 ·rcases hfp c hm with h|h
  ·exact g1 h
  ·omega
 ·rcases List.mem_cons.1 hj with rfl|hj
  ·exact .inl (by simp)
  ·rcases hfp j hj with h|h
   ·exact .inl (by simp[h])
   ·exact .inr h
theorem eF{S:St}{L:List Ent}{r:Rt}(hl:L.length≤10000000):∃q,Aj Bz S (.vs 2 [] .nil) (.vs 2 (L.map Ent.c) r)=some (.vs 2 (L.map Ent.c) q):=by
 cases hL:L with
 |nil=>exact⟨.nil,by simp[Aj,BO]⟩
 |cons a l=>
  have:(a::l).length≤lim:=by rw[←hL];simp only[lim];omega
  have h2:Bz.size=2:=rfl;rw[List.length_cons] at this;exact⟨.own (C4 Bz .nil),by simp[Aj,BO,h2,this]⟩
theorem Xx{w0:World}{S:St}{c:Nat}{fp:List Nat}{made room:Int}{sh:List (List (Str×BX))}(h:LcA S c fp made room sh)(hl:∀l∈sh,l.length≤1000000∧∀p∈l,p.2.l.length≤10000000){epoch:Int}{d:Str}(hs:d.length≤100000000){Q:AV→St→Prop}
  (h1:∀S' fp' l x q,sh[ofK sh.length d]? =some l→(C9 l d).1=some x→x.epoch=epoch→Cg fp S S'→(∀j∈fp',j∈fp∨S.length≤j)→LcA S' c fp' made room (sh.set (ofK sh.length d) (C9 l d).2)→Q (.tup [.vs 2 (x.l.map Ent.c) q,.bool true]) S')
  (h2:∀S' fp' l,sh[ofK sh.length d]? =some l→(∀x,(C9 l d).1=some x→x.epoch≠epoch)→Cg fp S S'→(∀j∈fp',j∈fp∨S.length≤j)→LcA S' c fp' made room (sh.set (ofK sh.length d) (C9 l d).2)→Q (.tup [.vs 2 [] .nil,.bool false]) S'):
  AC w0 Gq [.ptr c 0,.int .i64 epoch,.str d] S Q:=by
 obtain⟨p,fp0,rfl,g1,g2,g3⟩:=h.ex;apply PL;unfold KJ;have hld:AI Ao S (.ptr c 0)=some (.ptr p 0):=by rw[Ac g2];rfl
 have hca:CD [.ptr p 0,.str d]=some [.ptr p 0,.str d]:=Ck rfl rfl;simp only[Nat.zero_add,hld,Bq,AF,AX,hca];refine Ps g3 (fun l hm=>(hl l hm).1) (by omega) (fun S1 fp1 i l hi hsl hC hfp hSh=>?_)
 subst hi;obtain⟨hc1,hnc,hC1,hfp1⟩:=LcA.frame g2 g1 hC hfp;have hA:LcA S1 c (c::fp1) made room (sh.set (ofK sh.length d) (C9 l d).2):=⟨p,fp1,rfl,hnc,hc1,hSh⟩;have hx0:∀(v:BX) (b:Bool),AK (.tup [.agg v.c,.bool b]) 0=some (.agg v.c):=fun _ _=>rfl
 have hx1:∀(v:BX) (b:Bool),AK (AQ (.tup [.agg v.c,.bool b]) 0) 1=some (.bool b):=fun _ _=>rfl
 have hep:∀v:BX,AB Ak (some v.c) 0=some (.int .i64 v.epoch):=fun _=>rfl
 have hls:∀v:BX,AB ET (some v.c) 1=some (.vs 2 (v.l.map Ent.c) v.r.strip):=fun _=>rfl
 cases hg:(C9 l d).1 with
 |none=>
  have:=h2 S1 (c::fp1) l hsl (fun e he=>by rw[hg] at he;cases he) hC1 hfp1 hA
  simp only[Option.getD_none,Option.isSome_none,hx0,hx1,BX.st,AF,Ci,unA,Bool.not_false,AO,Cf,Aq];exact this
 |some x=>
  by_cases he:x.epoch=epoch
  ·have hxl:=(hl l (List.mem_of_getElem? hsl)).2 _ (YB hg);obtain⟨q,hq⟩:=eF (S:=S1) (r:=x.r.strip.strip) hxl;have:=h1 S1 (c::fp1) l x q hsl hg he hC1 hfp1 hA;have hne:AP .neq (.int .i64 x.epoch) (.int .i64 epoch)=some (.bool false):=by simp[he]
   simp only[Option.getD_some,Option.isSome_some,hx0,hx1,BX.st,AF,Ci,unA,Bool.not_true,AO,CP,Aq,hep,CG,hne,hls,ML,hq];exact this
  ·have:=h2 S1 (c::fp1) l hsl (fun e' he'=>by rw[hg] at he';cases he';exact he) hC1 hfp1 hA
   have hne:AP .neq (.int .i64 x.epoch) (.int .i64 epoch)=some (.bool true):=by simp[he]
   simp only[Option.getD_some,Option.isSome_some,hx0,hx1,BX.st,AF,Ci,unA,Bool.not_true,AO,CP,Cf,Aq,hep,CG,hne];exact this
def aF(room:Int)(l:List (Str×BX))(k:Str)(epoch:Int)(L:List Ent)(l2:List (Str×BX)):Prop:=(l2=(C9 l k).2∧∃w,(C9 l k).1=some w∧epoch < w.epoch)∨((∃r,l2=Pi room (C9 l k).2 k ⟨epoch,L,r⟩)∧∀w,(C9 l k).1=some w→w.epoch≤epoch)
theorem XR{w0:World}{S:St}{c:Nat}{fp:List Nat}{made room:Int}{sh:List (List (Str×BX))}(h:LcA S c fp made room sh)(hroom:1≤room)(hl:∀l∈sh,l.length≤900000){epoch:Int}{d:Str}(hs:d.length≤100000000){L:List Ent}{r:Rt}(hL:L.length≤10000000){Q:AV→St→Prop}
  (h1:∀S' fp' l l2 b,sh[ofK sh.length d]? =some l→aF room l d epoch L l2→Cg fp S S'→(∀j∈fp',j∈fp∨S.length≤j)→LcA S' c fp' made room (sh.set (ofK sh.length d) l2)→Q (.bool b) S'):
  AC w0 Gm [.ptr c 0,.int .i64 epoch,.str d,.vs 2 (L.map Ent.c) r] S Q:=by
 obtain⟨p,fp0,rfl,g1,g2,g3⟩:=h.ex;apply PJ;unfold KB;have hld:∀S':St,S'[c]? =some (.cells [.ptr p 0,.int .i64 made] DY)→AI Ao S' (.ptr c 0)=some (.ptr p 0):=fun S' e=>by rw[Ac e];rfl
 have hca:CD [.ptr p 0,.str d]=some [.ptr p 0,.str d]:=Ck rfl rfl;simp only[Nat.zero_add,hld S g2,Bq,AF,AX,hca];refine Ps g3 (fun l hm=>by have:=hl l hm;omega) (by omega) (fun S1 fp1 i l hi hsl hC hfp hSh=>?_)
 subst hi;obtain⟨hc1,hnc,hC1,hfp1⟩:=LcA.frame g2 g1 hC hfp;have hA:LcA S1 c (c::fp1) made room (sh.set (ofK sh.length d) (C9 l d).2):=⟨p,fp1,rfl,hnc,hc1,hSh⟩;have hx0:∀(v:BX) (b:Bool),AK (.tup [.agg v.c,.bool b]) 0=some (.agg v.c):=fun _ _=>rfl
 have hx1:∀(v:BX) (b:Bool),AK (AQ (.tup [.agg v.c,.bool b]) 0) 1=some (.bool b):=fun _ _=>rfl
 have hep:∀v:BX,AB Ak (some v.c) 0=some (.int .i64 v.epoch):=fun _=>rfl
 have hif:ofK (sh.set (ofK sh.length d) (C9 l d).2).length d=ofK sh.length d:=by simp
 have hofl:=Gr g3.pos d;obtain⟨q,hap⟩:=eF (S:=S1) (r:=r.strip) hL;have hbd:By BE 1 [(0,.int .i64 epoch),(1,.vs 2 (L.map Ent.c) q)]=some (.agg (⟨epoch,L,q⟩:BX).c):=by simp[By,Md,A9,BX.c]
 have hcp:CD [.ptr p 0,.str d,.agg (⟨epoch,L,q⟩:BX).c]=some [.ptr p 0,.str d,.agg (⟨epoch,L,q⟩:BX).c]:=Ck (by simp[BX.c]) (by simp[BX.c])
 have q1:=hld S1 hc1;have hput:(∀w,(C9 l d).1=some w→w.epoch≤epoch)→AC w0 DQ [.ptr p 0,.str d,.agg (⟨epoch,L,q⟩:BX).c] S1 fun t39 S_4=>Q (.bool true) S_4:=by
  intro hw;refine Xm hSh (fun l' hm=>?_) hroom (by omega) (fun S2 fp2 i l' g b hi hsl' hC2 hfp2 hSh2=>?_)
  ·rcases List.mem_or_eq_of_mem_set hm with hm|rfl
   ·exact hl l' hm
   ·rw[Sa];exact hl l (List.mem_of_getElem? hsl)
  ·subst hi;rw[hif] at hsl' hSh2;rw[List.getElem?_set_self hofl] at hsl';cases hsl';rw[List.set_set] at hSh2;have hc2:=hC2.get hc1 hnc;have hnc2:c ∉ fp2:=fun hm=>by
    rcases hfp2 c hm with h|h
    ·exact hnc h
    ·have:=hC.1;have:=(List.getElem?_eq_some_iff.1 g2).1;omega
   refine h1 S2 (c::fp2) l _ true hsl (.inr ⟨⟨q,rfl⟩,hw⟩) ⟨Nat.le_trans hC.1 hC2.1,fun j hj hn=>?_⟩ ?_ ⟨p,fp2,rfl,hnc2,hc2,hSh2⟩
   ·simp at hn;rw[hC2.2 j (Nat.lt_of_lt_of_le hj hC.1) (fun hm=>by rcases hfp j hm with h|h;exact hn.2 h;omega),hC.2 j hj hn.2]
   ·intro j hj;rcases List.mem_cons.1 hj with rfl|hj
    ·exact .inl (by simp)
    ·rcases hfp2 j hj with h|h
     ·exact hfp1 j (by simp[h])
     ·exact .inr (Nat.le_trans hC.1 h)
 cases hg:(C9 l d).1 with
 |none=>
  have:=hput (fun w hw=>by rw[hg] at hw;cases hw)
  simp only[Option.getD_none,Option.isSome_none,hx0,hx1,BX.st,AF,Ci,AO,CP,Aq,q1,Bq,hap,hbd,AX,hcp];exact this
 |some w=>
  by_cases hw:epoch < w.epoch
  ·have:=h1 S1 (c::fp1) l _ false hsl (.inl ⟨rfl,w,hg,hw⟩) hC1 hfp1 hA;have hgt:AP .gtr (.int .i64 w.epoch) (.int .i64 epoch)=some (.bool true):=by simp[hw]
   simp only[Option.getD_some,Option.isSome_some,hx0,hx1,BX.st,AF,Ci,AO,Cf,Aq,hep,CG,hgt];exact this
  ·have:=hput (fun w' hw'=>by rw[hg] at hw';cases hw';omega)
   have hgt:AP .gtr (.int .i64 w.epoch) (.int .i64 epoch)=some (.bool false):=by simp;omega
   simp only[Option.getD_some,Option.isSome_some,hx0,hx1,BX.st,AF,Ci,AO,Cf,CP,Aq,hep,CG,hgt,q1,Bq,hap,hbd,AX,hcp];exact this
theorem XY{w0:World}{S:St}{c:Nat}{fp:List Nat}{made room:Int}{sh:List (List (Str×BX))}(h:LcA S c fp made room sh)(hroom:1≤room)(hl:∀l∈sh,l.length≤900000∧∀p∈l,p.2.l.length≤10000000)(hm:0≤made∧made≤1000000000){epoch:Int}{d:Str}(hs:d.length≤100000000){f:AV}{g:Nat}{xs:List AV}(hf:Lj f.strip []=some (g,xs)){Q:AV→St→Prop}
  (h1:∀S' fp' l x q,sh[ofK sh.length d]? =some l→(C9 l d).1=some x→x.epoch=epoch→Cg fp S S'→(∀j∈fp',j∈fp∨S.length≤j)→LcA S' c fp' made room (sh.set (ofK sh.length d) (C9 l d).2)→Q (.vs 2 (x.l.map Ent.c) q) S')
  (h2:∀S' fp' l,sh[ofK sh.length d]? =some l→(∀x,(C9 l d).1=some x→x.epoch≠epoch)→Cg fp S S'→(∀j∈fp',j∈fp∨S.length≤j)→LcA S' c fp' (made+1) room (sh.set (ofK sh.length d) (C9 l d).2)→
   AC w0 g xs S' fun r S2=>∃L rr,r= .vs 2 (L.map Ent.c) rr∧L.length≤10000000∧Sx S' S2∧∀S3 fp3 l3 q,aF room l d epoch L l3→Cg fp S S3→(∀j∈fp3,j∈fp∨S.length≤j)→LcA S3 c fp3 (made+1) room (sh.set (ofK sh.length d) l3)→Q (.vs 2 (L.map Ent.c) q) S3):
  AC w0 Gu [.ptr c 0,.int .i64 epoch,.str d,f] S Q:=by
 apply OI;unfold KD;refine Xx h (fun l hm=>⟨by have:=(hl l hm).1;omega,(hl l hm).2⟩) hs (fun S1 fp1 l x q hsl hg he hC hfp hA=>?_) (fun S1 fp1 l hsl hn hC hfp hA=>?_)
 ·have hx0:∀(v:AV) (b:Bool),AK (.tup [v,.bool b]) 0=some v:=fun _ _=>rfl
  have hx1:∀(z:Nat) (es:List (List AV)) (r:Rt) (b:Bool),AK (AQ (.tup [.vs z es r,.bool b]) 0) 1=some (.bool b):=fun _ _ _ _=>rfl
  have:=h1 S1 fp1 l x q.strip hsl hg he hC hfp hA;simp only[hx0,hx1,AF,Ci,Cf,ML];exact this
 ·have hx0:∀(v:AV) (b:Bool),AK (.tup [v,.bool b]) 0=some v:=fun _ _=>rfl
  have hx1:∀(z:Nat) (es:List (List AV)) (r:Rt) (b:Bool),AK (AQ (.tup [.vs z es r,.bool b]) 0) 1=some (.bool b):=fun _ _ _ _=>rfl
  obtain⟨p,fp0,e0,g1,g2,g3⟩:=hA.ex;have hlm:AI Ak S1 (.ptr c 1)=some (.int .i64 made):=by rw[Ac g2];rfl
  have wm:IntKind.i64.wrap (made+1)=made+1:=wrap64 (by omega) (by omega)
  have am:AP .add (.int .i64 made) (.int .i64 1)=some (.int .i64 (made+1)):=by simp[wm]
  have hst:Bn Ak S1 (.ptr c 1) (.int .i64 (made+1))=some (S1.set c (.cells [.ptr p 0,.int .i64 (made+1)] DY)):=by
   rw[Be g2];simp[BS,A9]
  simp only[Nat.zero_add,hx0,hx1,AF,Ci,CP,hlm,CG,am,hst,hf];have hset:Cg [c] S1 (S1.set c (.cells [.ptr p 0,.int .i64 (made+1)] DY)):=Cg.set (by simp)
  have hcin:c∈fp:=by
   obtain⟨_,_,e,_⟩:=h.ex;simp[e]
  have hA2:LcA (S1.set c (.cells [.ptr p 0,.int .i64 (made+1)] DY)) c fp1 (made+1) room (sh.set (ofK sh.length d) (C9 l d).2):=⟨p,fp0,e0,g1,Al g2,g3.chg hset fun j hj hm=>by simp at hm;subst hm;exact g1 hj⟩
  have hC2:Cg fp S (S1.set c (.cells [.ptr p 0,.int .i64 (made+1)] DY)):=hC.trans (hset.sub fun j hj=>by simp at hj;subst hj;exact hcin)
  refine Y9 (h2 _ fp1 l hsl hn hC2 hfp hA2) fun r S2 hr=>?_
  obtain⟨L,rr,rfl,hLl,hS2,hk⟩:=hr;have hA3:=hA2.chg (hS2.chg []) (by simp)
  have hlen1:S.length≤S2.length:=Nat.le_trans hC2.1 hS2.le;have hca:CD [.ptr c 0,.int .i64 epoch,.str d,AV.strip (.vs 2 (L.map Ent.c) rr)]=some [.ptr c 0,.int .i64 epoch,.str d,.vs 2 (L.map Ent.c) rr.strip.strip]:=by simp[CD]
  simp only[AX,hca,AF];have hofl:=Gr h.pos d;have hif:ofK (sh.set (ofK sh.length d) (C9 l d).2).length d=ofK sh.length d:=by simp
  refine XR hA3 hroom (fun l' hm=>?_) hs hLl (fun S3 fp3 l' l3 b hsl3 hkp hC3 hfp3 hA4=>?_)
  ·rcases List.mem_or_eq_of_mem_set hm with hm|rfl
   ·exact(hl l' hm).1
   ·rw[Sa];exact(hl l (List.mem_of_getElem? hsl)).1
  ·rw[hif] at hsl3 hA4;rw[List.getElem?_set_self hofl] at hsl3;cases hsl3;rw[List.set_set] at hA4;have hidem:C9 (C9 l d).2 d=C9 l d:=YX l d;refine hk S3 fp3 l3 rr.strip ?_ ⟨Nat.le_trans hlen1 hC3.1,fun j hj hn=>?_⟩ ?_ hA4
   ·unfold aF at hkp ⊢;rw[hidem] at hkp;exact hkp
   ·rw[hC3.2 j (Nat.lt_of_lt_of_le hj hlen1) (fun hm=>by rcases hfp j hm with h'|h';exact hn h';omega),hS2 j (Nat.lt_of_lt_of_le hj hC2.1)]
    exact hC2.2 j hj hn
   ·intro j hj;rcases hfp3 j hj with h'|h'
    ·exact hfp j h'
    ·exact .inr (Nat.le_trans hlen1 h')
theorem XT{w0:World}{S:St}{c:Nat}{fp:List Nat}{made room:Int}{sh:List (List (Str×BX))}(h:LcA S c fp made room sh){Q:AV→St→Prop}(hq:Q (.int .i64 (Ub sh:Nat)) S):AC w0 Gj [.ptr c 0] S Q:=by
 obtain⟨p,fp0,rfl,g1,g2,g3⟩:=h.ex;apply Oc;unfold J2;have hld:AI Ao S (.ptr c 0)=some (.ptr p 0):=by rw[Ac g2];rfl
 have hca:CD [.ptr p 0]=some [.ptr p 0]:=Ck rfl rfl;simp only[Nat.zero_add,hld,Bq,AF,AX,hca];exact Wf g3 hq
theorem XZ{w0:World}{S:St}{c:Nat}{fp:List Nat}{made room:Int}{sh:List (List (Str×BX))}(h:LcA S c fp made room sh){Q:AV→St→Prop}(hq:Q (.int .i64 made) S):AC w0 Gw [.ptr c 0] S Q:=by
 obtain⟨p,fp0,rfl,g1,g2,g3⟩:=h.ex;apply Oq;unfold J7;have h1:AI Ak S (.ptr c 1)=some (.int .i64 made):=by rw[Ac g2];rfl
 simp only[Nat.zero_add,h1,CG,AF];exact hq
theorem KO{w0:World}{S:St}{many room:Int}{Q:AV→St→Prop}
  (hq:∀S' c fp,Sx S S'→(∀j∈fp,S.length≤j)→LcA S' c fp 0 (Fg room) (List.replicate (Eh many) [])→Q (.ptr c 0) S'):AC w0 GW [.int .i64 many,.int .i64 room] S Q:=by
 apply Xh;unfold Rk;refine XA (fun S1 p fp hS hfp hSh=>?_)
 have hb:By Df 1 [(0,.ptr p 0)]=some (.agg [.ptr p 0,.int .i64 0]):=by simp[By,Md,A9]
 have hx:CC Df (.agg [.ptr p 0,.int .i64 0])=some [.ptr p 0,.int .i64 0]:=by simp[CC]
 simp only[hb,hx,AF];have hnin:S1.length ∉ fp:=fun hm=>by have:=hSh.lt _ hm;omega
 refine hq _ S1.length (S1.length::fp) (hS.trans (Sx.app S1 _)) ?_ ⟨p,fp,rfl,hnin,by simp,hSh.chg ((Sx.app S1 _).chg []) (by simp)⟩
 intro j hj;rcases List.mem_cons.1 hj with rfl|hj
 ·exact hS.le
 ·exact hfp j hj
open Go.Proofs
def LkC(k:Bool×Int):List AV:=[.bool k.1,.int .i64 k.2]
def LkE(e:(Bool×Int)×Int):AV×AV:=(.agg (LkC e.1),.int .i64 e.2)
def H5(l:List ((Bool×Int)×Int))(k:Bool×Int):Option Nat:=l.findIdx? fun e=>decide (e.1=k)
theorem PA(k:Bool×Int):∀(l:List ((Bool×Int)×Int)) (j:Nat),Gf (.agg (LkC k)) (l.map LkE) j=some ((H5 l k).bind fun i=>(l[i]?).map fun e=>(j+i,.int .i64 e.2))
 |[],j=>rfl
 |e::l,j=>by
  have ih:=PA k l (j+1);have hf:H5 (e::l) k=if e.1=k then some 0 else (H5 l k).map (·+1):=by
   unfold H5;rw[List.findIdx?_cons]
   by_cases c:e.1=k<;>simp[c]
  have hk:Or (.agg (LkC k)) (.agg (LkC e.1))=some (decide (e.1=k)):=by
   obtain⟨⟨b,n⟩,id⟩:=e;obtain⟨b2,n2⟩:=k;simp only[Or,LkC,CM,GT,if_true];have e2:(n2==n)=decide (n=n2):=by by_cases h:n=n2<;>simp[h,eq_comm]
   cases b<;>cases b2<;>by_cases h:n=n2<;>simp[h,e2]
  rw[hf,List.map_cons,LkE,Gf,hk]
  by_cases c:e.1=k
  ·simp[c]
  ·simp only[c,decide_false,if_false];rw[ih];cases H5 l k with
   |none=>rfl
   |some i=>simp;congr 1;funext x;congr 1;omega
theorem Lh{l:List ((Bool×Int)×Int)}{k:Bool×Int}{i:Nat}(h:H5 l k=some i):∃e,l[i]? =some e∧e.1=k:=by
 obtain⟨h1,h2,_⟩:=List.findIdx?_eq_some_iff_getElem.1 h;exact⟨l[i],by simp[h1],by simpa using h2⟩
structure FH(S:St)(sv:Nat)(ot fD fL:List Nat)(σ:SpN)(s:Stk)(hits misses made roomD roomL:Int)(shD:List (List (Str×Ap)))(shL:List (List (Str×BX)))(held:List ((Bool×Int)×Int)):Prop where
 ex:∃(sp t m nc lc hm:Nat) (g1 g2 g3:AV),S[sv]? =some (.cells [.ptr sp 0,g1,g2,g3,.ptr nc 0,.ptr lc 0,.map (some hm)] Ce)∧Sm S sp t m σ s∧DcA S nc fD hits misses roomD shD∧LcA S lc fL made roomL shL∧
  S[hm]? =some (.map (held.map LkE))∧(∀j∈fD,j ∉ fL∧j ∉ [sv,hm,sp,t,m])∧(∀j∈fL,j ∉ [sv,hm,sp,t,m])∧hm ∉ [sv,sp,t,m]∧sv ∉ [sp,t,m]∧ot=[sv,hm,sp,t,m]
theorem FH.lts{S:St}{sv:Nat}{ot fD fL:List Nat}{σ:SpN}{s:Stk}{hits misses made roomD roomL:Int}{shD:List (List (Str×Ap))}{shL:List (List (Str×BX))}{held:List ((Bool×Int)×Int)}(h:FH S sv ot fD fL σ s hits misses made roomD roomL shD shL held):
  sv < S.length∧(∀j,j∈fD∨j∈fL→j < S.length)∧(∀j∈ot,j < S.length)∧sv∈ot:=by
 obtain⟨sp,t,m,nc,lc,hm,g1,g2,g3,h1,h2,h3,h4,h5,h6,h7,h8,h9⟩:=h.ex;refine⟨(List.getElem?_eq_some_iff.1 h1).1,fun j hj=>by rcases hj with hj|hj;exact(h3.notBr j hj).1;exact(h4.notBr j hj).1,fun j hj=>?_,by rw[h9.2];simp⟩
 have l1:sv < S.length:=(List.getElem?_eq_some_iff.1 h1).1;have l2:sp < S.length:=(List.getElem?_eq_some_iff.1 h2.obj).1;have l3:t < S.length:=(List.getElem?_eq_some_iff.1 h2.tab.tab).1;have l4:m < S.length:=(List.getElem?_eq_some_iff.1 h2.tab.map).1;have l5:hm < S.length:=(List.getElem?_eq_some_iff.1 h5).1;rw[h9.2] at hj;simp at hj;rcases hj with rfl|rfl|rfl|rfl|rfl<;>assumption
theorem FH.chg{S S':St}{sv:Nat}{ot fD fL ids:List Nat}{σ:SpN}{s:Stk}{hits misses made roomD roomL:Int}{shD:List (List (Str×Ap))}{shL:List (List (Str×BX))}{held:List ((Bool×Int)×Int)}(h:FH S sv ot fD fL σ s hits misses made roomD roomL shD shL held)(k:Cg ids S S')(hx:∀j∈ids,j ∉ ot∧j ∉ fD∧j ∉ fL)(hb:∀j∈ids,∀o,S[j]? =some o→Ni o):FH S' sv ot fD fL σ s hits misses made roomD roomL shD shL held:=by
 obtain⟨sp,t,m,nc,lc,hm,g1,g2,g3,h1,h2,h3,h4,h5,h6,h7,h8,h9,h10⟩:=h.ex;have n0:∀j∈[sv,hm,sp,t,m],j ∉ ids:=fun j hj e=>(hx j e).1 (by rw[h10];exact hj)
 exact⟨sp,t,m,nc,lc,hm,g1,g2,g3,k.get h1 (n0 sv (by simp)),h2.chg k (n0 sp (by simp)) (n0 t (by simp)) (n0 m (by simp)) hb,h3.chg k (fun j hj e=>(hx j e).2.1 hj),h4.chg k (fun j hj e=>(hx j e).2.2 hj),k.get h5 (n0 hm (by simp)),h6,h7,h8,h9,h10⟩
theorem FH.apart{S:St}{sv:Nat}{ot fD fL:List Nat}{σ:SpN}{s:Stk}{hits misses made roomD roomL:Int}{shD:List (List (Str×Ap))}{shL:List (List (Str×BX))}{held:List ((Bool×Int)×Int)}(h:FH S sv ot fD fL σ s hits misses made roomD roomL shD shL held):(∀j∈ot,j ∉ fD∧j ∉ fL)∧∀j,j∈fD∨j∈fL∨j∈ot→∀o,S[j]? =some o→Ni o:=by
 obtain⟨sp,t,m,nc,lc,hm,g1,g2,g3,h1,h2,h3,h4,h5,h6,h7,h8,h9,h10⟩:=h.ex;refine⟨fun j hj=>?_,fun j hj o ho=>?_⟩
 ·rw[h10] at hj;exact⟨fun e=>(h6 j e).2 hj,fun e=>h7 j e hj⟩
 ·rcases hj with hj|hj|hj
  ·exact(h3.notBr j hj).2 o ho
  ·exact(h4.notBr j hj).2 o ho
  ·rw[h10] at hj;simp only[List.mem_cons,List.not_mem_nil,or_false] at hj;rcases hj with rfl|rfl|hj
   ·rw[h1] at ho;cases ho;exact Gd (by decide) (by simp)
   ·rw[h5] at ho;cases ho;trivial
   ·exact h2.notBr j (by simpa using hj) o ho
theorem FH.sx{S S':St}{sv:Nat}{ot fD fL:List Nat}{σ:SpN}{s:Stk}{hits misses made roomD roomL:Int}{shD:List (List (Str×Ap))}{shL:List (List (Str×BX))}{held:List ((Bool×Int)×Int)}(h:FH S sv ot fD fL σ s hits misses made roomD roomL shD shL held)(k:Sx S S'):FH S' sv ot fD fL σ s hits misses made roomD roomL shD shL held:=by
 obtain⟨sp,t,m,nc,lc,hm,g1,g2,g3,h1,h2,h3,h4,h5,h6,h7,h8,h9⟩:=h.ex;exact⟨sp,t,m,nc,lc,hm,g1,g2,g3,k.get h1,h2.sx k,h3.chg (k.chg []) (by simp),h4.chg (k.chg []) (by simp),k.get h5,h6,h7,h8,h9⟩
theorem kJ{S:St}(room:Int):Ns S Stk.none (newS [] room):=by
 rw[FL];exact⟨⟨fun _=>rfl,by simp[Stk.none],by simp[Stk.none],by simp[Stk.none]⟩,by simp[Stk.none,Stk.on],rfl,rfl,rfl⟩
theorem Ml{S3:St}{sp t m nc lc hm:Nat}{fD fL:List Nat}{σ:SpN}{s:Stk}{roomD roomL:Int}{shD:List (List (Str×Ap))}{shL:List (List (Str×BX))}{Q:AV→St→Prop}{S0:St}(h0:Sx S0 S3)(h2:Sm S3 sp t m σ s)(h3:DcA S3 nc fD 0 0 roomD shD)(h4:LcA S3 lc fL 0 roomL shL)
  (h5:S3[hm]? =some (.map [])) (h6:∀j∈fD,j ∉ fL∧j ∉ [hm,sp,t,m]) (h7:∀j∈fL,j ∉ [hm,sp,t,m]) (h8:hm ∉ [sp,t,m]) (hlo:∀j,j∈fD∨j∈fL∨j∈[hm,sp,t,m]→S0.length≤j)
  (hq:∀S' sv ot,Sx S0 S'→(∀j,j∈fD∨j∈fL∨j∈ot→S0.length≤j)→FH S' sv ot fD fL σ s 0 0 0 roomD roomL shD shL []→Q (.ptr sv 0) S'):
  AA (By Bf 1 [(0,.ptr sp 0),(2,.ptr nc 0),(3,.ptr lc 0),(4,(.map (some hm)))]) fun t20=>AA (CC Bf t20) fun c21=>Q (.ptr S3.length 0) (S3++[Obj.cells c21 Ce]):=by
 have hb:By Bf 1 [(0,.ptr sp 0),(2,.ptr nc 0),(3,.ptr lc 0),(4,(.map (some hm)))]=some (.agg [.ptr sp 0,.map none,.int .i64 0,.vs 1 [] .nil,.ptr nc 0,.ptr lc 0,.map (some hm)]):=by simp[By,Md,A9]
 have hx:CC Bf (.agg [.ptr sp 0,.map none,.int .i64 0,.vs 1 [] .nil,.ptr nc 0,.ptr lc 0,.map (some hm)])=some [.ptr sp 0,.map none,.int .i64 0,.vs 1 [] .nil,.ptr nc 0,.ptr lc 0,.map (some hm)]:=by simp[CC]
 simp only[hb,hx,AF];have k:=Sx.app S3 [Obj.cells [.ptr sp 0,.map none,.int .i64 0,.vs 1 [] .nil,.ptr nc 0,.ptr lc 0,.map (some hm)] Ce];have l2:sp < S3.length:=(List.getElem?_eq_some_iff.1 h2.obj).1;have l3:t < S3.length:=(List.getElem?_eq_some_iff.1 h2.tab.tab).1;have l4:m < S3.length:=(List.getElem?_eq_some_iff.1 h2.tab.map).1;have l5:hm < S3.length:=(List.getElem?_eq_some_iff.1 h5).1;have lD:=fun j hj=>(h3.notBr j hj).1
 have lL:=fun j hj=>(h4.notBr j hj).1
 refine hq _ S3.length [S3.length,hm,sp,t,m] (h0.trans k) (fun j hj=>?_) ⟨sp,t,m,nc,lc,hm,.map none,.int .i64 0,.vs 1 [] .nil,by simp,h2.sx k,h3.chg (k.chg []) (by simp),h4.chg (k.chg []) (by simp),k.get (by simpa using h5),?_,?_,?_,?_,rfl⟩
 ·rcases hj with hj|hj|hj
  ·exact hlo j (.inl hj)
  ·exact hlo j (.inr (.inl hj))
  ·rcases List.mem_cons.1 hj with rfl|hj
   ·exact h0.le
   ·exact hlo j (.inr (.inr hj))
 ·intro j hj;have:=lD j hj;refine⟨(h6 j hj).1,?_⟩;rw[List.mem_cons,not_or];exact⟨by omega,(h6 j hj).2⟩
 ·intro j hj;have:=lL j hj;rw[List.mem_cons,not_or];exact⟨by omega,h7 j hj⟩
 ·rw[List.mem_cons,not_or];exact⟨by omega,h8⟩
 ·simp;omega
theorem NX{w0:World}{S:St}{s:Stk}{σ:SpN}{many room curs:Int}(h:Ns S s σ)(h0:σ.epoch=0)(h1:σ.opens=[])(h2:σ.made=0)(h3:σ.room=NE curs){Q:AV→St→Prop}
  (hq:∀S' sv ot fD fL,Sx S S'→(∀j,j∈fD∨j∈fL∨j∈ot→S.length≤j)→FH S' sv ot fD fL σ s 0 0 0 (Fg room) (Fg room) (List.replicate (Eh many) []) (List.replicate (Eh many) []) []→Q (.ptr sv 0) S'):
  AC w0 E7 [.agg s.c,.agg [.int .i64 many,.int .i64 room,.int .i64 curs]] S Q:=by
 have hc:s.c=[.vs 2 (s.l.map Mnt.c) s.r.strip,.int .i64 s.next]:=rfl;rw[hc];apply Xj;unfold Y7;have b1:CC AL (.agg [.vs 2 (s.l.map Mnt.c) s.r.strip,.int .i64 s.next])=some s.c:=by simp[CC,Stk.c]
 have b2:CC ER (.agg [.int .i64 many,.int .i64 room,.int .i64 curs])=some [.int .i64 many,.int .i64 room,.int .i64 curs]:=by simp[CC]
 have b3:AB AL (some s.c) 0=some (.agg s.c):=by simp[AB,Dv,Stk.c]
 have b4:AB Ak (some [.int .i64 many,.int .i64 room,.int .i64 curs]) 2=some (.int .i64 curs):=rfl;have b5:AB Ak (some [.int .i64 many,.int .i64 room,.int .i64 curs]) 0=some (.int .i64 many):=rfl;have b6:AB Ak (some [.int .i64 many,.int .i64 room,.int .i64 curs]) 1=some (.int .i64 room):=rfl;have a1:CD [.agg s.c,.int .i64 curs]=some [.agg s.c,.int .i64 curs]:=Ck (by simp[Stk.c]) (by simp[Stk.c])
 have a2:CD [.int .i64 many,.int .i64 room]=some [.int .i64 many,.int .i64 room]:=Ck rfl rfl;simp only[b1,b2,b3,b4,b5,b6,AF,CG,Stk.c_strip,AX,a1,a2];have sz:∀(A:St),(A++[Obj.map []])[A.length]? =some (.map []):=fun A=>by simp
 refine⟨?_,?_⟩
 ·have k0:=Sx.app S [Obj.map []];refine Wb (h.sx k0) h0 h1 h2 h3 (fun S1 k1 p t m p1 t1 m1 hA=>?_)
  refine M0 (fun S2 nc fD k2 d1 hD=>?_)
  refine KO (fun S3 lc fL k3 l1 hL=>?_)
  have hA1:=(List.getElem?_eq_some_iff.1 hA.obj).1;have hA2:=(List.getElem?_eq_some_iff.1 hA.tab.tab).1;have hA3:=(List.getElem?_eq_some_iff.1 hA.tab.map).1;have e0:=k0.le;have e1:=k1.le;have e2:=k2.le;have e3:=k3.le;simp at p1 t1 m1;have dl:=fun j hj=>(hD.notBr j hj).1
  refine Ml (((k0.trans k1).trans k2).trans k3) (hA.sx (k2.trans k3)) (hD.chg (k3.chg []) (by simp)) hL (((k1.trans k2).trans k3).get (sz S)) ?_ ?_ ?_ ?_ (fun S' sv ot=>hq S' sv ot fD fL)
  ·intro j hj;have:=d1 j hj;have:=dl j hj;refine⟨fun hm=>by have:=l1 j hm;omega,by simp;omega⟩
  ·intro j hj;have:=l1 j hj;simp;omega
  ·simp;omega
  ·intro j hj;rcases hj with hj|hj|hj
   ·have:=d1 j hj;simp at e0;omega
   ·have:=l1 j hj;simp at e0;omega
   ·simp at hj;omega
 ·refine Wb h h0 h1 h2 h3 (fun S1 k1 p t m p1 t1 m1 hA=>?_)
  have hA1:=(List.getElem?_eq_some_iff.1 hA.obj).1;have hA2:=(List.getElem?_eq_some_iff.1 hA.tab.tab).1;have hA3:=(List.getElem?_eq_some_iff.1 hA.tab.map).1;have e1:=k1.le;refine⟨?_,?_⟩
  ·have k0:=Sx.app S1 [Obj.map []];refine M0 (fun S2 nc fD k2 d1 hD=>?_)
   refine KO (fun S3 lc fL k3 l1 hL=>?_)
   have e0:=k0.le;have e2:=k2.le;have e3:=k3.le;simp at d1 e0 e2;have dl:=fun j hj=>(hD.notBr j hj).1
   refine Ml (((k1.trans k0).trans k2).trans k3) (hA.sx ((k0.trans k2).trans k3)) (hD.chg (k3.chg []) (by simp)) hL ((k2.trans k3).get (sz S1)) ?_ ?_ ?_ ?_ (fun S' sv ot=>hq S' sv ot fD fL)
   ·intro j hj;have:=d1 j hj;have:=dl j hj;refine⟨fun hm=>by have:=l1 j hm;omega,by simp;omega⟩
   ·intro j hj;have:=l1 j hj;simp;omega
   ·simp;omega
   ·intro j hj;rcases hj with hj|hj|hj
    ·have:=d1 j hj;omega
    ·have:=l1 j hj;omega
    ·simp at hj;omega
  ·refine M0 (fun S2 nc fD k2 d1 hD=>?_)
   have e2:=k2.le;have dl:=fun j hj=>(hD.notBr j hj).1
   refine⟨?_,?_⟩
   ·have k0:=Sx.app S2 [Obj.map []];refine KO (fun S3 lc fL k3 l1 hL=>?_)
    have e0:=k0.le;have e3:=k3.le;simp at l1 e0 e3;refine Ml (((k1.trans k2).trans k0).trans k3) (hA.sx ((k2.trans k0).trans k3)) (hD.chg ((k0.trans k3).chg []) (by simp)) hL (k3.get (sz S2)) ?_ ?_ ?_ ?_ (fun S' sv ot=>hq S' sv ot fD fL)
    ·intro j hj;have:=d1 j hj;have:=dl j hj;refine⟨fun hm=>by have:=l1 j hm;omega,by simp;omega⟩
    ·intro j hj;have:=l1 j hj;simp;omega
    ·simp;omega
    ·intro j hj;rcases hj with hj|hj|hj
     ·have:=d1 j hj;omega
     ·have:=l1 j hj;omega
     ·simp at hj;omega
   ·refine KO (fun S3 lc fL k3 l1 hL=>?_)
    have k0:=Sx.app S3 [Obj.map []];have e3:=k3.le;have ll:=fun j hj=>(hL.notBr j hj).1
    refine Ml (((k1.trans k2).trans k3).trans k0) (hA.sx ((k2.trans k3).trans k0)) (hD.chg ((k3.trans k0).chg []) (by simp)) (hL.chg (k0.chg []) (by simp)) (sz S3) ?_ ?_ ?_ ?_ (fun S' sv ot=>hq S' sv ot fD fL)
    ·intro j hj;have:=d1 j hj;have:=dl j hj;refine⟨fun hm=>by have:=l1 j hm;omega,by simp;omega⟩
    ·intro j hj;have:=l1 j hj;have:=ll j hj;simp;omega
    ·simp;omega
    ·intro j hj;rcases hj with hj|hj|hj
     ·have:=d1 j hj;omega
     ·have:=l1 j hj;omega
     ·simp at hj;omega
section
variable {w0:World} {S:St} {sv:Nat} {ot fD fL:List Nat} {σ:SpN} {s:Stk} {hits misses made roomD roomL:Int} {shD:List (List (Str×Ap))} {shL:List (List (Str×BX))} {held:List ((Bool×Int)×Int)} {Q:AV→St→Prop}
theorem FH.cells(h:FH S sv ot fD fL σ s hits misses made roomD roomL shD shL held):∃(sp t m nc lc hm:Nat) (g1 g2 g3:AV),S[sv]? =some (.cells [.ptr sp 0,g1,g2,g3,.ptr nc 0,.ptr lc 0,.map (some hm)] Ce)∧Sm S sp t m σ s∧DcA S nc fD hits misses roomD shD∧LcA S lc fL made roomL shL∧
  S[hm]? =some (.map (held.map LkE))∧(∀j∈fD,j ∉ fL∧j ∉ [sv,hm,sp,t,m])∧(∀j∈fL,j ∉ [sv,hm,sp,t,m])∧hm ∉ [sv,sp,t,m]∧(sv ∉ [sp,t,m]∧ot=[sv,hm,sp,t,m])∧
  AI De S (.ptr sv 0)=some (.ptr sp 0)∧AI Cj S (.ptr sv 4)=some (.ptr nc 0)∧AI CO S (.ptr sv 5)=some (.ptr lc 0)∧AI Bg S (.ptr sv 6)=some (.map (some hm)):=by
 obtain⟨sp,t,m,nc,lc,hm,g1,g2,g3,h1,h2,h3,h4,h5,h6,h7,h8,h9⟩:=h.ex;exact⟨sp,t,m,nc,lc,hm,g1,g2,g3,h1,h2,h3,h4,h5,h6,h7,h8,h9,by rw[Ac h1];rfl,by rw[Ac h1];rfl,by rw[Ac h1];rfl,by rw[Ac h1];rfl⟩
theorem FH.setH(h:FH S sv ot fD fL σ s hits misses made roomD roomL shD shL held)(held':List ((Bool×Int)×Int)):∃hm,hm∈ot∧S[hm]? =some (.map (held.map LkE))∧AI Bg S (.ptr sv 6)=some (.map (some hm))∧hm ∉ fD∧hm ∉ fL∧FH (S.set hm (.map (held'.map LkE))) sv ot fD fL σ s hits misses made roomD roomL shD shL held':=by
 obtain⟨sp,t,m,nc,lc,hm,g1,g2,g3,h1,h2,h3,h4,h5,h6,h7,h8,h9,l1,l2,l3,l4⟩:=h.cells;have k:Cg [hm] S (S.set hm (.map (held'.map LkE))):=Cg.set (by simp)
 simp only[List.mem_cons,List.not_mem_nil,or_false,not_or] at h8;have nD:hm ∉ fD:=fun e=>(h6 hm e).2 (by simp)
 have nL:hm ∉ fL:=fun e=>h7 hm e (by simp)
 refine⟨hm,by rw[h9.2];simp,h5,l4,nD,nL,sp,t,m,nc,lc,hm,g1,g2,g3,k.get h1 (by simpa using fun e=>h8.1 e.symm),h2.chg k (by simpa using fun e=>h8.2.1 e.symm) (by simpa using fun e=>h8.2.2.1 e.symm) (by simpa using fun e=>h8.2.2.2 e.symm) ?_,h3.chg k ?_,h4.chg k ?_,Al h5,h6,h7,by simpa using h8,h9⟩
 ·intro j hj o ho;simp at hj;subst hj;rw[h5] at ho;cases ho;trivial
 ·intro j hj e;simp at e;subst e;exact nD hj
 ·intro j hj e;simp at e;subst e;exact nL hj
def I7(held:List ((Bool×Int)×Int))(k:Bool×Int)(id:Int):List ((Bool×Int)×Int)×Bool:=match H5 held k with|some _=>(held,false)|none=>(held++[(k,id)],true)
theorem ZM{hm:Nat}(h5:S[hm]? =some (.map (held.map LkE)))(k:Bool×Int):IJ (.agg Ah.zero) Ak S (.map (some hm)) (.agg (LkC k))=some (match H5 held k with|some i=>(match held[i]? with|some e=>(.int .i64 e.2,true)|none=>(.int .i64 0,false))|none=>(.int .i64 0,false)):=by
 have hf:=PA k held 0;have hk:LT (.agg [.bool false,.int .i64 0]) (.agg (LkC k))=true:=rfl;cases hc:H5 held k with
 |none=>
  rw[hc] at hf;simp[IJ,hk,Jx,h5,hf,MJ]
 |some i=>
  obtain⟨e,h1,h2⟩:=Lh hc;rw[hc] at hf;simp[h1] at hf;simp[IJ,hk,Jx,h5,hf,h1]
theorem JL(h:FH S sv ot fD fL σ s hits misses made roomD roomL shD shL held){b:Bool}{n id:Int}
  (hq:∀S',Cg ot S S'→FH S' sv ot fD fL σ s hits misses made roomD roomL shD shL (I7 held (b,n) id).1→Q (.bool (I7 held (b,n) id).2) S'):AC w0 EE [.ptr sv 0,.agg [.bool b,.int .i64 n],.int .i64 id] S Q:=by
 obtain⟨hm,hmo,h5,l4,nD,nL,hA⟩:=h.setH (held++[((b,n),id)]);have hlk:=ZM h5 (b,n);have hf:=PA (b,n) held 0;have hk:LT (.agg [.bool false,.int .i64 0]) (.agg (LkC (b,n)))=true:=rfl;apply N1;unfold JS;have bx:CC Ah (.agg [.bool b,.int .i64 n])=some (LkC (b,n)):=by simp[CC,LkC]
 have ll:AB Ah (some (LkC (b,n))) 0=some (.agg (LkC (b,n))):=by simp[AB,Dv,LkC]
 have ss:(AV.agg (LkC (b,n))).strip= .agg (LkC (b,n)):=by simp[LkC]
 simp only[Nat.zero_add,bx,l4,ll,Yh,ss,hlk,AF];cases hc:H5 held (b,n) with
 |some i=>
  obtain⟨e,e1,e2⟩:=Lh hc;have ht:I7 held (b,n) id=(held,false):=by simp[I7,hc]
  rw[ht] at hq;have:=hq S (Cg.refl _ _) h;simp[e1,AK,AQ];exact this
 |none=>
  have ht:I7 held (b,n) id=(held++[((b,n),id)],true):=by simp[I7,hc]
  rw[ht] at hq;rw[hc] at hf;simp at hf;have hu:=O4 (g:=.agg [.bool false,.int .i64 0]) (key:=.agg (LkC (b,n))) (x:=.int .i64 id) h5 hk rfl hf;have hmap:(held++[((b,n),id)]).map LkE=held.map LkE++[(.agg (LkC (b,n)),.int .i64 id)]:=by simp[LkE]
  rw[hmap] at hA;have:=hq _ (Cg.set hmo) hA;simp only[AK,AQ];simp[hu];simpa using this
theorem P0(h:FH S sv ot fD fL σ s hits misses made roomD roomL shD shL held)(hq:Q (.int .i64 held.length) S):AC w0 EH [.ptr sv 0] S Q:=by
 obtain⟨hm,_,h5,l4,_⟩:=h.setH held;apply Nz;unfold JT;simp[l4,LW,Jx,h5];exact hq
theorem Xt(h:FH S sv ot fD fL σ s hits misses made roomD roomL shD shL held)(hq:Q (.tup [.int .i64 (Ub shD:Nat),.int .i64 (Ub shL:Nat)]) S):AC w0 GS [.ptr sv 0] S Q:=by
 obtain⟨sp,t,m,nc,lc,hm,g1,g2,g3,h1,h2,h3,h4,h5,h6,h7,h8,h9,l1,l2,l3,l4⟩:=h.cells;apply Nr;unfold JW;have a1:CD [.ptr nc 0]=some [.ptr nc 0]:=Ck rfl rfl;have a2:CD [.ptr lc 0]=some [.ptr lc 0]:=Ck rfl rfl;simp only[Nat.zero_add,l2,l3,Bq,AF,AX,a1];refine XX h3 ?_;simp only[l3,Bq,AF,a2,true_and];refine XT h4 ?_;exact hq
theorem Pq(h:FH S sv ot fD fL σ s hits misses made roomD roomL shD shL held)(hq:Q (.tup [.int .i64 hits,.int .i64 misses,.int .i64 made]) S):AC w0 E2 [.ptr sv 0] S Q:=by
 obtain⟨sp,t,m,nc,lc,hm,g1,g2,g3,h1,h2,h3,h4,h5,h6,h7,h8,h9,l1,l2,l3,l4⟩:=h.cells;apply Nt;unfold Jn;have a1:CD [.ptr nc 0]=some [.ptr nc 0]:=Ck rfl rfl;have a2:CD [.ptr lc 0]=some [.ptr lc 0]:=Ck rfl rfl;simp only[Nat.zero_add,l2,Bq,AF,AX,a1];refine Um h3 ?_;have x0:AK (.tup [.int .i64 hits,.int .i64 misses]) 0=some (.int .i64 hits):=rfl;have x1:AK (AQ (.tup [.int .i64 hits,.int .i64 misses]) 0) 1=some (.int .i64 misses):=rfl;simp only[x0,x1,l3,Bq,CG,AF,a2];refine XZ h4 ?_;exact hq
theorem H9(h:FH S sv ot fD fL σ s hits misses made roomD roomL shD shL held){d n:Str}(hs:d.length+n.length≤100000000)(hq:Q (.agg [.bool false,.int .i64 (ofK shD.length (Dx d n):Nat)]) S):AC w0 Dd [.ptr sv 0,.str d,.str n] S Q:=by
 obtain⟨sp,t,m,nc,lc,hm,g1,g2,g3,h1,h2,h3,h4,h5,h6,h7,h8,h9,l1,l2,l3,l4⟩:=h.cells;apply LA;unfold HB;have a1:CD [.ptr nc 0,.str d,.str n]=some [.ptr nc 0,.str d,.str n]:=Ck rfl rfl;simp only[Nat.zero_add,l2,Bq,AF,AX,a1];refine VV h3 hs ?_;simp;exact hq
end
open Go.Proofs
theorem Leads.chg{S S':St}{s:Stk}{D:List Node}{ids:List Nat}(h:Leads S s D)(k:Cg ids S S')(hx:∀j∈ids,∀o,S[j]? =some o→Ni o):Leads S' s D:=⟨h.ok,fun m hm=>(h.on m hm).chg k hx,h.good,h.root,h.dirs,h.few⟩
structure Wg(L:List (List Cn))(D:List Node)(names:List Str)(n:Str)(e:Ap):Prop where
 f:e.f=Ej L n (FR L names) Fnd.none
 there:e.there=decide (¬e.f.kind=0)
 len:e.target.length≤1048576
 tgt:e.f.kind=3→∀y l,Do (Dw D names) n=y::l→e.target=y.target
 dirs:e.f.dirs.length≤64
theorem Wg.cp{L:List (List Cn)}{D:List Node}{names:List Str}{n:Str}{e:Ap}(h:Wg L D names n e):Wg L D names n e.cp:=⟨h.f,h.there,h.len,h.tgt,h.dirs⟩
theorem bN{S S1:St}{fp fp1 fp2:List Nat}(hC:Cg fp S S1)(h1:∀j∈fp1,j∈fp∨S.length≤j)(h2:∀j∈fp2,j∈fp1∨S1.length≤j):∀j∈fp2,j∈fp∨S.length≤j:=fun j hj=>by
 rcases h2 j hj with h|h
 ·exact h1 j h
 ·exact .inr (Nat.le_trans hC.1 h)
theorem iy{S S1 S2:St}{fp fp1:List Nat}(hC:Cg fp S S1)(h1:∀j∈fp1,j∈fp∨S.length≤j)(hC2:Cg fp1 S1 S2):Cg fp S S2:=⟨Nat.le_trans hC.1 hC2.1,fun j hj hn=>by
 rw[hC2.2 j (Nat.lt_of_lt_of_le hj hC.1) (fun hm=>by rcases h1 j hm with h|h;exact hn h;omega),hC.2 j hj hn]⟩
theorem Vv{S S':St}{sv sp t m nc lc hm:Nat}{g1 g2 g3:AV}{ot fD fD' fL:List Nat}{σ:SpN}{s:Stk}{hits misses hits' misses' made roomD roomL:Int}{shD shD':List (List (Str×Ap))}{shL:List (List (Str×BX))}{held:List ((Bool×Int)×Int)}
  (h1:S[sv]? =some (.cells [.ptr sp 0,g1,g2,g3,.ptr nc 0,.ptr lc 0,.map (some hm)] Ce)) (h2:Sm S sp t m σ s) (h3:DcA S nc fD hits misses roomD shD) (h4:LcA S lc fL made roomL shL)
  (h5:S[hm]? =some (.map (held.map LkE))) (h6:∀j∈fD,j ∉ fL∧j ∉ [sv,hm,sp,t,m]) (h7:∀j∈fL,j ∉ [sv,hm,sp,t,m]) (h8:hm ∉ [sv,sp,t,m]) (h9:sv ∉ [sp,t,m]∧ot=[sv,hm,sp,t,m])
  (k:Cg fD S S') (hf:∀j∈fD',j∈fD∨S.length≤j) (hD:DcA S' nc fD' hits' misses' roomD shD'):FH S' sv ot fD' fL σ s hits' misses' made roomD roomL shD' shL held:=by
 have n0:∀j∈[sv,hm,sp,t,m],j ∉ fD:=fun j hj e=>(h6 j e).2 hj
 have l1:sv < S.length:=(List.getElem?_eq_some_iff.1 h1).1;have l2:sp < S.length:=(List.getElem?_eq_some_iff.1 h2.obj).1;have l3:t < S.length:=(List.getElem?_eq_some_iff.1 h2.tab.tab).1;have l4:m < S.length:=(List.getElem?_eq_some_iff.1 h2.tab.map).1;have l5:hm < S.length:=(List.getElem?_eq_some_iff.1 h5).1;refine⟨sp,t,m,nc,lc,hm,g1,g2,g3,k.get h1 (n0 sv (by simp)),h2.chg k (n0 sp (by simp)) (n0 t (by simp)) (n0 m (by simp)) (fun j hj=>(h3.notBr j hj).2),hD,h4.chg k (fun j hj e=>(h6 j e).1 hj),k.get h5 (n0 hm (by simp)),fun j hj=>?_,h7,h8,h9⟩
 rcases hf j hj with h|h
 ·exact h6 j h
 ·refine⟨fun e=>?_,by simp;omega⟩
  have:=(h4.notBr j e).1;omega
section
variable {w0:World} {S:St} {sv:Nat} {ot fD fL:List Nat} {σ:SpN} {s:Stk} {hits misses made roomD roomL:Int} {shD:List (List (Str×Ap))} {shL:List (List (Str×BX))} {held:List ((Bool×Int)×Int)} {Q:AV→St→Prop}
theorem Rc(h:FH S sv ot fD fL σ s hits misses made roomD roomL shD shL held)(hroom:1≤roomD)(hl:∀l∈shD,l.length≤900000∧∀p∈l,p.2.f.dirs.length≤1000000)(hh:0≤hits∧hits≤1000000000∧0≤misses∧misses≤1000000000)
  {st:Stk} {D:List Node} (hL:Leads S st D) {epoch:Int} {d:Drx} {names:List Str} (hd:VU st.tabs D d names) {n:Str} (hn:d.path.length+n.length≤100000000) {pr:Rt}
  (h1:∀S' fD' l e,shD[ofK shD.length (Dx d.path n)]? =some l→(C9 l (Dx d.path n)).1=some e→e.epoch=epoch→Cg fD S S'→(∀j∈fD',j∈fD∨S.length≤j)→FH S' sv ot fD' fL σ s (hits+1) misses made roomD roomL (shD.set (ofK shD.length (Dx d.path n)) (C9 l (Dx d.path n)).2) shL held→Q (.agg e.cp.c) S')
  (h2:∀S' fD' l l2 e,shD[ofK shD.length (Dx d.path n)]? =some l→(∀e',(C9 l (Dx d.path n)).1=some e'→e'.epoch≠epoch)→e.epoch=epoch→Wg st.tabs D names n e→bP roomD l (Dx d.path n) e l2→Cg fD S S'→(∀j∈fD',j∈fD∨S.length≤j)→FH S' sv ot fD' fL σ s hits (misses+1) made roomD roomL (shD.set (ofK shD.length (Dx d.path n)) l2) shL held→Q (.agg e.c) S'):
  AC w0 FN [.ptr sv 0,.agg st.c,.int .i64 epoch,.str d.path,.vs 2 (d.place.map spC) pr,.str n] S Q:=by
 obtain⟨sp,t,m,nc,lc,hm,g1,g2,g3,c1,c2,c3,c4,c5,c6,c7,c8,c9,l1,l2,l3,l4⟩:=h.cells;have hc:st.c=[.vs 2 (st.l.map Mnt.c) st.r.strip,.int .i64 st.next]:=rfl;rw[hc];apply OH;unfold KC;have b1:CC AL (.agg [.vs 2 (st.l.map Mnt.c) st.r.strip,.int .i64 st.next])=some st.c:=by simp[CC,Stk.c]
 have b3:AB AL (some st.c) 0=some (.agg st.c):=by simp[AB,Dv,Stk.c]
 have a1:CD [.ptr nc 0,.int .i64 epoch,.str d.path,.str n]=some [.ptr nc 0,.int .i64 epoch,.str d.path,.str n]:=Ck rfl rfl;have a2:CD [.agg st.c,.vs 2 (d.place.map spC) pr.strip,.str n]=some [.agg st.c,.vs 2 (d.place.map spC) pr.strip.strip,.str n]:=by
  simp[CD]
 simp only[Nat.zero_add,b1,l2,Bq,AF,AX,a1];have x0:∀(v:Ap) (b:Bool),AK (.tup [.agg v.c,.bool b]) 0=some (.agg v.c):=fun _ _=>rfl
 have x1:∀(v:Ap) (b:Bool),AK (AQ (.tup [.agg v.c,.bool b]) 0) 1=some (.bool b):=fun _ _=>rfl
 refine Xa c3 (fun l hm=>⟨by have:=(hl l hm).1;omega,(hl l hm).2⟩) hh hn (fun S1 fD1 l e hsl hg he hC hfp hA=>?_) (fun S1 fD1 l hsl hne hC hfp hA=>?_)
 ·have:=h1 S1 fD1 l e hsl hg he hC hfp (Vv c1 c2 c3 c4 c5 c6 c7 c8 c9 hC hfp hA);simp only[x0,x1,Ap.st,Ap.ld,Ap.c_strip,Ci,Cf,AF,Option.map_some];exact this
 ·have hS1:=Vv c1 c2 c3 c4 c5 c6 c7 c8 c9 hC hfp hA;have hL1:Leads S1 st D:=hL.chg hC (fun j hj=>(c3.notBr j hj).2)
  have hon:=hd.on;have hfew:=hd.few;rw[←hon.len] at hfew;have hag:=Hb st.tabs n _ _ hon (fun n hn=>(hd.good n hn).2.1)
  have hdp:=hd.at_;simp only[x0,x1,Ap.st,Ci,CP,AF,b3,Stk.c_strip,a2];refine T8 hL1.ok hL1.on hL1.good (by omega) (fun rf hrf=>?_)
  rw[hdp] at hon hfew hag ⊢;obtain⟨f,hf'⟩:∃f,f=Ej st.tabs n (FR st.tabs names) Fnd.none:=⟨_,rfl⟩;rw[hdp] at hrf;rw[←hf'] at hag hrf ⊢;have y0:AK (.tup [.agg (f.c rf.strip),.bool (decide (¬f.kind=0))]) 0=some (.agg (f.c rf.strip)):=rfl;have y1:AK (AQ (.tup [.agg (f.c rf.strip),.bool (decide (¬f.kind=0))]) 0) 1=some (.bool (decide (¬f.kind=0))):=rfl;have y2:AZ BW (some BW.zero) 0 (.agg (f.c rf.strip))=some (f.c rf.strip):=by simp[AZ,BS,A9,Fnd.c]
  have y3:AB BW (some (f.c rf.strip)) 0=some (.agg (f.c rf.strip)):=by simp[AB,Dv,Fnd.c]
  have y4:(AV.agg (f.c rf.strip)).strip= .agg (f.c rf.strip):=by simp[Fnd.c]
  have y5:∀b:Bool,By AJ 1 [(0,.int .i64 epoch),(1,.bool b),(2,.agg (f.c rf.strip))]=some (.agg (⟨epoch,b,f,rf,[]⟩:Ap).c):=fun b=>by simp[By,Md,A9,Fnd.c,Ap.c]
  have y6:AB Ak (some (f.c rf.strip)) 0=some (.int .i64 f.kind):=rfl;have y7:AB Ak (some (f.c rf.strip)) 1=some (.int .i64 f.sp.1):=rfl;have y8:AB Ak (some (f.c rf.strip)) 2=some (.int .i64 f.sp.2):=rfl;simp only[y0,y1,y2,y3,y4,y5,Ap.st,Ci,AF];have hdl:f.dirs.length≤64:=by
   rw[hf'];cases hsn:Do (Dw D names) n with
   |nil=>
    rw[hsn] at hag;rw[←hf',show f=Fnd.none from hag]
    simp[Fnd.none]
   |cons y l=>
    rw[hsn] at hag;obtain⟨_,_,_,_,_,_,_,a8⟩:=hag;have:=a8.length_le;simp only[List.length_map] at this;rw[←hf'];omega
  refine DX (fun j=>∀target:Str,target.length≤1048576→(f.kind=3→∀y l,Do (Dw D names) n=y::l→target=y.target)→j (some (⟨epoch,decide (¬f.kind=0),f,rf,target⟩:Ap).c) S1) (fun target t1 t2=>?_) (fun j hj=>?_)
  ·obtain⟨e,hE⟩:∃e:Ap,e=⟨epoch,decide (¬f.kind=0),f,rf,target⟩:=⟨_,rfl⟩;have hseen:Wg st.tabs D names n e:=by subst hE;exact⟨hf',rfl,t1,t2,hdl⟩
   have hee:e.epoch=epoch:=by subst hE;rfl
   have hed:e.f.dirs.length≤1000000:=by have:=hseen.dirs;omega
   rw[←hE];obtain⟨sp',t',m',nc',lc',hm',g1',g2',g3',d1,d2,d3,d4,d5,d6,d7,d8,d9,e1,e2,e3,e4⟩:=hS1.cells;have hnc:nc'=nc:=by
    have:=hC.get c1 (fun e=>(c6 sv e).2 (by simp))
    rw[d1] at this;cases this;rfl
   subst hnc;have a3:CD [.ptr nc' 0,.str d.path,.str n,.agg e.c]=some [.ptr nc' 0,.str d.path,.str n,.agg e.c]:=Ck (by simp[Ap.c]) (by simp[Ap.c])
   simp only[e2,Bq,Ap.ld,Ap.c_strip,AF,a3];have hofl:=Gr c3.pos (Dx d.path n);have hif:ofK (shD.set (ofK shD.length (Dx d.path n)) (C9 l (Dx d.path n)).2).length (Dx d.path n)=ofK shD.length (Dx d.path n):=by simp
   refine Xp d3 hroom (fun l' hm=>?_) hn hed (fun S2 fD2 l' l2 b hsl2 hkp hC2 hfp2 hA2=>?_)
   ·rcases List.mem_or_eq_of_mem_set hm with hm|rfl
    ·exact(hl l' hm).1
    ·rw[Sa];exact(hl l (List.mem_of_getElem? hsl)).1
   ·rw[hif] at hsl2 hA2;rw[List.getElem?_set_self hofl] at hsl2;cases hsl2;rw[List.set_set] at hA2;have hkp2:bP roomD l (Dx d.path n) e l2:=by
     unfold bP at hkp ⊢;rw[YX] at hkp;exact hkp
    have:=h2 S2 fD2 l l2 e hsl hne hee hseen hkp2 (iy hC hfp hC2) (bN hC hfp hfp2) (Vv d1 d2 d3 d4 d5 d6 d7 d8 d9 hC2 hfp2 hA2);simp only[Ap.st,Ap.ld,Ap.c_strip,AF,Option.map_some];exact this
  ·by_cases k0:f.kind=0
   ·have:=hj [] (by simp) (fun e=>by rw[k0] at e;cases e)
    simp only[k0,not_true_eq_false,decide_false] at this;simp only[k0,not_true_eq_false,decide_false,CP,AO,Aq,AF,Ci];exact this
   ·by_cases k3:f.kind=3
    ·have k3':AP .eql (.int .i64 f.kind) (.int .i64 3)=some (.bool true):=by simp[k3]
     simp only[k0,not_false_eq_true,decide_true,Cf,AO,Aq,AF,Ci,y6,CG,k3',b3,Stk.c_strip,y7,y8];cases hsn:Do (Dw D names) n with
     |nil=>
      rw[hsn] at hag;rw[show f=Fnd.none from hag] at k3
      cases k3
     |cons y l2=>
      rw[hsn] at hag;obtain⟨a1,a2,a3,a4,a5,a6,a7,a8⟩:=hag;obtain⟨mn,b1,b2,b3,b4⟩:=a4.at_;have a9:CD [.agg st.c,.int .i64 f.sp.1]=some [.agg st.c,.int .i64 f.sp.1]:=Ck (by simp) (by simp)
      simp only[a9,AF];refine Is ?_;rw[b1];have a10:CD [.ptr mn.id 0,.int .i64 f.sp.2]=some [.ptr mn.id 0,.int .i64 f.sp.2]:=Ck rfl rfl;simp only[a10,AF];refine Nf (hL1.on mn b2) ?_;rw[b3];have hty:=JG a5 (a1 ▸ k3);obtain⟨pp,hp1,hp2⟩:=hty;have:=hj y.target (by omega) (fun _ y' l' e=>by rw[hsn] at e;cases e;rfl)
      simp only[k0,not_false_eq_true,decide_true] at this;have z1:∀tt:Str,AZ AH (some (⟨epoch,true,f,rf,[]⟩:Ap).c) 6 (.str tt)=some (⟨epoch,true,f,rf,tt⟩:Ap).c:=fun tt=>by simp[AZ,BS,A9,Ap.c]
      simp only[z1,AF];exact this
    ·have k3':AP .eql (.int .i64 f.kind) (.int .i64 3)=some (.bool false):=by simp[k3]
     have:=hj [] (by simp) (fun e=>absurd e k3)
     simp only[k0,not_false_eq_true,decide_true] at this;simp only[k0,not_false_eq_true,decide_true,Cf,CP,AO,Aq,AF,Ci,y6,CG,k3'];exact this
end
open Go.Proofs
theorem WX{S S':St}{sv sp t m nc lc hm:Nat}{g1 g2 g3:AV}{ot fD fL fL':List Nat}{σ:SpN}{s:Stk}{hits misses made made' roomD roomL:Int}{shD:List (List (Str×Ap))}{shL shL':List (List (Str×BX))}{held:List ((Bool×Int)×Int)}
  (h1:S[sv]? =some (.cells [.ptr sp 0,g1,g2,g3,.ptr nc 0,.ptr lc 0,.map (some hm)] Ce)) (h2:Sm S sp t m σ s) (h3:DcA S nc fD hits misses roomD shD) (h4:LcA S lc fL made roomL shL)
  (h5:S[hm]? =some (.map (held.map LkE))) (h6:∀j∈fD,j ∉ fL∧j ∉ [sv,hm,sp,t,m]) (h7:∀j∈fL,j ∉ [sv,hm,sp,t,m]) (h8:hm ∉ [sv,sp,t,m]) (h9:sv ∉ [sp,t,m]∧ot=[sv,hm,sp,t,m])
  (k:Cg fL S S') (hf:∀j∈fL',j∈fL∨S.length≤j) (hL:LcA S' lc fL' made' roomL shL'):FH S' sv ot fD fL' σ s hits misses made' roomD roomL shD shL' held:=by
 have n0:∀j∈[sv,hm,sp,t,m],j ∉ fL:=fun j hj e=>h7 j e hj
 have l1:sv < S.length:=(List.getElem?_eq_some_iff.1 h1).1;have l2:sp < S.length:=(List.getElem?_eq_some_iff.1 h2.obj).1;have l3:t < S.length:=(List.getElem?_eq_some_iff.1 h2.tab.tab).1;have l4:m < S.length:=(List.getElem?_eq_some_iff.1 h2.tab.map).1;have l5:hm < S.length:=(List.getElem?_eq_some_iff.1 h5).1;refine⟨sp,t,m,nc,lc,hm,g1,g2,g3,k.get h1 (n0 sv (by simp)),h2.chg k (n0 sp (by simp)) (n0 t (by simp)) (n0 m (by simp)) (fun j hj=>(h4.notBr j hj).2),h3.chg k (fun j hj e=>(h6 j hj).1 e),hL,k.get h5 (n0 hm (by simp)),fun j hj=>⟨fun e=>?_,(h6 j hj).2⟩,fun j hj=>?_,h8,h9⟩
 ·rcases hf j e with h|h
  ·exact(h6 j hj).1 h
  ·have:=(h3.notBr j hj).1;omega
 ·rcases hf j hj with h|h
  ·exact h7 j h
  ·simp;omega
theorem kE{w0:World}(hm:L2 w0){S:St}{sv sp a b:Nat}{rest:List AV}{s:Stk}{ep:Int}{tp:AV}{D:List Node}{dir:Str}(hL:Leads S s D)(hp:dir.length≤1048576)
  (h1:S[sv]? =some (.cells (.ptr sp 0::rest) Ce)) (h2:S[sp]? =some (.cells [.vs 2 (s.l.map Mnt.c) s.r.strip,.int .i64 s.next,.int .i64 ep,tp] H0)) (h3:S[a]? =some (.cells [.ptr sv 0] Bw)) (h4:S[b]? =some (.cells [.str dir] Ct))
  {Q:AV→St→Prop} (hq:∀S' r,Sx S S'→Q (.vs 2 ((GA D dir).map Ent.c) r) S'):AC w0 CB [.ptr a 0,.ptr b 0] S Q:=by
 apply Ma;unfold Hv;have e1:AI CQ S (.ptr a 0)=some (.ptr sv 0):=by rw[Ac h3];rfl
 have e2:AI De S (.ptr sv 0)=some (.ptr sp 0):=by rw[Ac h1];rfl
 have e3:AI AL S (.ptr sp 0)=some (.agg s.c):=by rw[Ac h2];simp[Dv,Stk.c]
 have e4:AI AH S (.ptr b 0)=some (.str dir):=by rw[Ac h4];rfl
 have n1:∀i o:Nat,Ig (.ptr i o)=some (.ptr i o):=fun _ _=>rfl
 have m1:∀i o d:Nat,Bd (.ptr i o) d=some (.ptr i (o+d)):=fun _ _ _=>rfl
 have a1:CD [.agg s.c,.str dir]=some [.agg s.c,.str dir]:=Ck (by simp) (by simp)
 simp only[e1,e2,e3,e4,n1,m1,Bq,TF,Nat.add_zero,AF,Stk.c_strip,AX,a1];have x1:∀(p:Str) (es:List (List AV)) (r:Rt) (e:Int),AK (.tup [.str p,.vs 2 es r,.int .i64 e]) 0=some (.str p)∧AK (AQ (.tup [.str p,.vs 2 es r,.int .i64 e]) 0) 1=some (.vs 2 es r)∧AK (AQ (AQ (.tup [.str p,.vs 2 es r,.int .i64 e]) 0) 1) 2=some (.int .i64 e):=fun _ _ _ _=>⟨rfl,rfl,rfl⟩
 refine Zu hm hL hp (fun S' hS=>⟨fun he=>?_,fun he _ r _=>?_⟩)
 ·have hl:GA D dir=[]:=by simp[GA,he]
  have:=hq S' .nil hS;rw[hl] at this;simp only[(x1 _ _ _ _).1,(x1 _ _ _ _).2.1,(x1 _ _ _ _).2.2,AF,ML];exact this
 ·have hl:GA D dir=J5 (DV D dir true).nodes:=by simp[GA,he]
  have:=hq S' r.strip hS;rw[hl] at this;simp only[(x1 _ _ _ _).1,(x1 _ _ _ _).2.1,(x1 _ _ _ _).2.2,AF,ML];exact this
section
variable {w0:World} {S:St} {sv:Nat} {ot fD fL:List Nat} {σ:SpN} {s:Stk} {hits misses made roomD roomL:Int} {shD:List (List (Str×Ap))} {shL:List (List (Str×BX))} {held:List ((Bool×Int)×Int)} {Q:AV→St→Prop}
theorem Lu(hmx:L2 w0)(h:FH S sv ot fD fL σ s hits misses made roomD roomL shD shL held)(hroom:1≤roomL)(hl:∀l∈shL,l.length≤900000∧∀p∈l,p.2.l.length≤10000000)(hm:0≤made∧made≤1000000000){D:List Node}(hL:Leads S s D)(hF:Fine D){dir:Str}(hp:dir.length≤1048576)
  (h1:∀S' fL' l x q,shL[ofK shL.length dir]? =some l→(C9 l dir).1=some x→x.epoch=σ.epoch→Cg fL S S'→(∀j∈fL',j∈fL∨S.length≤j)→FH S' sv ot fD fL' σ s hits misses made roomD roomL shD (shL.set (ofK shL.length dir) (C9 l dir).2) held→Q (.vs 2 (x.l.map Ent.c) q) S')
  (h2:∀S' fL' l l2 q,shL[ofK shL.length dir]? =some l→(∀x,(C9 l dir).1=some x→x.epoch≠σ.epoch)→aF roomL l dir σ.epoch (GA D dir) l2→Cg fL S S'→(∀j∈fL',j∈fL∨S.length≤j)→FH S' sv ot fD fL' σ s hits misses (made+1) roomD roomL shD (shL.set (ofK shL.length dir) l2) held→Q (.vs 2 ((GA D dir).map Ent.c) q) S'):
  AC w0 ED [.ptr sv 0,.str dir] S Q:=by
 apply Nu;unfold Ja;generalize hS1:(S++[Obj.cells [(.ptr sv 0)] Bw])++[Obj.cells [(.str dir)] Ct]=S1;have k1:Sx S S1:=by rw[←hS1];exact(Sx.app S _).trans (Sx.app _ _)
 have hlen:(S++[Obj.cells [(.ptr sv 0)] Bw]).length=S.length+1:=by simp
 have hl1:S1.length=S.length+2:=by rw[←hS1];simp
 have p1:S1[S.length]? =some (.cells [.ptr sv 0] Bw):=by rw[←hS1];simp
 have p2:S1[S.length+1]? =some (.cells [.str dir] Ct):=by rw[←hS1];simp
 obtain⟨sp,t,m,nc,lc,hm',g1,g2,g3,c1,c2,c3,c4,c5,c6,c7,c8,c9,_⟩:=(h.sx k1).cells;have e1:AI CQ S1 (.ptr S.length 0)=some (.ptr sv 0):=by rw[Ac p1];rfl
 have e2:AI CO S1 (.ptr sv 5)=some (.ptr lc 0):=by rw[Ac c1];rfl
 have e3:AI De S1 (.ptr sv 0)=some (.ptr sp 0):=by rw[Ac c1];rfl
 have e4:AI Ak S1 (.ptr sp 2)=some (.int .i64 σ.epoch):=by rw[Ac c2.obj];rfl
 have e5:AI AH S1 (.ptr (S.length+1) 0)=some (.str dir):=by rw[Ac p2];rfl
 have n1:∀i o:Nat,Ig (.ptr i o)=some (.ptr i o):=fun _ _=>rfl
 have m1:∀i o d:Nat,Bd (.ptr i o) d=some (.ptr i (o+d)):=fun _ _ _=>rfl
 have f1:au CB [] [.ptr S.length 0,.ptr (S.length+1) 0]=some (.fn CB [] [.ptr S.length 0,.ptr (S.length+1) 0]):=by simp[au,CD]
 have a1:CD [.ptr lc 0,.int .i64 σ.epoch,.str dir,.fn CB [] [.ptr S.length 0,.ptr (S.length+1) 0]]=some [.ptr lc 0,.int .i64 σ.epoch,.str dir,.fn CB [] [.ptr S.length 0,.ptr (S.length+1) 0]]:=Ck rfl rfl;have hca:Lj (AV.strip (.fn CB [] [.ptr S.length 0,.ptr (S.length+1) 0])) []=some (CB,[.ptr S.length 0,.ptr (S.length+1) 0]):=by simp[Lj,CD]
 rw[hlen];simp only[e1,e2,e3,e4,e5,n1,m1,f1,Bq,TF,CG,Nat.zero_add,Nat.add_zero,AF,AX,a1];have ltL:∀j∈fL,j < S.length:=fun j hj=>h.lts.2.1 j (.inr hj)
 have cgS:∀{S':St},Cg fL S1 S'→Cg fL S S':=fun k=>(k1.chg fL).trans k
 have frS:∀{fL':List Nat},(∀j∈fL',j∈fL∨S1.length≤j)→∀j∈fL',j∈fL∨S.length≤j:=fun k j hj=>by
  rcases k j hj with h|h
  ·exact .inl h
  ·exact .inr (by omega)
 refine XY c4 hroom hl hm (by omega) hca (fun S' fL' l x q hsl hg he hC hfp hA=>?_) (fun S' fL' l hsl hne hC hfp hA=>?_)
 ·exact h1 S' fL' l x q hsl hg he (cgS hC) (frS hfp) (WX c1 c2 c3 c4 c5 c6 c7 c8 c9 hC hfp hA)
 ·have hA':=WX c1 c2 c3 c4 c5 c6 c7 c8 c9 hC hfp hA;have hL1:Leads S' s D:=(hL.mono k1).chg hC (fun j hj=>(c4.notBr j hj).2)
  have nsv:sv ∉ fL:=fun e=>c7 sv e (by simp)
  have nsp:sp ∉ fL:=fun e=>c7 sp e (by simp)
  refine kE hmx hL1 hp (hC.get c1 nsv) (hC.get c2.obj nsp) (hC.get p1 (fun e=>by have:=ltL _ e;omega)) (hC.get p2 (fun e=>by have:=ltL _ e;omega)) (fun S2 r hS2=>⟨GA D dir,r,rfl,by have:=hF.list dir;omega,hS2,fun S3 fL3 l3 q hk hC3 hfp3 hA3=>?_⟩)
  exact h2 S3 fL3 l l3 q hsl hne hk (cgS hC3) (frS hfp3) (WX c1 c2 c3 c4 c5 c6 c7 c8 c9 hC3 hfp3 hA3)
end
open Go.Proofs
theorem Me.newS{S0 S:St}{l:List Node}{s:Stk}(hs:Me S0 S l s)(room:Int):Ns S s (newS l room):=by
 rw[FL];refine⟨hs.ok,hs.on,hs.tabs,?_,hs.next⟩;have h1:(s.l.map fun x=>(x.num:Int))=(s.l.map Mnt.num).map fun n:Nat=>(n:Int):=by rw[List.map_map];rfl
 rw[h1,hs.nums,List.map_reverse]
theorem aN{S A B:St}{fp:List Nat}(h:Sx S A)(k:Cg fp A B)(hf:∀j∈fp,S.length≤j):Sx S B:=fun j hj=>by
 rw[k.2 j (Nat.lt_of_lt_of_le hj h.le) (fun e=>by have:=hf j e;omega)]
 exact h j hj
theorem lT{S A:St}{fp fp':List Nat}(h:Sx S A)(hf:∀j∈fp,S.length≤j)(k:∀j∈fp',j∈fp∨A.length≤j):∀j∈fp',S.length≤j:=fun j hj=>by
 rcases k j hj with e|e
 ·exact hf j e
 ·exact Nat.le_trans h.le e
theorem Kg{α:Type}(k:Str):C9 ([]:List (Str×α)) k=(none,[]):=rfl
theorem Ra{α:Type}{n i:Nat}{l:List α}(h:(List.replicate n ([]:List α))[i]? =some l):l=[]:=by
 have:=List.mem_of_getElem? h;exact(List.mem_replicate.1 this).2
theorem Z9{α:Type}{room:Int}(hr:1≤room)(k:Str)(v:α):Pi room [] k v=[(k,v)]:=by
 have:Jv ([]:List (Str×α)) k=none:=rfl;simp[Pi,this]
theorem Og{α:Type}(k:Str)(v:α):C9 [(k,v)] k=(some v,[(k,v)]):=by
 have:Jv [(k,v)] k=some 0:=by simp[Jv,List.findIdx?_cons]
 simp[C9,this]
theorem gR{room:Int}(hr:1≤room){k:Str}{e:Ap}{l2:List (Str×Ap)}(h:bP room [] k e l2):l2=[(k,e.cp)]:=by
 rcases h with ⟨_,w,hw,_⟩|⟨h,_⟩
 ·rw[Kg] at hw;cases hw
 ·rw[h,Kg,Z9 hr]
theorem bq{S:St}{s:Stk}{D:List Node}(hL:Leads S s D)(r:Rt):VU s.tabs D ⟨[47],Ii s.tabs 0,r⟩ []:=by
 obtain⟨d,h1,_,h3⟩:=(hL.start r).last;simp at h1;rw[←h1] at h3;exact h3
theorem Oy{w0:World}(hm:L2 w0){S:St}{Q:AV→St→Prop}(hq:∀S',Sx S S'→Q (.bool true) S'):AC w0 Hs [] S Q:=by
 apply Ux;unfold OV;refine bh ?_;simp;refine cq (l:=[[97]]) (items:=[MX [47,98]]) WR WR (by simp) (by simp) (fun q1 q2 k1 k2=>?_)
 have hok1:=Zp (o:=false) (l:=[[97]]) (items:=[MX [47,98]]) (by simp) (by simp[iX]) k1 k2
 have hr:D5 (Qy false [[97]] q1 [MX [47,98]] q2)=true:=by
  have a3:Q4 (Qy false [[97]] q1 [MX [47,98]] q2)=true:=by rfl
  have a6:(MX [47,98]).allB=true:=by rfl
  have a4:(Qy false [[97]] q1 [MX [47,98]] q2).allB=true:=by
   rw[Node.all_eq,a3]
   show (Node.allsB [_]&&true)=true
   rw[Node.allsB,a6];rfl
  rw[D5,a4];rfl
 have e1:Do (Dw [Qy false [[97]] q1 [MX [47,98]] q2] []) [97]=[MX [47,98]]:=by rfl
 have e2:(GA [Qy false [[97]] q1 [MX [47,98]] q2] [47]).length=1:=by rfl
 generalize Qy false [[97]] q1 [MX [47,98]] q2=d1 at hok1 hr e1 e2 ⊢;have h0:=PV [d1] 0 (by simp[hr]) (by simp)
 simp;refine Wl (l:=[d1]) hm (by simp[hok1]) (by simp) (fun S1 h1=>⟨fun _ s hs=>?_,fun h=>absurd h0 h⟩)
 have hL:Leads S1 s [d1]:=Leads.of hs (by simp[hok1]) (by simp[hr]) (by simp)
 have hF:=hL.fine;simp;rw[AO];refine On ?_;rw[hs.len];simp;have hM:=hs.newS 2;refine NX (many:=2) (room:=2) (curs:=2) hM (by rw[FL]) (by rw[FL]) (by rw[FL]) (by rw[FL]) (fun S2 sv ot fD fL hS2 hge hA=>?_)
 have hep:(newS [d1] 2).epoch=0:=by rw[FL]
 generalize newS [d1] 2=σ at hA hep;have hrm:Fg 2=2:=rfl;have hmn:Eh 2=2:=rfl;rw[hrm,hmn] at hA;have bs2:Sx S S2:=h1.trans hS2;have gD:∀j∈fD,S.length≤j:=fun j hj=>Nat.le_trans h1.le (hge j (.inl hj))
 have gL:∀j∈fL,S.length≤j:=fun j hj=>Nat.le_trans h1.le (hge j (.inr (.inl hj)))
 have gO:∀j∈ot,S.length≤j:=fun j hj=>Nat.le_trans h1.le (hge j (.inr (.inr hj)))
 have hL2:=hL.mono hS2;have hkey:Dx [47] [97]=[47,97]:=rfl;have x0:(Ic .ptr .eql (.ptr sv 0) .nil:Option AV)=some (.bool false):=rfl;simp only[Bq,x0,AF,CP];have cst:AB AL (some s.c) 0=some (.agg s.c):=by simp[AB,Dv,Stk.c]
 have a1:CD [.agg s.c]=some [.agg s.c]:=Ck (by simp) (by simp)
 simp;refine OF hL2.ok hL2.on (fun r1 hr1=>?_)
 simp;refine Rc hA (by omega) (fun l hl=>by have:=(List.mem_replicate.1 hl).2;subst this;simp) (by omega) hL2 (epoch:=0) (bq hL2 .nil) (n:=[97]) (by simp)
  (fun S3 fD3 l e hsl hg _ _ _ _=>by have:=Ra hsl;subst this;rw[Kg] at hg;cases hg) (fun S3 fD3 l l2 e hsl hne he hseen hk hC hfr hA3=>?_)
 have:=Ra hsl;subst this;have:=gR (by omega) hk
 subst this;have bs3:=aN bs2 hC gD;have gD3:=lT bs2 gD hfr;have hL3:Leads S3 s [d1]:=hL2.chg hC (fun j hj=>hA.apart.2 j (.inl hj))
 have hag:=Hb s.tabs [97] _ _ hL2.root (fun n hn=>(hL2.dirs n hn).2.1)
 have hf:=hseen.f;have hpl:FR s.tabs []=Ii s.tabs 0:=rfl;rw[hpl] at hf;have hd0:Dw [d1] []=EY [d1]:=rfl;rw[hd0] at e1;rw[e1,←hf] at hag;have f3:e.f.kind=3:=hag.1;have ft:e.target=[47,98]:=hseen.tgt f3 (MX [47,98]) [] (by rw[hd0];exact e1)
 have fth:e.there=true:=by rw[hseen.there,f3];rfl
 simp;refine OF hL3.ok hL3.on (fun r2 hr2=>?_)
 simp;have hofl:ofK 2 [47,97] < 2:=Gr (by omega) _
 have hi2:((List.replicate 2 ([]:List (Str×Ap))).set (ofK (List.replicate 2 ([]:List (Str×Ap))).length (Dx [47] [97])) [(Dx [47] [97],e.cp)]).length=2:=by simp
 refine Rc hA3 (by omega) (fun l hl=>?_) (by omega) hL3 (epoch:=0) (bq hL3 .nil) (n:=[97]) (by simp)
  (fun S4 fD4 l e4 hsl hg _ hC4 hfr4 hA4=>?_) (fun S4 fD4 l l2 e4 hsl hne _ _ _ _ _ _=>?_)
 ·rcases List.mem_or_eq_of_mem_set hl with hl|rfl
  ·have:=(List.mem_replicate.1 hl).2;subst this;simp
  ·simp[Ap.cp];have:=hseen.dirs;omega
 ·simp only[List.length_set,List.length_replicate] at hsl hA4;rw[List.getElem?_set_self (by simpa using Gr (n:=2) (by omega) _)] at hsl
  cases hsl;rw[Og] at hg;cases hg;have bs4:=aN bs3 hC4 gD3;have gD4:=lT bs3 gD3 hfr4;have hL4:Leads S4 s [d1]:=hL3.chg hC4 (fun j hj=>hA3.apart.2 j (.inl hj))
  have c1:e.c[1]? =some (.bool true):=by rw[←fth];rfl
  have c6:e.cp.cp.c[6]? =some (.str [47,98]):=by rw[←ft];rfl
  try simp only[Ap.st,AF,AX,Bq]
  try simp
  refine Pq hA4 ?_;simp;refine H9 hA4 (by simp) ?_
  have z1:∀e:Ap,e.c++List.drop e.c.length [AV.int .i64 0,.bool false,.int .i64 0,.int .i64 0,.int .i64 0,.vs 2 [] .nil,.str []]=e.c:=fun e=>by simp[Ap.c]
  simp[z1,c1,c6,AO];refine JL hA4 (fun S5 hC5 hA5=>?_)
  have bs5:=aN bs4 hC5 gO;have hL5:Leads S5 s [d1]:=hL4.chg hC5 (fun j hj=>hA4.apart.2 j (.inr (.inr hj)))
  have t1:∀k id,I7 [] k id=([(k,id)],true):=fun k id=>rfl
  rw[t1] at hA5 ⊢;simp;refine JL hA5 (fun S6 hC6 hA6=>?_)
  have bs6:=aN bs5 hC6 gO;have hL6:Leads S6 s [d1]:=hL5.chg hC6 (fun j hj=>hA5.apart.2 j (.inr (.inr hj)))
  have t2:∀k id id2,I7 [(k,id)] k id2=([(k,id)],false):=fun k id id2=>by simp[I7,H5,List.findIdx?_cons]
  rw[t2] at hA6 ⊢;simp;refine P0 hA6 ?_;simp;refine Lu hm hA6 (by omega) (fun l hl=>by have:=(List.mem_replicate.1 hl).2;subst this;simp) (by omega) hL6 hF (dir:=[47]) (by simp)
   (fun S7 fL7 l x q hsl hg _ _ _ _=>by have:=Ra hsl;subst this;rw[Kg] at hg;cases hg) (fun S7 fL7 l l2 q hsl hne hk hC7 hfr7 hA7=>?_)
  simp[A6,e2];exact hq S7 (aN bs6 hC7 gL)
 ·exfalso;simp only[List.length_set,List.length_replicate] at hsl;rw[List.getElem?_set_self (by simpa using Gr (n:=2) (by omega) _)] at hsl
  cases hsl;simp only[List.length_set,List.length_replicate,Og] at hne;exact hne e.cp rfl he
open Go.Proofs
theorem Ends.uniq{L:List (List Cn)}{D:List Node}{want:AtN}{t u:Fnd}(h:Ends L D want t)(k:Ends L D want u):t=u:=by
 obtain⟨_,ds,names,hw,h⟩:=h;obtain⟨_,ds',names',hw',k⟩:=k;have good:∀{ds:List Drx} {names:List Str},LG L D ds names→∀y l,Dw D names=y::l→y.kind=2:=fun hw y l e=>by
  obtain⟨d,_,_,hd⟩:=hw.last;exact(hd.good y (by rw[e];simp)).2.2.1
 rcases h with ⟨h1,h2,h3⟩|⟨s,y,l,h1,h2,h3,h4,h5,h6⟩<;>rcases k with ⟨k1,k2,k3⟩|⟨s',y',l',k1,k2,k3,k4,k5,k6⟩
 ·rw[h3,k3,←h1,k1]
 ·exact absurd (good hw y' l' (h2.symm.trans k5)) k4
 ·exact absurd (good hw' y l (k2.symm.trans h5)) h4
 ·have e:names++[s]=names'++[s']:=h2.symm.trans k2;obtain⟨e1,e2⟩:=List.append_inj' e rfl;simp at e2;rw[h6,k6,e1,e2]
theorem keyN_inj{a b:List Str}{x y:Str}(ha:∀s∈a,Es s=true)(hb:∀s∈b,Es s=true)(hx:Es x=true)(hy:Es y=true)(h:Dx (pathOf a) x=Dx (pathOf b) y):a=b∧x=y:=by
 have e1:Dx (pathOf a) x=pathOf (a++[x]):=Yn ha;have e2:Dx (pathOf b) y=pathOf (b++[y]):=Yn hb;rw[e1,e2] at h;simp only[pathOf,List.cons.injEq,true_and] at h;have no:∀{l:List Str} {z:Str},(∀s∈l,Es s=true)→Es z=true→∀s∈l++[z],47 ∉ s:=fun hl hz s hs=>by
  rcases List.mem_append.1 hs with hs|hs
  ·exact(Jd (hl s hs)).2.2.2.2
  ·simp at hs;subst hs;exact(Jd hz).2.2.2.2
 have s1:=splitS_join (l:=a++[x]) (by simp) (no ha hx)
 have s2:=splitS_join (l:=b++[y]) (by simp) (no hb hy)
 rw[h,s2] at s1;obtain⟨e3,e4⟩:=List.append_inj' s1 rfl;simp at e4;exact⟨e3.symm,e4.symm⟩
abbrev LDs:=Int→List (List Cn)×List Node
def GoodE(X:LDs)(key:Str)(e:Ap):Prop:=e.f.dirs.length≤64∧∀names n,(∀s∈names,Es s=true)→Es n=true→key=Dx (pathOf names) n→Wg (X e.epoch).1 (X e.epoch).2 names n e
structure MemD(X:LDs)(room:Int)(b:Nat)(hits misses:Int)(sh:List (List (Str×Ap))):Prop where
 good:∀l∈sh,∀p∈l,GoodE X p.1 p.2
 len:∀l∈sh,l.length≤b∧(l.length:Int)≤room
 cnt:0≤hits∧hits≤b∧0≤misses∧misses≤b
theorem GoodE.cp{X:LDs}{key:Str}{e:Ap}(h:GoodE X key e):GoodE X key e.cp:=⟨h.1,fun names n h1 h2 h3=>(h.2 names n h1 h2 h3).cp⟩
theorem MemD.rep{X:LDs}{room:Int}(hr:1≤room)(n:Nat):MemD X room 0 0 0 (List.replicate n []):=⟨fun l hl=>by have:=(List.mem_replicate.1 hl).2;subst this;simp,fun l hl=>by have:=(List.mem_replicate.1 hl).2;subst this;simp;omega,by omega⟩
section
variable {w0:World} {S:St} {sv:Nat} {ot fD fL:List Nat} {σ:SpN} {s:Stk} {hits misses made roomD roomL:Int} {shD:List (List (Str×Ap))} {shL:List (List (Str×BX))} {held:List ((Bool×Int)×Int)} {Q:AV→St→Prop}
theorem server_See_B{X:LDs}{b:Nat}(h:FH S sv ot fD fL σ s hits misses made roomD roomL shD shL held)(hroom:1≤roomD)(hM:MemD X roomD b hits misses shD)(hb:b≤800000)
  {st:Stk} {D:List Node} (hL:Leads S st D) {epoch:Int} (hX:X epoch=(st.tabs,D)) {d:Drx} {names:List Str} (hd:VU st.tabs D d names) (hnm:∀s∈names,Es s=true) {n:Str} (hn:Es n=true) {pr:Rt}
  (hq:∀S' fD' hits' misses' shD' e,Wg st.tabs D names n e→Cg fD S S'→(∀j∈fD',j∈fD∨S.length≤j)→FH S' sv ot fD' fL σ s hits' misses' made roomD roomL shD' shL held→MemD X roomD (b+1) hits' misses' shD'→Q (.agg e.c) S'):
  AC w0 FN [.ptr sv 0,.agg st.c,.int .i64 epoch,.str d.path,.vs 2 (d.place.map spC) pr,.str n] S Q:=by
 have hnl:=(Jd hn).2.2.2.1;have hpl:d.path.length≤1000:=by rw[hd.path];exact Vy hd.short hnm
 have hc:=hM.cnt;have hset:∀(l l2:List (Str×Ap)),shD[ofK shD.length (Dx d.path n)]? =some l→(∀p∈l2,GoodE X p.1 p.2)→l2.length≤b+1∧(l2.length:Int)≤roomD→∀x∈shD.set (ofK shD.length (Dx d.path n)) l2,(∀p∈x,GoodE X p.1 p.2)∧(x.length≤b+1∧(x.length:Int)≤roomD):=fun l l2 hl h1 h2 x hx=>by
  rcases List.mem_or_eq_of_mem_set hx with hx|rfl
  ·exact⟨hM.good x hx,by have:=(hM.len x hx).1;omega,(hM.len x hx).2⟩
  ·exact⟨h1,h2⟩
 refine Rc h hroom (fun l hl=>⟨by have:=(hM.len l hl).1;omega,fun p hp=>by have:=(hM.good l hl p hp).1;omega⟩) (by omega) hL hd (by omega) (fun S' fD' l e hsl hg he hC hfr hA=>?_) (fun S' fD' l l2 e hsl hne he hseen hk hC hfr hA=>?_)
 ·have hlm:=List.mem_of_getElem? hsl;have hmem:=YB hg;have hge:=hM.good l hlm _ hmem;have his:=hge.2 names n hnm hn (by rw[hd.path])
  rw[he,hX] at his;have hs:=hset l (C9 l (Dx d.path n)).2 hsl (fun p hp=>hM.good l hlm p (lruG_mem.1 hp)) (by rw[Sa];have:=hM.len l hlm;omega)
  exact hq S' fD' _ _ _ e.cp his.cp hC hfr hA ⟨fun x hx=>(hs x hx).1,fun x hx=>(hs x hx).2,by omega⟩
 ·have hlm:=List.mem_of_getElem? hsl;have hge:GoodE X (Dx d.path n) e:=⟨hseen.dirs,fun names' n' h1 h2 h3=>by
   rw[hd.path] at h3;obtain⟨e1,e2⟩:=keyN_inj hnm h1 hn h2 h3;subst e1 e2;rw[he,hX];exact hseen⟩
  have hl2:(∀p∈l2,GoodE X p.1 p.2)∧l2.length≤b+1∧(l2.length:Int)≤roomD:=by
   have hll:=hM.len l hlm;rcases hk with ⟨rfl,_⟩|⟨rfl,_⟩
   ·exact⟨fun p hp=>hM.good l hlm p (lruG_mem.1 hp),by rw[Sa];omega,by rw[Sa];omega⟩
   ·have hpl:=lruP_len (l:=(C9 l (Dx d.path n)).2) (k:=Dx d.path n) (v:=e.cp) (room:=roomD) (by rw[Sa];omega) hroom
    rw[Sa] at hpl;refine⟨fun p hp=>?_,by omega,hpl.1⟩
    rcases lruP_mem hp with rfl|hp
    ·exact hge.cp
    ·exact hM.good l hlm p (lruG_mem.1 hp)
  have hs:=hset l l2 hsl hl2.1 ⟨hl2.2.1,hl2.2.2⟩;exact hq S' fD' _ _ _ e hseen hC hfr hA ⟨fun x hx=>(hs x hx).1,fun x hx=>(hs x hx).2,by omega⟩
end
open Go.Proofs
theorem MemD.mono{X:LDs}{room:Int}{b b':Nat}{hits misses:Int}{sh:List (List (Str×Ap))}(h:MemD X room b hits misses sh)(k:b≤b'):MemD X room b' hits misses sh:=
 ⟨h.good,fun l hl=>⟨Nat.le_trans (h.len l hl).1 k,(h.len l hl).2⟩,by have:=h.cnt;omega⟩
theorem Exo.cg{id:Nat}{S S':St}(h:Exo id S S'):Cg [id] S S':=⟨h.1,fun j hj hn=>h.2 j hj (by simpa using hn)⟩
theorem Nw.notBr{S:St}{id:Nat}{w:Wk}(h:Nw S id w):∀j∈[id],∀o,S[j]? =some o→Ni o:=by
 obtain⟨rt,rd,e,h1,_⟩:=h;intro j hj o ho;simp at hj;subst hj;rw[h1] at ho;cases ho;exact Gd (by decide) (by simp[Wk.cs])
theorem Nw.cg{S S':St}{id:Nat}{w:Wk}{ids:List Nat}(h:Nw S id w)(hf:w.fin=none)(k:Cg ids S S')(hn:id ∉ ids):Nw S' id w:=by
 obtain⟨rt,rd,e,h1,h2,h3,h4⟩:=h;refine⟨rt,rd,e,k.get h1 hn,h2,h3,?_⟩;rw[hf] at h4 ⊢;exact h4
section
variable {w0:World} {S:St} {sv:Nat} {ot fD fL:List Nat} {σ:SpN} {s:Stk} {hits misses made roomD roomL:Int} {shD:List (List (Str×Ap))} {shL:List (List (Str×BX))} {held:List ((Bool×Int)×Int)} {Q:AV→St→Prop}
structure AInv(X:LDs)(S S2:St)(sv:Nat)(ot fD fL:List Nat)(σ:SpN)(s:Stk)(made roomD roomL:Int)(shL:List (List (Str×BX)))(held:List ((Bool×Int)×Int))(b:Nat)(st:Stk)(D:List Node)(S':St):Prop where
 srv:∃fD' hits' misses' shD',FH S' sv ot fD' fL σ s hits' misses' made roomD roomL shD' shL held∧MemD X roomD b hits' misses' shD'∧∀j∈fD',j∈fD∨S2.length≤j
 cg:Cg fD S S'
 len:S2.length≤S'.length
 leads:Leads S' st D
theorem AInv.exo{X:LDs}{S2 S' S6:St}{b:Nat}{st:Stk}{D:List Node}(h:AInv X S S2 sv ot fD fL σ s made roomD roomL shL held b st D S')(h2:S.length < S2.length)(hlt:∀j,j∈fD∨j∈fL∨j∈ot→j < S.length){w:Wk}(hW:Nw S' S.length w)(hE:Exo S.length S' S6):AInv X S S2 sv ot fD fL σ s made roomD roomL shL held b st D S6:=by
 obtain⟨⟨fD',hits',misses',shD',h3,h4,h5⟩,h6,h7,h8⟩:=h;refine⟨⟨fD',hits',misses',shD',h3.chg hE.cg (fun j hj=>?_) hW.notBr,h4,h5⟩,⟨Nat.le_trans h6.1 hE.1,fun j hj hn=>?_⟩,Nat.le_trans h7 hE.1,h8.chg hE.cg hW.notBr⟩
 ·simp at hj;subst hj;refine⟨fun e=>by have:=hlt _ (.inr (.inr e));omega,fun e=>?_,fun e=>by have:=hlt _ (.inr (.inl e));omega⟩
  rcases h5 _ e with e|e
  ·have:=hlt _ (.inl e);omega
  ·omega
 ·rw[hE.2 j (Nat.lt_of_lt_of_le hj h6.1) (by omega)]
  exact h6.2 j hj hn
def WkSt(st:Stk)(D:List Node)(want:AtN)(w:Wk)(i:Nat):Prop:=(∃h names,Going st.tabs D want w h names∧i+w.todo.length+128*h≤5632)∨(i≤5632∧∃g names,LG st.tabs D w.dirs names∧w.fin=some (pathOf want.names,g)∧w.todo=[]∧Ends st.tabs D want g)
theorem law21_along_A(hm:L2 w0){X:LDs}{b:Nat}(hA:FH S sv ot fD fL σ s hits misses made roomD roomL shD shL held)(hroom:1≤roomD)(hM:MemD X roomD b hits misses shD)(hb:b≤700000)
  {st:Stk} {D:List Node} (hL:Leads S st D) {epoch:Int} (hX:X epoch=(st.tabs,D)) {path:Str} (hs:path.length≤1048576) {fl:Bool}
  (hq:∀S' fD' hits' misses' shD',Cg fD S S'→(∀j∈fD',j∈fD∨S.length≤j)→FH S' sv ot fD' fL σ s hits' misses' made roomD roomL shD' shL held→MemD X roomD (b+5760) hits' misses' shD'→
   ((DV D path fl).err≠0→Q (.tup [.agg (.str []::Fnd.none.c .nil),.int .i64 (DV D path fl).err]) S')∧
   ((DV D path fl).err=0→∀(t:Fnd) (r:Rt),Ends st.tabs D (DV D path fl) t→Q (.tup [.agg (.str (pathOf (DV D path fl).names)::t.c r.strip),.int .i64 0]) S')):
  AC w0 F_law21_along [.ptr sv 0,.agg st.c,.int .i64 epoch,.str path,.bool fl] S Q:=by
 have hc:st.c=[.vs 2 (st.l.map Mnt.c) st.r.strip,.int .i64 st.next]:=rfl;rw[hc];apply law21_along_ok;unfold G_law21_along;simp[←hc];refine OF hL.ok hL.on (fun r hr=>?_)
 simp;refine cR hm hs ?_;generalize hwant:DV D path fl=want at hq;unfold DV at hwant;obtain⟨lt1,lt2,lt3,svo⟩:=hA.lts;have hlt:∀j,j∈fD∨j∈fL∨j∈ot→j < S.length:=fun j hj=>by
  rcases hj with hj|hj|hj
  ·exact lt2 j (.inl hj)
  ·exact lt2 j (.inr hj)
  ·exact lt3 j hj
 cases hsp:D4 path with
 |none=>
  rw[hsp] at hwant;simp only at hwant;subst hwant;have:=(hq S fD hits misses shD (Cg.refl _ _) (fun j hj=>.inl hj) hA (hM.mono (by omega))).1 (by simp)
  simp[AO];simpa[Fnd.c,Fnd.none] using this
 |some l=>
  rw[hsp] at hwant;simp only at hwant;intro S2 hS2 h2l hW;have htwo:=Ks hsp;have hsh:=KX hsp;simp[-pC,-pG,-oD]
  try rw[AO]
  try rw[AO]
  refine Fw (fun i:Nat=>([.int .i64 i],[some st.c,some [.str [],.int .i64 0,.int .i64 0,.int .i64 0,.vs 2 [] .nil]])) (fun n i S'=>AInv X S S2 sv ot fD fL σ s made roomD roomL shL held (b+i) st D S'∧
   (∃w,Nw S' S.length w∧WkSt st D want w i)∧n=6000 - i) 6000 0 (by simp)
   ⟨⟨⟨fD,hits,misses,shD,hA.sx hS2,by simpa using hM,fun j hj=>.inl hj⟩,hS2.chg fD,Nat.le_refl _,hL.mono hS2⟩,⟨_,hW,.inl ⟨40,[],⟨hL.start _,rfl,fun x hx=>RG hsp x hx,rfl,hwant⟩,by simp only;omega⟩⟩,rfl⟩ ?_
  rintro n i S5 v bx ⟨hI,⟨w,hW5,hcase⟩,hn⟩ hv;simp only[Prod.mk.injEq,List.cons.injEq,and_true] at hv;obtain⟨hv1,hv2,hv3⟩:=hv;unfold WkSt at hcase;have hi:i≤5632:=by rcases hcase with ⟨h,names,g,h2⟩|⟨h,_⟩<;>omega
  have hi2:(i:Int) < 5760:=by omega
  have hdirs:∃names,LG st.tabs D w.dirs names:=by
   rcases hcase with ⟨h,names,g,_⟩|⟨_,_,names,h,_⟩
   ·exact⟨names,g.on⟩
   ·exact⟨names,h⟩
  obtain⟨nm0,hon0⟩:=hdirs;have hdl:w.dirs.length≤16:=by
   obtain⟨d,_,_,h3⟩:=hon0.last;have:=h3.short;have:=hon0.len;omega
  have hdn:w.dirs≠[]:=fun e=>by have:=hon0.len;rw[e] at this;simp at this
  have fin:∀S',AInv X S S2 sv ot fD fL σ s made roomD roomL shL held (b+i) st D S'→(want.err≠0→Q (.tup [.agg (.str []::Fnd.none.c .nil),.int .i64 want.err]) S')∧(want.err=0→∀(t:Fnd) (r:Rt),Ends st.tabs D want t→Q (.tup [.agg (.str (pathOf want.names)::t.c r.strip),.int .i64 0]) S'):=fun S' hI=>by
   obtain⟨⟨fD',hits',misses',shD',k1,k2,k3⟩,k4,k5,k6⟩:=hI;refine hq S' fD' hits' misses' shD' k4 (fun j hj=>?_) k1 (k2.mono (by omega))
   rcases k3 j hj with e|e
   ·exact .inl e
   ·exact .inr (by omega)
  have fin':∀S',AInv X S S2 sv ot fD fL σ s made roomD roomL shL held (b+i+1) st D S'→want.err≠0→Q (.tup [.agg (.str []::Fnd.none.c .nil),.int .i64 want.err]) S':=fun S' hI=>by
   obtain⟨⟨fD',hits',misses',shD',k1,k2,k3⟩,k4,k5,k6⟩:=hI;refine(hq S' fD' hits' misses' shD' k4 (fun j hj=>?_) k1 (k2.mono (by omega))).1
   rcases k3 j hj with e|e
   ·exact .inl e
   ·exact .inr (by omega)
  simp[hv1,hv2,hv3,hi2,-pC,-pG,-oD];refine V2 hW5 hdn (by omega) (fun S6 hE6 hW6=>?_)
  have hI6:=hI.exo h2l hlt hW5 hE6;rcases hcase with ⟨h,names,g,hm2⟩|⟨hi3,g,names,hg1,hg2,hg4,hg3⟩
  ·have hf:=g.fin;have hask:w.ask=w.pop:=by rw[Wk.ask,hf]
   obtain⟨names',g'⟩:=g.pop;rw[←hask] at g';have hhd:w.ask.todo.head?≠some dd:=by rw[hask];exact QW _ _
   have hpl:w.ask.todo.length≤w.todo.length:=by rw[hask];exact Tb _ _
   generalize w.ask=w1 at hW6 g' hhd hpl ⊢;have hdl1:w1.dirs.length≤16:=by
    obtain⟨d,_,_,h3⟩:=g'.on.last;have:=h3.short;have:=g'.on.len;omega
   have hdn1:w1.dirs≠[]:=fun e=>by have:=g'.on.len;rw[e] at this;simp at this
   cases ht:w1.todo with
   |nil=>
    refine⟨fun _ s' t' d e=>(by cases e),fun _=>?_⟩
    simp[-pC,-pG,-oD];refine P4 hW6 hdn1 (by omega) ?_
    rw[g'.fin];intro d r5 hd;obtain⟨d',e1,e2,e3⟩:=g'.end ht;rw[hd] at e1;cases e1;rw[e2];have:=(fin S6 hI6).2 e3.1 _ r5.strip e3;simp[Fnd.c];simpa[Fnd.c] using this
   |cons nm rest=>
    refine⟨fun _ s' t' d e hd=>?_,fun e=>by rcases e with e|e;exact absurd hf e;cases e⟩
    cases e;have hnd:nm≠dd:=fun e=>hhd (by rw[ht,e];rfl)
    obtain⟨d0,d01,d02,hd0⟩:=g'.on.last;rw[hd] at d01;cases d01;have hnr:Es nm=true:=(g'.td nm (by rw[ht];simp)).resolve_left hnd
    obtain⟨⟨fD',hits',misses',shD',k1,k2,k3⟩,k4,k5,k6⟩:=hI6;have nid:S.length ∉ fD':=fun e=>by
     rcases k3 _ e with e|e
     ·have:=hlt _ (.inl e);omega
     ·omega
    simp[-pC,-pG,-oD];refine server_See_B k1 hroom k2 (by omega) k6 hX hd0 g'.on.nm hnr (fun S7 fD7 hits7 misses7 shD7 e hseen hC7 hfr7 hA7 hM7=>?_)
    have hW7:=hW6.cg g'.fin hC7 nid;have hI7:AInv X S S2 sv ot fD fL σ s made roomD roomL shL held (b+i+1) st D S7:=⟨⟨fD7,hits7,misses7,shD7,hA7,hM7,fun j hj=>by
     rcases hfr7 j hj with e|e
     ·exact k3 j e
     ·exact .inr (by omega)⟩,⟨Nat.le_trans k4.1 hC7.1,fun j hj hn=>by
      rw[hC7.2 j (Nat.lt_of_lt_of_le hj k4.1) (fun e=>by rcases k3 j e with e|e;exact hn e;omega),k4.2 j hj hn]⟩,Nat.le_trans k5 hC7.1,k6.chg hC7 (fun j hj=>k1.apart.2 j (.inl hj))⟩
    have z1:∀e:Ap,e.c++List.drop e.c.length [AV.int .i64 0,.bool false,.int .i64 0,.int .i64 0,.int .i64 0,.vs 2 [] .nil,.str []]=e.c:=fun e=>by simp[Ap.c]
    have tell:=fun (k:AV→St→Prop) hk=>walk_tell_A (rf:=e.r) hm hW7 g' ht hnd (by omega) hseen.f (target:=e.target) hseen.len hseen.tgt (k:=k) hk
    have hth:e.there= !decide (e.f.kind=0):=by rw[hseen.there];simp
    simp[Ap.c,hth,-pC,-pG,-oD];simp only[Fnd.c] at tell;refine tell _ (fun S8 er hE8=>⟨fun he hw2=>?_,fun he w2 hW2 hc2=>?_⟩)
    ·have hI8:=hI7.exo h2l hlt hW7 hE8;have:=fin' S8 hI8 (by rw[hw2];exact he)
     rw[hw2] at this;simp[he];simpa[Fnd.c,Fnd.none] using this
    ·subst he;have hI8:=hI7.exo h2l hlt hW7 hE8;simp
     try simp (disch:=omega) only[wrap64]
     have hll2:w1.todo.length=rest.length+1:=by rw[ht];rfl
     have h40:=g'.hops;have hhh:=g.hops;refine⟨6000 - (i+1),i+1,by omega,by simp,hI8,⟨w2,hW2,?_⟩,rfl⟩
     unfold WkSt;rcases hc2 with ⟨h',nm2,g2,hc3⟩|⟨gg,nms,c1,c2,c3,c4⟩
     ·refine .inl ⟨h',nm2,g2,?_⟩;rcases hc3 with ⟨c1,c2⟩|⟨c1,pp,c2,c3⟩
      ·rw[c1,c2];omega
      ·rw[c3,List.length_append];omega
     ·exact .inr ⟨by omega,gg,nms,c1,c2,c3,c4⟩
  ·have hask:w.ask=w:=by rw[Wk.ask,hg2]
   rw[hask] at hW6 ⊢;refine⟨fun e=>(by rw[hg2] at e;cases e),fun _=>?_⟩
   simp[-pC,-pG,-oD];refine P4 hW6 hdn (by omega) ?_
   rw[hg2];intro r5;have:=(fin S6 hI6).2 hg3.1 _ r5.strip hg3;simp[Fnd.c];simpa[Fnd.c] using this
end
open Go.Proofs
theorem Ends.few{L:List (List Cn)}{D:List Node}{want:AtN}{t:Fnd}(h:Ends L D want t):t.dirs.length≤64:=by
 have hf:=h.facts;obtain⟨he,ds,names,hw,hc⟩:=h;obtain⟨d,_,_,hd⟩:=hw.last;have hon:=hd.on;rw[hd.at_] at hon;rcases hc with ⟨h1,h2,h3⟩|⟨s,y,l,hs,h1,h2,h3,h4,h5⟩
 ·have:=hd.few;rw[←hon.len] at this;rw[h3];exact this
 ·rw[h4] at hf;obtain⟨_,_,_,_,h6⟩:=hf;rw[if_neg h3] at h6;rw[h6.1];simp
theorem law21_ServerSees_L(w0:World)(hm:L2 w0)(x0 x1 x2:AV)(h0:TV t_2_s_api_Node x0)(h1:TV t_server_Config x1)(h2:TV Mm x2):AC w0 F_law21_ServerSees [x0,x1,x2] [] fun r _=>r= .bool true:=by
 refine jD fun Q hq=>?_
 obtain⟨l0,r0,l1,r1,rfl,_,hlok0,hll0,_,hlok1,hll1⟩:∃(l0:List Node) (r0:Rt) (l1:List Node) (r1:Rt),x0= .agg [.vs 7 (l0.map Node.c) r0,.vs 7 (l1.map Node.c) r1]∧True∧(∀n∈l0,n.ok)∧l0.length≤1048576∧True∧(∀n∈l1,n.ok)∧l1.length≤1048576:=by
  obtain⟨cs,rfl,k0⟩:=h0.agg (by simp[isAgg,show Tryz.prog.underlying t_2_s_api_Node=_ from un_2_s_api_Node])
  obtain⟨e1,e2⟩:=k0.array_inv un_2_s_api_Node;rw[ce_2_s_api_Node] at e1
  match cs,e1 with
  |[a,b],_=>
   have k1:=e2 0 (by omega)
   have k2:=e2 1 (by omega)
   rw[ce_s_api_Node] at k1 k2;obtain⟨l,lr,q1,q2,q3,q4⟩:=(Zq k1).2 rfl;obtain⟨l',lr',q1',q2',q3',q4'⟩:=(Zq k2).2 rfl;simp at q1 q1';subst q1 q1';exact⟨l,lr,l',lr',rfl,trivial,q4,q3,trivial,q4',q3'⟩
 obtain⟨cs,cr,cc,rfl⟩:∃a b d:Int,x1= .agg [.int .i64 a,.int .i64 b,.int .i64 d]:=by
  obtain⟨xs,rfl,h2⟩:=h1.agg (by simp[isAgg,un_server_Config])
  obtain⟨hl,hf⟩:=h2.struct_inv un_server_Config
  match xs,hl with
  |[a0,a1,a2],_=>
   obtain⟨k0,e0,_⟩:=U5 (hf _ (List.mem_cons_self)) VL;obtain⟨k1,e1,_⟩:=U5 (hf _ (List.mem_cons_of_mem _ List.mem_cons_self)) VL;obtain⟨k2,e2,_⟩:=U5 (hf _ (List.mem_cons_of_mem _ (List.mem_cons_of_mem _ List.mem_cons_self))) VL;cases e0;cases e1;cases e2;exact⟨k0,k1,k2,rfl⟩
 obtain⟨ps,pr,rfl,hpr,hpl,hps⟩:=h2.slice (enc:=Cw) (ok:=fun s:Str=>s.length≤1048576) bz gN (fun ys h=>by
  obtain⟨s,e,h⟩:=Rl h PQ;exact⟨s,e,h⟩)
 apply law21_ServerSees_ok;unfold G_law21_ServerSees;simp;refine Oy hm (fun S _=>?_)
 simp;refine ag hlok0 (fun S2 hS2=>?_)
 cases hmay0:X0 l0 with
 |false=>simp[AO,hq]
 |true=>
 simp;refine ag hlok1 (fun S3 hS3=>?_)
 cases hmay1:X0 l1 with
 |false=>simp[AO,hq]
 |true=>
 simp
 by_cases hp:30 < ps.length
 ·have:(30:Int) < ps.length:=by omega
  simp[this,hq]
 have hpi:¬(30:Int) < ps.length:=by omega
 simp only[hpi,decide_false,CP];have hnone:[AV.vs 2 [] .nil,.int .i64 0]=Stk.none.c:=rfl;rw[hnone];refine NX (many:=cs) (room:=cr) (curs:=cc) (kJ cc) (by rw[FL]) (by rw[FL]) (by rw[FL]) (by rw[FL]) (fun S4 sv ot fD fL hS4 hge hA=>?_)
 generalize newS [] cc=σ at hA;have hrp:=gE cr;obtain⟨X,hXd⟩:∃X:LDs,X=fun ep=>if ep=0 then (l0.reverse.map fun n=>n.tab 0,l0.reverse) else (l1.reverse.map fun n=>n.tab 0,l1.reverse):=⟨_,rfl⟩
 have hM0:MemD X (Fg cr) 0 0 0 (List.replicate (Eh cs) []):=MemD.rep hrp _;have hmL:Ub (List.replicate (Eh cs) ([]:List (Str×BX)))=0:=by
  have:=mostN_le (sh:=List.replicate (Eh cs) ([]:List (Str×BX))) (b:=0) (Nat.le_refl 0) (fun l hl=>by rw[(List.mem_replicate.1 hl).2];simp)
  unfold Ub;omega
 generalize List.replicate (Eh cs) ([]:List (Str×Ap))=shD at hA hM0;generalize List.replicate (Eh cs) ([]:List (Str×BX))=shL at hA hmL;refine Eq.mpr AO ?_;refine BN ps (fun i (_:Unit)=>([.int .i64 i],[some [.vs 7 (l0.map Node.c) r0,.vs 7 (l1.map Node.c) r1],some [.int .i64 cs,.int .i64 cr,.int .i64 cc]])) (fun i _ S'=>∃fD' hits' misses' shD',FH S' sv ot fD' fL σ Stk.none hits' misses' 0 (Fg cr) (Fg cr) shD' shL []∧MemD X (Fg cr) (5760*i) hits' misses' shD') () (by simp) ⟨fD,0,0,shD,hA,hM0⟩ ?_ ?_
 ·rintro i _ S6 v bx p ci hxi hd hc hmem ⟨fD6,hits6,misses6,sh6,hA6,hM6⟩ hv;simp only[Prod.mk.injEq,List.cons.injEq,and_true] at hv;obtain⟨hv1,hv2,hv3⟩:=hv;have w1:IntKind.i64.wrap ((i:Int)+1)=(i:Int)+1:=wrap64 (by omega) (by omega)
  simp only[hv1,hv2,hv3,GL,AF,hc,decide_true,Cf];refine DX (fun j=>∀S9 fD9 hits9 misses9 sh9,FH S9 sv ot fD9 fL σ Stk.none hits9 misses9 0 (Fg cr) (Fg cr) sh9 shL []→MemD X (Fg cr) (5760*(i+1)) hits9 misses9 sh9→j S9) (fun S9 fD9 hits9 misses9 sh9 k1 k2=>?_) (fun j10 hj10=>?_)
  ·simp[w1];exact .next ci () (by simp) ⟨fD9,hits9,misses9,sh9,k1,k2⟩
  have hgp:(ps.map Cw)[i]? =some [.str p]:=by rw[List.getElem?_map,hxi];rfl
  simp[hgp,hxi]
  by_cases hpl2:200 < p.length
  ·have:(200:Int) < p.length:=by omega
   simp[this,hq]
  have hpl3:¬(200:Int) < p.length:=by omega
  simp only[hpl3,decide_false,CP];refine DX (fun j=>∀(lk:List Node) (rk:Rt) (ep:Int),(∀n∈lk,n.ok)→X0 lk=true→X ep=(lk.reverse.map fun n=>n.tab 0,lk.reverse)→j (.vs 7 (lk.map Node.c) rk) (.int .i64 ep)) (fun lk rk ep hlok hmay hX=>?_) (fun j9 hj9=>?_)
  ·obtain⟨h8,hall⟩:=ar.1 hmay;have hright:∀n∈lk,D5 n=true:=fun n hn=>(hall n hn).2
   simp;refine Xv hm hlok hmay (fun S7 s hS7 hs=>?_)
   have hL:Leads S7 s lk.reverse:=Leads.of hs hlok hright (by omega)
   have hX':X ep=(s.tabs,lk.reverse):=by rw[hX];congr 1;exact hs.tabs.symm
   simp;have hr2:AP .rem (.int .i64 (i:Int)) (.int .i64 2)=some (.int .i64 ((i:Int).tmod 2)):=by simp[AP,GN]
   obtain⟨fl,hfl⟩:∃fl,AP .eql (.int .i64 ((i:Int).tmod 2)) (.int .i64 0)=some (.bool fl):=⟨_,rfl⟩;simp only[hr2,hfl,AF];simp;have hlen30:i < 30:=by omega
   have fin:∀S8 fD8 h8 m8 sh8,FH S8 sv ot fD8 fL σ Stk.none h8 m8 0 (Fg cr) (Fg cr) sh8 shL []→MemD X (Fg cr) (5760*i+5760) h8 m8 sh8→∀S9,Sx S8 S9→j10 S9∧FH S9 sv ot fD8 fL σ Stk.none h8 m8 0 (Fg cr) (Fg cr) sh8 shL []∧((Ub sh8:Nat):Int)≤Fg cr:=fun S8 fD8 h8 m8 sh8 k1 k2 S9 k3=>by
    refine⟨hj10 S9 fD8 h8 m8 sh8 (k1.sx k3) (k2.mono (by omega)),k1.sx k3,?_⟩
    have:=mostN_le (sh:=sh8) (a:=0) (b:=(Fg cr).toNat) (by omega) (fun l hl=>by have:=(k2.len l hl).2;omega)
    unfold Ub;omega
   have hmx:SU [.int .i64 cr,.int .i64 1]=some (.int .i64 (Fg cr)):=by
    simp only[SU,Fg];simp
   refine law21_along_A hm (hA6.sx hS7) hrp hM6 (by omega) hL hX' (by omega) (fun S8 fD8 hh8 m8 sh8 hC8 hfr8 hA8 hM8=>⟨fun he=>?_,fun he t rt hE=>?_⟩)
   ·have hL8:Leads S8 s lk.reverse:=hL.chg hC8 (fun j hj=>(hA6.sx hS7).apart.2 j (.inl hj))
    simp[Fnd.c,Fnd.none];refine Ue hm hL8 (by omega) (fun S9 hS9=>⟨fun _=>?_,fun he2=>absurd he2 he⟩)
    obtain⟨q1,q2,q3⟩:=fin S8 fD8 hh8 m8 sh8 hA8 hM8 S9 hS9;simp[Fnd.c,Fnd.none,AO];refine BN ([]:List Spot) (fun k (_:Unit)=>([.int .i64 k],[some [.str [],.int .i64 0,.int .i64 (0),.int .i64 (0),.vs 2 (([]:List Spot).map spC) .nil],some [.str [],.int .i64 0,.int .i64 (0),.int .i64 (0),.vs 2 (([]:List Spot).map spC) .nil]])) (fun k _ S10=>S10=S9) () (by simp) rfl ?_ ?_
    ·rintro k _ S10 v2 b2 x ck hki hkd hkc hkm rfl hv2;exact absurd hkm (by simp)
    ·rintro _ S10 v2 b2 rfl hv2 N;simp only[Prod.mk.injEq,List.cons.injEq,and_true] at hv2;obtain⟨hva,hvb,hvc⟩:=hv2;have hrr:(if cr < 1 then 1 else cr)=Fg cr:=rfl
     have hng:¬Fg cr < ((Ub sh8:Nat):Int):=by omega
     simp[hva,hvb,hvc,hrr];refine Xt q2 ?_;simp[hmL,hng];exact q1
   ·have hL8:Leads S8 s lk.reverse:=hL.chg hC8 (fun j hj=>(hA6.sx hS7).apart.2 j (.inl hj))
    simp[Fnd.c];refine Ue hm hL8 (by omega) (fun S9 hS9=>⟨fun he2=>absurd he he2,fun _ u ru hEu=>?_⟩)
    have:=hEu.uniq hE;subst this;obtain⟨q1,q2,q3⟩:=fin S8 fD8 hh8 m8 sh8 hA8 hM8 S9 hS9;simp[Fnd.c,AO];refine BN (u.dirs:List Spot) (fun k (_:Unit)=>([.int .i64 k],[some [.str (pathOf (DV lk.reverse p fl).names),.int .i64 u.kind,.int .i64 (u.sp.fst),.int .i64 (u.sp.snd),.vs 2 ((u.dirs:List Spot).map spC) rt.strip],some [.str (pathOf (DV lk.reverse p fl).names),.int .i64 u.kind,.int .i64 (u.sp.fst),.int .i64 (u.sp.snd),.vs 2 ((u.dirs:List Spot).map spC) ru.strip]])) (fun k _ S10=>S10=S9) () (by simp) rfl ?_ ?_
    ·rintro k _ S10 v2 b2 x ck hki hkd hkc hkm rfl hv2;simp only[Prod.mk.injEq,List.cons.injEq,and_true] at hv2;obtain⟨hva,hvb,hvc⟩:=hv2;have hgx:((u.dirs:List Spot).map spC)[k]? =some (spC x):=by rw[List.getElem?_map,hki];rfl
     have hbd:((u.dirs:List Spot)).length≤100000:=by have:=hEu.few;omega
     have wk:IntKind.i64.wrap ((k:Int)+1)=(k:Int)+1:=wrap64 (by omega) (by omega)
     simp[hva,hvb,hvc,hkc,hki,hgx,spC,wk];exact .next ck () (by simp) rfl
    ·rintro _ S10 v2 b2 rfl hv2 N;simp only[Prod.mk.injEq,List.cons.injEq,and_true] at hv2;obtain⟨hva,hvb,hvc⟩:=hv2;have hrr:(if cr < 1 then 1 else cr)=Fg cr:=rfl
     have hng:¬Fg cr < ((Ub sh8:Nat):Int):=by omega
     simp[hva,hvb,hvc,hrr];refine Xt q2 ?_;simp[hmL,hng];exact q1
  ·have hr3:AP .rem (.int .i64 (i:Int)) (.int .i64 3)=some (.int .i64 ((i:Int).tmod 3)):=by simp[AP,GN]
   obtain⟨b3,hb3⟩:∃b,AP .eql (.int .i64 ((i:Int).tmod 3)) (.int .i64 2)=some (.bool b):=⟨_,rfl⟩;simp only[CG,hr3,hb3,AF];cases b3 with
   |true=>
    have:=hj9 l1 r1.strip 1 hlok1 hmay1 (by rw[hXd];simp)
    simpa using this
   |false=>
    have:=hj9 l0 r0.strip 0 hlok0 hmay0 (by rw[hXd];simp)
    simpa using this
 ·rintro _ S' v bx _ hv N;simp only[Prod.mk.injEq,List.cons.injEq,and_true] at hv;simp[hv];exact hq _
end Go.Av
namespace Go.Proofs.YtehadbpejfjheaaGreatDoor.serverSees
open Go.ChangeShapes Go.WideShapes Go.ChangeAt Go.RowKit Go.Av
theorem own:ownKnob Tryz.prog.godebug=none:=by kernel_rfl
theorem GK{H:Type}:∀(l:List (DataW H)),l.length≤Rows.uptoBulkAll l∧∀d∈l,Rows.uptoBulk d≤Rows.uptoBulkAll l
 |[]=>⟨Nat.zero_le _,by simp⟩
 |d::l=>by
  obtain⟨h1,h2⟩:=GK l;have h3:1≤Rows.uptoBulk d:=by
   cases d with
   |lit l=>cases l<;>simp[Rows.uptoBulk]
   |_=>simp[Rows.uptoBulk]
  refine⟨by simp only[Rows.uptoBulkAll,List.length_cons];omega,fun e he=>?_⟩
  simp only[Rows.uptoBulkAll];rcases List.mem_cons.1 he with rfl|he
  ·omega
  ·have:=h2 e he;omega
theorem bdd{H:Type}:Bdd 1048576 (fun d:DataW H=>Rows.uptoBulk d≤1048576) where
 str l h:=by simp only[Rows.uptoBulk] at h;omega
 sl e s h:=by
  simp only[Rows.uptoBulk] at h;obtain⟨h1,h2⟩:=GK e;obtain⟨h3,h4⟩:=GK s;exact⟨by omega,fun d hd=>by have:=h2 d hd;omega,fun d hd=>by have:=h4 d hd;omega⟩
 agg ps h d hd:=by
  simp only[Rows.uptoBulk] at h;have:=(GK ps).2 d hd;omega
theorem law(w0:World)(hm:L2 w0)(xs:List AV)(hl:xs.length=Tryz.f4.params.size)(hx:∀(j:Nat) (t:TypeId) (x:AV),Tryz.f4.params[j]? =some t→xs[j]? =some x→TyV Tryz.prog 1048576 t x):
  AT (En w0) 4 xs [] fun r _=>r= .bool true:=by
 rw[Tryz.params4] at hl hx
 match xs,(show xs.length=3 from hl) with
 |[x0,x1,x2],_=>exact law21_ServerSees_L w0 hm x0 x1 x2 (hx 0 41 x0 rfl rfl) (hx 1 30 x1 rfl rfl) (hx 2 42 x2 rfl rfl)
def put(h:Array Go.Obj)(g:Nat)(cs:List Value):Array Go.Obj:=h.modify g fun
 | .cells _ t fz=>.cells cs.toArray t fz
 |o=>o
noncomputable def Iy(os:Os):World:={World.holding Tryz.prog os ⟨#[],#[],[]⟩ with heap:=(put (put (World.holding Tryz.prog os ⟨#[],#[],[]⟩).heap 2 ([128,191,160,191,128,159,144,191,128,143,0,0,0,0,0,0,0,0,0,0,0,0,0,0,0,0,0,0,0,0,0,0].map fun n:Nat=>Value.int .u8 (n:Int))) 1 (Go.Pinned.utf8FirstZ.map fun n:Nat=>Value.int .u8 (n:Int)))}
theorem WH(os:Os):laidMet Tryz.prog Rows.serverSeesUptoRow.laid ((Iy os).forCall (fun _ _=>0) ⟨#[],#[.agg #[.slice none 0 0,.slice none 0 0],.agg #[.int .i64 0,.int .i64 0,.int .i64 0],.slice none 0 0],[]⟩).memory:=
 laidMet_of_run' 8 (by kernel_rfl) (by kernel_rfl)
theorem reads(os:Os){H:Type}(enc:TypeId×Value→H):∃places,DataW.whole enc Tryz.prog ((Iy os).forCall (fun _ _=>0) ⟨#[],#[.agg #[.slice none 0 0,.slice none 0 0],.agg #[.int .i64 0,.int .i64 0,.int .i64 0],.slice none 0 0],[]⟩).memory Tryz.f4.params.toList Rows.serverSeesSpec.vars false #[.agg #[.slice none 0 0,.slice none 0 0],.agg #[.int .i64 0,.int .i64 0,.int .i64 0],.slice none 0 0].toList 8=some ([.agg [.nil,.nil],.agg [.lit (.int .i64 0),.lit (.int .i64 0),.lit (.int .i64 0)],.nil],[],places):=
 ⟨[],by kernel_rfl⟩
theorem lifted(os:Os)(started:os.Started)(H:Type)(enc:TypeId×Value→H)(F:Stop.Interp):
  ReturnsInHanded {} Tryz.checked os 4 .any ((Rows.OpenSpec.upto Rows.serverSeesSpec).preRow enc Tryz.prog Tryz.f4 Rows.serverSeesUptoRow.domain false Rows.serverSeesUptoRow.laid) (((Rows.OpenSpec.upto Rows.serverSeesSpec).at F).post enc Tryz.prog Tryz.f4 false true false false):=by
 obtain⟨places,hx⟩:=reads os enc;refine returnsInHanded_of_row (C:=Tryz.checked) (s:=Rows.OpenSpec.upto Rows.serverSeesSpec) own started (by kernel_rfl) Tryz.func4
  (witness_row_atRef (enc:=enc) (C:=Tryz.checked) false (Iy os) #[.agg #[.slice none 0 0,.slice none 0 0],.agg #[.int .i64 0,.int .i64 0,.int .i64 0],.slice none 0 0] rfl (by kernel_rfl) (by kernel_rfl) (by kernel_rfl)
   (OpenSpec.preRow_of_cond 8 hx (by kernel_rfl) (fun k hk=>by cases hk;kernel_rfl) (by kernel_rfl) (WH os))) ?_
 intro W base args ds gs before hval hW _ hk _ _ hsh _;have hk2:Rows.uptoBulkAll (ds++gs)≤1048576:=of_decide_eq_true (hk _ rfl);exact SE bdd (E:=En W) (fn:=Tryz.f4) (L:=[41,40,91,3,4,42,9,89,210,30]) (tb:=4) (by kernel_rfl) (by kernel_rfl) (by kernel_rfl) rfl Tryz.underlying4 rfl
  (fun ds hd=>by
   match ds,hd with
   |[d0,d1,d2],_=>exact⟨rfl,rfl,rfl⟩) (law W (T0 hsh)) hval hW (fun d hd=>Nat.le_trans ((GK (ds++gs)).2 d (List.mem_append_left _ hd)) hk2)
end Go.Proofs.YtehadbpejfjheaaGreatDoor.serverSees
