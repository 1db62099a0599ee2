/- Parts of the proofs of this seat: abstract values over the model, and what the functions of the program do. No condition. -/
import Derived.Test.YtgilicomkelmdaaGreatXDel
import Derived.Test.YtgilicomkelmdaaGreatX10L
import Derived.Test.YtgilicomkelmdaaGreatXFew
import Derived.Test.YtgilicomkelmdaaGreatY06
import Derived.Test.YtgilicomkelmdaaGreatXSplit
import Derived.Test.YtgilicomkelmdaaGreatDExt
import Derived.Test.YtgilicomkelmdaaGreatY19
import Derived.Test.YtgilicomkelmdaaGreatD0
import Derived.Test.YtgilicomkelmdaaGreatM12
import Derived.Test.YtgilicomkelmdaaGreatRows
import Derived.WalkKit
import Derived.ProofKit
import Derived.OpenShut
import Derived.Below
import Derived.JoinedCond
import Derived.Deep.DeepHandedRow
import Derived.Deep.DeepWitnessRowRef
import Derived.Lib.LaidTab
set_option linter.all false
namespace Go.Av
open Go.Proofs
abbrev CuX:=Es×Rt
def CuX.c(x:CuX):List AV:=[.int .i64 x.1.id,.int .i64 x.1.epoch,.vs 1 (x.1.names.map DB) x.2,.int .i64 x.1.at_]
@[simp] theorem CuX.len(x:CuX):(CuX.c x).length=4:=rfl
def iC(n:Int):List AV:=[.int .i64 n]
structure SpX where
 rd:Rt
 ri:Rt
 ro:Rt
 ox:List CuX
def SpX.c(X:SpX)(σ:SpN):List AV:=[.vs 7 (σ.D.map Node.c) X.rd,.vs 1 (σ.ids.map iC) X.ri,.int .i64 σ.next,.int .i64 σ.epoch,.int .i64 σ.room,.vs 4 (X.ox.map CuX.c) X.ro,.int .i64 σ.made]
structure SpX.ok(X:SpX)(σ:SpN):Prop where
 rd:X.rd.strip=X.rd∧okR X.rd σ.D
 ri:X.ri.strip=X.ri∧okR X.ri σ.ids
 ro:X.ro.strip=X.ro∧okR X.ro X.ox
 ox:X.ox.map (·.1)=σ.opens
 rx:∀x∈X.ox,x.2.strip=x.2
@[simp] theorem SpX.len(X:SpX)(σ:SpN):(X.c σ).length=7:=rfl
theorem strip_strip(r:Rt):r.strip.strip=r.strip:=by cases r<;>rfl
theorem SpX.map(X:SpX)(σ:SpN)(h:X.ok σ):(X.c σ).map AV.strip1=X.c σ:=by
 simp[SpX.c,AV.strip1,h.rd.1,h.ri.1,h.ro.1]
@[simp] theorem SpX.free1(X:SpX)(σ:SpN):(∀x∈X.c σ,x.free1=true)↔True:=by simp[SpX.c,AV.free1]
theorem okR.nil{α:Type}{r:Rt}{l:List α}(h:okR r l):r= .nil→l=[]:=fun e=>h (by rw[e];rfl)
set_option maxRecDepth 100000
open Go.Proofs
theorem bk(σ:SpN)(o:OpN):(doS σ o).2.names.length≤o.n.toNat:=by
 unfold doS;split
 ·split
  ·simp[BG]
  ·unfold ON;split<;>simp[BG]
 ·split
  ·split
   ·simp[BG]
   ·unfold Qj;split
    ·simp[BG]
    ·simp only[List.length_map,List.length_take];exact Nat.min_le_left _ _
  ·split
   ·unfold SL;split<;>simp[BG]
   ·split
    ·split
     ·simp[BG]
     ·unfold Xr;split<;>simp[BG]
    ·split
     ·unfold Kh;split<;>simp[BG]
     ·rw[bN];simp
set_option maxRecDepth 100000
def Vo(a b:CU):Bool:=decide (a.err=b.err)&&(decide (a.kind=b.kind)&&(decide (a.size=b.size)&&(decide (a.where_=b.where_)&&(decide (a.id=b.id)&&(decide (a.text=b.text)&&(decide (a.end_=b.end_)&&decide (a.names=b.names)))))))
theorem sameR_iff{a b:CU}:Vo a b=true↔a=b:=by
 cases a;cases b;simp[Vo];intro _ _ _ _ _ _;exact And.comm
theorem YJ{w0:World}{S:St}{a b:CU}{r1 r2:Rt}{Q:AV→St→Prop}(hl:a.names.length≤1000000)(hq:Q (.bool (Vo a b)) S):AC w0 MH [.agg (a.c r1),.agg (b.c r2)] S Q:=by
 unfold CU.c;apply Vv;unfold Qy;unfold Vo at hq;simp
 by_cases h1:a.err=b.err
 case neg=>simp[h1,AF] at hq ⊢;exact hq
 by_cases h2:a.kind=b.kind
 case neg=>simp[h1,h2,AF] at hq ⊢;exact hq
 by_cases h3:a.size=b.size
 case neg=>simp[h1,h2,h3,AF] at hq ⊢;exact hq
 by_cases h4:a.where_=b.where_
 case neg=>simp[h1,h2,h3,h4,AF] at hq ⊢;exact hq
 by_cases h5:a.id=b.id
 case neg=>simp[h1,h2,h3,h4,h5,AF] at hq ⊢;exact hq
 by_cases h6:a.text=b.text
 case neg=>simp[h1,h2,h3,h4,h5,h6,AF] at hq ⊢;exact hq
 by_cases h7:a.end_=b.end_
 case neg=>
  have h7':(a.end_==b.end_)=false:=by simpa using h7
  simp[h1,h2,h3,h4,h5,h6,h7,h7',AF] at hq ⊢;exact hq
 simp[h1,h2,h3,h4,h5,h6,h7,AF,D4] at hq ⊢;refine YP (by omega) ?_
 simpa using hq
theorem ref12_Same_g{w0:World}{S:St}{a b:CU}{r1 r2:Rt}{Q:AV→St→Prop}(hl:a.names.length≤1000000)(hq:Q (.bool (Vo a b)) S):AC w0 F_ref12_Same [.agg (a.c r1),.agg (b.c r2)] S Q:=by
 by_cases he:a=b
 ·subst he;have e:Vo a a=true:=sameR_iff.2 rfl;rw[e] at hq;exact ref12_Same_A hl hq
 have e:Vo a b=false:=by
  cases h:Vo a b with
  |false=>rfl
  |true=>exact absurd (sameR_iff.1 h) he
 rw[e] at hq;unfold CU.c;apply ref12_Same_ok;unfold G_ref12_Same;simp
 by_cases h1:a.err=b.err
 case neg=>simp[h1,AF];exact hq
 by_cases h2:a.kind=b.kind
 case neg=>simp[h1,h2,AF];exact hq
 by_cases h3:a.size=b.size
 case neg=>simp[h1,h2,h3,AF];exact hq
 by_cases h4:a.where_=b.where_
 case neg=>simp[h1,h2,h3,h4,AF];exact hq
 by_cases h5:a.id=b.id
 case neg=>simp[h1,h2,h3,h4,h5,AF];exact hq
 by_cases h6:a.text=b.text
 case neg=>simp[h1,h2,h3,h4,h5,h6,AF];exact hq
 by_cases h7:a.end_=b.end_
 case neg=>
  have h7':(a.end_==b.end_)=false:=by simpa using h7
  simp[h1,h2,h3,h4,h5,h6,h7',AF];exact hq
 by_cases h8:a.names.length=b.names.length
 case neg=>
  have h8':decide ((a.names.length:Int)=b.names.length)=false:=by simp;omega
  simp[h1,h2,h3,h4,h5,h6,h7,h8',AF];exact hq
 have hne:a.names≠b.names:=by
  intro h9;apply he;cases a;cases b
  simp_all
 simp[h1,h2,h3,h4,h5,h6,h7,h8,AF];refine Bl a.names (fun i (_:Unit)=>([.int .i64 i],[some (a.c r1),some (b.c r2)])) (fun i _ S'=>S'=S∧a.names.take i=b.names.take i) () (by simp[CU.c,h1,h2,h3,h4,h5,h6,h7]) ⟨rfl,by simp⟩ ?_ ?_
 ·rintro i _ S' v bx s c hxi hd hc hmem ⟨rfl,ht⟩ hv;simp at hv;obtain⟨hv1,hv2,hv3⟩:=hv;obtain⟨s2,hx2⟩:∃s2,b.names[i]? =some s2:=⟨b.names[i]'(by omega),by rw[List.getElem?_eq_getElem]⟩
  simp[hv1,hv2,hv3,hc,hxi,hx2,CU.c]
  by_cases cs:s=s2
  ·simp[cs]
   try simp (disch:=omega) only[wrap64]
   refine .next c () (by simp[CU.c]) ⟨rfl,?_⟩
   rw[List.take_succ,List.take_succ,hxi,hx2,ht,cs]
  ·simp[cs];exact hq
 ·rintro _ S' v bx ⟨rfl,ht⟩ hv N;exfalso;apply hne;rw[List.take_length] at ht;rw[ht,h8,List.take_length]
theorem Xi{w0:World}{S:St}{x y:AW}{Q:AV→St→Prop}(hq:Q (.bool (decide (x.ret < y.call))) S):AC w0 Hg [.agg x.c,.agg y.c] S Q:=by
 unfold AW.c;apply SZ;unfold NL;simp;exact hq
set_option maxRecDepth 100000
def MM(x:AW):Bool:=Qf x.op&&(decide (0≤x.call)&&(decide (0≤x.mark)&&(decide (0≤x.ret)&&(decide (x.call≤2147483647)&&(decide (x.mark≤2147483647)&&(decide (x.ret≤2147483647)&&decide (x.res.names.length≤100)))))))
def W3(l:List AW):Bool:=decide (l.length≤60)&&l.all MM
theorem MO{x:AW}:MM x=true↔Qf x.op=true∧0≤x.call∧0≤x.mark∧0≤x.ret∧x.call≤2147483647∧x.mark≤2147483647∧x.ret≤2147483647∧x.res.names.length≤100:=by simp[MM]
theorem O0{l:List AW}:W3 l=true↔l.length≤60∧∀x∈l,MM x=true:=by simp[W3]
theorem md(x y z:Int):∃m:Int,R0 [.int .i64 x,.int .i64 y,.int .i64 z]=some (.int .i64 m)∧(2147483647 < m↔(2147483647 < x∨2147483647 < y∨2147483647 < z)):=by
 refine⟨if z > (if y > x then y else x) then z else (if y > x then y else x),by simp[R0],?_⟩
 split<;>split<;>omega
theorem gc{w0:World}{S:St}{l:List AW}{r:Rt}{Q:AV→St→Prop}(hq:Q (.bool (W3 l)) S):AC w0 L8 [.vs 19 (l.map AW.c) r] S Q:=by
 apply V4;unfold Qq;simp only[List.length_map]
 by_cases c0:l.length≤60
 case neg=>
  have e:W3 l=false:=by
   cases h:W3 l with
   |false=>rfl
   |true=>exact absurd (O0.1 h).1 c0
  have c1:(l.length:Int) > 60:=by omega
  rw[e] at hq;simp[c1];exact hq
 have c1:¬(l.length:Int) > 60:=by omega
 simp only[c1,decide_false,HP];rw[AF];refine Bl l (fun i (_:Unit)=>([.int .i64 i],[])) (fun i _ S'=>S'=S∧∀y∈l.take i,MM y=true) () (by simp) ⟨rfl,by simp⟩ ?_ ?_
 ·rintro i _ S' v bx x c hxi hd hc hmem ⟨rfl,ht⟩ hv;simp at hv;have bad:MM x=false→W3 l=false:=by
   intro h;cases h2:W3 l with
   |false=>rfl
   |true=>rw[(O0.1 h2).2 x hmem] at h;cases h
  have hxc:x.c=[.int .i64 x.client,.int .i64 x.index,.int .i64 x.op.kind,.str x.op.path,.int .i64 x.op.off,.int .i64 x.op.n,.int .i64 x.op.id,.str x.op.image,
   .int .i64 x.res.err,.int .i64 x.res.kind,.int .i64 x.res.size,.int .i64 x.res.where_,.int .i64 x.res.id,.str x.res.text,.vs 1 (x.res.names.map DB) x.rt.strip,.bool x.res.end_,.int .i64 x.call,.int .i64 x.mark,.int .i64 x.ret]:=rfl
  simp[hv,hc,hxi,hxc];refine YK (l:=[x.op]) (by simp) ?_
  have hf:Yu [x.op] 1=Qf x.op:=by simp[Yu]
  rw[hf];obtain⟨m,hm1,hm2⟩:=md x.call x.mark x.ret
  by_cases h:MM x=true
  ·obtain⟨h1,h2,h3,h4,h5,h6,h7,h8⟩:=MO.1 h;have g2:¬x.call < 0:=by omega
   have g3:¬x.mark < 0:=by omega
   have g4:¬x.ret < 0:=by omega
   have g5:¬2147483647 < m:=by rw[hm2];omega
   have g8:¬(100:Int) < x.res.names.length:=by omega
   simp[h1,g2,g3,g4,hm1,g5,g8,AF]
   try simp (disch:=omega) only[wrap64]
   refine .next c () rfl ⟨rfl,fun y hy=>?_⟩
   rw[List.take_succ,hxi] at hy;rcases List.mem_append.1 hy with hy|hy
   ·exact ht y hy
   ·simp at hy;subst hy;exact h
  ·have hb:=bad (by simpa using h)
   rw[hb] at hq
   by_cases h1:Qf x.op=true
   case neg=>simp[h1,AF];exact hq
   by_cases g2:x.call < 0
   case pos=>simp[h1,g2,AF];exact hq
   by_cases g3:x.mark < 0
   case pos=>simp[h1,g2,g3,AF];exact hq
   by_cases g4:x.ret < 0
   case pos=>simp[h1,g2,g3,g4,AF];exact hq
   by_cases g5:2147483647 < m
   case pos=>simp[h1,g2,g3,g4,hm1,g5,AF];exact hq
   have g8:(100:Int) < x.res.names.length:=by
    rw[hm2] at g5
    by_cases g8:(100:Int) < x.res.names.length
    ·exact g8
    ·exact absurd (MO.2 ⟨h1,by omega,by omega,by omega,by omega,by omega,by omega,by omega⟩) h
   simp[h1,g2,g3,g4,hm1,g5,g8,AF];exact hq
 ·rintro _ S' v bx ⟨rfl,ht⟩ hv N;simp at hv;have e:W3 l=true:=O0.2 ⟨c0,by rw[List.take_length] at ht;exact ht⟩
  rw[e] at hq;simp[hv];exact hq
@[simp] theorem AW.take19(x:AW):x.c.take 19=x.c:=rfl
@[simp] theorem AW.drop19(x:AW):x.c.drop 19=[]:=rfl
@[simp] theorem AW.map1'(x:AW):x.c.map AV.strip1=x.c:=AW.map1 x
theorem AW.allf(x:AW):∀y∈x.c,y.free1=true:=by
 intro z hz;simp[AW.c] at hz;rcases hz with rfl|rfl|rfl|rfl|rfl|rfl|rfl|rfl|rfl|rfl|rfl|rfl|rfl|rfl|rfl|rfl|rfl|rfl|rfl<;>rfl
@[simp] theorem AW.cells(x:AW):(AV.agg x.c).cells=x.c:=rfl
def SR:List AW→Bool
 |[]=>true
 |x::l=>(l.all fun y=>!decide (y.ret < x.call))&&SR l
theorem jA{w0:World}{S:St}{l:List AW}{r:Rt}(hl:l.length≤100000)(hr:okR r l){Q:AV→St→Prop}(hq:Q (.bool (SR l)) S):AC w0 MC [.vs 19 (l.map AW.c) r] S Q:=by
 apply V7;unfold Q1;rw[AF];simp only[List.length_map];have hxc:∀x:AW,x.c=[.int .i64 x.client,.int .i64 x.index,.int .i64 x.op.kind,.str x.op.path,.int .i64 x.op.off,.int .i64 x.op.n,.int .i64 x.op.id,.str x.op.image,
   .int .i64 x.res.err,.int .i64 x.res.kind,.int .i64 x.res.size,.int .i64 x.res.where_,.int .i64 x.res.id,.str x.res.text,.vs 1 (x.res.names.map DB) x.rt.strip,.bool x.res.end_,.int .i64 x.call,.int .i64 x.mark,.int .i64 x.ret]:=fun _=>rfl
 refine Bl l (fun i (rr:Rt)=>([.vs 19 (l.map AW.c) rr,.int .i64 i],[])) (fun i rr S'=>S'=S∧SR l=SR (l.drop i)∧okR rr l) r (by simp) ⟨rfl,rfl,hr⟩ ?_ ?_
 ·rintro i rr S' v bx x c hxi hd hc hmem ⟨rfl,ht,hrr⟩ hv;simp at hv;obtain⟨hv0,hv1⟩:=hv;have w1:IntKind.i64.wrap ((i:Int)+1)=((i+1:Nat):Int):=by rw[wrap64 (by omega) (by omega)];rfl
  simp[hv0,hv1,hc,hxi,w1];have hf:=AW.allf x;obtain⟨r2,hcut⟩:∃r2,Dm AB (.vs 19 (l.map AW.c) rr) (some (.int .i64 ((i:Int)+1))) none none=some (.vs 19 ((l.drop (i+1)).map AW.c) r2):=by
   have e:((i:Int)+1)=((i+1:Nat):Int):=by omega
   have hsz:AB.size=19:=rfl;have h1:i+1≤l.length:=by omega
   have h2:rr≠ .nil:=fun e=>by
    have h3:=hrr (by rw[e];rfl)
    rw[h3] at hxi;simp at hxi
   rw[e];rw[eJ];exact⟨rr,by simp[hsz,h1,h2,List.map_drop]⟩
  rw[AF];rw[if_pos hf];simp only[A2,hcut];simp only[Bb,A2,List.length_map];have hall:SR (l.drop i)=(((l.drop (i+1)).all fun y=>!decide (y.ret < x.call))&&SR (l.drop (i+1))):=by rw[hd];rfl
  refine Bl (l.drop (i+1)) (fun k (_:Unit)=>([.int .i64 k],[some x.c])) (fun k _ S2=>S2=S'∧∀y∈(l.drop (i+1)).take k,¬y.ret < x.call) () (by simp) ⟨rfl,by simp⟩ ?_ ?_
  ·rintro k _ S2 v2 bx2 y ck hyi hyd hyc hym ⟨rfl,hk⟩ hv2;simp only[Prod.mk.injEq,List.cons.injEq,and_true] at hv2;obtain⟨hv2a,hv2b⟩:=hv2;have hfy:=AW.allf y;simp only[hv2a,hv2b];have hyc':(k:Int) < (((l.drop (i+1)).length:Nat):Int):=hyc;have hgy:((l.drop (i+1)).map AW.c)[k]? =some y.c:=by rw[List.getElem?_map,hyi];rfl
   simp only[dv,A2,hyc',decide_true,KL,Vm,hgy];simp[hyc',hfy,AB];rw[if_pos hfy];simp[hf];refine Xi ?_
   by_cases cb:y.ret < x.call
   ·have e:((l.drop (i+1)).all fun y=>!decide (y.ret < x.call))=false:=by
     rw[←Bool.not_eq_true,List.all_eq_true];intro h;have:=h y hym;simp at this;omega
    rw[ht,hall,e] at hq;simp[cb];exact hq
   ·simp[cb]
    try simp (disch:=omega) only[wrap64]
    have wk:IntKind.i64.wrap ((k:Int)+1)=(k:Int)+1:=by simp at ck;exact wrap64 (by omega) (by omega)
    refine .next (by simpa using ck) () (by simp[wk]) ⟨rfl,fun z hz=>?_⟩
    rw[List.take_succ,hyi] at hz;rcases List.mem_append.1 hz with hz|hz
    ·have:=hk z hz;simp at this ⊢;omega
    ·simp at hz;subst hz;simp at cb;first|exact cb|omega
  ·rintro _ S2 v2 bx2 ⟨rfl,hk⟩ hv2 N;simp only[Prod.mk.injEq,List.cons.injEq,and_true] at hv2;obtain⟨hv2a,hv2b⟩:=hv2;simp only[hv2a,hv2b];rw[List.take_length] at hk;have e:((l.drop (i+1)).all fun y=>!decide (y.ret < x.call))=true:=by
    rw[List.all_eq_true];intro y hy;simpa using hk y hy
   rw[hall,e,Bool.true_and] at ht;simp;exact .next c rr.strip (by simp) ⟨rfl,ht,by simpa[okR] using hrr⟩
 ·rintro rr S' v bx ⟨rfl,ht,hrr⟩ hv N;simp at hv;rw[ht,List.drop_length] at hq;simp[hv];exact hq
set_option maxRecDepth 100000
def SH(last:Int)(x:AW):Bool:=decide (x.mark≤last)||(decide (x.mark < x.call)||decide (x.ret < x.mark))
def Jw(σ:SpN)(last:Int)(i:Int):List AW→Int
 |[]=>-1
 |x::l=>if SH last x=true∨Vo (doS σ x.op).2 x.res=false then i else Jw (doS σ x.op).1 x.mark (i+1) l
theorem MM.m{x:AW}(h:MM x=true):okM x:=by
 obtain⟨h1,h2,h3,h4,h5,h6,h7,h8⟩:=MO.1 h;exact⟨h3,h6⟩
theorem aM{w0:World}(hm:LI w0){S:St}{s:Stk}{σ:SpN}{room:Int}{l:List AW}{r:Rt}(h:JJ S s σ)(h0:σ.epoch=0)(h1:σ.opens=[])(h2:σ.made=0)(h3:σ.room=IA room)(hok:σ.ok 0)(hr:okR r l)(hl:l.length≤60)(hx:∀x∈l,MM x=true){Q:AV→St→Prop}
  (hq:∀S',Sx S S'→Q (.int .i64 (Jw σ 0 0 (B9 AW.mark l))) S'):AC w0 IQ [.agg s.c,.int .i64 room,.vs 19 (l.map AW.c) r] S Q:=by
 have hc:s.c=[.vs 2 (s.l.map Mnt.c) s.r.strip,.int .i64 s.next]:=rfl;rw[hc];apply Um;unfold Pt;have hbx:DV AI (AV.agg [.vs 2 (s.l.map Mnt.c) s.r.strip,.int .i64 s.next])=some [.vs 2 (s.l.map Mnt.c) s.r.strip,.int .i64 s.next]:=by simp
 rw[hbx];simp[D4];rw[←hc];refine ZK h h0 h1 h2 h3 (fun S1 hS1 p t m hp ht hmm hA=>?_)
 have hif:Jn C2 CQ (.ptr p 0)=some (.ifc CQ (.ptr p 0)):=by simp[Jn,C2,Pi]
 rw[hif];simp;rw[AF];refine ao (r:=r.strip) (by simpa[okR] using hr) (by omega) (fun x hx2=>MM.m (hx x hx2)) (fun S2 r2 hS2 _=>?_)
 have hA2:=hA.sx hS2;have hsrt:∀x∈B9 AW.mark l,MM x=true:=fun x h=>hx x ((Id l).1 h)
 have hlen:=Db (f:=AW.mark) l;generalize B9 AW.mark l=L at hq hsrt hlen ⊢;have hSx:∀S',Cg [p,t,m] S2 S'→Sx S S':=fun S' hC j hj=>by
  have e1:=(hS1.trans hS2) j hj;have:=(hS1.trans hS2).le;rw[hC.2 j (by omega) (by simp;omega)]
  exact e1
 try simp
 refine Bl L (fun i (q:Int×SpN)=>([.int .i64 q.1,.int .i64 i],[])) (fun i q S'=>(∃s',GG S' p t m q.2 s')∧q.2.ok i∧Jw q.2 q.1 i (L.drop i)=Jw σ 0 0 L∧Cg [p,t,m] S2 S') (0,σ) (by simp) ⟨⟨_,hA2⟩,hok,by simp,Cg.refl _ _⟩ ?_ ?_
 ·rintro i ⟨last,τ⟩ S' v bx x c hxi hd hcc hmem ⟨⟨s',hA3⟩,hok3,hw,hC⟩ hv;simp at hv hA3 hok3 hw;obtain⟨hv1,hv2⟩:=hv;obtain⟨g1,g2,g3,g4,g5,g6,g7,g8⟩:=MO.1 (hsrt x hmem);obtain⟨f1,f2,f3⟩:=Xv.1 g1;have hf:=AW.allf x;have hF:=(hA3.stk.leads hok3).fine;rw[hd,Jw] at hw;have hxc:x.c=[.int .i64 x.client,.int .i64 x.index,.int .i64 x.op.kind,.str x.op.path,.int .i64 x.op.off,.int .i64 x.op.n,.int .i64 x.op.id,.str x.op.image,
   .int .i64 x.res.err,.int .i64 x.res.kind,.int .i64 x.res.size,.int .i64 x.res.where_,.int .i64 x.res.id,.str x.res.text,.vs 1 (x.res.names.map DB) x.rt.strip,.bool x.res.end_,.int .i64 x.call,.int .i64 x.mark,.int .i64 x.ret]:=rfl
  simp[hv1,hv2,hcc,hxi,hxc]
  by_cases b1:x.mark≤last
  case pos=>
   have e:SH last x=true:=by simp[SH,b1]
   rw[if_pos (.inl e)] at hw;simp[b1,AF];rw[hw];exact hq S' (hSx S' hC)
  by_cases b2:x.mark < x.call
  case pos=>
   have e:SH last x=true:=by simp[SH,b2]
   rw[if_pos (.inl e)] at hw;simp[b1,b2,AF];rw[hw];exact hq S' (hSx S' hC)
  by_cases b3:x.ret < x.mark
  case pos=>
   have e:SH last x=true:=by simp[SH,b3]
   rw[if_pos (.inl e)] at hw;simp[b1,b2,b3,AF];rw[hw];exact hq S' (hSx S' hC)
  have e:SH last x=false:=by simp[SH];omega
  have hoc:x.op.c=[.int .i64 x.op.kind,.str x.op.path,.int .i64 x.op.off,.int .i64 x.op.n,.int .i64 x.op.id,.str x.op.image]:=rfl;have hrc:∀rt:Rt,x.res.c rt=[.int .i64 x.res.err,.int .i64 x.res.kind,.int .i64 x.res.size,.int .i64 x.res.where_,.int .i64 x.res.id,.str x.res.text,.vs 1 (x.res.names.map DB) rt,.bool x.res.end_]:=fun _=>rfl
  simp[b1,b2,b3,EC,D4,C9,AF];rw[←hoc];refine bt hm hA3 hok3 (by omega) (by omega) (by omega) (fun S4 s4 rt4 hC4 hA4=>?_)
  have hra:∀(a:CU) (r:Rt),a.c r=[.int .i64 a.err,.int .i64 a.kind,.int .i64 a.size,.int .i64 a.where_,.int .i64 a.id,.str a.text,.vs 1 (a.names.map DB) r,.bool a.end_]:=fun _ _=>rfl
  have hnm:=bk τ x.op;have hok4:=jK hok3 hF (o:=x.op) (by omega)
  simp[hra];simp only[←hra];refine YJ (a:=(doS τ x.op).2) (b:=x.res) (by omega) ?_
  have hC':=hC.trans hC4;cases hs:Vo (doS τ x.op).2 x.res with
  |false=>
   rw[if_pos (.inr hs)] at hw;simp;rw[hw];exact hq S4 (hSx S4 hC')
  |true=>
   rw[if_neg (by simp[e,hs])] at hw
   simp
   try simp (disch:=omega) only[wrap64]
   exact .next c (x.mark,(doS τ x.op).1) (by simp) ⟨⟨s4,hA4⟩,hok4,by simpa using hw,hC'⟩
 ·rintro⟨last,τ⟩ S' v bx ⟨⟨s',hA3⟩,hok3,hw,hC⟩ hv N;simp at hv hw;obtain⟨hv1,hv2⟩:=hv;have:=hq S' (hSx S' hC);rw[←hw] at this;simp[hv1,hv2];simpa[Jw] using this
set_option maxRecDepth 100000
def GU:AW:=⟨0,0,⟨7,[],0,0,0,[]⟩,{err:=9},.nil,1,1,1⟩
def KA:AW:=⟨0,0,⟨9,[],0,0,0,[]⟩,{err:=2},.nil,2,4,5⟩
def Tb:AW:=⟨0,0,⟨9,[],0,0,0,[]⟩,{err:=0},.nil,2,4,5⟩
theorem sBA:B9 AW.mark [KA,GU]=[GU,KA]:=rfl
theorem sAB:B9 AW.mark [GU,KA]=[GU,KA]:=rfl
theorem sAC:B9 AW.mark [GU,Tb]=[GU,Tb]:=rfl
theorem d1:doS (QO [] 1) ⟨7,[],0,0,0,[]⟩=(QO [] 1,{err:=9}):=by rfl
theorem d2:doS (QO [] 1) ⟨9,[],0,0,0,[]⟩=(QO [] 1,{err:=2}):=by rfl
theorem wAB:Jw (QO [] 1) 0 0 [GU,KA]= -1:=by
 simp[Jw,GU,KA,d1,d2,SH,Vo]
theorem wAC:Jw (QO [] 1) 0 0 [GU,Tb]=1:=by
 simp[Jw,GU,Tb,d1,d2,SH,Vo]
theorem kBA:SR [KA,GU]=false:=by rfl
theorem eF{S:St}:JJ S Stk.none (QO [] 1):=by
 rw[Hm];exact⟨⟨fun _=>rfl,by simp[Stk.none],by simp[Stk.none],by simp[Stk.none]⟩,by simp[Stk.none,Stk.on],rfl,rfl,rfl⟩
theorem Tz{w0:World}(hm:LI w0){S:St}{Q:AV→St→Prop}(hq:∀S',Sx S S'→Q (.bool true) S'):AC w0 Im [] S Q:=by
 apply Rw;unfold Lq;have eB:[(.int .i64 0),(.int .i64 0),(.int .i64 9),(.str []),(.int .i64 0),(.int .i64 0),(.int .i64 0),(.str []),(.int .i64 2),(.int .i64 0),(.int .i64 0),(.int .i64 0),(.int .i64 0),(.str []),(.vs 1 [] .nil),(.bool false),(.int .i64 2),(.int .i64 4),(.int .i64 5)]=KA.c:=rfl;have eA:[(.int .i64 0),(.int .i64 0),(.int .i64 7),(.str []),(.int .i64 0),(.int .i64 0),(.int .i64 0),(.str []),(.int .i64 9),(.int .i64 0),(.int .i64 0),(.int .i64 0),(.int .i64 0),(.str []),(.vs 1 [] .nil),(.bool false),(.int .i64 1),(.int .i64 1),(.int .i64 1)]=GU.c:=rfl
 have eC:[(.int .i64 0),(.int .i64 0),(.int .i64 9),(.str []),(.int .i64 0),(.int .i64 0),(.int .i64 0),(.str []),(.int .i64 0),(.int .i64 0),(.int .i64 0),(.int .i64 0),(.int .i64 0),(.str []),(.vs 1 [] .nil),(.bool false),(.int .i64 2),(.int .i64 4),(.int .i64 5)]=Tb.c:=rfl;simp only[eA,eB,eC];have oA:MM GU=true:=rfl;have oB:MM KA=true:=rfl;have oC:MM Tb=true:=rfl;have hok:(QO [] 1).ok 0:=iD 1 (by simp) (by simp)
 refine ao (l:=[KA,GU]) KX (by simp) (by simp[MM.m oA,MM.m oB]) (fun S1 r1 h1 _=>?_)
 rw[sBA];have gA:(GU.c)[17]? =some (.int .i64 1):=rfl;simp[gA,AF];refine aM hm (s:=Stk.none) (σ:=QO [] 1) (l:=[GU,KA]) eF (by rw[Hm]) (by rw[Hm]) (by rw[Hm]) (by rw[Hm]) hok KX (by simp) (by simp[oA,oB]) (fun S2 h2=>?_)
 rw[sAB,wAB];simp;refine aM hm (s:=Stk.none) (σ:=QO [] 1) (l:=[GU,Tb]) eF (by rw[Hm]) (by rw[Hm]) (by rw[Hm]) (by rw[Hm]) hok KX (by simp) (by simp[oA,oC]) (fun S3 h3=>?_)
 rw[sAC,wAC];simp;refine Xi ?_;have hb:decide (GU.ret < KA.call)=true:=rfl;rw[hb];simp;refine jA (l:=[KA,GU]) (by simp) KX ?_
 rw[kBA];simp;exact hq S3 ((h1.trans h2).trans h3)
open Go.Proofs
set_option maxRecDepth 100000 in
theorem dF(ys:List AV)(h:TT PA ys):∃(r:CU) (rt:Rt),ys=r.c rt.strip∧r.text.length≤1048576:=by
 obtain⟨hl,hf⟩:=h.struct_inv UF
 match ys,hl with
 |[a0,a1,a2,a3,a4,a5,a6,a7],_=>
  have m0:=hf _ (List.mem_cons_self);have m1:=hf _ (List.mem_cons_of_mem _ List.mem_cons_self);have m2:=hf _ (List.mem_cons_of_mem _ (List.mem_cons_of_mem _ List.mem_cons_self));have m3:=hf _ (List.mem_cons_of_mem _ (List.mem_cons_of_mem _ (List.mem_cons_of_mem _ List.mem_cons_self)));have m4:=hf _ (List.mem_cons_of_mem _ (List.mem_cons_of_mem _ (List.mem_cons_of_mem _ (List.mem_cons_of_mem _ List.mem_cons_self))));have m5:=hf _ (List.mem_cons_of_mem _ (List.mem_cons_of_mem _ (List.mem_cons_of_mem _ (List.mem_cons_of_mem _ (List.mem_cons_of_mem _ List.mem_cons_self)))));have m6:=hf _ (List.mem_cons_of_mem _ (List.mem_cons_of_mem _ (List.mem_cons_of_mem _ (List.mem_cons_of_mem _ (List.mem_cons_of_mem _ (List.mem_cons_of_mem _ List.mem_cons_self))))))
  have m7:=hf _ (List.mem_cons_of_mem _ (List.mem_cons_of_mem _ (List.mem_cons_of_mem _ (List.mem_cons_of_mem _ (List.mem_cons_of_mem _ (List.mem_cons_of_mem _ (List.mem_cons_of_mem _ List.mem_cons_self)))))));obtain⟨k0,e0,q0⟩:=ED m0 Ww;obtain⟨k1,e1,q1⟩:=ED m1 E8;obtain⟨k2,e2,q2⟩:=ED m2 E8;obtain⟨k3,e3,q3⟩:=ED m3 E8;obtain⟨k4,e4,q4⟩:=ED m4 E8;obtain⟨t,e5,q5⟩:=Kc m5 Ih;obtain⟨ns,e6,q6⟩:=dw _ m6;obtain⟨b,e7⟩:=Sy m7 aH;cases e0;cases e1;cases e2;cases e3;cases e4;cases e5;cases e6;cases e7;exact⟨⟨k0,k1,k2,k3,k4,t,ns.l,b⟩,ns.r,rfl,q5⟩
set_option maxRecDepth 100000 in
theorem gJ(ys:List AV)(h:TT I6 ys):∃x:AW,ys=x.c∧x.op.ok:=by
 obtain⟨hl,hf⟩:=h.struct_inv Rn
 match ys,hl with
 |[a0,a1,a2,a3,a4,a5,a6,a7,a8,a9,b0,b1,b2,b3,b4,b5,b6,b7,b8],_=>
  have m0:=hf _ (List.mem_cons_self);have m1:=hf _ (List.mem_cons_of_mem _ List.mem_cons_self);have m2:=hf _ (List.mem_cons_of_mem _ (List.mem_cons_of_mem _ List.mem_cons_self));have m3:=hf _ (List.mem_cons_of_mem _ (List.mem_cons_of_mem _ (List.mem_cons_of_mem _ List.mem_cons_self)));have m4:=hf _ (List.mem_cons_of_mem _ (List.mem_cons_of_mem _ (List.mem_cons_of_mem _ (List.mem_cons_of_mem _ List.mem_cons_self))));have m5:=hf _ (List.mem_cons_of_mem _ (List.mem_cons_of_mem _ (List.mem_cons_of_mem _ (List.mem_cons_of_mem _ (List.mem_cons_of_mem _ List.mem_cons_self)))));have m6:=hf _ (List.mem_cons_of_mem _ (List.mem_cons_of_mem _ (List.mem_cons_of_mem _ (List.mem_cons_of_mem _ (List.mem_cons_of_mem _ (List.mem_cons_of_mem _ List.mem_cons_self))))));obtain⟨k0,e0,q0⟩:=ED m0 E8;obtain⟨k1,e1,q1⟩:=ED m1 E8;obtain⟨o,e2,q2,q3,q4⟩:=gu _ m2
  obtain⟨r,rt,e3,_⟩:=dF _ m3;obtain⟨k4,e4,_⟩:=ED m4 E8;obtain⟨k5,e5,_⟩:=ED m5 E8;obtain⟨k6,e6,_⟩:=ED m6 E8;cases e0;cases e1;cases e4;cases e5;cases e6;simp[OpN.c] at e2;simp[CU.c] at e3;obtain⟨rfl,rfl,rfl,rfl,rfl,rfl⟩:=e2;obtain⟨rfl,rfl,rfl,rfl,rfl,rfl,rfl,rfl⟩:=e3;exact⟨⟨k0,k1,o,r,rt,k4,k5,k6⟩,rfl,q2⟩
set_option maxRecDepth 100000
open Go.Proofs
theorem keptR_pw(l:List AW):SR l=true↔l.Pairwise (fun y x=>y.call≤x.ret):=by
 induction l with
 |nil=>simp[SR]
 |cons x l ih=>simp[SR,List.pairwise_cons,ih]
theorem ld_res(a:CU)(r:Rt):AD AE (some (a.c r)) 0=some (.agg (a.c r)):=by simp[AD,Iz,AE,CU.c]
theorem law24_TaleRows_L(w0:World)(hm:LI w0)(x0 x1 x2:AV)(h0:TV KH x0)(h1:TV PA x1)(h2:TV PA x2):AC w0 F_law24_TaleRows [x0,x1,x2] [] fun r _=>r= .bool true:=by
 refine jg fun Q hq=>?_
 obtain⟨l,r2,rfl,hr2,hol,hok2⟩:=h0.slice (enc:=AW.c) (ok:=fun x=>x.op.ok) On Rm gJ
 obtain⟨cs1,rfl,k1⟩:=h1.agg (by simp[isAgg,show Tryz.prog.underlying PA=_ from UF])
 obtain⟨cs2,rfl,k2⟩:=h2.agg (by simp[isAgg,show Tryz.prog.underlying PA=_ from UF])
 obtain⟨a,ra,rfl,_⟩:=dF _ k1;obtain⟨b,rb,rfl,_⟩:=dF _ k2;unfold CU.c;apply law24_TaleRows_ok;unfold G_law24_TaleRows;have hra:∀(a:CU) (r:Rt),[.int .i64 a.err,.int .i64 a.kind,.int .i64 a.size,.int .i64 a.where_,.int .i64 a.id,.str a.text,.vs 1 (a.names.map DB) r,.bool a.end_]=a.c r:=fun _ _=>rfl
 have hok:okR r2.strip l:=by
  rcases hr2 with ⟨rfl,h⟩|rfl
  ·exact fun _=>h
  ·exact fun e=>by cases e
 simp only[hra];have bx:∀(a:CU) (r:Rt),DV AE (AV.agg (a.c r.strip))=some (a.c r.strip):=fun a r=>by simp[CU.c]
 simp only[bx,A2];refine Tz hm (fun S0 _=>?_)
 simp only[unA,A2,Bool.not_true,HP];refine gc ?_
 by_cases hmr:W3 l=true
 case neg=>simp[hmr,hq,AF]
 obtain⟨h60,hok1⟩:=O0.1 hmr;simp only[hmr,unA,A2,Bool.not_true];have ga:∀(a:CU) (r:Rt),(a.c r)[6]? =some (.vs 1 (a.names.map DB) r):=fun _ _=>rfl
 have ia:∀n:Nat,decide ((n:Int) > 100)=decide (100 < n):=fun n=>by
  by_cases h:100 < n
  ·simp[h,show (n:Int) > 100 by omega]
  ·simp[h,show ¬(n:Int) > 100 by omega]
 simp[ga,-AD,-AR];refine Bm (fun j=>j (.bool (decide (100 < a.names.length)))) ?_ (fun j hj=>?_)
 case refine_2=>simpa[ia,ga] using hj
 simp[-AD,-AR]
 by_cases ca:100 < a.names.length
 case pos=>simp[ca,AF,hq]
 refine Bm (fun j=>j (.bool (decide (100 < b.names.length)))) ?_ (fun j hj=>?_)
 case refine_2=>simpa[ca,ia,ga] using hj
 by_cases cb:100 < b.names.length
 case pos=>simp[cb,hq]
 simp[cb,-AD,-AR];refine Bm (fun j=>j (.bool (SR l)) S0) ?_ (fun j hj=>?_)
 ·refine jA (by omega) (by simpa[okR] using hok) ?_
  simp[AF,D4,ld_res];refine YJ (by omega) ?_
  refine ref12_Same_g (by omega) ?_
  have e:Vo a a=true:=sameR_iff.2 rfl;simp;refine YJ (by omega) ?_
  rw[e];simp;exact hq _
 ·refine Bl l (fun i (q:Bool)=>([.bool q,.int .i64 i],[])) (fun i q S'=>S'=S0∧(q=true↔(l.take i).Pairwise (fun y x=>y.call≤x.ret))) true (by simp) ⟨rfl,by simp⟩ ?_ ?_
  ·rintro i q S' v bx2 x c hxi hd hc hmem ⟨rfl,he⟩ hv;simp only[Prod.mk.injEq,List.cons.injEq,and_true] at hv;obtain⟨hv0,hv1⟩:=hv;have hf:=AW.allf x;have hgx:(l.map AW.c)[i]? =some x.c:=by rw[List.getElem?_map,hxi];rfl
   have hnext:(l.take (i+1)).Pairwise (fun y x=>y.call≤x.ret)↔((l.take i).Pairwise (fun y x=>y.call≤x.ret)∧∀y∈l.take i,y.call≤x.ret):=by
    rw[List.take_succ,hxi];simp[List.pairwise_append]
   simp[hv0,hv1,hc,hxi,hgx,hf];refine Bm (fun j=>∀q2:Bool,(q2=true↔(l.take (i+1)).Pairwise (fun y x=>y.call≤x.ret))→j (.bool q2) S') (fun q2 hq2=>?_) (fun j2 hj2=>?_)
   ·try simp
    try simp (disch:=omega) only[wrap64]
    exact .next c q2 (by simp) ⟨rfl,hq2⟩
   ·rw[if_pos hf,A2];refine Bl l (fun k (q2:Bool)=>([.bool q2,.int .i64 k],[some x.c])) (fun k q2 S2=>S2=S'∧(q2=true↔(l.take i).Pairwise (fun y x=>y.call≤x.ret)∧∀y∈(l.take i).take k,y.call≤x.ret)) q (by simp) ⟨rfl,by simpa using he⟩ ?_ ?_
    ·rintro k q2 S2 v2 bx2 y ck hyi hyd hyc hym ⟨rfl,hk⟩ hv2;simp only[Prod.mk.injEq,List.cons.injEq,and_true] at hv2;obtain⟨⟨hv2a,hv2b⟩,hv2c⟩:=hv2;have hfy:=AW.allf y;have hgy:(l.map AW.c)[k]? =some y.c:=by rw[List.getElem?_map,hyi];rfl
     have x18:(x.c)[18]? =some (.int .i64 x.ret):=rfl;have y16:(y.c)[16]? =some (.int .i64 y.call):=rfl;simp[hv2a,hv2b,hv2c,hyc,hyi,hgy,hfy,hf,x18];simp only[if_pos hfy,A2];simp[hf,hfy,y16,x18];refine Xi ?_;simp;have hnx:(q2&&(decide (i≤k)||decide (y.call≤x.ret)))=true↔(l.take i).Pairwise (fun y x=>y.call≤x.ret)∧∀y∈(l.take i).take (k+1),y.call≤x.ret:=by
      rw[Bool.and_eq_true,hk]
      by_cases cik:i≤k
      ·have e1:(l.take i).take (k+1)=(l.take i).take k:=by rw[List.take_take,List.take_take,Nat.min_eq_right (by omega),Nat.min_eq_right (by omega)]
       rw[e1];simp[cik]
      ·have e1:(l.take i)[k]? =some y:=by rw[List.getElem?_take];simp[show k < i by omega,hyi]
       rw[List.take_succ (l:=l.take i),e1];simp[cik,and_assoc];intro _;constructor
       ·rintro⟨h1,h2⟩ z hz;rcases hz with hz|rfl
        ·exact h1 z hz
        ·exact h2
       ·intro h;exact⟨fun z hz=>h z (.inl hz),h y (.inr rfl)⟩
     cases q2 with
     |false=>
      simp[AF]
      try simp (disch:=omega) only[wrap64]
      refine .next ck false (by simp) ⟨rfl,by simpa using hnx⟩
     |true=>
      by_cases cik:i≤k
      ·simp[AF,cik]
       try simp (disch:=omega) only[wrap64]
       refine .next ck true (by simp) ⟨rfl,by simpa[cik] using hnx⟩
      ·simp[AF,cik]
       try simp (disch:=omega) only[wrap64]
       refine .next ck (decide (y.call≤x.ret)) (by simp) ⟨rfl,by simpa[cik] using hnx⟩
    ·rintro q2 S2 v2 bx2 ⟨rfl,hk⟩ hv2 N;simp only[Prod.mk.injEq,List.cons.injEq,and_true] at hv2;obtain⟨⟨hv2a,hv2b⟩,hv2c⟩:=hv2;simp[hv2a,hv2b,hv2c];have:(l.take i).take l.length=l.take i:=List.take_of_length_le (by rw[List.length_take];omega)
     rw[this,←hnext] at hk;exact hj2 q2 hk
  ·rintro q S' v bx2 ⟨rfl,he⟩ hv N;simp only[Prod.mk.injEq,List.cons.injEq,and_true] at hv;obtain⟨hv0,hv1⟩:=hv;rw[List.take_length,←keptR_pw] at he;have e:q=SR l:=by
    cases q<;>cases h:SR l<;>simp_all
   simp[hv0,hv1,e];simpa using hj
end Go.Av
namespace Go.Proofs.YtgilicomkelmdaaGreat.taleRows
open Go.ChangeShapes Go.WideShapes Go.ChangeAt Go.RowKit Go.Av
theorem own:ownKnob Tryz.prog.godebug=none:=by kernel_rfl
theorem Mc{H:Type}:∀(l:List (DataW H)),l.length≤Rows.uptoBulkAll l∧∀d∈l,Rows.uptoBulk d≤Rows.uptoBulkAll l
 |[]=>⟨Nat.zero_le _,by simp⟩
 |d::l=>by
  obtain⟨h1,h2⟩:=Mc l;have h3:1≤Rows.uptoBulk d:=by
   cases d with
   |lit l=>cases l<;>simp[Rows.uptoBulk]
   |_=>simp[Rows.uptoBulk]
  refine⟨by simp only[Rows.uptoBulkAll,List.length_cons];omega,fun e he=>?_⟩
  simp only[Rows.uptoBulkAll];rcases List.mem_cons.1 he with rfl|he
  ·omega
  ·have:=h2 e he;omega
theorem bdd{H:Type}:Bdd 1048576 (fun d:DataW H=>Rows.uptoBulk d≤1048576) where
 str l h:=by simp only[Rows.uptoBulk] at h;omega
 sl e s h:=by
  simp only[Rows.uptoBulk] at h;obtain⟨h1,h2⟩:=Mc e;obtain⟨h3,h4⟩:=Mc s;exact⟨by omega,fun d hd=>by have:=h2 d hd;omega,fun d hd=>by have:=h4 d hd;omega⟩
 agg ps h d hd:=by
  simp only[Rows.uptoBulk] at h;have:=(Mc ps).2 d hd;omega
set_option maxRecDepth 100000 in
theorem law(w0:World)(hm:LI w0)(xs:List AV)(hl:xs.length=Tryz.f3.params.size)(hx:∀(j:Nat) (t:TypeId) (x:AV),Tryz.f3.params[j]? =some t→xs[j]? =some x→TyV Tryz.prog 1048576 t x):
  AL (En w0) 3 xs [] fun r _=>r= .bool true:=by
 rw[Tryz.params3] at hl hx
 match xs,(show xs.length=3 from hl) with
 |[x0,x1,x2],_=>exact law24_TaleRows_L w0 hm x0 x1 x2 (hx 0 22 x0 rfl rfl) (hx 1 26 x1 rfl rfl) (hx 2 26 x2 rfl rfl)
def put(h:Array Go.Obj)(g:Nat)(cs:List Value):Array Go.Obj:=h.modify g fun
 | .cells _ t fz=>.cells cs.toArray t fz
 |o=>o
noncomputable def P4(os:Os):World:={World.holding Tryz.prog os ⟨#[],#[],[]⟩ with heap:=(World.holding Tryz.prog os ⟨#[],#[],[]⟩).heap}
theorem dI(os:Os):laidMet Tryz.prog Rows.taleRowsUptoRow.laid ((P4 os).forCall (fun _ _=>0) ⟨#[],#[.slice none 0 0,.agg #[.int .i64 0,.int .i64 0,.int .i64 0,.int .i64 0,.int .i64 0,.string .empty,.slice none 0 0,.bool false],.agg #[.int .i64 0,.int .i64 0,.int .i64 0,.int .i64 0,.int .i64 0,.string .empty,.slice none 0 0,.bool false]],[]⟩).memory:=
 laidMet_of_run' 8 (by kernel_rfl) (by kernel_rfl)
theorem reads(os:Os){H:Type}(enc:TypeId×Value→H):∃places,DataW.whole enc Tryz.prog ((P4 os).forCall (fun _ _=>0) ⟨#[],#[.slice none 0 0,.agg #[.int .i64 0,.int .i64 0,.int .i64 0,.int .i64 0,.int .i64 0,.string .empty,.slice none 0 0,.bool false],.agg #[.int .i64 0,.int .i64 0,.int .i64 0,.int .i64 0,.int .i64 0,.string .empty,.slice none 0 0,.bool false]],[]⟩).memory Tryz.f3.params.toList Rows.taleRowsSpec.vars false #[.slice none 0 0,.agg #[.int .i64 0,.int .i64 0,.int .i64 0,.int .i64 0,.int .i64 0,.string .empty,.slice none 0 0,.bool false],.agg #[.int .i64 0,.int .i64 0,.int .i64 0,.int .i64 0,.int .i64 0,.string .empty,.slice none 0 0,.bool false]].toList 8=some ([.nil,.agg [.lit (.int .i64 0),.lit (.int .i64 0),.lit (.int .i64 0),.lit (.int .i64 0),.lit (.int .i64 0),.lit (.string []),.nil,.lit (.bool false)],.agg [.lit (.int .i64 0),.lit (.int .i64 0),.lit (.int .i64 0),.lit (.int .i64 0),.lit (.int .i64 0),.lit (.string []),.nil,.lit (.bool false)]],[],places):=
 ⟨[],by kernel_rfl⟩
set_option maxRecDepth 100000 in
theorem lifted(os:Os)(started:os.Started)(H:Type)(enc:TypeId×Value→H)(F:Stop.Interp):
  ReturnsInHanded {} Tryz.checked os 3 .any ((Rows.OpenSpec.upto Rows.taleRowsSpec).preRow enc Tryz.prog Tryz.f3 Rows.taleRowsUptoRow.domain false Rows.taleRowsUptoRow.laid) (((Rows.OpenSpec.upto Rows.taleRowsSpec).at F).post enc Tryz.prog Tryz.f3 false true false false):=by
 obtain⟨places,hx⟩:=reads os enc;refine returnsInHanded_of_row (C:=Tryz.checked) (s:=Rows.OpenSpec.upto Rows.taleRowsSpec) own started (by kernel_rfl) Tryz.func3
  (witness_row_atRef (enc:=enc) (C:=Tryz.checked) false (P4 os) #[.slice none 0 0,.agg #[.int .i64 0,.int .i64 0,.int .i64 0,.int .i64 0,.int .i64 0,.string .empty,.slice none 0 0,.bool false],.agg #[.int .i64 0,.int .i64 0,.int .i64 0,.int .i64 0,.int .i64 0,.string .empty,.slice none 0 0,.bool false]] rfl (by kernel_rfl) (by kernel_rfl) (by kernel_rfl)
   (OpenSpec.preRow_of_cond 8 hx (by kernel_rfl) (fun k hk=>by cases hk;kernel_rfl) (by kernel_rfl) (dI os))) ?_
 intro W base args ds gs before hval hW _ hk _ _ hsh _;have hk2:Rows.uptoBulkAll (ds++gs)≤1048576:=of_decide_eq_true (hk _ rfl);exact Wu bdd (E:=En W) (fn:=Tryz.f3) (L:=[22,32,3,30,9,26,23,24,4]) (tb:=4) (by kernel_rfl) (by kernel_rfl) (by kernel_rfl) rfl Tryz.underlying4 rfl
  (fun ds hd=>by
   match ds,hd with
   |[d0,d1,d2],_=>exact⟨rfl,rfl,rfl⟩) (law W (Xb hsh)) hval hW (fun d hd=>Nat.le_trans ((Mc (ds++gs)).2 d (List.mem_append_left _ hd)) hk2)
end Go.Proofs.YtgilicomkelmdaaGreat.taleRows
