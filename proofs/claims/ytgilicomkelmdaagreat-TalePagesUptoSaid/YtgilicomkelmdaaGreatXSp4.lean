/- Parts of the proofs of this seat: abstract values over the model, and what the functions of the program do. No condition. -/
import Derived.Test.YtgilicomkelmdaaGreatXDel
import Derived.Test.YtgilicomkelmdaaGreatX10L
import Derived.Test.YtgilicomkelmdaaGreatXFew
import Derived.Test.YtgilicomkelmdaaGreatY06
import Derived.Test.YtgilicomkelmdaaGreatXSplit
import Derived.Test.YtgilicomkelmdaaGreatDExt
import Derived.Test.YtgilicomkelmdaaGreatY19
import Derived.Test.YtgilicomkelmdaaGreatD0
import Derived.Test.YtgilicomkelmdaaGreatM12
import Derived.Test.YtgilicomkelmdaaGreatRows
import Derived.WalkKit
import Derived.ProofKit
import Derived.OpenShut
import Derived.Below
import Derived.JoinedCond
import Derived.Deep.DeepHandedRow
import Derived.Deep.DeepWitnessRowRef
import Derived.Lib.LaidTab
set_option linter.all false
namespace Go.Av
open Go.Proofs
abbrev CuX:=Es×Rt
def CuX.c(x:CuX):List AV:=[.int .i64 x.1.id,.int .i64 x.1.epoch,.vs 1 (x.1.names.map DB) x.2,.int .i64 x.1.at_]
@[simp] theorem CuX.len(x:CuX):(CuX.c x).length=4:=rfl
def iC(n:Int):List AV:=[.int .i64 n]
structure SpX where
 rd:Rt
 ri:Rt
 ro:Rt
 ox:List CuX
def SpX.c(X:SpX)(σ:SpN):List AV:=[.vs 7 (σ.D.map Node.c) X.rd,.vs 1 (σ.ids.map iC) X.ri,.int .i64 σ.next,.int .i64 σ.epoch,.int .i64 σ.room,.vs 4 (X.ox.map CuX.c) X.ro,.int .i64 σ.made]
structure SpX.ok(X:SpX)(σ:SpN):Prop where
 rd:X.rd.strip=X.rd∧okR X.rd σ.D
 ri:X.ri.strip=X.ri∧okR X.ri σ.ids
 ro:X.ro.strip=X.ro∧okR X.ro X.ox
 ox:X.ox.map (·.1)=σ.opens
 rx:∀x∈X.ox,x.2.strip=x.2
@[simp] theorem SpX.len(X:SpX)(σ:SpN):(X.c σ).length=7:=rfl
theorem strip_strip(r:Rt):r.strip.strip=r.strip:=by cases r<;>rfl
theorem SpX.map(X:SpX)(σ:SpN)(h:X.ok σ):(X.c σ).map AV.strip1=X.c σ:=by
 simp[SpX.c,AV.strip1,h.rd.1,h.ri.1,h.ro.1]
@[simp] theorem SpX.free1(X:SpX)(σ:SpN):(∀x∈X.c σ,x.free1=true)↔True:=by simp[SpX.c,AV.free1]
theorem okR.nil{α:Type}{r:Rt}{l:List α}(h:okR r l):r= .nil→l=[]:=fun e=>h (by rw[e];rfl)
set_option maxRecDepth 100000
open Go.Proofs
theorem bk(σ:SpN)(o:OpN):(doS σ o).2.names.length≤o.n.toNat:=by
 unfold doS;split
 ·split
  ·simp[BG]
  ·unfold ON;split<;>simp[BG]
 ·split
  ·split
   ·simp[BG]
   ·unfold Qj;split
    ·simp[BG]
    ·simp only[List.length_map,List.length_take];exact Nat.min_le_left _ _
  ·split
   ·unfold SL;split<;>simp[BG]
   ·split
    ·split
     ·simp[BG]
     ·unfold Xr;split<;>simp[BG]
    ·split
     ·unfold Kh;split<;>simp[BG]
     ·rw[bN];simp
set_option maxRecDepth 100000
def Vo(a b:CU):Bool:=decide (a.err=b.err)&&(decide (a.kind=b.kind)&&(decide (a.size=b.size)&&(decide (a.where_=b.where_)&&(decide (a.id=b.id)&&(decide (a.text=b.text)&&(decide (a.end_=b.end_)&&decide (a.names=b.names)))))))
theorem YJ{w0:World}{S:St}{a b:CU}{r1 r2:Rt}{Q:AV→St→Prop}(hl:a.names.length≤1000000)(hq:Q (.bool (Vo a b)) S):AC w0 MH [.agg (a.c r1),.agg (b.c r2)] S Q:=by
 unfold CU.c;apply Vv;unfold Qy;unfold Vo at hq;simp
 by_cases h1:a.err=b.err
 case neg=>simp[h1,AF] at hq ⊢;exact hq
 by_cases h2:a.kind=b.kind
 case neg=>simp[h1,h2,AF] at hq ⊢;exact hq
 by_cases h3:a.size=b.size
 case neg=>simp[h1,h2,h3,AF] at hq ⊢;exact hq
 by_cases h4:a.where_=b.where_
 case neg=>simp[h1,h2,h3,h4,AF] at hq ⊢;exact hq
 by_cases h5:a.id=b.id
 case neg=>simp[h1,h2,h3,h4,h5,AF] at hq ⊢;exact hq
 by_cases h6:a.text=b.text
 case neg=>simp[h1,h2,h3,h4,h5,h6,AF] at hq ⊢;exact hq
 by_cases h7:a.end_=b.end_
 case neg=>
  have h7':(a.end_==b.end_)=false:=by simpa using h7
  simp[h1,h2,h3,h4,h5,h6,h7,h7',AF] at hq ⊢;exact hq
 simp[h1,h2,h3,h4,h5,h6,h7,AF,D4] at hq ⊢;refine YP (by omega) ?_
 simpa using hq
theorem Xi{w0:World}{S:St}{x y:AW}{Q:AV→St→Prop}(hq:Q (.bool (decide (x.ret < y.call))) S):AC w0 Hg [.agg x.c,.agg y.c] S Q:=by
 unfold AW.c;apply SZ;unfold NL;simp;exact hq
set_option maxRecDepth 100000
def MM(x:AW):Bool:=Qf x.op&&(decide (0≤x.call)&&(decide (0≤x.mark)&&(decide (0≤x.ret)&&(decide (x.call≤2147483647)&&(decide (x.mark≤2147483647)&&(decide (x.ret≤2147483647)&&decide (x.res.names.length≤100)))))))
def W3(l:List AW):Bool:=decide (l.length≤60)&&l.all MM
theorem MO{x:AW}:MM x=true↔Qf x.op=true∧0≤x.call∧0≤x.mark∧0≤x.ret∧x.call≤2147483647∧x.mark≤2147483647∧x.ret≤2147483647∧x.res.names.length≤100:=by simp[MM]
theorem O0{l:List AW}:W3 l=true↔l.length≤60∧∀x∈l,MM x=true:=by simp[W3]
theorem md(x y z:Int):∃m:Int,R0 [.int .i64 x,.int .i64 y,.int .i64 z]=some (.int .i64 m)∧(2147483647 < m↔(2147483647 < x∨2147483647 < y∨2147483647 < z)):=by
 refine⟨if z > (if y > x then y else x) then z else (if y > x then y else x),by simp[R0],?_⟩
 split<;>split<;>omega
theorem gc{w0:World}{S:St}{l:List AW}{r:Rt}{Q:AV→St→Prop}(hq:Q (.bool (W3 l)) S):AC w0 L8 [.vs 19 (l.map AW.c) r] S Q:=by
 apply V4;unfold Qq;simp only[List.length_map]
 by_cases c0:l.length≤60
 case neg=>
  have e:W3 l=false:=by
   cases h:W3 l with
   |false=>rfl
   |true=>exact absurd (O0.1 h).1 c0
  have c1:(l.length:Int) > 60:=by omega
  rw[e] at hq;simp[c1];exact hq
 have c1:¬(l.length:Int) > 60:=by omega
 simp only[c1,decide_false,HP];rw[AF];refine Bl l (fun i (_:Unit)=>([.int .i64 i],[])) (fun i _ S'=>S'=S∧∀y∈l.take i,MM y=true) () (by simp) ⟨rfl,by simp⟩ ?_ ?_
 ·rintro i _ S' v bx x c hxi hd hc hmem ⟨rfl,ht⟩ hv;simp at hv;have bad:MM x=false→W3 l=false:=by
   intro h;cases h2:W3 l with
   |false=>rfl
   |true=>rw[(O0.1 h2).2 x hmem] at h;cases h
  have hxc:x.c=[.int .i64 x.client,.int .i64 x.index,.int .i64 x.op.kind,.str x.op.path,.int .i64 x.op.off,.int .i64 x.op.n,.int .i64 x.op.id,.str x.op.image,
   .int .i64 x.res.err,.int .i64 x.res.kind,.int .i64 x.res.size,.int .i64 x.res.where_,.int .i64 x.res.id,.str x.res.text,.vs 1 (x.res.names.map DB) x.rt.strip,.bool x.res.end_,.int .i64 x.call,.int .i64 x.mark,.int .i64 x.ret]:=rfl
  simp[hv,hc,hxi,hxc];refine YK (l:=[x.op]) (by simp) ?_
  have hf:Yu [x.op] 1=Qf x.op:=by simp[Yu]
  rw[hf];obtain⟨m,hm1,hm2⟩:=md x.call x.mark x.ret
  by_cases h:MM x=true
  ·obtain⟨h1,h2,h3,h4,h5,h6,h7,h8⟩:=MO.1 h;have g2:¬x.call < 0:=by omega
   have g3:¬x.mark < 0:=by omega
   have g4:¬x.ret < 0:=by omega
   have g5:¬2147483647 < m:=by rw[hm2];omega
   have g8:¬(100:Int) < x.res.names.length:=by omega
   simp[h1,g2,g3,g4,hm1,g5,g8,AF]
   try simp (disch:=omega) only[wrap64]
   refine .next c () rfl ⟨rfl,fun y hy=>?_⟩
   rw[List.take_succ,hxi] at hy;rcases List.mem_append.1 hy with hy|hy
   ·exact ht y hy
   ·simp at hy;subst hy;exact h
  ·have hb:=bad (by simpa using h)
   rw[hb] at hq
   by_cases h1:Qf x.op=true
   case neg=>simp[h1,AF];exact hq
   by_cases g2:x.call < 0
   case pos=>simp[h1,g2,AF];exact hq
   by_cases g3:x.mark < 0
   case pos=>simp[h1,g2,g3,AF];exact hq
   by_cases g4:x.ret < 0
   case pos=>simp[h1,g2,g3,g4,AF];exact hq
   by_cases g5:2147483647 < m
   case pos=>simp[h1,g2,g3,g4,hm1,g5,AF];exact hq
   have g8:(100:Int) < x.res.names.length:=by
    rw[hm2] at g5
    by_cases g8:(100:Int) < x.res.names.length
    ·exact g8
    ·exact absurd (MO.2 ⟨h1,by omega,by omega,by omega,by omega,by omega,by omega,by omega⟩) h
   simp[h1,g2,g3,g4,hm1,g5,g8,AF];exact hq
 ·rintro _ S' v bx ⟨rfl,ht⟩ hv N;simp at hv;have e:W3 l=true:=O0.2 ⟨c0,by rw[List.take_length] at ht;exact ht⟩
  rw[e] at hq;simp[hv];exact hq
@[simp] theorem AW.take19(x:AW):x.c.take 19=x.c:=rfl
@[simp] theorem AW.drop19(x:AW):x.c.drop 19=[]:=rfl
@[simp] theorem AW.map1'(x:AW):x.c.map AV.strip1=x.c:=AW.map1 x
theorem AW.allf(x:AW):∀y∈x.c,y.free1=true:=by
 intro z hz;simp[AW.c] at hz;rcases hz with rfl|rfl|rfl|rfl|rfl|rfl|rfl|rfl|rfl|rfl|rfl|rfl|rfl|rfl|rfl|rfl|rfl|rfl|rfl<;>rfl
@[simp] theorem AW.cells(x:AW):(AV.agg x.c).cells=x.c:=rfl
def SR:List AW→Bool
 |[]=>true
 |x::l=>(l.all fun y=>!decide (y.ret < x.call))&&SR l
theorem jA{w0:World}{S:St}{l:List AW}{r:Rt}(hl:l.length≤100000)(hr:okR r l){Q:AV→St→Prop}(hq:Q (.bool (SR l)) S):AC w0 MC [.vs 19 (l.map AW.c) r] S Q:=by
 apply V7;unfold Q1;rw[AF];simp only[List.length_map];have hxc:∀x:AW,x.c=[.int .i64 x.client,.int .i64 x.index,.int .i64 x.op.kind,.str x.op.path,.int .i64 x.op.off,.int .i64 x.op.n,.int .i64 x.op.id,.str x.op.image,
   .int .i64 x.res.err,.int .i64 x.res.kind,.int .i64 x.res.size,.int .i64 x.res.where_,.int .i64 x.res.id,.str x.res.text,.vs 1 (x.res.names.map DB) x.rt.strip,.bool x.res.end_,.int .i64 x.call,.int .i64 x.mark,.int .i64 x.ret]:=fun _=>rfl
 refine Bl l (fun i (rr:Rt)=>([.vs 19 (l.map AW.c) rr,.int .i64 i],[])) (fun i rr S'=>S'=S∧SR l=SR (l.drop i)∧okR rr l) r (by simp) ⟨rfl,rfl,hr⟩ ?_ ?_
 ·rintro i rr S' v bx x c hxi hd hc hmem ⟨rfl,ht,hrr⟩ hv;simp at hv;obtain⟨hv0,hv1⟩:=hv;have w1:IntKind.i64.wrap ((i:Int)+1)=((i+1:Nat):Int):=by rw[wrap64 (by omega) (by omega)];rfl
  simp[hv0,hv1,hc,hxi,w1];have hf:=AW.allf x;obtain⟨r2,hcut⟩:∃r2,Dm AB (.vs 19 (l.map AW.c) rr) (some (.int .i64 ((i:Int)+1))) none none=some (.vs 19 ((l.drop (i+1)).map AW.c) r2):=by
   have e:((i:Int)+1)=((i+1:Nat):Int):=by omega
   have hsz:AB.size=19:=rfl;have h1:i+1≤l.length:=by omega
   have h2:rr≠ .nil:=fun e=>by
    have h3:=hrr (by rw[e];rfl)
    rw[h3] at hxi;simp at hxi
   rw[e];rw[eJ];exact⟨rr,by simp[hsz,h1,h2,List.map_drop]⟩
  rw[AF];rw[if_pos hf];simp only[A2,hcut];simp only[Bb,A2,List.length_map];have hall:SR (l.drop i)=(((l.drop (i+1)).all fun y=>!decide (y.ret < x.call))&&SR (l.drop (i+1))):=by rw[hd];rfl
  refine Bl (l.drop (i+1)) (fun k (_:Unit)=>([.int .i64 k],[some x.c])) (fun k _ S2=>S2=S'∧∀y∈(l.drop (i+1)).take k,¬y.ret < x.call) () (by simp) ⟨rfl,by simp⟩ ?_ ?_
  ·rintro k _ S2 v2 bx2 y ck hyi hyd hyc hym ⟨rfl,hk⟩ hv2;simp only[Prod.mk.injEq,List.cons.injEq,and_true] at hv2;obtain⟨hv2a,hv2b⟩:=hv2;have hfy:=AW.allf y;simp only[hv2a,hv2b];have hyc':(k:Int) < (((l.drop (i+1)).length:Nat):Int):=hyc;have hgy:((l.drop (i+1)).map AW.c)[k]? =some y.c:=by rw[List.getElem?_map,hyi];rfl
   simp only[dv,A2,hyc',decide_true,KL,Vm,hgy];simp[hyc',hfy,AB];rw[if_pos hfy];simp[hf];refine Xi ?_
   by_cases cb:y.ret < x.call
   ·have e:((l.drop (i+1)).all fun y=>!decide (y.ret < x.call))=false:=by
     rw[←Bool.not_eq_true,List.all_eq_true];intro h;have:=h y hym;simp at this;omega
    rw[ht,hall,e] at hq;simp[cb];exact hq
   ·simp[cb]
    try simp (disch:=omega) only[wrap64]
    have wk:IntKind.i64.wrap ((k:Int)+1)=(k:Int)+1:=by simp at ck;exact wrap64 (by omega) (by omega)
    refine .next (by simpa using ck) () (by simp[wk]) ⟨rfl,fun z hz=>?_⟩
    rw[List.take_succ,hyi] at hz;rcases List.mem_append.1 hz with hz|hz
    ·have:=hk z hz;simp at this ⊢;omega
    ·simp at hz;subst hz;simp at cb;first|exact cb|omega
  ·rintro _ S2 v2 bx2 ⟨rfl,hk⟩ hv2 N;simp only[Prod.mk.injEq,List.cons.injEq,and_true] at hv2;obtain⟨hv2a,hv2b⟩:=hv2;simp only[hv2a,hv2b];rw[List.take_length] at hk;have e:((l.drop (i+1)).all fun y=>!decide (y.ret < x.call))=true:=by
    rw[List.all_eq_true];intro y hy;simpa using hk y hy
   rw[hall,e,Bool.true_and] at ht;simp;exact .next c rr.strip (by simp) ⟨rfl,ht,by simpa[okR] using hrr⟩
 ·rintro rr S' v bx ⟨rfl,ht,hrr⟩ hv N;simp at hv;rw[ht,List.drop_length] at hq;simp[hv];exact hq
set_option maxRecDepth 100000
def SH(last:Int)(x:AW):Bool:=decide (x.mark≤last)||(decide (x.mark < x.call)||decide (x.ret < x.mark))
def Jw(σ:SpN)(last:Int)(i:Int):List AW→Int
 |[]=>-1
 |x::l=>if SH last x=true∨Vo (doS σ x.op).2 x.res=false then i else Jw (doS σ x.op).1 x.mark (i+1) l
theorem MM.m{x:AW}(h:MM x=true):okM x:=by
 obtain⟨h1,h2,h3,h4,h5,h6,h7,h8⟩:=MO.1 h;exact⟨h3,h6⟩
theorem aM{w0:World}(hm:LI w0){S:St}{s:Stk}{σ:SpN}{room:Int}{l:List AW}{r:Rt}(h:JJ S s σ)(h0:σ.epoch=0)(h1:σ.opens=[])(h2:σ.made=0)(h3:σ.room=IA room)(hok:σ.ok 0)(hr:okR r l)(hl:l.length≤60)(hx:∀x∈l,MM x=true){Q:AV→St→Prop}
  (hq:∀S',Sx S S'→Q (.int .i64 (Jw σ 0 0 (B9 AW.mark l))) S'):AC w0 IQ [.agg s.c,.int .i64 room,.vs 19 (l.map AW.c) r] S Q:=by
 have hc:s.c=[.vs 2 (s.l.map Mnt.c) s.r.strip,.int .i64 s.next]:=rfl;rw[hc];apply Um;unfold Pt;have hbx:DV AI (AV.agg [.vs 2 (s.l.map Mnt.c) s.r.strip,.int .i64 s.next])=some [.vs 2 (s.l.map Mnt.c) s.r.strip,.int .i64 s.next]:=by simp
 rw[hbx];simp[D4];rw[←hc];refine ZK h h0 h1 h2 h3 (fun S1 hS1 p t m hp ht hmm hA=>?_)
 have hif:Jn C2 CQ (.ptr p 0)=some (.ifc CQ (.ptr p 0)):=by simp[Jn,C2,Pi]
 rw[hif];simp;rw[AF];refine ao (r:=r.strip) (by simpa[okR] using hr) (by omega) (fun x hx2=>MM.m (hx x hx2)) (fun S2 r2 hS2 _=>?_)
 have hA2:=hA.sx hS2;have hsrt:∀x∈B9 AW.mark l,MM x=true:=fun x h=>hx x ((Id l).1 h)
 have hlen:=Db (f:=AW.mark) l;generalize B9 AW.mark l=L at hq hsrt hlen ⊢;have hSx:∀S',Cg [p,t,m] S2 S'→Sx S S':=fun S' hC j hj=>by
  have e1:=(hS1.trans hS2) j hj;have:=(hS1.trans hS2).le;rw[hC.2 j (by omega) (by simp;omega)]
  exact e1
 try simp
 refine Bl L (fun i (q:Int×SpN)=>([.int .i64 q.1,.int .i64 i],[])) (fun i q S'=>(∃s',GG S' p t m q.2 s')∧q.2.ok i∧Jw q.2 q.1 i (L.drop i)=Jw σ 0 0 L∧Cg [p,t,m] S2 S') (0,σ) (by simp) ⟨⟨_,hA2⟩,hok,by simp,Cg.refl _ _⟩ ?_ ?_
 ·rintro i ⟨last,τ⟩ S' v bx x c hxi hd hcc hmem ⟨⟨s',hA3⟩,hok3,hw,hC⟩ hv;simp at hv hA3 hok3 hw;obtain⟨hv1,hv2⟩:=hv;obtain⟨g1,g2,g3,g4,g5,g6,g7,g8⟩:=MO.1 (hsrt x hmem);obtain⟨f1,f2,f3⟩:=Xv.1 g1;have hf:=AW.allf x;have hF:=(hA3.stk.leads hok3).fine;rw[hd,Jw] at hw;have hxc:x.c=[.int .i64 x.client,.int .i64 x.index,.int .i64 x.op.kind,.str x.op.path,.int .i64 x.op.off,.int .i64 x.op.n,.int .i64 x.op.id,.str x.op.image,
   .int .i64 x.res.err,.int .i64 x.res.kind,.int .i64 x.res.size,.int .i64 x.res.where_,.int .i64 x.res.id,.str x.res.text,.vs 1 (x.res.names.map DB) x.rt.strip,.bool x.res.end_,.int .i64 x.call,.int .i64 x.mark,.int .i64 x.ret]:=rfl
  simp[hv1,hv2,hcc,hxi,hxc]
  by_cases b1:x.mark≤last
  case pos=>
   have e:SH last x=true:=by simp[SH,b1]
   rw[if_pos (.inl e)] at hw;simp[b1,AF];rw[hw];exact hq S' (hSx S' hC)
  by_cases b2:x.mark < x.call
  case pos=>
   have e:SH last x=true:=by simp[SH,b2]
   rw[if_pos (.inl e)] at hw;simp[b1,b2,AF];rw[hw];exact hq S' (hSx S' hC)
  by_cases b3:x.ret < x.mark
  case pos=>
   have e:SH last x=true:=by simp[SH,b3]
   rw[if_pos (.inl e)] at hw;simp[b1,b2,b3,AF];rw[hw];exact hq S' (hSx S' hC)
  have e:SH last x=false:=by simp[SH];omega
  have hoc:x.op.c=[.int .i64 x.op.kind,.str x.op.path,.int .i64 x.op.off,.int .i64 x.op.n,.int .i64 x.op.id,.str x.op.image]:=rfl;have hrc:∀rt:Rt,x.res.c rt=[.int .i64 x.res.err,.int .i64 x.res.kind,.int .i64 x.res.size,.int .i64 x.res.where_,.int .i64 x.res.id,.str x.res.text,.vs 1 (x.res.names.map DB) rt,.bool x.res.end_]:=fun _=>rfl
  simp[b1,b2,b3,EC,D4,C9,AF];rw[←hoc];refine bt hm hA3 hok3 (by omega) (by omega) (by omega) (fun S4 s4 rt4 hC4 hA4=>?_)
  have hra:∀(a:CU) (r:Rt),a.c r=[.int .i64 a.err,.int .i64 a.kind,.int .i64 a.size,.int .i64 a.where_,.int .i64 a.id,.str a.text,.vs 1 (a.names.map DB) r,.bool a.end_]:=fun _ _=>rfl
  have hnm:=bk τ x.op;have hok4:=jK hok3 hF (o:=x.op) (by omega)
  simp[hra];simp only[←hra];refine YJ (a:=(doS τ x.op).2) (b:=x.res) (by omega) ?_
  have hC':=hC.trans hC4;cases hs:Vo (doS τ x.op).2 x.res with
  |false=>
   rw[if_pos (.inr hs)] at hw;simp;rw[hw];exact hq S4 (hSx S4 hC')
  |true=>
   rw[if_neg (by simp[e,hs])] at hw
   simp
   try simp (disch:=omega) only[wrap64]
   exact .next c (x.mark,(doS τ x.op).1) (by simp) ⟨⟨s4,hA4⟩,hok4,by simpa using hw,hC'⟩
 ·rintro⟨last,τ⟩ S' v bx ⟨⟨s',hA3⟩,hok3,hw,hC⟩ hv N;simp at hv hw;obtain⟨hv1,hv2⟩:=hv;have:=hq S' (hSx S' hC);rw[←hw] at this;simp[hv1,hv2];simpa[Jw] using this
set_option maxRecDepth 100000
def GU:AW:=⟨0,0,⟨7,[],0,0,0,[]⟩,{err:=9},.nil,1,1,1⟩
def KA:AW:=⟨0,0,⟨9,[],0,0,0,[]⟩,{err:=2},.nil,2,4,5⟩
def Tb:AW:=⟨0,0,⟨9,[],0,0,0,[]⟩,{err:=0},.nil,2,4,5⟩
theorem sBA:B9 AW.mark [KA,GU]=[GU,KA]:=rfl
theorem sAB:B9 AW.mark [GU,KA]=[GU,KA]:=rfl
theorem sAC:B9 AW.mark [GU,Tb]=[GU,Tb]:=rfl
theorem d1:doS (QO [] 1) ⟨7,[],0,0,0,[]⟩=(QO [] 1,{err:=9}):=by rfl
theorem d2:doS (QO [] 1) ⟨9,[],0,0,0,[]⟩=(QO [] 1,{err:=2}):=by rfl
theorem wAB:Jw (QO [] 1) 0 0 [GU,KA]= -1:=by
 simp[Jw,GU,KA,d1,d2,SH,Vo]
theorem wAC:Jw (QO [] 1) 0 0 [GU,Tb]=1:=by
 simp[Jw,GU,Tb,d1,d2,SH,Vo]
theorem kBA:SR [KA,GU]=false:=by rfl
theorem eF{S:St}:JJ S Stk.none (QO [] 1):=by
 rw[Hm];exact⟨⟨fun _=>rfl,by simp[Stk.none],by simp[Stk.none],by simp[Stk.none]⟩,by simp[Stk.none,Stk.on],rfl,rfl,rfl⟩
theorem Tz{w0:World}(hm:LI w0){S:St}{Q:AV→St→Prop}(hq:∀S',Sx S S'→Q (.bool true) S'):AC w0 Im [] S Q:=by
 apply Rw;unfold Lq;have eB:[(.int .i64 0),(.int .i64 0),(.int .i64 9),(.str []),(.int .i64 0),(.int .i64 0),(.int .i64 0),(.str []),(.int .i64 2),(.int .i64 0),(.int .i64 0),(.int .i64 0),(.int .i64 0),(.str []),(.vs 1 [] .nil),(.bool false),(.int .i64 2),(.int .i64 4),(.int .i64 5)]=KA.c:=rfl;have eA:[(.int .i64 0),(.int .i64 0),(.int .i64 7),(.str []),(.int .i64 0),(.int .i64 0),(.int .i64 0),(.str []),(.int .i64 9),(.int .i64 0),(.int .i64 0),(.int .i64 0),(.int .i64 0),(.str []),(.vs 1 [] .nil),(.bool false),(.int .i64 1),(.int .i64 1),(.int .i64 1)]=GU.c:=rfl
 have eC:[(.int .i64 0),(.int .i64 0),(.int .i64 9),(.str []),(.int .i64 0),(.int .i64 0),(.int .i64 0),(.str []),(.int .i64 0),(.int .i64 0),(.int .i64 0),(.int .i64 0),(.int .i64 0),(.str []),(.vs 1 [] .nil),(.bool false),(.int .i64 2),(.int .i64 4),(.int .i64 5)]=Tb.c:=rfl;simp only[eA,eB,eC];have oA:MM GU=true:=rfl;have oB:MM KA=true:=rfl;have oC:MM Tb=true:=rfl;have hok:(QO [] 1).ok 0:=iD 1 (by simp) (by simp)
 refine ao (l:=[KA,GU]) KX (by simp) (by simp[MM.m oA,MM.m oB]) (fun S1 r1 h1 _=>?_)
 rw[sBA];have gA:(GU.c)[17]? =some (.int .i64 1):=rfl;simp[gA,AF];refine aM hm (s:=Stk.none) (σ:=QO [] 1) (l:=[GU,KA]) eF (by rw[Hm]) (by rw[Hm]) (by rw[Hm]) (by rw[Hm]) hok KX (by simp) (by simp[oA,oB]) (fun S2 h2=>?_)
 rw[sAB,wAB];simp;refine aM hm (s:=Stk.none) (σ:=QO [] 1) (l:=[GU,Tb]) eF (by rw[Hm]) (by rw[Hm]) (by rw[Hm]) (by rw[Hm]) hok KX (by simp) (by simp[oA,oC]) (fun S3 h3=>?_)
 rw[sAC,wAC];simp;refine Xi ?_;have hb:decide (GU.ret < KA.call)=true:=rfl;rw[hb];simp;refine jA (l:=[KA,GU]) (by simp) KX ?_
 rw[kBA];simp;exact hq S3 ((h1.trans h2).trans h3)
open Go.Proofs
set_option maxRecDepth 100000 in
theorem dF(ys:List AV)(h:TT PA ys):∃(r:CU) (rt:Rt),ys=r.c rt.strip∧r.text.length≤1048576:=by
 obtain⟨hl,hf⟩:=h.struct_inv UF
 match ys,hl with
 |[a0,a1,a2,a3,a4,a5,a6,a7],_=>
  have m0:=hf _ (List.mem_cons_self);have m1:=hf _ (List.mem_cons_of_mem _ List.mem_cons_self);have m2:=hf _ (List.mem_cons_of_mem _ (List.mem_cons_of_mem _ List.mem_cons_self));have m3:=hf _ (List.mem_cons_of_mem _ (List.mem_cons_of_mem _ (List.mem_cons_of_mem _ List.mem_cons_self)));have m4:=hf _ (List.mem_cons_of_mem _ (List.mem_cons_of_mem _ (List.mem_cons_of_mem _ (List.mem_cons_of_mem _ List.mem_cons_self))));have m5:=hf _ (List.mem_cons_of_mem _ (List.mem_cons_of_mem _ (List.mem_cons_of_mem _ (List.mem_cons_of_mem _ (List.mem_cons_of_mem _ List.mem_cons_self)))));have m6:=hf _ (List.mem_cons_of_mem _ (List.mem_cons_of_mem _ (List.mem_cons_of_mem _ (List.mem_cons_of_mem _ (List.mem_cons_of_mem _ (List.mem_cons_of_mem _ List.mem_cons_self))))))
  have m7:=hf _ (List.mem_cons_of_mem _ (List.mem_cons_of_mem _ (List.mem_cons_of_mem _ (List.mem_cons_of_mem _ (List.mem_cons_of_mem _ (List.mem_cons_of_mem _ (List.mem_cons_of_mem _ List.mem_cons_self)))))));obtain⟨k0,e0,q0⟩:=ED m0 Ww;obtain⟨k1,e1,q1⟩:=ED m1 E8;obtain⟨k2,e2,q2⟩:=ED m2 E8;obtain⟨k3,e3,q3⟩:=ED m3 E8;obtain⟨k4,e4,q4⟩:=ED m4 E8;obtain⟨t,e5,q5⟩:=Kc m5 Ih;obtain⟨ns,e6,q6⟩:=dw _ m6;obtain⟨b,e7⟩:=Sy m7 aH;cases e0;cases e1;cases e2;cases e3;cases e4;cases e5;cases e6;cases e7;exact⟨⟨k0,k1,k2,k3,k4,t,ns.l,b⟩,ns.r,rfl,q5⟩
set_option maxRecDepth 100000 in
theorem gJ(ys:List AV)(h:TT I6 ys):∃x:AW,ys=x.c∧x.op.ok:=by
 obtain⟨hl,hf⟩:=h.struct_inv Rn
 match ys,hl with
 |[a0,a1,a2,a3,a4,a5,a6,a7,a8,a9,b0,b1,b2,b3,b4,b5,b6,b7,b8],_=>
  have m0:=hf _ (List.mem_cons_self);have m1:=hf _ (List.mem_cons_of_mem _ List.mem_cons_self);have m2:=hf _ (List.mem_cons_of_mem _ (List.mem_cons_of_mem _ List.mem_cons_self));have m3:=hf _ (List.mem_cons_of_mem _ (List.mem_cons_of_mem _ (List.mem_cons_of_mem _ List.mem_cons_self)));have m4:=hf _ (List.mem_cons_of_mem _ (List.mem_cons_of_mem _ (List.mem_cons_of_mem _ (List.mem_cons_of_mem _ List.mem_cons_self))));have m5:=hf _ (List.mem_cons_of_mem _ (List.mem_cons_of_mem _ (List.mem_cons_of_mem _ (List.mem_cons_of_mem _ (List.mem_cons_of_mem _ List.mem_cons_self)))));have m6:=hf _ (List.mem_cons_of_mem _ (List.mem_cons_of_mem _ (List.mem_cons_of_mem _ (List.mem_cons_of_mem _ (List.mem_cons_of_mem _ (List.mem_cons_of_mem _ List.mem_cons_self))))));obtain⟨k0,e0,q0⟩:=ED m0 E8;obtain⟨k1,e1,q1⟩:=ED m1 E8;obtain⟨o,e2,q2,q3,q4⟩:=gu _ m2
  obtain⟨r,rt,e3,_⟩:=dF _ m3;obtain⟨k4,e4,_⟩:=ED m4 E8;obtain⟨k5,e5,_⟩:=ED m5 E8;obtain⟨k6,e6,_⟩:=ED m6 E8;cases e0;cases e1;cases e4;cases e5;cases e6;simp[OpN.c] at e2;simp[CU.c] at e3;obtain⟨rfl,rfl,rfl,rfl,rfl,rfl⟩:=e2;obtain⟨rfl,rfl,rfl,rfl,rfl,rfl,rfl,rfl⟩:=e3;exact⟨⟨k0,k1,o,r,rt,k4,k5,k6⟩,rfl,q2⟩
set_option maxRecDepth 100000
open Go.Proofs
def Js(id:Int)(p:List Str×Bool)(x:AW):List Str×Bool:=if x.op.kind=6∧x.op.id=id∧x.res.err=0 then (p.1++x.res.names,x.res.end_) else p
def My(id:Int)(l:List AW):List Str×Bool:=l.foldl (Js id) ([],false)
theorem U9{id:Int}{l:List AW}{i:Nat}{x:AW}(h:l[i]? =some x):My id (l.take (i+1))=Js id (My id (l.take i)) x:=by
 rw[List.take_succ,h];simp[My,List.foldl_append]
theorem Pu{id:Int}:∀(l:List AW) (p:List Str×Bool),(∀x∈l,x.res.names.length≤100)→(l.foldl (Js id) p).1.length≤p.1.length+100*l.length
 |[],p,_=>by simp
 |x::l,p,h=>by
  have h1:=h x (by simp)
  have h2:=Pu (id:=id) l (Js id p x) fun y hy=>h y (by simp[hy])
  have h3:(Js id p x).1.length≤p.1.length+100:=by unfold Js;split<;>simp<;>omega
  simp only[List.foldl_cons,List.length_cons];omega
theorem iF{S:St}{es ys:List (List AV)}{r r':Rt}(hr:r≠ .none)(hl:es.length+ys.length≤lim):∃q,q≠ .none∧A3 AK S (.vs 1 es r) (.vs 1 ys r')=some (.vs 1 (es++ys) q):=by
 have hei:AK.size=1:=rfl
 by_cases h:ys=[]
 ·exact⟨r,hr,by simp[A3,BN,hei,h]⟩
 ·exact⟨.own (EE AK r),by simp,by simp[A3,BN,hei,h,hr,hl]⟩
theorem Wg{w0:World}{S:St}{l:List AW}{r:Rt}{id:Int}(hl:l.length≤60)(hx:∀x∈l,x.res.names.length≤100){Q:AV→St→Prop}
  (hq:∀r',Q (.tup [.vs 1 ((My id l).1.map DB) r',.bool (My id l).2]) S):AC w0 LM [.vs 19 (l.map AW.c) r,.int .i64 id] S Q:=by
 apply UC;unfold Pe;rw[AF];simp only[List.length_map];refine Bl l (fun i (q:(List Str×Bool)×Rt)=>([.vs 1 (q.1.1.map DB) q.2,.bool q.1.2,.int .i64 i],[])) (fun i q S'=>S'=S∧q.1=My id (l.take i)∧q.2≠ .none) (([],false),.nil) (by simp) ⟨rfl,rfl,by simp⟩ ?_ ?_
 ·rintro i ⟨⟨ns,en⟩,rr⟩ S' v bx x c hxi hd hc hmem ⟨rfl,he,hrr⟩ hv;simp only[Prod.mk.injEq,List.cons.injEq,and_true] at hv;obtain⟨hv0,hv1,hv2⟩:=hv;have hf:=AW.allf x;have hgx:(l.map AW.c)[i]? =some x.c:=by rw[List.getElem?_map,hxi];rfl
  have hstep:My id (l.take (i+1))=Js id (ns,en) x:=by rw[U9 hxi];simp only at he;rw[←he]
  have hlen:ns.length≤6000:=by
   have:=Pu (id:=id) (l.take i) ([],false) fun y hy=>hx y (List.mem_of_mem_take hy)
   simp only at he;unfold My at he;rw[←he] at this;simp at this;omega
  have hx1:=hx x hmem;obtain⟨q,hq1,hap⟩:=iF (S:=S') (es:=ns.map DB) (ys:=x.res.names.map DB) (r:=rr) (r':=x.rt.strip) hrr (by simp[lim];omega)
  have x2:(x.c)[2]? =some (.int .i64 x.op.kind):=rfl;have x6:(x.c)[6]? =some (.int .i64 x.op.id):=rfl;have x8:(x.c)[8]? =some (.int .i64 x.res.err):=rfl;have x14:(x.c)[14]? =some (.vs 1 (x.res.names.map DB) x.rt.strip):=rfl;have x15:(x.c)[15]? =some (.bool x.res.end_):=rfl;simp[hv0,hv1,hv2,hc,hxi,hgx,hf,x2,x6,x8,x14,x15];simp only[if_pos hf,A2];simp[x2,x6,x8,x14,x15];unfold Js at hstep
  by_cases c1:x.op.kind=6
  case neg=>
   rw[if_neg (fun h=>c1 h.1)] at hstep
   simp[c1,AF]
   try simp (disch:=omega) only[wrap64]
   exact .next c ((ns,en),rr) (by simp) ⟨rfl,hstep.symm,hrr⟩
  by_cases c2:x.op.id=id
  case neg=>
   rw[if_neg (fun h=>c2 h.2.1)] at hstep
   simp[c1,c2,AF]
   try simp (disch:=omega) only[wrap64]
   exact .next c ((ns,en),rr) (by simp) ⟨rfl,hstep.symm,hrr⟩
  by_cases c3:x.res.err=0
  case neg=>
   rw[if_neg (fun h=>c3 h.2.2)] at hstep
   simp[c1,c2,c3,AF]
   try simp (disch:=omega) only[wrap64]
   exact .next c ((ns,en),rr) (by simp) ⟨rfl,hstep.symm,hrr⟩
  rw[if_pos ⟨c1,c2,c3⟩] at hstep;simp[c1,c2,c3,AF,hap]
  try simp (disch:=omega) only[wrap64]
  exact .next c ((ns++x.res.names,x.res.end_),q) (by simp) ⟨rfl,hstep.symm,hq1⟩
 ·rintro⟨⟨ns,en⟩,rr⟩ S' v bx ⟨rfl,he,hrr⟩ hv N;simp only[Prod.mk.injEq,List.cons.injEq,and_true] at hv;obtain⟨hv0,hv1,hv2⟩:=hv;simp only[List.take_length] at he;simp[hv0,hv1,hv2];have:=hq rr.strip;rw[←he] at this;simpa using this
theorem Oc(w0:World)(hm:LI w0)(x0 x1:AV)(h0:TV KH x0)(h1:TV GC x1):AC w0 Ja [x0,x1] [] fun r _=>r= .bool true:=by
 refine jg fun Q hq=>?_
 obtain⟨l,r2,rfl,hr2,hol,hok2⟩:=h0.slice (enc:=AW.c) (ok:=fun x=>x.op.ok) On Rm gJ
 obtain⟨id,rfl,hid⟩:=h1.int E8;apply Nz;unfold JQ;refine Tz hm (fun S0 _=>?_)
 simp;refine gc ?_
 by_cases hmr:W3 l=true
 case neg=>simp[hmr,hq]
 obtain⟨h60,hok1⟩:=O0.1 hmr;have hx:∀x∈l,x.res.names.length≤100:=fun x h=>(MO.1 (hok1 x h)).2.2.2.2.2.2.2
 simp[hmr];rw[AF];refine Bl l (fun i (q:(List Str×Bool)×Rt)=>([.vs 1 (q.1.1.map DB) q.2,.bool q.1.2,.int .i64 i],[])) (fun i q S'=>S'=S0∧q.1=My id (l.take i)∧q.2≠ .none) (([],false),.nil) (by simp) ⟨rfl,rfl,by simp⟩ ?_ ?_
 ·rintro i ⟨⟨ns,en⟩,rr⟩ S' v bx x c hxi hd hc hmem ⟨rfl,he,hrr⟩ hv;simp only[Prod.mk.injEq,List.cons.injEq,and_true] at hv;obtain⟨hv0,hv1,hv2⟩:=hv;have hf:=AW.allf x;have hgx:(l.map AW.c)[i]? =some x.c:=by rw[List.getElem?_map,hxi];rfl
  have hstep:My id (l.take (i+1))=Js id (ns,en) x:=by rw[U9 hxi];simp only at he;rw[←he]
  have hlen:ns.length≤6000:=by
   have:=Pu (id:=id) (l.take i) ([],false) fun y hy=>hx y (List.mem_of_mem_take hy)
   simp only at he;unfold My at he;rw[←he] at this;simp at this;omega
  have hx1:=hx x hmem;obtain⟨q,hq1,hap⟩:=iF (S:=S') (es:=ns.map DB) (ys:=x.res.names.map DB) (r:=rr) (r':=x.rt.strip) hrr (by simp[lim];omega)
  have x2:(x.c)[2]? =some (.int .i64 x.op.kind):=rfl;have x6:(x.c)[6]? =some (.int .i64 x.op.id):=rfl;have x8:(x.c)[8]? =some (.int .i64 x.res.err):=rfl;have x14:(x.c)[14]? =some (.vs 1 (x.res.names.map DB) x.rt.strip):=rfl;have x15:(x.c)[15]? =some (.bool x.res.end_):=rfl;simp[hv0,hv1,hv2,hc,hxi,hgx,hf,x2,x6,x8,x14,x15];simp only[if_pos hf,A2];simp[x2,x6,x8,x14,x15];unfold Js at hstep
  by_cases c1:x.op.kind=6
  case neg=>
   rw[if_neg (fun h=>c1 h.1)] at hstep
   simp[c1,AF]
   try simp (disch:=omega) only[wrap64]
   exact .next c ((ns,en),rr) (by simp) ⟨rfl,hstep.symm,hrr⟩
  by_cases c2:x.op.id=id
  case neg=>
   rw[if_neg (fun h=>c2 h.2.1)] at hstep
   simp[c1,c2,AF]
   try simp (disch:=omega) only[wrap64]
   exact .next c ((ns,en),rr) (by simp) ⟨rfl,hstep.symm,hrr⟩
  by_cases c3:x.res.err=0
  case neg=>
   rw[if_neg (fun h=>c3 h.2.2)] at hstep
   simp[c1,c2,c3,AF]
   try simp (disch:=omega) only[wrap64]
   exact .next c ((ns,en),rr) (by simp) ⟨rfl,hstep.symm,hrr⟩
  rw[if_pos ⟨c1,c2,c3⟩] at hstep;simp[c1,c2,c3,AF,hap]
  try simp (disch:=omega) only[wrap64]
  exact .next c ((ns++x.res.names,x.res.end_),q) (by simp) ⟨rfl,hstep.symm,hq1⟩
 ·rintro⟨⟨ns,en⟩,rr⟩ S' v bx ⟨rfl,he,hrr⟩ hv N;simp only[Prod.mk.injEq,List.cons.injEq,and_true] at hv;obtain⟨hv0,hv1,hv2⟩:=hv;simp only[List.take_length] at he;have hlen:=Pu (id:=id) l ([],false) hx;simp only[hv0,hv1,hv2];simp;refine Wg h60 hx (fun r'=>?_)
  simp;have e1:ns=(My id l).1:=by rw[←he]
  have e2:en=(My id l).2:=by rw[←he]
  subst e1 e2;refine Vw (a:=(My id l).1) (b:=(My id l).1) (by unfold My;simp at hlen;omega) ?_
  simp[AF];exact hq _
end Go.Av
namespace Go.Proofs.YtgilicomkelmdaaGreat.talePages
open Go.ChangeShapes Go.WideShapes Go.ChangeAt Go.RowKit Go.Av
theorem own:ownKnob Tryz.prog.godebug=none:=by kernel_rfl
theorem Mc{H:Type}:∀(l:List (DataW H)),l.length≤Rows.uptoBulkAll l∧∀d∈l,Rows.uptoBulk d≤Rows.uptoBulkAll l
 |[]=>⟨Nat.zero_le _,by simp⟩
 |d::l=>by
  obtain⟨h1,h2⟩:=Mc l;have h3:1≤Rows.uptoBulk d:=by
   cases d with
   |lit l=>cases l<;>simp[Rows.uptoBulk]
   |_=>simp[Rows.uptoBulk]
  refine⟨by simp only[Rows.uptoBulkAll,List.length_cons];omega,fun e he=>?_⟩
  simp only[Rows.uptoBulkAll];rcases List.mem_cons.1 he with rfl|he
  ·omega
  ·have:=h2 e he;omega
theorem bdd{H:Type}:Bdd 1048576 (fun d:DataW H=>Rows.uptoBulk d≤1048576) where
 str l h:=by simp only[Rows.uptoBulk] at h;omega
 sl e s h:=by
  simp only[Rows.uptoBulk] at h;obtain⟨h1,h2⟩:=Mc e;obtain⟨h3,h4⟩:=Mc s;exact⟨by omega,fun d hd=>by have:=h2 d hd;omega,fun d hd=>by have:=h4 d hd;omega⟩
 agg ps h d hd:=by
  simp only[Rows.uptoBulk] at h;have:=(Mc ps).2 d hd;omega
set_option maxRecDepth 100000 in
theorem law(w0:World)(hm:LI w0)(xs:List AV)(hl:xs.length=Tryz.f4.params.size)(hx:∀(j:Nat) (t:TypeId) (x:AV),Tryz.f4.params[j]? =some t→xs[j]? =some x→TyV Tryz.prog 1048576 t x):
  AL (En w0) 4 xs [] fun r _=>r= .bool true:=by
 rw[Tryz.params4] at hl hx
 match xs,(show xs.length=2 from hl) with
 |[x0,x1],_=>exact Oc w0 hm x0 x1 (hx 0 22 x0 rfl rfl) (hx 1 3 x1 rfl rfl)
def put(h:Array Go.Obj)(g:Nat)(cs:List Value):Array Go.Obj:=h.modify g fun
 | .cells _ t fz=>.cells cs.toArray t fz
 |o=>o
noncomputable def P4(os:Os):World:={World.holding Tryz.prog os ⟨#[],#[],[]⟩ with heap:=(World.holding Tryz.prog os ⟨#[],#[],[]⟩).heap}
theorem dI(os:Os):laidMet Tryz.prog Rows.talePagesUptoRow.laid ((P4 os).forCall (fun _ _=>0) ⟨#[],#[.slice none 0 0,.int .i64 0],[]⟩).memory:=
 laidMet_of_run' 8 (by kernel_rfl) (by kernel_rfl)
theorem reads(os:Os){H:Type}(enc:TypeId×Value→H):∃places,DataW.whole enc Tryz.prog ((P4 os).forCall (fun _ _=>0) ⟨#[],#[.slice none 0 0,.int .i64 0],[]⟩).memory Tryz.f4.params.toList Rows.talePagesSpec.vars false #[.slice none 0 0,.int .i64 0].toList 8=some ([.nil,.lit (.int .i64 0)],[],places):=
 ⟨[],by kernel_rfl⟩
set_option maxRecDepth 100000 in
theorem lifted(os:Os)(started:os.Started)(H:Type)(enc:TypeId×Value→H)(F:Stop.Interp):
  ReturnsInHanded {} Tryz.checked os 4 .any ((Rows.OpenSpec.upto Rows.talePagesSpec).preRow enc Tryz.prog Tryz.f4 Rows.talePagesUptoRow.domain false Rows.talePagesUptoRow.laid) (((Rows.OpenSpec.upto Rows.talePagesSpec).at F).post enc Tryz.prog Tryz.f4 false true false false):=by
 obtain⟨places,hx⟩:=reads os enc;refine returnsInHanded_of_row (C:=Tryz.checked) (s:=Rows.OpenSpec.upto Rows.talePagesSpec) own started (by kernel_rfl) Tryz.func4
  (witness_row_atRef (enc:=enc) (C:=Tryz.checked) false (P4 os) #[.slice none 0 0,.int .i64 0] rfl (by kernel_rfl) (by kernel_rfl) (by kernel_rfl)
   (OpenSpec.preRow_of_cond 8 hx (by kernel_rfl) (fun k hk=>by cases hk;kernel_rfl) (by kernel_rfl) (dI os))) ?_
 intro W base args ds gs before hval hW _ hk _ _ hsh _;have hk2:Rows.uptoBulkAll (ds++gs)≤1048576:=of_decide_eq_true (hk _ rfl);exact Wu bdd (E:=En W) (fn:=Tryz.f4) (L:=[22,32,3,30,9,26,23,24,4]) (tb:=4) (by kernel_rfl) (by kernel_rfl) (by kernel_rfl) rfl Tryz.underlying4 rfl
  (fun ds hd=>by
   match ds,hd with
   |[d0,d1],_=>exact⟨rfl,rfl,rfl⟩) (law W (Xb hsh)) hval hW (fun d hd=>Nat.le_trans ((Mc (ds++gs)).2 d (List.mem_append_left _ hd)) hk2)
end Go.Proofs.YtgilicomkelmdaaGreat.talePages
