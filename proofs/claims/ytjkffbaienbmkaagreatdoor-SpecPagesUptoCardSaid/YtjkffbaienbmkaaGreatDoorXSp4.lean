/- Parts of the proofs of this seat: abstract values over the model, and what the functions of the program do. No condition. -/
import Derived.Test.YtjkffbaienbmkaaGreatDoorXDel
import Derived.Test.YtjkffbaienbmkaaGreatDoorX10L
import Derived.Test.YtjkffbaienbmkaaGreatDoorM8
import Derived.Test.YtjkffbaienbmkaaGreatDoorM9
import Derived.Test.YtjkffbaienbmkaaGreatDoorD0
import Derived.Test.YtjkffbaienbmkaaGreatDoorY19
import Derived.Test.YtjkffbaienbmkaaGreatDoorM11
import Derived.Test.YtjkffbaienbmkaaGreatDoorXSplit
import Derived.Test.YtjkffbaienbmkaaGreatDoorCards
import Derived.Test.YtjkffbaienbmkaaGreatDoorTie
import Derived.WalkKit
import Derived.ProofKit
import Derived.OpenShut
import Derived.Below
import Derived.JoinedCond
import Derived.Deep.DeepHandedRow
import Derived.Deep.DeepWitnessRowRef
import Derived.Lib.LaidTab
set_option linter.all false
namespace Go.Av
open Go.Proofs
abbrev CuX:=FA×Rt
def CuX.c(x:CuX):List AV:=[.int .i64 x.1.id,.int .i64 x.1.epoch,.vs 1 (x.1.names.map Bz) x.2,.int .i64 x.1.at_]
@[simp] theorem CuX.len(x:CuX):(CuX.c x).length=4:=rfl
def iC(n:Int):List AV:=[.int .i64 n]
structure SpX where
 rd:Rt
 ri:Rt
 ro:Rt
 ox:List CuX
def SpX.c(X:SpX)(σ:SpN):List AV:=[.vs 7 (σ.D.map Node.c) X.rd,.vs 1 (σ.ids.map iC) X.ri,.int .i64 σ.next,.int .i64 σ.epoch,.int .i64 σ.room,.vs 4 (X.ox.map CuX.c) X.ro,.int .i64 σ.made]
structure SpX.ok(X:SpX)(σ:SpN):Prop where
 rd:X.rd.strip=X.rd∧okR X.rd σ.D
 ri:X.ri.strip=X.ri∧okR X.ri σ.ids
 ro:X.ro.strip=X.ro∧okR X.ro X.ox
 ox:X.ox.map (·.1)=σ.opens
 rx:∀x∈X.ox,x.2.strip=x.2
@[simp] theorem SpX.len(X:SpX)(σ:SpN):(X.c σ).length=7:=rfl
theorem strip_strip(r:Rt):r.strip.strip=r.strip:=by cases r<;>rfl
theorem SpX.map(X:SpX)(σ:SpN)(h:X.ok σ):(X.c σ).map AV.strip1=X.c σ:=by
 simp[SpX.c,AV.strip1,h.rd.1,h.ri.1,h.ro.1]
@[simp] theorem SpX.free1(X:SpX)(σ:SpN):(∀x∈X.c σ,x.free1=true)↔True:=by simp[SpX.c,AV.free1]
theorem okR.nil{α:Type}{r:Rt}{l:List α}(h:okR r l):r= .nil→l=[]:=fun e=>h (by rw[e];rfl)
open Go.Proofs
set_option maxRecDepth 100000 in
theorem JD{w0:World}{S:St}{s:Stk}{D:List Node}{dr:Rt}{path:Str}(hL:Leads S s D)(hD:Docs D)(hp:path.length≤1048576){Q:AV→St→Prop}
  (hq:∀r r2:Rt,Q (.tup [.vs 1 ((if CT (BP D path true)=0 then (BP D path true).names else []).map Bz) r.strip,.vs 2 ((Fs D path).map Ent.c) r2,.int .i64 (CT (BP D path true))]) S):AC w0 Fj [.vs 7 (D.map Node.c) dr,.str path] S Q:=by
 unfold Fs at hq;refine bv hL hD hp (fun he=>?_) (fun he r r2=>?_)
 ·have:=hq .nil .nil;rw[if_neg he,if_neg he] at this;exact this
 ·have:=hq r r2;rw[if_pos he,if_pos he,he] at this;exact this
set_option maxRecDepth 100000
open Go.Proofs
theorem Mj.newM{S0 S:St}{l:List Node}{s:Stk}(hs:Mj S0 S l s)(room:Int):LO S s (ZU l room):=by
 rw[Db];refine⟨hs.ok,hs.on,hs.tabs,?_,hs.next⟩;have h1:(s.l.map fun x=>(x.num:Int))=(s.l.map Mnt.num).map fun n:Nat=>(n:Int):=by rw[List.map_map];rfl
 rw[h1,hs.nums,List.map_reverse]
theorem nN{s:Str}:∀{L:List Ent},L.map Ent.name=[s]→∃y,L=[y]∧y.name=s
 |[y],h=>⟨y,rfl,by simpa using h⟩
 |[],h=>by simp at h
 |_::_::_,h=>by simp at h
set_option maxRecDepth 100000 in
theorem Kz{w0:World}(hm:KI w0){S:St}{Q:AV→St→Prop}(hq:∀S',Sx S S'→Q (.bool true) S'):AC w0 GJ [] S Q:=by
 apply WP;unfold PA;refine fT (by simp) (fun r1 hr1=>?_)
 refine bN ?_;simp;refine gn (l:=[[97],[98]]) (items:=[Kc [120] r1,MM]) Wo Wo (by simp) (by simp) (fun q3 q4 k3 k4=>?_)
 have hx:=mD (s:=[120]) (by simp) hr1
 have hok1:=bY (o:=false) (l:=[[97],[98]]) (items:=[Kc [120] r1,MM]) (by simp) (by simp[hx,mS]) k3 k4
 have a1:ME (Kc [120] r1)=true:=d7 (by simp)
 have a2:(Kc [120] r1).allB=true:=by rw[Node.all_eq,a1];rfl
 have hr:Bs (QM false [[97],[98]] q3 [Kc [120] r1,MM] q4)=true:=by
  have a3:ME (QM false [[97],[98]] q3 [Kc [120] r1,MM] q4)=true:=by rfl
  have a5:MM.allB=true:=by rfl
  have a4:(QM false [[97],[98]] q3 [Kc [120] r1,MM] q4).allB=true:=by
   rw[Node.all_eq,a3]
   show (Node.allsB [_,_]&&true)=true
   rw[Node.allsB,a2,Node.allsB,a5];rfl
  rw[Bs,a4];rfl
 have e1:CT (BP [QM false [[97],[98]] q3 [Kc [120] r1,MM] q4] [47] true)=0:=by rfl
 have e2:(BP [QM false [[97],[98]] q3 [Kc [120] r1,MM] q4] [47] true).names=[]:=by rfl
 have e3:(Fs [QM false [[97],[98]] q3 [Kc [120] r1,MM] q4] (pathOf [])).map Ent.name=[[97]]:=by rfl
 generalize QM false [[97],[98]] q3 [Kc [120] r1,MM] q4=d1 at hok1 hr e1 e2 e3 ⊢;have h0:=Pv [d1] 0 (by simp[hr]) (by simp)
 simp;refine W0 (l:=[d1]) hm (by simp[hok1]) (by simp) (fun S1 h1=>⟨fun _ s hs=>?_,fun h=>absurd h0 h⟩)
 have hM:=hs.newM 9;have hok:=WY (trees:=[d1]) 9 (by simp[hok1,hr]) (by simp)
 simp;rw[AH];refine Lj ?_;rw[hs.len];simp;refine Kb hM (by rw[Db]) (by rw[Db]) (by rw[Db]) (by rw[Db]) (fun S2 hS2 p t m hp ht hmm hA=>?_)
 simp;have hs0:ZU [d1] 9=⟨[d1],[0],1,0,9,[],0⟩:=by rw[Db];rfl
 rw[hs0] at hA hok;obtain⟨y,hy,hyn⟩:=nN e3;have f1:doS ⟨[d1],[0],1,0,9,[],0⟩ ⟨5,[47],0,0,0,[]⟩=(⟨[d1],[0],1,0,9,[⟨1,0,[],0⟩],1⟩,{id:=1}):=by
  simp[doS,e1,e2,Im]
 have f2:doS ⟨[d1],[0],1,0,9,[⟨1,0,[],0⟩],1⟩ ⟨6,[],0,1,1,[]⟩=(⟨[d1],[0],1,0,9,[⟨1,0,[],1⟩],1⟩,{names:=[[97]],end_:=true}):=by
  simp[doS,HX,Eo,Ey,hy,hyn]
 have f3:doS ⟨[d1],[0],1,0,9,[⟨1,0,[],1⟩],1⟩ ⟨9,[],0,0,0,[]⟩=(⟨[],[],1,1,9,[⟨1,0,[],1⟩],1⟩,{}):=by
  simp[doS,IC]
 have f4:doS ⟨[],[],1,1,9,[⟨1,0,[],1⟩],1⟩ ⟨6,[],0,1,1,[]⟩=(⟨[],[],1,1,9,[⟨1,0,[],1⟩],1⟩,Ai 8):=by
  simp[doS,HX,Eo,Ey]
 have hF1:=(hA.stk.leads hok).fine;have ok1:=K7 hok hF1 (o:=⟨5,[47],0,0,0,[]⟩) (by simp)
 rw[f1] at ok1;have ok2:=K7 ok1 hF1 (o:=⟨6,[],0,1,1,[]⟩) (by simp)
 rw[f2] at ok2;have ok3:=K7 ok2 hF1 (o:=⟨9,[],0,0,0,[]⟩) (by simp)
 rw[f3] at ok3;refine Ek (o:=⟨5,[47],0,0,0,[]⟩) hm hA hok (by omega) (by simp) (by simp) (fun S3 s3 rt3 hS3 hA3=>?_)
 rw[f1] at hA3 ⊢;simp[Bb.c];refine Ek (o:=⟨6,[],0,1,1,[]⟩) hm hA3 ok1 (by omega) (by simp) (by simp) (fun S4 s4 rt4 hS4 hA4=>?_)
 rw[f2] at hA4 ⊢;simp[Bb.c];refine Ek (o:=⟨9,[],0,0,0,[]⟩) hm hA4 ok2 (by omega) (by simp) (by simp) (fun S5 s5 rt5 hS5 hA5=>?_)
 rw[f3] at hA5 ⊢;simp[Bb.c];refine Ek (o:=⟨6,[],0,1,1,[]⟩) hm hA5 ok3 (by omega) (by simp) (by simp) (fun S6 s6 rt6 hS6 hA6=>?_)
 rw[f4];simp[Bb.c,Ai,AH];refine hq _ ?_;have hch:=((hS3.trans hS4).trans hS5).trans hS6;intro j hj;have h12:=h1.trans hS2;have hlt:=h12.le;have hj1:=h1.le;rw[hch.2 j (by omega) (by simp;omega)]
 exact h12 j hj
set_option maxRecDepth 100000
open Go.Proofs
theorem XL{w0:World}{S:St}{l:List Ent}{r r2:Rt}{k:Nat}(hl:l.length≤100000000)(hk:k≤l.length){Q:AV→St→Prop}(hq:Q (.bool true) S):AC w0 Kq [.vs 1 ((l.take k).map fun y=>Bz y.name) r,.vs 2 (l.map Ent.c) r2] S Q:=by
 apply WR;unfold PH;rw[AH];have hlk:(l.take k).length=k:=by rw[List.length_take];omega
 refine Al (l.take k) (fun i (_:Unit)=>([.int .i64 i],[])) (fun i _ S'=>S'=S) () (by simp) rfl ?_ ?_
 ·rintro i _ S' v b y hi hxi hd hc hmem rfl hv;simp at hv;have hil:i < l.length:=by omega
  have hik:i < k:=by omega
  have hye:l[i]=y:=by
   have:=hxi;rw[List.getElem?_take_of_lt hik,List.getElem?_eq_getElem hil] at this;simpa using this
  have hmin:min k l.length=k:=Nat.min_eq_left hk;simp[hv,hlk,hik,hil,hye,hmin]
  try simp (disch:=omega) only[wrap64]
  exact .next hik () (by simp) rfl
 ·rintro _ S' v b rfl hv N;simp at hv;simp[hv,hlk];exact hq
theorem o6{S:St}{s:Stk}{D:List Node}(hL:Leads S s D):CT (BP D [47] true)=0∧(BP D [47] true).names=[]:=by
 have e:BP D [47] true=⟨[],Dm D,0⟩:=by
  have hs:DP [47]=some []:=by rfl
  unfold BP;rw[hs];simp only;rw[FV];rfl
 rw[e];refine⟨?_,rfl⟩;unfold CT;simp only[ne_eq,not_true_eq_false,if_false];cases hd:Dm D with
 |nil=>rfl
 |cons y l=>
  have:y.kind=2:=(hL.dirs y (by rw[hd];simp)).2.2.1
  simp[this]
theorem mt{S:St}{s:Stk}{D:List Node}(hL:Leads S s D){path:Str}(he:CT (BP D path true)=0):Fs D (pathOf (BP D path true).names)=Fs D path∧CT (BP D (pathOf (BP D path true).names) true)=0:=by
 obtain⟨h1,h2⟩:=H2 he;obtain⟨t,hE⟩:=hL.ends (path:=path) (fl:=true) h1;obtain⟨ds,hw,hh⟩:=hE.way h2;obtain⟨s1,s2⟩:=hE.short;have hsp:=ZT s1 s2;have hwd:=kX hw hsp true;have hle:CT (BP D (pathOf (BP D path true).names) true)=0:=by
  rw[hwd];unfold CT;simp only[ne_eq,not_true_eq_false,if_false];rw[←hh];cases hn:(BP D path true).nodes with
  |nil=>rfl
  |cons y l=>simp[h2 y l hn]
 refine⟨?_,hle⟩;unfold Fs;rw[if_pos hle,if_pos he,hwd,hh]
theorem kO{α:Type}{L:List α}{a c a':Nat}(h:a'=a+((L.drop a).take c).length):L.take a++(L.drop a).take c=L.take a':=by
 rw[h,List.take_add];congr 1;rw[List.length_take,List.length_drop]
 by_cases hh:c≤L.length - a
 ·rw[Nat.min_eq_left hh]
 ·rw[Nat.min_eq_right (by omega),List.take_of_length_le (by simp;omega),List.take_of_length_le (by simp)]
theorem pF{ei:TI}(hei:ei.size=1){S:St}{es ys:List (List AV)}{r r':Rt}(hr:r≠ .none)(hl:es.length+ys.length≤lim):∃q,q≠ .none∧AT ei S (.vs 1 es r) (.vs 1 ys r')=some (.vs 1 (es++ys) q):=by
 by_cases h:ys=[]
 ·exact⟨r,hr,by simp[AT,BM,hei,h]⟩
 ·exact⟨.own (By ei r),by simp,by simp[AT,BM,hei,h,hr,hl]⟩
def QB(l:List Node)(N:List Str)(a b:Nat):SpN:=⟨l.reverse,((List.range l.length).map fun i:Nat=>(i:Int)).reverse,l.length,0,3,[⟨1,0,N,a⟩,⟨2,0,[],b⟩],2⟩
theorem lA(l:List Node)(N:List Str)(a b:Nat)(n:Int)(hn:1≤n):doS (QB l N a b) ⟨6,[],0,n,1,[]⟩=(QB l N (a+(((Fs l.reverse (pathOf N)).drop a).take n.toNat).length) b,{names:=(((Fs l.reverse (pathOf N)).drop a).take n.toNat).map Ent.name,end_:=decide (a+(((Fs l.reverse (pathOf N)).drop a).take n.toNat).length=(Fs l.reverse (pathOf N)).length)}):=by
 have h:¬n < 1:=by omega
 simp[doS,HX,Eo,Ey,QB,h,List.findIdx?_cons]
theorem kh(l:List Node)(N:List Str)(a b:Nat):doS (QB l N a b) ⟨6,[],0,1,2,[]⟩=(QB l N a (b+(((Fs l.reverse (pathOf [])).drop b).take 1).length),(doS (QB l N a b) ⟨6,[],0,1,2,[]⟩).2):=by
 refine Prod.ext ?_ rfl;simp[doS,HX,Eo,Ey,QB,List.findIdx?_cons]
theorem o7(l:List Node)(N:List Str)(a b:Nat):(doS (QB l N a b) ⟨8,[],0,0,0,[110,111,110,101]⟩).1=QB l N a b:=by
 have h:I0 [110,111,110,101]=none:=by simp[I0]
 simp[doS,h]
theorem iv(l:List Node)(N:List Str)(a b:Nat)(hl:l.length≤64):(doS (QB l N a b) ⟨9,[],0,0,99,[]⟩).1=QB l N a b:=by
 have h:(((List.range l.length).map fun i:Nat=>(i:Int)).reverse).findIdx? (fun i=>decide (i=99))=none:=by
  rw[List.findIdx?_eq_none_iff];intro x hx;simp at hx;obtain⟨i,hi,rfl⟩:=hx;simp;omega
 unfold doS;simp only[show ((9:Int)=5)=False by simp,show ((9:Int)=6)=False by simp,show ((9:Int)=7)=False by simp,show ((9:Int)=8)=False by simp,if_false,if_true]
 unfold IC;rw[show (QB l N a b).ids=((List.range l.length).map fun i:Nat=>(i:Int)).reverse from rfl,h]
set_option maxRecDepth 100000 in
theorem SM(w0:World)(hm:KI w0)(x0 x1 x2:AV)(h0:TV H6 x0)(h1:TV Dj x1)(h2:TV Z5 x2):AC w0 LW [x0,x1,x2] [] fun r _=>r= .bool true:=by
 refine gh fun Q hq=>?_
 obtain⟨l,lr,e1,hlr,hll,hlok⟩:=(J4 (h0.one (by simp[isAgg,Dd]))).2 rfl
 have e1':x0= .vs 7 (l.map Node.c) lr:=by simpa using e1
 subst e1';obtain⟨path,rfl,hpl⟩:=h1.str KS;obtain⟨sizes,r2,rfl,hr2,hol,hok2⟩:=h2.slice (enc:=fun n:Nat=>[AV.int .u8 n]) (ok:=fun n=>n < 256) gI mQ (fun ys h=>mY h eJ)
 apply Rz;unfold LU;refine Kz hm (fun S _=>?_)
 simp;refine Pg hlok (fun S2 hS2=>?_)
 cases hmay:WG l with
 |false=>simp[AH,hq]
 |true=>
 simp
 by_cases hp:1100 < path.length
 ·simp[show (1100:Int) < path.length by omega,hq,AH]
 have hpi:¬(1100:Int) < path.length:=by omega
 simp[hpi]
 by_cases hsz:100 < sizes.length
 ·simp[show (100:Int) < sizes.length by omega,hq,AH]
 have hszi:¬(100:Int) < sizes.length:=by omega
 simp[hszi];obtain⟨h8,hall⟩:=T6.1 hmay;have hright:∀n∈l,Bs n=true:=fun n hn=>(hall n hn).2
 refine MK hm hlok hmay (fun S3 s hS3 hs=>?_)
 have hM:=hs.newM 3;have hok:=WY (trees:=l) 3 (fun n hn=>⟨hlok n hn,hright n hn⟩) (by omega)
 have hD:Docs l.reverse:=Docs.of hlok hright (by omega)
 simp;refine Kb hM (by rw[Db]) (by rw[Db]) (by rw[Db]) (by rw[Db]) (fun S4 hS4 p t m hpp ht hmm hA=>?_)
 rw[Db] at hA hok;have hL:=hA.stk.leads hok;simp only at hL;have hF:=hL.fine;refine ZM (by omega) (fun r3=>?_)
 simp
 try rw[←List.map_reverse]
 refine JD (D:=l.reverse) hL hD (by omega) (fun r4 r5=>?_)
 simp;have ok1:=K7 hok hF (o:=⟨5,path,0,0,0,[]⟩) (by simp)
 refine Ek (o:=⟨5,path,0,0,0,[]⟩) hm hA hok (by omega) (by simp;omega) (by simp) (fun S5 s5 rt5 hS5 hA5=>?_)
 by_cases he:CT (BP l.reverse path true)=0
 case neg=>
  have f1:doS ⟨l.reverse,((List.range l.length).map fun i:Nat=>(i:Int)).reverse,l.length,0,Ev 3,[],0⟩ ⟨5,path,0,0,0,[]⟩=(⟨l.reverse,((List.range l.length).map fun i:Nat=>(i:Int)).reverse,l.length,0,Ev 3,[],0⟩,Ai (CT (BP l.reverse path true))):=by
   simp[doS,he]
  rw[f1] at hA5 ⊢;simp[Bb.c,Ai,he,AW hA5.obj,AH];refine J6 hA5.tab ?_;simp[hq]
 have f1:doS ⟨l.reverse,((List.range l.length).map fun i:Nat=>(i:Int)).reverse,l.length,0,Ev 3,[],0⟩ ⟨5,path,0,0,0,[]⟩=(⟨l.reverse,((List.range l.length).map fun i:Nat=>(i:Int)).reverse,l.length,0,Ev 3,[⟨1,0,(BP l.reverse path true).names,0⟩],1⟩,{id:=1}):=by
  simp[doS,he,Im,Ev]
 rw[f1] at hA5 ok1 ⊢;simp[Bb.c,he];obtain⟨q1,q2⟩:=o6 hL;have ok2:=K7 ok1 hF (o:=⟨5,[47],0,0,0,[]⟩) (by simp)
 refine Ek (o:=⟨5,[47],0,0,0,[]⟩) hm hA5 ok1 (by omega) (by simp) (by simp) (fun S6 s6 rt6 hS6 hA6=>?_)
 have f2:doS ⟨l.reverse,((List.range l.length).map fun i:Nat=>(i:Int)).reverse,l.length,0,Ev 3,[⟨1,0,(BP l.reverse path true).names,0⟩],1⟩ ⟨5,[47],0,0,0,[]⟩=(QB l (BP l.reverse path true).names 0 0,{id:=2}):=by
  simp[doS,q1,q2,Im,Ev,QB]
 rw[f2] at hA6 ok2 ⊢;obtain⟨o1,o2⟩:=mt hL he;generalize hN:(BP l.reverse path true).names=N at hA6 ok2 o1 o2 ⊢;generalize hW:Fs l.reverse path=W at o1 ⊢;simp[Bb.c,AH];refine Al sizes (fun i (σ:Nat×Nat×Rt)=>([.vs 1 ((W.take σ.1).map fun y=>Bz y.name) σ.2.2,.int .i64 i],[some [.int .i64 0,.int .i64 0,.int .i64 0,.int .i64 0,.int .i64 1,.str [],.vs 1 [] rt5,.bool false],some [.int .i64 0,.int .i64 0,.int .i64 0,.int .i64 0,.int .i64 2,.str [],.vs 1 [] rt6,.bool false]]))
  (fun i σ S'=>(∃s,Fa S' p t m (QB l N σ.1 σ.2.1) s)∧(QB l N σ.1 σ.2.1).ok (2+4*i)∧σ.2.2≠ .none∧σ.1≤W.length) (0,0,.nil) (by simp) ⟨⟨s6,hA6⟩,ok2,by simp,Nat.zero_le _⟩ ?_ ?_
 ·rintro i ⟨a,b,r⟩ S' v bb n hii hxi hdr hcc hmem ⟨⟨s7,hA7⟩,hok7,hr7,haW⟩ hv;simp at hv hA7 hok7 hr7 haW;obtain⟨⟨hv1,hv2⟩,hb1,hb2⟩:=hv;have hn256:=hok2 n hmem;obtain⟨c,hc⟩:∃c:Nat,c=1+n % 5:=⟨_,rfl⟩;have hrem:AJ .rem (.int .i64 (n:Int)) (.int .i64 5)=some (.int .i64 ((n % 5:Nat):Int)):=by
   rw[nB _ _ _ (by decide)]
   rfl
  have hadd:AJ .add (.int .i64 1) (.int .i64 ((n % 5:Nat):Int))=some (.int .i64 (c:Int)):=by
   simp only[AJ,if_true,Gb];rw[wrap64 (by omega) (by omega),hc]
   congr 2
  have hw1:IntKind.i64.wrap (n:Int)=n:=wrap64 (by omega) (by omega)
  have hw2:IntKind.i64.wrap (1+(n:Int) % 5)=(c:Int):=by rw[wrap64 (by omega) (by omega)];omega
  simp[hv1,hv2,hb1,hb2,hcc,hxi,hw1,hrem,hadd,hw2];have hLa:=(hA7.stk.leads hok7).fine;have p1:=lA l N a b c (by omega)
  have p2:=kh l N (a+(((Fs l.reverse (pathOf N)).drop a).take (c:Int).toNat).length) b;have okp1:=K7 hok7 hLa (o:=⟨6,[],0,c,1,[]⟩) (by simp)
  rw[o1] at p1 p2;have hpl:((W.drop a).take c).length=min c (W.length - a):=by rw[List.length_take,List.length_drop]
  have htn:(c:Int).toNat=c:=by simp
  rw[htn] at p1 p2;rw[p1] at okp1;refine Ek (o:=⟨6,[],0,c,1,[]⟩) hm hA7 hok7 (by omega) (by simp) (by simp) (fun S8 s8 rt8 hS8 hA8=>?_)
  rw[p1] at hA8 ⊢;simp only at hA8 okp1;obtain⟨a',ha'⟩:∃a',a'=a+((W.drop a).take c).length:=⟨_,rfl⟩;rw[←ha'] at hA8 okp1 p2 ⊢;have okp2:=K7 okp1 hLa (o:=⟨6,[],0,1,2,[]⟩) (by simp)
  rw[p2] at okp2;simp[Bb.c];refine Ek (o:=⟨6,[],0,1,2,[]⟩) hm hA8 okp1 (by omega) (by simp) (by simp) (fun S9 s9 rt9 hS9 hA9=>?_)
  rw[p2] at hA9;simp only at hA9 okp2;generalize hb':b+(((Fs l.reverse (pathOf [])).drop b).take 1).length=b' at hA9 okp2
  try simp
  have okp3:=K7 okp2 hLa (o:=⟨8,[],0,0,0,[110,111,110,101]⟩) (by simp)
  refine Ek (o:=⟨8,[],0,0,0,[110,111,110,101]⟩) hm hA9 okp2 (by omega) (by simp) (by simp) (fun S10 s10 rt10 hS10 hA10=>?_)
  rw[o7] at hA10 okp3
  try simp
  have okp4:=K7 okp3 hLa (o:=⟨9,[],0,0,99,[]⟩) (by simp)
  refine Ek (o:=⟨9,[],0,0,99,[]⟩) hm hA10 okp3 (by omega) (by simp) (by simp) (fun S11 s11 rt11 hS11 hA11=>?_)
  rw[iv l N a' b' (by omega)] at hA11 okp4
  have hlm:(W.map fun y:Ent=>[AV.str y.name]).length=W.length:=by simp
  have hes:=kO (L:=W.map fun y:Ent=>[AV.str y.name]) (a:=a) (c:=c) (a':=a') (by rw[ha',List.length_take,List.length_drop,List.length_take,List.length_drop,hlm])
  have haW':a'≤W.length:=by rw[ha',hpl];omega
  have hWl:=(hA7.stk.leads hok7).fine.list path;have hWl2:W.length≤6400000:=by rw[←hW];exact hWl
  obtain⟨q,hqn,hap⟩:=pF (ei:=AG) rfl (S:=S11) (es:=(W.map fun y:Ent=>[AV.str y.name]).take a) (ys:=((W.map fun y:Ent=>[AV.str y.name]).drop a).take c) (r:=r) (r':=rt8.strip) hr7 (by simp[lim];omega)
  rw[hes] at hap;have hcomp:(Bz ∘Ent.name)=fun y:Ent=>[AV.str y.name]:=rfl
  have hmin:min a' W.length=a':=Nat.min_eq_left haW';have hne:¬(W.length:Int) < a':=by omega
  simp[hcomp,hap,hmin]
  by_cases hend:a'=W.length
  ·simp[hend,Gw,eqA]
   try simp (disch:=omega) only[wrap64]
   refine .next hii (a',b',q) (by simp[hend]) ⟨⟨s11,hA11⟩,by rw[show 2+4*(i+1)=2+4*i+1+1+1+1 by omega];exact okp4,hqn,haW'⟩
  ·have hend2:¬(a':Int)=W.length:=by omega
   simp[hend,hend2,hne,show ¬W.length < a' by omega,Gw,eqA]
   try simp (disch:=omega) only[wrap64]
   refine .next hii (a',b',q) (by simp) ⟨⟨s11,hA11⟩,by rw[show 2+4*(i+1)=2+4*i+1+1+1+1 by omega];exact okp4,hqn,haW'⟩
 ·rintro⟨a,b,r⟩ S' v bb ⟨⟨s7,hA7⟩,hok7,hr7,haW⟩ hv N2;simp at hv haW;obtain⟨⟨hv1,hv2⟩,hb1,hb2⟩:=hv;simp[hv1,hv2,hb1,hb2];have hWl2:W.length≤6400000:=by rw[←hW];exact hF.list path
  have:=XL (w0:=w0) (S:=S') (l:=W) (r:=r.strip) (r2:=r5.strip) (k:=a) (by omega) haW (Q:=Q) (hq _)
  simpa using this
end Go.Av
namespace Go.Proofs.YtjkffbaienbmkaaGreatDoor.specPages
open Go.ChangeShapes Go.WideShapes Go.ChangeAt Go.RowKit Go.Av
theorem own:ownKnob Tryz.prog.godebug=none:=by kernel_rfl
theorem EH{H:Type}:∀(l:List (DataW H)),l.length≤Rows.uptoBulkAll l∧∀d∈l,Rows.uptoBulk d≤Rows.uptoBulkAll l
 |[]=>⟨Nat.zero_le _,by simp⟩
 |d::l=>by
  obtain⟨h1,h2⟩:=EH l;have h3:1≤Rows.uptoBulk d:=by
   cases d with
   |lit l=>cases l<;>simp[Rows.uptoBulk]
   |_=>simp[Rows.uptoBulk]
  refine⟨by simp only[Rows.uptoBulkAll,List.length_cons];omega,fun e he=>?_⟩
  simp only[Rows.uptoBulkAll];rcases List.mem_cons.1 he with rfl|he
  ·omega
  ·have:=h2 e he;omega
theorem bdd{H:Type}:Bdd 1048576 (fun d:DataW H=>Rows.uptoBulk d≤1048576) where
 str l h:=by simp only[Rows.uptoBulk] at h;omega
 sl e s h:=by
  simp only[Rows.uptoBulk] at h;obtain⟨h1,h2⟩:=EH e;obtain⟨h3,h4⟩:=EH s;exact⟨by omega,fun d hd=>by have:=h2 d hd;omega,fun d hd=>by have:=h4 d hd;omega⟩
 agg ps h d hd:=by
  simp only[Rows.uptoBulk] at h;have:=(EH ps).2 d hd;omega
set_option maxRecDepth 100000 in
theorem law(w0:World)(hm:KI w0)(xs:List AV)(hl:xs.length=Tryz.f7.params.size)(hx:∀(j:Nat) (t:TypeId) (x:AV),Tryz.f7.params[j]? =some t→xs[j]? =some x→TyV Tryz.prog 1048576 t x):
  AP (En w0) 7 xs [] fun r _=>r= .bool true:=by
 rw[Tryz.params7] at hl hx
 match xs,(show xs.length=3 from hl) with
 |[x0,x1,x2],_=>exact SM w0 hm x0 x1 x2 (hx 0 40 x0 rfl rfl) (hx 1 9 x1 rfl rfl) (hx 2 98 x2 rfl rfl)
def put(h:Array Go.Obj)(g:Nat)(cs:List Value):Array Go.Obj:=h.modify g fun
 | .cells _ t fz=>.cells cs.toArray t fz
 |o=>o
noncomputable def FU(os:Os):World:={World.holding Tryz.prog os ⟨#[],#[],[]⟩ with heap:=(put (put (World.holding Tryz.prog os ⟨#[],#[],[]⟩).heap 5 ([128,191,160,191,128,159,144,191,128,143,0,0,0,0,0,0,0,0,0,0,0,0,0,0,0,0,0,0,0,0,0,0].map fun n:Nat=>Value.int .u8 (n:Int))) 4 (Go.Pinned.utf8FirstZ.map fun n:Nat=>Value.int .u8 (n:Int)))}
theorem Oo(os:Os):laidMet Tryz.prog Rows.specPagesUptoRow.laid ((FU os).forCall (fun _ _=>0) ⟨#[],#[.slice none 0 0,.string .empty,.slice none 0 0],[]⟩).memory:=
 laidMet_of_run' 8 (by kernel_rfl) (by kernel_rfl)
theorem reads(os:Os){H:Type}(enc:TypeId×Value→H):∃places,DataW.whole enc Tryz.prog ((FU os).forCall (fun _ _=>0) ⟨#[],#[.slice none 0 0,.string .empty,.slice none 0 0],[]⟩).memory Tryz.f7.params.toList Rows.specPagesSpec.vars false #[.slice none 0 0,.string .empty,.slice none 0 0].toList 8=some ([.nil,.lit (.string []),.nil],[],places):=
 ⟨[],by kernel_rfl⟩
set_option maxRecDepth 100000 in
theorem lifted(os:Os)(started:os.Started)(H:Type)(enc:TypeId×Value→H)(F:Stop.Interp):
  ReturnsInHanded {} Tryz.checked os 7 .any ((Rows.OpenSpec.upto Rows.specPagesSpec).preRow enc Tryz.prog Tryz.f7 Rows.specPagesUptoRow.domain false Rows.specPagesUptoRow.laid) (((Rows.OpenSpec.upto Rows.specPagesSpec).at F).post enc Tryz.prog Tryz.f7 false true false false):=by
 obtain⟨places,hx⟩:=reads os enc;refine returnsInHanded_of_row (C:=Tryz.checked) (s:=Rows.OpenSpec.upto Rows.specPagesSpec) own started (by kernel_rfl) Tryz.func7
  (witness_row_atRef (enc:=enc) (C:=Tryz.checked) false (FU os) #[.slice none 0 0,.string .empty,.slice none 0 0] rfl (by kernel_rfl) (by kernel_rfl) (by kernel_rfl)
   (OpenSpec.preRow_of_cond 8 hx (by kernel_rfl) (fun k hk=>by cases hk;kernel_rfl) (by kernel_rfl) (Oo os))) ?_
 intro W base args ds gs before hval hW _ hk _ _ hsh _;have hk2:Rows.uptoBulkAll (ds++gs)≤1048576:=of_decide_eq_true (hk _ rfl);exact NR bdd (E:=En W) (fn:=Tryz.f7) (L:=[40,127,3,4,42,9,125,303,98,5]) (tb:=4) (by kernel_rfl) (by kernel_rfl) (by kernel_rfl) rfl Tryz.underlying4 rfl
  (fun ds hd=>by
   match ds,hd with
   |[d0,d1,d2],_=>exact⟨rfl,rfl,rfl⟩) (law W (PG hsh)) hval hW (fun d hd=>Nat.le_trans ((EH (ds++gs)).2 d (List.mem_append_left _ hd)) hk2)
end Go.Proofs.YtjkffbaienbmkaaGreatDoor.specPages
