/- Parts of the proofs of this seat: abstract values over the model, and what the functions of the program do. No condition. -/
import Derived.Test.YtjkffbaienbmkaaGreatDoorD0
import Derived.Test.YtjkffbaienbmkaaGreatDoorX05e
import Derived.Test.YtjkffbaienbmkaaGreatDoorY05e
import Derived.Test.YtjkffbaienbmkaaGreatDoorX08d
import Derived.Test.YtjkffbaienbmkaaGreatDoorY10
import Derived.Lib.ItoaNum
import Derived.Lib.AtoiAllCases
set_option linter.all false
namespace Go.Av
abbrev od(n:Int):Prop:=-9223372036854775808≤n∧n≤9223372036854775807
structure OpN where
 kind:Int
 path:Str
 off:Int
 n:Int
 id:Int
 image:Str
 deriving DecidableEq
def OpN.zero:OpN:=⟨0,[],0,0,0,[]⟩
structure OpN.ok(o:OpN):Prop where
 kind:od o.kind
 off:od o.off
 n:od o.n
 id:od o.id
structure Bb where
 err:Int:=0
 kind:Int:=0
 size:Int:=0
 where_:Int:=0
 id:Int:=0
 text:Str:=[]
 names:List Str:=[]
 end_:Bool:=false
def Bb.c(x:Bb)(r:Rt):List AV:=[.int .i64 x.err,.int .i64 x.kind,.int .i64 x.size,.int .i64 x.where_,.int .i64 x.id,.str x.text,.vs 1 (x.names.map Bz) r,.bool x.end_]
@[simp] theorem Bb.c_len(x:Bb)(r:Rt):(x.c r).length=8:=rfl
def Ai(e:Int):Bb:={err:=e}
def OpN.c(o:OpN):List AV:=[.int .i64 o.kind,.str o.path,.int .i64 o.off,.int .i64 o.n,.int .i64 o.id,.str o.image]
@[simp] theorem OpN.c_len(o:OpN):o.c.length=6:=rfl
def isK(k:Int):Bool:=decide (1≤k)&&decide (k≤4)
def Gr(k:Int):Bool:=decide (k=2)||(decide (k=4)||decide (k=5))
def Oj(o:OpN):Bool:=(decide (o.kind=4)&&(decide (o.off < 0)||decide (o.n < 0)))||(decide (o.kind=6)&&decide (o.n < 1))
def Pt(D:List Node)(ids:Nat→Int)(o:OpN)(w:AtN):Bb:=
 match w.nodes with
 |[]=>
  if o.kind=1 then {kind:=2,where_:=-1}
  else if o.kind=2 then {kind:=2}
  else if o.kind=3 then Ai 1
  else if o.kind=4 then Ai 5
  else Ai 1
 |y::_=>
  if o.kind=1 then {kind:=y.kind,where_:=match MF D w.names with|some k=>ids k|none=>-1}
  else if o.kind=2 then (if y.kind=2 then {kind:=y.kind} else {kind:=y.kind,size:=y.size})
  else if o.kind=3 then (if y.kind=3 then {text:=y.target} else Ai 1)
  else if o.kind=4 then (if y.kind=2 then Ai 5 else {text:=Tt y.size y.exts o.off o.n})
  else Ai 1
def doR(D:List Node)(ids:Nat→Int)(o:OpN):Bb:=
 if isK o.kind=false then Ai 1
 else if Oj o=true then Ai 1
 else if (BP D o.path (Gr o.kind)).err≠0 then Ai (BP D o.path (Gr o.kind)).err
 else Pt D ids o (BP D o.path (Gr o.kind))
open Go.Proofs
theorem iI{w0:World}{S:St}{k:Int}{Q:AV→St→Prop}(hq:Q (.bool (isK k)) S):AC w0 Rc [.int .i64 k] S Q:=by
 apply eX;unfold Xd;have e:isK k=(decide (k≥1)&&decide (k≤4)):=rfl;rw[e] at hq
 by_cases h:k≥1
 ·simp[AH,h] at hq ⊢;exact hq
 ·simp[AH,h] at hq ⊢;exact hq
theorem WT{w0:World}{S:St}{k:Int}{Q:AV→St→Prop}(hq:Q (.bool (Gr k)) S):AC w0 Jg [.int .i64 k] S Q:=by
 apply U0;unfold OK;unfold Gr at hq
 by_cases h:k=2
 ·subst h;simp[AH];simpa using hq
 ·by_cases h4:k=4
  ·subst h4;simp[AH];simpa using hq
  ·have b2:(k==2)=false:=by simpa using h
   have b4:(k==4)=false:=by simpa using h4
   have b5:(k==5)=decide (k=5):=rfl;simp[AH,b2,b4,b5];simp[h,h4] at hq;exact hq
theorem D9{w0:World}{S:St}{e:Int}{Q:AV→St→Prop}(hq:Q (.agg ((Ai e).c .nil)) S):AC w0 E9 [.int .i64 e] S Q:=by
 apply YR;unfold QS;exact hq
theorem Qd{w0:World}{S:St}{o:OpN}{Q:AV→St→Prop}(hq:Q (.int .i64 (if Oj o=true then 1 else 0)) S):AC w0 JE [.agg o.c] S Q:=by
 unfold OpN.c;apply X6;unfold Qt;unfold Oj at hq;simp
 by_cases h4:o.kind=4
 ·have h6:¬o.kind=6:=by omega
  simp[h4,h6] at hq ⊢
  by_cases h:o.off < 0
  ·simp[AH,h] at hq ⊢;exact hq
  ·by_cases h2:o.n < 0
   ·simp[AH,h,h2] at hq ⊢;exact hq
   ·simp[AH,h,h2] at hq ⊢;exact hq
 ·by_cases h6:o.kind=6
  ·simp[h4,h6] at hq ⊢
   by_cases h:o.n < 1
   ·simp[AH,h] at hq ⊢;exact hq
   ·simp[AH,h] at hq ⊢;exact hq
  ·simp[AH,h4,h6] at hq ⊢;exact hq
theorem Ends.empty{L:List (List CU)}{D:List Node}{want:AtN}{t:Fnd}(h:Ends L D want t)(hn:want.nodes=[]):D=[]:=by
 have hf:=h.facts;rw[hn] at hf;obtain⟨he,ds,names,hw,hc⟩:=h;rcases hc with ⟨h1,h2,h3⟩|⟨s,y,l,hs,h1,h2,h3,h4,h5⟩
 ·have h0:=hf.2;rw[h1] at h0;rw[hn,h0] at h2;cases D with
  |nil=>rfl
  |cons n l=>simp[Dc,Dm] at h2
 ·rw[hn] at h4;cases h4
structure di(S:St)(s:Stk)(D:List Node)(ids:Nat→Int):Prop where
 leads:Leads S s D
 tabs:s.tabs=D.map fun n=>n.tab 0
 ids:∀k m,s.l[k]? =some m→ids k=(m.num:Int)
theorem di.mono{S S':St}{s:Stk}{D:List Node}{ids:Nat→Int}(h:di S s D ids)(k:Sx S S'):di S' s D ids:=⟨h.leads.mono k,h.tabs,h.ids⟩
set_option maxRecDepth 100000 in
theorem X1{w0:World}{S:St}{s:Stk}{D:List Node}{ids:Nat→Int}{want:AtN}{t:Fnd}{rt:Rt}{o:OpN}{p:Str}(hL:di S s D ids)(hE:Ends s.tabs D want t){Q:AV→St→Prop}
  (hq:∀S',Sx S S'→Q (.agg ((Pt D ids o want).c .nil)) S'):AC w0 Ks [.agg s.c,.agg o.c,.agg (.str p::t.c rt)] S Q:=by
 have hc:s.c=[.vs 2 (s.l.map Mnt.c) s.r.strip,.int .i64 s.next]:=rfl;have hf:=hE.facts;have hlv:=hE;rw[hL.tabs] at hlv;rw[hc];unfold OpN.c;apply WD;unfold Oe;simp[←hc];unfold Pt at hq;cases hn:want.nodes with
 |nil=>
  rw[hn] at hf hq;obtain⟨rfl,h2⟩:=hf;have hD:=hE.empty hn;have hsl:s.l=[]:=by
   have:=hL.tabs;rw[hD] at this;unfold Stk.tabs at this;simpa using this
  have hat:s.at_ ((0:Nat):Int)=none:=by simp[Stk.at_,hsl]
  refine HL ?_;rw[hat];simp only at hq
  by_cases k1:o.kind=1
  ·simp[k1,AH] at hq ⊢;simpa[Bb.c] using hq S (Sx.refl _)
  by_cases k2:o.kind=2
  ·simp[k2,AH] at hq ⊢;simpa[Bb.c] using hq S (Sx.refl _)
  by_cases k3:o.kind=3
  ·simp[k3,AH] at hq ⊢;refine D9 ?_;simp[Bb.c,Ai];simpa[Bb.c,Ai] using hq S (Sx.refl _)
  by_cases k4:o.kind=4
  ·simp[k4,AH] at hq ⊢;refine D9 ?_;simp[Bb.c,Ai];simpa[Bb.c,Ai] using hq S (Sx.refl _)
  ·simp[k1,k2,k3,k4,AH] at hq ⊢;refine D9 ?_;simp[Bb.c,Ai];simpa[Bb.c,Ai] using hq S (Sx.refl _)
 |cons y l=>
  have hlev:=hlv.level (by rw[hn];simp)
  rw[hn] at hf hq;obtain⟨h1,h2,h3,h4,h5⟩:=hf;obtain⟨m,a1,a2,a3,a4⟩:=h2.at_;have hB:=hL.leads.on m a2;have hsz:(Bq m.tab (t.sp.2:Int)).size=y.size:=by rw[a3];rfl
  have htg:(Bq m.tab (t.sp.2:Int)).target=y.target:=by rw[a3];rfl
  have hex:(Bq m.tab (t.sp.2:Int)).exts=y.exts:=by rw[a3];rfl
  have hfit:q8 (Bq m.tab (t.sp.2:Int)):=by rw[a3];exact dK h3 h4 _
  have hid:ids t.sp.1=(m.num:Int):=by
   refine hL.ids t.sp.1 m ?_;have:=a1;unfold Stk.at_ at this;rw[if_neg (by omega)] at this
   simpa using this
  simp only[hlev,hid] at hq;refine HL ?_;rw[a1];simp[h1]
  by_cases k1:o.kind=1
  ·simp[k1,AH] at hq ⊢;refine gC ?_;rw[a1];simp;simpa[Bb.c] using hq S (Sx.refl _)
  by_cases k2:o.kind=2
  ·by_cases y2:y.kind=2
   ·simp[k2,y2,AH] at hq ⊢;simpa[Bb.c] using hq S (Sx.refl _)
   ·simp[k2,y2,AH] at hq ⊢;refine Yn hB ?_;rw[hsz];simp;simpa[Bb.c] using hq S (Sx.refl _)
  by_cases k3:o.kind=3
  ·by_cases y3:y.kind=3
   ·simp[k3,y3,AH] at hq ⊢;refine OI hB ?_;rw[htg];simp;simpa[Bb.c] using hq S (Sx.refl _)
   ·simp[k3,y3,AH] at hq ⊢;refine D9 ?_;simp[Bb.c,Ai];simpa[Bb.c,Ai] using hq S (Sx.refl _)
  by_cases k4:o.kind=4
  ·by_cases y2:y.kind=2
   ·simp[k4,y2,AH] at hq ⊢;refine D9 ?_;simp[Bb.c,Ai];simpa[Bb.c,Ai] using hq S (Sx.refl _)
   ·simp[k4,y2,AH] at hq ⊢;refine Y1 hB hfit (fun S2 hS2=>?_)
    rw[hsz,hex];simp;simpa[Bb.c] using hq S2 hS2
  ·simp[k1,k2,k3,k4,AH] at hq ⊢;refine D9 ?_;simp[Bb.c,Ai];simpa[Bb.c,Ai] using hq S (Sx.refl _)
set_option maxRecDepth 100000 in
theorem iU{w0:World}(hm:KI w0){S:St}{s:Stk}{D:List Node}{ids:Nat→Int}{o:OpN}(hL:di S s D ids)(hp:o.path.length≤1048576){Q:AV→St→Prop}
  (hq:∀S',Sx S S'→Q (.agg ((doR D ids o).c .nil)) S'):AC w0 RD [.agg s.c,.agg o.c] S Q:=by
 have hc:s.c=[.vs 2 (s.l.map Mnt.c) s.r.strip,.int .i64 s.next]:=rfl;have ho:o.c=[.int .i64 o.kind,.str o.path,.int .i64 o.off,.int .i64 o.n,.int .i64 o.id,.str o.image]:=rfl;rw[hc,ho];apply dq;unfold XH;unfold doR at hq;simp[←hc,←ho];refine iI ?_
 by_cases h1:isK o.kind=false
 ·rw[if_pos h1] at hq;rw[h1];simp;refine D9 ?_;simp[Bb.c,Ai];simpa[Bb.c,Ai] using hq S (Sx.refl _)
 ·rw[if_neg h1] at hq;have h1':isK o.kind=true:=by simpa using h1
  rw[h1'];simp;refine Qd ?_
  by_cases h2:Oj o=true
  ·rw[if_pos h2] at hq ⊢;simp;refine D9 ?_;simp[Bb.c,Ai];simpa[Bb.c,Ai] using hq S (Sx.refl _)
  ·rw[if_neg h2] at hq ⊢;simp;refine WT ?_;simp;refine Vv hm hL.leads hp (fun S2 hS2=>⟨fun he=>?_,fun he t r hE=>?_⟩)
   ·rw[if_pos he] at hq;simp[Fnd.c,Fnd.none,he];refine D9 ?_;simp[Bb.c,Ai];simpa[Bb.c,Ai] using hq S2 hS2
   ·rw[if_neg (by rw[he];simp)] at hq
    simp[Fnd.c];refine X1 (t:=t) (rt:=r.strip) (hL.mono hS2) hE (fun S3 hS3=>?_)
    simp[Bb.c];simpa[Bb.c] using hq S3 (hS2.trans hS3)
open Go.Proofs
theorem ey:∀(a b:List Str) (n:Node),atP n a=none→atP n (a++b)=none
 |[],b,n,h=>by simp[atP] at h
 |s::a,b,n,h=>by
  rw[List.cons_append,atP] at*;split
  ·rename_i k;rw[if_pos k] at h;cases hx:n.find s with
   |none=>rfl
   |some x=>
    rw[hx] at h;simp only at h ⊢;exact ey a b x h
  ·rfl
theorem eh{D:List Node}{names:List Str}{i:Nat}{n:Node}(hi:D[i]? =some n)(hn:(atP n names).isSome=true)(hb:∀j m,j < i→D[j]? =some m→atP m names=none):MF D names=some i:=by
 have hlt:=(List.getElem?_eq_some_iff.1 hi).1;rw[MF,List.findIdx?_eq_some_iff_getElem];refine⟨hlt,by rw[(List.getElem?_eq_some_iff.1 hi).2];exact hn,fun j hj=>?_⟩
 have:=hb j D[j] hj (List.getElem?_eq_getElem (by omega))
 rw[this];simp
theorem ek{D:List Node}{names:List Str}(hb:∀(j:Nat) m,D[j]? =some m→atP m names=none):MF D names=none:=by
 rw[MF,List.findIdx?_eq_none_iff];intro x hx;obtain⟨j,hj⟩:=List.getElem?_of_mem hx;rw[hb j x hj];rfl
set_option maxRecDepth 100000 in
theorem Qo{w0:World}{S:St}{D:List Node}{dr nr:Rt}{names:List Str}(hD:∀n∈D,n.ok∧n.allB=true)(hl:D.length≤1000000)(hn:names.length≤1000000){Q:AV→St→Prop}
  (hq:Q (.int .i64 (match MF D names with|some k=>(k:Int)|none=>-1)) S):AC w0 L3 [.vs 7 (D.map Node.c) dr,.vs 1 (names.map Bz) nr] S Q:=by
 apply Xo;unfold Qz;rw[AH];simp;refine Al D (fun i (_:Unit)=>([.int .i64 i],[])) (fun i _ S'=>S'=S∧∀j m,j < i→D[j]? =some m→atP m names=none) () rfl ⟨rfl,fun j m h=>by omega⟩ ?_ ?_
 ·rintro i _ S' v b n c hxi hd hc hmem ⟨rfl,hb⟩ hv;simp at hv;have hnz:∀m:Node,m.c.length=7:=fun m=>by rw[Node.c_eq];rfl
  simp[hv,hc,hxi];rw[AH];refine CN (fun j=>j (.bool (atP n names).isSome) S') ?_ (fun j4 hj4=>?_)
  ·cases hs:(atP n names).isSome with
   |true=>
    rw[eh hxi hs hb] at hq;simp;exact hq
   |false=>
    have hno:atP n names=none:=by simpa using hs
    simp
    try simp (disch:=omega) only[wrap64]
    refine .next c () rfl ⟨rfl,fun j m hj hm=>?_⟩
    by_cases e:j=i
    ·subst e;rw[hxi] at hm;cases hm;exact hno
    ·exact hb j m (by omega) hm
  ·refine De (fun σ:Nat×Bool×Node=>([.bool σ.2.1,.int .i64 σ.1],[some σ.2.2.c])) (fun k σ S2=>S2=S'∧σ.1≤names.length∧k=names.length - σ.1∧(σ.2.1=true→atP n (names.take σ.1)=some σ.2.2∧σ.2.2.ok∧σ.2.2.allB=true)∧(σ.2.1=false→atP n names=none)) names.length (0,true,n) ?_
    ⟨rfl,Nat.zero_le _,rfl,fun _=>⟨rfl,hD n hmem⟩,fun e=>by cases e⟩ ?_
   ·simp
   ·rintro k ⟨i2,ok,m⟩ S2 v2 b2 ⟨rfl,h1,h2,h3,h4⟩ hv2;simp at hv2 h1 h2 h3 h4;obtain⟨⟨w1,w2⟩,w3⟩:=hv2;have c0:m.c[0]? =some (.int .i64 m.kind):=by rw[Node.c_eq];rfl
    have c3:m.c[3]? =some (.vs 7 (m.items.map Node.c) m.ir.strip):=by rw[Node.c_eq];rfl
    have c7:m.c.take 7=m.c:=by rw[List.take_of_length_le];rw[Node.c_eq];exact Nat.le_refl _
    have cl:m.c.length=7:=by rw[Node.c_eq];rfl
    by_cases hi2:i2 < names.length
    case neg=>
     have e:i2=names.length:=by omega
     subst e;rw[List.take_length] at h3;have hok:ok=(atP n names).isSome:=by
      cases ok with
      |true=>rw[(h3 rfl).1];rfl
      |false=>rw[h4 rfl];rfl
     rw[←hok] at hj4;simp[w1,w2,AH];exact hj4
    have hi2':(i2:Int) < names.length:=by omega
    cases ok with
    |false=>
     rw[h4 rfl] at hj4;simp[w1,w2,AH,hi2'];exact hj4
    |true=>
     obtain⟨h31,h32,h33⟩:=h3 rfl;obtain⟨s,hs⟩:∃s,names[i2]? =some s:=⟨_,List.getElem?_eq_getElem hi2⟩;have htk:names.take (i2+1)=names.take i2++[s]:=by rw[List.take_succ,hs];rfl
     have hat:=SU (names.take i2) n s;rw[←htk,h31] at hat;simp only at hat;have hnone:atP n (names.take (i2+1))=none→atP n names=none:=fun h=>by
      have:=ey _ (names.drop (i2+1)) n h
      rwa [List.take_append_drop] at this
     simp[w1,w2,w3,hi2',hs,c0,c3,c7,cl];rw[AH];refine UJ h32 ?_;have hfi:=fA h33 s
     by_cases k2:m.kind=2
     case neg=>
      rw[if_neg k2] at hat;simp[k2,AH]
      try simp (disch:=omega) only[wrap64]
      exact⟨names.length - (i2+1),(i2+1,false,m),by omega,by simp,rfl,hi2,rfl,fun e=>(by cases e),fun _=>hnone hat⟩
     rw[if_pos k2] at hat;cases hk:m.names.l.findIdx? (fun x=>decide (x=s)) with
     |none=>
      rw[hk] at hfi;simp only at hfi;rw[hfi] at hat;simp[k2,AH]
      try simp (disch:=omega) only[wrap64]
      exact⟨names.length - (i2+1),(i2+1,false,m),by omega,by simp,rfl,hi2,rfl,fun e=>(by cases e),fun _=>hnone hat⟩
     |some q=>
      rw[hk] at hfi;obtain⟨x,hx1,hx2⟩:=hfi;rw[hx1] at hat;have hxm:=List.mem_of_getElem? hx2;have hxl:x.c.length=7:=by rw[Node.c_eq];rfl
      simp[k2,AH,hx2,hxl]
      try simp (disch:=omega) only[wrap64]
      exact⟨names.length - (i2+1),(i2+1,true,x),by omega,by simp,rfl,hi2,rfl,fun _=>⟨hat,N6 h32 hxm,Ml h33 hxm⟩,fun e=>(by cases e)⟩
 ·rintro _ S' v b ⟨rfl,hb⟩ hv N;simp at hv;rw[ek (fun j m hm=>hb j m (List.getElem?_eq_some_iff.1 hm).1 hm)] at hq
  simp[hv];exact hq
set_option maxRecDepth 100000 in
theorem NU{w0:World}{S:St}{a:Bb}{r1 r2:Rt}{Q:AV→St→Prop}(hl:a.names.length≤1000000)(hq:Q (.bool true) S):AC w0 Hm [.agg (a.c r1),.agg (a.c r2)] S Q:=by
 unfold Bb.c;apply Yl;unfold Tu;simp
 try rw[AH]
 try simp
 refine Al a.names (fun i (_:Unit)=>([.int .i64 i],[some (a.c r1),some (a.c r2)])) (fun i _ S'=>S'=S) () (by simp[Bb.c]) rfl ?_ ?_
 ·rintro i _ S' v b s c hxi hd hc hmem rfl hv;simp at hv;obtain⟨hv1,hv2,hv3⟩:=hv;simp[hv1,hv2,hv3,hc,hxi,Bb.c]
  try simp (disch:=omega) only[wrap64]
  exact .next c () (by simp[Bb.c]) rfl
 ·rintro _ S' v b rfl hv N;simp at hv;obtain⟨hv1,hv2,hv3⟩:=hv;simp[hv1,hv2,hv3,Bb.c];exact hq
theorem Ei{w0:World}{S:St}{e:Int}{Q:AV→St→Prop}(hq:Q (.agg ((Ai e).c .nil)) S):AC w0 Fy [.int .i64 e] S Q:=by
 apply X4;unfold Q0;exact hq
set_option maxRecDepth 100000 in
theorem gL{w0:World}{S:St}{D:List Node}{dr ir:Rt}{ids:List Int}{o:OpN}{s:Stk}(hL:Leads S s D)(hT:s.tabs=D.map fun n=>n.tab 0)(hD:Docs D)(hall:∀n∈D,n.ok∧n.allB=true)(hi:ids.length=D.length)(hp:o.path.length≤1048576)(hoff:o.off≤9223372036854775807){Q:AV→St→Prop}
  (hex:(BP D o.path (Gr o.kind)).err=0→∃t,Ends s.tabs D (BP D o.path (Gr o.kind)) t)
  (hq:Q (.agg ((doR D (fun k=>(ids[k]?).getD 0) o).c .nil)) S):AC w0 RC [.vs 7 (D.map Node.c) dr,.vs 1 (ids.map fun i=>[.int .i64 i]) ir,.agg o.c] S Q:=by
 have ho:o.c=[.int .i64 o.kind,.str o.path,.int .i64 o.off,.int .i64 o.n,.int .i64 o.id,.str o.image]:=rfl;rw[ho];apply fC;unfold YJ;unfold doR isK at hq;simp
 by_cases h1:o.kind < 1
 ·have e:(decide (1≤o.kind)&&decide (o.kind≤4))=false:=by
   have:¬1≤o.kind:=by omega
   simp[this]
  rw[if_pos e] at hq;simp[h1];refine Ei ?_;simp[Bb.c,Ai];simpa[Bb.c,Ai] using hq
 by_cases h2:4 < o.kind
 ·have e:(decide (1≤o.kind)&&decide (o.kind≤4))=false:=by
   have:¬o.kind≤4:=by omega
   simp[this]
  rw[if_pos e] at hq;simp[h1,h2];refine Ei ?_;simp[Bb.c,Ai];simpa[Bb.c,Ai] using hq
 have e:(decide (1≤o.kind)&&decide (o.kind≤4))=true:=by
  have a:1≤o.kind:=by omega
  have b:o.kind≤4:=by omega
  simp[a,b]
 rw[if_neg (by rw[e];simp)] at hq
 have h6:¬o.kind=6:=by omega
 simp[h1,h2]
 by_cases hb:Oj o=true
 ·rw[if_pos hb] at hq;have hb2:o.kind=4∧(o.off < 0∨o.n < 0):=by
   unfold Oj at hb;simpa[h6] using hb
  have hd:(decide (o.off < 0)||decide (o.n < 0))=true:=by simpa using hb2.2
  simp[hb2.1,hd];refine Ei ?_;simp[Bb.c,Ai];simpa[Bb.c,Ai] using hq
 rw[if_neg hb] at hq;have hnb:(decide (o.kind=4)&&(decide (o.off < 0)||decide (o.n < 0)))=false:=by
  unfold Oj at hb;simpa[h6] using hb
 have hfo:(decide (o.kind=2)||decide (o.kind=4))=Gr o.kind:=by
  have:¬o.kind=5:=by omega
  simp[Gr,this]
 simp[hnb,hfo];refine SG hD hp (fun r1 r2=>?_)
 generalize BP D o.path (Gr o.kind)=want at hq hex
 by_cases he:want.err≠0
 ·rw[if_pos he] at hq;simp[he];refine Ei ?_;simp[Bb.c,Ai];simpa[Bb.c,Ai] using hq
 have he0:want.err=0:=by simpa using he
 rw[if_neg he] at hq;obtain⟨t,hE⟩:=hex he0;have hf:=hE.facts;obtain⟨hs1,hs2⟩:=hE.short;simp[he0];unfold Pt at hq;have hDl:D.length≤1000000:=hD.len;cases hn:want.nodes with
 |nil=>
  rw[hn] at hq;have hD0:=hE.empty hn;have hlv:MF D want.names=none:=by rw[hD0];rfl
  simp
  try rw[AH]
  simp only at hq
  by_cases k1:o.kind=1
  ·simp[k1] at hq ⊢;refine Qo hall hDl (by omega) ?_
   rw[hlv];simp;simpa[Bb.c] using hq
  by_cases k2:o.kind=2
  ·simp[k2] at hq ⊢;simpa[Bb.c] using hq
  by_cases k3:o.kind=3
  ·simp[k3] at hq ⊢;refine Ei ?_;simp[Bb.c,Ai];simpa[Bb.c,Ai] using hq
  have k4:o.kind=4:=by omega
  simp[k4] at hq ⊢;refine Ei ?_;simp[Bb.c,Ai];simpa[Bb.c,Ai] using hq
 |cons y l=>
  rw[hn] at hq hf;obtain⟨f1,f2,f3,f4,f5⟩:=hf;have hlv0:=hE;rw[hT] at hlv0;have hlv:=hlv0.level (by rw[hn];simp)
  have hlt:t.sp.1 < ids.length:=by
   obtain⟨P,q1,_⟩:=f2;have:=(List.getElem?_eq_some_iff.1 q1).1;rw[hT] at this;simp at this;omega
  obtain⟨idv,hidv⟩:∃x,ids[t.sp.1]? =some x:=⟨_,List.getElem?_eq_getElem hlt⟩;simp only[hlv,hidv,Option.getD_some] at hq;have c0:y.c[0]? =some (.int .i64 y.kind):=by rw[Node.c_eq];rfl
  have c4:y.c[4]? =some (.int .i64 y.size):=by rw[Node.c_eq];rfl
  have c5:y.c[5]? =some (.vs 2 (y.exts.map Ext.c) y.er.strip):=by rw[Node.c_eq];rfl
  have c6:y.c[6]? =some (.str y.target):=by rw[Node.c_eq];rfl
  have cl:y.c.length=7:=by rw[Node.c_eq];rfl
  simp[c0,c4,cl]
  try rw[AH]
  by_cases k1:o.kind=1
  ·simp[k1] at hq ⊢;refine Qo hall hDl (by omega) ?_
   rw[hlv];have:¬((t.sp.1:Int) < 0):=by omega
   simp[this,hidv];simpa[Bb.c] using hq
  by_cases k2:o.kind=2
  ·have hq2:Q (.agg (({kind:=y.kind,size:=y.size}:Bb).c .nil)) S:=by
    simp[k2] at hq
    by_cases y2:y.kind=2
    ·have hz0:y.size=0:=by
      rw[Node.all_eq] at f4;simp only[Bool.and_eq_true] at f4;obtain⟨hz,_⟩:=F0 f4.2;simp[Dt,y2] at hz;exact hz.1.1
     simpa[y2,hz0] using hq
    ·simpa[y2] using hq
   simp[k2];simpa[Bb.c] using hq2
  by_cases k3:o.kind=3
  ·by_cases y3:y.kind=3
   ·simp[k3,y3,c6] at hq ⊢;simpa[Bb.c] using hq
   ·simp[k3,y3] at hq ⊢;refine Ei ?_;simp[Bb.c,Ai];simpa[Bb.c,Ai] using hq
  have k4:o.kind=4:=by omega
  by_cases y2:y.kind=2
  ·simp[k4,y2] at hq ⊢;refine Ei ?_;simp[Bb.c,Ai];simpa[Bb.c,Ai] using hq
  ·simp[k4,y2,c4,c5] at hq ⊢;have hfit:=dK f3 f4 0;obtain⟨g1,g2,g3,g4⟩:=hfit;have hrd:W7 y.size y.exts o.off o.n=Tt y.size y.exts o.off o.n:=by
    rw[Node.all_eq] at f4;simp only[Bool.and_eq_true] at f4;obtain⟨hz,hk⟩:=F0 f4.2
    by_cases kk:y.kind=1
    ·exact(dx (by simpa[Dq,kk] using hk)).symm
    ·simp[Dt,kk] at hz;have q1:y.size=0:=hz.1.2.1;have q2:y.exts=[]:=hz.1.2.2;rw[q1,q2];exact(dx (by decide)).symm
   refine bg g3 (Nat.le_trans g4 (by decide)) ⟨g1,g2⟩ hoff ?_
   rw[hrd];simp;simpa[Bb.c] using hq
theorem Going.ends{L:List (List CU)}{D:List Node}{want:AtN}:∀(n:Nat) {w:Wk} {h:Nat} {names:List Str},Going L D want w h names→w.todo.length+129*h≤n→want.err=0→∃t,Ends L D want t:=by
 intro n
 induction n with
 |zero=>
  intro w h names g hn he;have:w.todo=[]:=List.eq_nil_of_length_eq_zero (by omega)
  obtain⟨d,_,_,h3⟩:=g.end this;exact⟨_,h3⟩
 |succ n ih=>
  intro w h names g hn he;obtain⟨names',g'⟩:=g.pop;have hhd:w.pop.todo.head?≠some dd:=RG _ _;have hpl:w.pop.todo.length≤w.todo.length:=UZ _ _;generalize w.pop=w1 at g' hhd hpl;cases ht:w1.todo with
  |nil=>
   obtain⟨d,_,_,h3⟩:=g'.end ht;exact⟨_,h3⟩
  |cons s rest=>
   have hnd:s≠dd:=fun e=>hhd (by rw[ht,e];rfl)
   have hll:w1.todo.length=rest.length+1:=by rw[ht];rfl
   obtain⟨d,k1,k2,k3,k4,k5⟩:=g'.step (fr:=.none) (target:=match Dn (Dc D names') s with|y::_=>y.target|[]=>[]) ht hnd rfl (fun _ y l e=>by rw[e])
   generalize w1.tell (pathOf names') s rest (D7 L s (Er L names') Fnd.none) .none (decide ((D7 L s (Er L names') Fnd.none).kind≠0)) _=te at k5;obtain⟨w2,e⟩:=te;simp only at k5;obtain⟨k6,k7⟩:=k5
   by_cases e0:e=0
   ·rcases k7 e0 with ⟨h',nm2,g2,hc⟩|⟨gg,c1,c2,c3,c4⟩
    ·refine ih g2 ?_ he;rcases hc with ⟨c1,c2⟩|⟨c1,pp,c2,c3⟩
     ·rw[c1,c2];omega
     ·rw[c3,List.length_append];omega
    ·exact⟨gg,c2⟩
   ·exact absurd he (by rw[k6 e0];exact e0)
theorem Leads.ends{S:St}{s:Stk}{D:List Node}(hL:Leads S s D){path:Str}{fl:Bool}(he:(BP D path fl).err=0):∃t,Ends s.tabs D (BP D path fl) t:=by
 unfold BP at he ⊢;cases hsp:DP path with
 |none=>rw[hsp] at he;cases he
 |some l=>
  rw[hsp] at he;exact Going.ends (l.length+129*40) (w:=⟨l,[⟨[47],IZ s.tabs 0,.none⟩],fl,0,none⟩) (h:=40) (names:=[]) ⟨hL.start _,rfl,fun x hx=>Ry hsp x hx,rfl,rfl⟩ (Nat.le_refl _) he
end Go.Av
