/- Parts of the proofs of this seat: abstract values over the model, and what the functions of the program do. No condition. -/
import Derived.Test.YtehadbpejfjheaaGreatDoorD0
import Derived.Test.YtehadbpejfjheaaGreatDoorY12
import Derived.Test.YtehadbpejfjheaaGreatDoorY06
import Derived.Test.YtehadbpejfjheaaGreatDoorX08d
import Derived.Test.YtehadbpejfjheaaGreatDoorY10
import Derived.Lib.ItoaNum
import Derived.Lib.AtoiAllCases
set_option linter.all false
set_option maxRecDepth 100000
namespace Go.Av
abbrev Z4(n:Int):Prop:=-9223372036854775808≤n∧n≤9223372036854775807
structure OpN where
 kind:Int
 path:Str
 off:Int
 n:Int
 id:Int
 image:Str
 deriving DecidableEq
def OpN.zero:OpN:=⟨0,[],0,0,0,[]⟩
structure OpN.ok(o:OpN):Prop where
 kind:Z4 o.kind
 off:Z4 o.off
 n:Z4 o.n
 id:Z4 o.id
structure Da where
 err:Int:=0
 kind:Int:=0
 size:Int:=0
 where_:Int:=0
 id:Int:=0
 text:Str:=[]
 names:List Str:=[]
 end_:Bool:=false
def Da.c(x:Da)(r:Rt):List AV:=[.int .i64 x.err,.int .i64 x.kind,.int .i64 x.size,.int .i64 x.where_,.int .i64 x.id,.str x.text,.vs 1 (x.names.map EH) r,.bool x.end_]
@[simp] theorem Da.c_len(x:Da)(r:Rt):(x.c r).length=8:=rfl
def CP(e:Int):Da:={err:=e}
def OpN.c(o:OpN):List AV:=[.int .i64 o.kind,.str o.path,.int .i64 o.off,.int .i64 o.n,.int .i64 o.id,.str o.image]
@[simp] theorem OpN.c_len(o:OpN):o.c.length=6:=rfl
def isK(k:Int):Bool:=decide (1≤k)&&decide (k≤4)
def Fk(k:Int):Bool:=decide (k=2)||(decide (k=4)||decide (k=5))
def Ml(o:OpN):Bool:=(decide (o.kind=4)&&(decide (o.off < 0)||decide (o.n < 0)))||(decide (o.kind=6)&&decide (o.n < 1))
def Kv(D:List Node)(ids:Nat→Int)(o:OpN)(w:AtN):Da:=
 match w.nodes with
 |[]=>
  if o.kind=1 then {kind:=2,where_:=-1}
  else if o.kind=2 then {kind:=2}
  else if o.kind=3 then CP 1
  else if o.kind=4 then CP 5
  else CP 1
 |y::_=>
  if o.kind=1 then {kind:=y.kind,where_:=match Si D w.names with|some k=>ids k|none=>-1}
  else if o.kind=2 then (if y.kind=2 then {kind:=y.kind} else {kind:=y.kind,size:=y.size})
  else if o.kind=3 then (if y.kind=3 then {text:=y.target} else CP 1)
  else if o.kind=4 then (if y.kind=2 then CP 5 else {text:=P6 y.size y.exts o.off o.n})
  else CP 1
def doR(D:List Node)(ids:Nat→Int)(o:OpN):Da:=
 if isK o.kind=false then CP 1
 else if Ml o=true then CP 1
 else if (Hg D o.path (Fk o.kind)).err≠0 then CP (Hg D o.path (Fk o.kind)).err
 else Kv D ids o (Hg D o.path (Fk o.kind))
open Go.Proofs
theorem JQ{w0:World}{S:St}{k:Int}{Q:AV→St→Prop}(hq:Q (.bool (isK k)) S):AC w0 Hu [.int .i64 k] S Q:=by
 apply T6;unfold QA;have e:isK k=(decide (k≥1)&&decide (k≤4)):=rfl;rw[e] at hq
 by_cases h:k≥1
 ·simp[AG,h] at hq ⊢;exact hq
 ·simp[AG,h] at hq ⊢;exact hq
theorem G6{w0:World}{S:St}{k:Int}{Q:AV→St→Prop}(hq:Q (.bool (Fk k)) S):AC w0 EB [.int .i64 k] S Q:=by
 apply Na;unfold Jb;unfold Fk at hq
 by_cases h:k=2
 ·subst h;simp[AG];simpa using hq
 ·by_cases h4:k=4
  ·subst h4;simp[AG];simpa using hq
  ·have b2:(k==2)=false:=by simpa using h
   have b4:(k==4)=false:=by simpa using h4
   have b5:(k==5)=decide (k=5):=rfl;simp[AG,b2,b4,b5];simp[h,h4] at hq;exact hq
theorem Cn{w0:World}{S:St}{e:Int}{Q:AV→St→Prop}(hq:Q (.agg ((CP e).c .nil)) S):AC w0 Dc [.int .i64 e] S Q:=by
 apply P8;unfold LL;exact hq
theorem IW{w0:World}{S:St}{o:OpN}{Q:AV→St→Prop}(hq:Q (.int .i64 (if Ml o=true then 1 else 0)) S):AC w0 Er [.agg o.c] S Q:=by
 unfold OpN.c;apply PL;unfold LZ;unfold Ml at hq;simp
 by_cases h4:o.kind=4
 ·have h6:¬o.kind=6:=by omega
  simp[h4,h6] at hq ⊢
  by_cases h:o.off < 0
  ·simp[AG,h] at hq ⊢;exact hq
  ·by_cases h2:o.n < 0
   ·simp[AG,h,h2] at hq ⊢;exact hq
   ·simp[AG,h,h2] at hq ⊢;exact hq
 ·by_cases h6:o.kind=6
  ·simp[h4,h6] at hq ⊢
   by_cases h:o.n < 1
   ·simp[AG,h] at hq ⊢;exact hq
   ·simp[AG,h] at hq ⊢;exact hq
  ·simp[AG,h4,h6] at hq ⊢;exact hq
theorem Ends.empty{L:List (List Bk)}{D:List Node}{want:AtN}{t:Fnd}(h:Ends L D want t)(hn:want.nodes=[]):D=[]:=by
 have hf:=h.facts;rw[hn] at hf;obtain⟨he,ds,names,hw,hc⟩:=h;rcases hc with ⟨h1,h2,h3⟩|⟨s,y,l,hs,h1,h2,h3,h4,h5⟩
 ·have h0:=hf.2;rw[h1] at h0;rw[hn,h0] at h2;cases D with
  |nil=>rfl
  |cons n l=>simp[DQ,D5] at h2
 ·rw[hn] at h4;cases h4
structure Sb(S:St)(s:Stk)(D:List Node)(ids:Nat→Int):Prop where
 leads:Leads S s D
 tabs:s.tabs=D.map fun n=>n.tab 0
 ids:∀k m,s.l[k]? =some m→ids k=(m.num:Int)
theorem Sb.mono{S S':St}{s:Stk}{D:List Node}{ids:Nat→Int}(h:Sb S s D ids)(k:Sx S S'):Sb S' s D ids:=⟨h.leads.mono k,h.tabs,h.ids⟩
theorem J6{w0:World}{S:St}{s:Stk}{D:List Node}{ids:Nat→Int}{want:AtN}{t:Fnd}{rt:Rt}{o:OpN}{p:Str}(hL:Sb S s D ids)(hE:Ends s.tabs D want t){Q:AV→St→Prop}
  (hq:∀S',Sx S S'→Q (.agg ((Kv D ids o want).c .nil)) S'):AC w0 Fc [.agg s.c,.agg o.c,.agg (.str p::t.c rt)] S Q:=by
 have hc:s.c=[.vs 2 (s.l.map Mnt.c) s.r.strip,.int .i64 s.next]:=rfl;have hf:=hE.facts;have hlv:=hE;rw[hL.tabs] at hlv;rw[hc];unfold OpN.c;apply Oh;unfold KQ;simp[←hc];unfold Kv at hq;cases hn:want.nodes with
 |nil=>
  rw[hn] at hf hq;obtain⟨rfl,h2⟩:=hf;have hD:=hE.empty hn;have hsl:s.l=[]:=by
   have:=hL.tabs;rw[hD] at this;unfold Stk.tabs at this;simpa using this
  have hat:s.at_ ((0:Nat):Int)=none:=by simp[Stk.at_,hsl]
  refine Hl ?_;rw[hat];simp only at hq
  by_cases k1:o.kind=1
  ·simp[k1,AG] at hq ⊢;simpa[Da.c] using hq S (Sx.refl _)
  by_cases k2:o.kind=2
  ·simp[k2,AG] at hq ⊢;simpa[Da.c] using hq S (Sx.refl _)
  by_cases k3:o.kind=3
  ·simp[k3,AG] at hq ⊢;refine Cn ?_;simp[Da.c,CP];simpa[Da.c,CP] using hq S (Sx.refl _)
  by_cases k4:o.kind=4
  ·simp[k4,AG] at hq ⊢;refine Cn ?_;simp[Da.c,CP];simpa[Da.c,CP] using hq S (Sx.refl _)
  ·simp[k1,k2,k3,k4,AG] at hq ⊢;refine Cn ?_;simp[Da.c,CP];simpa[Da.c,CP] using hq S (Sx.refl _)
 |cons y l=>
  have hlev:=hlv.level (by rw[hn];simp)
  rw[hn] at hf hq;obtain⟨h1,h2,h3,h4,h5⟩:=hf;obtain⟨m,a1,a2,a3,a4⟩:=h2.at_;have hB:=hL.leads.on m a2;have hsz:(BO m.tab (t.sp.2:Int)).size=y.size:=by rw[a3];rfl
  have htg:(BO m.tab (t.sp.2:Int)).target=y.target:=by rw[a3];rfl
  have hex:(BO m.tab (t.sp.2:Int)).exts=y.exts:=by rw[a3];rfl
  have hfit:bc (BO m.tab (t.sp.2:Int)):=by rw[a3];exact YJ h3 h4 _
  have hid:ids t.sp.1=(m.num:Int):=by
   refine hL.ids t.sp.1 m ?_;have:=a1;unfold Stk.at_ at this;rw[if_neg (by omega)] at this
   simpa using this
  simp only[hlev,hid] at hq;refine Hl ?_;rw[a1];simp[h1]
  by_cases k1:o.kind=1
  ·simp[k1,AG] at hq ⊢;refine VW ?_;rw[a1];simp;simpa[Da.c] using hq S (Sx.refl _)
  by_cases k2:o.kind=2
  ·by_cases y2:y.kind=2
   ·simp[k2,y2,AG] at hq ⊢;simpa[Da.c] using hq S (Sx.refl _)
   ·simp[k2,y2,AG] at hq ⊢;refine Qu hB ?_;rw[hsz];simp;simpa[Da.c] using hq S (Sx.refl _)
  by_cases k3:o.kind=3
  ·by_cases y3:y.kind=3
   ·simp[k3,y3,AG] at hq ⊢;refine Jh hB ?_;rw[htg];simp;simpa[Da.c] using hq S (Sx.refl _)
   ·simp[k3,y3,AG] at hq ⊢;refine Cn ?_;simp[Da.c,CP];simpa[Da.c,CP] using hq S (Sx.refl _)
  by_cases k4:o.kind=4
  ·by_cases y2:y.kind=2
   ·simp[k4,y2,AG] at hq ⊢;refine Cn ?_;simp[Da.c,CP];simpa[Da.c,CP] using hq S (Sx.refl _)
   ·simp[k4,y2,AG] at hq ⊢;refine RL hB hfit (fun S2 hS2=>?_)
    rw[hsz,hex];simp;simpa[Da.c] using hq S2 hS2
  ·simp[k1,k2,k3,k4,AG] at hq ⊢;refine Cn ?_;simp[Da.c,CP];simpa[Da.c,CP] using hq S (Sx.refl _)
theorem Hf{w0:World}(hm:LA w0){S:St}{s:Stk}{D:List Node}{ids:Nat→Int}{o:OpN}(hL:Sb S s D ids)(hp:o.path.length≤1048576){Q:AV→St→Prop}
  (hq:∀S',Sx S S'→Q (.agg ((doR D ids o).c .nil)) S'):AC w0 GM [.agg s.c,.agg o.c] S Q:=by
 have hc:s.c=[.vs 2 (s.l.map Mnt.c) s.r.strip,.int .i64 s.next]:=rfl;have ho:o.c=[.int .i64 o.kind,.str o.path,.int .i64 o.off,.int .i64 o.n,.int .i64 o.id,.str o.image]:=rfl;rw[hc,ho];apply Tv;unfold Pj;unfold doR at hq;simp[←hc,←ho];refine JQ ?_
 by_cases h1:isK o.kind=false
 ·rw[if_pos h1] at hq;rw[h1];simp;refine Cn ?_;simp[Da.c,CP];simpa[Da.c,CP] using hq S (Sx.refl _)
 ·rw[if_neg h1] at hq;have h1':isK o.kind=true:=by simpa using h1
  rw[h1'];simp;refine IW ?_
  by_cases h2:Ml o=true
  ·rw[if_pos h2] at hq ⊢;simp;refine Cn ?_;simp[Da.c,CP];simpa[Da.c,CP] using hq S (Sx.refl _)
  ·rw[if_neg h2] at hq ⊢;simp;refine G6 ?_;simp;refine OE hm hL.leads hp (fun S2 hS2=>⟨fun he=>?_,fun he t r hE=>?_⟩)
   ·rw[if_pos he] at hq;simp[Fnd.c,Fnd.none,he];refine Cn ?_;simp[Da.c,CP];simpa[Da.c,CP] using hq S2 hS2
   ·rw[if_neg (by rw[he];simp)] at hq
    simp[Fnd.c];refine J6 (t:=t) (rt:=r.strip) (hL.mono hS2) hE (fun S3 hS3=>?_)
    simp[Da.c];simpa[Da.c] using hq S3 (hS2.trans hS3)
open Go.Proofs
theorem SG{w0:World}{S:St}{a:Da}{r1 r2:Rt}{Q:AV→St→Prop}(hl:a.names.length≤1000000)(hq:Q (.bool true) S):AC w0 JO [.agg (a.c r1),.agg (a.c r2)] S Q:=by
 unfold Da.c;apply Q6;unfold NI;simp
 try rw[AG]
 try simp
 refine B6 a.names (fun i (_:Unit)=>([.int .i64 i],[some (a.c r1),some (a.c r2)])) (fun i _ S'=>S'=S) () (by simp[Da.c]) rfl ?_ ?_
 ·rintro i _ S' v b s c hxi hd hc hmem rfl hv;simp at hv;obtain⟨hv1,hv2,hv3⟩:=hv;simp[hv1,hv2,hv3,hc,hxi,Da.c]
  try simp (disch:=omega) only[wrap64]
  exact .next c () (by simp[Da.c]) rfl
 ·rintro _ S' v b rfl hv N;simp at hv;obtain⟨hv1,hv2,hv3⟩:=hv;simp[hv1,hv2,hv3,Da.c];exact hq
end Go.Av
