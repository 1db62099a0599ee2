/- Parts of the proofs of this seat: abstract values over the model, and what the functions of the program do. No condition. -/
import Derived.Test.YtgilicomkelmdaaGreatDoorX05e
import Derived.Test.YtgilicomkelmdaaGreatDoorY05e
import Derived.Test.YtgilicomkelmdaaGreatDoorXBld
import Derived.Test.YtgilicomkelmdaaGreatDoorY12
import Derived.Test.YtgilicomkelmdaaGreatDoorY19
import Derived.Test.YtgilicomkelmdaaGreatDoorX08d
import Derived.Test.YtgilicomkelmdaaGreatDoorY10
import Derived.Test.YtgilicomkelmdaaGreatDoorY24b
import Derived.Test.YtgilicomkelmdaaGreatDoorDRow
import Derived.Test.YtgilicomkelmdaaGreatDoorM9
import Derived.Test.YtgilicomkelmdaaGreatDoorM10
import Derived.Test.YtgilicomkelmdaaGreatDoorXFrz
set_option linter.all false
set_option maxRecDepth 100000
namespace Go.Av
mutual
def Node.pre:Node→List Node
 | .mk k o ns its ir sz es er t=>.mk k o ns its ir sz es er t::Node.pres its
def Node.pres:List Node→List Node
 |[]=>[]
 |n::l=>n.pre++Node.pres l
end
open Go.Proofs
def mh(x:Bm):Prop:=0≤x.size∧x.size≤1048576∧(∀e∈x.exts,0≤e.off∧e.off+e.data.length≤1048576)∧x.exts.length≤1000000000
theorem aW{n:Node}(hok:n.ok)(h:n.allB=true)(b:Nat):mh (n.hd b):=by
 have hx:n.exts.length≤1000000000:=by
  have:=((Node.ok_iff n).1 hok).2.2.2.2.2.1.2.1;omega
 rw[Node.all_eq] at h;simp only[Bool.and_eq_true] at h;obtain⟨hz,hk⟩:=Eu h.2
 by_cases k:n.kind=1
 ·have he:Dz n.size n.exts=true:=by simpa[Ct,k] using hk
  obtain⟨h1,h2,h3⟩:=QR he;exact⟨h1,h2,h3,hx⟩
 ·simp[C1,k] at hz;have h1:n.size=0:=hz.1.2.1;have h2:n.exts=[]:=hz.1.2.2;exact⟨by simp[Node.hd,h1],by simp[Node.hd,h1],by simp[Node.hd,h2],by simp[Node.hd,h2]⟩
theorem Wj{w0:World}{S:St}{id:Nat}{P:List Bm}{i off n:Int}(hB:Br S id P)(hf:mh (BM P i)){Q:AV→St→Prop}(hq:∀S',Sx S S'→Q (.str (P0 (BM P i).size (BM P i).exts off n)) S'):
  AC w0 FM [.ptr id 0,.int .i64 i,.int .i64 off,.int .i64 n] S Q:=by
 apply MO;unfold Hw;refine Fa hB (fun _ _ _=>?_)
 simp[Ino.c];obtain⟨f1,f2,f3,f4⟩:=hf;exact We f3 (by omega) ⟨f1,f2⟩ hq
def isK(k:Int):Bool:=decide (1≤k)&&decide (k≤4)
def Fw(k:Int):Bool:=decide (k=2)||(decide (k=4)||decide (k=5))
def MX(o:OpN):Bool:=(decide (o.kind=4)&&(decide (o.off < 0)||decide (o.n < 0)))||(decide (o.kind=6)&&decide (o.n < 1))
def Nr(D:List Node)(ids:Nat→Int)(o:OpN)(w:AtN):A6:=
 match w.nodes with
 |[]=>
  if o.kind=1 then {kind:=2,where_:=-1}
  else if o.kind=2 then {kind:=2}
  else if o.kind=3 then An 1
  else if o.kind=4 then An 5
  else An 1
 |y::_=>
  if o.kind=1 then {kind:=y.kind,where_:=match KI D w.names with|some k=>ids k|none=>-1}
  else if o.kind=2 then (if y.kind=2 then {kind:=y.kind} else {kind:=y.kind,size:=y.size})
  else if o.kind=3 then (if y.kind=3 then {text:=y.target} else An 1)
  else if o.kind=4 then (if y.kind=2 then An 5 else {text:=P0 y.size y.exts o.off o.n})
  else An 1
def doR(D:List Node)(ids:Nat→Int)(o:OpN):A6:=
 if isK o.kind=false then An 1
 else if MX o=true then An 1
 else if (Bj D o.path (Fw o.kind)).err≠0 then An (Bj D o.path (Fw o.kind)).err
 else Nr D ids o (Bj D o.path (Fw o.kind))
open Go.Proofs
theorem cZ{w0:World}{S:St}{k:Int}{Q:AV→St→Prop}(hq:Q (.bool (isK k)) S):AC w0 Oj [.int .i64 k] S Q:=by
 apply Zh;unfold U5;have e:isK k=(decide (k≥1)&&decide (k≤4)):=rfl;rw[e] at hq
 by_cases h:k≥1
 ·simp[AH,h] at hq ⊢;exact hq
 ·simp[AH,h] at hq ⊢;exact hq
theorem Tc{w0:World}{S:St}{k:Int}{Q:AV→St→Prop}(hq:Q (.bool (Fw k)) S):AC w0 IB [.int .i64 k] S Q:=by
 apply R0;unfold ME;unfold Fw at hq
 by_cases h:k=2
 ·subst h;simp[AH];simpa using hq
 ·by_cases h4:k=4
  ·subst h4;simp[AH];simpa using hq
  ·have b2:(k==2)=false:=by simpa using h
   have b4:(k==4)=false:=by simpa using h4
   have b5:(k==5)=decide (k=5):=rfl;simp[AH,b2,b4,b5];simp[h,h4] at hq;exact hq
theorem DE{w0:World}{S:St}{e:Int}{Q:AV→St→Prop}(hq:Q (.agg ((An e).c .nil)) S):AC w0 ED [.int .i64 e] S Q:=by
 apply VE;unfold OP;exact hq
theorem OG{w0:World}{S:St}{o:OpN}{Q:AV→St→Prop}(hq:Q (.int .i64 (if MX o=true then 1 else 0)) S):AC w0 Hc [.agg o.c] S Q:=by
 unfold OpN.c;apply VY;unfold OQ;unfold MX at hq;simp
 by_cases h4:o.kind=4
 ·have h6:¬o.kind=6:=by omega
  simp[h4,h6] at hq ⊢
  by_cases h:o.off < 0
  ·simp[AH,h] at hq ⊢;exact hq
  ·by_cases h2:o.n < 0
   ·simp[AH,h,h2] at hq ⊢;exact hq
   ·simp[AH,h,h2] at hq ⊢;exact hq
 ·by_cases h6:o.kind=6
  ·simp[h4,h6] at hq ⊢
   by_cases h:o.n < 1
   ·simp[AH,h] at hq ⊢;exact hq
   ·simp[AH,h] at hq ⊢;exact hq
  ·simp[AH,h4,h6] at hq ⊢;exact hq
theorem Ends.empty{L:List (List Bm)}{D:List Node}{want:AtN}{t:Fnd}(h:Ends L D want t)(hn:want.nodes=[]):D=[]:=by
 have hf:=h.facts;rw[hn] at hf;obtain⟨he,ds,names,hw,hc⟩:=h;rcases hc with ⟨h1,h2,h3⟩|⟨s,y,l,hs,h1,h2,h3,h4,h5⟩
 ·have h0:=hf.2;rw[h1] at h0;rw[hn,h0] at h2;cases D with
  |nil=>rfl
  |cons n l=>simp[DC,De] at h2
 ·rw[hn] at h4;cases h4
structure fc(S:St)(s:Stk)(D:List Node)(ids:Nat→Int):Prop where
 leads:Leads S s D
 tabs:s.tabs=D.map fun n=>n.tab 0
 ids:∀k m,s.l[k]? =some m→ids k=(m.num:Int)
theorem fc.mono{S S':St}{s:Stk}{D:List Node}{ids:Nat→Int}(h:fc S s D ids)(k:Sx S S'):fc S' s D ids:=⟨h.leads.mono k,h.tabs,h.ids⟩
theorem Uw{w0:World}{S:St}{s:Stk}{D:List Node}{ids:Nat→Int}{want:AtN}{t:Fnd}{rt:Rt}{o:OpN}{p:Str}(hL:fc S s D ids)(hE:Ends s.tabs D want t){Q:AV→St→Prop}
  (hq:∀S',Sx S S'→Q (.agg ((Nr D ids o want).c .nil)) S'):AC w0 JW [.agg s.c,.agg o.c,.agg (.str p::t.c rt)] S Q:=by
 have hc:s.c=[.vs 2 (s.l.map Mnt.c) s.r.strip,.int .i64 s.next]:=rfl;have hf:=hE.facts;have hlv:=hE;rw[hL.tabs] at hlv;rw[hc];unfold OpN.c;apply TB;unfold Mk;simp[←hc];unfold Nr at hq;cases hn:want.nodes with
 |nil=>
  rw[hn] at hf hq;obtain⟨rfl,h2⟩:=hf;have hD:=hE.empty hn;have hsl:s.l=[]:=by
   have:=hL.tabs;rw[hD] at this;unfold Stk.tabs at this;simpa using this
  have hat:s.at_ ((0:Nat):Int)=none:=by simp[Stk.at_,hsl]
  refine GB ?_;rw[hat];simp only at hq
  by_cases k1:o.kind=1
  ·simp[k1,AH] at hq ⊢;simpa[A6.c] using hq S (Sx.refl _)
  by_cases k2:o.kind=2
  ·simp[k2,AH] at hq ⊢;simpa[A6.c] using hq S (Sx.refl _)
  by_cases k3:o.kind=3
  ·simp[k3,AH] at hq ⊢;refine DE ?_;simp[A6.c,An];simpa[A6.c,An] using hq S (Sx.refl _)
  by_cases k4:o.kind=4
  ·simp[k4,AH] at hq ⊢;refine DE ?_;simp[A6.c,An];simpa[A6.c,An] using hq S (Sx.refl _)
  ·simp[k1,k2,k3,k4,AH] at hq ⊢;refine DE ?_;simp[A6.c,An];simpa[A6.c,An] using hq S (Sx.refl _)
 |cons y l=>
  have hlev:=hlv.level (by rw[hn];simp)
  rw[hn] at hf hq;obtain⟨h1,h2,h3,h4,h5⟩:=hf;obtain⟨m,a1,a2,a3,a4⟩:=h2.at_;have hB:=hL.leads.on m a2;have hsz:(BM m.tab (t.sp.2:Int)).size=y.size:=by rw[a3];rfl
  have htg:(BM m.tab (t.sp.2:Int)).target=y.target:=by rw[a3];rfl
  have hex:(BM m.tab (t.sp.2:Int)).exts=y.exts:=by rw[a3];rfl
  have hfit:mh (BM m.tab (t.sp.2:Int)):=by rw[a3];exact aW h3 h4 _
  have hid:ids t.sp.1=(m.num:Int):=by
   refine hL.ids t.sp.1 m ?_;have:=a1;unfold Stk.at_ at this;rw[if_neg (by omega)] at this
   simpa using this
  simp only[hlev,hid] at hq;refine GB ?_;rw[a1];simp[h1]
  by_cases k1:o.kind=1
  ·simp[k1,AH] at hq ⊢;refine df ?_;rw[a1];simp;simpa[A6.c] using hq S (Sx.refl _)
  by_cases k2:o.kind=2
  ·by_cases y2:y.kind=2
   ·simp[k2,y2,AH] at hq ⊢;simpa[A6.c] using hq S (Sx.refl _)
   ·simp[k2,y2,AH] at hq ⊢;refine Vp hB ?_;rw[hsz];simp;simpa[A6.c] using hq S (Sx.refl _)
  by_cases k3:o.kind=3
  ·by_cases y3:y.kind=3
   ·simp[k3,y3,AH] at hq ⊢;refine MD hB ?_;rw[htg];simp;simpa[A6.c] using hq S (Sx.refl _)
   ·simp[k3,y3,AH] at hq ⊢;refine DE ?_;simp[A6.c,An];simpa[A6.c,An] using hq S (Sx.refl _)
  by_cases k4:o.kind=4
  ·by_cases y2:y.kind=2
   ·simp[k4,y2,AH] at hq ⊢;refine DE ?_;simp[A6.c,An];simpa[A6.c,An] using hq S (Sx.refl _)
   ·simp[k4,y2,AH] at hq ⊢;refine Wj hB hfit (fun S2 hS2=>?_)
    rw[hsz,hex];simp;simpa[A6.c] using hq S2 hS2
  ·simp[k1,k2,k3,k4,AH] at hq ⊢;refine DE ?_;simp[A6.c,An];simpa[A6.c,An] using hq S (Sx.refl _)
theorem cV{w0:World}(hm:KD w0){S:St}{s:Stk}{D:List Node}{ids:Nat→Int}{o:OpN}(hL:fc S s D ids)(hp:o.path.length≤1048576){Q:AV→St→Prop}
  (hq:∀S',Sx S S'→Q (.agg ((doR D ids o).c .nil)) S'):AC w0 PD [.agg s.c,.agg o.c] S Q:=by
 have hc:s.c=[.vs 2 (s.l.map Mnt.c) s.r.strip,.int .i64 s.next]:=rfl;have ho:o.c=[.int .i64 o.kind,.str o.path,.int .i64 o.off,.int .i64 o.n,.int .i64 o.id,.str o.image]:=rfl;rw[hc,ho];apply ae;unfold Tz;unfold doR at hq;simp[←hc,←ho];refine cZ ?_
 by_cases h1:isK o.kind=false
 ·rw[if_pos h1] at hq;rw[h1];simp;refine DE ?_;simp[A6.c,An];simpa[A6.c,An] using hq S (Sx.refl _)
 ·rw[if_neg h1] at hq;have h1':isK o.kind=true:=by simpa using h1
  rw[h1'];simp;refine OG ?_
  by_cases h2:MX o=true
  ·rw[if_pos h2] at hq ⊢;simp;refine DE ?_;simp[A6.c,An];simpa[A6.c,An] using hq S (Sx.refl _)
  ·rw[if_neg h2] at hq ⊢;simp;refine Tc ?_;simp;refine SO hm hL.leads hp (fun S2 hS2=>⟨fun he=>?_,fun he t r hE=>?_⟩)
   ·rw[if_pos he] at hq;simp[Fnd.c,Fnd.none,he];refine DE ?_;simp[A6.c,An];simpa[A6.c,An] using hq S2 hS2
   ·rw[if_neg (by rw[he];simp)] at hq
    simp[Fnd.c];refine Uw (t:=t) (rt:=r.strip) (hL.mono hS2) hE (fun S3 hS3=>?_)
    simp[A6.c];simpa[A6.c] using hq S3 (hS2.trans hS3)
open Go.Proofs
theorem Zl:∀(a b:List Str) (n:Node),atP n a=none→atP n (a++b)=none
 |[],b,n,h=>by simp[atP] at h
 |s::a,b,n,h=>by
  rw[List.cons_append,atP] at*;split
  ·rename_i k;rw[if_pos k] at h;cases hx:n.find s with
   |none=>rfl
   |some x=>
    rw[hx] at h;simp only at h ⊢;exact Zl a b x h
  ·rfl
theorem ak{D:List Node}{names:List Str}{i:Nat}{n:Node}(hi:D[i]? =some n)(hn:(atP n names).isSome=true)(hb:∀j m,j < i→D[j]? =some m→atP m names=none):KI D names=some i:=by
 have hlt:=(List.getElem?_eq_some_iff.1 hi).1;rw[KI,List.findIdx?_eq_some_iff_getElem];refine⟨hlt,by rw[(List.getElem?_eq_some_iff.1 hi).2];exact hn,fun j hj=>?_⟩
 have:=hb j D[j] hj (List.getElem?_eq_getElem (by omega))
 rw[this];simp
theorem bK{D:List Node}{names:List Str}(hb:∀(j:Nat) m,D[j]? =some m→atP m names=none):KI D names=none:=by
 rw[KI,List.findIdx?_eq_none_iff];intro x hx;obtain⟨j,hj⟩:=List.getElem?_of_mem hx;rw[hb j x hj];rfl
theorem N8{w0:World}{S:St}{D:List Node}{dr nr:Rt}{names:List Str}(hD:∀n∈D,n.ok∧n.allB=true)(hl:D.length≤1000000)(hn:names.length≤1000000){Q:AV→St→Prop}
  (hq:Q (.int .i64 (match KI D names with|some k=>(k:Int)|none=>-1)) S):AC w0 KO [.vs 7 (D.map Node.c) dr,.vs 1 (names.map BO) nr] S Q:=by
 apply T4;unfold OC;rw[AH];simp;refine Ak D (fun i (_:Unit)=>([.int .i64 i],[])) (fun i _ S'=>S'=S∧∀j m,j < i→D[j]? =some m→atP m names=none) () rfl ⟨rfl,fun j m h=>by omega⟩ ?_ ?_
 ·rintro i _ S' v b n c hxi hd hc hmem ⟨rfl,hb⟩ hv;simp at hv;have hnz:∀m:Node,m.c.length=7:=fun m=>by rw[Node.c_eq];rfl
  simp[hv,hc,hxi];rw[AH];refine A7 (fun j=>j (.bool (atP n names).isSome) S') ?_ (fun j4 hj4=>?_)
  ·cases hs:(atP n names).isSome with
   |true=>
    rw[ak hxi hs hb] at hq;simp;exact hq
   |false=>
    have hno:atP n names=none:=by simpa using hs
    simp
    try simp (disch:=omega) only[wrap64]
    refine .next c () rfl ⟨rfl,fun j m hj hm=>?_⟩
    by_cases e:j=i
    ·subst e;rw[hxi] at hm;cases hm;exact hno
    ·exact hb j m (by omega) hm
  ·refine BV (fun σ:Nat×Bool×Node=>([.bool σ.2.1,.int .i64 σ.1],[some σ.2.2.c])) (fun k σ S2=>S2=S'∧σ.1≤names.length∧k=names.length - σ.1∧(σ.2.1=true→atP n (names.take σ.1)=some σ.2.2∧σ.2.2.ok∧σ.2.2.allB=true)∧(σ.2.1=false→atP n names=none)) names.length (0,true,n) ?_
    ⟨rfl,Nat.zero_le _,rfl,fun _=>⟨rfl,hD n hmem⟩,fun e=>by cases e⟩ ?_
   ·simp
   ·rintro k ⟨i2,ok,m⟩ S2 v2 b2 ⟨rfl,h1,h2,h3,h4⟩ hv2;simp at hv2 h1 h2 h3 h4;obtain⟨⟨w1,w2⟩,w3⟩:=hv2;have c0:m.c[0]? =some (.int .i64 m.kind):=by rw[Node.c_eq];rfl
    have c3:m.c[3]? =some (.vs 7 (m.items.map Node.c) m.ir.strip):=by rw[Node.c_eq];rfl
    have c7:m.c.take 7=m.c:=by rw[List.take_of_length_le];rw[Node.c_eq];exact Nat.le_refl _
    have cl:m.c.length=7:=by rw[Node.c_eq];rfl
    by_cases hi2:i2 < names.length
    case neg=>
     have e:i2=names.length:=by omega
     subst e;rw[List.take_length] at h3;have hok:ok=(atP n names).isSome:=by
      cases ok with
      |true=>rw[(h3 rfl).1];rfl
      |false=>rw[h4 rfl];rfl
     rw[←hok] at hj4;simp[w1,w2,AH];exact hj4
    have hi2':(i2:Int) < names.length:=by omega
    cases ok with
    |false=>
     rw[h4 rfl] at hj4;simp[w1,w2,AH,hi2'];exact hj4
    |true=>
     obtain⟨h31,h32,h33⟩:=h3 rfl;obtain⟨s,hs⟩:∃s,names[i2]? =some s:=⟨_,List.getElem?_eq_getElem hi2⟩;have htk:names.take (i2+1)=names.take i2++[s]:=by rw[List.take_succ,hs];rfl
     have hat:=Q8 (names.take i2) n s;rw[←htk,h31] at hat;simp only at hat;have hnone:atP n (names.take (i2+1))=none→atP n names=none:=fun h=>by
      have:=Zl _ (names.drop (i2+1)) n h
      rwa [List.take_append_drop] at this
     simp[w1,w2,w3,hi2',hs,c0,c3,c7,cl];rw[AH];refine QB h32 ?_;have hfi:=Z8 h33 s
     by_cases k2:m.kind=2
     case neg=>
      rw[if_neg k2] at hat;simp[k2,AH]
      try simp (disch:=omega) only[wrap64]
      exact⟨names.length - (i2+1),(i2+1,false,m),by omega,by simp,rfl,hi2,rfl,fun e=>(by cases e),fun _=>hnone hat⟩
     rw[if_pos k2] at hat;cases hk:m.names.l.findIdx? (fun x=>decide (x=s)) with
     |none=>
      rw[hk] at hfi;simp only at hfi;rw[hfi] at hat;simp[k2,AH]
      try simp (disch:=omega) only[wrap64]
      exact⟨names.length - (i2+1),(i2+1,false,m),by omega,by simp,rfl,hi2,rfl,fun e=>(by cases e),fun _=>hnone hat⟩
     |some q=>
      rw[hk] at hfi;obtain⟨x,hx1,hx2⟩:=hfi;rw[hx1] at hat;have hxm:=List.mem_of_getElem? hx2;have hxl:x.c.length=7:=by rw[Node.c_eq];rfl
      simp[k2,AH,hx2,hxl]
      try simp (disch:=omega) only[wrap64]
      exact⟨names.length - (i2+1),(i2+1,true,x),by omega,by simp,rfl,hi2,rfl,fun _=>⟨hat,LZ h32 hxm,Kr h33 hxm⟩,fun e=>(by cases e)⟩
 ·rintro _ S' v b ⟨rfl,hb⟩ hv N;simp at hv;rw[bK (fun j m hm=>hb j m (List.getElem?_eq_some_iff.1 hm).1 hm)] at hq
  simp[hv];exact hq
theorem Yi{w0:World}{S:St}{a:A6}{r1 r2:Rt}{Q:AV→St→Prop}(hl:a.names.length≤1000000)(hq:Q (.bool true) S):AC w0 Fe [.agg (a.c r1),.agg (a.c r2)] S Q:=by
 unfold A6.c;apply OE;unfold Ln;simp
 try rw[AH]
 try simp
 refine Ak a.names (fun i (_:Unit)=>([.int .i64 i],[some (a.c r1),some (a.c r2)])) (fun i _ S'=>S'=S) () (by simp[A6.c]) rfl ?_ ?_
 ·rintro i _ S' v b s c hxi hd hc hmem rfl hv;simp at hv;obtain⟨hv1,hv2,hv3⟩:=hv;simp[hv1,hv2,hv3,hc,hxi,A6.c]
  try simp (disch:=omega) only[wrap64]
  exact .next c () (by simp[A6.c]) rfl
 ·rintro _ S' v b rfl hv N;simp at hv;obtain⟨hv1,hv2,hv3⟩:=hv;simp[hv1,hv2,hv3,A6.c];exact hq
theorem Do{w0:World}{S:St}{e:Int}{Q:AV→St→Prop}(hq:Q (.agg ((An e).c .nil)) S):AC w0 Ey [.int .i64 e] S Q:=by
 apply VZ;unfold OT;exact hq
theorem cK{w0:World}{S SL:St}{D:List Node}{dr ir:Rt}{ids:List Int}{o:OpN}{s:Stk}(hL:Leads SL s D)(hT:s.tabs=D.map fun n=>n.tab 0)(hD:Docs D)(hall:∀n∈D,n.ok∧n.allB=true)(hi:ids.length=D.length)(hp:o.path.length≤1048576)(hoff:o.off≤9223372036854775807){Q:AV→St→Prop}
  (hex:(Bj D o.path (Fw o.kind)).err=0→∃t,Ends s.tabs D (Bj D o.path (Fw o.kind)) t)
  (hq:Q (.agg ((doR D (fun k=>(ids[k]?).getD 0) o).c .nil)) S):AC w0 Ou [.vs 7 (D.map Node.c) dr,.vs 1 (ids.map fun i=>[.int .i64 i]) ir,.agg o.c] S Q:=by
 have ho:o.c=[.int .i64 o.kind,.str o.path,.int .i64 o.off,.int .i64 o.n,.int .i64 o.id,.str o.image]:=rfl;rw[ho];apply ba;unfold UO;unfold doR isK at hq;simp
 by_cases h1:o.kind < 1
 ·have e:(decide (1≤o.kind)&&decide (o.kind≤4))=false:=by
   have:¬1≤o.kind:=by omega
   simp[this]
  rw[if_pos e] at hq;simp[h1];refine Do ?_;simp[A6.c,An];simpa[A6.c,An] using hq
 by_cases h2:4 < o.kind
 ·have e:(decide (1≤o.kind)&&decide (o.kind≤4))=false:=by
   have:¬o.kind≤4:=by omega
   simp[this]
  rw[if_pos e] at hq;simp[h1,h2];refine Do ?_;simp[A6.c,An];simpa[A6.c,An] using hq
 have e:(decide (1≤o.kind)&&decide (o.kind≤4))=true:=by
  have a:1≤o.kind:=by omega
  have b:o.kind≤4:=by omega
  simp[a,b]
 rw[if_neg (by rw[e];simp)] at hq
 have h6:¬o.kind=6:=by omega
 simp[h1,h2]
 by_cases hb:MX o=true
 ·rw[if_pos hb] at hq;have hb2:o.kind=4∧(o.off < 0∨o.n < 0):=by
   unfold MX at hb;simpa[h6] using hb
  have hd:(decide (o.off < 0)||decide (o.n < 0))=true:=by simpa using hb2.2
  simp[hb2.1,hd];refine Do ?_;simp[A6.c,An];simpa[A6.c,An] using hq
 rw[if_neg hb] at hq;have hnb:(decide (o.kind=4)&&(decide (o.off < 0)||decide (o.n < 0)))=false:=by
  unfold MX at hb;simpa[h6] using hb
 have hfo:(decide (o.kind=2)||decide (o.kind=4))=Fw o.kind:=by
  have:¬o.kind=5:=by omega
  simp[Fw,this]
 simp[hnb,hfo];refine P7 hD hp (fun r1 r2=>?_)
 generalize Bj D o.path (Fw o.kind)=want at hq hex
 by_cases he:want.err≠0
 ·rw[if_pos he] at hq;simp[he];refine Do ?_;simp[A6.c,An];simpa[A6.c,An] using hq
 have he0:want.err=0:=by simpa using he
 rw[if_neg he] at hq;obtain⟨t,hE⟩:=hex he0;have hf:=hE.facts;obtain⟨hs1,hs2⟩:=hE.short;simp[he0];unfold Nr at hq;have hDl:D.length≤1000000:=hD.len;cases hn:want.nodes with
 |nil=>
  rw[hn] at hq;have hD0:=hE.empty hn;have hlv:KI D want.names=none:=by rw[hD0];rfl
  simp
  try rw[AH]
  simp only at hq
  by_cases k1:o.kind=1
  ·simp[k1] at hq ⊢;refine N8 hall hDl (by omega) ?_
   rw[hlv];simp;simpa[A6.c] using hq
  by_cases k2:o.kind=2
  ·simp[k2] at hq ⊢;simpa[A6.c] using hq
  by_cases k3:o.kind=3
  ·simp[k3] at hq ⊢;refine Do ?_;simp[A6.c,An];simpa[A6.c,An] using hq
  have k4:o.kind=4:=by omega
  simp[k4] at hq ⊢;refine Do ?_;simp[A6.c,An];simpa[A6.c,An] using hq
 |cons y l=>
  rw[hn] at hq hf;obtain⟨f1,f2,f3,f4,f5⟩:=hf;have hlv0:=hE;rw[hT] at hlv0;have hlv:=hlv0.level (by rw[hn];simp)
  have hlt:t.sp.1 < ids.length:=by
   obtain⟨P,q1,_⟩:=f2;have:=(List.getElem?_eq_some_iff.1 q1).1;rw[hT] at this;simp at this;omega
  obtain⟨idv,hidv⟩:∃x,ids[t.sp.1]? =some x:=⟨_,List.getElem?_eq_getElem hlt⟩;simp only[hlv,hidv,Option.getD_some] at hq;have c0:y.c[0]? =some (.int .i64 y.kind):=by rw[Node.c_eq];rfl
  have c4:y.c[4]? =some (.int .i64 y.size):=by rw[Node.c_eq];rfl
  have c5:y.c[5]? =some (.vs 2 (y.exts.map Ext.c) y.er.strip):=by rw[Node.c_eq];rfl
  have c6:y.c[6]? =some (.str y.target):=by rw[Node.c_eq];rfl
  have cl:y.c.length=7:=by rw[Node.c_eq];rfl
  simp[c0,c4,cl]
  try rw[AH]
  by_cases k1:o.kind=1
  ·simp[k1] at hq ⊢;refine N8 hall hDl (by omega) ?_
   rw[hlv];have:¬((t.sp.1:Int) < 0):=by omega
   simp[this,hidv];simpa[A6.c] using hq
  by_cases k2:o.kind=2
  ·have hq2:Q (.agg (({kind:=y.kind,size:=y.size}:A6).c .nil)) S:=by
    simp[k2] at hq
    by_cases y2:y.kind=2
    ·have hz0:y.size=0:=by
      rw[Node.all_eq] at f4;simp only[Bool.and_eq_true] at f4;obtain⟨hz,_⟩:=Eu f4.2;simp[C1,y2] at hz;exact hz.1.1
     simpa[y2,hz0] using hq
    ·simpa[y2] using hq
   simp[k2];simpa[A6.c] using hq2
  by_cases k3:o.kind=3
  ·by_cases y3:y.kind=3
   ·simp[k3,y3,c6] at hq ⊢;simpa[A6.c] using hq
   ·simp[k3,y3] at hq ⊢;refine Do ?_;simp[A6.c,An];simpa[A6.c,An] using hq
  have k4:o.kind=4:=by omega
  by_cases y2:y.kind=2
  ·simp[k4,y2] at hq ⊢;refine Do ?_;simp[A6.c,An];simpa[A6.c,An] using hq
  ·simp[k4,y2,c4,c5] at hq ⊢;have hfit:=aW f3 f4 0;obtain⟨g1,g2,g3,g4⟩:=hfit;have hrd:UL y.size y.exts o.off o.n=P0 y.size y.exts o.off o.n:=by
    rw[Node.all_eq] at f4;simp only[Bool.and_eq_true] at f4;obtain⟨hz,hk⟩:=Eu f4.2
    by_cases kk:y.kind=1
    ·exact(Zs (by simpa[Ct,kk] using hk)).symm
    ·simp[C1,kk] at hz;have q1:y.size=0:=hz.1.2.1;have q2:y.exts=[]:=hz.1.2.2;rw[q1,q2];exact(Zs (by decide)).symm
   refine ZJ g3 (Nat.le_trans g4 (by decide)) ⟨g1,g2⟩ hoff ?_
   rw[hrd];simp;simpa[A6.c] using hq
theorem Going.ends{L:List (List Bm)}{D:List Node}{want:AtN}:∀(n:Nat) {w:Wk} {h:Nat} {names:List Str},Going L D want w h names→w.todo.length+129*h≤n→want.err=0→∃t,Ends L D want t:=by
 intro n
 induction n with
 |zero=>
  intro w h names g hn he;have:w.todo=[]:=List.eq_nil_of_length_eq_zero (by omega)
  obtain⟨d,_,_,h3⟩:=g.end this;exact⟨_,h3⟩
 |succ n ih=>
  intro w h names g hn he;obtain⟨names',g'⟩:=g.pop;have hhd:w.pop.todo.head?≠some dd:=Ol _ _;have hpl:w.pop.todo.length≤w.todo.length:=Ri _ _;generalize w.pop=w1 at g' hhd hpl;cases ht:w1.todo with
  |nil=>
   obtain⟨d,_,_,h3⟩:=g'.end ht;exact⟨_,h3⟩
  |cons s rest=>
   have hnd:s≠dd:=fun e=>hhd (by rw[ht,e];rfl)
   have hll:w1.todo.length=rest.length+1:=by rw[ht];rfl
   obtain⟨d,k1,k2,k3,k4,k5⟩:=g'.step (fr:=.none) (target:=match Cn (DC D names') s with|y::_=>y.target|[]=>[]) ht hnd rfl (fun _ y l e=>by rw[e])
   generalize w1.tell (pathOf names') s rest (DB L s (D0 L names') Fnd.none) .none (decide ((DB L s (D0 L names') Fnd.none).kind≠0)) _=te at k5;obtain⟨w2,e⟩:=te;simp only at k5;obtain⟨k6,k7⟩:=k5
   by_cases e0:e=0
   ·rcases k7 e0 with ⟨h',nm2,g2,hc⟩|⟨gg,c1,c2,c3,c4⟩
    ·refine ih g2 ?_ he;rcases hc with ⟨c1,c2⟩|⟨c1,pp,c2,c3⟩
     ·rw[c1,c2];omega
     ·rw[c3,List.length_append];omega
    ·exact⟨gg,c2⟩
   ·exact absurd he (by rw[k6 e0];exact e0)
theorem Leads.ends{S:St}{s:Stk}{D:List Node}(hL:Leads S s D){path:Str}{fl:Bool}(he:(Bj D path fl).err=0):∃t,Ends s.tabs D (Bj D path fl) t:=by
 unfold Bj at he ⊢;cases hsp:Cp path with
 |none=>rw[hsp] at he;cases he
 |some l=>
  rw[hsp] at he;exact Going.ends (l.length+129*40) (w:=⟨l,[⟨[47],Gz s.tabs 0,.none⟩],fl,0,none⟩) (h:=40) (names:=[]) ⟨hL.start _,rfl,fun x hx=>O9 hsp x hx,rfl,rfl⟩ (Nat.le_refl _) he
abbrev TO:AV:=.fn FO [] []
theorem RcS.load{S:St}{id:Nat}(h:id < S.length){l:List Ac}{i:Nat}{y:Ac}(hi:l[i]? =some y):AP AF (RcS S id l) (.ptr id (i*19))=some (.agg y.c):=by
 have:=Nf (T:=AF) (n:=19) (enc:=Ac.c) (J:=[]) (tg:=0) (by rw[List.append_nil];exact RcS.get h l) rfl rfl Ac.cl hi
 exact this
theorem RcS.store{S:St}{id:Nat}(h:id < S.length){l:List Ac}{i:Nat}{y:Ac}(z:Ac)(hi:l[i]? =some y):A8 AF (RcS S id l) (.ptr id (i*19)) (.agg z.c)=some (RcS S id (l.set i z)):=by
 have:=KX (T:=AF) (n:=19) (enc:=Ac.c) (J:=[]) (tg:=0) z (by rw[List.append_nil];exact RcS.get h l) rfl Ac.cl hi (v:=.agg z.c) rfl rfl
 rw[List.append_nil,RcS.two] at this;exact this
theorem RcS.idx{id n i:Nat}{x:Int}(hx:x=i)(h:i < n):AT AF (.rs 19 id 0 n) (.int .i64 x)=some (.ptr id (i*19)):=by
 subst hx;have:(i:Int) < n:=by omega
 simp[AT,AF,this]
theorem RcS.ld{S:St}{id n i:Nat}{x:Int}{l:List Ac}{y:Ac}(h:id < S.length)(hn:l.length=n)(hx:x=i)(hi:l[i]? =some y){k:AV→Prop}(hk:k (.agg y.c)):
  AA (AT AF (.rs 19 id 0 n) (.int .i64 x)) fun t=>AA (AP AF (RcS S id l) t) k:=by
 have hl:=(List.getElem?_eq_some_iff.1 hi).1;rw[RcS.idx hx (by omega),Ay,RcS.load h hi,Ay]
 exact hk
theorem RcS.st{S:St}{id n i:Nat}{x:Int}{l:List Ac}{y z:Ac}(h:id < S.length)(hn:l.length=n)(hx:x=i)(hi:l[i]? =some y){k:St→Prop}(hk:k (RcS S id (l.set i z))):
  AA (AT AF (.rs 19 id 0 n) (.int .i64 x)) fun t=>AA (A8 AF (RcS S id l) t (.agg z.c)) k:=by
 have hl:=(List.getElem?_eq_some_iff.1 hi).1;rw[RcS.idx hx (by omega),Ay,RcS.store h z hi,Ay]
 exact hk
@[simp] theorem Ei(y:Ac):(AV.agg y.c).strip= .agg y.c:=by
 have:=Ac.map1 y;simp[AV.strip,this]
@[simp] theorem iF(n id o k:Nat):(AV.rs n id o k).strip= .rs n id o k:=rfl
theorem VS{A M N:List Ac}{u v:Ac}{i k:Nat}(hi:i=A.length)(hk:k=A.length+1+M.length):((A++u::M++v::N).set i v).set k u=A++v::M++u::N:=by
 subst hi hk;rw[List.append_assoc,List.set_append_right _ _ (Nat.le_refl _),Nat.sub_self,List.cons_append,List.set_cons_zero,List.set_append_right _ _ (by omega)]
 rw[show A.length+1+M.length - A.length=M.length+1 by omega,List.set_cons_succ,List.set_append_right _ _ (Nat.le_refl _),Nat.sub_self,List.set_cons_zero]
 simp
theorem HZ{A N:List Ac}{u:Ac}{i:Nat}(hi:i=A.length):(A++u::N)[i]? =some u:=by subst hi;simp
theorem Md{w0:World}{S:St}{id:Nat}(hid:id < S.length){A U B V C:List Ac}{N:Nat}(hN:(A++U++B++V++C).length=N)(hN2:N≤1000000)(hU:U.length=V.length){a b n:Int}(ha:a=A.length)(hb:b=A.length+U.length+B.length)(hn:n=U.length){Q:AV→St→Prop}
  (hq:Q (.tup []) (RcS S id (A++V++B++U++C))):AC w0 BL [.rs 19 id 0 N,.int .i64 a,.int .i64 b,.int .i64 n,TO] (RcS S id (A++U++B++V++C)) Q:=by
 apply Eo;unfold C4;refine BV (fun i:Nat=>([.int .i64 i],[])) (fun m i S'=>∃A' U' B' V',S'=RcS S id (A'++U'++B'++V'++C)∧(A'++U'++B'++V'++C).length=N∧U'.length=V'.length∧m=U'.length∧(A'.length:Int)=a+i∧(A'.length+U'.length+B'.length:Int)=b+i∧(i+U'.length:Int)=n∧A'++V'++B'++U'++C=A++V++B++U++C)
  U.length 0 (by simp) ⟨A,U,B,V,rfl,hN,hU,rfl,by simp[ha],by simp[hb],by simp[hn],rfl⟩ ?_
 rintro m i S' v bx ⟨A',U',B',V',rfl,h1,h2,h3,h4,h5,h6,h7⟩ hv;simp at hv;simp[hv];simp at h1;cases U' with
 |nil=>
  simp at h6 h2;have hV:V'=[]:=List.length_eq_zero_iff.1 h2.symm;subst hV;have:¬((i:Int) < n):=by omega
  simp[this];simp at h7;simp at hq;rw[h7];exact hq
 |cons x U'=>
  cases V' with
  |nil=>simp at h2
  |cons y V'=>
   simp at h6 h2 h1 h5;have c1:(i:Int) < n:=by omega
   have w1:IntKind.i64.wrap (a+i)=(A'.length:Int):=by rw[h4];exact wrap64 (by omega) (by omega)
   have w2:IntKind.i64.wrap (b+i)=((A'.length+1+(U'++B').length:Nat):Int):=by rw[wrap64 (by omega) (by omega)];simp;omega
   have w3:IntKind.i64.wrap ((i:Int)+1)=((i+1:Nat):Int):=by rw[wrap64 (by omega) (by omega)];rfl
   have e0:A'++(x::(U'++(B'++(y::(V'++C)))))=A'++x::(U'++B')++y::(V'++C):=by simp
   have hlen:(A'++x::(U'++B')++y::(V'++C)).length=N:=by simp;omega
   have g1:(A'++x::(U'++B')++y::(V'++C))[A'.length]? =some x:=by rw[List.append_assoc,List.cons_append];exact HZ rfl
   have g2:(A'++x::(U'++B')++y::(V'++C))[A'.length+1+(U'++B').length]? =some y:=HZ (by simp;omega)
   have g3:((A'++x::(U'++B')++y::(V'++C)).set A'.length y)[A'.length+1+(U'++B').length]? =some y:=by
    rw[List.getElem?_set_ne (by omega)];exact g2
   simp[c1];simp only[e0];rw[w1,w2,w3];refine RcS.ld hid hlen rfl g2 ?_;refine RcS.ld hid hlen rfl g1 ?_;simp only[Ei];refine RcS.st hid hlen rfl g1 ?_;refine RcS.st hid (by rw[List.length_set];exact hlen) rfl g3 ?_
   rw[VS rfl rfl];refine⟨_,i+1,by show U'.length < m;simp at h3;omega,rfl,A'++[y],U',B'++[x],V',by simp,?_,h2,rfl,?_,?_,?_,?_⟩
   ·simp;omega
   ·simp;omega
   ·simp;omega
   ·simp;omega
   ·simp at h7 ⊢;exact h7
attribute [simp] Ac.free
def okM(x:Ac):Prop:=0≤x.mark∧x.mark≤2147483647
theorem iZ{w0:World}{S:St}{id:Nat}(hid:id < S.length){A U V C:List Ac}{N:Nat}(hN:(A++U++V++C).length=N)(hN2:N≤1000000)(hU:U≠[])(hV:V≠[]){a m b:Int}(ha:a=A.length)(hm:m=A.length+U.length)(hb:b=A.length+U.length+V.length){Q:AV→St→Prop}
  (hq:Q (.tup []) (RcS S id (A++V++U++C))):AC w0 CU [.rs 19 id 0 N,.int .i64 a,.int .i64 m,.int .i64 b,TO] (RcS S id (A++U++V++C)) Q:=by
 apply FR;unfold DS;have lU:=List.length_pos_iff.2 hU;have lV:=List.length_pos_iff.2 hV;have hN':=hN;simp at hN';have w1:IntKind.i64.wrap (m - a)=(U.length:Int):=by rw[wrap64 (by omega) (by omega)];omega
 have w2:IntKind.i64.wrap (b - m)=(V.length:Int):=by rw[wrap64 (by omega) (by omega)];omega
 rw[w1,w2];refine A7 (fun j=>∀A' U' V' C':List Ac,(A'++U'++V'++C').length=N→U'.length=V'.length→(A'.length+U'.length:Int)=m→A'++V'++U'++C'=A++V++U++C→j (.int .i64 U'.length) (RcS S id (A'++U'++V'++C'))) (fun A' U' V' C' h1 h2 h3 h4=>?_) (fun j hj=>?_)
 ·have h1':=h1;simp at h1';have w3:IntKind.i64.wrap (m - U'.length)=(A'.length:Int):=by rw[wrap64 (by omega) (by omega)];omega
  simp[w3,Dn];have e0:A'++(U'++(V'++C'))=A'++U'++[]++V'++C':=by simp
  rw[e0];refine Md (A:=A') (U:=U') (B:=[]) (V:=V') (C:=C') hid (by simp;omega) hN2 h2 rfl (by simp;omega) rfl ?_
  simp;simp at h4;rw[h4];simpa using hq
 ·refine BV (fun p:Nat×Nat=>([.int .i64 p.1,.int .i64 p.2],[])) (fun n p S'=>∃A' U' V' C':List Ac,S'=RcS S id (A'++U'++V'++C')∧(A'++U'++V'++C').length=N∧U'.length=p.1∧V'.length=p.2∧0 < p.1∧0 < p.2∧n=p.1+p.2∧(A'.length+U'.length:Int)=m∧A'++V'++U'++C'=A++V++U++C)
   (U.length+V.length) (U.length,V.length) (by simp) ⟨A,U,V,C,rfl,hN,rfl,rfl,lU,lV,rfl,hm.symm,rfl⟩ ?_
  rintro n ⟨i,k⟩ S' v bx ⟨A',U',V',C',rfl,h1,h2,h3,h4,h5,h6,h7,h8⟩ hv;simp at hv h2 h3 h4 h5 h6;obtain⟨hv1,hv2⟩:=hv;have h1':=h1;simp at h1'
  by_cases c:i=k
  ·subst c;simp[hv1,hv2];have:=hj A' U' V' C' h1 (by omega) h7 h8
   rw[h2] at this;simpa using this
  ·by_cases c2:k < i
   ·have cc:decide ((i:Int)=k)=false:=by simp;omega
    have w3:IntKind.i64.wrap (m - i)=(A'.length:Int):=by rw[wrap64 (by omega) (by omega)];omega
    have w4:IntKind.i64.wrap ((i:Int) - k)=((i - k:Nat):Int):=by rw[wrap64 (by omega) (by omega)];omega
    simp[hv1,hv2,c,cc,c2,Dn,w3,w4];have e0:A'++(U'++(V'++C'))=A'++U'.take k++U'.drop k++V'++C':=by
     conv=>lhs;rw[←List.take_append_drop k U']
     simp
    rw[e0];refine Md (A:=A') (U:=U'.take k) (B:=U'.drop k) (V:=V') (C:=C') hid ?_ hN2 ?_ ?_ ?_ ?_ ?_
    ·simp;omega
    ·simp;omega
    ·rfl
    ·simp;omega
    ·simp;omega
    refine⟨_,(i - k,k),by show i - k+k < n;omega,by simp,A'++V',U'.drop k,U'.take k,C',by simp,?_,?_,?_,?_,?_,rfl,?_,?_⟩
    ·simp;omega
    ·simp;omega
    ·simp;omega
    ·show 0 < i - k;omega
    ·exact h5
    ·simp;omega
    ·simp at h8 ⊢;rw[←h8,←List.append_assoc (List.take k U'),List.take_append_drop]
   ·have cc:decide ((i:Int)=k)=false:=by simp;omega
    have w3:IntKind.i64.wrap (m - i)=(A'.length:Int):=by rw[wrap64 (by omega) (by omega)];omega
    have w6:IntKind.i64.wrap (m+k)=m+k:=wrap64 (by omega) (by omega)
    have w4:IntKind.i64.wrap (m+k - i)=((A'.length+k:Nat):Int):=by rw[wrap64 (by omega) (by omega)];omega
    have w5:IntKind.i64.wrap ((k:Int) - i)=((k - i:Nat):Int):=by rw[wrap64 (by omega) (by omega)];omega
    simp[hv1,hv2,c,cc,c2,Dn,w3,w5,w6,w4];have e0:A'++(U'++(V'++C'))=A'++U'++V'.take (k - i)++V'.drop (k - i)++C':=by
     conv=>lhs;rw[←List.take_append_drop (k - i) V']
     simp
    rw[e0];refine Md (A:=A') (U:=U') (B:=V'.take (k - i)) (V:=V'.drop (k - i)) (C:=C') hid ?_ hN2 ?_ ?_ ?_ ?_ ?_
    ·simp;omega
    ·simp;omega
    ·rfl
    ·simp;omega
    ·omega
    refine⟨_,(i,k - i),by show i+(k - i) < n;omega,by simp,A',V'.drop (k - i),V'.take (k - i),U'++C',by simp,?_,?_,?_,?_,?_,rfl,?_,?_⟩
    ·simp;omega
    ·simp;omega
    ·simp;omega
    ·exact h4
    ·show 0 < k - i;omega
    ·simp;omega
    ·simp at h8 ⊢;rw[←h8,←List.append_assoc (List.take (k - i) V'),List.take_append_drop]
theorem Nq{w0:World}{S:St}{x y:Ac}(hx:okM x)(hy:okM y){Q:AV→St→Prop}(hq:Q (.int .i64 (x.mark - y.mark)) S):AC w0 FO [.agg x.c,.agg y.c] S Q:=by
 unfold okM at hx hy;unfold Ac.c;apply Tg;unfold My;have w:IntKind.i64.wrap (x.mark - y.mark)=x.mark - y.mark:=wrap64 (by omega) (by omega)
 simp[w];exact hq
theorem Lu(x y:Ac):Gj TO [.agg x.c,.agg y.c]=some (FO,[.agg x.c,.agg y.c]):=by
 simp only[Gj,List.nil_append,List.append_nil,Dn,List.all_cons,List.all_nil,Ac.free,Bool.and_true,Bool.and_self,if_true,Option.map_some,List.map_cons,List.map_nil,Ei]
theorem XL{A M N:List Ac}{u v:Ac}{i k:Nat}(hi:i=A.length)(hk:k=A.length+1+M.length):((A++u::M++v::N).set k u).set i v=A++v::M++u::N:=by
 rw[List.set_comm _ _ (by omega)]
 exact VS hi hk
theorem UU{P1 P2:List Ac}{y:Ac}(h:Dg Ac.mark (P1++P2))(h1:∀x∈P1,x.mark≤y.mark)(h2:∀p∈P2,y.mark < p.mark):By Ac.mark (P1++P2) [y]=P1++y::P2:=by
 have:=Ej (f:=Ac.mark) P1 P2 [y] [] h (by exact List.pairwise_singleton _ _) (by simp) (by simpa using h2)
 rw[List.append_nil] at this;rw[this,RR (by simpa using h1)]
 simp
theorem bX{P:List Ac}{z y:Ac}(h:Dg Ac.mark (P++[z]))(hz:z.mark≤y.mark):∀x∈P++[z],x.mark≤y.mark:=by
 intro x hx;rcases List.mem_append.1 hx with hx|hx
 ·have:=(List.pairwise_append.1 h).2.2 x hx z (by simp)
  omega
 ·simp at hx;subst hx;exact hz
theorem SH{w0:World}{S:St}{id:Nat}(hid:id < S.length){A X C:List Ac}{N:Nat}(hN:(A++X++C).length=N)(hN2:N≤1000000)(hM:∀x∈X,okM x){a b:Int}(ha:a=A.length)(hb:b=A.length+X.length){Q:AV→St→Prop}
  (hq:Q (.tup []) (RcS S id (A++BZ Ac.mark X++C))):AC w0 BC [.rs 19 id 0 N,.int .i64 a,.int .i64 b,TO] (RcS S id (A++X++C)) Q:=by
 apply CV;unfold Bp;have hN':=hN;simp at hN';have w1:IntKind.i64.wrap (a+1)=((A.length+1:Nat):Int):=by rw[wrap64 (by omega) (by omega)];omega
 rw[w1];refine BV (fun i:Nat=>([.int .i64 i],[])) (fun n i S'=>n=A.length+X.length+1 - i∧A.length < i∧∃X1 Y,X=X1++Y∧S'=RcS S id (A++BZ Ac.mark X1++Y++C)∧(X≠[]→i=A.length+X1.length)∧i≤A.length+X.length+1∧(X=[]→b < i))
  (A.length+X.length+1 - (A.length+1)) (A.length+1) (by simp) ⟨rfl,by omega,X.take 1,X.drop 1,(List.take_append_drop 1 X).symm,?_,?_,by omega,?_⟩ ?_
 ·congr 1;cases X with
  |nil=>simp[BZ]
  |cons x X=>simp[BZ,TA]
 ·intro h;have:=List.length_pos_iff.2 h;simp;omega
 ·intro h;subst h;simp at hb;omega
 rintro n i S' v bx ⟨rfl,h0,X1,Y,hX,rfl,h2,h3,h4⟩ hv;simp at hv
 by_cases c:(i:Int) < b
 ·have hXn:X≠[]:=fun e=>by have:=h4 e;omega
  have hi:=h2 hXn;have hl:X.length=X1.length+Y.length:=by rw[hX];simp
  cases Y with
  |nil=>simp at hl;omega
  |cons y Y=>
   simp at hl;have w2:IntKind.i64.wrap ((i:Int)+1)=((i+1:Nat):Int):=by rw[wrap64 (by omega) (by omega)];rfl
   have hy:okM y:=hM y (by rw[hX];simp)
   have hok:∀x∈BZ Ac.mark X1,okM x:=fun x hx=>hM x (by rw[hX];simp[(GH X1).1 hx])
   have hsrt:=Fj (f:=Ac.mark) X1;have hsl:=Cj (f:=Ac.mark) X1;simp[hv,c];rw[w2];refine A7 (fun j=>j (RcS S id (A++BZ Ac.mark (X1++[y])++Y++C))) ?_ (fun j hj=>?_)
   ·refine⟨_,i+1,?_,rfl,rfl,by omega,X1++[y],Y,by rw[hX];simp,by simp,fun _=>by simp;omega,by omega,fun e=>absurd e hXn⟩
    show A.length+X.length+1 - (i+1) < _
    omega
   ·rw[Iw] at hj;refine BV (fun k:Nat=>([.int .i64 k],[])) (fun n k S'=>∃P1 P2,BZ Ac.mark X1=P1++P2∧S'=RcS S id (A++P1++y::P2++Y++C)∧k=A.length+P1.length∧n=P1.length∧∀p∈P2,y.mark < p.mark) (BZ Ac.mark X1).length i (by simp) ⟨BZ Ac.mark X1,[],by simp,by simp,by omega,rfl,by simp⟩ ?_
    rintro n k S' v2 bx2 ⟨P1,P2,e1,rfl,rfl,rfl,hp⟩ hv2;simp at hv2;have hpl:P1.length+P2.length=X1.length:=by rw[←hsl,e1];simp
    rw[e1] at hsrt hj hok;have stop:(∀x∈P1,x.mark≤y.mark)→j (RcS S id (A++P1++y::P2++Y++C)):=by
     intro h;rw[UU hsrt h hp] at hj;simpa using hj
    rcases List.eq_nil_or_concat P1 with rfl|⟨P,z,rfl⟩
    ·have cc:¬((A.length:Int) > a):=by omega
     have:=stop (by simp)
     simp[hv2,AH,ha] at this ⊢;exact this
    ·rw[List.concat_eq_append] at*;simp at hpl hv2;have cc:a < (A.length:Int)+(P.length+1):=by omega
     have w3:IntKind.i64.wrap ((A.length:Int)+(P.length+1) - 1)=((A.length+P.length:Nat):Int):=by rw[wrap64 (by omega) (by omega)];omega
     have hz:okM z:=hok z (by simp)
     have e0:A++(P++(z::(y::(P2++(Y++C)))))=(A++P)++z::[]++y::(P2++(Y++C)):=by simp
     have hlen:((A++P)++z::[]++y::(P2++(Y++C))).length=N:=by simp;omega
     have g1:((A++P)++z::[]++y::(P2++(Y++C)))[A.length+P.length]? =some z:=by rw[List.append_assoc];exact HZ (by simp)
     have g2:((A++P)++z::[]++y::(P2++(Y++C)))[A.length+P.length+1]? =some y:=HZ (by simp;omega)
     have g3:(((A++P)++z::[]++y::(P2++(Y++C))).set (A.length+P.length+1) z)[A.length+P.length]? =some z:=by
      rw[List.getElem?_set_ne (by omega)];exact g1
     have i2:(A.length:Int)+(P.length+1)=((A.length+P.length+1:Nat):Int):=by omega
     simp[hv2,cc];rw[AH];simp only[e0];rw[w3];refine RcS.ld hid hlen i2 g2 ?_;refine RcS.ld hid hlen rfl g1 ?_;simp only[Ei,Lu,Ay];refine Nq hy hz ?_;simp;simp only[e0]
     by_cases cm:y.mark - z.mark < 0
     ·simp[cm];simp only[e0];refine RcS.ld hid hlen rfl g1 ?_;refine RcS.ld hid hlen i2 g2 ?_;simp only[Ei];refine RcS.st hid hlen i2 g2 ?_;refine RcS.st hid (by rw[List.length_set];exact hlen) rfl g3 ?_
      rw[XL (by simp) (by simp)]
      refine⟨_,A.length+P.length,by show P.length < _;omega,by simp,P,z::P2,by simp[e1],by simp,rfl,rfl,?_⟩
      intro p hp2;rcases List.mem_cons.1 hp2 with rfl|hp2
      ·omega
      ·exact hp p hp2
     ·simp[cm];have:=stop (bX (List.pairwise_append.1 hsrt).1 (by omega))
      simpa using this
 ·have e:X1=X∧Y=[]:=by
   by_cases hXn:X=[]
   ·subst hXn;have:=List.append_eq_nil_iff.1 hX.symm;exact⟨this.1,this.2⟩
   ·have hi:=h2 hXn;have hl:X.length=X1.length+Y.length:=by rw[hX];simp
    have:Y=[]:=List.length_eq_zero_iff.1 (by omega)
    subst this;simp at hX;exact⟨hX.symm,rfl⟩
  obtain⟨rfl,rfl⟩:=e;simp[hv,c];simpa using hq
theorem X9{x:Int}(h0:0≤x)(h1:x≤4000000):IntKind.u64.wrap x=x∧AI .shr (.int .u64 x) (.int .u64 1)=some (.int .u64 (x / 2))∧IntKind.i64.wrap (x / 2)=x / 2∧IntKind.i64.wrap (Int.fdiv x (2 ^ 1))=x / 2:=by
 refine⟨?_,?_,wrap64 (by omega) (by omega),?_⟩
 ·simp[IntKind.wrap,IntKind.bits,IntKind.signed];omega
 ·simp[AI,IntKind.bits];rw[Int.fdiv_eq_ediv_of_nonneg _ (by omega)]
 ·rw[Int.fdiv_eq_ediv_of_nonneg _ (by omega)]
  exact wrap64 (by omega) (by omega)
theorem ku{u:Ac}{V1 V2:List Ac}(hs:Dg Ac.mark (V1++V2))(h1:∀v∈V1,v.mark < u.mark)(h2:∀v∈V2,u.mark≤v.mark):By Ac.mark [u] (V1++V2)=V1++u::V2:=by
 have:=Ej (f:=Ac.mark) [] [u] V1 V2 (by exact List.pairwise_singleton _ _) hs (by simp) (by intro y hy x hx;simp at hx;subst hx;exact h1 y hy)
 rw[List.nil_append] at this;rw[this,U9,RR (by intro x hx y hy;simp at hx;subst hx;exact h2 y hy)]
 rfl
theorem Em{l:List Ac}(h:Dg Ac.mark l){i k:Nat}{x y:Ac}(hx:l[i]? =some x)(hy:l[k]? =some y)(hik:i≤k):x.mark≤y.mark:=by
 obtain⟨h1,rfl⟩:=List.getElem?_eq_some_iff.1 hx;obtain⟨h2,rfl⟩:=List.getElem?_eq_some_iff.1 hy
 by_cases e:i=k
 ·subst e;omega
 ·exact List.pairwise_iff_getElem.1 h i k h1 h2 (by omega)
theorem get_at{A V C:List Ac}{k:Nat}{y:Ac}(hy:V[k]? =some y):(A++V++C)[A.length+k]? =some y:=by
 have hl:=(List.getElem?_eq_some_iff.1 hy).1;rw[List.append_assoc,List.getElem?_append_right (by omega),List.getElem?_append_left (by omega)]
 rw[show A.length+k - A.length=k by omega]
 exact hy
theorem Tx{l:List Ac}{k:Nat}{P:Ac→Prop}(h:∀i y,i < k→l[i]? =some y→P y):∀y∈l.take k,P y:=by
 intro y hy;obtain⟨i,hi,rfl⟩:=List.getElem_of_mem hy;rw[List.length_take] at hi;refine h i _ (by omega) ?_
 rw[List.getElem_take,List.getElem?_eq_getElem (by omega)]
theorem aw{l:List Ac}{k:Nat}{P:Ac→Prop}(h:∀i y,k≤i→l[i]? =some y→P y):∀y∈l.drop k,P y:=by
 intro y hy;obtain⟨i,hi,rfl⟩:=List.getElem_of_mem hy;rw[List.length_drop] at hi;refine h (k+i) _ (by omega) ?_
 rw[List.getElem_drop,List.getElem?_eq_getElem (by omega)]
theorem kp{v:Ac}{U1 U2:List Ac}(hs:Dg Ac.mark (U1++U2))(h1:∀x∈U1,x.mark≤v.mark)(h2:∀x∈U2,v.mark < x.mark):By Ac.mark (U1++U2) [v]=U1++v::U2:=UU hs h1 h2
theorem jf{w0:World}{S:St}{id:Nat}(hid:id < S.length){A V C:List Ac}{u:Ac}{N:Nat}(hN:(A++u::(V++C)).length=N)(hN2:N≤1000000)(hMu:okM u)(hM:∀x∈V,okM x)(hV:Dg Ac.mark V){a m b:Int}(ha:a=A.length)(hm:m=A.length+1)(hb:b=A.length+1+V.length){Q:AV→St→Prop}
  (hq:Q (.tup []) (RcS S id (A++By Ac.mark [u] V++C))):AC w0 Ax [.rs 19 id 0 N,.int .i64 a,.int .i64 m,.int .i64 b,TO] (RcS S id (A++u::(V++C))) Q:=by
 apply B8;unfold Bg;have hN':=hN;simp at hN';have w1:IntKind.i64.wrap (m - a)=1:=by rw[wrap64 (by omega) (by omega)];omega
 simp only[AH,w1];have t1:((1:Int)==1)=true:=rfl;simp only[t1];simp only[FN];have hu0:(A++u::(V++C))[A.length]? =some u:=HZ rfl;refine BV (fun p:Nat×Nat=>([.int .i64 p.1,.int .i64 p.2],[])) (fun n p S'=>S'=RcS S id (A++u::(V++C))∧n=p.2 - p.1∧A.length+1≤p.1∧p.1≤p.2∧p.2≤A.length+1+V.length∧(∀i y,i < p.1 - (A.length+1)→V[i]? =some y→y.mark < u.mark)∧(∀i y,p.2 - (A.length+1)≤i→V[i]? =some y→u.mark≤y.mark))
  V.length (A.length+1,A.length+1+V.length) ?_ ⟨rfl,by simp,by simp,by simp,by simp,by intro i y h;simp at h,?_⟩ ?_
 ·rw[hm,hb];simp
 ·intro i y h1 h2;have:=(List.getElem?_eq_some_iff.1 h2).1;simp at h1;omega
 rintro n ⟨p,q⟩ S' v bx ⟨rfl,rfl,h1,h2,h3,h4,h5⟩ hv;simp at hv h1 h2 h3 h4 h5;obtain⟨hv1,hv2⟩:=hv
 by_cases c:p < q
 ·have hs:(p:Int)+q=((p+q:Nat):Int):=by omega
  obtain⟨k,hk⟩:∃k:Nat,k=(p+q) / 2:=⟨_,rfl⟩;have hk2:((p:Int)+q) / 2=(k:Int):=by omega
  have w2:IntKind.i64.wrap ((p:Int)+q)=(p:Int)+q:=wrap64 (by omega) (by omega)
  obtain⟨e1,e2,e3,_⟩:=X9 (x:=(p:Int)+q) (by omega) (by omega)
  obtain⟨y,hy⟩:∃y,V[k - (A.length+1)]? =some y:=⟨V[k - (A.length+1)]'(by omega),by rw[List.getElem?_eq_getElem]⟩
  have gy:(A++u::(V++C))[k]? =some y:=by
   have:=get_at (A:=A++[u]) (C:=C) hy;rw[show (A++[u]).length+(k - (A.length+1))=k by simp;omega] at this
   simpa using this
  have hoy:okM y:=hM y (List.mem_of_getElem? hy);have w4:IntKind.i64.wrap (((p:Int)+q) / 2+1)=((k+1:Nat):Int):=by rw[wrap64 (by omega) (by omega)];omega
  simp[hv1,hv2,c,w2,e1,e2,e3];refine RcS.ld hid hN hk2 gy ?_;refine RcS.ld hid hN ha hu0 ?_;simp only[Ei,Lu,Ay];refine Nq hoy hMu ?_;simp
  by_cases cm:y.mark - u.mark < 0
  ·simp[cm];rw[w4];refine⟨_,(k+1,q),by show q - (k+1) < q - p;omega,rfl,rfl,rfl,by show _≤k+1;omega,by show k+1≤q;omega,h3,?_,h5⟩
   intro i z hi hz;have:=Em hV hz hy (by simp at hi;omega)
   omega
  ·simp[cm];rw[hk2];refine⟨_,(p,k),by show k - p < q - p;omega,rfl,rfl,rfl,h1,by show p≤k;omega,by show k≤_;omega,h4,?_⟩
   intro i z hi hz;have:=Em hV hy hz (by simp at hi;omega)
   omega
 ·have:p=q:=by omega
  subst this;obtain⟨r,hr⟩:∃r,r=p - (A.length+1):=⟨_,rfl⟩
  replace h4:∀i y,i < r→V[i]? =some y→y.mark < u.mark:=fun i y h=>h4 i y (by omega)
  replace h5:∀i y,r≤i→V[i]? =some y→u.mark≤y.mark:=fun i y h=>h5 i y (by omega)
  have hV2:V.take r++V.drop r=V:=List.take_append_drop r V;have e:=ku (u:=u) (V1:=V.take r) (V2:=V.drop r) (by rw[hV2];exact hV) (Tx h4) (aw h5)
  rw[hV2] at e;rw[e] at hq;simp[hv1,hv2];refine BV (fun k:Nat=>([.int .i64 k],[])) (fun n k S'=>∃Va Vb,V.take r=Va++Vb∧S'=RcS S id (A++Va++u::Vb++V.drop r++C)∧k=A.length+Va.length∧n=Vb.length) (V.take r).length A.length (by simp[ha]) ⟨[],V.take r,rfl,?_,by simp,rfl⟩ ?_
  ·conv=>lhs;rw[←hV2]
   simp
  rintro n k S' v2 bx2 ⟨Va,Vb,e1,rfl,rfl,rfl⟩ hv2';simp at hv2';have hrl:Va.length+Vb.length=r:=by
   have:=congrArg List.length e1;simp at this;omega
  have w2:IntKind.i64.wrap ((p:Int) - 1)=((A.length+r:Nat):Int):=by rw[wrap64 (by omega) (by omega)];omega
  simp only[w2,hv2'];cases Vb with
  |nil=>
   simp at hrl e1;have cc:¬((A.length:Int)+Va.length < A.length+r):=by omega
   rw[e1] at hq;simp[cc];simpa using hq
  |cons z Vb=>
   simp at hrl;have cc:(A.length:Int)+Va.length < A.length+r:=by omega
   have w3:IntKind.i64.wrap ((A.length:Int)+Va.length+1)=((A.length+Va.length+1:Nat):Int):=by rw[wrap64 (by omega) (by omega)];omega
   have e0:A++(Va++(u::(z::(Vb++(V.drop r++C)))))=(A++Va)++u::[]++z::(Vb++(V.drop r++C)):=by simp
   have hlen:((A++Va)++u::[]++z::(Vb++(V.drop r++C))).length=N:=by simp;omega
   have g1:((A++Va)++u::[]++z::(Vb++(V.drop r++C)))[A.length+Va.length]? =some u:=by rw[List.append_assoc];exact HZ (by simp)
   have g2:((A++Va)++u::[]++z::(Vb++(V.drop r++C)))[A.length+Va.length+1]? =some z:=HZ (by simp;omega)
   have g3:(((A++Va)++u::[]++z::(Vb++(V.drop r++C))).set (A.length+Va.length) z)[A.length+Va.length+1]? =some z:=by
    rw[List.getElem?_set_ne (by omega)];exact g2
   simp[cc,hrl];simp only[e0];rw[w3];have i1:(A.length:Int)+Va.length=((A.length+Va.length:Nat):Int):=by omega
   refine RcS.ld hid hlen rfl g2 ?_;refine RcS.ld hid hlen i1 g1 ?_;simp only[Ei];refine RcS.st hid hlen i1 g1 ?_;refine RcS.st hid (by rw[List.length_set];exact hlen) rfl g3 ?_
   rw[VS (by simp) (by simp)]
   exact⟨_,A.length+Va.length+1,by show Vb.length < _;simp,by simp,Va++[z],Vb,by simp[e1],by simp,by simp;omega,rfl⟩
theorem fN{w0:World}{S:St}{id:Nat}(hid:id < S.length){A U C:List Ac}{u:Ac}{N:Nat}(hN:(A++U++u::C).length=N)(hN2:N≤1000000)(hMu:okM u)(hM:∀x∈U,okM x)(hU:Dg Ac.mark U)(h2U:2≤U.length){a m b:Int}(ha:a=A.length)(hm:m=A.length+U.length)(hb:b=A.length+U.length+1){Q:AV→St→Prop}
  (hq:Q (.tup []) (RcS S id (A++By Ac.mark U [u]++C))):AC w0 Ax [.rs 19 id 0 N,.int .i64 a,.int .i64 m,.int .i64 b,TO] (RcS S id (A++U++u::C)) Q:=by
 apply B8;unfold Bg;have hN':=hN;simp at hN';have w0:IntKind.i64.wrap (m - a)=(U.length:Int):=by rw[wrap64 (by omega) (by omega)];omega
 have w1:IntKind.i64.wrap (b - m)=1:=by rw[wrap64 (by omega) (by omega)];omega
 simp only[AH,w1,w0];have t1:((1:Int)==1)=true:=rfl;have t0:((U.length:Int)==1)=false:=by simp;omega
 simp only[t1,t0];simp only[FN,EU];have hu0:(A++U++u::C)[A.length+U.length]? =some u:=HZ (by simp)
 refine BV (fun p:Nat×Nat=>([.int .i64 p.1,.int .i64 p.2],[])) (fun n p S'=>S'=RcS S id (A++U++u::C)∧n=p.2 - p.1∧A.length≤p.1∧p.1≤p.2∧p.2≤A.length+U.length∧(∀i y,i < p.1 - A.length→U[i]? =some y→y.mark≤u.mark)∧(∀i y,p.2 - A.length≤i→U[i]? =some y→u.mark < y.mark))
  U.length (A.length,A.length+U.length) ?_ ⟨rfl,by simp,by simp,by simp,by simp,by intro i y h;simp at h,?_⟩ ?_
 ·rw[hm,ha];simp
 ·intro i y h1 h2;have:=(List.getElem?_eq_some_iff.1 h2).1;simp at h1;omega
 rintro n ⟨p,q⟩ S' v bx ⟨rfl,rfl,h1,h2,h3,h4,h5⟩ hv;simp at hv h1 h2 h3 h4 h5;obtain⟨hv1,hv2⟩:=hv;have r0:A++(U++u::C)=A++U++u::C:=by simp
 by_cases c:p < q
 ·have hs:(p:Int)+q=((p+q:Nat):Int):=by omega
  obtain⟨k,hk⟩:∃k:Nat,k=(p+q) / 2:=⟨_,rfl⟩;have hk2:((p:Int)+q) / 2=(k:Int):=by omega
  have w2:IntKind.i64.wrap ((p:Int)+q)=(p:Int)+q:=wrap64 (by omega) (by omega)
  obtain⟨e1,e2,e3,_⟩:=X9 (x:=(p:Int)+q) (by omega) (by omega)
  obtain⟨y,hy⟩:∃y,U[k - A.length]? =some y:=⟨U[k - A.length]'(by omega),by rw[List.getElem?_eq_getElem]⟩
  have gy:(A++U++u::C)[k]? =some y:=by
   have:=get_at (A:=A) (C:=u::C) hy;rw[show A.length+(k - A.length)=k by omega] at this
   exact this
  have hoy:okM y:=hM y (List.mem_of_getElem? hy);have w4:IntKind.i64.wrap (((p:Int)+q) / 2+1)=((k+1:Nat):Int):=by rw[wrap64 (by omega) (by omega)];omega
  simp[hv1,hv2,c,w2,e1,e2,e3];simp only[r0];refine RcS.ld hid hN (by rw[hm];rfl) hu0 ?_
  refine RcS.ld hid hN hk2 gy ?_;simp only[Ei,Lu,Ay];refine Nq hMu hoy ?_;simp
  by_cases cm:u.mark - y.mark < 0
  ·simp[cm];rw[hk2];refine⟨_,(p,k),by show k - p < q - p;omega,rfl,by simp,rfl,h1,by show p≤k;omega,by show k≤_;omega,h4,?_⟩
   intro i z hi hz;have:=Em hU hy hz (by simp at hi;omega)
   omega
  ·simp[cm];rw[w4];refine⟨_,(k+1,q),by show q - (k+1) < q - p;omega,rfl,by simp,rfl,by show _≤k+1;omega,by show k+1≤q;omega,h3,?_,h5⟩
   intro i z hi hz;have:=Em hU hz hy (by simp at hi;omega)
   omega
 ·have:p=q:=by omega
  subst this;obtain⟨r,hr⟩:∃r,r=p - A.length:=⟨_,rfl⟩
  replace h4:∀i y,i < r→U[i]? =some y→y.mark≤u.mark:=fun i y h=>h4 i y (by omega)
  replace h5:∀i y,r≤i→U[i]? =some y→u.mark < y.mark:=fun i y h=>h5 i y (by omega)
  have hU2:U.take r++U.drop r=U:=List.take_append_drop r U;have e:=kp (v:=u) (U1:=U.take r) (U2:=U.drop r) (by rw[hU2];exact hU) (Tx h4) (aw h5)
  rw[hU2] at e;rw[e] at hq;simp[hv1,hv2];refine BV (fun k:Nat=>([.int .i64 k],[])) (fun n k S'=>∃Ua Ub,U.drop r=Ua++Ub∧S'=RcS S id (A++U.take r++Ua++u::Ub++C)∧k=p+Ua.length∧n=Ua.length) (U.drop r).length (A.length+U.length) (by rw[hm];simp) ⟨U.drop r,[],by simp,?_,?_,rfl⟩ ?_
  ·conv=>lhs;rw[←hU2]
   simp
  ·simp;omega
  rintro n k S' v2 bx2 ⟨Ua,Ub,e1,rfl,rfl,rfl⟩ hv2';simp at hv2';have hrl:Ua.length+Ub.length+r=U.length:=by
   have:=congrArg List.length e1;simp at this;omega
  have htl:(U.take r).length=r:=by rw[List.length_take];omega
  rcases List.eq_nil_or_concat Ua with rfl|⟨P,z,rfl⟩
  ·simp at hrl e1 hv2';rw[e1] at hq;simp[hv2'];simpa using hq
  ·rw[List.concat_eq_append] at*;simp at hrl hv2';have cc:(p:Int) < p+(P.length+1):=by omega
   have w3:IntKind.i64.wrap ((p:Int)+(P.length+1) - 1)=((A.length+r+P.length:Nat):Int):=by rw[wrap64 (by omega) (by omega)];omega
   have e0:A++(U.take r++(P++(z::(u::(Ub++C)))))=(A++U.take r++P)++z::[]++u::(Ub++C):=by simp
   have hlen:((A++U.take r++P)++z::[]++u::(Ub++C)).length=N:=by simp;omega
   have g1:((A++U.take r++P)++z::[]++u::(Ub++C))[A.length+r+P.length]? =some z:=by rw[List.append_assoc];exact HZ (by simp;omega)
   have g2:((A++U.take r++P)++z::[]++u::(Ub++C))[A.length+r+P.length+1]? =some u:=HZ (by simp;omega)
   have g3:(((A++U.take r++P)++z::[]++u::(Ub++C)).set (A.length+r+P.length+1) z)[A.length+r+P.length]? =some z:=by
    rw[List.getElem?_set_ne (by omega)];exact g1
   have i2:(p:Int)+(P.length+1)=((A.length+r+P.length+1:Nat):Int):=by omega
   simp[hv2',cc];simp only[e0];rw[w3];refine RcS.ld hid hlen rfl g1 ?_;refine RcS.ld hid hlen i2 g2 ?_;simp only[Ei];refine RcS.st hid hlen i2 g2 ?_;refine RcS.st hid (by rw[List.length_set];exact hlen) rfl g3 ?_
   rw[XL (by simp;omega) (by simp;omega)]
   exact⟨_,p+P.length,by show P.length < _;simp,by simp;omega,P,z::Ub,by simp[e1],by simp,rfl,rfl⟩
theorem PZ{l:List Ac}(h:Dg Ac.mark l)(s:Nat):Dg Ac.mark (l.take s)∧Dg Ac.mark (l.drop s):=by
 rw[←List.take_append_drop s l] at h;have:=List.pairwise_append.1 h;exact⟨this.1,this.2.1⟩
def oI(U V:List Ac)(i k:Nat):Prop:=∃x y,U[i]? =some x∧V[k]? =some y∧x.mark≤y.mark
def oO(U V:List Ac)(i k:Nat):Prop:=∃x y,U[i]? =some x∧V[k]? =some y∧y.mark < x.mark
set_option maxHeartbeats 2000000 in
theorem T8{w0:World}{S:St}{id:Nat}(hid:id < S.length){N:Nat}(hN2:N≤1000000)(d:Nat):∀{A U V C:List Ac} (hd:U.length+V.length≤d) (hN:(A++U++V++C).length=N) (hMU:∀x∈U,okM x) (hMV:∀x∈V,okM x) (hU:Dg Ac.mark U) (hV:Dg Ac.mark V) (nU:U≠[]) (nV:V≠[]) {a m b:Int} (ha:a=A.length) (hm:m=A.length+U.length) (hb:b=A.length+U.length+V.length) {Q:AV→St→Prop}
  (hq:Q (.tup []) (RcS S id (A++By Ac.mark U V++C))),AC w0 Ax [.rs 19 id 0 N,.int .i64 a,.int .i64 m,.int .i64 b,TO] (RcS S id (A++U++V++C)) Q:=by
 induction d with
 |zero=>
  intro A U V C hd hN hMU hMV hU hV nU;exact absurd (List.length_eq_zero_iff.1 (by omega)) nU
 |succ d ih=>
  intro A U V C hd hN hMU hMV hU hV nU nV a m b ha hm hb Q hq;have lU:=List.length_pos_iff.2 nU;have lV:=List.length_pos_iff.2 nV;have hN':=hN;simp at hN'
  by_cases c1:U.length=1
  ·obtain⟨u,rfl⟩:=List.length_eq_one_iff.1 c1;have e:A++[u]++V++C=A++u::(V++C):=by simp
   rw[e] at hN ⊢;exact jf hid hN hN2 (hMU u (by simp)) hMV hV ha (by simpa using hm) (by simpa using hb) hq
  by_cases c2:V.length=1
  ·obtain⟨u,rfl⟩:=List.length_eq_one_iff.1 c2;have e:A++U++[u]++C=A++U++u::C:=by simp
   rw[e] at hN ⊢;exact fN hid hN hN2 (hMV u (by simp)) hMU hU (by omega) ha hm (by simpa using hb) hq
  apply B8;unfold Bg;obtain⟨h,hh⟩:∃h,h=(U.length+V.length) / 2:=⟨_,rfl⟩;obtain⟨M,hM⟩:∃M:Int,M=A.length+h:=⟨_,rfl⟩;have hmid:IntKind.i64.wrap (Int.fdiv (IntKind.u64.wrap (IntKind.i64.wrap (a+b))) (2 ^ 1))=M:=by
   have w:IntKind.i64.wrap (a+b)=a+b:=wrap64 (by omega) (by omega)
   obtain⟨e1,_,_,e4⟩:=X9 (x:=a+b) (by omega) (by omega)
   rw[w,e1,e4];omega
  have w1:IntKind.i64.wrap (m - a)=(U.length:Int):=by rw[wrap64 (by omega) (by omega)];omega
  have w2:IntKind.i64.wrap (b - m)=(V.length:Int):=by rw[wrap64 (by omega) (by omega)];omega
  have t1:((U.length:Int)==1)=false:=by simp;omega
  have t2:((V.length:Int)==1)=false:=by simp;omega
  have w3:IntKind.i64.wrap (M+m)=M+m:=wrap64 (by omega) (by omega)
  have w4:IntKind.i64.wrap (M+m - b)=M+m - b:=wrap64 (by omega) (by omega)
  have w5:IntKind.i64.wrap (M+m - 1)=M+m - 1:=wrap64 (by omega) (by omega)
  simp only[hmid,w1,w2,w3,w4,w5,t1,t2];rw[AH,EU,AH,EU];refine A7 (fun j=>∀lo hi:Nat,A.length≤lo→lo≤hi→hi≤A.length+U.length→hi≤A.length+h→(M+m≤b+lo)→(lo=A.length∨M+m=b+lo)→(hi=A.length+U.length∨hi=A.length+h)→j (.int .i64 lo) (.int .i64 hi)) (fun lo hi p1 p2 p3 p4 p5 p6 p7=>?_) (fun j hj=>?_)
  ·refine A7 (fun j=>∀st:Nat,lo≤st→st≤hi→(st=lo∨oI U V (st - 1 - A.length) (A.length+h - st))→(st=hi∨oO U V (st - A.length) (A.length+h - st - 1))→j (.int .i64 st) (RcS S id (A++U++V++C))) (fun st q1 q2 q3 q4=>?_) (fun j hj=>?_)
   ·obtain⟨s,hs⟩:∃s,s=st - A.length:=⟨_,rfl⟩;obtain⟨t,ht⟩:∃t,t=h - s:=⟨_,rfl⟩;have hst:st=A.length+s:=by omega
    subst hst;have htV:t≤V.length:=by omega
    have hsU:s≤U.length:=by omega
    have sU:=PZ hU s;have sV:=PZ hV t;have eU:=List.take_append_drop s U;have eV:=List.take_append_drop t V;have f1:∀x∈U.take s,∀y∈V.drop t,x.mark≤y.mark:=by
     intro x hx y hy;obtain⟨i,hi1,rfl⟩:=List.getElem_of_mem hx;obtain⟨k,hk1,rfl⟩:=List.getElem_of_mem hy;rw[List.length_take] at hi1;rw[List.length_drop] at hk1;rw[List.getElem_take,List.getElem_drop];rcases q3 with q3|⟨x,y,hx2,hy2,hxy⟩
     ·omega
     ·have g1:=Em hU (List.getElem?_eq_getElem (i:=i) (by omega)) hx2 (by omega)
      have g2:=Em hV hy2 (List.getElem?_eq_getElem (i:=t+k) (by omega)) (by omega)
      omega
    have f2:∀y∈V.take t,∀x∈U.drop s,y.mark < x.mark:=by
     intro y hy x hx;obtain⟨i,hi1,rfl⟩:=List.getElem_of_mem hy;obtain⟨k,hk1,rfl⟩:=List.getElem_of_mem hx;rw[List.length_take] at hi1;rw[List.length_drop] at hk1;rw[List.getElem_take,List.getElem_drop];rcases q4 with q4|⟨x,y,hx2,hy2,hxy⟩
     ·omega
     ·have g1:=Em hV (List.getElem?_eq_getElem (i:=i) (by omega)) hy2 (by omega)
      have g2:=Em hU hx2 (List.getElem?_eq_getElem (i:=s+k) (by omega)) (by omega)
      omega
    have hmg:=Ej (f:=Ac.mark) (U.take s) (U.drop s) (V.take t) (V.drop t) (by rw[eU];exact hU) (by rw[eV];exact hV) f1 f2
    rw[eU,eV] at hmg;rw[hmg] at hq;have w6:IntKind.i64.wrap (M+m - (A.length+s))=m+t:=by rw[wrap64 (by omega) (by omega)];omega
    have lts:(U.take s).length=s:=by rw[List.length_take];omega
    have ltt:(V.take t).length=t:=by rw[List.length_take];omega
    simp[w6];refine A7 (fun j=>j (RcS S id (A++U.take s++V.take t++(U.drop s++V.drop t++C)))) ?_ (fun j hj=>?_)
    ·refine A7 (fun j=>j (RcS S id (A++By Ac.mark (U.take s) (V.take t)++U.drop s++V.drop t++C))) ?_ (fun j hj=>?_)
     ·have lmg:(By Ac.mark (U.take s) (V.take t)).length=h:=by rw[LQ,lts,ltt];omega
      by_cases c5:M < m+t∧m+t < b
      ·simp[c5,Dn];have r0:A++(By Ac.mark (U.take s) (V.take t)++(U.drop s++(V.drop t++C)))=(A++By Ac.mark (U.take s) (V.take t))++U.drop s++V.drop t++C:=by simp
       rw[r0];refine ih ?_ ?_ (fun x hx=>hMU x (List.mem_of_mem_drop hx)) (fun x hx=>hMV x (List.mem_of_mem_drop hx)) sU.2 sV.2 ?_ ?_ ?_ ?_ ?_ ?_
       ·simp;omega
       ·simp;omega
       ·intro e;have:=congrArg List.length e;simp at this;omega
       ·intro e;have:=congrArg List.length e;simp at this;omega
       ·simp;omega
       ·simp;omega
       ·simp;omega
       ·simpa using hq
      ·have e:By Ac.mark (U.drop s) (V.drop t)=U.drop s++V.drop t:=by
        by_cases c6:M < m+t
        ·have:V.drop t=[]:=List.drop_eq_nil_iff.2 (by omega)
         rw[this];simp
        ·have:U.drop s=[]:=List.drop_eq_nil_iff.2 (by omega)
         rw[this];simp
       rw[e] at hq;have c5':(decide (M < m+t)&&decide (m+t < b))=false:=by simp;omega
       simp[c5'];simpa using hq
     ·by_cases c5:a < A.length+s∧(A.length:Int)+s < M
      ·simp[c5,Dn];have r0:A++(U.take s++(V.take t++(U.drop s++(V.drop t++C))))=A++U.take s++V.take t++(U.drop s++V.drop t++C):=by simp
       rw[r0];refine ih ?_ ?_ (fun x hx=>hMU x (List.mem_of_mem_take hx)) (fun x hx=>hMV x (List.mem_of_mem_take hx)) sU.1 sV.1 ?_ ?_ ?_ ?_ ?_ ?_
       ·simp;omega
       ·simp;omega
       ·intro e;rw[e] at lts;simp at lts;omega
       ·intro e;rw[e] at ltt;simp at ltt;omega
       ·exact ha
       ·rw[lts]
       ·rw[lts,ltt];omega
       ·simpa using hj
      ·have e:By Ac.mark (U.take s) (V.take t)=U.take s++V.take t:=by
        by_cases c6:s=0
        ·subst c6;simp
        ·have:t=0:=by omega
         subst this;simp
       rw[e] at hj;have c5':(decide (a < (A.length:Int)+s)&&decide ((A.length:Int)+s < M))=false:=by simp;omega
       simp[c5'];simpa using hj
    ·by_cases c5:(A.length:Int)+s < m∧m < m+t
     ·simp[c5,Dn];have r0:A++(U++(V++C))=(A++U.take s)++U.drop s++V.take t++(V.drop t++C):=by
       simp only[List.append_assoc];rw[←List.append_assoc (U.take s),eU,←List.append_assoc (V.take t),eV]
      rw[r0];refine iZ hid ?_ hN2 ?_ ?_ ?_ ?_ ?_ ?_
      ·simp;omega
      ·intro e;have:=congrArg List.length e;simp at this;omega
      ·intro e;rw[e] at ltt;simp at ltt;omega
      ·simp;omega
      ·simp;omega
      ·simp;omega
      ·simpa using hj
     ·have e:U.drop s++V.take t=V.take t++U.drop s:=by
       by_cases c6:t=0
       ·subst c6;simp
       ·have:U.drop s=[]:=List.drop_eq_nil_iff.2 (by omega)
        rw[this];simp
      have r0:A++(U++(V++C))=A++(U.take s++(V.take t++(U.drop s++(V.drop t++C)))):=by
       have:V.take t++(U.drop s++(V.drop t++C))=U.drop s++(V.take t++(V.drop t++C)):=by rw[←List.append_assoc,←e,List.append_assoc]
       rw[this,←List.append_assoc (U.take s),eU,←List.append_assoc (V.take t),eV]
      have c5':(decide ((A.length:Int)+s < m)&&decide (m < m+(t:Int)))=false:=by simp;omega
      simp[c5'];rw[r0];simpa using hj
   ·refine BV (fun p:Nat×Nat=>([.int .i64 p.1,.int .i64 p.2],[])) (fun n p S'=>S'=RcS S id (A++U++V++C)∧n=p.2 - p.1∧lo≤p.1∧p.1≤p.2∧p.2≤hi∧(p.1=lo∨oI U V (p.1 - 1 - A.length) (A.length+h - p.1))∧(p.2=hi∨oO U V (p.2 - A.length) (A.length+h - p.2 - 1)))
     (hi - lo) (lo,hi) (by simp) ⟨rfl,rfl,Nat.le_refl _,p2,Nat.le_refl _,.inl rfl,.inl rfl⟩ ?_
    rintro n ⟨p,q⟩ S' v bx ⟨rfl,rfl,k1,k2,k3,k4,k5⟩ hv;simp at hv k1 k2 k3 k4 k5;obtain⟨hv1,hv2⟩:=hv
    by_cases c:p < q
    ·obtain⟨k,hk⟩:∃k:Nat,k=(p+q) / 2:=⟨_,rfl⟩;have hk2:((p:Int)+q) / 2=(k:Int):=by omega
     have w6:IntKind.i64.wrap ((p:Int)+q)=(p:Int)+q:=wrap64 (by omega) (by omega)
     obtain⟨e1,e2,e3,_⟩:=X9 (x:=(p:Int)+q) (by omega) (by omega)
     have hkU:k - A.length < U.length:=by omega
     have hkV:A.length+h - k - 1 < V.length:=by omega
     have hy:=List.getElem?_eq_getElem hkU;have hx:=List.getElem?_eq_getElem hkV;have gy:(A++U++V++C)[k]? =some U[k - A.length]:=by
      have:=get_at (A:=A) (C:=V++C) hy;rw[show A.length+(k - A.length)=k by omega] at this
      simpa using this
     have gx:(A++U++V++C)[A.length+U.length+(A.length+h - k - 1)]? =some V[A.length+h - k - 1]:=by
      have:=get_at (A:=A++U) (C:=C) hx;simpa using this
     have oy:okM U[k - A.length]:=hMU _ (List.getElem_mem _);have ox:okM V[A.length+h - k - 1]:=hMV _ (List.getElem_mem _);have w7:IntKind.i64.wrap (M+m - 1 - ((p:Int)+q) / 2)=((A.length+U.length+(A.length+h - k - 1):Nat):Int):=by rw[wrap64 (by omega) (by omega)];omega
     have w8:IntKind.i64.wrap (((p:Int)+q) / 2+1)=((k+1:Nat):Int):=by rw[wrap64 (by omega) (by omega)];omega
     have r0:A++(U++(V++C))=A++U++V++C:=by simp
     generalize U[k - A.length]=y at hy gy oy;generalize V[A.length+h - k - 1]=x at hx gx ox;simp[hv1,hv2,c,w6,e1,e2,e3];rw[w7];simp only[r0];refine RcS.ld hid hN rfl gx ?_;refine RcS.ld hid hN hk2 gy ?_;simp only[Ei,Lu,Ay];refine Nq ox oy ?_;simp
     by_cases cm:x.mark - y.mark < 0
     ·simp[cm];rw[hk2];refine⟨_,(p,k),by show k - p < q - p;omega,rfl,by simp,rfl,k1,by show p≤k;omega,by show k≤hi;omega,k4,.inr ⟨y,x,hy,hx,by omega⟩⟩
     ·simp[cm];rw[w8];refine⟨_,(k+1,q),by show q - (k+1) < q - p;omega,rfl,by simp,rfl,by show lo≤k+1;omega,by show k+1≤q;omega,k3,.inr ⟨y,x,?_,?_,by omega⟩,k5⟩
      ·show U[k+1 - 1 - A.length]? =_
       rw[Nat.add_sub_cancel];exact hy
      ·show V[A.length+h - (k+1)]? =_
       rw[←Nat.sub_sub];exact hx
    ·have:p=q:=by omega
     subst this;simp[hv1,hv2];have:=hj p k1 k3 k4 k5;simpa using this
  ·by_cases c3:M < m
   ·simp[c3];have:=hj (A.length+h - V.length) (A.length+h) (by omega) (by omega) (by omega) (by omega) (by omega) (by omega) (by omega)
    have e:M+m - b=((A.length+h - V.length:Nat):Int):=by omega
    rw[e,hM];simpa using this
   ·simp[c3];have:=hj A.length (A.length+U.length) (by omega) (by omega) (by omega) (by omega) (by omega) (by omega) (by omega)
    rw[ha,hm];simpa using this
local notation "sK" =>BZ Ac.mark
def Hy(k:Nat)(l:List Ac):List Ac:=if h:l.length≤k∨k=0 then BZ Ac.mark l else BZ Ac.mark (l.take k)++Hy k (l.drop k)
termination_by l.length
decreasing_by simp only[List.length_drop];omega
theorem Ii{k:Nat}{l:List Ac}(h:l.length≤k):Hy k l=BZ Ac.mark l:=by rw[Hy,dif_pos (.inl h)]
theorem Qz{k:Nat}(hk:0 < k){l:List Ac}(h:k≤l.length):Hy k l=BZ Ac.mark (l.take k)++Hy k (l.drop k):=by
 by_cases e:l.length=k
 ·rw[Ii (by omega),Ii (l:=l.drop k) (by simp;omega)]
  have h1:l.take k=l:=List.take_of_length_le (by omega)
  have h2:l.drop k=[]:=List.drop_eq_nil_iff.2 (by omega)
  rw[h1,h2,XT,List.append_nil]
 ·conv=>lhs;rw[Hy]
  rw[dif_neg (by omega)]
theorem jJ(k:Nat):∀(n:Nat) (l:List Ac),l.length≤n→(Hy k l).length=l.length:=by
 intro n
 induction n with
 |zero=>intro l h;rw[Ii (by omega),Cj]
 |succ n ih=>
  intro l h;rw[Hy];split
  ·rw[Cj]
  ·rw[List.length_append,Cj,ih _ (by simp;omega)];simp;omega
theorem iV{w0:World}{S:St}{id:Nat}(hid:id < S.length){l:List Ac}(hN2:l.length≤100000)(hM:∀x∈l,okM x){Q:AV→St→Prop}
  (hq:Q (.tup []) (RcS S id (BZ Ac.mark l))):AC w0 Bw [.rs 19 id 0 l.length,.int .i64 l.length,TO] (RcS S id l) Q:=by
 apply DJ;unfold CG;refine A7 (fun j=>∀D R:List Ac,D++Hy 20 R=Hy 20 l→D.length+R.length=l.length→R.length < 20→(∀x∈R,okM x)→j (.int .i64 D.length) (RcS S id (D++R))) (fun D R h1 h2 h3 h4=>?_) (fun j hj=>?_)
 ·simp[Dn];have r0:D++R=D++R++[]:=by simp
  rw[r0];refine SH hid ?_ (by omega) h4 rfl ?_ ?_
  ·simpa using h2
  ·omega
  rw[List.append_nil,←Ii (k:=20) (by omega),h1]
  refine BV (fun k:Nat=>([.int .i64 k],[])) (fun n k S'=>S'=RcS S id (Hy k l)∧20≤k∧n=2*l.length - k∧k≤200000) (2*l.length - 20) 20 (by simp) ⟨rfl,by omega,rfl,by omega⟩ ?_
  rintro n k S' v bx ⟨rfl,k1,rfl,k2⟩ hv;simp at hv
  by_cases c:k < l.length
  ·have w1:IntKind.i64.wrap (2*(k:Int))=((2*k:Nat):Int):=by rw[wrap64 (by omega) (by omega)];omega
   have w2:IntKind.i64.wrap ((k:Int)*2)=((2*k:Nat):Int):=by rw[wrap64 (by omega) (by omega)];omega
   simp[hv,c,w1,w2];refine A7 (fun j=>∀D R:List Ac,D++Hy (2*k) R=Hy (2*k) l→D.length+R.length=l.length→R.length < 2*k→(∀x∈R,okM x)→j (.int .i64 D.length) (RcS S id (D++Hy k R))) (fun D R g1 g2 g3 g4=>?_) (fun j hj=>?_)
   ·have w3:IntKind.i64.wrap ((D.length:Int)+k)=((D.length+k:Nat):Int):=by rw[wrap64 (by omega) (by omega)];omega
    simp only[Xm,iu,Ay,w3];refine A7 (fun j=>j (RcS S id (Hy (2*k) l))) ?_ (fun j hj=>?_)
    ·refine⟨_,2*k,?_,rfl,rfl,by omega,rfl,by omega⟩
     show 2*l.length - 2*k < _
     omega
    ·by_cases c2:D.length+k < l.length
     ·have c2':(D.length:Int)+k < l.length:=by omega
      simp[c2',Dn];have e1:=Qz (k:=k) (by omega) (l:=R) (by omega)
      rw[Ii (l:=R.drop k) (by simp;omega)] at e1
      have r0:D++Hy k R=D++BZ Ac.mark (R.take k)++BZ Ac.mark (R.drop k)++[]:=by rw[e1];simp
      have l1:(BZ Ac.mark (R.take k)).length=k:=by rw[Cj];simp;omega
      have l2:(BZ Ac.mark (R.drop k)).length=R.length - k:=by rw[Cj];simp
      rw[r0];refine T8 hid (by omega) _ (Nat.le_refl _) ?_ ?_ ?_ (Fj _) (Fj _) ?_ ?_ rfl ?_ ?_ ?_
      ·simp only[List.length_append,l1,l2,List.length_nil];omega
      ·exact fun x hx=>g4 x (List.mem_of_mem_take ((GH _).1 hx))
      ·exact fun x hx=>g4 x (List.mem_of_mem_drop ((GH _).1 hx))
      ·intro e;rw[e] at l1;simp at l1;omega
      ·intro e;rw[e] at l2;simp at l2;omega
      ·rw[l1]
      ·rw[l1,l2];omega
      ·rw[←Po,List.take_append_drop,List.append_nil,←Ii (k:=2*k) (by omega),g1]
       exact hj
     ·have c2':¬((D.length:Int)+k < l.length):=by omega
      have e1:Hy k R=Hy (2*k) R:=by rw[Ii (by omega),Ii (by omega)]
      rw[←g1,←e1] at hj;simp[c2'];exact hj
   ·refine BV (fun a:Nat=>([.int .i64 a,.int .i64 ((a+2*k:Nat):Int)],[])) (fun n a S'=>∃D R:List Ac,D++Hy (2*k) R=Hy (2*k) l∧D.length+R.length=l.length∧S'=RcS S id (D++Hy k R)∧(∀x∈R,okM x)∧a=D.length∧n=R.length) l.length 0 (by simp) ⟨[],l,rfl,by simp,rfl,hM,rfl,rfl⟩ ?_
    rintro n a S' v2 bx2 ⟨D,R,g1,g2,rfl,g4,rfl,rfl⟩ hv2;simp at hv2;obtain⟨hv2a,hv2b⟩:=hv2
    by_cases c2:2*k≤R.length
    ·have c2':(D.length:Int)+2*k≤l.length:=by omega
     have w3:IntKind.i64.wrap ((D.length:Int)+k)=((D.length+k:Nat):Int):=by rw[wrap64 (by omega) (by omega)];omega
     have w4:IntKind.i64.wrap ((D.length:Int)+2*k+((2*k:Nat):Int))=((D.length+2*k+2*k:Nat):Int):=by rw[wrap64 (by omega) (by omega)];omega
     have w4':IntKind.i64.wrap ((D.length:Int)+2*k+2*(k:Int))=((D.length+2*k+2*k:Nat):Int):=by rw[wrap64 (by omega) (by omega)];omega
     simp only[hv2a,hv2b];simp[hv,c2',Dn,w1,w3];have e1:=Qz (k:=k) (by omega) (l:=R) (by omega)
     have e2:=Qz (k:=k) (by omega) (l:=R.drop k) (by simp;omega)
     have e3:=Qz (k:=2*k) (by omega) (l:=R) c2
     have d2:(R.drop k).drop k=R.drop (2*k):=by rw[List.drop_drop];congr 1;omega
     have d1:R.take (2*k)=R.take k++(R.drop k).take k:=by rw[show 2*k=k+k by omega,List.take_add]
     rw[d2] at e2;have r0:D++Hy k R=D++BZ Ac.mark (R.take k)++BZ Ac.mark ((R.drop k).take k)++Hy k (R.drop (2*k)):=by rw[e1,e2];simp
     have l1:(BZ Ac.mark (R.take k)).length=k:=by rw[Cj];simp;omega
     have l2:(BZ Ac.mark ((R.drop k).take k)).length=k:=by rw[Cj];simp;omega
     have l3:(Hy k (R.drop (2*k))).length=R.length - 2*k:=by rw[jJ k _ _ (Nat.le_refl _)];simp
     rw[r0];refine T8 hid (by omega) _ (Nat.le_refl _) ?_ ?_ ?_ (Fj _) (Fj _) ?_ ?_ rfl ?_ ?_ ?_
     ·simp only[List.length_append,l1,l2,l3];omega
     ·exact fun x hx=>g4 x (List.mem_of_mem_take ((GH _).1 hx))
     ·exact fun x hx=>g4 x (List.mem_of_mem_drop (List.mem_of_mem_take ((GH _).1 hx)))
     ·intro e;rw[e] at l1;simp at l1;omega
     ·intro e;rw[e] at l2;simp at l2;omega
     ·rw[l1]
     ·rw[l1,l2];omega
     ·rw[←Po,←d1]
      try rw[w4']
      refine⟨_,D.length+2*k,by show R.length - 2*k < _;omega,by simp,D++BZ Ac.mark (R.take (2*k)),R.drop (2*k),?_,?_,rfl,fun x hx=>g4 x (List.mem_of_mem_drop hx),?_,by simp⟩
      ·rw[List.append_assoc,←e3];exact g1
      ·rw[List.length_append,Cj];simp;omega
      ·rw[List.length_append,Cj];simp;omega
    ·have c2':¬((D.length:Int)+2*k≤l.length):=by omega
     have:=hj D R g1 g2 (by omega) g4
     simp only[hv2a,hv2b];simp[c2'];exact this
  ·simp[hv,c];rw[Ii (by omega)]
   exact hq
 ·refine BV (fun a:Nat=>([.int .i64 a,.int .i64 ((a+20:Nat):Int)],[])) (fun n a S'=>∃D R:List Ac,D++Hy 20 R=Hy 20 l∧D.length+R.length=l.length∧S'=RcS S id (D++R)∧(∀x∈R,okM x)∧a=D.length∧n=R.length) l.length 0 (by simp) ⟨[],l,rfl,by simp,rfl,hM,rfl,rfl⟩ ?_
  rintro n a S' v2 bx2 ⟨D,R,g1,g2,rfl,g4,rfl,rfl⟩ hv2;simp at hv2;obtain⟨hv2a,hv2b⟩:=hv2
  by_cases c2:20≤R.length
  ·have c2':(D.length:Int)+20≤l.length:=by omega
   have w3:IntKind.i64.wrap ((D.length:Int)+20+20)=((D.length+20+20:Nat):Int):=by rw[wrap64 (by omega) (by omega)];omega
   simp only[hv2a,hv2b];simp[c2',Dn];rw[w3];have e3:=Qz (k:=20) (by omega) (l:=R) c2
   have r0:D++R=D++R.take 20++R.drop 20:=by simp
   rw[r0];refine SH hid ?_ (by omega) (fun x hx=>g4 x (List.mem_of_mem_take hx)) rfl ?_ ?_
   ·simp;omega
   ·simp;omega
   ·refine⟨_,D.length+20,by show R.length - 20 < _;omega,by simp,D++BZ Ac.mark (R.take 20),R.drop 20,?_,?_,rfl,fun x hx=>g4 x (List.mem_of_mem_drop hx),?_,by simp⟩
    ·rw[List.append_assoc,←e3];exact g1
    ·rw[List.length_append,Cj];simp;omega
    ·rw[List.length_append,Cj];simp;omega
  ·have c2':¬((D.length:Int)+20≤l.length):=by omega
   have:=hj D R g1 g2 (by omega) g4
   simp only[hv2a,hv2b];simp[c2'];exact this
theorem Yf{w0:World}{S:St}{r:Rt}{Q:AV→St→Prop}(hq:Q (.tup []) S):AC w0 BC [.vs 19 [] r,.int .i64 0,.int .i64 0,TO] S Q:=by
 apply CV;unfold Bp;have w1:IntKind.i64.wrap ((0:Int)+1)=1:=wrap64 (by omega) (by omega)
 rw[w1];refine BV (fun i:Nat=>([.int .i64 1],[])) (fun n i S'=>S'=S) 0 0 rfl rfl ?_
 rintro n i S' v bx rfl hv;simp at hv;simp[hv,hq]
theorem fu{w0:World}{S:St}{r:Rt}{Q:AV→St→Prop}(hq:Q (.tup []) S):AC w0 Bw [.vs 19 [] r,.int .i64 0,TO] S Q:=by
 apply DJ;unfold CG;rw[AH];refine BV (fun i:Nat=>([.int .i64 0,.int .i64 20],[])) (fun n i S'=>S'=S) 0 0 rfl rfl ?_
 rintro n i S' v bx rfl hv;simp at hv;simp[hv,Dn];refine Yf ?_;refine BV (fun i:Nat=>([.int .i64 20],[])) (fun n i S2=>S2=S') 0 0 rfl rfl ?_
 rintro n i S2 v bx rfl hv;simp at hv;simp[hv,hq]
theorem YS{w0:World}{S:St}{id:Nat}(hid:id < S.length){l:List Ac}(hN2:l.length≤100000)(hM:∀x∈l,okM x){Q:AV→St→Prop}
  (hq:Q (.tup []) (RcS S id (BZ Ac.mark l))):AC w0 BA [.rs 19 id 0 l.length,TO] (RcS S id l) Q:=by
 apply B6;unfold BU;simp[Dn,Ap];exact iV hid hN2 hM hq
theorem OX{w0:World}{S:St}{r:Rt}{Q:AV→St→Prop}(hq:Q (.tup []) S):AC w0 BA [.vs 19 [] r,TO] S Q:=by
 apply B6;unfold BU;simp[Dn,Ap];exact fu hq
theorem Yt{w0:World}{S:St}{l:List Ac}{r:Rt}(hr:okR r l)(hl:l.length≤100000)(hM:∀x∈l,okM x){Q:AV→St→Prop}
  (hq:∀S' r',Sx S S'→okR r' l→Q (.vs 19 ((BZ Ac.mark l).map Ac.c) r') S'):AC w0 Gc [.vs 19 (l.map Ac.c) r] S Q:=by
 refine AO.freezeR (E:=En w0) ?_;apply TR;unfold M2;simp[Dn];apply EG;unfold CY;simp;simp only[Hq,eqA,Option.map_some,Ay]
 by_cases c:r.strip= .nil
 ·have e:=hr c;subst e;have:(r.strip==Rt.nil)=true:=by rw[c];rfl
  rw[this,FN];refine OX (.inl ?_);exact hq S .nil (Sx.refl S) eT
 ·have:(r.strip==Rt.nil)=false:=by cases h:r.strip<;>simp_all
  rw[this,EU];cases l with
  |nil=>
   simp[appendR,A1];refine OX (.inl ?_);exact hq S .full (Sx.refl S) Ki
  |cons x l=>
   have hm1:∀l:List Ac,List.map (fun x=>List.map AV.strip1 x) (l.map Ac.c)=l.map Ac.c:=fun l=>by
    rw[List.map_map];exact List.map_congr_left fun y _=>Ac.map1 y
   have he:A1 S 19 (.vs 19 ((x::l).map Ac.c) r.strip)=some ((x::l).map Ac.c):=by
    simp only[A1];simp[Ac.map1]
   have hap:appendR AF S (.vs 19 [] .full) (.vs 19 ((x::l).map Ac.c) r.strip)=some (.rs 19 S.length 0 (x::l).length,S++[.cells (BN Ac.c (x::l)) 0]):=by
    have hsz:AF.size=19:=rfl;have hlim:(x::l).length≤lim:=by have:=hl;simp only[lim];omega
    unfold appendR;rw[hsz,he,Option.bind_some,if_neg (by simp)]
    simp only[List.length_map,hlim,and_true,or_true,if_true];simp[BN,List.flatMap]
   rw[hap];have hS:S++[.cells (BN Ac.c (x::l)) 0]=RcS (S++[.dead]) S.length (x::l):=by simp[RcS]
   simp only[Ay,hS,iF];simp only[AV.free,if_true];refine YS (by simp) hl hM (.inr ?_)
   refine⟨S.length,0,19,(x::l).length,(BZ Ac.mark (x::l)).map Ac.c,?_,?_,?_,?_⟩
   ·rw[RcS.get (by simp)]
    simp[BN,List.flatMap]
   ·intro e he;obtain⟨y,_,rfl⟩:=List.mem_map.1 he;refine⟨rfl,fun z hz=>?_⟩
    simp[Ac.c] at hz;rcases hz with rfl|rfl|rfl|rfl|rfl|rfl|rfl|rfl|rfl|rfl|rfl|rfl|rfl|rfl|rfl|rfl|rfl|rfl|rfl<;>rfl
   ·rw[List.length_map,Cj]
   ·rw[hm1];have e2:(AV.rs 19 S.length 0 (x::l).length).frz3 19 S.length (x::l).length (.vs 19 ((BZ Ac.mark (x::l)).map Ac.c) .none)= .vs 19 ((BZ Ac.mark (x::l)).map Ac.c) .none:=by
     rw[Pm (by intro cs h;cases h),QC (by intro cs h;cases h),Pi,if_pos ⟨rfl,rfl,rfl,rfl⟩]
    rw[e2];refine hq _ .none (fun j hj=>?_) aH
    simp only[RcS];rw[Au (by omega),Au (by omega),List.getElem?_append_left hj]
end Go.Av
