/- Parts of the proofs of this seat: abstract values over the model, and what the functions of the program do. No condition. -/
import Derived.Test.YtehadbpejfjheaaGreatDoorM8
import Derived.Test.YtehadbpejfjheaaGreatDoorD0
import Derived.Test.YtehadbpejfjheaaGreatDoorM20
import Derived.Test.YtehadbpejfjheaaGreatDoorDExt
import Derived.Test.YtehadbpejfjheaaGreatDoorY01
import Derived.Test.YtehadbpejfjheaaGreatDoorDRow
import Derived.DataReads
set_option linter.all false
set_option maxRecDepth 100000
namespace Go.Av
open Go.Proofs
def DU(size:Int):Int→List Ext→Bool
 |_,[]=>true
 |at_,x::l=>decide (at_≤x.off∧x.data≠[]∧x.off+x.data.length≤size)&&DU size (x.off+x.data.length) l
def DO(size:Int)(l:List Ext):Bool:=decide (0≤size∧size≤1048576)&&DU size 0 l
def bF(l:List Ext):Prop:=(∀x∈l,-9223372036854775808≤x.off∧x.off≤9223372036854775807∧x.data.length≤1000000000000000)∧l.length≤1000000000000000
theorem Py{w0:World}{size:Int}{l:List Ext}{r:Rt}{S:St}{Q:AV→St→Prop}(hs:-9223372036854775808≤size∧size≤9223372036854775807)(hb:bF l)
   (hq:Q (.bool (DO size l)) S):AC w0 Hv [.int .i64 size,.vs 2 (l.map Ext.c) r] S Q:=by
  apply Oo;unfold KS;simp;rw[AG];obtain⟨hb1,hb2⟩:=hb
  by_cases hneg:size < 0
  · have hf:DO size l=false:=by simp[DO];omega
    rw[hf] at hq;refine B6 l (fun i at_=>([.int .i64 at_,.int .i64 i],[])) (fun i at_ S'=>S'=S) 0 rfl rfl ?_ ?_
    · rintro i at_ S' v b x c hxi hd hc hm rfl hv
      simp at hv;simp[hv,hc,hxi];refine Un (fun h=>hq) (fun h=>?_)
      try simp (disch:=omega) only[wrap64]
      exact .next c _ rfl rfl
    · rintro at_ S' v b rfl hv N
      simp at hv;simpa[hv,show ¬0≤size by omega] using hq
  refine B6 l (fun i at_=>([.int .i64 at_,.int .i64 i],[])) (fun i at_ S'=>S'=S∧0≤at_∧DU size 0 l=DU size at_ (l.drop i)) 0 rfl (by simp) ?_ ?_
  · rintro i at_ S' v b x c hxi hd hc hm ⟨rfl,h0,hx⟩ hv
    simp at hv;obtain⟨h1,h2,h3⟩:=hb1 x hm;simp[hv,hc,hxi];rw[hd,DU] at hx
    by_cases c1:x.off < at_
    · have:DO size l=false:=by simp[DO,hx];omega
      simpa[c1,this] using hq
    by_cases c2:x.data=[]
    · have:DO size l=false:=by simp[DO,hx,c2]
      simpa[c1,c2,this] using hq
    try simp (disch:=omega) only[wrap64]
    by_cases c3:size - x.off < x.data.length
    · have:DO size l=false:=by simp[DO,hx];omega
      simpa[c1,c2,c3,this] using hq
    simp[c1,c2,c3]
    try simp (disch:=omega) only[wrap64]
    exact .next c _ rfl ⟨rfl,by omega,by simp[hx,c2];omega⟩
  · rintro at_ S' v b ⟨rfl,h0,hx⟩ hv N
    simp at hv;simp[hv];simpa[DO,hx,DU] using hq
def OH(l:List Ext)(i:Nat):Int:=if i=0 then 0 else match l[i - 1]? with|some x=>x.off+x.data.length|none=>0
theorem Q5{w0:World}{size:Int}{l:List Ext}{r:Rt}{S:St}{Q:AV→St→Prop}(hs:-9223372036854775808≤size∧size≤9223372036854775807)(hb:bF l)
   (hq:Q (.bool (DO size l)) S):AC w0 IS [.int .i64 size,.vs 2 (l.map Ext.c) r] S Q:=by
  apply Pk;unfold Lf;simp;obtain⟨hb1,hb2⟩:=hb;refine Un (fun h=>?_) (fun h=>?_)<;>simp at h
  · have:DO size l=false:=by simp[DO];omega
    rwa [this] at hq
  rw[AG];refine B6 l (fun i (_:Unit)=>([.int .i64 i],[])) (fun i _ S'=>S'=S∧(0≤OH l i∧OH l i≤size)∧DU size 0 l=DU size (OH l i) (l.drop i)) () rfl (by simp[OH];omega) ?_ ?_
  · rintro i _ S' v b x c hxi hd hc hm ⟨rfl,h0,hx⟩ hv
    simp at hv;obtain⟨h1,h2,h3⟩:=hb1 x hm;simp[hv,hc,hxi];rw[hd,DU] at hx
    by_cases c1:x.off < 0
    · have:DO size l=false:=by simp[DO,hx];omega
      simpa[c1,this] using hq
    by_cases c2:size < x.off
    · have:DO size l=false:=by simp[DO,hx];omega
      simpa[c1,c2,this] using hq
    by_cases c3:x.data=[]
    · have:DO size l=false:=by simp[DO,hx,c3]
      simpa[c1,c2,c3,this] using hq
    have c3':¬((x.data.length:Int) < 1):=by have:=List.length_pos_iff.2 c3;omega
    simp[c1,c2,c3,c3']
    try simp (disch:=omega) only[wrap64]
    by_cases c4:size < x.off+x.data.length
    · have:DO size l=false:=by simp[DO,hx];omega
      simpa[c4,this] using hq
    simp[c4];cases i with
    | zero =>
      simp[OH] at h0 hx ⊢;refine .next c () rfl ⟨rfl,?_⟩;simp[OH] at hxi ⊢;simp[hxi,hx,c3];omega
    | succ i =>
      obtain⟨y,hyi⟩:∃y,l[i]? =some y:=⟨l[i]'(by omega),by simp⟩
      obtain⟨g1,g2,g3⟩:=hb1 y (List.mem_of_getElem? hyi);simp[OH,hyi] at h0 hx ⊢
      try simp (disch:=omega) only[wrap64]
      by_cases c5:x.off < y.off+y.data.length
      · have:DO size l=false:=by simp[DO,hx];omega
        simpa[c5,this] using hq
      simp[c5];refine .next c () (by simp) ⟨rfl,?_⟩
      simp[OH,hxi,hx,c3];omega
  · rintro _ S' v b ⟨rfl,h0,hx⟩ hv N
    simp at hv;simp[hv];have:DO size l=true:=by simp[DO,hx,DU];omega
    rwa [this] at hq
def atE:List Ext→Int→UInt8
 |[],_=>0
 |x::l,p=>if x.off≤p∧p < x.off+x.data.length then x.data.getD (p - x.off).toNat 0 else atE l p
def ofE(i:Nat)(s:Str):List Ext:=
 if h:s=[] then [] else
  (if s.takeWhile (· != 0)=[] then [] else [⟨i,s.takeWhile (· != 0)⟩])++ofE (i+(s.takeWhile (· != 0)).length+1) (s.drop ((s.takeWhile (· != 0)).length+1))
termination_by s.length
decreasing_by
 have:0 < s.length:=List.length_pos_iff.2 h;simp;omega
theorem La{p:UInt8→Bool}:∀{s:Str} {j:Nat},j < (s.takeWhile p).length→∃x,s[j]? =some x∧p x=true
 |[],j,h=>by simp at h
 |x::s,j,h=>by
  by_cases c:p x=true
  ·rw[List.takeWhile_cons_of_pos c] at h;cases j with
   |zero=>exact⟨x,rfl,c⟩
   |succ j=>obtain⟨y,h1,h2⟩:=La (s:=s) (j:=j) (by simpa using h);exact⟨y,by simpa using h1,h2⟩
  ·rw[List.takeWhile_cons_of_neg c] at h;simp at h
theorem IV{p:UInt8→Bool}:∀{s:Str} {x:UInt8},s[(s.takeWhile p).length]? =some x→p x=false
 |[],x,h=>by simp at h
 |y::s,x,h=>by
  by_cases c:p y=true
  ·rw[List.takeWhile_cons_of_pos c] at h;exact IV (s:=s) (by simpa using h)
  ·rw[List.takeWhile_cons_of_neg c] at h;simp at h;subst h;simpa using c
theorem KZ{p:UInt8→Bool}(s:Str):s.take (s.takeWhile p).length=s.takeWhile p:=
 (List.prefix_iff_eq_take.1 (List.takeWhile_prefix p)).symm
theorem Q9{p:UInt8→Bool}(s:Str):(s.takeWhile p).length≤s.length:=(List.takeWhile_prefix p).length_le
theorem Tl{w0:World}{s:Str}{S:St}{Q:AV→St→Prop}(hl:s.length≤1000000000)(hq:∀r,(r= .nil∧ofE 0 s=[])∨r= .none→Q (.vs 2 ((ofE 0 s).map Ext.c) r) S):AC w0 J2 [.str s] S Q:=by
 apply R6;unfold OB;simp;refine ED (fun j=>∀r:Rt,(r= .nil∧ofE 0 s=[])∨r= .own 0∨r= .own FP→j (.vs 2 ((ofE 0 s).map Ext.c) r) S) (fun r hr=>?_) (fun j4 hj4=>?_)
 ·rcases hr with ⟨rfl,hr⟩|rfl|rfl
  ·exact hq _ (.inl ⟨rfl,hr⟩)
  ·exact hq _ (.inr rfl)
  ·exact hq _ (.inr rfl)
 refine HZ (fun s':Nat×List Ext×Rt=>([.str s,.vs 2 (s'.2.1.map Ext.c) s'.2.2,.int .i64 s'.1],[]))
  (fun k s' S'=>S'=S∧((s'.2.2= .nil∧s'.2.1=[])∨s'.2.2= .own 0∨s'.2.2= .own FP)∧s'.2.1++ofE s'.1 (s.drop s'.1)=ofE 0 s∧s'.1≤s.length+1∧k=s.length+1 - s'.1∧s'.2.1.length≤s'.1) _ (0,[],.nil) rfl ⟨rfl,by simp,by simp,by simp,rfl,by simp⟩ ?_
 rintro k ⟨i,out,r⟩ S' v b ⟨rfl,hr,ho,hi,rfl,hol⟩ hv;simp at hv hr ho hi hol;simp[hv]
 by_cases c:i < s.length
 case neg=>
  have:s.drop i=[]:=by simp;omega
  rw[this,ofE] at ho;simp at ho;subst ho;simpa[c] using hj4 r hr
 simp[c];have hne:s.drop i≠[]:=by simp;omega
 generalize hrun:(s.drop i).takeWhile (· != 0)=run at*;have hrl:run.length≤s.length - i:=by have:=Q9 (p:=(· != 0)) (s.drop i);rw[hrun] at this;simpa using this
 obtain⟨k,hk⟩:∃k,k=i+run.length:=⟨_,rfl⟩;refine ED (fun j=>j (.int .i64 (k:Int)) S') ?_ (fun j3 hj3=>?_)
 ·rw[ofE] at ho;simp only[hne,dite_false,hrun,List.drop_drop] at ho;rw[show i+(run.length+1)=k+1 by omega,show i+run.length+1=k+1 by omega] at ho
  by_cases ce:run=[]
  ·have hki:k=i:=by rw[hk,ce];rfl
   subst hki;simp[ce] at ho ⊢
   try simp (disch:=omega) only[wrap64]
   exact⟨_,(k+1,out,r),by show s.length+1 - (k+1) < _;omega,rfl,rfl,hr,ho,by show k+1≤_;omega,rfl,by show out.length≤k+1;omega⟩
  ·have hpos:=List.length_pos_iff.2 ce;have hcut:(s.take k).drop i=run:=by
    rw[List.drop_take,show k - i=run.length by omega,←hrun,KZ]
   have hle:k≤s.length∧i≤k:=by omega
   have hlt:i < k:=by omega
   have hr':r≠ .none∧(r= .nil∨True):=by rcases hr with ⟨rfl,_⟩|rfl|rfl<;>simp
   have hol':out.length+1≤lim:=by unfold lim;omega
   simp[hlt,hle,hcut,ce,BN,CH,hr'.1,hol'] at ho ⊢
   try simp (disch:=omega) only[wrap64]
   refine⟨_,(k+1,out++[⟨i,run⟩],.own (FB As r)),by show s.length+1 - (k+1) < _;omega,?_,rfl,?_,by simpa using ho,by show k+1≤_;omega,rfl,by simp;omega⟩
   ·simp
   ·rcases hr with ⟨rfl,_⟩|rfl|rfl<;>simp[FB]
 ·refine HZ (fun q:Nat=>([.int .i64 q],[])) (fun m q S2=>S2=S'∧i≤q∧q≤k∧m=k - q) _ i rfl ⟨rfl,by omega,by omega,rfl⟩ ?_
  rintro m q S2 v2 b2 ⟨rfl,h1,h2,rfl⟩ hv2;simp at hv2;simp[hv2]
  by_cases c2:q < s.length
  case neg=>
   have:q=k:=by omega
   subst this;simpa[c2] using hj3
  by_cases c3:q=k
  ·subst c3;have:=IV (p:=(· != 0)) (s:=s.drop i) (x:=s[q]) (by rw[hrun];simp[←hk,c2])
   simp at this;simpa[c2,this] using hj3
  ·obtain⟨x,hx,hx2⟩:=La (p:=(· != 0)) (s:=s.drop i) (j:=q - i) (by rw[hrun];omega)
   have hx':s[q]? =some x:=by simpa[show i+(q - i)=q by omega] using hx
   simp at hx2;have hx3:¬x.toNat=0:=fun e=>hx2 (by apply UInt8.toNat_inj.1;simpa using e)
   have hx4:s[q]=x:=by simpa[c2] using hx'
   simp[c2,hx4,hx3]
   try simp (disch:=omega) only[wrap64]
   exact⟨_,q+1,by show k - (q+1) < _;omega,rfl,rfl,by omega,by omega,rfl⟩
def nchain:Option Str→List Str→Bool
 |_,[]=>true
 |p,s::l=>DW s&&(match p with|none=>true|some q=>slt q s)&&nchain (some s) l
theorem Jz(p:Option Str)(s:Str)(l:List Str):nchain p (s::l)=(DW s&&(match p with|none=>true|some q=>slt q s)&&nchain (some s) l):=by cases p<;>rfl
def Fa(n:Node):Bool:=nchain none n.names.l&&decide (n.names.l.length=n.items.length)
def Dw(n:Node):Bool:=
 (decide (n.kind=2)||(!n.opq&&decide (n.names.l.length=0)&&decide (n.items.length=0)))&&(decide (n.kind=1)||(decide (n.size=0)&&decide (n.exts.length=0)))&&(decide (n.kind=3)||decide (n.target=[]))
def Dl(n:Node):Bool:=
 if n.kind=1 then DO n.size n.exts else if n.kind=3 then (Cv n.target).isSome&&decide (n.target.length≤256) else if n.kind=4 then true else if n.kind=2 then Fa n else false
def Jq(n:Node):Bool:=Dw n&&Dl n
mutual
def Node.count:Node→Nat
 | .mk _ _ _ its _ _ _ _ _=>1+Node.counts its
def Node.counts:List Node→Nat
 |[]=>0
 |n::l=>n.count+Node.counts l
end
mutual
def Node.depth:Node→Nat
 | .mk _ _ _ its _ _ _ _ _=>Node.depths its
def Node.depths:List Node→Nat
 |[]=>0
 |n::l=>max (n.depth+1) (Node.depths l)
end
mutual
def Node.allB:Node→Bool
 | .mk k o ns its ir sz es er t=>Node.allsB its&&Jq (.mk k o ns its ir sz es er t)
def Node.allsB:List Node→Bool
 |[]=>true
 |n::l=>n.allB&&Node.allsB l
end
theorem Node.count_eq(n:Node):n.count=1+Node.counts n.items:=by cases n;rw[Node.count];rfl
theorem Node.depth_eq(n:Node):n.depth=Node.depths n.items:=by cases n;rw[Node.depth];rfl
theorem Node.all_eq(n:Node):n.allB=(Node.allsB n.items&&Jq n):=by cases n;rw[Node.allB];rfl
theorem Node.counts_take{l:List Node}{i:Nat}{x:Node}(h:l[i]? =some x):Node.counts (l.take (i+1))=Node.counts (l.take i)+x.count:=by
 induction l generalizing i with
 |nil=>simp at h
 |cons y l ih=>
  cases i with
  |zero=>simp at h;subst h;simp[Node.counts]
  |succ i=>simp at h;simp[Node.counts,ih h];omega
theorem Node.counts_take_le(l:List Node)(i:Nat):Node.counts (l.take i)≤Node.counts l:=by
 induction l generalizing i with
 |nil=>simp
 |cons y l ih=>
  cases i with
  |zero=>simp[Node.counts]
  |succ i=>simp[Node.counts];exact ih i
theorem Node.depths_take{l:List Node}{i:Nat}{x:Node}(h:l[i]? =some x):Node.depths (l.take (i+1))=max (Node.depths (l.take i)) (x.depth+1):=by
 induction l generalizing i with
 |nil=>simp at h
 |cons y l ih=>
  cases i with
  |zero=>simp at h;subst h;simp[Node.depths]
  |succ i=>simp at h;simp[Node.depths,ih h]
theorem Node.depths_take_le(l:List Node)(i:Nat):Node.depths (l.take i)≤Node.depths l:=by
 induction l generalizing i with
 |nil=>simp
 |cons y l ih=>
  cases i with
  |zero=>simp[Node.depths]
  |succ i=>simp[Node.depths];have:=ih i;omega
theorem Node.alls_drop{l:List Node}{i:Nat}{x:Node}(h:l[i]? =some x):Node.allsB (l.drop i)=(x.allB&&Node.allsB (l.drop (i+1))):=by
 have hi:=(List.getElem?_eq_some_iff.1 h).1;rw[List.drop_eq_getElem_cons hi,Node.allsB,(List.getElem?_eq_some_iff.1 h).2]
def C2(n:Node):Bool:=decide (n.kind=2)&&(n.allB&&(decide (n.count≤4096)&&decide (n.depth≤15)))
mutual
def Node.rgt:Node→Nat→Int→Bool×Int
 | .mk k o ns its ir sz es er t,d,left=>
  if left - 1 < 0∨15 < d∨Dw (.mk k o ns its ir sz es er t)=false then (false,left - 1)
  else if k=2 then (if Fa (.mk k o ns its ir sz es er t)=true then Node.rgts its (d+1) (left - 1) else (false,left - 1))
  else (Dl (.mk k o ns its ir sz es er t),left - 1)
def Node.rgts:List Node→Nat→Int→Bool×Int
 |[],_,left=>(true,left)
 |n::l,d,left=>if (n.rgt d left).1=true then Node.rgts l d (n.rgt d left).2 else (false,(n.rgt d left).2)
end
theorem Node.rgt_eq(n:Node)(d:Nat)(left:Int):n.rgt d left=
  if left - 1 < 0∨15 < d∨Dw n=false then (false,left - 1)
  else if n.kind=2 then (if Fa n=true then Node.rgts n.items (d+1) (left - 1) else (false,left - 1))
  else (Dl n,left - 1):=by
 cases n;rw[Node.rgt];rfl
theorem Node.rgts_drop{l:List Node}{i:Nat}{x:Node}(h:l[i]? =some x)(d:Nat)(left:Int):Node.rgts (l.drop i) d left=if (x.rgt d left).1=true then Node.rgts (l.drop (i+1)) d (x.rgt d left).2 else (false,(x.rgt d left).2):=by
 have hi:=(List.getElem?_eq_some_iff.1 h).1;rw[List.drop_eq_getElem_cons hi,Node.rgts,(List.getElem?_eq_some_iff.1 h).2]
theorem KR{n:Node}(h:Dw n=true)(h2:n.kind≠2):n.items=[]:=by
 simp[Dw,h2] at h;exact h.1.1.2
theorem Node.rgt_spec(n:Node):∀(d:Nat) (left:Int),0≤left→(n.rgt d left).1=(n.allB&&(decide (d+n.depth≤15)&&decide (n.count≤left)))∧((n.rgt d left).1=true→(n.rgt d left).2=left - n.count)∧-1≤(n.rgt d left).2∧(n.rgt d left).2≤left:=by
 induction n using Node.ind with
 |h n ih=>
  intro d left hleft;rw[Node.rgt_eq,Node.all_eq,Node.count_eq,Node.depth_eq]
  by_cases c1:left - 1 < 0
  ·rw[if_pos (.inl c1)];refine⟨?_,by simp,by simp;omega,by simp;omega⟩
   have:¬((1+Node.counts n.items:Nat):Int)≤left:=by omega
   rw[decide_eq_false this];simp
  by_cases c2:15 < d
  ·rw[if_pos (.inr (.inl c2))];refine⟨?_,by simp,by simp;omega,by simp;omega⟩
   have:¬d+Node.depths n.items≤15:=by omega
   simp[this]
  cases c3:Dw n with
  |false=>
   rw[if_pos (by simp)]
   refine⟨by simp[Jq,c3],by simp,by simp;omega,by simp;omega⟩
  |true=>
   rw[if_neg (by simp[c1,c2])]
   by_cases c4:n.kind=2
   ·rw[if_pos c4];have hk:Dl n=Fa n:=by simp[Dl,c4]
    cases c5:Fa n with
    |false=>
     rw[if_neg (by simp)]
     exact⟨by simp[Jq,hk,c5],by simp,by simp;omega,by simp;omega⟩
    |true=>
     rw[if_pos rfl];have ho:Jq n=true:=by rw[Jq,c3,hk,c5];rfl
     rw[ho];have key:∀(l:List Node),(∀x∈l,x∈n.items)→∀lf:Int,0≤lf→(Node.rgts l (d+1) lf).1=(Node.allsB l&&(decide (d+Node.depths l≤15)&&decide ((Node.counts l:Int)≤lf)))∧((Node.rgts l (d+1) lf).1=true→(Node.rgts l (d+1) lf).2=lf - Node.counts l)∧-1≤(Node.rgts l (d+1) lf).2∧(Node.rgts l (d+1) lf).2≤lf:=by
      intro l
      induction l with
      |nil=>
       intro _ lf hlf;have:d≤15:=by omega
       simp[Node.rgts,Node.allsB,Node.depths,Node.counts,this,hlf];omega
      |cons x l ihl=>
       intro hm lf hlf;obtain⟨q1,q2,q3,q4⟩:=ih x (hm x (by simp)) (d+1) lf hlf
       rw[Node.rgts,Node.allsB,Node.depths,Node.counts];cases hx:(x.rgt (d+1) lf).1 with
       |false=>
        rw[if_neg (by simp)]
        refine⟨?_,by simp,q3,q4⟩
        rw[hx] at q1;have q1:=q1.symm;simp only[Bool.and_eq_false_iff,decide_eq_false_iff_not] at q1
        symm
        simp only[Bool.and_eq_false_iff,decide_eq_false_iff_not];rcases q1 with q1|q1|q1
        ·left;left;exact q1
        ·right;left;omega
        ·right;right;omega
       |true=>
        rw[if_pos rfl];rw[hx] at q1;have q1:=q1.symm;simp only[Bool.and_eq_true,decide_eq_true_eq] at q1;obtain⟨p1,p2,p3⟩:=q1;have q2:=q2 hx;obtain⟨r1,r2,r3,r4⟩:=ihl (fun y hy=>hm y (List.mem_cons_of_mem _ hy)) (x.rgt (d+1) lf).2 (by omega)
        refine⟨?_,fun h=>?_,r3,by omega⟩
        ·rw[r1,p1,q2];have e1:(d+Node.depths l≤15)=(d+max (x.depth+1) (Node.depths l)≤15):=propext (by omega)
         have e2:((Node.counts l:Int)≤lf - x.count)=(((x.count+Node.counts l:Nat):Int)≤lf):=propext (by omega)
         simp only[e1,e2,Bool.true_and]
        ·rw[r2 h,q2];omega
     obtain⟨r1,r2,r3,r4⟩:=key n.items (fun x hx=>hx) (left - 1) (by omega)
     refine⟨?_,fun h=>by rw[r2 h];omega,r3,by omega⟩
     rw[r1];have e2:((Node.counts n.items:Int)≤left - 1)=(((1+Node.counts n.items:Nat):Int)≤left):=propext (by omega)
     simp only[e2,Bool.and_true]
   ·rw[if_neg c4];have hit:=KR c3 c4;rw[hit];have e1:d+Node.depths []≤15:=by simp[Node.depths];omega
    have e2:((1+Node.counts []:Nat):Int)≤left:=by simp[Node.counts];omega
    refine⟨by simp only[Jq,c3,Node.allsB,e1,e2];simp,fun _=>by simp[Node.counts],by simp;omega,by simp;omega⟩
theorem Vl(n:Node):(decide (n.kind=2)&&(n.rgt 0 4096).1)=C2 n:=by
 obtain⟨h,_⟩:=n.rgt_spec 0 4096 (by omega)
 rw[h,C2];have e:((n.count:Int)≤4096)=(n.count≤4096):=propext (by omega)
 simp only[e,Nat.zero_add];cases n.allB<;>simp[Bool.and_comm]
@[simp] def Zs(i:Nat):List AV:=[.int .i64 (i:Int)]
structure Bk where
 kind:Int
 opq:Bool
 names:List Str
 size:Int
 exts:List Ext
 target:Str
 ids:List Nat
 deriving DecidableEq
structure Ino where
 p:Bk
 nr:Rt
 er:Rt
 ir:Rt
def Ino.c(x:Ino):List AV:=[.int .i64 x.p.kind,.bool x.p.opq,.vs 1 (x.p.names.map EH) x.nr.strip,.vs 7 [] .nil,.int .i64 x.p.size,.vs 2 (x.p.exts.map Ext.c) x.er.strip,.str x.p.target,.vs 1 (x.p.ids.map Zs) x.ir.strip]
@[simp] theorem Ino.c_len(x:Ino):x.c.length=8:=rfl
def Qf:Ino:=⟨⟨0,false,[],0,[],[],[]⟩,.nil,.nil,.nil⟩
def Node.idsOf:List Node→Nat→List Nat
 |[],_=>[]
 |n::l,b=>b::Node.idsOf l (b+n.count)
mutual
def Node.tab:Node→Nat→List Bk
 | .mk k o ns its _ sz es _ t,b=>⟨k,o,ns.l,sz,es,t,Node.idsOf its (b+1)⟩::Node.tabs its (b+1)
def Node.tabs:List Node→Nat→List Bk
 |[],_=>[]
 |n::l,b=>n.tab b++Node.tabs l (b+n.count)
end
def Node.hd(n:Node)(b:Nat):Bk:=⟨n.kind,n.opq,n.names.l,n.size,n.exts,n.target,Node.idsOf n.items (b+1)⟩
theorem Node.tab_eq(n:Node)(b:Nat):n.tab b=n.hd b::Node.tabs n.items (b+1):=by cases n;rw[Node.tab];rfl
theorem Node.tabs_nil(b:Nat):Node.tabs [] b=[]:=by rw[Node.tabs]
theorem Node.tabs_cons(n:Node)(l:List Node)(b:Nat):Node.tabs (n::l) b=n.tab b++Node.tabs l (b+n.count):=by rw[Node.tabs]
theorem Node.tab_len(n:Node):∀b,(n.tab b).length=n.count:=by
 induction n using Node.ind with
 |h n ih=>
  intro b;have:∀(l:List Node),(∀x∈l,∀b,(x.tab b).length=x.count)→∀b,(Node.tabs l b).length=Node.counts l:=by
   intro l
   induction l with
   |nil=>intro _ b;rw[Node.tabs_nil];simp[Node.counts]
   |cons x l ihl=>intro h b;rw[Node.tabs_cons,List.length_append,h x (by simp),ihl (fun y hy=>h y (by simp[hy])),Node.counts]
  rw[Node.tab_eq,List.length_cons,this _ ih,Node.count_eq];omega
theorem Node.tabs_len:∀(l:List Node) (b:Nat),(Node.tabs l b).length=Node.counts l
 |[],b=>by rw[Node.tabs_nil];simp[Node.counts]
 |n::l,b=>by rw[Node.tabs_cons,List.length_append,Node.tab_len,Node.tabs_len l,Node.counts]
theorem Node.tabs_take{l:List Node}{i:Nat}{x:Node}(h:l[i]? =some x):∀b,Node.tabs (l.take (i+1)) b=Node.tabs (l.take i) b++x.tab (b+Node.counts (l.take i)):=by
 induction l generalizing i with
 |nil=>simp at h
 |cons y l ih=>
  intro b;cases i with
  |zero=>simp at h;subst h;simp[Node.tabs_cons,Node.tabs_nil,Node.counts]
  |succ i=>
   simp at h;simp only[List.take_succ_cons,Node.tabs_cons,Node.counts];rw[ih h,List.append_assoc];congr 3;omega
theorem Node.idsOf_take{l:List Node}{i:Nat}{x:Node}(h:l[i]? =some x):∀b,Node.idsOf (l.take (i+1)) b=Node.idsOf (l.take i) b++[b+Node.counts (l.take i)]:=by
 induction l generalizing i with
 |nil=>simp at h
 |cons y l ih=>
  intro b;cases i with
  |zero=>simp at h;subst h;simp[Node.idsOf,Node.counts]
  |succ i=>
   simp at h;simp only[List.take_succ_cons,Node.idsOf,Node.counts];rw[ih h];simp;omega
theorem Node.idsOf_len:∀(l:List Node) (b:Nat),(Node.idsOf l b).length=l.length
 |[],b=>rfl
 |n::l,b=>by simp[Node.idsOf,Node.idsOf_len l]
def Zr(S:St)(id:Nat)(T:List Ino):Prop:=
 (T=[]∧S[id]? =some (.cells [.vs 8 [] .nil] Cd))∨∃t,id < t∧S[id]? =some (.cells [.rs 8 t 0 T.length] Cd)∧S[t]? =some (.cells (DH Ino.c T) 0)
def Br(S:St)(id:Nat)(P:List Bk):Prop:=∃(t:Nat) (T:List Ino),id < t∧S[id]? =some (.cells [.rs 8 t 0 T.length] Cd)∧S[t]? =some (.cells (DH Ino.c T) 0)∧T.map Ino.p=P
theorem Br.mono{S S':St}{id:Nat}{P:List Bk}(h:Br S id P)(k:Sx S S'):Br S' id P:=by
 obtain⟨t,T,h1,h2,h3,h4⟩:=h;exact⟨t,T,h1,k.get h2,k.get h3,h4⟩
theorem Br.lt{S:St}{id:Nat}{P:List Bk}(h:Br S id P):id < S.length:=by
 obtain⟨t,T,h1,h2,h3,h4⟩:=h;exact(List.getElem?_eq_some_iff.1 h2).1
def Bk.none:Bk:=⟨0,false,[],0,[],[],[]⟩
def BO(P:List Bk)(i:Int):Bk:=if i < 0 then Bk.none else (P[i.toNat]?).getD Bk.none
structure Mnt where
 num:Nat
 id:Nat
 tab:List Bk
def Mnt.c(m:Mnt):List AV:=[.int .i64 m.num,.ptr m.id 0]
@[simp] theorem Mnt.c_len(m:Mnt):m.c.length=2:=rfl
structure Stk where
 l:List Mnt
 r:Rt
 next:Nat
def Stk.c(s:Stk):List AV:=[.vs 2 (s.l.map Mnt.c) s.r.strip,.int .i64 s.next]
def Stk.on(s:Stk)(S:St):Prop:=∀m∈s.l,Br S m.id m.tab
theorem Stk.on.mono{s:Stk}{S S':St}(h:s.on S)(k:Sx S S'):s.on S':=fun m hm=>(h m hm).mono k
def Stk.none:Stk:=⟨[],.nil,0⟩
theorem Stk.none_c:Stk.none.c=[.vs 2 [] .nil,.int .i64 0]:=rfl
structure Stk.ok(s:Stk):Prop where
 r:s.r.strip= .nil→s.l=[]
 len:s.l.length≤64
 next:s.next≤1000000000
 num:∀m∈s.l,m.num≤1000000000
def Ik:List Node→Nat→Nat
 |[],_=>0
 |n::l,k=>if C2 n=false then 1 else if 64≤k then 6 else Ik l (k+1)
end Go.Av
