/- Parts of the proofs of this seat: abstract values over the model, and what the functions of the program do. No condition. -/
import Derived.Test.YtgilicomkelmdaaGreatDoorM9
import Derived.Test.YtgilicomkelmdaaGreatDoorM10
import Derived.Test.YtgilicomkelmdaaGreatDoorD0
import Derived.Test.YtgilicomkelmdaaGreatDoorM22
import Derived.Test.YtgilicomkelmdaaGreatDoorDExt
import Derived.Test.YtgilicomkelmdaaGreatDoorY01
import Derived.Test.YtgilicomkelmdaaGreatDoorDRow
import Derived.DataReads
set_option linter.all false
set_option maxRecDepth 100000
namespace Go.Av
open Go.Proofs
def DP(size:Int):Int→List Ext→Bool
 |_,[]=>true
 |at_,x::l=>decide (at_≤x.off∧x.data≠[]∧x.off+x.data.length≤size)&&DP size (x.off+x.data.length) l
def Dz(size:Int)(l:List Ext):Bool:=decide (0≤size∧size≤1048576)&&DP size 0 l
def mT(l:List Ext):Prop:=(∀x∈l,-9223372036854775808≤x.off∧x.off≤9223372036854775807∧x.data.length≤1000000000000000)∧l.length≤1000000000000000
theorem T9{w0:World}{size:Int}{l:List Ext}{r:Rt}{S:St}{Q:AV→St→Prop}(hs:-9223372036854775808≤size∧size≤9223372036854775807)(hb:mT l)
   (hq:Q (.bool (Dz size l)) S):AC w0 It [.int .i64 size,.vs 2 (l.map Ext.c) r] S Q:=by
  apply TX;unfold NE;simp;rw[AH];obtain⟨hb1,hb2⟩:=hb
  by_cases hneg:size < 0
  · have hf:Dz size l=false:=by simp[Dz];omega
    rw[hf] at hq;refine Ak l (fun i at_=>([.int .i64 at_,.int .i64 i],[])) (fun i at_ S'=>S'=S) 0 rfl rfl ?_ ?_
    · rintro i at_ S' v b x c hxi hd hc hm rfl hv
      simp at hv;simp[hv,hc,hxi];refine UM (fun h=>hq) (fun h=>?_)
      try simp (disch:=omega) only[wrap64]
      exact .next c _ rfl rfl
    · rintro at_ S' v b rfl hv N
      simp at hv;simpa[hv,show ¬0≤size by omega] using hq
  refine Ak l (fun i at_=>([.int .i64 at_,.int .i64 i],[])) (fun i at_ S'=>S'=S∧0≤at_∧DP size 0 l=DP size at_ (l.drop i)) 0 rfl (by simp) ?_ ?_
  · rintro i at_ S' v b x c hxi hd hc hm ⟨rfl,h0,hx⟩ hv
    simp at hv;obtain⟨h1,h2,h3⟩:=hb1 x hm;simp[hv,hc,hxi];rw[hd,DP] at hx
    by_cases c1:x.off < at_
    · have:Dz size l=false:=by simp[Dz,hx];omega
      simpa[c1,this] using hq
    by_cases c2:x.data=[]
    · have:Dz size l=false:=by simp[Dz,hx,c2]
      simpa[c1,c2,this] using hq
    try simp (disch:=omega) only[wrap64]
    by_cases c3:size - x.off < x.data.length
    · have:Dz size l=false:=by simp[Dz,hx];omega
      simpa[c1,c2,c3,this] using hq
    simp[c1,c2,c3]
    try simp (disch:=omega) only[wrap64]
    exact .next c _ rfl ⟨rfl,by omega,by simp[hx,c2];omega⟩
  · rintro at_ S' v b ⟨rfl,h0,hx⟩ hv N
    simp at hv;simp[hv];simpa[Dz,hx,DP] using hq
def R4(l:List Ext)(i:Nat):Int:=if i=0 then 0 else match l[i - 1]? with|some x=>x.off+x.data.length|none=>0
theorem Wq{w0:World}{size:Int}{l:List Ext}{r:Rt}{S:St}{Q:AV→St→Prop}(hs:-9223372036854775808≤size∧size≤9223372036854775807)(hb:mT l)
   (hq:Q (.bool (Dz size l)) S):AC w0 J5 [.int .i64 size,.vs 2 (l.map Ext.c) r] S Q:=by
  apply Vh;unfold ON;simp;obtain⟨hb1,hb2⟩:=hb;refine UM (fun h=>?_) (fun h=>?_)<;>simp at h
  · have:Dz size l=false:=by simp[Dz];omega
    rwa [this] at hq
  rw[AH];refine Ak l (fun i (_:Unit)=>([.int .i64 i],[])) (fun i _ S'=>S'=S∧(0≤R4 l i∧R4 l i≤size)∧DP size 0 l=DP size (R4 l i) (l.drop i)) () rfl (by simp[R4];omega) ?_ ?_
  · rintro i _ S' v b x c hxi hd hc hm ⟨rfl,h0,hx⟩ hv
    simp at hv;obtain⟨h1,h2,h3⟩:=hb1 x hm;simp[hv,hc,hxi];rw[hd,DP] at hx
    by_cases c1:x.off < 0
    · have:Dz size l=false:=by simp[Dz,hx];omega
      simpa[c1,this] using hq
    by_cases c2:size < x.off
    · have:Dz size l=false:=by simp[Dz,hx];omega
      simpa[c1,c2,this] using hq
    by_cases c3:x.data=[]
    · have:Dz size l=false:=by simp[Dz,hx,c3]
      simpa[c1,c2,c3,this] using hq
    have c3':¬((x.data.length:Int) < 1):=by have:=List.length_pos_iff.2 c3;omega
    simp[c1,c2,c3,c3']
    try simp (disch:=omega) only[wrap64]
    by_cases c4:size < x.off+x.data.length
    · have:Dz size l=false:=by simp[Dz,hx];omega
      simpa[c4,this] using hq
    simp[c4];cases i with
    | zero =>
      simp[R4] at h0 hx ⊢;refine .next c () rfl ⟨rfl,?_⟩;simp[R4] at hxi ⊢;simp[hxi,hx,c3];omega
    | succ i =>
      obtain⟨y,hyi⟩:∃y,l[i]? =some y:=⟨l[i]'(by omega),by simp⟩
      obtain⟨g1,g2,g3⟩:=hb1 y (List.mem_of_getElem? hyi);simp[R4,hyi] at h0 hx ⊢
      try simp (disch:=omega) only[wrap64]
      by_cases c5:x.off < y.off+y.data.length
      · have:Dz size l=false:=by simp[Dz,hx];omega
        simpa[c5,this] using hq
      simp[c5];refine .next c () (by simp) ⟨rfl,?_⟩
      simp[R4,hxi,hx,c3];omega
  · rintro _ S' v b ⟨rfl,h0,hx⟩ hv N
    simp at hv;simp[hv];have:Dz size l=true:=by simp[Dz,hx,DP];omega
    rwa [this] at hq
def atE:List Ext→Int→UInt8
 |[],_=>0
 |x::l,p=>if x.off≤p∧p < x.off+x.data.length then x.data.getD (p - x.off).toNat 0 else atE l p
theorem dY{w0:World}{l:List Ext}{r:Rt}{p:Int}{S:St}{Q:AV→St→Prop}(hl:∀x∈l,0≤x.off∧x.off+x.data.length≤1048576)(hp:0≤p∧p≤1048576)(hn:l.length≤1000000000000000)
   (hq:Q (.int .u8 (atE l p).toNat) S):AC w0 PA [.vs 2 (l.map Ext.c) r,.int .i64 p] S Q:=by
  apply aZ;unfold UC;simp;rw[AH];refine Ak l (fun i (_:Unit)=>([.int .i64 i],[])) (fun i _ S'=>S'=S∧atE l p=atE (l.drop i) p) () rfl (by simp) ?_ ?_
  · rintro i _ S' v b x c hxi hd hc hm ⟨rfl,hx⟩ hv
    simp at hv;obtain⟨h1,h2⟩:=hl x hm;simp[hv,hc,hxi];rw[hd,atE] at hx
    by_cases c1:x.off≤p
    case neg=>
      simp[c1] at hx ⊢
      try simp (disch:=omega) only[wrap64]
      exact .next c () rfl ⟨rfl,hx⟩
    simp[c1]
    try simp (disch:=omega) only[wrap64]
    by_cases c2:p < x.off+x.data.length
    case neg=>
      simp[c2] at hx ⊢
      try simp (disch:=omega) only[wrap64]
      exact .next c () rfl ⟨rfl,hx⟩
    simp[c2,c1] at hx ⊢;obtain⟨k,hk⟩:∃k:Nat,p - x.off=k:=⟨(p - x.off).toNat,by omega⟩
    have hk2:k < x.data.length:=by omega
    try simp (disch:=omega) only[wrap64]
    simp[hk,hk2] at hx ⊢
    rwa [hx] at hq
  · rintro _ S' v b ⟨rfl,hx⟩ hv N
    simp at hv;simp[hv];rw[hx] at hq;simpa[atE] using hq
theorem QW(l:Str):bytesOf (byteCells l)=some l:=by
 induction l with
 |nil=>rfl
 |cons x l ih=>
  simp only[byteCells,List.map_cons] at ih ⊢;simp only[bytesOf,ih];simp
def UL(size:Int)(l:List Ext)(off n:Int):Str:=if off < 0 then [] else (List.range (min n (size - off)).toNat).map fun i:Nat=>atE l (off+(i:Int))
theorem ZJ{w0:World}{size:Int}{l:List Ext}{r:Rt}{off n:Int}{S:St}{Q:AV→St→Prop}(hl:∀x∈l,0≤x.off∧x.off+x.data.length≤1048576)(hn:l.length≤1000000000000000)
   (hs:0≤size∧size≤1048576) (ho:off≤9223372036854775807) (hq:Q (.str (UL size l off n)) S):AC w0 Lg [.int .i64 size,.vs 2 (l.map Ext.c) r,.int .i64 off,.int .i64 n] S Q:=by
  apply WG;unfold Qg;simp;refine UM (fun h=>?_) (fun h=>?_)<;>simp at h
  · simpa[UL,h] using hq
  refine A7 (fun j=>∀r:Rt,j (.vs 1 (byteCells (UL size l off n)) r) S) (fun r=>?_) (fun j hj=>?_)
  · simpa[I0,Tl,QW] using hq
  refine BV (fun s:Nat×Rt=>([.vs 1 (byteCells ((List.range s.1).map fun i:Nat=>atE l (off+(i:Int)))) s.2,.int .i64 s.1],[]))
    (fun k s S'=>S'=S∧s.2≠ .none∧s.1≤(min n (size - off)).toNat∧k=(min n (size - off)).toNat - s.1) _ (0,.full) rfl ⟨rfl,by simp,by simp,rfl⟩ ?_
  rintro k ⟨i,r⟩ S' v b ⟨rfl,hr,hi,rfl⟩ hv;simp at hv hi hr;simp[hv];simp (disch:=omega) only[wrap64]
  by_cases c:(i:Int) < n∧(i:Int) < size - off
  · simp[c]
    try simp (disch:=omega) only[wrap64]
    refine dY hl (by omega) hn ?_
    simp[byteCells,A1,AU,hr,show i+1≤lim by unfold lim;omega]
    refine⟨_,(i+1,.own (Ba L1 r)),?_,?_,rfl,by simp,by simp;omega,rfl⟩
    · simp;omega
    · simp[byteCells,List.range_succ]
  · have:i=(min n (size - off)).toNat:=by omega
    have hc:(decide ((i:Int) < n)&&decide ((i:Int) < size - off))=false:=by simp;omega
    simp[hc];have:=hj r;simpa[UL,show ¬off < 0 by omega,←‹i=_›] using this
def nchain:Option Str→List Str→Bool
 |_,[]=>true
 |p,s::l=>DQ s&&(match p with|none=>true|some q=>slt q s)&&nchain (some s) l
theorem Nd(p:Option Str)(s:Str)(l:List Str):nchain p (s::l)=(DQ s&&(match p with|none=>true|some q=>slt q s)&&nchain (some s) l):=by cases p<;>rfl
def E1(n:Node):Bool:=nchain none n.names.l&&decide (n.names.l.length=n.items.length)
def C1(n:Node):Bool:=
 (decide (n.kind=2)||(!n.opq&&decide (n.names.l.length=0)&&decide (n.items.length=0)))&&(decide (n.kind=1)||(decide (n.size=0)&&decide (n.exts.length=0)))&&(decide (n.kind=3)||decide (n.target=[]))
def Ct(n:Node):Bool:=
 if n.kind=1 then Dz n.size n.exts else if n.kind=3 then (Cp n.target).isSome&&decide (n.target.length≤256) else if n.kind=4 then true else if n.kind=2 then E1 n else false
def M0(n:Node):Bool:=C1 n&&Ct n
mutual
def Node.count:Node→Nat
 | .mk _ _ _ its _ _ _ _ _=>1+Node.counts its
def Node.counts:List Node→Nat
 |[]=>0
 |n::l=>n.count+Node.counts l
end
mutual
def Node.depth:Node→Nat
 | .mk _ _ _ its _ _ _ _ _=>Node.depths its
def Node.depths:List Node→Nat
 |[]=>0
 |n::l=>max (n.depth+1) (Node.depths l)
end
mutual
def Node.allB:Node→Bool
 | .mk k o ns its ir sz es er t=>Node.allsB its&&M0 (.mk k o ns its ir sz es er t)
def Node.allsB:List Node→Bool
 |[]=>true
 |n::l=>n.allB&&Node.allsB l
end
theorem Node.count_eq(n:Node):n.count=1+Node.counts n.items:=by cases n;rw[Node.count];rfl
theorem Node.depth_eq(n:Node):n.depth=Node.depths n.items:=by cases n;rw[Node.depth];rfl
theorem Node.all_eq(n:Node):n.allB=(Node.allsB n.items&&M0 n):=by cases n;rw[Node.allB];rfl
theorem Node.counts_take{l:List Node}{i:Nat}{x:Node}(h:l[i]? =some x):Node.counts (l.take (i+1))=Node.counts (l.take i)+x.count:=by
 induction l generalizing i with
 |nil=>simp at h
 |cons y l ih=>
  cases i with
  |zero=>simp at h;subst h;simp[Node.counts]
  |succ i=>simp at h;simp[Node.counts,ih h];omega
theorem Node.counts_take_le(l:List Node)(i:Nat):Node.counts (l.take i)≤Node.counts l:=by
 induction l generalizing i with
 |nil=>simp
 |cons y l ih=>
  cases i with
  |zero=>simp[Node.counts]
  |succ i=>simp[Node.counts];exact ih i
theorem Node.depths_take{l:List Node}{i:Nat}{x:Node}(h:l[i]? =some x):Node.depths (l.take (i+1))=max (Node.depths (l.take i)) (x.depth+1):=by
 induction l generalizing i with
 |nil=>simp at h
 |cons y l ih=>
  cases i with
  |zero=>simp at h;subst h;simp[Node.depths]
  |succ i=>simp at h;simp[Node.depths,ih h]
theorem Node.depths_take_le(l:List Node)(i:Nat):Node.depths (l.take i)≤Node.depths l:=by
 induction l generalizing i with
 |nil=>simp
 |cons y l ih=>
  cases i with
  |zero=>simp[Node.depths]
  |succ i=>simp[Node.depths];have:=ih i;omega
theorem Node.alls_drop{l:List Node}{i:Nat}{x:Node}(h:l[i]? =some x):Node.allsB (l.drop i)=(x.allB&&Node.allsB (l.drop (i+1))):=by
 have hi:=(List.getElem?_eq_some_iff.1 h).1;rw[List.drop_eq_getElem_cons hi,Node.allsB,(List.getElem?_eq_some_iff.1 h).2]
def Bi(n:Node):Bool:=decide (n.kind=2)&&(n.allB&&(decide (n.count≤4096)&&decide (n.depth≤15)))
mutual
def Node.rgt:Node→Nat→Int→Bool×Int
 | .mk k o ns its ir sz es er t,d,left=>
  if left - 1 < 0∨15 < d∨C1 (.mk k o ns its ir sz es er t)=false then (false,left - 1)
  else if k=2 then (if E1 (.mk k o ns its ir sz es er t)=true then Node.rgts its (d+1) (left - 1) else (false,left - 1))
  else (Ct (.mk k o ns its ir sz es er t),left - 1)
def Node.rgts:List Node→Nat→Int→Bool×Int
 |[],_,left=>(true,left)
 |n::l,d,left=>if (n.rgt d left).1=true then Node.rgts l d (n.rgt d left).2 else (false,(n.rgt d left).2)
end
theorem Node.rgt_eq(n:Node)(d:Nat)(left:Int):n.rgt d left=
  if left - 1 < 0∨15 < d∨C1 n=false then (false,left - 1)
  else if n.kind=2 then (if E1 n=true then Node.rgts n.items (d+1) (left - 1) else (false,left - 1))
  else (Ct n,left - 1):=by
 cases n;rw[Node.rgt];rfl
theorem Node.rgts_drop{l:List Node}{i:Nat}{x:Node}(h:l[i]? =some x)(d:Nat)(left:Int):Node.rgts (l.drop i) d left=if (x.rgt d left).1=true then Node.rgts (l.drop (i+1)) d (x.rgt d left).2 else (false,(x.rgt d left).2):=by
 have hi:=(List.getElem?_eq_some_iff.1 h).1;rw[List.drop_eq_getElem_cons hi,Node.rgts,(List.getElem?_eq_some_iff.1 h).2]
theorem Jh{n:Node}(h:C1 n=true)(h2:n.kind≠2):n.items=[]:=by
 simp[C1,h2] at h;exact h.1.1.2
theorem Node.rgt_spec(n:Node):∀(d:Nat) (left:Int),0≤left→(n.rgt d left).1=(n.allB&&(decide (d+n.depth≤15)&&decide (n.count≤left)))∧((n.rgt d left).1=true→(n.rgt d left).2=left - n.count)∧-1≤(n.rgt d left).2∧(n.rgt d left).2≤left:=by
 induction n using Node.ind with
 |h n ih=>
  intro d left hleft;rw[Node.rgt_eq,Node.all_eq,Node.count_eq,Node.depth_eq]
  by_cases c1:left - 1 < 0
  ·rw[if_pos (.inl c1)];refine⟨?_,by simp,by simp;omega,by simp;omega⟩
   have:¬((1+Node.counts n.items:Nat):Int)≤left:=by omega
   rw[decide_eq_false this];simp
  by_cases c2:15 < d
  ·rw[if_pos (.inr (.inl c2))];refine⟨?_,by simp,by simp;omega,by simp;omega⟩
   have:¬d+Node.depths n.items≤15:=by omega
   simp[this]
  cases c3:C1 n with
  |false=>
   rw[if_pos (by simp)]
   refine⟨by simp[M0,c3],by simp,by simp;omega,by simp;omega⟩
  |true=>
   rw[if_neg (by simp[c1,c2])]
   by_cases c4:n.kind=2
   ·rw[if_pos c4];have hk:Ct n=E1 n:=by simp[Ct,c4]
    cases c5:E1 n with
    |false=>
     rw[if_neg (by simp)]
     exact⟨by simp[M0,hk,c5],by simp,by simp;omega,by simp;omega⟩
    |true=>
     rw[if_pos rfl];have ho:M0 n=true:=by rw[M0,c3,hk,c5];rfl
     rw[ho];have key:∀(l:List Node),(∀x∈l,x∈n.items)→∀lf:Int,0≤lf→(Node.rgts l (d+1) lf).1=(Node.allsB l&&(decide (d+Node.depths l≤15)&&decide ((Node.counts l:Int)≤lf)))∧((Node.rgts l (d+1) lf).1=true→(Node.rgts l (d+1) lf).2=lf - Node.counts l)∧-1≤(Node.rgts l (d+1) lf).2∧(Node.rgts l (d+1) lf).2≤lf:=by
      intro l
      induction l with
      |nil=>
       intro _ lf hlf;have:d≤15:=by omega
       simp[Node.rgts,Node.allsB,Node.depths,Node.counts,this,hlf];omega
      |cons x l ihl=>
       intro hm lf hlf;obtain⟨q1,q2,q3,q4⟩:=ih x (hm x (by simp)) (d+1) lf hlf
       rw[Node.rgts,Node.allsB,Node.depths,Node.counts];cases hx:(x.rgt (d+1) lf).1 with
       |false=>
        rw[if_neg (by simp)]
        refine⟨?_,by simp,q3,q4⟩
        rw[hx] at q1;have q1:=q1.symm;simp only[Bool.and_eq_false_iff,decide_eq_false_iff_not] at q1
        symm
        simp only[Bool.and_eq_false_iff,decide_eq_false_iff_not];rcases q1 with q1|q1|q1
        ·left;left;exact q1
        ·right;left;omega
        ·right;right;omega
       |true=>
        rw[if_pos rfl];rw[hx] at q1;have q1:=q1.symm;simp only[Bool.and_eq_true,decide_eq_true_eq] at q1;obtain⟨p1,p2,p3⟩:=q1;have q2:=q2 hx;obtain⟨r1,r2,r3,r4⟩:=ihl (fun y hy=>hm y (List.mem_cons_of_mem _ hy)) (x.rgt (d+1) lf).2 (by omega)
        refine⟨?_,fun h=>?_,r3,by omega⟩
        ·rw[r1,p1,q2];have e1:(d+Node.depths l≤15)=(d+max (x.depth+1) (Node.depths l)≤15):=propext (by omega)
         have e2:((Node.counts l:Int)≤lf - x.count)=(((x.count+Node.counts l:Nat):Int)≤lf):=propext (by omega)
         simp only[e1,e2,Bool.true_and]
        ·rw[r2 h,q2];omega
     obtain⟨r1,r2,r3,r4⟩:=key n.items (fun x hx=>hx) (left - 1) (by omega)
     refine⟨?_,fun h=>by rw[r2 h];omega,r3,by omega⟩
     rw[r1];have e2:((Node.counts n.items:Int)≤left - 1)=(((1+Node.counts n.items:Nat):Int)≤left):=propext (by omega)
     simp only[e2,Bool.and_true]
   ·rw[if_neg c4];have hit:=Jh c3 c4;rw[hit];have e1:d+Node.depths []≤15:=by simp[Node.depths];omega
    have e2:((1+Node.counts []:Nat):Int)≤left:=by simp[Node.counts];omega
    refine⟨by simp only[M0,c3,Node.allsB,e1,e2];simp,fun _=>by simp[Node.counts],by simp;omega,by simp;omega⟩
theorem dF(n:Node):(decide (n.kind=2)&&(n.rgt 0 4096).1)=Bi n:=by
 obtain⟨h,_⟩:=n.rgt_spec 0 4096 (by omega)
 rw[h,Bi];have e:((n.count:Int)≤4096)=(n.count≤4096):=propext (by omega)
 simp only[e,Nat.zero_add];cases n.allB<;>simp[Bool.and_comm]
@[simp] def kG(i:Nat):List AV:=[.int .i64 (i:Int)]
structure Bm where
 kind:Int
 opq:Bool
 names:List Str
 size:Int
 exts:List Ext
 target:Str
 ids:List Nat
 deriving DecidableEq
structure Ino where
 p:Bm
 nr:Rt
 er:Rt
 ir:Rt
def Ino.c(x:Ino):List AV:=[.int .i64 x.p.kind,.bool x.p.opq,.vs 1 (x.p.names.map BO) x.nr.strip,.vs 7 [] .nil,.int .i64 x.p.size,.vs 2 (x.p.exts.map Ext.c) x.er.strip,.str x.p.target,.vs 1 (x.p.ids.map kG) x.ir.strip]
@[simp] theorem Ino.c_len(x:Ino):x.c.length=8:=rfl
def WS:Ino:=⟨⟨0,false,[],0,[],[],[]⟩,.nil,.nil,.nil⟩
def Node.idsOf:List Node→Nat→List Nat
 |[],_=>[]
 |n::l,b=>b::Node.idsOf l (b+n.count)
mutual
def Node.tab:Node→Nat→List Bm
 | .mk k o ns its _ sz es _ t,b=>⟨k,o,ns.l,sz,es,t,Node.idsOf its (b+1)⟩::Node.tabs its (b+1)
def Node.tabs:List Node→Nat→List Bm
 |[],_=>[]
 |n::l,b=>n.tab b++Node.tabs l (b+n.count)
end
def Node.hd(n:Node)(b:Nat):Bm:=⟨n.kind,n.opq,n.names.l,n.size,n.exts,n.target,Node.idsOf n.items (b+1)⟩
theorem Node.tab_eq(n:Node)(b:Nat):n.tab b=n.hd b::Node.tabs n.items (b+1):=by cases n;rw[Node.tab];rfl
theorem Node.tabs_nil(b:Nat):Node.tabs [] b=[]:=by rw[Node.tabs]
theorem Node.tabs_cons(n:Node)(l:List Node)(b:Nat):Node.tabs (n::l) b=n.tab b++Node.tabs l (b+n.count):=by rw[Node.tabs]
theorem Node.tab_len(n:Node):∀b,(n.tab b).length=n.count:=by
 induction n using Node.ind with
 |h n ih=>
  intro b;have:∀(l:List Node),(∀x∈l,∀b,(x.tab b).length=x.count)→∀b,(Node.tabs l b).length=Node.counts l:=by
   intro l
   induction l with
   |nil=>intro _ b;rw[Node.tabs_nil];simp[Node.counts]
   |cons x l ihl=>intro h b;rw[Node.tabs_cons,List.length_append,h x (by simp),ihl (fun y hy=>h y (by simp[hy])),Node.counts]
  rw[Node.tab_eq,List.length_cons,this _ ih,Node.count_eq];omega
theorem Node.tabs_len:∀(l:List Node) (b:Nat),(Node.tabs l b).length=Node.counts l
 |[],b=>by rw[Node.tabs_nil];simp[Node.counts]
 |n::l,b=>by rw[Node.tabs_cons,List.length_append,Node.tab_len,Node.tabs_len l,Node.counts]
theorem Node.tabs_take{l:List Node}{i:Nat}{x:Node}(h:l[i]? =some x):∀b,Node.tabs (l.take (i+1)) b=Node.tabs (l.take i) b++x.tab (b+Node.counts (l.take i)):=by
 induction l generalizing i with
 |nil=>simp at h
 |cons y l ih=>
  intro b;cases i with
  |zero=>simp at h;subst h;simp[Node.tabs_cons,Node.tabs_nil,Node.counts]
  |succ i=>
   simp at h;simp only[List.take_succ_cons,Node.tabs_cons,Node.counts];rw[ih h,List.append_assoc];congr 3;omega
theorem Node.idsOf_take{l:List Node}{i:Nat}{x:Node}(h:l[i]? =some x):∀b,Node.idsOf (l.take (i+1)) b=Node.idsOf (l.take i) b++[b+Node.counts (l.take i)]:=by
 induction l generalizing i with
 |nil=>simp at h
 |cons y l ih=>
  intro b;cases i with
  |zero=>simp at h;subst h;simp[Node.idsOf,Node.counts]
  |succ i=>
   simp at h;simp only[List.take_succ_cons,Node.idsOf,Node.counts];rw[ih h];simp;omega
theorem Node.idsOf_len:∀(l:List Node) (b:Nat),(Node.idsOf l b).length=l.length
 |[],b=>rfl
 |n::l,b=>by simp[Node.idsOf,Node.idsOf_len l]
def kF(S:St)(id:Nat)(T:List Ino):Prop:=
 (T=[]∧S[id]? =some (.cells [.vs 8 [] .nil] B4))∨∃t,id < t∧S[id]? =some (.cells [.rs 8 t 0 T.length] B4)∧S[t]? =some (.cells (BN Ino.c T) 0)
def Br(S:St)(id:Nat)(P:List Bm):Prop:=∃(t:Nat) (T:List Ino),id < t∧S[id]? =some (.cells [.rs 8 t 0 T.length] B4)∧S[t]? =some (.cells (BN Ino.c T) 0)∧T.map Ino.p=P
theorem Br.mono{S S':St}{id:Nat}{P:List Bm}(h:Br S id P)(k:Sx S S'):Br S' id P:=by
 obtain⟨t,T,h1,h2,h3,h4⟩:=h;exact⟨t,T,h1,k.get h2,k.get h3,h4⟩
def Bm.none:Bm:=⟨0,false,[],0,[],[],[]⟩
def BM(P:List Bm)(i:Int):Bm:=if i < 0 then Bm.none else (P[i.toNat]?).getD Bm.none
structure Mnt where
 num:Nat
 id:Nat
 tab:List Bm
def Mnt.c(m:Mnt):List AV:=[.int .i64 m.num,.ptr m.id 0]
@[simp] theorem Mnt.c_len(m:Mnt):m.c.length=2:=rfl
structure Stk where
 l:List Mnt
 r:Rt
 next:Nat
def Stk.c(s:Stk):List AV:=[.vs 2 (s.l.map Mnt.c) s.r.strip,.int .i64 s.next]
def Stk.on(s:Stk)(S:St):Prop:=∀m∈s.l,Br S m.id m.tab
theorem Stk.on.mono{s:Stk}{S S':St}(h:s.on S)(k:Sx S S'):s.on S':=fun m hm=>(h m hm).mono k
def Stk.none:Stk:=⟨[],.nil,0⟩
theorem Stk.none_c:Stk.none.c=[.vs 2 [] .nil,.int .i64 0]:=rfl
structure Stk.ok(s:Stk):Prop where
 r:s.r.strip= .nil→s.l=[]
 len:s.l.length≤64
 next:s.next≤1000000000
 num:∀m∈s.l,m.num≤1000000000
def OA:List Node→Nat→Nat
 |[],_=>0
 |n::l,k=>if Bi n=false then 1 else if 64≤k then 6 else OA l (k+1)
end Go.Av
