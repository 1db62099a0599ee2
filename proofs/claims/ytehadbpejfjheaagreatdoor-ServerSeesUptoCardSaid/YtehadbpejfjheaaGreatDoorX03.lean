/- Parts of the proofs of this seat: abstract values over the model, and what the functions of the program do. No condition. -/
import Derived.Test.YtehadbpejfjheaaGreatDoorM8
import Derived.Test.YtehadbpejfjheaaGreatDoorM9
import Derived.Test.YtehadbpejfjheaaGreatDoorD0
import Derived.Test.YtehadbpejfjheaaGreatDoorM24
import Derived.Test.YtehadbpejfjheaaGreatDoorDExt
import Derived.Test.YtehadbpejfjheaaGreatDoorY01
import Derived.DataReads
set_option linter.all false
set_option maxRecDepth 100000
namespace Go.Av
open Go.Proofs
def HK(size:Int):Int→List Ext→Bool
 |_,[]=>true
 |at_,x::l=>decide (at_≤x.off∧x.data≠[]∧x.off+x.data.length≤size)&&HK size (x.off+x.data.length) l
def Fj(size:Int)(l:List Ext):Bool:=decide (0≤size∧size≤1048576)&&HK size 0 l
def mo(l:List Ext):Prop:=(∀x∈l,-9223372036854775808≤x.off∧x.off≤9223372036854775807∧x.data.length≤1000000000000000)∧l.length≤1000000000000000
theorem V8{w0:World}{size:Int}{l:List Ext}{r:Rt}{S:St}{Q:AV→St→Prop}(hs:-9223372036854775808≤size∧size≤9223372036854775807)(hb:mo l)
   (hq:Q (.bool (Fj size l)) S):AC w0 Ki [.int .i64 size,.vs 2 (l.map Ext.c) r] S Q:=by
  apply Uy;unfold O9;simp;rw[AO];obtain⟨hb1,hb2⟩:=hb
  by_cases hneg:size < 0
  · have hf:Fj size l=false:=by simp[Fj];omega
    rw[hf] at hq;refine BN l (fun i at_=>([.int .i64 at_,.int .i64 i],[])) (fun i at_ S'=>S'=S) 0 rfl rfl ?_ ?_
    · rintro i at_ S' v b x c hxi hd hc hm rfl hv
      simp at hv;simp[hv,hc,hxi];refine eo (fun h=>hq) (fun h=>?_)
      try simp (disch:=omega) only[wrap64]
      exact .next c _ rfl rfl
    · rintro at_ S' v b rfl hv N
      simp at hv;simpa[hv,show ¬0≤size by omega] using hq
  refine BN l (fun i at_=>([.int .i64 at_,.int .i64 i],[])) (fun i at_ S'=>S'=S∧0≤at_∧HK size 0 l=HK size at_ (l.drop i)) 0 rfl (by simp) ?_ ?_
  · rintro i at_ S' v b x c hxi hd hc hm ⟨rfl,h0,hx⟩ hv
    simp at hv;obtain⟨h1,h2,h3⟩:=hb1 x hm;simp[hv,hc,hxi];rw[hd,HK] at hx
    by_cases c1:x.off < at_
    · have:Fj size l=false:=by simp[Fj,hx];omega
      simpa[c1,this] using hq
    by_cases c2:x.data=[]
    · have:Fj size l=false:=by simp[Fj,hx,c2]
      simpa[c1,c2,this] using hq
    try simp (disch:=omega) only[wrap64]
    by_cases c3:size - x.off < x.data.length
    · have:Fj size l=false:=by simp[Fj,hx];omega
      simpa[c1,c2,c3,this] using hq
    simp[c1,c2,c3]
    try simp (disch:=omega) only[wrap64]
    exact .next c _ rfl ⟨rfl,by omega,by simp[hx,c2];omega⟩
  · rintro at_ S' v b ⟨rfl,h0,hx⟩ hv N
    simp at hv;simp[hv];simpa[Fj,hx,HK] using hq
def UK(l:List Ext)(i:Nat):Int:=if i=0 then 0 else match l[i - 1]? with|some x=>x.off+x.data.length|none=>0
theorem XM{w0:World}{size:Int}{l:List Ext}{r:Rt}{S:St}{Q:AV→St→Prop}(hs:-9223372036854775808≤size∧size≤9223372036854775807)(hb:mo l)
   (hq:Q (.bool (Fj size l)) S):AC w0 Ls [.int .i64 size,.vs 2 (l.map Ext.c) r] S Q:=by
  apply Vh;unfold QG;simp;obtain⟨hb1,hb2⟩:=hb;refine eo (fun h=>?_) (fun h=>?_)<;>simp at h
  · have:Fj size l=false:=by simp[Fj];omega
    rwa [this] at hq
  rw[AO];refine BN l (fun i (_:Unit)=>([.int .i64 i],[])) (fun i _ S'=>S'=S∧(0≤UK l i∧UK l i≤size)∧HK size 0 l=HK size (UK l i) (l.drop i)) () rfl (by simp[UK];omega) ?_ ?_
  · rintro i _ S' v b x c hxi hd hc hm ⟨rfl,h0,hx⟩ hv
    simp at hv;obtain⟨h1,h2,h3⟩:=hb1 x hm;simp[hv,hc,hxi];rw[hd,HK] at hx
    by_cases c1:x.off < 0
    · have:Fj size l=false:=by simp[Fj,hx];omega
      simpa[c1,this] using hq
    by_cases c2:size < x.off
    · have:Fj size l=false:=by simp[Fj,hx];omega
      simpa[c1,c2,this] using hq
    by_cases c3:x.data=[]
    · have:Fj size l=false:=by simp[Fj,hx,c3]
      simpa[c1,c2,c3,this] using hq
    have c3':¬((x.data.length:Int) < 1):=by have:=List.length_pos_iff.2 c3;omega
    simp[c1,c2,c3,c3']
    try simp (disch:=omega) only[wrap64]
    by_cases c4:size < x.off+x.data.length
    · have:Fj size l=false:=by simp[Fj,hx];omega
      simpa[c4,this] using hq
    simp[c4];cases i with
    | zero =>
      simp[UK] at h0 hx ⊢;refine .next c () rfl ⟨rfl,?_⟩;simp[UK] at hxi ⊢;simp[hxi,hx,c3];omega
    | succ i =>
      obtain⟨y,hyi⟩:∃y,l[i]? =some y:=⟨l[i]'(by omega),by simp⟩
      obtain⟨g1,g2,g3⟩:=hb1 y (List.mem_of_getElem? hyi);simp[UK,hyi] at h0 hx ⊢
      try simp (disch:=omega) only[wrap64]
      by_cases c5:x.off < y.off+y.data.length
      · have:Fj size l=false:=by simp[Fj,hx];omega
        simpa[c5,this] using hq
      simp[c5];refine .next c () (by simp) ⟨rfl,?_⟩
      simp[UK,hxi,hx,c3];omega
  · rintro _ S' v b ⟨rfl,h0,hx⟩ hv N
    simp at hv;simp[hv];have:Fj size l=true:=by simp[Fj,hx,HK];omega
    rwa [this] at hq
def nchain:Option Str→List Str→Bool
 |_,[]=>true
 |p,s::l=>Es s&&(match p with|none=>true|some q=>slt q s)&&nchain (some s) l
theorem Oo(p:Option Str)(s:Str)(l:List Str):nchain p (s::l)=(Es s&&(match p with|none=>true|some q=>slt q s)&&nchain (some s) l):=by cases p<;>rfl
def HQ(n:Node):Bool:=nchain none n.names.l&&decide (n.names.l.length=n.items.length)
def F0(n:Node):Bool:=
 (decide (n.kind=2)||(!n.opq&&decide (n.names.l.length=0)&&decide (n.items.length=0)))&&(decide (n.kind=1)||(decide (n.size=0)&&decide (n.exts.length=0)))&&(decide (n.kind=3)||decide (n.target=[]))
def Fm(n:Node):Bool:=
 if n.kind=1 then Fj n.size n.exts else if n.kind=3 then (D4 n.target).isSome&&decide (n.target.length≤256) else if n.kind=4 then true else if n.kind=2 then HQ n else false
def Q4(n:Node):Bool:=F0 n&&Fm n
mutual
def Node.count:Node→Nat
 | .mk _ _ _ its _ _ _ _ _=>1+Node.counts its
def Node.counts:List Node→Nat
 |[]=>0
 |n::l=>n.count+Node.counts l
end
mutual
def Node.depth:Node→Nat
 | .mk _ _ _ its _ _ _ _ _=>Node.depths its
def Node.depths:List Node→Nat
 |[]=>0
 |n::l=>max (n.depth+1) (Node.depths l)
end
mutual
def Node.allB:Node→Bool
 | .mk k o ns its ir sz es er t=>Node.allsB its&&Q4 (.mk k o ns its ir sz es er t)
def Node.allsB:List Node→Bool
 |[]=>true
 |n::l=>n.allB&&Node.allsB l
end
theorem Node.count_eq(n:Node):n.count=1+Node.counts n.items:=by cases n;rw[Node.count];rfl
theorem Node.depth_eq(n:Node):n.depth=Node.depths n.items:=by cases n;rw[Node.depth];rfl
theorem Node.all_eq(n:Node):n.allB=(Node.allsB n.items&&Q4 n):=by cases n;rw[Node.allB];rfl
theorem Node.counts_take{l:List Node}{i:Nat}{x:Node}(h:l[i]? =some x):Node.counts (l.take (i+1))=Node.counts (l.take i)+x.count:=by
 induction l generalizing i with
 |nil=>simp at h
 |cons y l ih=>
  cases i with
  |zero=>simp at h;subst h;simp[Node.counts]
  |succ i=>simp at h;simp[Node.counts,ih h];omega
theorem Node.counts_take_le(l:List Node)(i:Nat):Node.counts (l.take i)≤Node.counts l:=by
 induction l generalizing i with
 |nil=>simp
 |cons y l ih=>
  cases i with
  |zero=>simp[Node.counts]
  |succ i=>simp[Node.counts];exact ih i
theorem Node.depths_take{l:List Node}{i:Nat}{x:Node}(h:l[i]? =some x):Node.depths (l.take (i+1))=max (Node.depths (l.take i)) (x.depth+1):=by
 induction l generalizing i with
 |nil=>simp at h
 |cons y l ih=>
  cases i with
  |zero=>simp at h;subst h;simp[Node.depths]
  |succ i=>simp at h;simp[Node.depths,ih h]
theorem Node.depths_take_le(l:List Node)(i:Nat):Node.depths (l.take i)≤Node.depths l:=by
 induction l generalizing i with
 |nil=>simp
 |cons y l ih=>
  cases i with
  |zero=>simp[Node.depths]
  |succ i=>simp[Node.depths];have:=ih i;omega
theorem Node.alls_drop{l:List Node}{i:Nat}{x:Node}(h:l[i]? =some x):Node.allsB (l.drop i)=(x.allB&&Node.allsB (l.drop (i+1))):=by
 have hi:=(List.getElem?_eq_some_iff.1 h).1;rw[List.drop_eq_getElem_cons hi,Node.allsB,(List.getElem?_eq_some_iff.1 h).2]
def D5(n:Node):Bool:=decide (n.kind=2)&&(n.allB&&(decide (n.count≤4096)&&decide (n.depth≤15)))
mutual
def Node.rgt:Node→Nat→Int→Bool×Int
 | .mk k o ns its ir sz es er t,d,left=>
  if left - 1 < 0∨15 < d∨F0 (.mk k o ns its ir sz es er t)=false then (false,left - 1)
  else if k=2 then (if HQ (.mk k o ns its ir sz es er t)=true then Node.rgts its (d+1) (left - 1) else (false,left - 1))
  else (Fm (.mk k o ns its ir sz es er t),left - 1)
def Node.rgts:List Node→Nat→Int→Bool×Int
 |[],_,left=>(true,left)
 |n::l,d,left=>if (n.rgt d left).1=true then Node.rgts l d (n.rgt d left).2 else (false,(n.rgt d left).2)
end
theorem Node.rgt_eq(n:Node)(d:Nat)(left:Int):n.rgt d left=
  if left - 1 < 0∨15 < d∨F0 n=false then (false,left - 1)
  else if n.kind=2 then (if HQ n=true then Node.rgts n.items (d+1) (left - 1) else (false,left - 1))
  else (Fm n,left - 1):=by
 cases n;rw[Node.rgt];rfl
theorem Node.rgts_drop{l:List Node}{i:Nat}{x:Node}(h:l[i]? =some x)(d:Nat)(left:Int):Node.rgts (l.drop i) d left=if (x.rgt d left).1=true then Node.rgts (l.drop (i+1)) d (x.rgt d left).2 else (false,(x.rgt d left).2):=by
 have hi:=(List.getElem?_eq_some_iff.1 h).1;rw[List.drop_eq_getElem_cons hi,Node.rgts,(List.getElem?_eq_some_iff.1 h).2]
theorem OZ{n:Node}(h:F0 n=true)(h2:n.kind≠2):n.items=[]:=by
 simp[F0,h2] at h;exact h.1.1.2
theorem Node.rgt_spec(n:Node):∀(d:Nat) (left:Int),0≤left→(n.rgt d left).1=(n.allB&&(decide (d+n.depth≤15)&&decide (n.count≤left)))∧((n.rgt d left).1=true→(n.rgt d left).2=left - n.count)∧-1≤(n.rgt d left).2∧(n.rgt d left).2≤left:=by
 induction n using Node.ind with
 |h n ih=>
  intro d left hleft;rw[Node.rgt_eq,Node.all_eq,Node.count_eq,Node.depth_eq]
  by_cases c1:left - 1 < 0
  ·rw[if_pos (.inl c1)];refine⟨?_,by simp,by simp;omega,by simp;omega⟩
   have:¬((1+Node.counts n.items:Nat):Int)≤left:=by omega
   rw[decide_eq_false this];simp
  by_cases c2:15 < d
  ·rw[if_pos (.inr (.inl c2))];refine⟨?_,by simp,by simp;omega,by simp;omega⟩
   have:¬d+Node.depths n.items≤15:=by omega
   simp[this]
  cases c3:F0 n with
  |false=>
   rw[if_pos (by simp)]
   refine⟨by simp[Q4,c3],by simp,by simp;omega,by simp;omega⟩
  |true=>
   rw[if_neg (by simp[c1,c2])]
   by_cases c4:n.kind=2
   ·rw[if_pos c4];have hk:Fm n=HQ n:=by simp[Fm,c4]
    cases c5:HQ n with
    |false=>
     rw[if_neg (by simp)]
     exact⟨by simp[Q4,hk,c5],by simp,by simp;omega,by simp;omega⟩
    |true=>
     rw[if_pos rfl];have ho:Q4 n=true:=by rw[Q4,c3,hk,c5];rfl
     rw[ho];have key:∀(l:List Node),(∀x∈l,x∈n.items)→∀lf:Int,0≤lf→(Node.rgts l (d+1) lf).1=(Node.allsB l&&(decide (d+Node.depths l≤15)&&decide ((Node.counts l:Int)≤lf)))∧((Node.rgts l (d+1) lf).1=true→(Node.rgts l (d+1) lf).2=lf - Node.counts l)∧-1≤(Node.rgts l (d+1) lf).2∧(Node.rgts l (d+1) lf).2≤lf:=by
      intro l
      induction l with
      |nil=>
       intro _ lf hlf;have:d≤15:=by omega
       simp[Node.rgts,Node.allsB,Node.depths,Node.counts,this,hlf];omega
      |cons x l ihl=>
       intro hm lf hlf;obtain⟨q1,q2,q3,q4⟩:=ih x (hm x (by simp)) (d+1) lf hlf
       rw[Node.rgts,Node.allsB,Node.depths,Node.counts];cases hx:(x.rgt (d+1) lf).1 with
       |false=>
        rw[if_neg (by simp)]
        refine⟨?_,by simp,q3,q4⟩
        rw[hx] at q1;have q1:=q1.symm;simp only[Bool.and_eq_false_iff,decide_eq_false_iff_not] at q1
        symm
        simp only[Bool.and_eq_false_iff,decide_eq_false_iff_not];rcases q1 with q1|q1|q1
        ·left;left;exact q1
        ·right;left;omega
        ·right;right;omega
       |true=>
        rw[if_pos rfl];rw[hx] at q1;have q1:=q1.symm;simp only[Bool.and_eq_true,decide_eq_true_eq] at q1;obtain⟨p1,p2,p3⟩:=q1;have q2:=q2 hx;obtain⟨r1,r2,r3,r4⟩:=ihl (fun y hy=>hm y (List.mem_cons_of_mem _ hy)) (x.rgt (d+1) lf).2 (by omega)
        refine⟨?_,fun h=>?_,r3,by omega⟩
        ·rw[r1,p1,q2];have e1:(d+Node.depths l≤15)=(d+max (x.depth+1) (Node.depths l)≤15):=propext (by omega)
         have e2:((Node.counts l:Int)≤lf - x.count)=(((x.count+Node.counts l:Nat):Int)≤lf):=propext (by omega)
         simp only[e1,e2,Bool.true_and]
        ·rw[r2 h,q2];omega
     obtain⟨r1,r2,r3,r4⟩:=key n.items (fun x hx=>hx) (left - 1) (by omega)
     refine⟨?_,fun h=>by rw[r2 h];omega,r3,by omega⟩
     rw[r1];have e2:((Node.counts n.items:Int)≤left - 1)=(((1+Node.counts n.items:Nat):Int)≤left):=propext (by omega)
     simp only[e2,Bool.and_true]
   ·rw[if_neg c4];have hit:=OZ c3 c4;rw[hit];have e1:d+Node.depths []≤15:=by simp[Node.depths];omega
    have e2:((1+Node.counts []:Nat):Int)≤left:=by simp[Node.counts];omega
    refine⟨by simp only[Q4,c3,Node.allsB,e1,e2];simp,fun _=>by simp[Node.counts],by simp;omega,by simp;omega⟩
theorem db(n:Node):(decide (n.kind=2)&&(n.rgt 0 4096).1)=D5 n:=by
 obtain⟨h,_⟩:=n.rgt_spec 0 4096 (by omega)
 rw[h,D5];have e:((n.count:Int)≤4096)=(n.count≤4096):=propext (by omega)
 simp only[e,Nat.zero_add];cases n.allB<;>simp[Bool.and_comm]
@[simp] def kB(i:Nat):List AV:=[.int .i64 (i:Int)]
structure Cn where
 kind:Int
 opq:Bool
 names:List Str
 size:Int
 exts:List Ext
 target:Str
 ids:List Nat
 deriving DecidableEq
structure Ino where
 p:Cn
 nr:Rt
 er:Rt
 ir:Rt
def Ino.c(x:Ino):List AV:=[.int .i64 x.p.kind,.bool x.p.opq,.vs 1 (x.p.names.map Cw) x.nr.strip,.vs 7 [] .nil,.int .i64 x.p.size,.vs 2 (x.p.exts.map Ext.c) x.er.strip,.str x.p.target,.vs 1 (x.p.ids.map kB) x.ir.strip]
@[simp] theorem Ino.c_len(x:Ino):x.c.length=8:=rfl
def Xc:Ino:=⟨⟨0,false,[],0,[],[],[]⟩,.nil,.nil,.nil⟩
def Node.idsOf:List Node→Nat→List Nat
 |[],_=>[]
 |n::l,b=>b::Node.idsOf l (b+n.count)
mutual
def Node.tab:Node→Nat→List Cn
 | .mk k o ns its _ sz es _ t,b=>⟨k,o,ns.l,sz,es,t,Node.idsOf its (b+1)⟩::Node.tabs its (b+1)
def Node.tabs:List Node→Nat→List Cn
 |[],_=>[]
 |n::l,b=>n.tab b++Node.tabs l (b+n.count)
end
def Node.hd(n:Node)(b:Nat):Cn:=⟨n.kind,n.opq,n.names.l,n.size,n.exts,n.target,Node.idsOf n.items (b+1)⟩
theorem Node.tab_eq(n:Node)(b:Nat):n.tab b=n.hd b::Node.tabs n.items (b+1):=by cases n;rw[Node.tab];rfl
theorem Node.tabs_nil(b:Nat):Node.tabs [] b=[]:=by rw[Node.tabs]
theorem Node.tabs_cons(n:Node)(l:List Node)(b:Nat):Node.tabs (n::l) b=n.tab b++Node.tabs l (b+n.count):=by rw[Node.tabs]
theorem Node.tab_len(n:Node):∀b,(n.tab b).length=n.count:=by
 induction n using Node.ind with
 |h n ih=>
  intro b;have:∀(l:List Node),(∀x∈l,∀b,(x.tab b).length=x.count)→∀b,(Node.tabs l b).length=Node.counts l:=by
   intro l
   induction l with
   |nil=>intro _ b;rw[Node.tabs_nil];simp[Node.counts]
   |cons x l ihl=>intro h b;rw[Node.tabs_cons,List.length_append,h x (by simp),ihl (fun y hy=>h y (by simp[hy])),Node.counts]
  rw[Node.tab_eq,List.length_cons,this _ ih,Node.count_eq];omega
theorem Node.tabs_len:∀(l:List Node) (b:Nat),(Node.tabs l b).length=Node.counts l
 |[],b=>by rw[Node.tabs_nil];simp[Node.counts]
 |n::l,b=>by rw[Node.tabs_cons,List.length_append,Node.tab_len,Node.tabs_len l,Node.counts]
theorem Node.tabs_take{l:List Node}{i:Nat}{x:Node}(h:l[i]? =some x):∀b,Node.tabs (l.take (i+1)) b=Node.tabs (l.take i) b++x.tab (b+Node.counts (l.take i)):=by
 induction l generalizing i with
 |nil=>simp at h
 |cons y l ih=>
  intro b;cases i with
  |zero=>simp at h;subst h;simp[Node.tabs_cons,Node.tabs_nil,Node.counts]
  |succ i=>
   simp at h;simp only[List.take_succ_cons,Node.tabs_cons,Node.counts];rw[ih h,List.append_assoc];congr 3;omega
theorem Node.idsOf_take{l:List Node}{i:Nat}{x:Node}(h:l[i]? =some x):∀b,Node.idsOf (l.take (i+1)) b=Node.idsOf (l.take i) b++[b+Node.counts (l.take i)]:=by
 induction l generalizing i with
 |nil=>simp at h
 |cons y l ih=>
  intro b;cases i with
  |zero=>simp at h;subst h;simp[Node.idsOf,Node.counts]
  |succ i=>
   simp at h;simp only[List.take_succ_cons,Node.idsOf,Node.counts];rw[ih h];simp;omega
theorem Node.idsOf_len:∀(l:List Node) (b:Nat),(Node.idsOf l b).length=l.length
 |[],b=>rfl
 |n::l,b=>by simp[Node.idsOf,Node.idsOf_len l]
def kr(S:St)(id:Nat)(T:List Ino):Prop:=
 (T=[]∧S[id]? =some (.cells [.vs 8 [] .nil] DL))∨∃t,id < t∧S[id]? =some (.cells [.rs 8 t 0 T.length] DL)∧S[t]? =some (.cells (Ab Ino.c T) 0)
def Br(S:St)(id:Nat)(P:List Cn):Prop:=∃(t:Nat) (T:List Ino),id < t∧S[id]? =some (.cells [.rs 8 t 0 T.length] DL)∧S[t]? =some (.cells (Ab Ino.c T) 0)∧T.map Ino.p=P
theorem Br.mono{S S':St}{id:Nat}{P:List Cn}(h:Br S id P)(k:Sx S S'):Br S' id P:=by
 obtain⟨t,T,h1,h2,h3,h4⟩:=h;exact⟨t,T,h1,k.get h2,k.get h3,h4⟩
theorem Br.lt{S:St}{id:Nat}{P:List Cn}(h:Br S id P):id < S.length:=by
 obtain⟨t,T,h1,h2,h3,h4⟩:=h;exact(List.getElem?_eq_some_iff.1 h2).1
def Cn.none:Cn:=⟨0,false,[],0,[],[],[]⟩
def Cu(P:List Cn)(i:Int):Cn:=if i < 0 then Cn.none else (P[i.toNat]?).getD Cn.none
structure Mnt where
 num:Nat
 id:Nat
 tab:List Cn
def Mnt.c(m:Mnt):List AV:=[.int .i64 m.num,.ptr m.id 0]
@[simp] theorem Mnt.c_len(m:Mnt):m.c.length=2:=rfl
structure Stk where
 l:List Mnt
 r:Rt
 next:Nat
def Stk.c(s:Stk):List AV:=[.vs 2 (s.l.map Mnt.c) s.r.strip,.int .i64 s.next]
def Stk.on(s:Stk)(S:St):Prop:=∀m∈s.l,Br S m.id m.tab
theorem Stk.on.mono{s:Stk}{S S':St}(h:s.on S)(k:Sx S S'):s.on S':=fun m hm=>(h m hm).mono k
def Stk.none:Stk:=⟨[],.nil,0⟩
theorem Stk.none_c:Stk.none.c=[.vs 2 [] .nil,.int .i64 0]:=rfl
structure Stk.ok(s:Stk):Prop where
 r:s.r.strip= .nil→s.l=[]
 len:s.l.length≤64
 next:s.next≤1000000000
 num:∀m∈s.l,m.num≤1000000000
def MQ:List Node→Nat→Nat
 |[],_=>0
 |n::l,k=>if D5 n=false then 1 else if 64≤k then 6 else MQ l (k+1)
end Go.Av
