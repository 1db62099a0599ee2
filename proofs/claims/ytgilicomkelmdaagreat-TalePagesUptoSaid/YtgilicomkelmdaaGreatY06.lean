/- Parts of the proofs of this seat: abstract values over the model, and what the functions of the program do. No condition. -/
import Derived.Test.YtgilicomkelmdaaGreatX05e
import Derived.Test.YtgilicomkelmdaaGreatY05e
import Derived.Test.YtgilicomkelmdaaGreatXBld
import Derived.Test.YtgilicomkelmdaaGreatY12
import Derived.Test.YtgilicomkelmdaaGreatY19
import Derived.Test.YtgilicomkelmdaaGreatX08d
import Derived.Test.YtgilicomkelmdaaGreatY10
import Derived.Test.YtgilicomkelmdaaGreatY24b
import Derived.Test.YtgilicomkelmdaaGreatDRow
import Derived.Test.YtgilicomkelmdaaGreatM9
import Derived.Test.YtgilicomkelmdaaGreatM10
import Derived.Test.YtgilicomkelmdaaGreatXFrz
set_option linter.all false
namespace Go.Av
mutual
def Node.pre:Node→List Node
 | .mk k o ns its ir sz es er t=>.mk k o ns its ir sz es er t::Node.pres its
def Node.pres:List Node→List Node
 |[]=>[]
 |n::l=>n.pre++Node.pres l
end
theorem Node.pre_eq(n:Node):n.pre=n::Node.pres n.items:=by cases n;rw[Node.pre];rfl
theorem Node.pres_nil:Node.pres []=[]:=by rw[Node.pres]
theorem Node.pres_cons(n:Node)(l:List Node):Node.pres (n::l)=n.pre++Node.pres l:=by rw[Node.pres]
theorem Node.pre_len(n:Node):n.pre.length=n.count:=by
 induction n using Node.ind with
 |h n ih=>
  have:∀(l:List Node),(∀x∈l,x.pre.length=x.count)→(Node.pres l).length=Node.counts l:=by
   intro l
   induction l with
   |nil=>intro _;rw[Node.pres_nil];simp[Node.counts]
   |cons x l ihl=>intro h;rw[Node.pres_cons,List.length_append,h x (by simp),ihl (fun y hy=>h y (by simp[hy])),Node.counts]
  rw[Node.pre_eq,List.length_cons,this _ ih,Node.count_eq];omega
theorem YQ:∀{l:List Node} {m:Nat} {x:Node},(Node.pres l)[m]? =some x→∃j c k,l[j]? =some c∧m=Node.counts (l.take j)+k∧c.pre[k]? =some x
 |[],m,x,h=>by rw[Node.pres_nil] at h;simp at h
 |y::l,m,x,h=>by
  rw[Node.pres_cons] at h
  by_cases c:m < y.pre.length
  ·rw[List.getElem?_append_left c] at h;exact⟨0,y,m,rfl,by simp[Node.counts],h⟩
  ·rw[List.getElem?_append_right (by omega)] at h
   obtain⟨j,d,k,h1,h2,h3⟩:=YQ h;rw[Node.pre_len] at h2 c;exact⟨j+1,d,k,by simpa using h1,by simp only[List.take_succ_cons,Node.counts];omega,h3⟩
theorem At.pre{P:List Bk}(n:Node):∀{i k:Nat} {x:Node},At P i n→n.pre[k]? =some x→At P (i+k) x:=by
 induction n using Node.ind with
 |h n ih=>
  intro i k x h hk;rw[Node.pre_eq] at hk;cases k with
  |zero=>simp at hk;subst hk;exact h
  |succ k=>
   simp only[List.getElem?_cons_succ] at hk;obtain⟨j,c,m,h1,h2,h3⟩:=YQ hk;have:=ih c (List.mem_of_getElem? h1) (h.kid h1) h3;rw[h2,show i+(Node.counts (n.items.take j)+m+1)=i+1+Node.counts (n.items.take j)+m by omega]
   exact this
open Go.Proofs
def jS(x:Bk):Prop:=0≤x.size∧x.size≤1048576∧(∀e∈x.exts,0≤e.off∧e.off+e.data.length≤1048576)∧x.exts.length≤1000000000
theorem db{n:Node}(hok:n.ok)(h:n.allB=true)(b:Nat):jS (n.hd b):=by
 have hx:n.exts.length≤1000000000:=by
  have:=((Node.ok_iff n).1 hok).2.2.2.2.2.1.2.1;omega
 rw[Node.all_eq] at h;simp only[Bool.and_eq_true] at h;obtain⟨hz,hk⟩:=Ic h.2
 by_cases k:n.kind=1
 ·have he:JK n.size n.exts=true:=by simpa[Gd,k] using hk
  obtain⟨h1,h2,h3⟩:=eD he;exact⟨h1,h2,h3,hx⟩
 ·simp[E4,k] at hz;have h1:n.size=0:=hz.1.2.1;have h2:n.exts=[]:=hz.1.2.2;exact⟨by simp[Node.hd,h1],by simp[Node.hd,h1],by simp[Node.hd,h2],by simp[Node.hd,h2]⟩
theorem UO{w0:World}{S:St}{id:Nat}{P:List Bk}{i off n:Int}(hB:Br S id P)(hf:jS (BQ P i)){Q:AV→St→Prop}(hq:∀S',Sx S S'→Q (.str (VG (BQ P i).size (BQ P i).exts off n)) S'):
  AC w0 FR [.ptr id 0,.int .i64 i,.int .i64 off,.int .i64 n] S Q:=by
 apply Li;unfold Hn;refine Fc hB (fun _ _ _=>?_)
 simp[Ino.c];obtain⟨f1,f2,f3,f4⟩:=hf;exact UJ f3 (by omega) ⟨f1,f2⟩ hq
def isK(k:Int):Bool:=decide (1≤k)&&decide (k≤4)
def MZ(k:Int):Bool:=decide (k=2)||(decide (k=4)||decide (k=5))
def Q3(o:OpN):Bool:=(decide (o.kind=4)&&(decide (o.off < 0)||decide (o.n < 0)))||(decide (o.kind=6)&&decide (o.n < 1))
def Oo(D:List Node)(ids:Nat→Int)(o:OpN)(w:AtN):CU:=
 match w.nodes with
 |[]=>
  if o.kind=1 then {kind:=2,where_:=-1}
  else if o.kind=2 then {kind:=2}
  else if o.kind=3 then BG 1
  else if o.kind=4 then BG 5
  else BG 1
 |y::_=>
  if o.kind=1 then {kind:=y.kind,where_:=match WP D w.names with|some k=>ids k|none=>-1}
  else if o.kind=2 then (if y.kind=2 then {kind:=y.kind} else {kind:=y.kind,size:=y.size})
  else if o.kind=3 then (if y.kind=3 then {text:=y.target} else BG 1)
  else if o.kind=4 then (if y.kind=2 then BG 5 else {text:=VG y.size y.exts o.off o.n})
  else BG 1
def doR(D:List Node)(ids:Nat→Int)(o:OpN):CU:=
 if isK o.kind=false then BG 1
 else if Q3 o=true then BG 1
 else if (DM D o.path (MZ o.kind)).err≠0 then BG (DM D o.path (MZ o.kind)).err
 else Oo D ids o (DM D o.path (MZ o.kind))
open Go.Proofs
theorem ZE{w0:World}{S:St}{k:Int}{Q:AV→St→Prop}(hq:Q (.bool (isK k)) S):AC w0 Nr [.int .i64 k] S Q:=by
 apply Ys;unfold Sw;have e:isK k=(decide (k≥1)&&decide (k≤4)):=rfl;rw[e] at hq
 by_cases h:k≥1
 ·simp[AF,h] at hq ⊢;exact hq
 ·simp[AF,h] at hq ⊢;exact hq
theorem Rb{w0:World}{S:St}{k:Int}{Q:AV→St→Prop}(hq:Q (.bool (MZ k)) S):AC w0 IE [.int .i64 k] S Q:=by
 apply QX;unfold LW;unfold MZ at hq
 by_cases h:k=2
 ·subst h;simp[AF];simpa using hq
 ·by_cases h4:k=4
  ·subst h4;simp[AF];simpa using hq
  ·have b2:(k==2)=false:=by simpa using h
   have b4:(k==4)=false:=by simpa using h4
   have b5:(k==5)=decide (k=5):=rfl;simp[AF,b2,b4,b5];simp[h,h4] at hq;exact hq
theorem DQ{w0:World}{S:St}{e:Int}{Q:AV→St→Prop}(hq:Q (.agg ((BG e).c .nil)) S):AC w0 EO [.int .i64 e] S Q:=by
 apply S9;unfold NP;exact hq
theorem NW{w0:World}{S:St}{o:OpN}{Q:AV→St→Prop}(hq:Q (.int .i64 (if Q3 o=true then 1 else 0)) S):AC w0 He [.agg o.c] S Q:=by
 unfold OpN.c;apply Tk;unfold NF;unfold Q3 at hq;simp
 by_cases h4:o.kind=4
 ·have h6:¬o.kind=6:=by omega
  simp[h4,h6] at hq ⊢
  by_cases h:o.off < 0
  ·simp[AF,h] at hq ⊢;exact hq
  ·by_cases h2:o.n < 0
   ·simp[AF,h,h2] at hq ⊢;exact hq
   ·simp[AF,h,h2] at hq ⊢;exact hq
 ·by_cases h6:o.kind=6
  ·simp[h4,h6] at hq ⊢
   by_cases h:o.n < 1
   ·simp[AF,h] at hq ⊢;exact hq
   ·simp[AF,h] at hq ⊢;exact hq
  ·simp[AF,h4,h6] at hq ⊢;exact hq
theorem Ends.empty{L:List (List Bk)}{D:List Node}{want:AtN}{t:Fnd}(h:Ends L D want t)(hn:want.nodes=[]):D=[]:=by
 have hf:=h.facts;rw[hn] at hf;obtain⟨he,ds,names,hw,hc⟩:=h;rcases hc with ⟨h1,h2,h3⟩|⟨s,y,l,hs,h1,h2,h3,h4,h5⟩
 ·have h0:=hf.2;rw[h1] at h0;rw[hn,h0] at h2;cases D with
  |nil=>rfl
  |cons n l=>simp[Dz,Eh] at h2
 ·rw[hn] at h4;cases h4
structure Yf(S:St)(s:Stk)(D:List Node)(ids:Nat→Int):Prop where
 leads:Leads S s D
 tabs:s.tabs=D.map fun n=>n.tab 0
 ids:∀k m,s.l[k]? =some m→ids k=(m.num:Int)
theorem Yf.mono{S S':St}{s:Stk}{D:List Node}{ids:Nat→Int}(h:Yf S s D ids)(k:Sx S S'):Yf S' s D ids:=⟨h.leads.mono k,h.tabs,h.ids⟩
set_option maxRecDepth 100000 in
theorem Si{w0:World}{S:St}{s:Stk}{D:List Node}{ids:Nat→Int}{want:AtN}{t:Fnd}{rt:Rt}{o:OpN}{p:Str}(hL:Yf S s D ids)(hE:Ends s.tabs D want t){Q:AV→St→Prop}
  (hq:∀S',Sx S S'→Q (.agg ((Oo D ids o want).c .nil)) S'):AC w0 I7 [.agg s.c,.agg o.c,.agg (.str p::t.c rt)] S Q:=by
 have hc:s.c=[.vs 2 (s.l.map Mnt.c) s.r.strip,.int .i64 s.next]:=rfl;have hf:=hE.facts;have hlv:=hE;rw[hL.tabs] at hlv;rw[hc];unfold OpN.c;apply Ra;unfold Lw;simp[←hc];unfold Oo at hq;cases hn:want.nodes with
 |nil=>
  rw[hn] at hf hq;obtain⟨rfl,h2⟩:=hf;have hD:=hE.empty hn;have hsl:s.l=[]:=by
   have:=hL.tabs;rw[hD] at this;unfold Stk.tabs at this;simpa using this
  have hat:s.at_ ((0:Nat):Int)=none:=by simp[Stk.at_,hsl]
  refine F0 ?_;rw[hat];simp only at hq
  by_cases k1:o.kind=1
  ·simp[k1,AF] at hq ⊢;simpa[CU.c] using hq S (Sx.refl _)
  by_cases k2:o.kind=2
  ·simp[k2,AF] at hq ⊢;simpa[CU.c] using hq S (Sx.refl _)
  by_cases k3:o.kind=3
  ·simp[k3,AF] at hq ⊢;refine DQ ?_;simp[CU.c,BG];simpa[CU.c,BG] using hq S (Sx.refl _)
  by_cases k4:o.kind=4
  ·simp[k4,AF] at hq ⊢;refine DQ ?_;simp[CU.c,BG];simpa[CU.c,BG] using hq S (Sx.refl _)
  ·simp[k1,k2,k3,k4,AF] at hq ⊢;refine DQ ?_;simp[CU.c,BG];simpa[CU.c,BG] using hq S (Sx.refl _)
 |cons y l=>
  have hlev:=hlv.level (by rw[hn];simp)
  rw[hn] at hf hq;obtain⟨h1,h2,h3,h4,h5⟩:=hf;obtain⟨m,a1,a2,a3,a4⟩:=h2.at_;have hB:=hL.leads.on m a2;have hsz:(BQ m.tab (t.sp.2:Int)).size=y.size:=by rw[a3];rfl
  have htg:(BQ m.tab (t.sp.2:Int)).target=y.target:=by rw[a3];rfl
  have hex:(BQ m.tab (t.sp.2:Int)).exts=y.exts:=by rw[a3];rfl
  have hfit:jS (BQ m.tab (t.sp.2:Int)):=by rw[a3];exact db h3 h4 _
  have hid:ids t.sp.1=(m.num:Int):=by
   refine hL.ids t.sp.1 m ?_;have:=a1;unfold Stk.at_ at this;rw[if_neg (by omega)] at this
   simpa using this
  simp only[hlev,hid] at hq;refine F0 ?_;rw[a1];simp[h1]
  by_cases k1:o.kind=1
  ·simp[k1,AF] at hq ⊢;refine ZJ ?_;rw[a1];simp;simpa[CU.c] using hq S (Sx.refl _)
  by_cases k2:o.kind=2
  ·by_cases y2:y.kind=2
   ·simp[k2,y2,AF] at hq ⊢;simpa[CU.c] using hq S (Sx.refl _)
   ·simp[k2,y2,AF] at hq ⊢;refine UN hB ?_;rw[hsz];simp;simpa[CU.c] using hq S (Sx.refl _)
  by_cases k3:o.kind=3
  ·by_cases y3:y.kind=3
   ·simp[k3,y3,AF] at hq ⊢;refine LV hB ?_;rw[htg];simp;simpa[CU.c] using hq S (Sx.refl _)
   ·simp[k3,y3,AF] at hq ⊢;refine DQ ?_;simp[CU.c,BG];simpa[CU.c,BG] using hq S (Sx.refl _)
  by_cases k4:o.kind=4
  ·by_cases y2:y.kind=2
   ·simp[k4,y2,AF] at hq ⊢;refine DQ ?_;simp[CU.c,BG];simpa[CU.c,BG] using hq S (Sx.refl _)
   ·simp[k4,y2,AF] at hq ⊢;refine UO hB hfit (fun S2 hS2=>?_)
    rw[hsz,hex];simp;simpa[CU.c] using hq S2 hS2
  ·simp[k1,k2,k3,k4,AF] at hq ⊢;refine DQ ?_;simp[CU.c,BG];simpa[CU.c,BG] using hq S (Sx.refl _)
set_option maxRecDepth 100000 in
theorem Z3{w0:World}(hm:LI w0){S:St}{s:Stk}{D:List Node}{ids:Nat→Int}{o:OpN}(hL:Yf S s D ids)(hp:o.path.length≤1048576){Q:AV→St→Prop}
  (hq:∀S',Sx S S'→Q (.agg ((doR D ids o).c .nil)) S'):AC w0 Nw [.agg s.c,.agg o.c] S Q:=by
 have hc:s.c=[.vs 2 (s.l.map Mnt.c) s.r.strip,.int .i64 s.next]:=rfl;have ho:o.c=[.int .i64 o.kind,.str o.path,.int .i64 o.off,.int .i64 o.n,.int .i64 o.id,.str o.image]:=rfl;rw[hc,ho];apply Xk;unfold Tl;unfold doR at hq;simp[←hc,←ho];refine ZE ?_
 by_cases h1:isK o.kind=false
 ·rw[if_pos h1] at hq;rw[h1];simp;refine DQ ?_;simp[CU.c,BG];simpa[CU.c,BG] using hq S (Sx.refl _)
 ·rw[if_neg h1] at hq;have h1':isK o.kind=true:=by simpa using h1
  rw[h1'];simp;refine NW ?_
  by_cases h2:Q3 o=true
  ·rw[if_pos h2] at hq ⊢;simp;refine DQ ?_;simp[CU.c,BG];simpa[CU.c,BG] using hq S (Sx.refl _)
  ·rw[if_neg h2] at hq ⊢;simp;refine Rb ?_;simp;refine Qm hm hL.leads hp (fun S2 hS2=>⟨fun he=>?_,fun he t r hE=>?_⟩)
   ·rw[if_pos he] at hq;simp[Fnd.c,Fnd.none,he];refine DQ ?_;simp[CU.c,BG];simpa[CU.c,BG] using hq S2 hS2
   ·rw[if_neg (by rw[he];simp)] at hq
    simp[Fnd.c];refine Si (t:=t) (rt:=r.strip) (hL.mono hS2) hE (fun S3 hS3=>?_)
    simp[CU.c];simpa[CU.c] using hq S3 (hS2.trans hS3)
open Go.Proofs
theorem Going.ends{L:List (List Bk)}{D:List Node}{want:AtN}:∀(n:Nat) {w:Wk} {h:Nat} {names:List Str},Going L D want w h names→w.todo.length+129*h≤n→want.err=0→∃t,Ends L D want t:=by
 intro n
 induction n with
 |zero=>
  intro w h names g hn he;have:w.todo=[]:=List.eq_nil_of_length_eq_zero (by omega)
  obtain⟨d,_,_,h3⟩:=g.end this;exact⟨_,h3⟩
 |succ n ih=>
  intro w h names g hn he;obtain⟨names',g'⟩:=g.pop;have hhd:w.pop.todo.head?≠some dd:=Np _ _;have hpl:w.pop.todo.length≤w.todo.length:=QD _ _;generalize w.pop=w1 at g' hhd hpl;cases ht:w1.todo with
  |nil=>
   obtain⟨d,_,_,h3⟩:=g'.end ht;exact⟨_,h3⟩
  |cons s rest=>
   have hnd:s≠dd:=fun e=>hhd (by rw[ht,e];rfl)
   have hll:w1.todo.length=rest.length+1:=by rw[ht];rfl
   obtain⟨d,k1,k2,k3,k4,k5⟩:=g'.step (fr:=.none) (target:=match EB (Dz D names') s with|y::_=>y.target|[]=>[]) ht hnd rfl (fun _ y l e=>by rw[e])
   generalize w1.tell (pathOf names') s rest (DN L s (D5 L names') Fnd.none) .none (decide ((DN L s (D5 L names') Fnd.none).kind≠0)) _=te at k5;obtain⟨w2,e⟩:=te;simp only at k5;obtain⟨k6,k7⟩:=k5
   by_cases e0:e=0
   ·rcases k7 e0 with ⟨h',nm2,g2,hc⟩|⟨gg,c1,c2,c3,c4⟩
    ·refine ih g2 ?_ he;rcases hc with ⟨c1,c2⟩|⟨c1,pp,c2,c3⟩
     ·rw[c1,c2];omega
     ·rw[c3,List.length_append];omega
    ·exact⟨gg,c2⟩
   ·exact absurd he (by rw[k6 e0];exact e0)
theorem Leads.ends{S:St}{s:Stk}{D:List Node}(hL:Leads S s D){path:Str}{fl:Bool}(he:(DM D path fl).err=0):∃t,Ends s.tabs D (DM D path fl) t:=by
 unfold DM at he ⊢;cases hsp:D7 path with
 |none=>rw[hsp] at he;cases he
 |some l=>
  rw[hsp] at he;exact Going.ends (l.length+129*40) (w:=⟨l,[⟨[47],G8 s.tabs 0,.none⟩],fl,0,none⟩) (h:=40) (names:=[]) ⟨hL.start _,rfl,fun x hx=>N0 hsp x hx,rfl,rfl⟩ (Nat.le_refl _) he
abbrev RZ:AV:=.fn FZ [] []
theorem RcS.load{S:St}{id:Nat}(h:id < S.length){l:List AW}{i:Nat}{y:AW}(hi:l[i]? =some y):AM AB (RcS S id l) (.ptr id (i*19))=some (.agg y.c):=by
 have:=KO (T:=AB) (n:=19) (enc:=AW.c) (J:=[]) (tg:=0) (by rw[List.append_nil];exact RcS.get h l) rfl rfl AW.cl hi
 exact this
theorem RcS.store{S:St}{id:Nat}(h:id < S.length){l:List AW}{i:Nat}{y:AW}(z:AW)(hi:l[i]? =some y):BC AB (RcS S id l) (.ptr id (i*19)) (.agg z.c)=some (RcS S id (l.set i z)):=by
 have:=J6 (T:=AB) (n:=19) (enc:=AW.c) (J:=[]) (tg:=0) z (by rw[List.append_nil];exact RcS.get h l) rfl AW.cl hi (v:=.agg z.c) rfl rfl
 rw[List.append_nil,RcS.two] at this;exact this
theorem RcS.idx{id n i:Nat}{x:Int}(hx:x=i)(h:i < n):AZ AB (.rs 19 id 0 n) (.int .i64 x)=some (.ptr id (i*19)):=by
 subst hx;have:(i:Int) < n:=by omega
 simp[AZ,AB,this]
theorem RcS.ld{S:St}{id n i:Nat}{x:Int}{l:List AW}{y:AW}(h:id < S.length)(hn:l.length=n)(hx:x=i)(hi:l[i]? =some y){k:AV→Prop}(hk:k (.agg y.c)):
  AA (AZ AB (.rs 19 id 0 n) (.int .i64 x)) fun t=>AA (AM AB (RcS S id l) t) k:=by
 have hl:=(List.getElem?_eq_some_iff.1 hi).1;rw[RcS.idx hx (by omega),A2,RcS.load h hi,A2]
 exact hk
theorem RcS.st{S:St}{id n i:Nat}{x:Int}{l:List AW}{y z:AW}(h:id < S.length)(hn:l.length=n)(hx:x=i)(hi:l[i]? =some y){k:St→Prop}(hk:k (RcS S id (l.set i z))):
  AA (AZ AB (.rs 19 id 0 n) (.int .i64 x)) fun t=>AA (BC AB (RcS S id l) t (.agg z.c)) k:=by
 have hl:=(List.getElem?_eq_some_iff.1 hi).1;rw[RcS.idx hx (by omega),A2,RcS.store h z hi,A2]
 exact hk
@[simp] theorem Ev(y:AW):(AV.agg y.c).strip= .agg y.c:=by
 have:=AW.map1 y;simp[AV.strip,this]
@[simp] theorem dP(n id o k:Nat):(AV.rs n id o k).strip= .rs n id o k:=rfl
theorem ST{A M N:List AW}{u v:AW}{i k:Nat}(hi:i=A.length)(hk:k=A.length+1+M.length):((A++u::M++v::N).set i v).set k u=A++v::M++u::N:=by
 subst hi hk;rw[List.append_assoc,List.set_append_right _ _ (Nat.le_refl _),Nat.sub_self,List.cons_append,List.set_cons_zero,List.set_append_right _ _ (by omega)]
 rw[show A.length+1+M.length - A.length=M.length+1 by omega,List.set_cons_succ,List.set_append_right _ _ (Nat.le_refl _),Nat.sub_self,List.set_cons_zero]
 simp
theorem Hj{A N:List AW}{u:AW}{i:Nat}(hi:i=A.length):(A++u::N)[i]? =some u:=by subst hi;simp
theorem Mg{w0:World}{S:St}{id:Nat}(hid:id < S.length){A U B V C:List AW}{N:Nat}(hN:(A++U++B++V++C).length=N)(hN2:N≤1000000)(hU:U.length=V.length){a b n:Int}(ha:a=A.length)(hb:b=A.length+U.length+B.length)(hn:n=U.length){Q:AV→St→Prop}
  (hq:Q (.tup []) (RcS S id (A++V++B++U++C))):AC w0 BP [.rs 19 id 0 N,.int .i64 a,.int .i64 b,.int .i64 n,RZ] (RcS S id (A++U++B++V++C)) Q:=by
 apply E3;unfold DH;refine CD (fun i:Nat=>([.int .i64 i],[])) (fun m i S'=>∃A' U' B' V',S'=RcS S id (A'++U'++B'++V'++C)∧(A'++U'++B'++V'++C).length=N∧U'.length=V'.length∧m=U'.length∧(A'.length:Int)=a+i∧(A'.length+U'.length+B'.length:Int)=b+i∧(i+U'.length:Int)=n∧A'++V'++B'++U'++C=A++V++B++U++C)
  U.length 0 (by simp) ⟨A,U,B,V,rfl,hN,hU,rfl,by simp[ha],by simp[hb],by simp[hn],rfl⟩ ?_
 rintro m i S' v bx ⟨A',U',B',V',rfl,h1,h2,h3,h4,h5,h6,h7⟩ hv;simp at hv;simp[hv];simp at h1;cases U' with
 |nil=>
  simp at h6 h2;have hV:V'=[]:=List.length_eq_zero_iff.1 h2.symm;subst hV;have:¬((i:Int) < n):=by omega
  simp[this];simp at h7;simp at hq;rw[h7];exact hq
 |cons x U'=>
  cases V' with
  |nil=>simp at h2
  |cons y V'=>
   simp at h6 h2 h1 h5;have c1:(i:Int) < n:=by omega
   have w1:IntKind.i64.wrap (a+i)=(A'.length:Int):=by rw[h4];exact wrap64 (by omega) (by omega)
   have w2:IntKind.i64.wrap (b+i)=((A'.length+1+(U'++B').length:Nat):Int):=by rw[wrap64 (by omega) (by omega)];simp;omega
   have w3:IntKind.i64.wrap ((i:Int)+1)=((i+1:Nat):Int):=by rw[wrap64 (by omega) (by omega)];rfl
   have e0:A'++(x::(U'++(B'++(y::(V'++C)))))=A'++x::(U'++B')++y::(V'++C):=by simp
   have hlen:(A'++x::(U'++B')++y::(V'++C)).length=N:=by simp;omega
   have g1:(A'++x::(U'++B')++y::(V'++C))[A'.length]? =some x:=by rw[List.append_assoc,List.cons_append];exact Hj rfl
   have g2:(A'++x::(U'++B')++y::(V'++C))[A'.length+1+(U'++B').length]? =some y:=Hj (by simp;omega)
   have g3:((A'++x::(U'++B')++y::(V'++C)).set A'.length y)[A'.length+1+(U'++B').length]? =some y:=by
    rw[List.getElem?_set_ne (by omega)];exact g2
   simp[c1];simp only[e0];rw[w1,w2,w3];refine RcS.ld hid hlen rfl g2 ?_;refine RcS.ld hid hlen rfl g1 ?_;simp only[Ev];refine RcS.st hid hlen rfl g1 ?_;refine RcS.st hid (by rw[List.length_set];exact hlen) rfl g3 ?_
   rw[ST rfl rfl];refine⟨_,i+1,by show U'.length < m;simp at h3;omega,rfl,A'++[y],U',B'++[x],V',by simp,?_,h2,rfl,?_,?_,?_,?_⟩
   ·simp;omega
   ·simp;omega
   ·simp;omega
   ·simp;omega
   ·simp at h7 ⊢;exact h7
attribute [simp] AW.free
def okM(x:AW):Prop:=0≤x.mark∧x.mark≤2147483647
theorem dr{w0:World}{S:St}{id:Nat}(hid:id < S.length){A U V C:List AW}{N:Nat}(hN:(A++U++V++C).length=N)(hN2:N≤1000000)(hU:U≠[])(hV:V≠[]){a m b:Int}(ha:a=A.length)(hm:m=A.length+U.length)(hb:b=A.length+U.length+V.length){Q:AV→St→Prop}
  (hq:Q (.tup []) (RcS S id (A++V++U++C))):AC w0 Cq [.rs 19 id 0 N,.int .i64 a,.int .i64 m,.int .i64 b,RZ] (RcS S id (A++U++V++C)) Q:=by
 apply FS;unfold Df;have lU:=List.length_pos_iff.2 hU;have lV:=List.length_pos_iff.2 hV;have hN':=hN;simp at hN';have w1:IntKind.i64.wrap (m - a)=(U.length:Int):=by rw[wrap64 (by omega) (by omega)];omega
 have w2:IntKind.i64.wrap (b - m)=(V.length:Int):=by rw[wrap64 (by omega) (by omega)];omega
 rw[w1,w2];refine Bm (fun j=>∀A' U' V' C':List AW,(A'++U'++V'++C').length=N→U'.length=V'.length→(A'.length+U'.length:Int)=m→A'++V'++U'++C'=A++V++U++C→j (.int .i64 U'.length) (RcS S id (A'++U'++V'++C'))) (fun A' U' V' C' h1 h2 h3 h4=>?_) (fun j hj=>?_)
 ·have h1':=h1;simp at h1';have w3:IntKind.i64.wrap (m - U'.length)=(A'.length:Int):=by rw[wrap64 (by omega) (by omega)];omega
  simp[w3,D4];have e0:A'++(U'++(V'++C'))=A'++U'++[]++V'++C':=by simp
  rw[e0];refine Mg (A:=A') (U:=U') (B:=[]) (V:=V') (C:=C') hid (by simp;omega) hN2 h2 rfl (by simp;omega) rfl ?_
  simp;simp at h4;rw[h4];simpa using hq
 ·refine CD (fun p:Nat×Nat=>([.int .i64 p.1,.int .i64 p.2],[])) (fun n p S'=>∃A' U' V' C':List AW,S'=RcS S id (A'++U'++V'++C')∧(A'++U'++V'++C').length=N∧U'.length=p.1∧V'.length=p.2∧0 < p.1∧0 < p.2∧n=p.1+p.2∧(A'.length+U'.length:Int)=m∧A'++V'++U'++C'=A++V++U++C)
   (U.length+V.length) (U.length,V.length) (by simp) ⟨A,U,V,C,rfl,hN,rfl,rfl,lU,lV,rfl,hm.symm,rfl⟩ ?_
  rintro n ⟨i,k⟩ S' v bx ⟨A',U',V',C',rfl,h1,h2,h3,h4,h5,h6,h7,h8⟩ hv;simp at hv h2 h3 h4 h5 h6;obtain⟨hv1,hv2⟩:=hv;have h1':=h1;simp at h1'
  by_cases c:i=k
  ·subst c;simp[hv1,hv2];have:=hj A' U' V' C' h1 (by omega) h7 h8
   rw[h2] at this;simpa using this
  ·by_cases c2:k < i
   ·have cc:decide ((i:Int)=k)=false:=by simp;omega
    have w3:IntKind.i64.wrap (m - i)=(A'.length:Int):=by rw[wrap64 (by omega) (by omega)];omega
    have w4:IntKind.i64.wrap ((i:Int) - k)=((i - k:Nat):Int):=by rw[wrap64 (by omega) (by omega)];omega
    simp[hv1,hv2,c,cc,c2,D4,w3,w4];have e0:A'++(U'++(V'++C'))=A'++U'.take k++U'.drop k++V'++C':=by
     conv=>lhs;rw[←List.take_append_drop k U']
     simp
    rw[e0];refine Mg (A:=A') (U:=U'.take k) (B:=U'.drop k) (V:=V') (C:=C') hid ?_ hN2 ?_ ?_ ?_ ?_ ?_
    ·simp;omega
    ·simp;omega
    ·rfl
    ·simp;omega
    ·simp;omega
    refine⟨_,(i - k,k),by show i - k+k < n;omega,by simp,A'++V',U'.drop k,U'.take k,C',by simp,?_,?_,?_,?_,?_,rfl,?_,?_⟩
    ·simp;omega
    ·simp;omega
    ·simp;omega
    ·show 0 < i - k;omega
    ·exact h5
    ·simp;omega
    ·simp at h8 ⊢;rw[←h8,←List.append_assoc (List.take k U'),List.take_append_drop]
   ·have cc:decide ((i:Int)=k)=false:=by simp;omega
    have w3:IntKind.i64.wrap (m - i)=(A'.length:Int):=by rw[wrap64 (by omega) (by omega)];omega
    have w6:IntKind.i64.wrap (m+k)=m+k:=wrap64 (by omega) (by omega)
    have w4:IntKind.i64.wrap (m+k - i)=((A'.length+k:Nat):Int):=by rw[wrap64 (by omega) (by omega)];omega
    have w5:IntKind.i64.wrap ((k:Int) - i)=((k - i:Nat):Int):=by rw[wrap64 (by omega) (by omega)];omega
    simp[hv1,hv2,c,cc,c2,D4,w3,w5,w6,w4];have e0:A'++(U'++(V'++C'))=A'++U'++V'.take (k - i)++V'.drop (k - i)++C':=by
     conv=>lhs;rw[←List.take_append_drop (k - i) V']
     simp
    rw[e0];refine Mg (A:=A') (U:=U') (B:=V'.take (k - i)) (V:=V'.drop (k - i)) (C:=C') hid ?_ hN2 ?_ ?_ ?_ ?_ ?_
    ·simp;omega
    ·simp;omega
    ·rfl
    ·simp;omega
    ·omega
    refine⟨_,(i,k - i),by show i+(k - i) < n;omega,by simp,A',V'.drop (k - i),V'.take (k - i),U'++C',by simp,?_,?_,?_,?_,?_,rfl,?_,?_⟩
    ·simp;omega
    ·simp;omega
    ·simp;omega
    ·exact h4
    ·show 0 < k - i;omega
    ·simp;omega
    ·simp at h8 ⊢;rw[←h8,←List.append_assoc (List.take (k - i) V'),List.take_append_drop]
theorem Mm{w0:World}{S:St}{x y:AW}(hx:okM x)(hy:okM y){Q:AV→St→Prop}(hq:Q (.int .i64 (x.mark - y.mark)) S):AC w0 FZ [.agg x.c,.agg y.c] S Q:=by
 unfold okM at hx hy;unfold AW.c;apply Rf;unfold MX;have w:IntKind.i64.wrap (x.mark - y.mark)=x.mark - y.mark:=wrap64 (by omega) (by omega)
 simp[w];exact hq
theorem Ko(x y:AW):GZ RZ [.agg x.c,.agg y.c]=some (FZ,[.agg x.c,.agg y.c]):=by
 simp only[GZ,List.nil_append,List.append_nil,D4,List.all_cons,List.all_nil,AW.free,Bool.and_true,Bool.and_self,if_true,Option.map_some,List.map_cons,List.map_nil,Ev]
theorem Vg{A M N:List AW}{u v:AW}{i k:Nat}(hi:i=A.length)(hk:k=A.length+1+M.length):((A++u::M++v::N).set k u).set i v=A++v::M++u::N:=by
 rw[List.set_comm _ _ (by omega)]
 exact ST hi hk
theorem X5{P1 P2:List AW}{y:AW}(h:Dx AW.mark (P1++P2))(h1:∀x∈P1,x.mark≤y.mark)(h2:∀p∈P2,y.mark < p.mark):CK AW.mark (P1++P2) [y]=P1++y::P2:=by
 have:=Eq (f:=AW.mark) P1 P2 [y] [] h (by exact List.pairwise_singleton _ _) (by simp) (by simpa using h2)
 rw[List.append_nil] at this;rw[this,P3 (by simpa using h1)]
 simp
theorem YC{P:List AW}{z y:AW}(h:Dx AW.mark (P++[z]))(hz:z.mark≤y.mark):∀x∈P++[z],x.mark≤y.mark:=by
 intro x hx;rcases List.mem_append.1 hx with hx|hx
 ·have:=(List.pairwise_append.1 h).2.2 x hx z (by simp)
  omega
 ·simp at hx;subst hx;exact hz
theorem Qz{w0:World}{S:St}{id:Nat}(hid:id < S.length){A X C:List AW}{N:Nat}(hN:(A++X++C).length=N)(hN2:N≤1000000)(hM:∀x∈X,okM x){a b:Int}(ha:a=A.length)(hb:b=A.length+X.length){Q:AV→St→Prop}
  (hq:Q (.tup []) (RcS S id (A++B9 AW.mark X++C))):AC w0 BA [.rs 19 id 0 N,.int .i64 a,.int .i64 b,RZ] (RcS S id (A++X++C)) Q:=by
 apply Cs;unfold Bv;have hN':=hN;simp at hN';have w1:IntKind.i64.wrap (a+1)=((A.length+1:Nat):Int):=by rw[wrap64 (by omega) (by omega)];omega
 rw[w1];refine CD (fun i:Nat=>([.int .i64 i],[])) (fun n i S'=>n=A.length+X.length+1 - i∧A.length < i∧∃X1 Y,X=X1++Y∧S'=RcS S id (A++B9 AW.mark X1++Y++C)∧(X≠[]→i=A.length+X1.length)∧i≤A.length+X.length+1∧(X=[]→b < i))
  (A.length+X.length+1 - (A.length+1)) (A.length+1) (by simp) ⟨rfl,by omega,X.take 1,X.drop 1,(List.take_append_drop 1 X).symm,?_,?_,by omega,?_⟩ ?_
 ·congr 1;cases X with
  |nil=>simp[B9]
  |cons x X=>simp[B9,Ru]
 ·intro h;have:=List.length_pos_iff.2 h;simp;omega
 ·intro h;subst h;simp at hb;omega
 rintro n i S' v bx ⟨rfl,h0,X1,Y,hX,rfl,h2,h3,h4⟩ hv;simp at hv
 by_cases c:(i:Int) < b
 ·have hXn:X≠[]:=fun e=>by have:=h4 e;omega
  have hi:=h2 hXn;have hl:X.length=X1.length+Y.length:=by rw[hX];simp
  cases Y with
  |nil=>simp at hl;omega
  |cons y Y=>
   simp at hl;have w2:IntKind.i64.wrap ((i:Int)+1)=((i+1:Nat):Int):=by rw[wrap64 (by omega) (by omega)];rfl
   have hy:okM y:=hM y (by rw[hX];simp)
   have hok:∀x∈B9 AW.mark X1,okM x:=fun x hx=>hM x (by rw[hX];simp[(Id X1).1 hx])
   have hsrt:=GR (f:=AW.mark) X1;have hsl:=Db (f:=AW.mark) X1;simp[hv,c];rw[w2];refine Bm (fun j=>j (RcS S id (A++B9 AW.mark (X1++[y])++Y++C))) ?_ (fun j hj=>?_)
   ·refine⟨_,i+1,?_,rfl,rfl,by omega,X1++[y],Y,by rw[hX];simp,by simp,fun _=>by simp;omega,by omega,fun e=>absurd e hXn⟩
    show A.length+X.length+1 - (i+1) < _
    omega
   ·rw[Kz] at hj;refine CD (fun k:Nat=>([.int .i64 k],[])) (fun n k S'=>∃P1 P2,B9 AW.mark X1=P1++P2∧S'=RcS S id (A++P1++y::P2++Y++C)∧k=A.length+P1.length∧n=P1.length∧∀p∈P2,y.mark < p.mark) (B9 AW.mark X1).length i (by simp) ⟨B9 AW.mark X1,[],by simp,by simp,by omega,rfl,by simp⟩ ?_
    rintro n k S' v2 bx2 ⟨P1,P2,e1,rfl,rfl,rfl,hp⟩ hv2;simp at hv2;have hpl:P1.length+P2.length=X1.length:=by rw[←hsl,e1];simp
    rw[e1] at hsrt hj hok;have stop:(∀x∈P1,x.mark≤y.mark)→j (RcS S id (A++P1++y::P2++Y++C)):=by
     intro h;rw[X5 hsrt h hp] at hj;simpa using hj
    rcases List.eq_nil_or_concat P1 with rfl|⟨P,z,rfl⟩
    ·have cc:¬((A.length:Int) > a):=by omega
     have:=stop (by simp)
     simp[hv2,AF,ha] at this ⊢;exact this
    ·rw[List.concat_eq_append] at*;simp at hpl hv2;have cc:a < (A.length:Int)+(P.length+1):=by omega
     have w3:IntKind.i64.wrap ((A.length:Int)+(P.length+1) - 1)=((A.length+P.length:Nat):Int):=by rw[wrap64 (by omega) (by omega)];omega
     have hz:okM z:=hok z (by simp)
     have e0:A++(P++(z::(y::(P2++(Y++C)))))=(A++P)++z::[]++y::(P2++(Y++C)):=by simp
     have hlen:((A++P)++z::[]++y::(P2++(Y++C))).length=N:=by simp;omega
     have g1:((A++P)++z::[]++y::(P2++(Y++C)))[A.length+P.length]? =some z:=by rw[List.append_assoc];exact Hj (by simp)
     have g2:((A++P)++z::[]++y::(P2++(Y++C)))[A.length+P.length+1]? =some y:=Hj (by simp;omega)
     have g3:(((A++P)++z::[]++y::(P2++(Y++C))).set (A.length+P.length+1) z)[A.length+P.length]? =some z:=by
      rw[List.getElem?_set_ne (by omega)];exact g1
     have i2:(A.length:Int)+(P.length+1)=((A.length+P.length+1:Nat):Int):=by omega
     simp[hv2,cc];rw[AF];simp only[e0];rw[w3];refine RcS.ld hid hlen i2 g2 ?_;refine RcS.ld hid hlen rfl g1 ?_;simp only[Ev,Ko,A2];refine Mm hy hz ?_;simp;simp only[e0]
     by_cases cm:y.mark - z.mark < 0
     ·simp[cm];simp only[e0];refine RcS.ld hid hlen rfl g1 ?_;refine RcS.ld hid hlen i2 g2 ?_;simp only[Ev];refine RcS.st hid hlen i2 g2 ?_;refine RcS.st hid (by rw[List.length_set];exact hlen) rfl g3 ?_
      rw[Vg (by simp) (by simp)]
      refine⟨_,A.length+P.length,by show P.length < _;omega,by simp,P,z::P2,by simp[e1],by simp,rfl,rfl,?_⟩
      intro p hp2;rcases List.mem_cons.1 hp2 with rfl|hp2
      ·omega
      ·exact hp p hp2
     ·simp[cm];have:=stop (YC (List.pairwise_append.1 hsrt).1 (by omega))
      simpa using this
 ·have e:X1=X∧Y=[]:=by
   by_cases hXn:X=[]
   ·subst hXn;have:=List.append_eq_nil_iff.1 hX.symm;exact⟨this.1,this.2⟩
   ·have hi:=h2 hXn;have hl:X.length=X1.length+Y.length:=by rw[hX];simp
    have:Y=[]:=List.length_eq_zero_iff.1 (by omega)
    subst this;simp at hX;exact⟨hX.symm,rfl⟩
  obtain⟨rfl,rfl⟩:=e;simp[hv,c];simpa using hq
theorem We{x:Int}(h0:0≤x)(h1:x≤4000000):IntKind.u64.wrap x=x∧AG .shr (.int .u64 x) (.int .u64 1)=some (.int .u64 (x / 2))∧IntKind.i64.wrap (x / 2)=x / 2∧IntKind.i64.wrap (Int.fdiv x (2 ^ 1))=x / 2:=by
 refine⟨?_,?_,wrap64 (by omega) (by omega),?_⟩
 ·simp[IntKind.wrap,IntKind.bits,IntKind.signed];omega
 ·simp[AG,IntKind.bits];rw[Int.fdiv_eq_ediv_of_nonneg _ (by omega)]
 ·rw[Int.fdiv_eq_ediv_of_nonneg _ (by omega)]
  exact wrap64 (by omega) (by omega)
theorem gH{u:AW}{V1 V2:List AW}(hs:Dx AW.mark (V1++V2))(h1:∀v∈V1,v.mark < u.mark)(h2:∀v∈V2,u.mark≤v.mark):CK AW.mark [u] (V1++V2)=V1++u::V2:=by
 have:=Eq (f:=AW.mark) [] [u] V1 V2 (by exact List.pairwise_singleton _ _) hs (by simp) (by intro y hy x hx;simp at hx;subst hx;exact h1 y hy)
 rw[List.nil_append] at this;rw[this,TR,P3 (by intro x hx y hy;simp at hx;subst hx;exact h2 y hy)]
 rfl
theorem FW{l:List AW}(h:Dx AW.mark l){i k:Nat}{x y:AW}(hx:l[i]? =some x)(hy:l[k]? =some y)(hik:i≤k):x.mark≤y.mark:=by
 obtain⟨h1,rfl⟩:=List.getElem?_eq_some_iff.1 hx;obtain⟨h2,rfl⟩:=List.getElem?_eq_some_iff.1 hy
 by_cases e:i=k
 ·subst e;omega
 ·exact List.pairwise_iff_getElem.1 h i k h1 h2 (by omega)
theorem get_at{A V C:List AW}{k:Nat}{y:AW}(hy:V[k]? =some y):(A++V++C)[A.length+k]? =some y:=by
 have hl:=(List.getElem?_eq_some_iff.1 hy).1;rw[List.append_assoc,List.getElem?_append_right (by omega),List.getElem?_append_left (by omega)]
 rw[show A.length+k - A.length=k by omega]
 exact hy
theorem Xs{l:List AW}{k:Nat}{P:AW→Prop}(h:∀i y,i < k→l[i]? =some y→P y):∀y∈l.take k,P y:=by
 intro y hy;obtain⟨i,hi,rfl⟩:=List.getElem_of_mem hy;rw[List.length_take] at hi;refine h i _ (by omega) ?_
 rw[List.getElem_take,List.getElem?_eq_getElem (by omega)]
theorem YB{l:List AW}{k:Nat}{P:AW→Prop}(h:∀i y,k≤i→l[i]? =some y→P y):∀y∈l.drop k,P y:=by
 intro y hy;obtain⟨i,hi,rfl⟩:=List.getElem_of_mem hy;rw[List.length_drop] at hi;refine h (k+i) _ (by omega) ?_
 rw[List.getElem_drop,List.getElem?_eq_getElem (by omega)]
theorem hY{v:AW}{U1 U2:List AW}(hs:Dx AW.mark (U1++U2))(h1:∀x∈U1,x.mark≤v.mark)(h2:∀x∈U2,v.mark < x.mark):CK AW.mark (U1++U2) [v]=U1++v::U2:=X5 hs h1 h2
theorem ee{w0:World}{S:St}{id:Nat}(hid:id < S.length){A V C:List AW}{u:AW}{N:Nat}(hN:(A++u::(V++C)).length=N)(hN2:N≤1000000)(hMu:okM u)(hM:∀x∈V,okM x)(hV:Dx AW.mark V){a m b:Int}(ha:a=A.length)(hm:m=A.length+1)(hb:b=A.length+1+V.length){Q:AV→St→Prop}
  (hq:Q (.tup []) (RcS S id (A++CK AW.mark [u] V++C))):AC w0 Aw [.rs 19 id 0 N,.int .i64 a,.int .i64 m,.int .i64 b,RZ] (RcS S id (A++u::(V++C))) Q:=by
 apply CL;unfold Be;have hN':=hN;simp at hN';have w1:IntKind.i64.wrap (m - a)=1:=by rw[wrap64 (by omega) (by omega)];omega
 simp only[AF,w1];have t1:((1:Int)==1)=true:=rfl;simp only[t1];simp only[KL];have hu0:(A++u::(V++C))[A.length]? =some u:=Hj rfl;refine CD (fun p:Nat×Nat=>([.int .i64 p.1,.int .i64 p.2],[])) (fun n p S'=>S'=RcS S id (A++u::(V++C))∧n=p.2 - p.1∧A.length+1≤p.1∧p.1≤p.2∧p.2≤A.length+1+V.length∧(∀i y,i < p.1 - (A.length+1)→V[i]? =some y→y.mark < u.mark)∧(∀i y,p.2 - (A.length+1)≤i→V[i]? =some y→u.mark≤y.mark))
  V.length (A.length+1,A.length+1+V.length) ?_ ⟨rfl,by simp,by simp,by simp,by simp,by intro i y h;simp at h,?_⟩ ?_
 ·rw[hm,hb];simp
 ·intro i y h1 h2;have:=(List.getElem?_eq_some_iff.1 h2).1;simp at h1;omega
 rintro n ⟨p,q⟩ S' v bx ⟨rfl,rfl,h1,h2,h3,h4,h5⟩ hv;simp at hv h1 h2 h3 h4 h5;obtain⟨hv1,hv2⟩:=hv
 by_cases c:p < q
 ·have hs:(p:Int)+q=((p+q:Nat):Int):=by omega
  obtain⟨k,hk⟩:∃k:Nat,k=(p+q) / 2:=⟨_,rfl⟩;have hk2:((p:Int)+q) / 2=(k:Int):=by omega
  have w2:IntKind.i64.wrap ((p:Int)+q)=(p:Int)+q:=wrap64 (by omega) (by omega)
  obtain⟨e1,e2,e3,_⟩:=We (x:=(p:Int)+q) (by omega) (by omega)
  obtain⟨y,hy⟩:∃y,V[k - (A.length+1)]? =some y:=⟨V[k - (A.length+1)]'(by omega),by rw[List.getElem?_eq_getElem]⟩
  have gy:(A++u::(V++C))[k]? =some y:=by
   have:=get_at (A:=A++[u]) (C:=C) hy;rw[show (A++[u]).length+(k - (A.length+1))=k by simp;omega] at this
   simpa using this
  have hoy:okM y:=hM y (List.mem_of_getElem? hy);have w4:IntKind.i64.wrap (((p:Int)+q) / 2+1)=((k+1:Nat):Int):=by rw[wrap64 (by omega) (by omega)];omega
  simp[hv1,hv2,c,w2,e1,e2,e3];refine RcS.ld hid hN hk2 gy ?_;refine RcS.ld hid hN ha hu0 ?_;simp only[Ev,Ko,A2];refine Mm hoy hMu ?_;simp
  by_cases cm:y.mark - u.mark < 0
  ·simp[cm];rw[w4];refine⟨_,(k+1,q),by show q - (k+1) < q - p;omega,rfl,rfl,rfl,by show _≤k+1;omega,by show k+1≤q;omega,h3,?_,h5⟩
   intro i z hi hz;have:=FW hV hz hy (by simp at hi;omega)
   omega
  ·simp[cm];rw[hk2];refine⟨_,(p,k),by show k - p < q - p;omega,rfl,rfl,rfl,h1,by show p≤k;omega,by show k≤_;omega,h4,?_⟩
   intro i z hi hz;have:=FW hV hy hz (by simp at hi;omega)
   omega
 ·have:p=q:=by omega
  subst this;obtain⟨r,hr⟩:∃r,r=p - (A.length+1):=⟨_,rfl⟩
  replace h4:∀i y,i < r→V[i]? =some y→y.mark < u.mark:=fun i y h=>h4 i y (by omega)
  replace h5:∀i y,r≤i→V[i]? =some y→u.mark≤y.mark:=fun i y h=>h5 i y (by omega)
  have hV2:V.take r++V.drop r=V:=List.take_append_drop r V;have e:=gH (u:=u) (V1:=V.take r) (V2:=V.drop r) (by rw[hV2];exact hV) (Xs h4) (YB h5)
  rw[hV2] at e;rw[e] at hq;simp[hv1,hv2];refine CD (fun k:Nat=>([.int .i64 k],[])) (fun n k S'=>∃Va Vb,V.take r=Va++Vb∧S'=RcS S id (A++Va++u::Vb++V.drop r++C)∧k=A.length+Va.length∧n=Vb.length) (V.take r).length A.length (by simp[ha]) ⟨[],V.take r,rfl,?_,by simp,rfl⟩ ?_
  ·conv=>lhs;rw[←hV2]
   simp
  rintro n k S' v2 bx2 ⟨Va,Vb,e1,rfl,rfl,rfl⟩ hv2';simp at hv2';have hrl:Va.length+Vb.length=r:=by
   have:=congrArg List.length e1;simp at this;omega
  have w2:IntKind.i64.wrap ((p:Int) - 1)=((A.length+r:Nat):Int):=by rw[wrap64 (by omega) (by omega)];omega
  simp only[w2,hv2'];cases Vb with
  |nil=>
   simp at hrl e1;have cc:¬((A.length:Int)+Va.length < A.length+r):=by omega
   rw[e1] at hq;simp[cc];simpa using hq
  |cons z Vb=>
   simp at hrl;have cc:(A.length:Int)+Va.length < A.length+r:=by omega
   have w3:IntKind.i64.wrap ((A.length:Int)+Va.length+1)=((A.length+Va.length+1:Nat):Int):=by rw[wrap64 (by omega) (by omega)];omega
   have e0:A++(Va++(u::(z::(Vb++(V.drop r++C)))))=(A++Va)++u::[]++z::(Vb++(V.drop r++C)):=by simp
   have hlen:((A++Va)++u::[]++z::(Vb++(V.drop r++C))).length=N:=by simp;omega
   have g1:((A++Va)++u::[]++z::(Vb++(V.drop r++C)))[A.length+Va.length]? =some u:=by rw[List.append_assoc];exact Hj (by simp)
   have g2:((A++Va)++u::[]++z::(Vb++(V.drop r++C)))[A.length+Va.length+1]? =some z:=Hj (by simp;omega)
   have g3:(((A++Va)++u::[]++z::(Vb++(V.drop r++C))).set (A.length+Va.length) z)[A.length+Va.length+1]? =some z:=by
    rw[List.getElem?_set_ne (by omega)];exact g2
   simp[cc,hrl];simp only[e0];rw[w3];have i1:(A.length:Int)+Va.length=((A.length+Va.length:Nat):Int):=by omega
   refine RcS.ld hid hlen rfl g2 ?_;refine RcS.ld hid hlen i1 g1 ?_;simp only[Ev];refine RcS.st hid hlen i1 g1 ?_;refine RcS.st hid (by rw[List.length_set];exact hlen) rfl g3 ?_
   rw[ST (by simp) (by simp)]
   exact⟨_,A.length+Va.length+1,by show Vb.length < _;simp,by simp,Va++[z],Vb,by simp[e1],by simp,by simp;omega,rfl⟩
theorem bm{w0:World}{S:St}{id:Nat}(hid:id < S.length){A U C:List AW}{u:AW}{N:Nat}(hN:(A++U++u::C).length=N)(hN2:N≤1000000)(hMu:okM u)(hM:∀x∈U,okM x)(hU:Dx AW.mark U)(h2U:2≤U.length){a m b:Int}(ha:a=A.length)(hm:m=A.length+U.length)(hb:b=A.length+U.length+1){Q:AV→St→Prop}
  (hq:Q (.tup []) (RcS S id (A++CK AW.mark U [u]++C))):AC w0 Aw [.rs 19 id 0 N,.int .i64 a,.int .i64 m,.int .i64 b,RZ] (RcS S id (A++U++u::C)) Q:=by
 apply CL;unfold Be;have hN':=hN;simp at hN';have w0:IntKind.i64.wrap (m - a)=(U.length:Int):=by rw[wrap64 (by omega) (by omega)];omega
 have w1:IntKind.i64.wrap (b - m)=1:=by rw[wrap64 (by omega) (by omega)];omega
 simp only[AF,w1,w0];have t1:((1:Int)==1)=true:=rfl;have t0:((U.length:Int)==1)=false:=by simp;omega
 simp only[t1,t0];simp only[KL,HP];have hu0:(A++U++u::C)[A.length+U.length]? =some u:=Hj (by simp)
 refine CD (fun p:Nat×Nat=>([.int .i64 p.1,.int .i64 p.2],[])) (fun n p S'=>S'=RcS S id (A++U++u::C)∧n=p.2 - p.1∧A.length≤p.1∧p.1≤p.2∧p.2≤A.length+U.length∧(∀i y,i < p.1 - A.length→U[i]? =some y→y.mark≤u.mark)∧(∀i y,p.2 - A.length≤i→U[i]? =some y→u.mark < y.mark))
  U.length (A.length,A.length+U.length) ?_ ⟨rfl,by simp,by simp,by simp,by simp,by intro i y h;simp at h,?_⟩ ?_
 ·rw[hm,ha];simp
 ·intro i y h1 h2;have:=(List.getElem?_eq_some_iff.1 h2).1;simp at h1;omega
 rintro n ⟨p,q⟩ S' v bx ⟨rfl,rfl,h1,h2,h3,h4,h5⟩ hv;simp at hv h1 h2 h3 h4 h5;obtain⟨hv1,hv2⟩:=hv;have r0:A++(U++u::C)=A++U++u::C:=by simp
 by_cases c:p < q
 ·have hs:(p:Int)+q=((p+q:Nat):Int):=by omega
  obtain⟨k,hk⟩:∃k:Nat,k=(p+q) / 2:=⟨_,rfl⟩;have hk2:((p:Int)+q) / 2=(k:Int):=by omega
  have w2:IntKind.i64.wrap ((p:Int)+q)=(p:Int)+q:=wrap64 (by omega) (by omega)
  obtain⟨e1,e2,e3,_⟩:=We (x:=(p:Int)+q) (by omega) (by omega)
  obtain⟨y,hy⟩:∃y,U[k - A.length]? =some y:=⟨U[k - A.length]'(by omega),by rw[List.getElem?_eq_getElem]⟩
  have gy:(A++U++u::C)[k]? =some y:=by
   have:=get_at (A:=A) (C:=u::C) hy;rw[show A.length+(k - A.length)=k by omega] at this
   exact this
  have hoy:okM y:=hM y (List.mem_of_getElem? hy);have w4:IntKind.i64.wrap (((p:Int)+q) / 2+1)=((k+1:Nat):Int):=by rw[wrap64 (by omega) (by omega)];omega
  simp[hv1,hv2,c,w2,e1,e2,e3];simp only[r0];refine RcS.ld hid hN (by rw[hm];rfl) hu0 ?_
  refine RcS.ld hid hN hk2 gy ?_;simp only[Ev,Ko,A2];refine Mm hMu hoy ?_;simp
  by_cases cm:u.mark - y.mark < 0
  ·simp[cm];rw[hk2];refine⟨_,(p,k),by show k - p < q - p;omega,rfl,by simp,rfl,h1,by show p≤k;omega,by show k≤_;omega,h4,?_⟩
   intro i z hi hz;have:=FW hU hy hz (by simp at hi;omega)
   omega
  ·simp[cm];rw[w4];refine⟨_,(k+1,q),by show q - (k+1) < q - p;omega,rfl,by simp,rfl,by show _≤k+1;omega,by show k+1≤q;omega,h3,?_,h5⟩
   intro i z hi hz;have:=FW hU hz hy (by simp at hi;omega)
   omega
 ·have:p=q:=by omega
  subst this;obtain⟨r,hr⟩:∃r,r=p - A.length:=⟨_,rfl⟩
  replace h4:∀i y,i < r→U[i]? =some y→y.mark≤u.mark:=fun i y h=>h4 i y (by omega)
  replace h5:∀i y,r≤i→U[i]? =some y→u.mark < y.mark:=fun i y h=>h5 i y (by omega)
  have hU2:U.take r++U.drop r=U:=List.take_append_drop r U;have e:=hY (v:=u) (U1:=U.take r) (U2:=U.drop r) (by rw[hU2];exact hU) (Xs h4) (YB h5)
  rw[hU2] at e;rw[e] at hq;simp[hv1,hv2];refine CD (fun k:Nat=>([.int .i64 k],[])) (fun n k S'=>∃Ua Ub,U.drop r=Ua++Ub∧S'=RcS S id (A++U.take r++Ua++u::Ub++C)∧k=p+Ua.length∧n=Ua.length) (U.drop r).length (A.length+U.length) (by rw[hm];simp) ⟨U.drop r,[],by simp,?_,?_,rfl⟩ ?_
  ·conv=>lhs;rw[←hU2]
   simp
  ·simp;omega
  rintro n k S' v2 bx2 ⟨Ua,Ub,e1,rfl,rfl,rfl⟩ hv2';simp at hv2';have hrl:Ua.length+Ub.length+r=U.length:=by
   have:=congrArg List.length e1;simp at this;omega
  have htl:(U.take r).length=r:=by rw[List.length_take];omega
  rcases List.eq_nil_or_concat Ua with rfl|⟨P,z,rfl⟩
  ·simp at hrl e1 hv2';rw[e1] at hq;simp[hv2'];simpa using hq
  ·rw[List.concat_eq_append] at*;simp at hrl hv2';have cc:(p:Int) < p+(P.length+1):=by omega
   have w3:IntKind.i64.wrap ((p:Int)+(P.length+1) - 1)=((A.length+r+P.length:Nat):Int):=by rw[wrap64 (by omega) (by omega)];omega
   have e0:A++(U.take r++(P++(z::(u::(Ub++C)))))=(A++U.take r++P)++z::[]++u::(Ub++C):=by simp
   have hlen:((A++U.take r++P)++z::[]++u::(Ub++C)).length=N:=by simp;omega
   have g1:((A++U.take r++P)++z::[]++u::(Ub++C))[A.length+r+P.length]? =some z:=by rw[List.append_assoc];exact Hj (by simp;omega)
   have g2:((A++U.take r++P)++z::[]++u::(Ub++C))[A.length+r+P.length+1]? =some u:=Hj (by simp;omega)
   have g3:(((A++U.take r++P)++z::[]++u::(Ub++C)).set (A.length+r+P.length+1) z)[A.length+r+P.length]? =some z:=by
    rw[List.getElem?_set_ne (by omega)];exact g1
   have i2:(p:Int)+(P.length+1)=((A.length+r+P.length+1:Nat):Int):=by omega
   simp[hv2',cc];simp only[e0];rw[w3];refine RcS.ld hid hlen rfl g1 ?_;refine RcS.ld hid hlen i2 g2 ?_;simp only[Ev];refine RcS.st hid hlen i2 g2 ?_;refine RcS.st hid (by rw[List.length_set];exact hlen) rfl g3 ?_
   rw[Vg (by simp;omega) (by simp;omega)]
   exact⟨_,p+P.length,by show P.length < _;simp,by simp;omega,P,z::Ub,by simp[e1],by simp,rfl,rfl⟩
theorem Pb{l:List AW}(h:Dx AW.mark l)(s:Nat):Dx AW.mark (l.take s)∧Dx AW.mark (l.drop s):=by
 rw[←List.take_append_drop s l] at h;have:=List.pairwise_append.1 h;exact⟨this.1,this.2.1⟩
def lB(U V:List AW)(i k:Nat):Prop:=∃x y,U[i]? =some x∧V[k]? =some y∧x.mark≤y.mark
def lA(U V:List AW)(i k:Nat):Prop:=∃x y,U[i]? =some x∧V[k]? =some y∧y.mark < x.mark
set_option maxHeartbeats 2000000 in
theorem TX{w0:World}{S:St}{id:Nat}(hid:id < S.length){N:Nat}(hN2:N≤1000000)(d:Nat):∀{A U V C:List AW} (hd:U.length+V.length≤d) (hN:(A++U++V++C).length=N) (hMU:∀x∈U,okM x) (hMV:∀x∈V,okM x) (hU:Dx AW.mark U) (hV:Dx AW.mark V) (nU:U≠[]) (nV:V≠[]) {a m b:Int} (ha:a=A.length) (hm:m=A.length+U.length) (hb:b=A.length+U.length+V.length) {Q:AV→St→Prop}
  (hq:Q (.tup []) (RcS S id (A++CK AW.mark U V++C))),AC w0 Aw [.rs 19 id 0 N,.int .i64 a,.int .i64 m,.int .i64 b,RZ] (RcS S id (A++U++V++C)) Q:=by
 induction d with
 |zero=>
  intro A U V C hd hN hMU hMV hU hV nU;exact absurd (List.length_eq_zero_iff.1 (by omega)) nU
 |succ d ih=>
  intro A U V C hd hN hMU hMV hU hV nU nV a m b ha hm hb Q hq;have lU:=List.length_pos_iff.2 nU;have lV:=List.length_pos_iff.2 nV;have hN':=hN;simp at hN'
  by_cases c1:U.length=1
  ·obtain⟨u,rfl⟩:=List.length_eq_one_iff.1 c1;have e:A++[u]++V++C=A++u::(V++C):=by simp
   rw[e] at hN ⊢;exact ee hid hN hN2 (hMU u (by simp)) hMV hV ha (by simpa using hm) (by simpa using hb) hq
  by_cases c2:V.length=1
  ·obtain⟨u,rfl⟩:=List.length_eq_one_iff.1 c2;have e:A++U++[u]++C=A++U++u::C:=by simp
   rw[e] at hN ⊢;exact bm hid hN hN2 (hMV u (by simp)) hMU hU (by omega) ha hm (by simpa using hb) hq
  apply CL;unfold Be;obtain⟨h,hh⟩:∃h,h=(U.length+V.length) / 2:=⟨_,rfl⟩;obtain⟨M,hM⟩:∃M:Int,M=A.length+h:=⟨_,rfl⟩;have hmid:IntKind.i64.wrap (Int.fdiv (IntKind.u64.wrap (IntKind.i64.wrap (a+b))) (2 ^ 1))=M:=by
   have w:IntKind.i64.wrap (a+b)=a+b:=wrap64 (by omega) (by omega)
   obtain⟨e1,_,_,e4⟩:=We (x:=a+b) (by omega) (by omega)
   rw[w,e1,e4];omega
  have w1:IntKind.i64.wrap (m - a)=(U.length:Int):=by rw[wrap64 (by omega) (by omega)];omega
  have w2:IntKind.i64.wrap (b - m)=(V.length:Int):=by rw[wrap64 (by omega) (by omega)];omega
  have t1:((U.length:Int)==1)=false:=by simp;omega
  have t2:((V.length:Int)==1)=false:=by simp;omega
  have w3:IntKind.i64.wrap (M+m)=M+m:=wrap64 (by omega) (by omega)
  have w4:IntKind.i64.wrap (M+m - b)=M+m - b:=wrap64 (by omega) (by omega)
  have w5:IntKind.i64.wrap (M+m - 1)=M+m - 1:=wrap64 (by omega) (by omega)
  simp only[hmid,w1,w2,w3,w4,w5,t1,t2];rw[AF,HP,AF,HP];refine Bm (fun j=>∀lo hi:Nat,A.length≤lo→lo≤hi→hi≤A.length+U.length→hi≤A.length+h→(M+m≤b+lo)→(lo=A.length∨M+m=b+lo)→(hi=A.length+U.length∨hi=A.length+h)→j (.int .i64 lo) (.int .i64 hi)) (fun lo hi p1 p2 p3 p4 p5 p6 p7=>?_) (fun j hj=>?_)
  ·refine Bm (fun j=>∀st:Nat,lo≤st→st≤hi→(st=lo∨lB U V (st - 1 - A.length) (A.length+h - st))→(st=hi∨lA U V (st - A.length) (A.length+h - st - 1))→j (.int .i64 st) (RcS S id (A++U++V++C))) (fun st q1 q2 q3 q4=>?_) (fun j hj=>?_)
   ·obtain⟨s,hs⟩:∃s,s=st - A.length:=⟨_,rfl⟩;obtain⟨t,ht⟩:∃t,t=h - s:=⟨_,rfl⟩;have hst:st=A.length+s:=by omega
    subst hst;have htV:t≤V.length:=by omega
    have hsU:s≤U.length:=by omega
    have sU:=Pb hU s;have sV:=Pb hV t;have eU:=List.take_append_drop s U;have eV:=List.take_append_drop t V;have f1:∀x∈U.take s,∀y∈V.drop t,x.mark≤y.mark:=by
     intro x hx y hy;obtain⟨i,hi1,rfl⟩:=List.getElem_of_mem hx;obtain⟨k,hk1,rfl⟩:=List.getElem_of_mem hy;rw[List.length_take] at hi1;rw[List.length_drop] at hk1;rw[List.getElem_take,List.getElem_drop];rcases q3 with q3|⟨x,y,hx2,hy2,hxy⟩
     ·omega
     ·have g1:=FW hU (List.getElem?_eq_getElem (i:=i) (by omega)) hx2 (by omega)
      have g2:=FW hV hy2 (List.getElem?_eq_getElem (i:=t+k) (by omega)) (by omega)
      omega
    have f2:∀y∈V.take t,∀x∈U.drop s,y.mark < x.mark:=by
     intro y hy x hx;obtain⟨i,hi1,rfl⟩:=List.getElem_of_mem hy;obtain⟨k,hk1,rfl⟩:=List.getElem_of_mem hx;rw[List.length_take] at hi1;rw[List.length_drop] at hk1;rw[List.getElem_take,List.getElem_drop];rcases q4 with q4|⟨x,y,hx2,hy2,hxy⟩
     ·omega
     ·have g1:=FW hV (List.getElem?_eq_getElem (i:=i) (by omega)) hy2 (by omega)
      have g2:=FW hU hx2 (List.getElem?_eq_getElem (i:=s+k) (by omega)) (by omega)
      omega
    have hmg:=Eq (f:=AW.mark) (U.take s) (U.drop s) (V.take t) (V.drop t) (by rw[eU];exact hU) (by rw[eV];exact hV) f1 f2
    rw[eU,eV] at hmg;rw[hmg] at hq;have w6:IntKind.i64.wrap (M+m - (A.length+s))=m+t:=by rw[wrap64 (by omega) (by omega)];omega
    have lts:(U.take s).length=s:=by rw[List.length_take];omega
    have ltt:(V.take t).length=t:=by rw[List.length_take];omega
    simp[w6];refine Bm (fun j=>j (RcS S id (A++U.take s++V.take t++(U.drop s++V.drop t++C)))) ?_ (fun j hj=>?_)
    ·refine Bm (fun j=>j (RcS S id (A++CK AW.mark (U.take s) (V.take t)++U.drop s++V.drop t++C))) ?_ (fun j hj=>?_)
     ·have lmg:(CK AW.mark (U.take s) (V.take t)).length=h:=by rw[LO,lts,ltt];omega
      by_cases c5:M < m+t∧m+t < b
      ·simp[c5,D4];have r0:A++(CK AW.mark (U.take s) (V.take t)++(U.drop s++(V.drop t++C)))=(A++CK AW.mark (U.take s) (V.take t))++U.drop s++V.drop t++C:=by simp
       rw[r0];refine ih ?_ ?_ (fun x hx=>hMU x (List.mem_of_mem_drop hx)) (fun x hx=>hMV x (List.mem_of_mem_drop hx)) sU.2 sV.2 ?_ ?_ ?_ ?_ ?_ ?_
       ·simp;omega
       ·simp;omega
       ·intro e;have:=congrArg List.length e;simp at this;omega
       ·intro e;have:=congrArg List.length e;simp at this;omega
       ·simp;omega
       ·simp;omega
       ·simp;omega
       ·simpa using hq
      ·have e:CK AW.mark (U.drop s) (V.drop t)=U.drop s++V.drop t:=by
        by_cases c6:M < m+t
        ·have:V.drop t=[]:=List.drop_eq_nil_iff.2 (by omega)
         rw[this];simp
        ·have:U.drop s=[]:=List.drop_eq_nil_iff.2 (by omega)
         rw[this];simp
       rw[e] at hq;have c5':(decide (M < m+t)&&decide (m+t < b))=false:=by simp;omega
       simp[c5'];simpa using hq
     ·by_cases c5:a < A.length+s∧(A.length:Int)+s < M
      ·simp[c5,D4];have r0:A++(U.take s++(V.take t++(U.drop s++(V.drop t++C))))=A++U.take s++V.take t++(U.drop s++V.drop t++C):=by simp
       rw[r0];refine ih ?_ ?_ (fun x hx=>hMU x (List.mem_of_mem_take hx)) (fun x hx=>hMV x (List.mem_of_mem_take hx)) sU.1 sV.1 ?_ ?_ ?_ ?_ ?_ ?_
       ·simp;omega
       ·simp;omega
       ·intro e;rw[e] at lts;simp at lts;omega
       ·intro e;rw[e] at ltt;simp at ltt;omega
       ·exact ha
       ·rw[lts]
       ·rw[lts,ltt];omega
       ·simpa using hj
      ·have e:CK AW.mark (U.take s) (V.take t)=U.take s++V.take t:=by
        by_cases c6:s=0
        ·subst c6;simp
        ·have:t=0:=by omega
         subst this;simp
       rw[e] at hj;have c5':(decide (a < (A.length:Int)+s)&&decide ((A.length:Int)+s < M))=false:=by simp;omega
       simp[c5'];simpa using hj
    ·by_cases c5:(A.length:Int)+s < m∧m < m+t
     ·simp[c5,D4];have r0:A++(U++(V++C))=(A++U.take s)++U.drop s++V.take t++(V.drop t++C):=by
       simp only[List.append_assoc];rw[←List.append_assoc (U.take s),eU,←List.append_assoc (V.take t),eV]
      rw[r0];refine dr hid ?_ hN2 ?_ ?_ ?_ ?_ ?_ ?_
      ·simp;omega
      ·intro e;have:=congrArg List.length e;simp at this;omega
      ·intro e;rw[e] at ltt;simp at ltt;omega
      ·simp;omega
      ·simp;omega
      ·simp;omega
      ·simpa using hj
     ·have e:U.drop s++V.take t=V.take t++U.drop s:=by
       by_cases c6:t=0
       ·subst c6;simp
       ·have:U.drop s=[]:=List.drop_eq_nil_iff.2 (by omega)
        rw[this];simp
      have r0:A++(U++(V++C))=A++(U.take s++(V.take t++(U.drop s++(V.drop t++C)))):=by
       have:V.take t++(U.drop s++(V.drop t++C))=U.drop s++(V.take t++(V.drop t++C)):=by rw[←List.append_assoc,←e,List.append_assoc]
       rw[this,←List.append_assoc (U.take s),eU,←List.append_assoc (V.take t),eV]
      have c5':(decide ((A.length:Int)+s < m)&&decide (m < m+(t:Int)))=false:=by simp;omega
      simp[c5'];rw[r0];simpa using hj
   ·refine CD (fun p:Nat×Nat=>([.int .i64 p.1,.int .i64 p.2],[])) (fun n p S'=>S'=RcS S id (A++U++V++C)∧n=p.2 - p.1∧lo≤p.1∧p.1≤p.2∧p.2≤hi∧(p.1=lo∨lB U V (p.1 - 1 - A.length) (A.length+h - p.1))∧(p.2=hi∨lA U V (p.2 - A.length) (A.length+h - p.2 - 1)))
     (hi - lo) (lo,hi) (by simp) ⟨rfl,rfl,Nat.le_refl _,p2,Nat.le_refl _,.inl rfl,.inl rfl⟩ ?_
    rintro n ⟨p,q⟩ S' v bx ⟨rfl,rfl,k1,k2,k3,k4,k5⟩ hv;simp at hv k1 k2 k3 k4 k5;obtain⟨hv1,hv2⟩:=hv
    by_cases c:p < q
    ·obtain⟨k,hk⟩:∃k:Nat,k=(p+q) / 2:=⟨_,rfl⟩;have hk2:((p:Int)+q) / 2=(k:Int):=by omega
     have w6:IntKind.i64.wrap ((p:Int)+q)=(p:Int)+q:=wrap64 (by omega) (by omega)
     obtain⟨e1,e2,e3,_⟩:=We (x:=(p:Int)+q) (by omega) (by omega)
     have hkU:k - A.length < U.length:=by omega
     have hkV:A.length+h - k - 1 < V.length:=by omega
     have hy:=List.getElem?_eq_getElem hkU;have hx:=List.getElem?_eq_getElem hkV;have gy:(A++U++V++C)[k]? =some U[k - A.length]:=by
      have:=get_at (A:=A) (C:=V++C) hy;rw[show A.length+(k - A.length)=k by omega] at this
      simpa using this
     have gx:(A++U++V++C)[A.length+U.length+(A.length+h - k - 1)]? =some V[A.length+h - k - 1]:=by
      have:=get_at (A:=A++U) (C:=C) hx;simpa using this
     have oy:okM U[k - A.length]:=hMU _ (List.getElem_mem _);have ox:okM V[A.length+h - k - 1]:=hMV _ (List.getElem_mem _);have w7:IntKind.i64.wrap (M+m - 1 - ((p:Int)+q) / 2)=((A.length+U.length+(A.length+h - k - 1):Nat):Int):=by rw[wrap64 (by omega) (by omega)];omega
     have w8:IntKind.i64.wrap (((p:Int)+q) / 2+1)=((k+1:Nat):Int):=by rw[wrap64 (by omega) (by omega)];omega
     have r0:A++(U++(V++C))=A++U++V++C:=by simp
     generalize U[k - A.length]=y at hy gy oy;generalize V[A.length+h - k - 1]=x at hx gx ox;simp[hv1,hv2,c,w6,e1,e2,e3];rw[w7];simp only[r0];refine RcS.ld hid hN rfl gx ?_;refine RcS.ld hid hN hk2 gy ?_;simp only[Ev,Ko,A2];refine Mm ox oy ?_;simp
     by_cases cm:x.mark - y.mark < 0
     ·simp[cm];rw[hk2];refine⟨_,(p,k),by show k - p < q - p;omega,rfl,by simp,rfl,k1,by show p≤k;omega,by show k≤hi;omega,k4,.inr ⟨y,x,hy,hx,by omega⟩⟩
     ·simp[cm];rw[w8];refine⟨_,(k+1,q),by show q - (k+1) < q - p;omega,rfl,by simp,rfl,by show lo≤k+1;omega,by show k+1≤q;omega,k3,.inr ⟨y,x,?_,?_,by omega⟩,k5⟩
      ·show U[k+1 - 1 - A.length]? =_
       rw[Nat.add_sub_cancel];exact hy
      ·show V[A.length+h - (k+1)]? =_
       rw[←Nat.sub_sub];exact hx
    ·have:p=q:=by omega
     subst this;simp[hv1,hv2];have:=hj p k1 k3 k4 k5;simpa using this
  ·by_cases c3:M < m
   ·simp[c3];have:=hj (A.length+h - V.length) (A.length+h) (by omega) (by omega) (by omega) (by omega) (by omega) (by omega) (by omega)
    have e:M+m - b=((A.length+h - V.length:Nat):Int):=by omega
    rw[e,hM];simpa using this
   ·simp[c3];have:=hj A.length (A.length+U.length) (by omega) (by omega) (by omega) (by omega) (by omega) (by omega) (by omega)
    rw[ha,hm];simpa using this
local notation "sK" =>B9 AW.mark
def Hq(k:Nat)(l:List AW):List AW:=if h:l.length≤k∨k=0 then B9 AW.mark l else B9 AW.mark (l.take k)++Hq k (l.drop k)
termination_by l.length
decreasing_by simp only[List.length_drop];omega
theorem IV{k:Nat}{l:List AW}(h:l.length≤k):Hq k l=B9 AW.mark l:=by rw[Hq,dif_pos (.inl h)]
theorem PS{k:Nat}(hk:0 < k){l:List AW}(h:k≤l.length):Hq k l=B9 AW.mark (l.take k)++Hq k (l.drop k):=by
 by_cases e:l.length=k
 ·rw[IV (by omega),IV (l:=l.drop k) (by simp;omega)]
  have h1:l.take k=l:=List.take_of_length_le (by omega)
  have h2:l.drop k=[]:=List.drop_eq_nil_iff.2 (by omega)
  rw[h1,h2,VE,List.append_nil]
 ·conv=>lhs;rw[Hq]
  rw[dif_neg (by omega)]
theorem dj(k:Nat):∀(n:Nat) (l:List AW),l.length≤n→(Hq k l).length=l.length:=by
 intro n
 induction n with
 |zero=>intro l h;rw[IV (by omega),Db]
 |succ n ih=>
  intro l h;rw[Hq];split
  ·rw[Db]
  ·rw[List.length_append,Db,ih _ (by simp;omega)];simp;omega
theorem dT{w0:World}{S:St}{id:Nat}(hid:id < S.length){l:List AW}(hN2:l.length≤100000)(hM:∀x∈l,okM x){Q:AV→St→Prop}
  (hq:Q (.tup []) (RcS S id (B9 AW.mark l))):AC w0 By [.rs 19 id 0 l.length,.int .i64 l.length,RZ] (RcS S id l) Q:=by
 apply DU;unfold CV;refine Bm (fun j=>∀D R:List AW,D++Hq 20 R=Hq 20 l→D.length+R.length=l.length→R.length < 20→(∀x∈R,okM x)→j (.int .i64 D.length) (RcS S id (D++R))) (fun D R h1 h2 h3 h4=>?_) (fun j hj=>?_)
 ·simp[D4];have r0:D++R=D++R++[]:=by simp
  rw[r0];refine Qz hid ?_ (by omega) h4 rfl ?_ ?_
  ·simpa using h2
  ·omega
  rw[List.append_nil,←IV (k:=20) (by omega),h1]
  refine CD (fun k:Nat=>([.int .i64 k],[])) (fun n k S'=>S'=RcS S id (Hq k l)∧20≤k∧n=2*l.length - k∧k≤200000) (2*l.length - 20) 20 (by simp) ⟨rfl,by omega,rfl,by omega⟩ ?_
  rintro n k S' v bx ⟨rfl,k1,rfl,k2⟩ hv;simp at hv
  by_cases c:k < l.length
  ·have w1:IntKind.i64.wrap (2*(k:Int))=((2*k:Nat):Int):=by rw[wrap64 (by omega) (by omega)];omega
   have w2:IntKind.i64.wrap ((k:Int)*2)=((2*k:Nat):Int):=by rw[wrap64 (by omega) (by omega)];omega
   simp[hv,c,w1,w2];refine Bm (fun j=>∀D R:List AW,D++Hq (2*k) R=Hq (2*k) l→D.length+R.length=l.length→R.length < 2*k→(∀x∈R,okM x)→j (.int .i64 D.length) (RcS S id (D++Hq k R))) (fun D R g1 g2 g3 g4=>?_) (fun j hj=>?_)
   ·have w3:IntKind.i64.wrap ((D.length:Int)+k)=((D.length+k:Nat):Int):=by rw[wrap64 (by omega) (by omega)];omega
    simp only[Vi,fB,A2,w3];refine Bm (fun j=>j (RcS S id (Hq (2*k) l))) ?_ (fun j hj=>?_)
    ·refine⟨_,2*k,?_,rfl,rfl,by omega,rfl,by omega⟩
     show 2*l.length - 2*k < _
     omega
    ·by_cases c2:D.length+k < l.length
     ·have c2':(D.length:Int)+k < l.length:=by omega
      simp[c2',D4];have e1:=PS (k:=k) (by omega) (l:=R) (by omega)
      rw[IV (l:=R.drop k) (by simp;omega)] at e1
      have r0:D++Hq k R=D++B9 AW.mark (R.take k)++B9 AW.mark (R.drop k)++[]:=by rw[e1];simp
      have l1:(B9 AW.mark (R.take k)).length=k:=by rw[Db];simp;omega
      have l2:(B9 AW.mark (R.drop k)).length=R.length - k:=by rw[Db];simp
      rw[r0];refine TX hid (by omega) _ (Nat.le_refl _) ?_ ?_ ?_ (GR _) (GR _) ?_ ?_ rfl ?_ ?_ ?_
      ·simp only[List.length_append,l1,l2,List.length_nil];omega
      ·exact fun x hx=>g4 x (List.mem_of_mem_take ((Id _).1 hx))
      ·exact fun x hx=>g4 x (List.mem_of_mem_drop ((Id _).1 hx))
      ·intro e;rw[e] at l1;simp at l1;omega
      ·intro e;rw[e] at l2;simp at l2;omega
      ·rw[l1]
      ·rw[l1,l2];omega
      ·rw[←Pp,List.take_append_drop,List.append_nil,←IV (k:=2*k) (by omega),g1]
       exact hj
     ·have c2':¬((D.length:Int)+k < l.length):=by omega
      have e1:Hq k R=Hq (2*k) R:=by rw[IV (by omega),IV (by omega)]
      rw[←g1,←e1] at hj;simp[c2'];exact hj
   ·refine CD (fun a:Nat=>([.int .i64 a,.int .i64 ((a+2*k:Nat):Int)],[])) (fun n a S'=>∃D R:List AW,D++Hq (2*k) R=Hq (2*k) l∧D.length+R.length=l.length∧S'=RcS S id (D++Hq k R)∧(∀x∈R,okM x)∧a=D.length∧n=R.length) l.length 0 (by simp) ⟨[],l,rfl,by simp,rfl,hM,rfl,rfl⟩ ?_
    rintro n a S' v2 bx2 ⟨D,R,g1,g2,rfl,g4,rfl,rfl⟩ hv2;simp at hv2;obtain⟨hv2a,hv2b⟩:=hv2
    by_cases c2:2*k≤R.length
    ·have c2':(D.length:Int)+2*k≤l.length:=by omega
     have w3:IntKind.i64.wrap ((D.length:Int)+k)=((D.length+k:Nat):Int):=by rw[wrap64 (by omega) (by omega)];omega
     have w4:IntKind.i64.wrap ((D.length:Int)+2*k+((2*k:Nat):Int))=((D.length+2*k+2*k:Nat):Int):=by rw[wrap64 (by omega) (by omega)];omega
     have w4':IntKind.i64.wrap ((D.length:Int)+2*k+2*(k:Int))=((D.length+2*k+2*k:Nat):Int):=by rw[wrap64 (by omega) (by omega)];omega
     simp only[hv2a,hv2b];simp[hv,c2',D4,w1,w3];have e1:=PS (k:=k) (by omega) (l:=R) (by omega)
     have e2:=PS (k:=k) (by omega) (l:=R.drop k) (by simp;omega)
     have e3:=PS (k:=2*k) (by omega) (l:=R) c2
     have d2:(R.drop k).drop k=R.drop (2*k):=by rw[List.drop_drop];congr 1;omega
     have d1:R.take (2*k)=R.take k++(R.drop k).take k:=by rw[show 2*k=k+k by omega,List.take_add]
     rw[d2] at e2;have r0:D++Hq k R=D++B9 AW.mark (R.take k)++B9 AW.mark ((R.drop k).take k)++Hq k (R.drop (2*k)):=by rw[e1,e2];simp
     have l1:(B9 AW.mark (R.take k)).length=k:=by rw[Db];simp;omega
     have l2:(B9 AW.mark ((R.drop k).take k)).length=k:=by rw[Db];simp;omega
     have l3:(Hq k (R.drop (2*k))).length=R.length - 2*k:=by rw[dj k _ _ (Nat.le_refl _)];simp
     rw[r0];refine TX hid (by omega) _ (Nat.le_refl _) ?_ ?_ ?_ (GR _) (GR _) ?_ ?_ rfl ?_ ?_ ?_
     ·simp only[List.length_append,l1,l2,l3];omega
     ·exact fun x hx=>g4 x (List.mem_of_mem_take ((Id _).1 hx))
     ·exact fun x hx=>g4 x (List.mem_of_mem_drop (List.mem_of_mem_take ((Id _).1 hx)))
     ·intro e;rw[e] at l1;simp at l1;omega
     ·intro e;rw[e] at l2;simp at l2;omega
     ·rw[l1]
     ·rw[l1,l2];omega
     ·rw[←Pp,←d1]
      try rw[w4']
      refine⟨_,D.length+2*k,by show R.length - 2*k < _;omega,by simp,D++B9 AW.mark (R.take (2*k)),R.drop (2*k),?_,?_,rfl,fun x hx=>g4 x (List.mem_of_mem_drop hx),?_,by simp⟩
      ·rw[List.append_assoc,←e3];exact g1
      ·rw[List.length_append,Db];simp;omega
      ·rw[List.length_append,Db];simp;omega
    ·have c2':¬((D.length:Int)+2*k≤l.length):=by omega
     have:=hj D R g1 g2 (by omega) g4
     simp only[hv2a,hv2b];simp[c2'];exact this
  ·simp[hv,c];rw[IV (by omega)]
   exact hq
 ·refine CD (fun a:Nat=>([.int .i64 a,.int .i64 ((a+20:Nat):Int)],[])) (fun n a S'=>∃D R:List AW,D++Hq 20 R=Hq 20 l∧D.length+R.length=l.length∧S'=RcS S id (D++R)∧(∀x∈R,okM x)∧a=D.length∧n=R.length) l.length 0 (by simp) ⟨[],l,rfl,by simp,rfl,hM,rfl,rfl⟩ ?_
  rintro n a S' v2 bx2 ⟨D,R,g1,g2,rfl,g4,rfl,rfl⟩ hv2;simp at hv2;obtain⟨hv2a,hv2b⟩:=hv2
  by_cases c2:20≤R.length
  ·have c2':(D.length:Int)+20≤l.length:=by omega
   have w3:IntKind.i64.wrap ((D.length:Int)+20+20)=((D.length+20+20:Nat):Int):=by rw[wrap64 (by omega) (by omega)];omega
   simp only[hv2a,hv2b];simp[c2',D4];rw[w3];have e3:=PS (k:=20) (by omega) (l:=R) c2
   have r0:D++R=D++R.take 20++R.drop 20:=by simp
   rw[r0];refine Qz hid ?_ (by omega) (fun x hx=>g4 x (List.mem_of_mem_take hx)) rfl ?_ ?_
   ·simp;omega
   ·simp;omega
   ·refine⟨_,D.length+20,by show R.length - 20 < _;omega,by simp,D++B9 AW.mark (R.take 20),R.drop 20,?_,?_,rfl,fun x hx=>g4 x (List.mem_of_mem_drop hx),?_,by simp⟩
    ·rw[List.append_assoc,←e3];exact g1
    ·rw[List.length_append,Db];simp;omega
    ·rw[List.length_append,Db];simp;omega
  ·have c2':¬((D.length:Int)+20≤l.length):=by omega
   have:=hj D R g1 g2 (by omega) g4
   simp only[hv2a,hv2b];simp[c2'];exact this
theorem WX{w0:World}{S:St}{r:Rt}{Q:AV→St→Prop}(hq:Q (.tup []) S):AC w0 BA [.vs 19 [] r,.int .i64 0,.int .i64 0,RZ] S Q:=by
 apply Cs;unfold Bv;have w1:IntKind.i64.wrap ((0:Int)+1)=1:=wrap64 (by omega) (by omega)
 rw[w1];refine CD (fun i:Nat=>([.int .i64 1],[])) (fun n i S'=>S'=S) 0 0 rfl rfl ?_
 rintro n i S' v bx rfl hv;simp at hv;simp[hv,hq]
theorem cI{w0:World}{S:St}{r:Rt}{Q:AV→St→Prop}(hq:Q (.tup []) S):AC w0 By [.vs 19 [] r,.int .i64 0,RZ] S Q:=by
 apply DU;unfold CV;rw[AF];refine CD (fun i:Nat=>([.int .i64 0,.int .i64 20],[])) (fun n i S'=>S'=S) 0 0 rfl rfl ?_
 rintro n i S' v bx rfl hv;simp at hv;simp[hv,D4];refine WX ?_;refine CD (fun i:Nat=>([.int .i64 20],[])) (fun n i S2=>S2=S') 0 0 rfl rfl ?_
 rintro n i S2 v bx rfl hv;simp at hv;simp[hv,hq]
theorem W7{w0:World}{S:St}{id:Nat}(hid:id < S.length){l:List AW}(hN2:l.length≤100000)(hM:∀x∈l,okM x){Q:AV→St→Prop}
  (hq:Q (.tup []) (RcS S id (B9 AW.mark l))):AC w0 A9 [.rs 19 id 0 l.length,RZ] (RcS S id l) Q:=by
 apply CE;unfold BW;simp[D4,Bb];exact dT hid hN2 hM hq
theorem NO{w0:World}{S:St}{r:Rt}{Q:AV→St→Prop}(hq:Q (.tup []) S):AC w0 A9 [.vs 19 [] r,RZ] S Q:=by
 apply CE;unfold BW;simp[D4,Bb];exact cI hq
theorem ao{w0:World}{S:St}{l:List AW}{r:Rt}(hr:okR r l)(hl:l.length≤100000)(hM:∀x∈l,okM x){Q:AV→St→Prop}
  (hq:∀S' r',Sx S S'→okR r' l→Q (.vs 19 ((B9 AW.mark l).map AW.c) r') S'):AC w0 IN [.vs 19 (l.map AW.c) r] S Q:=by
 refine AL.freezeR (E:=En w0) ?_;apply Ro;unfold Ma;simp[D4];apply ET;unfold Cy;simp;simp only[HI,eqA,Option.map_some,A2]
 by_cases c:r.strip= .nil
 ·have e:=hr c;subst e;have:(r.strip==Rt.nil)=true:=by rw[c];rfl
  rw[this,KL];refine NO (.inl ?_);exact hq S .nil (Sx.refl S) an
 ·have:(r.strip==Rt.nil)=false:=by cases h:r.strip<;>simp_all
  rw[this,HP];cases l with
  |nil=>
   simp[appendR,BN];refine NO (.inl ?_);exact hq S .full (Sx.refl S) KX
  |cons x l=>
   have hm1:∀l:List AW,List.map (fun x=>List.map AV.strip1 x) (l.map AW.c)=l.map AW.c:=fun l=>by
    rw[List.map_map];exact List.map_congr_left fun y _=>AW.map1 y
   have he:BN S 19 (.vs 19 ((x::l).map AW.c) r.strip)=some ((x::l).map AW.c):=by
    simp only[BN];simp[AW.map1]
   have hap:appendR AB S (.vs 19 [] .full) (.vs 19 ((x::l).map AW.c) r.strip)=some (.rs 19 S.length 0 (x::l).length,S++[.cells (Ao AW.c (x::l)) 0]):=by
    have hsz:AB.size=19:=rfl;have hlim:(x::l).length≤lim:=by have:=hl;simp only[lim];omega
    unfold appendR;rw[hsz,he,Option.bind_some,if_neg (by simp)]
    simp only[List.length_map,hlim,and_true,or_true,if_true];simp[Ao,List.flatMap]
   rw[hap];have hS:S++[.cells (Ao AW.c (x::l)) 0]=RcS (S++[.dead]) S.length (x::l):=by simp[RcS]
   simp only[A2,hS,dP];simp only[AV.free,if_true];refine W7 (by simp) hl hM (.inr ?_)
   refine⟨S.length,0,19,(x::l).length,(B9 AW.mark (x::l)).map AW.c,?_,?_,?_,?_⟩
   ·rw[RcS.get (by simp)]
    simp[Ao,List.flatMap]
   ·intro e he;obtain⟨y,_,rfl⟩:=List.mem_map.1 he;refine⟨rfl,fun z hz=>?_⟩
    simp[AW.c] at hz;rcases hz with rfl|rfl|rfl|rfl|rfl|rfl|rfl|rfl|rfl|rfl|rfl|rfl|rfl|rfl|rfl|rfl|rfl|rfl|rfl<;>rfl
   ·rw[List.length_map,Db]
   ·rw[hm1];have e2:(AV.rs 19 S.length 0 (x::l).length).frz3 19 S.length (x::l).length (.vs 19 ((B9 AW.mark (x::l)).map AW.c) .none)= .vs 19 ((B9 AW.mark (x::l)).map AW.c) .none:=by
     rw[PZ (by intro cs h;cases h),PK (by intro cs h;cases h),PF,if_pos ⟨rfl,rfl,rfl,rfl⟩]
    rw[e2];refine hq _ .none (fun j hj=>?_) X3
    simp only[RcS];rw[An (by omega),An (by omega),List.getElem?_append_left hj]
end Go.Av
