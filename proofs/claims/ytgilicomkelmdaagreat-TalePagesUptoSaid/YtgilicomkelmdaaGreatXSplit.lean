/- Parts of the proofs of this seat: abstract values over the model, and what the functions of the program do. No condition. -/
import Derived.Test.YtgilicomkelmdaaGreatM9
import Derived.Test.YtgilicomkelmdaaGreatM10
import Derived.Test.YtgilicomkelmdaaGreatD0
import Derived.Test.YtgilicomkelmdaaGreatM12
import Derived.Test.YtgilicomkelmdaaGreatY01
import Derived.Test.YtgilicomkelmdaaGreatXSA
import Derived.Test.YtgilicomkelmdaaGreatDExt
import Derived.Test.YtgilicomkelmdaaGreatX03
import Derived.Test.YtgilicomkelmdaaGreatY04b
import Derived.Test.YtgilicomkelmdaaGreatDEq
import Derived.Test.YtgilicomkelmdaaGreatY03a
import Derived.Shelf.Strings.Split
import Derived.Shelf.Lay
import Derived.Shelf.Vars
import Derived.Shelf.LaySoft
import Derived.Shelf.Strings.OnBuilder
import Derived.Shelf.Strings.LastIndex
set_option linter.all false
set_option maxRecDepth 100000
namespace Go.Proofs
open Go.Shelf Go.Av
shelf_lay Lays.n146 Nm 146 at Tryz as Tryz.lays146
end Go.Proofs
namespace Go.Av
open Go.Proofs Go.Shelf
def LI(w0:World):Prop:=∃m,w0.cell? ⟨Tryz.lays146_ren.g 1,0,none⟩=some (.int .i64 m)
theorem Xb{W:World}(h:W.ShapedOpen Tryz.prog):LI W:=cell_of_shapedOpen_int (zero:=#[.int .i64 0]) (t:=GC) h (of_decide_eq_true (by kernel_rfl)) (by kernel_rfl) rfl (by kernel_rfl) (by kernel_rfl) E8
theorem dm{E:Env}{G:Gh}{w:World}{S:St}(h:Rel E G w S){b o:Nat}{v:Value}(hc:E.w0.cell? ⟨b,o,none⟩=some v):w.cell? ⟨b,o,none⟩=some v:=by
 have hlt:b < E.w0.heap.size:=by
  unfold World.cell? at hc;split at hc
  ·rename_i c e fz hh;exact(Array.getElem?_eq_some_iff.1 hh).1
  ·cases hc
 rw[←hc];exact World.cell?_of_block (w:=E.w0) (h.old b hlt).1
set_option maxRecDepth 100000 in
theorem gT{w0:World}{S:St}{s:Str}(hm:LI w0)(hs:s.length < 4294967281){Q:AV→St→Prop}(hq:Q (.vs 1 ((DW s).map fun s=>[.str s]) .full) S):
  AC w0 LQ [.str s,.str [47]] S Q:=by
 refine AL.of_strs QF (by kernel_rfl) (by kernel_rfl) fun G w args' hr hl' ha=>?_
 obtain⟨v,u,rfl⟩:∃v u,args'=#[v,u]:=by
  match args',hl' with
  |⟨[v,u]⟩,_=>exact⟨v,u,rfl⟩
 have h0':=ha 0 _ v rfl rfl;have h1':=ha 1 _ u rfl rfl;cases h0';cases h1';obtain⟨m,hm⟩:=hm;refine(Any.strings_Split Tryz.lays146 (by kernel_rfl) ⟨s.toArray⟩ ⟨#[47]⟩ m w (by simpa[ByteArray.size] using hs) (dm hr hm) (by decide)).mono ?_
 rintro e w' ⟨rfl,rfl⟩;have hd:(Lib.splitB ⟨#[47]⟩ 0 (Lib.countB ⟨s.toArray⟩ ⟨#[47]⟩) ⟨s.toArray⟩).map (·.data.toList)=DW s:=by
  rw[Lib.splitB_data];exact VQ s
 have hlen:(DW s).length=Lib.countB ⟨s.toArray⟩ ⟨#[47]⟩+1:=by
  rw[←hd,List.length_map];exact Lib.splitB_all ⟨#[47]⟩ (by decide) 0 _ ⟨s.toArray⟩ rfl
 have he:(Lib.splitB ⟨#[47]⟩ 0 (Lib.countB ⟨s.toArray⟩ ⟨#[47]⟩) ⟨s.toArray⟩).map Value.string=(DW s).map fun s=>Value.string ⟨s.toArray⟩:=by
  rw[←hd,List.map_map];rfl
 refine⟨DW s,Tryz.lays146_ren.t 9,?_,?_,hq⟩
 ·rw[hlen]
 ·rw[he]
open Go.Proofs
theorem OC{α:Type}{s:List α}(h:s≠[]):List.isEmpty s=false:=by
 cases s with
 |nil=>exact absurd rfl h
 |cons _ _=>rfl
theorem ju(x y:UInt8):(x==y)=decide (x.toNat=y.toNat):=by
 rw[Bool.eq_iff_iff];simp[UInt8.toNat_inj]
theorem PJ{w0:World}{S:St}{s:Str}(hs:s.length < 4294967281){Q:AV→St→Prop}(hq:Q (.bool (E1 s)) S):AC w0 IR [.str s] S Q:=by
 apply UQ;unfold PW;unfold E1 at hq
 by_cases c1:s=[]
 ·simpa[c1,AF] using hq
 have e1:=OC c1
 by_cases c2:s=[46]
 ·simpa[c1,c2,AF] using hq
 by_cases c3:s=[46,46]
 ·simpa[c1,c2,c3,AF] using hq
 by_cases c4:s.length≤64
 ·have c4':(s.length:Int)≤64:=by omega
  have b2:(s==[46])=false:=beq_eq_false_iff_ne.2 c2;have b3:(s==[46,46])=false:=beq_eq_false_iff_ne.2 c3;simp[e1,b2,b3,c4',AF];refine Ux (c0:=47) (c1:=0) (by decide) (by decide) hs ?_
  simpa[e1,c2,c3,c4,bne,b2,b3] using hq
 ·have c4':¬(s.length:Int)≤64:=by omega
  have b2:(s==[46])=false:=beq_eq_false_iff_ne.2 c2;have b3:(s==[46,46])=false:=beq_eq_false_iff_ne.2 c3;simp[e1,b2,b3,c4',AF];simpa[e1,b2,b3,c4,bne] using hq
set_option maxHeartbeats 1000000 in
theorem Kd{w0:World}{S:St}{s:Str}(hm:LI w0)(hs:s.length≤1048576){Q:AV→St→Prop}
  (hq:match D7 s with
   |none=>Q (.tup [.vs 1 [] .nil,.bool false,.int .i64 1]) S
   |some l=>∀r,(r= .nil→l=[])→(r= .nil∨r= .own Fq)→Q (.tup [.vs 1 (l.map DB) r,.bool (s.head? ==some 47),.int .i64 0]) S):AC w0 Ga [.str s] S Q:=by
 apply T6;unfold Oh;unfold D7 at hq
 by_cases c1:s=[]
 ·simpa[c1,AF] using hq
 have e1:=OC c1
 by_cases c2:1024 < s.length
 ·have c2':(1024:Int) < s.length:=by omega
  simpa[e1,c1,c2,c2',AF] using hq
 have c2':¬(1024:Int) < s.length:=by omega
 rw[if_neg (by simp[c1,c2])] at hq
 simp[e1,c2',AF];refine gT hm (by omega) ?_
 simp;have hsl:=TL s;have hap:=QN s;generalize DW s=l at hq hsl hap;refine Bl l (fun i (a:List Str×Rt)=>([.vs 1 (a.1.map DB) a.2,.int .i64 i],[])) (fun i a S'=>S'=S∧Gg l=(Gg (l.drop i)).map (a.1++·)∧a.1.length≤i∧(a.2= .nil∧a.1=[]∨a.2= .own Fq)) ([],.nil) rfl ⟨rfl,by simp,by simp,by simp⟩ ?_ ?_
 ·rintro i ⟨acc,ra⟩ S' v b x c hxi hd hc hm' ⟨rfl,hx,hal,hra⟩ hv;simp at hv hx hal hra;have hra':ra≠ .none:=by rcases hra with ⟨rfl,_⟩|rfl<;>simp
  have hrt:EE AK ra=Fq:=by rcases hra with ⟨rfl,_⟩|rfl<;>rfl
  have hlim:acc.length+1≤lim:=by unfold lim;have:=hsl.1;omega
  simp[hv,hc,hxi];rw[hd,Gg] at hx
  by_cases h1:x=[]
  ·simp[h1] at hx ⊢
   try simp (disch:=omega) only[wrap64]
   exact .next c (acc,ra) rfl ⟨rfl,hx,by simp;omega,hra⟩
  by_cases h2:x=[46]
  ·simp[h2] at hx ⊢
   try simp (disch:=omega) only[wrap64]
   exact .next c (acc,ra) rfl ⟨rfl,hx,by simp;omega,hra⟩
  have e1:=OC h1;have b2:(x==[46])=false:=beq_eq_false_iff_ne.2 h2;have hadd:x=[46,46]∨E1 x=true→Gg l=(Gg (l.drop (i+1))).map ((acc++[x])++·):=fun h=>by
   rw[hx,if_neg (by simp[h1,h2]),if_pos h,Option.map_map]
   congr 1;funext y;simp
  by_cases h3:x=[46,46]
  ·have hx:=hadd (.inl h3);subst h3;simp[A3,BN,hra',hlim,hrt]
   try simp (disch:=omega) only[wrap64]
   exact .next c (acc++[[46,46]],.own Fq) (by simp) ⟨rfl,hx,by simp;omega,.inr rfl⟩
  have b3:(x==[46,46])=false:=beq_eq_false_iff_ne.2 h3;simp[e1,b2,b3,h1,h2,h3];refine PJ (by have:=hsl.2 x hm';omega) ?_
  cases h4:E1 x with
  |true=>
   have hx:=hadd (.inr h4);simp[A3,BN,hra',hlim,hrt]
   try simp (disch:=omega) only[wrap64]
   exact .next c (acc++[x],.own Fq) (by simp) ⟨rfl,hx,by simp;omega,.inr rfl⟩
  |false=>
   rw[if_neg (by simp[h1,h2]),if_neg (by simp[h3,h4])] at hx
   rw[hx] at hq;simpa using hq
 ·rintro⟨acc,ra⟩ S' v b ⟨rfl,hx,hal,hra⟩ hv N;simp at hv hx hal hra;simp[Gg] at hx;rw[hx] at hq;obtain⟨y,tl,rfl⟩:∃y tl,s=y::tl:=by
   cases s with
   |nil=>exact absurd rfl c1
   |cons y tl=>exact⟨y,tl,rfl⟩
  simp[hv];have e47:((y.toNat:Int)=47)=(y.toNat=47):=propext (by omega)
  have:=hq ra (by rcases hra with ⟨rfl,h⟩|rfl<;>simp[*]) (by rcases hra with ⟨rfl,h⟩|rfl<;>simp)
  simpa[ju,e47] using this
open Go.Proofs
theorem Vw{w0:World}{S:St}{a b:List Str}{ra rb:Rt}(ha:a.length≤1000000000000){Q:AV→St→Prop}(hq:Q (.bool (decide (a=b))) S):AC w0 Ku [.vs 1 (a.map DB) ra,.vs 1 (b.map DB) rb] S Q:=by
 apply Uq;unfold Po
 by_cases hl:a.length=b.length
 ·have hl':((a.length:Int) != (b.length:Int))=false:=by simp[hl]
  simp only[List.length_map,hl'];simp[AF];refine Bl a (fun i (_:Unit)=>([.int .i64 i],[])) (fun i _ S'=>S'=S∧a.take i=b.take i) () rfl (by simp) ?_ ?_
  ·rintro i _ S' v bx x c hxi hd hc hm ⟨rfl,hx⟩ hv;simp at hv;obtain⟨y,hy⟩:∃y,b[i]? =some y:=⟨b[i]'(by omega),by simp[show i < b.length by omega]⟩
   simp[hv,hc,hxi,hy]
   by_cases e:x=y
   ·simp[e]
    try simp (disch:=omega) only[wrap64]
    refine .next c () rfl ⟨rfl,?_⟩;rw[List.take_add_one,List.take_add_one,hxi,hy,hx,e]
   ·have:¬a=b:=fun h=>e (by rw[h,hy] at hxi;exact(Option.some.inj hxi).symm)
    simp[e];simpa[this] using hq
  ·rintro _ S' v bx ⟨rfl,hx⟩ hv N;simp at hv;simp[hv];rw[List.take_length,hl,List.take_length] at hx;simpa[hx] using hq
 ·have hl':((a.length:Int) != (b.length:Int))=true:=by simp;omega
  have:¬a=b:=fun h=>hl (by rw[h])
  simp only[List.length_map,hl'];simpa[this] using hq
theorem PG{w0:World}{S:St}{d s:Str}(hn:d.length+s.length≤1000000000){Q:AV→St→Prop}(hq:Q (.str (if d=[47] then d++s else d++47::s)) S):AC w0 Ia [.str d,.str s] S Q:=by
 apply UG;unfold PT;rw[K6 (by omega),K6 (by simp;omega)]
 simp;rw[K6 (by simp;omega)]
 by_cases c:d=[47]
 ·simpa[c] using hq
 ·simpa[c] using hq
open Go.Proofs
@[simp] theorem Node.c_len(n:Node):n.c.length=7:=by rw[Node.c_eq];rfl
@[simp] theorem Node.c_free(n:Node):(AV.agg n.c).free=true:=by rw[Node.c_eq];simp
@[simp] theorem Node.c_strip(n:Node):(AV.agg n.c).strip= .agg n.c:=by rw[Node.c_eq];simp
@[simp] theorem Node.c_cells(n:Node):(AV.agg n.c).cells=n.c:=rfl
@[simp] theorem Node.c_map(n:Node):n.c.map AV.strip1=n.c:=by rw[Node.c_eq];simp
@[simp] theorem Node.c_free1(n:Node):(∀x∈n.c,x.free1=true)↔True:=by rw[Node.c_eq];simp
@[simp] theorem Node.c_take(n:Node):n.c.take 7=n.c:=by rw[Node.c_eq];rfl
@[simp] theorem kf(S:St)(n:Node):AM AT S (.ep n.c 0)=some (.agg n.c):=by rw[Node.c_eq];simp
theorem Xo{w0:World}{n:Node}{S:St}{Q:AV→St→Prop}(hq:Q (.bool (E4 n)) S):AC w0 Lp [.agg n.c] S Q:=by
 rw[Node.c_eq];apply Ws;unfold RJ;have p0:∀{α:Type} {l:List α},l≠[]→0 < l.length:=fun h=>List.length_pos_iff.2 h
 have fin:∀b:Bool,E4 n=b→Q (.bool b) S:=fun b h=>h ▸ hq
 have k12:n.kind=2→n.kind≠1∧n.kind≠3:=fun h=>by omega
 have k13:n.kind=1→n.kind≠3:=fun h=>by omega
 by_cases k2:n.kind=2
 ·have k1:=(k12 k2).1;have k3:=(k12 k2).2
  by_cases s0:n.size=0
  ·by_cases e0:n.exts=[]
   ·simp[k2,s0,e0,AF];exact fin _ (by simp[E4,k2,s0,e0])
   ·have:=p0 e0;simp[k2,s0,this,AF];exact fin _ (by simp[E4,k2,s0,e0])
  ·simp[k2,s0,AF];exact fin _ (by simp[E4,k2,s0])
 ·cases o:n.opq with
  |true=>
   simp[k2,o,AF];exact fin _ (by simp[E4,k2,o])
  |false=>
   by_cases a0:n.names.l=[]
   ·by_cases i0:n.items=[]
    ·by_cases k1:n.kind=1
     ·have k3:=k13 k1;simp[k1,o,a0,i0,AF];exact fin _ (by simp[E4,k1,o,a0,i0])
     ·by_cases s0:n.size=0
      ·by_cases e0:n.exts=[]
       ·by_cases k3:n.kind=3
        ·simp[k3,o,a0,i0,s0,e0,AF];exact fin _ (by simp[E4,k3,o,a0,i0,s0,e0])
        ·simp[k1,k2,k3,o,a0,i0,s0,e0,AF];exact fin _ (by simp[E4,k1,k2,k3,o,a0,i0,s0,e0])
       ·have:=p0 e0;simp[k1,k2,o,a0,i0,s0,this,AF];exact fin _ (by simp[E4,k1,k2,e0])
      ·simp[k1,k2,o,a0,i0,s0,AF];exact fin _ (by simp[E4,k1,k2,s0])
    ·have:=p0 i0;simp[k2,o,a0,this,AF];exact fin _ (by simp[E4,k2,i0])
   ·have:=p0 a0;simp[k2,o,this,AF];exact fin _ (by simp[E4,k2,a0])
def TQ(l:List Str)(i:Nat):Option Str:=if i=0 then none else l[i - 1]?
theorem Tm{l:List Str}{i:Nat}{x:Str}(h:l[i]? =some x):TQ l (i+1)=some x:=by simp[TQ,h]
theorem Wx{w0:World}{n:Node}{S:St}(hok:n.ok){Q:AV→St→Prop}(hq:Q (.bool (HZ n)) S):AC w0 Kf [.agg n.c] S Q:=by
 rw[Node.c_eq];apply UX;unfold Oq;rw[Node.ok_iff] at hok;obtain⟨h1,h2,h3,h4,h5,h6,h7⟩:=hok;unfold HZ at hq;simp[AF];have hlen:=h2.2.1;refine Bl n.names.l (fun i (_:Unit)=>([.int .i64 i],[some [.int .i64 n.kind,.bool n.opq,.vs 1 (n.names.l.map DB) n.names.r.strip,.vs 7 (n.items.map Node.c) n.ir.strip,.int .i64 n.size,.vs 2 (n.exts.map Ext.c) n.er.strip,.str n.target]])) (fun i _ S'=>S'=S∧nchain none n.names.l=nchain (TQ n.names.l i) (n.names.l.drop i)) () rfl (by simp[TQ]) ?_ ?_
 ·rintro i _ S' v b x c hxi hd hc hm ⟨rfl,hx⟩ hv;simp at hv;simp[hv,hc,hxi];rw[hd,RX] at hx;refine PJ (by have:=h2.2.2 x hm;omega) ?_
  cases hr:E1 x with
  |false=>
   rw[hx,hr] at hq;simpa using hq
  |true=>
   rw[hr] at hx
   by_cases hi:i=0
   ·subst hi;simp[TQ] at hx;simp
    try simp (disch:=omega) only[wrap64]
    exact .next c () rfl ⟨rfl,by rw[Tm hxi];simpa using hx⟩
   ·have hi':(0:Int) < i:=by omega
    have hi0:0 < i:=by omega
    obtain⟨q,hqi⟩:∃q,n.names.l[i - 1]? =some q:=⟨n.names.l[i - 1]'(by omega),by simp[show i - 1 < n.names.l.length by omega]⟩
    have hp:TQ n.names.l i=some q:=by simp[TQ,hi,hqi]
    have hi1:(i:Int) - 1=((i - 1:Nat):Int):=by omega
    rw[hp] at hx;simp[hi',hi0]
    try simp (disch:=omega) only[wrap64]
    rw[hi1];simp[hqi,hxi];cases hs:slt q x with
    |false=>
     rw[hx] at hq;simp[hs] at hq;simpa[slt,hs] using hq
    |true=>
     simp[show Op.bytesLess q x=true from hs]
     try simp (disch:=omega) only[wrap64]
     exact .next c () rfl ⟨rfl,by rw[Tm hxi,hx];simp[hs]⟩
 ·rintro _ S' v b ⟨rfl,hx⟩ hv N;simp at hv;simp[hv];rw[hx,List.drop_length] at hq;simp[nchain] at hq;have e:((n.names.l.length:Int)=(n.items.length:Int))=(n.names.l.length=n.items.length):=propext (by omega)
  simpa[e] using hq
theorem jt(k:Int):((k=1)=True∧(k=2)=False∧(k=3)=False∧(k=4)=False)∨((k=1)=False∧(k=2)=True∧(k=3)=False∧(k=4)=False)∨((k=1)=False∧(k=2)=False∧(k=3)=True∧(k=4)=False)∨
  ((k=1)=False∧(k=2)=False∧(k=3)=False∧(k=4)=True)∨((k=1)=False∧(k=2)=False∧(k=3)=False∧(k=4)=False):=by
 by_cases h1:k=1
 ·subst h1;simp
 by_cases h2:k=2
 ·subst h2;simp
 by_cases h3:k=3
 ·subst h3;simp
 by_cases h4:k=4
 ·subst h4;simp
 simp[h1,h2,h3,h4]
theorem gB{n:Node}(hok:n.ok):mH n.exts:=by
 rw[Node.ok_iff] at hok;obtain⟨h1,h2,h3,h4,h5,h6,h7⟩:=hok;exact⟨fun x hx=>⟨(h6.2.2 x hx).1,(h6.2.2 x hx).2.1,by have:=(h6.2.2 x hx).2.2;omega⟩,by omega⟩
open Go.Proofs
set_option maxRecDepth 100000 in
theorem XE{w0:World}(hm0:LI w0)(n:Node):∀{S:St} {Q:AV→St→Prop} {id d:Nat} {left:Int},n.ok→S[id]? =some (.cells [.int .i64 left] GC)→d≤1000→0≤left→left≤1000000000000→
  Q (.bool (n.rgt d left).1) (S.set id (.cells [.int .i64 (n.rgt d left).2] GC))→AC w0 Ib [.agg n.c,.int .i64 d,.ptr id 0] S Q:=by
 induction n using Node.ind with
 |h n ih=>
  intro S Q id d left hok hS hd hl1 hl2 hq;have hex:=gB hok;have hz:=@Xo w0 n;have hn:=fun S=>@Wx w0 n S hok
  rw[Node.c_eq] at hz hn ⊢;apply UR;unfold Pc;rw[Node.rgt_eq] at hq;rw[Node.ok_iff] at hok;obtain⟨h1,h2,h3,h4,h5,h6,h7⟩:=hok;have hS1:=Ab (o':=.cells [.int .i64 (left - 1)] GC) hS;simp[AO hS,AF]
  try simp (disch:=omega) only[wrap64]
  simp[Am hS];generalize hS':S.set id (.cells [.int .i64 (left - 1)] GC)=S' at hS1 ⊢;have hback:∀v,S'.set id (.cells [.int .i64 v] GC)=S.set id (.cells [.int .i64 v] GC):=fun v=>by rw[←hS',List.set_set]
  simp[AO hS1]
  by_cases c1:left - 1 < 0
  ·rw[if_pos (.inl c1),hS'] at hq;have c1':left < 1:=by omega
   simp[c1,c1'];exact hq
  have c1':¬left < 1:=by omega
  by_cases c2:15 < d
  ·rw[if_pos (.inr (.inl c2)),hS'] at hq;have c2':(15:Int) < d:=by omega
   simp[c1,c1',c2,c2'];exact hq
  have c2':¬(15:Int) < d:=by omega
  simp[c1,c1',c2,c2'];refine hz ?_;cases c3:E4 n with
  |false=>
   rw[if_pos (by simp[c3]),hS'] at hq
   simp;exact hq
  |true=>
   rw[if_neg (by simp[c1,c2,c3])] at hq
   simp;obtain hk|hk|hk|hk|hk:=jt n.kind
   all_goals (
    obtain⟨q1,q2,q3,q4⟩:=hk;simp only[q1,q2,q3,q4,decide_true,decide_false,KL,HP];simp only[q2,if_false,if_true] at hq)
   ·rw[hS'] at hq;refine Sn h5 hex ?_;simpa[Gd,q1] using hq
   ·refine hn _ ?_;cases c5:HZ n with
    |false=>
     rw[c5] at hq;simp only[Bool.false_eq_true,if_false,hS'] at hq;simpa using hq
    |true=>
     rw[c5] at hq;simp only[if_true] at hq;simp;refine Bl n.items (fun i (_:Unit)=>([.int .i64 i],[])) (fun i _ S2=>∃lf:Int,0≤lf∧lf≤left∧S2=S.set id (.cells [.int .i64 lf] GC)∧Node.rgts n.items (d+1) (left - 1)=Node.rgts (n.items.drop i) (d+1) lf) () rfl ⟨left - 1,by omega,by omega,hS'.symm,by simp⟩ ?_ ?_
     ·rintro i _ S2 v b x c hxi hd2 hc hm ⟨lf,l1,l2,rfl,hx⟩ hv;simp at hv;simp[hv,hc,hxi];have hS2:=Ab (o':=.cells [.int .i64 lf] GC) hS;rw[Node.rgts_drop hxi] at hx;obtain⟨r1,r2,r3,r4⟩:=x.rgt_spec (d+1) lf l1;have e1:((d:Int)+1)=((d+1:Nat):Int):=by omega
      rw[e1];refine ih x hm (h4 x hm) hS2 (by omega) l1 (by omega) ?_
      rw[List.set_set];cases hb:(x.rgt (d+1) lf).1 with
      |false=>
       rw[hx,hb] at hq;simpa using hq
      |true=>
       rw[hb] at hx;simp
       try simp (disch:=omega) only[wrap64]
       refine .next c () rfl ⟨(x.rgt (d+1) lf).2,?_,by omega,rfl,by simpa using hx⟩
       have:=r2 hb;rw[hb] at r1;have r1:=r1.symm;simp only[Bool.and_eq_true,decide_eq_true_eq] at r1;omega
     ·rintro _ S2 v b ⟨lf,l1,l2,rfl,hx⟩ hv N;simp at hv;simp[hv];rw[hx,List.drop_length] at hq;simpa[Node.rgts] using hq
   ·rw[hS'] at hq;refine Kd hm0 h7 ?_;have kb:Gd n=((D7 n.target).isSome&&decide (n.target.length≤256)):=by rw[Gd];simp only[q1,q2,q3,if_false,if_true]
    rw[kb] at hq;cases hsp:D7 n.target with
    |none=>
     rw[hsp] at hq;simpa using hq
    |some l=>
     rw[hsp] at hq;intro r _ _;have e:((n.target.length:Int)≤256)=(n.target.length≤256):=propext (by omega)
     simp[e];simpa using hq
   ·rw[hS'] at hq;have kb:Gd n=true:=by rw[Gd];simp only[q1,q2,q3,q4,if_false,if_true]
    rwa [kb] at hq
   ·rw[hS'] at hq;have kb:Gd n=false:=by rw[Gd];simp only[q1,q2,q3,q4,if_false,if_true]
    rwa [kb] at hq
theorem PM{w0:World}(hm0:LI w0){n:Node}{S:St}(hok:n.ok){Q:AV→St→Prop}(hq:∀S',Sx S S'→Q (.bool (DR n)) S'):AC w0 IU [.agg n.c] S Q:=by
 have h1:=@XE w0 hm0 n (S++[.cells [.int .i64 4096] GC]);rw[←Zj] at hq;rw[Node.c_eq] at h1 ⊢;apply US;unfold Oe;have hS:(S++[Obj.cells [.int .i64 0] GC])[S.length]? =some (.cells [.int .i64 0] GC):=by simp
 simp[Am hS,AF]
 by_cases k:n.kind=2
 ·have k':(n.kind=2)=True:=eq_true k;simp only[k',decide_true,Bool.true_and] at hq;simp[k'];refine h1 (d:=0) (left:=4096) hok (by simp) (by omega) (by omega) (by omega) ?_
  simp;exact hq _ (Sx.app _ _)
 ·have k':(n.kind=2)=False:=eq_false k;simp only[k',decide_false,Bool.false_and] at hq;simp[k'];exact hq _ (Sx.app _ _)
open Go.Proofs
theorem Node.c_eq'(n:Node):n.c=[.int .i64 n.kind,.bool n.opq,.vs 1 (n.names.l.map DB) n.names.r.strip,.vs 7 (n.items.map Node.c) n.ir.strip,.int .i64 n.size,.vs 2 (n.exts.map Ext.c) n.er.strip,.str n.target]:=n.c_eq
@[simp] theorem Node.c_drop(n:Node):n.c.drop 7=[]:=by rw[Node.c_eq];rfl
@[simp] theorem Node.zero_c(n:Node):7=n.c.length:=by simp
theorem YP{w0:World}{S:St}{a b:List Str}{ra rb:Rt}(ha:a.length≤1000000000000){Q:AV→St→Prop}(hq:Q (.bool (decide (a=b))) S):AC w0 DI [.vs 1 (a.map DB) ra,.vs 1 (b.map DB) rb] S Q:=by
 apply Gz;unfold Ea
 by_cases hl:a.length=b.length
 ·have hl':((a.length:Int) != (b.length:Int))=false:=by simp[hl]
  simp only[List.length_map,hl'];simp[AF];refine Bl a (fun i (_:Unit)=>([.int .i64 i],[])) (fun i _ S'=>S'=S∧a.take i=b.take i) () rfl (by simp) ?_ ?_
  ·rintro i _ S' v bx x c hxi hd hc hm ⟨rfl,hx⟩ hv;simp at hv;obtain⟨y,hy⟩:∃y,b[i]? =some y:=⟨b[i]'(by omega),by simp[show i < b.length by omega]⟩
   simp[hv,hc,hxi,hy]
   by_cases e:x=y
   ·simp[e]
    try simp (disch:=omega) only[wrap64]
    refine .next c () rfl ⟨rfl,?_⟩;rw[List.take_add_one,List.take_add_one,hxi,hy,hx,e]
   ·have:¬a=b:=fun h=>e (by rw[h,hy] at hxi;exact(Option.some.inj hxi).symm)
    simp[e];simpa[this] using hq
  ·rintro _ S' v bx ⟨rfl,hx⟩ hv N;simp at hv;simp[hv];rw[List.take_length,hl,List.take_length] at hx;simpa[hx] using hq
 ·have hl':((a.length:Int) != (b.length:Int))=true:=by simp;omega
  have:¬a=b:=fun h=>hl (by rw[h])
  simp only[List.length_map,hl'];simpa[this] using hq
theorem ZL{w0:World}{S:St}{a b:Str}{Q:AV→St→Prop}(hq:Q (.bool (slt a b)) S):AC w0 Gm [.str a,.str b] S Q:=by
 apply N1;unfold JY;apply M4;unfold I8;simp[AF];exact hq
theorem Te{w0:World}{S:St}{l:List Str}{r:Rt}{s:Str}(hl:l.length≤1000000000)(hp:l.Pairwise (fun a b=>slt a b=true)){Q:AV→St→Prop}
  (hq:∀k:Nat,k≤l.length→(∀i x,i < k→l[i]? =some x→slt x s=true)→(∀i x,k≤i→l[i]? =some x→slt x s=false)→Q (.tup [.int .i64 k,.bool (decide (l[k]? =some s))]) S):
  AC w0 Cc [.vs 1 (l.map DB) r,.str s] S Q:=by
 apply Fa;unfold Dd;refine Bm (fun j=>∀k:Nat,k≤l.length→(∀i x,i < k→l[i]? =some x→slt x s=true)→(∀i x,k≤i→l[i]? =some x→slt x s=false)→j (.int .i64 k) S) (fun k hk h1 h2=>?_) (fun j hj=>?_)
 ·have hq:=hq k hk h1 h2
  by_cases c:k < l.length
  ·obtain⟨x,hx,_,hc,_⟩:=ii c;have gx:l[k]=x:=(List.getElem?_eq_some_iff.1 hx).2;have e1:((k:Int) < (l.length:Int))=True:=by simp;exact c
   rw[hx] at hq;have e2:decide (some x=some s)=decide (x=s):=by simp
   rw[e2] at hq;have e3:(List.map DB l)[k]? =some (DB x):=by simp[hx]
   simp[AF,c,hx,gx]
   by_cases e:x=s
   ·subst e;simp at hq ⊢;exact hq
   ·simp[e] at hq ⊢;refine Ke ?_;unfold G6;simp;exact hq
  ·have e1:l[k]? =none:=by simp;omega
   rw[e1] at hq;simp[AF,c] at hq ⊢;exact hq
 ·refine CD (fun p:Nat×Nat=>([.int .i64 p.1,.int .i64 p.2],[])) (fun m p S'=>S'=S∧m=p.2 - p.1∧p.1≤p.2∧p.2≤l.length∧(∀i x,i < p.1→l[i]? =some x→slt x s=true)∧(∀i x,p.2≤i→l[i]? =some x→slt x s=false)) l.length (0,l.length) (by simp) ⟨rfl,rfl,by simp,by simp,by intro i x h;omega,by
   intro i x h1 h2;have:=(List.getElem?_eq_some_iff.1 h2).1;omega⟩ ?_
  rintro m ⟨a,b⟩ S' v bx ⟨rfl,rfl,h1,h2,h3,h4⟩ hv;simp at hv h1 h2 h3 h4;obtain⟨hv1,hv2⟩:=hv;simp[hv1,hv2]
  by_cases c:a < b
  ·have e1:IntKind.i64.wrap ((a:Int)+b)=((a+b:Nat):Int):=by rw[wrap64 (by omega) (by omega)];omega
   have e2:IntKind.u64.wrap ((a+b:Nat):Int)=((a+b:Nat):Int):=by
    simp[IntKind.wrap,IntKind.bits,IntKind.signed];omega
   have e3:AG .shr (.int .u64 ((a+b:Nat):Int)) (.int .u64 1)=some (.int .u64 (((a+b) / 2:Nat):Int)):=by
    simp[AG,IntKind.bits];rw[Int.fdiv_eq_ediv_of_nonneg _ (by omega)]
   have hm:(a+b) / 2 < l.length:=by omega
   have e4:IntKind.i64.wrap (((a+b) / 2:Nat):Int)=(((a+b) / 2:Nat):Int):=wrap64 (by omega) (by omega)
   obtain⟨k,hk⟩:∃k,k=(a+b) / 2:=⟨_,rfl⟩;obtain⟨x,hx,_,hc,_⟩:=ii hm;rw[←hk] at e3 e4 hx hm;have gx:l[k]=x:=(List.getElem?_eq_some_iff.1 hx).2;simp only[e1];simp[c];have e2':IntKind.u64.wrap ((a:Int)+b)=(a:Int)+b:=by rw[show (a:Int)+b=((a+b:Nat):Int) by omega];exact e2
   have e3':AG .shr (.int .u64 ((a:Int)+b)) (.int .u64 1)=some (.int .u64 (k:Int)):=by rw[show (a:Int)+b=((a+b:Nat):Int) by omega];exact e3
   simp[e2',e3',e4,hx];refine ZL ?_;cases hs:slt x s with
   |true=>
    simp
    try simp (disch:=omega) only[wrap64]
    refine⟨_,(k+1,b),by show b - (k+1) < b - a;omega,rfl,rfl,rfl,by show k+1≤b;omega,h2,?_,h4⟩
    intro i y hi hy
    by_cases e:i=k
    ·subst e;rw[hx] at hy;cases hy;exact hs
    ·have hi':i < k:=by simp at hi;omega
     have:=List.pairwise_iff_getElem.1 hp i k (List.getElem?_eq_some_iff.1 hy).1 hm hi';rw[(List.getElem?_eq_some_iff.1 hy).2,gx] at this;exact E6 this hs
   |false=>
    simp;refine⟨_,(a,k),by show k - a < b - a;omega,rfl,rfl,rfl,by show a≤k;omega,by show k≤l.length;omega,h3,?_⟩
    intro i y hi hy;simp at hi
    by_cases e:i=k
    ·subst e;rw[hx] at hy;cases hy;exact hs
    ·have hi':k < i:=by omega
     have:=List.pairwise_iff_getElem.1 hp k i hm (List.getElem?_eq_some_iff.1 hy).1 hi';rw[(List.getElem?_eq_some_iff.1 hy).2,gx] at this;cases h5:slt y s with
     |false=>rfl
     |true=>have:=E6 this h5;rw[hs] at this;cases this
  ·have:a=b:=by omega
   subst this;simp[c];exact hj a h2 h3 h4
theorem TD:∀(l:List Str) (p:Option Str),nchain p l=true→l.Pairwise (fun a b=>slt a b=true)∧(∀q,p=some q→∀x∈l,slt q x=true)∧∀x∈l,E1 x=true
 |[],p,h=>by simp
 |s::l,p,h=>by
  rw[RX] at h;simp only[Bool.and_eq_true] at h;obtain⟨⟨h1,h2⟩,h3⟩:=h;obtain⟨k1,k2,k3⟩:=TD l (some s) h3;refine⟨List.pairwise_cons.2 ⟨k2 s rfl,k1⟩,fun q e x hx=>?_,fun x hx=>?_⟩
  ·subst e;rcases List.mem_cons.1 hx with rfl|hx
   ·exact h2
   ·exact E6 h2 (k2 s rfl x hx)
  ·rcases List.mem_cons.1 hx with rfl|hx
   ·exact h1
   ·exact k3 x hx
def Node.none:Node:=.mk 0 false ⟨[],.nil⟩ [] .nil 0 [] .nil []
theorem Node.none_c:Node.none.c=[.int .i64 0,.bool false,.vs 1 [] .nil,.vs 7 [] .nil,.int .i64 0,.vs 2 [] .nil,.str []]:=by rw[Node.c_eq];rfl
theorem Node.none_ok:Node.none.ok:=by
 rw[Node.ok_iff];simp[Node.none,Node.kind,Node.names,Node.items,Node.ir,Node.size,Node.exts,Node.er,Node.target,I64,Ss.ok]
def Node.find(n:Node)(s:Str):Option Node:=(n.names.l.findIdx? (fun x=>decide (x=s))).bind (n.items[·]?)
theorem gL{l:List Str}{s:Str}{k:Nat}(hp:l.Pairwise (fun a b=>slt a b=true))(h1:∀i x,i < k→l[i]? =some x→slt x s=true)(h2:∀i x,k≤i→l[i]? =some x→slt x s=false):
  l.findIdx? (fun x=>decide (x=s))=if l[k]? =some s then some k else Option.none:=by
 split
 ·rename_i h;rw[List.findIdx?_eq_some_iff_getElem];obtain⟨hk,he⟩:=List.getElem?_eq_some_iff.1 h;refine⟨hk,by simp[he],fun j hj=>?_⟩
  have:=h1 j _ hj (List.getElem?_eq_getElem (by omega))
  simp;intro e;rw[e,Cl] at this;cases this
 ·rename_i h;rw[List.findIdx?_eq_none_iff];intro x hx;simp;intro e;subst e;obtain⟨i,hi⟩:=List.getElem?_of_mem hx
  by_cases c:i < k
  ·have:=h1 i _ c hi;rw[Cl] at this;cases this
  ·by_cases e:i=k
   ·subst e;exact h hi
   ·have hil:=(List.getElem?_eq_some_iff.1 hi).1;have hkl:k < l.length:=by omega
    have h4:=h2 k l[k] (by omega) (List.getElem?_eq_getElem hkl)
    have h5:=List.pairwise_iff_getElem.1 hp k i hkl hil (by omega)
    rw[(List.getElem?_eq_some_iff.1 hi).2,h4] at h5;cases h5
theorem Nq{n:Node}(h:HZ n=true):nchain Option.none n.names.l=true∧n.names.l.length=n.items.length:=by
 simpa[HZ] using h
open Go.Proofs
def okR{α:Type}(r:Rt)(l:List α):Prop:=r.strip= .nil→l=[]
theorem X3{α:Type}{l:List α}:okR .none l:=fun e=>by cases e
theorem KX{α:Type}{l:List α}:okR .full l:=fun e=>by cases e
theorem an{α:Type}:okR .nil ([]:List α):=fun _=>rfl
theorem VT{ei:TI}{sz:Nat}(hsz:ei.size=sz){es:List (List AV)}{r:Rt}{S:St}(hr:okR r es)(hl:es.length≤lim){K:AV→Prop}(hq:∀r',okR r' es→K (.vs sz es r')):
  AA (HI .slice .eql (.vs sz es r.strip) (.vs sz [] .nil)) fun t4=>ifK t4 (K (.vs sz [] .nil)) (AA (A3 ei S (.vs sz [] .full) (.vs sz es r.strip)) K):=by
 simp only[HI,eqA,Option.map_some,A2]
 by_cases c:r.strip= .nil
 ·have e:=hr c;subst e;have:(r.strip==Rt.nil)=true:=by rw[c];rfl
  rw[this,KL];exact hq .nil an
 ·have:(r.strip==Rt.nil)=false:=by cases h:r.strip<;>simp_all
  rw[this,HP];subst hsz
  by_cases e:es=[]
  ·subst e;simp[A3,BN];exact hq .full KX
  ·simp[A3,BN,e,hl];exact hq _ (fun e=>by cases e)
theorem Q8{w0:World}{S:St}{l:List Str}{r:Rt}(hr:okR r l)(hl:l.length≤100000000){Q:AV→St→Prop}(hq:∀r',okR r' l→Q (.vs 1 (l.map DB) r') S):AC w0 Bu [.vs 1 (l.map DB) r] S Q:=by
 apply Gy;unfold Eg;exact VT (ei:=AK) (sz:=1) (es:=l.map DB) (K:=fun t=>Q t S) rfl (fun e=>by simp[hr e]) (by simp[lim];omega) (fun r' h=>hq r' (fun e=>by simpa using h e))
theorem Ym{w0:World}{S:St}{l:List Ext}{r:Rt}(hr:okR r l)(hl:l.length≤100000000){Q:AV→St→Prop}(hq:∀r',okR r' l→Q (.vs 2 (l.map Ext.c) r') S):AC w0 CP [.vs 2 (l.map Ext.c) r] S Q:=by
 apply FN;unfold DX;exact VT (ei:=Bj) (sz:=2) (es:=l.map Ext.c) (K:=fun t=>Q t S) rfl (fun e=>by simp[hr e]) (by simp[lim];omega) (fun r' h=>hq r' (fun e=>by simpa using h e))
def X2(opq:Bool)(l:List Str)(r1:Rt)(items:List Node)(r2:Rt):Node:=.mk 2 opq ⟨l,r1⟩ items r2 0 [] .nil []
theorem aq{o:Bool}{l:List Str}{items:List Node}{q1 q2:Rt}(hl:l.length≤1048576∧∀s∈l,s.length≤1048576)(hi:items.length≤1048576∧∀x∈items,x.ok)(k1:okR q1 l)(k2:okR q2 items):(X2 o l q1 items q2).ok:=by
 rw[Node.ok_iff];refine⟨by simp[X2,Node.kind,I64],⟨fun e=>k1 (by simp[X2,Node.names] at e;simp[e]),hl⟩,⟨k2,hi.1⟩,hi.2,by simp[X2,Node.size,I64],by simp[X2,Node.exts,Node.er],by simp[X2,Node.target]⟩
@[simp] theorem l4{α:Type}{r:α→Prop}{x:α}:AN r (fun j=>j x)=r x:=rfl
end Go.Av
