/- Parts of the proofs of this seat: abstract values over the model, and what the functions of the program do. No condition. -/
import Derived.Test.YtehadbpejfjheaaGreatDoorM8
import Derived.Test.YtehadbpejfjheaaGreatDoorD0
import Derived.Test.YtehadbpejfjheaaGreatDoorM11
import Derived.Test.YtehadbpejfjheaaGreatDoorY01
import Derived.Test.YtehadbpejfjheaaGreatDoorXSA
import Derived.Test.YtehadbpejfjheaaGreatDoorDExt
import Derived.Test.YtehadbpejfjheaaGreatDoorX03
import Derived.Test.YtehadbpejfjheaaGreatDoorXLess
import Derived.Test.YtehadbpejfjheaaGreatDoorY04b
import Derived.Test.YtehadbpejfjheaaGreatDoorDEq
import Derived.Test.YtehadbpejfjheaaGreatDoorY03a
import Derived.Shelf.Strings.Split
import Derived.Shelf.Lay
import Derived.Shelf.Vars
import Derived.Shelf.LaySoft
import Derived.Shelf.Strings.OnBuilder
import Derived.Shelf.Strings.LastIndex
set_option linter.all false
set_option maxRecDepth 100000
namespace Go.Proofs
open Go.Shelf Go.Av
shelf_lay Lays.n146 Nm 146 at Tryz as Tryz.lays146
end Go.Proofs
namespace Go.Av
open Go.Proofs Go.Shelf
def LA(w0:World):Prop:=∃m,w0.cell? ⟨Tryz.lays146_ren.g 1,0,none⟩=some (.int .i64 m)
theorem Up{W:World}(h:W.ShapedOpen Tryz.prog):LA W:=cell_of_shapedOpen_int (zero:=#[.int .i64 0]) (t:=Dp) h (of_decide_eq_true (by kernel_rfl)) (by kernel_rfl) rfl (by kernel_rfl) (by kernel_rfl) Kk
theorem YB{E:Env}{G:Gh}{w:World}{S:St}(h:Rel E G w S){b o:Nat}{v:Value}(hc:E.w0.cell? ⟨b,o,none⟩=some v):w.cell? ⟨b,o,none⟩=some v:=by
 have hlt:b < E.w0.heap.size:=by
  unfold World.cell? at hc;split at hc
  ·rename_i c e fz hh;exact(Array.getElem?_eq_some_iff.1 hh).1
  ·cases hc
 rw[←hc];exact World.cell?_of_block (w:=E.w0) (h.old b hlt).1
theorem Zp{w0:World}{S:St}{s:Str}(hm:LA w0)(hs:s.length < 4294967281){Q:AV→St→Prop}(hq:Q (.vs 1 ((BI s).map fun s=>[.str s]) .full) S):
  AC w0 Jd [.str s,.str [47]] S Q:=by
 refine AN.of_strs Nh (by kernel_rfl) (by kernel_rfl) fun G w args' hr hl' ha=>?_
 obtain⟨v,u,rfl⟩:∃v u,args'=#[v,u]:=by
  match args',hl' with
  |⟨[v,u]⟩,_=>exact⟨v,u,rfl⟩
 have h0':=ha 0 _ v rfl rfl;have h1':=ha 1 _ u rfl rfl;cases h0';cases h1';obtain⟨m,hm⟩:=hm;refine(Any.strings_Split Tryz.lays146 (by kernel_rfl) ⟨s.toArray⟩ ⟨#[47]⟩ m w (by simpa[ByteArray.size] using hs) (YB hr hm) (by decide)).mono ?_
 rintro e w' ⟨rfl,rfl⟩;have hd:(Lib.splitB ⟨#[47]⟩ 0 (Lib.countB ⟨s.toArray⟩ ⟨#[47]⟩) ⟨s.toArray⟩).map (·.data.toList)=BI s:=by
  rw[Lib.splitB_data];exact RN s
 have hlen:(BI s).length=Lib.countB ⟨s.toArray⟩ ⟨#[47]⟩+1:=by
  rw[←hd,List.length_map];exact Lib.splitB_all ⟨#[47]⟩ (by decide) 0 _ ⟨s.toArray⟩ rfl
 have he:(Lib.splitB ⟨#[47]⟩ 0 (Lib.countB ⟨s.toArray⟩ ⟨#[47]⟩) ⟨s.toArray⟩).map Value.string=(BI s).map fun s=>Value.string ⟨s.toArray⟩:=by
  rw[←hd,List.map_map];rfl
 refine⟨BI s,Tryz.lays146_ren.t 9,?_,?_,hq⟩
 ·rw[hlen]
 ·rw[he]
open Go.Proofs
theorem Hk{α:Type}{s:List α}(h:s≠[]):List.isEmpty s=false:=by
 cases s with
 |nil=>exact absurd rfl h
 |cons _ _=>rfl
theorem U7(x y:UInt8):(x==y)=decide (x.toNat=y.toNat):=by
 rw[Bool.eq_iff_iff];simp[UInt8.toNat_inj]
theorem NP{w0:World}{S:St}{s:Str}(hs:s.length < 4294967281){Q:AV→St→Prop}(hq:Q (.bool (DW s)) S):AC w0 HB [.str s] S Q:=by
 apply Ql;unfold NL;unfold DW at hq
 by_cases c1:s=[]
 ·simpa[c1,AG] using hq
 have e1:=Hk c1
 by_cases c2:s=[46]
 ·simpa[c1,c2,AG] using hq
 by_cases c3:s=[46,46]
 ·simpa[c1,c2,c3,AG] using hq
 by_cases c4:s.length≤64
 ·have c4':(s.length:Int)≤64:=by omega
  have b2:(s==[46])=false:=beq_eq_false_iff_ne.2 c2;have b3:(s==[46,46])=false:=beq_eq_false_iff_ne.2 c3;simp[e1,b2,b3,c4',AG];refine Qq (c0:=47) (c1:=0) (by decide) (by decide) hs ?_
  simpa[e1,c2,c3,c4,bne,b2,b3] using hq
 ·have c4':¬(s.length:Int)≤64:=by omega
  have b2:(s==[46])=false:=beq_eq_false_iff_ne.2 c2;have b3:(s==[46,46])=false:=beq_eq_false_iff_ne.2 c3;simp[e1,b2,b3,c4',AG];simpa[e1,b2,b3,c4,bne] using hq
theorem IY{w0:World}{S:St}{s:Str}(hs:s.length≤1048576){Q:AV→St→Prop}(hq:Q (.bool (DW s)) S):AC w0 GR [.str s] S Q:=by
 apply PE;unfold LY;unfold DW at hq
 by_cases c1:s=[]
 ·simpa[c1,AG] using hq
 have e1:=Hk c1
 by_cases c2:s=[46]
 ·simpa[c1,c2,AG] using hq
 by_cases c3:s=[46,46]
 ·simpa[c1,c2,c3,AG] using hq
 have b2:(s==[46])=false:=beq_eq_false_iff_ne.2 c2;have b3:(s==[46,46])=false:=beq_eq_false_iff_ne.2 c3
 by_cases c4:s.length≤64
 ·have c4':¬64 < (s.length:Int):=by omega
  have hq':Q (.bool (!(s.any fun b=>b==47||b==0))) S:=by simpa[e1,b2,b3,c4,bne] using hq
  simp only[AG];simp[e1,b2,b3,c4',AG];refine B6 s (fun i (_:Unit)=>([.int .i64 i],[])) (fun i _ S'=>S'=S∧(s.any fun b=>b==47||b==0)=((s.drop i).any fun b=>b==47||b==0)) () rfl (by simp) ?_ ?_
  ·rintro i _ S' v b x c hxi hd hc hm ⟨rfl,hx⟩ hv;simp at hv;simp[hv,hc,hxi];rw[hd,List.any_cons] at hx;have u47:(x==47)=decide (x.toNat=47):=U7 x 47;have u0:(x==0)=decide (x.toNat=0):=U7 x 0;rw[u47,u0] at hx
   by_cases h1:x.toNat=47
   ·have h1':(x.toNat:Int)=47:=by omega
    have hx2:(s.any fun b=>b==47||b==0)=true:=by rw[hx];simp[h1]
    rw[hx2] at hq';simpa[h1',h1] using hq'
   have h1':¬(x.toNat:Int)=47:=by omega
   by_cases h2:x.toNat=0
   ·have hx2:(s.any fun b=>b==47||b==0)=true:=by rw[hx];simp[h2]
    rw[hx2] at hq';simpa[h1',h2] using hq'
   ·simp[h1',h2];simp only[h1,h2,decide_false,Bool.false_or] at hx
    try simp (disch:=omega) only[wrap64]
    exact .next c () rfl ⟨rfl,hx⟩
  ·rintro _ S' v b ⟨rfl,hx⟩ hv N;simp at hv;simp[hv];rw[hx] at hq';simpa using hq'
 ·have c4':64 < (s.length:Int):=by omega
  simp[e1,b2,b3,c4',AG];simpa[e1,b2,b3,c4,bne] using hq
set_option maxHeartbeats 1000000 in
theorem JD{w0:World}{S:St}{s:Str}(hm:LA w0)(hs:s.length≤1048576){Q:AV→St→Prop}
  (hq:match Cv s with
   |none=>Q (.tup [.vs 1 [] .nil,.bool false,.int .i64 1]) S
   |some l=>∀r,(r= .nil→l=[])→(r= .nil∨r= .own C3)→Q (.tup [.vs 1 (l.map EH) r,.bool (s.head? ==some 47),.int .i64 0]) S):AC w0 FY [.str s] S Q:=by
 apply Qg;unfold M3;unfold Cv at hq
 by_cases c1:s=[]
 ·simpa[c1,AG] using hq
 have e1:=Hk c1
 by_cases c2:1024 < s.length
 ·have c2':(1024:Int) < s.length:=by omega
  simpa[e1,c1,c2,c2',AG] using hq
 have c2':¬(1024:Int) < s.length:=by omega
 rw[if_neg (by simp[c1,c2])] at hq
 simp[e1,c2',AG];refine Zp hm (by omega) ?_
 simp;have hsl:=PK s;have hap:=Io s;generalize BI s=l at hq hsl hap;refine B6 l (fun i (a:List Str×Rt)=>([.vs 1 (a.1.map EH) a.2,.int .i64 i],[])) (fun i a S'=>S'=S∧Bj l=(Bj (l.drop i)).map (a.1++·)∧a.1.length≤i∧(a.2= .nil∧a.1=[]∨a.2= .own C3)) ([],.nil) rfl ⟨rfl,by simp,by simp,by simp⟩ ?_ ?_
 ·rintro i ⟨acc,ra⟩ S' v b x c hxi hd hc hm' ⟨rfl,hx,hal,hra⟩ hv;simp at hv hx hal hra;have hra':ra≠ .none:=by rcases hra with ⟨rfl,_⟩|rfl<;>simp
  have hrt:FB AM ra=C3:=by rcases hra with ⟨rfl,_⟩|rfl<;>rfl
  have hlim:acc.length+1≤lim:=by unfold lim;have:=hsl.1;omega
  simp[hv,hc,hxi];rw[hd,Bj] at hx
  by_cases h1:x=[]
  ·simp[h1] at hx ⊢
   try simp (disch:=omega) only[wrap64]
   exact .next c (acc,ra) rfl ⟨rfl,hx,by simp;omega,hra⟩
  by_cases h2:x=[46]
  ·simp[h2] at hx ⊢
   try simp (disch:=omega) only[wrap64]
   exact .next c (acc,ra) rfl ⟨rfl,hx,by simp;omega,hra⟩
  have e1:=Hk h1;have b2:(x==[46])=false:=beq_eq_false_iff_ne.2 h2;have hadd:x=[46,46]∨DW x=true→Bj l=(Bj (l.drop (i+1))).map ((acc++[x])++·):=fun h=>by
   rw[hx,if_neg (by simp[h1,h2]),if_pos h,Option.map_map]
   congr 1;funext y;simp
  by_cases h3:x=[46,46]
  ·have hx:=hadd (.inl h3);subst h3;simp[BN,CH,hra',hlim,hrt]
   try simp (disch:=omega) only[wrap64]
   exact .next c (acc++[[46,46]],.own C3) (by simp) ⟨rfl,hx,by simp;omega,.inr rfl⟩
  have b3:(x==[46,46])=false:=beq_eq_false_iff_ne.2 h3;simp[e1,b2,b3,h1,h2,h3];refine NP (by have:=hsl.2 x hm';omega) ?_
  cases h4:DW x with
  |true=>
   have hx:=hadd (.inr h4);simp[BN,CH,hra',hlim,hrt]
   try simp (disch:=omega) only[wrap64]
   exact .next c (acc++[x],.own C3) (by simp) ⟨rfl,hx,by simp;omega,.inr rfl⟩
  |false=>
   rw[if_neg (by simp[h1,h2]),if_neg (by simp[h3,h4])] at hx
   rw[hx] at hq;simpa using hq
 ·rintro⟨acc,ra⟩ S' v b ⟨rfl,hx,hal,hra⟩ hv N;simp at hv hx hal hra;simp[Bj] at hx;rw[hx] at hq;obtain⟨y,tl,rfl⟩:∃y tl,s=y::tl:=by
   cases s with
   |nil=>exact absurd rfl c1
   |cons y tl=>exact⟨y,tl,rfl⟩
  simp[hv];have e47:((y.toNat:Int)=47)=(y.toNat=47):=propext (by omega)
  have:=hq ra (by rcases hra with ⟨rfl,h⟩|rfl<;>simp[*]) (by rcases hra with ⟨rfl,h⟩|rfl<;>simp)
  simpa[U7,e47] using this
def RK(cur:Str):List Str→List Str
 |h::t=>(cur++h)::t
 |[]=>[cur]
theorem Uq(s:Str):RK [] (BI s)=BI s:=by
 cases h:BI s with
 |nil=>exact absurd h (Io s)
 |cons h t=>rfl
theorem VQ(cur s:Str):RK cur (BI (47::s))=cur::BI s:=by simp[BI,RK]
theorem Wu(cur s:Str){c:UInt8}(hc:c≠47):RK cur (BI (c::s))=RK (cur++[c]) (BI s):=by
 cases h:BI s with
 |nil=>exact absurd h (Io s)
 |cons h' t=>simp[BI,hc,h,RK]
set_option maxHeartbeats 1000000 in
theorem Q4{w0:World}{S:St}{s:Str}(hs:s.length≤1048576){Q:AV→St→Prop}
  (hq:match Cv s with
   |none=>Q (.tup [.vs 1 [] .nil,.bool false]) S
   |some l=>∀r,(r= .nil→l=[])→(r= .full∨r= .none)→Q (.tup [.vs 1 (l.map EH) r,.bool true]) S):AC w0 GP [.str s] S Q:=by
 apply PS;unfold LH;unfold Cv at hq
 by_cases c1:s=[]
 ·simpa[c1,AG] using hq
 have e1:=Hk c1;have hpos:0 < s.length:=List.length_pos_iff.2 c1;have c1':¬((s.length:Int) < 1):=by omega
 have c1'':decide ((s.length:Int) < 1)=false:=decide_eq_false c1'
 by_cases c2:1024 < s.length
 ·have c2':decide ((s.length:Int) > 1024)=true:=decide_eq_true (by omega)
  have hq':Q (.tup [.vs 1 [] .nil,.bool false]) S:=by simpa[c1,c2] using hq
  rw[c1'',c2'];simpa[AG] using hq'
 have c2':decide ((s.length:Int) > 1024)=false:=decide_eq_false (by omega)
 rw[if_neg (by simp[c1,c2])] at hq
 rw[c1'',c2'];simp[AG];refine HZ (fun k:Nat×Nat×List Str×Rt=>([.str s,.vs 1 (k.2.2.1.map EH) k.2.2.2,.int .i64 k.1,.int .i64 k.2.1],[])) (fun n k S'=>S'=S∧k.1≤k.2.1∧k.2.1+n=s.length+1∧k.2.2.1.length≤k.2.1∧(k.2.2.2= .full∨k.2.2.2= .own C3)∧
  if k.2.1≤s.length then Bj (BI s)=(Bj (RK ((s.take k.2.1).drop k.1) (BI (s.drop k.2.1)))).map (k.2.2.1++·) else Bj (BI s)=some k.2.2.1) (s.length+1) (0,0,[],.full) rfl ⟨rfl,by simp,by simp,by simp,by simp,by simp[Uq]⟩ ?_
 rintro n ⟨f,k,out,r⟩ S' v b ⟨rfl,hfk,hn,hol,hr,hx⟩ hv;simp only at hfk hn hol hr hx;simp at hv;have hr0:r≠ .none:=by rcases hr with rfl|rfl<;>simp
 have hrt:FB AM r=C3:=by rcases hr with rfl|rfl<;>rfl
 have hlim:out.length+1≤lim:=by unfold lim;omega
 by_cases ck:k≤s.length
 ·rw[if_pos ck] at hx;obtain⟨m,rfl⟩:∃m,n=m+1:=⟨n - 1,by omega⟩
  have hcl:((s.take k).drop f).length≤1024:=by simp;omega
  by_cases hch:∃c,s[k]? =some c∧c≠47
  ·obtain⟨c,h1,h2⟩:=hch;have ck2:k < s.length:=(List.getElem?_eq_some_iff.1 h1).1;have h2':¬(c.toNat:Int)=47:=fun e=>h2 (UInt8.toNat_inj.1 (by show c.toNat=47;omega))
   have hchr:FX (.str s) (.int .i64 k)=some (.int .u8 c.toNat):=by simp[h1]
   simp[hv,ck,ck2,hchr,h2']
   try simp (disch:=omega) only[wrap64]
   refine⟨m,(f,k+1,out,r),by omega,rfl,rfl,by show f≤k+1;omega,by show k+1+m=_;omega,by show out.length≤k+1;omega,hr,?_⟩
   show if k+1≤s.length then _ else _
   rw[if_pos (by omega),hx]
   have hd:s.drop k=c::s.drop (k+1):=by rw[List.drop_eq_getElem_cons ck2];congr 1;exact(List.getElem?_eq_some_iff.1 h1).2
   have ht:(s.take (k+1)).drop f=(s.take k).drop f++[c]:=by
    rw[List.take_add_one,h1,List.drop_append_of_le_length (by simp;omega)]
    rfl
   rw[hd,Wu _ _ h2,ht]
  ·obtain⟨rest,hr1,hr2⟩:∃rest,Bj (BI s)=(Bj ((s.take k).drop f::rest)).map (out++·)∧∀out',Bj (BI s)=(Bj rest).map (out'++·)→
     if k+1≤s.length then Bj (BI s)=(Bj (RK ((s.take (k+1)).drop (k+1)) (BI (s.drop (k+1))))).map (out'++·) else Bj (BI s)=some out':=by
    have hnil:(s.take (k+1)).drop (k+1)=[]:=by rw[List.drop_eq_nil_iff];simp;omega
    by_cases ck2:k < s.length
    ·have h1:s[k]? =some 47:=by
      by_cases e:s[k]? =some 47
      ·exact e
      ·exact absurd ⟨s[k],by simp[ck2],fun e2=>e (by simp[ck2,e2])⟩ hch
     have hd:s.drop k=47::s.drop (k+1):=by rw[List.drop_eq_getElem_cons ck2];congr 1;exact(List.getElem?_eq_some_iff.1 h1).2
     rw[hd,VQ] at hx;refine⟨_,hx,fun out' h=>?_⟩
     rw[if_pos (by omega),hnil,Uq]
     exact h
    ·have hd:s.drop k=[]:=by rw[List.drop_eq_nil_iff];omega
     rw[hd] at hx;refine⟨[],by simpa[BI,RK] using hx,fun out' h=>?_⟩
     rw[if_neg (by omega)]
     simpa[Bj] using h
   clear hx;have fin:∀out' r',(Bj (BI s)=(Bj rest).map (out'++·))→out'.length≤k+1→(r'= .full∨r'= .own C3)→∀S'',S''=S'→Nx (fun k:Nat×Nat×List Str×Rt=>([.str s,.vs 1 (k.2.2.1.map EH) k.2.2.2,.int .i64 k.1,.int .i64 k.2.1],[])) (fun n k S''=>S''=S'∧k.1≤k.2.1∧k.2.1+n=s.length+1∧k.2.2.1.length≤k.2.1∧(k.2.2.2= .full∨k.2.2.2= .own C3)∧
     if k.2.1≤s.length then Bj (BI s)=(Bj (RK ((s.take k.2.1).drop k.1) (BI (s.drop k.2.1)))).map (k.2.2.1++·) else Bj (BI s)=some k.2.2.1) (m+1) ([.str s,.vs 1 (out'.map EH) r',.int .i64 ((k:Int)+1),.int .i64 ((k:Int)+1)],[]) S'':=fun out' r' h1 h2 h3 S'' e=>
    ⟨m,(k+1,k+1,out',r'),by omega,rfl,e,Nat.le_refl _,by show k+1+m=_;omega,h2,h3,hr2 out' h1⟩
   have hgo:(k < s.length∧s[k]? =some 47)∨¬k < s.length:=by
    by_cases ck2:k < s.length
    ·left;refine⟨ck2,?_⟩
     by_cases e:s[k]? =some 47
     ·exact e
     ·exact absurd ⟨s[k],by simp[ck2],fun e2=>e (by simp[ck2,e2])⟩ hch
    ·exact .inr ck2
   have u47:(((47:UInt8).toNat:Int)=47):=rfl;have hcut:Cz (.str s) (some (.int .i64 f)) (some (.int .i64 k))=some (.str ((s.take k).drop f)):=by simp[hfk,ck]
   generalize List.drop f (List.take k s)=cur at hcl hr1 hcut;rcases hgo with ⟨ck2,h1⟩|ck2
   ·have hchr:FX (.str s) (.int .i64 k)=some (.int .u8 (47:UInt8).toNat):=by simp[h1]
    simp[hv,ck,ck2,hchr,hcut]
    by_cases p1:cur=[]
    ·simp[p1]
     try simp (disch:=omega) only[wrap64]
     exact fin out r (by rw[hr1,Bj,if_pos (.inl p1)]) (by omega) hr _ rfl
    by_cases p2:cur=[46]
    ·simp[p2]
     try simp (disch:=omega) only[wrap64]
     exact fin out r (by rw[hr1,Bj,if_pos (.inr p2)]) (by omega) hr _ rfl
    have hadd:cur=[46,46]∨DW cur=true→Bj (BI s)=(Bj rest).map ((out++[cur])++·):=fun h=>by
     rw[hr1,Bj,if_neg (by simp[p1,p2]),if_pos h,Option.map_map]
     congr 1;funext y;simp
    by_cases p3:cur=[46,46]
    ·have hx:=hadd (.inl p3);simp[p3,BN,CH,hr0,hlim,hrt]
     try simp (disch:=omega) only[wrap64]
     rw[p3] at hx;simpa using fin (out++[[46,46]]) (.own C3) hx (by simp;omega) (.inr rfl) _ rfl
    simp[p1,p2,p3];refine IY (by omega) ?_
    cases p4:DW cur with
    |true=>
     have hx:=hadd (.inr p4);simp[BN,CH,hr0,hlim,hrt]
     try simp (disch:=omega) only[wrap64]
     simpa using fin (out++[cur]) (.own C3) hx (by simp;omega) (.inr rfl) _ rfl
    |false=>
     rw[hr1,Bj,if_neg (by simp[p1,p2]),if_neg (by simp[p3,p4])] at hq
     simpa using hq
   ·simp[hv,ck,ck2,hcut]
    by_cases p1:cur=[]
    ·simp[p1]
     try simp (disch:=omega) only[wrap64]
     exact fin out r (by rw[hr1,Bj,if_pos (.inl p1)]) (by omega) hr _ rfl
    by_cases p2:cur=[46]
    ·simp[p2]
     try simp (disch:=omega) only[wrap64]
     exact fin out r (by rw[hr1,Bj,if_pos (.inr p2)]) (by omega) hr _ rfl
    have hadd:cur=[46,46]∨DW cur=true→Bj (BI s)=(Bj rest).map ((out++[cur])++·):=fun h=>by
     rw[hr1,Bj,if_neg (by simp[p1,p2]),if_pos h,Option.map_map]
     congr 1;funext y;simp
    by_cases p3:cur=[46,46]
    ·have hx:=hadd (.inl p3);simp[p3,BN,CH,hr0,hlim,hrt]
     try simp (disch:=omega) only[wrap64]
     rw[p3] at hx;simpa using fin (out++[[46,46]]) (.own C3) hx (by simp;omega) (.inr rfl) _ rfl
    simp[p1,p2,p3];refine IY (by omega) ?_
    cases p4:DW cur with
    |true=>
     have hx:=hadd (.inr p4);simp[BN,CH,hr0,hlim,hrt]
     try simp (disch:=omega) only[wrap64]
     simpa using fin (out++[cur]) (.own C3) hx (by simp;omega) (.inr rfl) _ rfl
    |false=>
     rw[hr1,Bj,if_neg (by simp[p1,p2]),if_neg (by simp[p3,p4])] at hq
     simpa using hq
 ·rw[if_neg ck] at hx;rw[hx] at hq;simp[hv,ck];have:=hq r.strip (by rcases hr with rfl|rfl<;>simp[Rt.strip]) (by rcases hr with rfl|rfl<;>simp[Rt.strip])
  simpa using this
open Go.Proofs
theorem Ma{w0:World}{S:St}{d s:Str}(hn:d.length+s.length≤1000000000){Q:AV→St→Prop}(hq:Q (.str (if d=[47] then d++s else d++47::s)) S):AC w0 HD [.str d,.str s] S Q:=by
 apply Q2;unfold Mi;rw[JU (by omega),JU (by simp;omega)]
 simp;rw[JU (by simp;omega)]
 by_cases c:d=[47]
 ·simpa[c] using hq
 ·simpa[c] using hq
open Go.Proofs
@[simp] theorem Node.c_len(n:Node):n.c.length=7:=by rw[Node.c_eq];rfl
@[simp] theorem Node.c_free(n:Node):(AV.agg n.c).free=true:=by rw[Node.c_eq];simp
@[simp] theorem Node.c_strip(n:Node):(AV.agg n.c).strip= .agg n.c:=by rw[Node.c_eq];simp
@[simp] theorem Node.c_cells(n:Node):(AV.agg n.c).cells=n.c:=rfl
@[simp] theorem Node.c_map(n:Node):n.c.map AV.strip1=n.c:=by rw[Node.c_eq];simp
@[simp] theorem Node.c_free1(n:Node):(∀x∈n.c,x.free1=true)↔True:=by rw[Node.c_eq];simp
@[simp] theorem Node.c_take(n:Node):n.c.take 7=n.c:=by rw[Node.c_eq];rfl
@[simp] theorem cm(S:St)(n:Node):Ap AE S (.ep n.c 0)=some (.agg n.c):=by rw[Node.c_eq];simp
theorem Qt{w0:World}(n:Node):∀{S:St} {Q:AV→St→Prop},n.ok→n.count≤1000000000000→Q (.int .i64 n.count) S→AC w0 GS [.agg n.c] S Q:=by
 induction n using Node.ind with
 |h n ih=>
  intro S Q hok hn hq;rw[Node.c_eq];apply Pr;unfold LM;rw[Node.count_eq] at hn hq;rw[Node.ok_iff] at hok;obtain⟨h1,h2,h3,h4,h5,h6,h7⟩:=hok;simp[AG];refine B6 n.items (fun i (_:Unit)=>([.int .i64 ((1+Node.counts (n.items.take i):Nat):Int),.int .i64 i],[some [.int .i64 n.kind,.bool n.opq,.vs 1 (n.names.l.map EH) n.names.r.strip,.vs 7 (n.items.map Node.c) n.ir.strip,.int .i64 n.size,.vs 2 (n.exts.map Ext.c) n.er.strip,.str n.target]])) (fun i _ S'=>S'=S) () (by simp[Node.counts]) rfl ?_ ?_
  ·rintro i _ S' v b x c hxi hd hc hm rfl hv;simp at hv;simp[hv,hc,hxi];have hk:=Node.counts_take hxi;have hle:=Node.counts_take_le n.items (i+1);refine ih x hm (h4 x hm) (by omega) ?_
   simp
   try simp (disch:=omega) only[wrap64]
   exact .next c () (by rw[hk];simp;omega) rfl
  ·rintro _ S' v b rfl hv N;simp at hv;simp[hv];simpa using hq
theorem RE{w0:World}(n:Node):∀{S:St} {Q:AV→St→Prop},n.ok→n.depth≤1000000000000→Q (.int .i64 n.depth) S→AC w0 GW [.agg n.c] S Q:=by
 induction n using Node.ind with
 |h n ih=>
  intro S Q hok hn hq;rw[Node.c_eq];apply PD;unfold LV;rw[Node.depth_eq] at hn hq;rw[Node.ok_iff] at hok;obtain⟨h1,h2,h3,h4,h5,h6,h7⟩:=hok;simp[AG];refine B6 n.items (fun i (_:Unit)=>([.int .i64 (Node.depths (n.items.take i):Int),.int .i64 i],[some [.int .i64 n.kind,.bool n.opq,.vs 1 (n.names.l.map EH) n.names.r.strip,.vs 7 (n.items.map Node.c) n.ir.strip,.int .i64 n.size,.vs 2 (n.exts.map Ext.c) n.er.strip,.str n.target]])) (fun i _ S'=>S'=S) () (by simp[Node.depths]) rfl ?_ ?_
  ·rintro i _ S' v b x c hxi hd hc hm rfl hv;simp at hv;simp[hv,hc,hxi];have hk:=Node.depths_take hxi;have hle:=Node.depths_take_le n.items (i+1);refine ih x hm (h4 x hm) (by omega) ?_
   simp
   try simp (disch:=omega) only[wrap64]
   by_cases c1:Node.depths (n.items.take i) < x.depth+1
   ·have c2:(Node.depths (n.items.take i):Int) < x.depth+1:=by omega
    simp[c2]
    try simp (disch:=omega) only[wrap64]
    exact .next c () (by rw[hk,Nat.max_eq_right (by omega)];simp) rfl
   ·have c2:¬(Node.depths (n.items.take i):Int) < x.depth+1:=by omega
    simp[c2]
    try simp (disch:=omega) only[wrap64]
    exact .next c () (by rw[hk,Nat.max_eq_left (by omega)];simp) rfl
  ·rintro _ S' v b rfl hv N;simp at hv;simp[hv];simpa using hq
theorem UU{w0:World}{n:Node}{S:St}{Q:AV→St→Prop}(hq:Q (.bool (Dw n)) S):AC w0 Kd [.agg n.c] S Q:=by
 rw[Node.c_eq];apply Sd;unfold OS;have p0:∀{α:Type} {l:List α},l≠[]→0 < l.length:=fun h=>List.length_pos_iff.2 h
 have fin:∀b:Bool,Dw n=b→Q (.bool b) S:=fun b h=>h ▸ hq
 have k12:n.kind=2→n.kind≠1∧n.kind≠3:=fun h=>by omega
 have k13:n.kind=1→n.kind≠3:=fun h=>by omega
 by_cases k2:n.kind=2
 ·have k1:=(k12 k2).1;have k3:=(k12 k2).2
  by_cases s0:n.size=0
  ·by_cases e0:n.exts=[]
   ·simp[k2,s0,e0,AG];exact fin _ (by simp[Dw,k2,s0,e0])
   ·have:=p0 e0;simp[k2,s0,this,AG];exact fin _ (by simp[Dw,k2,s0,e0])
  ·simp[k2,s0,AG];exact fin _ (by simp[Dw,k2,s0])
 ·cases o:n.opq with
  |true=>
   simp[k2,o,AG];exact fin _ (by simp[Dw,k2,o])
  |false=>
   by_cases a0:n.names.l=[]
   ·by_cases i0:n.items=[]
    ·by_cases k1:n.kind=1
     ·have k3:=k13 k1;simp[k1,o,a0,i0,AG];exact fin _ (by simp[Dw,k1,o,a0,i0])
     ·by_cases s0:n.size=0
      ·by_cases e0:n.exts=[]
       ·by_cases k3:n.kind=3
        ·simp[k3,o,a0,i0,s0,e0,AG];exact fin _ (by simp[Dw,k3,o,a0,i0,s0,e0])
        ·simp[k1,k2,k3,o,a0,i0,s0,e0,AG];exact fin _ (by simp[Dw,k1,k2,k3,o,a0,i0,s0,e0])
       ·have:=p0 e0;simp[k1,k2,o,a0,i0,s0,this,AG];exact fin _ (by simp[Dw,k1,k2,e0])
      ·simp[k1,k2,o,a0,i0,s0,AG];exact fin _ (by simp[Dw,k1,k2,s0])
    ·have:=p0 i0;simp[k2,o,a0,this,AG];exact fin _ (by simp[Dw,k2,i0])
   ·have:=p0 a0;simp[k2,o,this,AG];exact fin _ (by simp[Dw,k2,a0])
def Ja(l:List Str)(i:Nat):Option Str:=if i=0 then none else l[i - 1]?
theorem I5{l:List Str}{i:Nat}{x:Str}(h:l[i]? =some x):Ja l (i+1)=some x:=by simp[Ja,h]
theorem On{w0:World}{n:Node}{S:St}(hok:n.ok){Q:AV→St→Prop}(hq:Q (.bool (Fa n)) S):AC w0 Gv [.agg n.c] S Q:=by
 rw[Node.c_eq];apply N3;unfold Jf;rw[Node.ok_iff] at hok;obtain⟨h1,h2,h3,h4,h5,h6,h7⟩:=hok;unfold Fa at hq
 by_cases hl:n.names.l.length=n.items.length
 ·have hl':((n.names.l.length:Int)=(n.items.length:Int)):=by omega
  simp[hl',hl,AG] at hq ⊢;have hlen:=h2.2.1;refine B6 n.names.l (fun i (_:Unit)=>([.int .i64 i],[some [.int .i64 n.kind,.bool n.opq,.vs 1 (n.names.l.map EH) n.names.r.strip,.vs 7 (n.items.map Node.c) n.ir.strip,.int .i64 n.size,.vs 2 (n.exts.map Ext.c) n.er.strip,.str n.target]])) (fun i _ S'=>S'=S∧nchain none n.names.l=nchain (Ja n.names.l i) (n.names.l.drop i)) () rfl (by simp[Ja]) ?_ ?_
  ·rintro i _ S' v b x c hxi hd hc hm ⟨rfl,hx⟩ hv;simp at hv;simp[hv,hc,hxi,←hl];rw[hd,Jz] at hx;refine IY (h2.2.2 x hm) ?_;cases hr:DW x with
   |false=>
    rw[hx,hr] at hq;simpa using hq
   |true=>
    rw[hr] at hx
    by_cases hi:i=0
    ·subst hi;simp[Ja] at hx;simp
     try simp (disch:=omega) only[wrap64]
     exact .next c () rfl ⟨rfl,by rw[I5 hxi];simpa using hx⟩
    ·have hi':(0:Int) < i:=by omega
     have hi0:0 < i:=by omega
     obtain⟨q,hqi⟩:∃q,n.names.l[i - 1]? =some q:=⟨n.names.l[i - 1]'(by omega),by simp[show i - 1 < n.names.l.length by omega]⟩
     have hp:Ja n.names.l i=some q:=by simp[Ja,hi,hqi]
     have hi1:(i:Int) - 1=((i - 1:Nat):Int):=by omega
     rw[hp] at hx;simp[hi',hi0]
     try simp (disch:=omega) only[wrap64]
     rw[hi1];simp[hqi,hxi];refine Sc (by have:=h2.2.2 q (List.mem_of_getElem? hqi);omega) (by have:=h2.2.2 x hm;omega) ?_
     cases hs:slt q x with
     |false=>
      rw[hx] at hq;simp[hs] at hq;simpa using hq
     |true=>
      simp
      try simp (disch:=omega) only[wrap64]
      exact .next c () rfl ⟨rfl,by rw[I5 hxi,hx];simp[hs]⟩
  ·rintro _ S' v b ⟨rfl,hx⟩ hv N;simp at hv;simp[hv];rw[hx,List.drop_length] at hq;simpa[nchain,hl] using hq
 ·have hl':¬((n.names.l.length:Int)=(n.items.length:Int)):=by omega
  simp[hl',hl] at hq ⊢;exact hq
theorem TB{w0:World}{n:Node}{S:St}(hok:n.ok){Q:AV→St→Prop}(hq:Q (.bool (Fa n)) S):AC w0 JC [.agg n.c] S Q:=by
 rw[Node.c_eq];apply Qj;unfold NM;rw[Node.ok_iff] at hok;obtain⟨h1,h2,h3,h4,h5,h6,h7⟩:=hok;unfold Fa at hq;simp[AG];have hlen:=h2.2.1;refine B6 n.names.l (fun i (_:Unit)=>([.int .i64 i],[some [.int .i64 n.kind,.bool n.opq,.vs 1 (n.names.l.map EH) n.names.r.strip,.vs 7 (n.items.map Node.c) n.ir.strip,.int .i64 n.size,.vs 2 (n.exts.map Ext.c) n.er.strip,.str n.target]])) (fun i _ S'=>S'=S∧nchain none n.names.l=nchain (Ja n.names.l i) (n.names.l.drop i)) () rfl (by simp[Ja]) ?_ ?_
 ·rintro i _ S' v b x c hxi hd hc hm ⟨rfl,hx⟩ hv;simp at hv;simp[hv,hc,hxi];rw[hd,Jz] at hx;refine NP (by have:=h2.2.2 x hm;omega) ?_
  cases hr:DW x with
  |false=>
   rw[hx,hr] at hq;simpa using hq
  |true=>
   rw[hr] at hx
   by_cases hi:i=0
   ·subst hi;simp[Ja] at hx;simp
    try simp (disch:=omega) only[wrap64]
    exact .next c () rfl ⟨rfl,by rw[I5 hxi];simpa using hx⟩
   ·have hi':(0:Int) < i:=by omega
    have hi0:0 < i:=by omega
    obtain⟨q,hqi⟩:∃q,n.names.l[i - 1]? =some q:=⟨n.names.l[i - 1]'(by omega),by simp[show i - 1 < n.names.l.length by omega]⟩
    have hp:Ja n.names.l i=some q:=by simp[Ja,hi,hqi]
    have hi1:(i:Int) - 1=((i - 1:Nat):Int):=by omega
    rw[hp] at hx;simp[hi',hi0]
    try simp (disch:=omega) only[wrap64]
    rw[hi1];simp[hqi,hxi];cases hs:slt q x with
    |false=>
     rw[hx] at hq;simp[hs] at hq;simpa[slt,hs] using hq
    |true=>
     simp[show Op.bytesLess q x=true from hs]
     try simp (disch:=omega) only[wrap64]
     exact .next c () rfl ⟨rfl,by rw[I5 hxi,hx];simp[hs]⟩
 ·rintro _ S' v b ⟨rfl,hx⟩ hv N;simp at hv;simp[hv];rw[hx,List.drop_length] at hq;simp[nchain] at hq;have e:((n.names.l.length:Int)=(n.items.length:Int))=(n.names.l.length=n.items.length):=propext (by omega)
  simpa[e] using hq
theorem YA(k:Int):((k=1)=True∧(k=2)=False∧(k=3)=False∧(k=4)=False)∨((k=1)=False∧(k=2)=True∧(k=3)=False∧(k=4)=False)∨((k=1)=False∧(k=2)=False∧(k=3)=True∧(k=4)=False)∨
  ((k=1)=False∧(k=2)=False∧(k=3)=False∧(k=4)=True)∨((k=1)=False∧(k=2)=False∧(k=3)=False∧(k=4)=False):=by
 by_cases h1:k=1
 ·subst h1;simp
 by_cases h2:k=2
 ·subst h2;simp
 by_cases h3:k=3
 ·subst h3;simp
 by_cases h4:k=4
 ·subst h4;simp
 simp[h1,h2,h3,h4]
theorem V8{n:Node}(hok:n.ok):bF n.exts:=by
 rw[Node.ok_iff] at hok;obtain⟨h1,h2,h3,h4,h5,h6,h7⟩:=hok;exact⟨fun x hx=>⟨(h6.2.2 x hx).1,(h6.2.2 x hx).2.1,by have:=(h6.2.2 x hx).2.2;omega⟩,by omega⟩
theorem Uk{w0:World}{n:Node}{S:St}(hok:n.ok){Q:AV→St→Prop}(hq:Q (.bool (Jq n)) S):AC w0 J8 [.agg n.c] S Q:=by
  have hex:=V8 hok;have hen:=@On w0 n S hok;rw[Node.c_eq] at hen ⊢;apply SV;unfold OW;rw[Node.ok_iff] at hok;obtain⟨h1,h2,h3,h4,h5,h6,h7⟩:=hok;have fin:∀b:Bool,Jq n=b→Q (.bool b) S:=fun b h=>h ▸ hq
  have p0:∀{α:Type} {l:List α},l≠[]→¬l.length=0:=fun h e=>h (List.length_eq_zero_iff.1 e)
  obtain⟨bn,hbn⟩:∃bn,bn=(!n.opq&&decide (n.names.l.length=0)&&decide (n.items.length=0)):=⟨_,rfl⟩;obtain⟨be,hbe⟩:∃be,be=(decide (n.size=0)&&decide (n.exts.length=0)):=⟨_,rfl⟩;have hone:Jq n=((decide (n.kind=2)||bn)&&(decide (n.kind=1)||be)&&(decide (n.kind=3)||decide (n.target=[]))&&Dl n):=by rw[Jq,Dw,←hbn,←hbe]
  have hb:(n.opq=true∧bn=false)∨(n.opq=false∧(n.names.l=[])=False∧bn=false)∨(n.opq=false∧(n.names.l=[])=True∧(n.items=[])=False∧bn=false)∨(n.opq=false∧(n.names.l=[])=True∧(n.items=[])=True∧bn=true):=by
    cases o:n.opq with
    |true=>left;exact⟨rfl,by rw[hbn,o];rfl⟩
    | false =>
      right
      by_cases a:n.names.l=[]
      · right
        by_cases i0:n.items=[]
        · right;exact⟨rfl,eq_true a,eq_true i0,by rw[hbn,o,a,i0];rfl⟩
        · left;exact⟨rfl,eq_true a,eq_false i0,by rw[hbn];simp[i0]⟩
      · left;exact⟨rfl,eq_false a,by rw[hbn];simp[a]⟩
  have he:((n.size=0)=False∧be=false)∨((n.size=0)=True∧(n.exts=[])=False∧be=false)∨((n.size=0)=True∧(n.exts=[])=True∧be=true):=by
    by_cases a:n.size=0
    · right
      by_cases b:n.exts=[]
      · right;exact⟨eq_true a,eq_true b,by rw[hbe,a,b];rfl⟩
      · left;exact⟨eq_true a,eq_false b,by rw[hbe];simp[b]⟩
    · left;exact⟨eq_false a,by rw[hbe];simp[a]⟩
  clear hbn hbe;have go3:∀(P':AV→St→Prop),(∀(r2:AV) (c:Bool),c=(Cv n.target).isSome→P' (.tup [r2,.bool c]) S)→AC w0 GP [.str n.target] S P':=fun P' hP=>by
    refine Q4 h7 ?_;cases hsp:Cv n.target with
    |none=>exact hP _ _ (by rw[hsp];rfl)
    |some l=>exact fun r _ _=>hP _ _ (by rw[hsp];rfl)
  rcases hb with ⟨o,hbn⟩|⟨o,a0,hbn⟩|⟨o,a0,i0,hbn⟩|⟨o,a0,i0,hbn⟩<;>rcases he with ⟨s0,hbe⟩|⟨s0,e0,hbe⟩|⟨s0,e0,hbe⟩
  all_goals (
    rw[hbn,hbe] at hone;rw[o] at hen;simp only[AG]
    (first|simp[o,s0,a0,i0,e0]|simp[o,s0,a0,i0]|simp[o,s0,a0,e0]|simp[o,s0,a0]|simp[o,s0,e0]|simp[o,s0])
    )
  all_goals (
    obtain hk|hk|hk|hk|hk:=YA n.kind
    all_goals (
      obtain⟨q1,q2,q3,q4⟩:=hk;obtain⟨ct,tg⟩:∃ct:Prop,(n.target=[])=ct∧(ct=True∨ct=False):=⟨_,rfl,by by_cases tg:n.target=[];(left;exact eq_true tg);(right;exact eq_false tg)⟩
      obtain⟨tg,hct⟩:=tg;rcases hct with hct|hct
      all_goals (
        rw[hct] at tg;simp only[q1,q2,q3,q4,tg,decide_true,decide_false,QS,Ny]
        first
          |exact fin _ (by simp[hone,Dl,q1,q2,q3,q4,tg])
          |(simp;exact fin _ (by simp[hone,Dl,q1,q2,q3,q4,tg]))
          | (refine go3 _ (fun r2 c hc => ?_)
             simp;exact fin _ (by simp[hone,Dl,q1,q2,q3,q4,tg]))
          | (refine go3 _ (fun r2 c hc => ?_)
             have kb:Dl n=(c&&decide (n.target.length≤256)):=by rw[hc,Dl];simp only[q1,q2,q3,if_false,if_true]
             cases c with
             |false=>simp;exact fin _ (by rw[hone,kb];simp)
             |true=>simp;exact fin _ (by rw[hone,kb];simp[q1,q2,q3,q4,tg]<;>omega))
          |(simp;refine Q5 h5 hex ?_;simp;exact fin _ (by simp[hone,Dl,q1,q2,q3,q4,tg]))
          |(simp;refine hen ?_;simp;exact fin _ (by simp[hone,Dl,q1,q2,q3,q4,tg])))))
theorem Tp{w0:World}(n:Node):∀{S:St} {Q:AV→St→Prop},n.ok→Q (.bool n.allB) S→AC w0 IA [.agg n.c] S Q:=by
 induction n using Node.ind with
 |h n ih=>
  intro S Q hok hq;have hone:=@Uk w0 n S hok;rw[Node.c_eq] at hone ⊢;apply TF;unfold OF;rw[Node.all_eq] at hq;rw[Node.ok_iff] at hok;obtain⟨h1,h2,h3,h4,h5,h6,h7⟩:=hok;simp[AG];refine B6 n.items (fun i (_:Unit)=>([.int .i64 i],[some [.int .i64 n.kind,.bool n.opq,.vs 1 (n.names.l.map EH) n.names.r.strip,.vs 7 (n.items.map Node.c) n.ir.strip,.int .i64 n.size,.vs 2 (n.exts.map Ext.c) n.er.strip,.str n.target]])) (fun i _ S'=>S'=S∧Node.allsB n.items=Node.allsB (n.items.drop i)) () (by simp) (by simp) ?_ ?_
  ·rintro i _ S' v b x c hxi hd hc hm ⟨rfl,hx⟩ hv;simp at hv;simp[hv,hc,hxi];rw[Node.alls_drop hxi] at hx;refine ih x hm (h4 x hm) ?_;cases ha:x.allB with
   |false=>
    rw[hx,ha] at hq;simpa using hq
   |true=>
    rw[ha] at hx;simp
    try simp (disch:=omega) only[wrap64]
    exact .next c () rfl ⟨rfl,by simpa using hx⟩
  ·rintro _ S' v b ⟨rfl,hx⟩ hv N;simp at hv;simp[hv];rw[hx,List.drop_length] at hq;exact hone (by simpa[Node.allsB] using hq)
theorem LK{w0:World}{n:Node}{S:St}(hok:n.ok)(hc:n.count≤1000000000000)(hd:n.depth≤1000000000000){Q:AV→St→Prop}(hq:Q (.bool (C2 n)) S):AC w0 GT [.agg n.c] S Q:=by
 have h1:=@Tp w0 n S;have h2:=@Qt w0 n S;have h3:=@RE w0 n S;rw[Node.c_eq] at h1 h2 h3 ⊢;apply PY;unfold LO;unfold C2 at hq
 by_cases k:n.kind=2
 ·have k':(n.kind=2)=True:=eq_true k;simp only[k',decide_true,Bool.true_and] at hq;simp[k',AG];refine h1 hok ?_;cases ha:n.allB with
  |false=>
   rw[ha] at hq;simpa using hq
  |true=>
   rw[ha] at hq;simp;refine h2 hok hc ?_;simp
   by_cases hcc:n.count≤4096
   ·have hcc':(n.count:Int)≤4096:=by omega
    simp[hcc',hcc] at hq ⊢;refine h3 hok hd ?_;have e:((n.depth:Int)≤15)=(n.depth≤15):=propext (by omega)
    simpa[e] using hq
   ·have hcc':¬(n.count:Int)≤4096:=by omega
    simp[hcc',hcc] at hq ⊢;exact hq
 ·have k':(n.kind=2)=False:=eq_false k;simp only[k',decide_false,Bool.false_and] at hq;simp[k',AG];exact hq
open Go.Proofs
theorem SQ{w0:World}(hm0:LA w0)(n:Node):∀{S:St} {Q:AV→St→Prop} {id d:Nat} {left:Int},n.ok→S[id]? =some (.cells [.int .i64 left] Dp)→d≤1000→0≤left→left≤1000000000000→
  Q (.bool (n.rgt d left).1) (S.set id (.cells [.int .i64 (n.rgt d left).2] Dp))→AC w0 HK [.agg n.c,.int .i64 d,.ptr id 0] S Q:=by
 induction n using Node.ind with
 |h n ih=>
  intro S Q id d left hok hS hd hl1 hl2 hq;have hex:=V8 hok;have hz:=@UU w0 n;have hn:=fun S=>@TB w0 n S hok
  rw[Node.c_eq] at hz hn ⊢;apply RH;unfold NK;rw[Node.rgt_eq] at hq;rw[Node.ok_iff] at hok;obtain⟨h1,h2,h3,h4,h5,h6,h7⟩:=hok;have hS1:=A9 (o':=.cells [.int .i64 (left - 1)] Dp) hS;simp[CA hS,AG]
  try simp (disch:=omega) only[wrap64]
  simp[CF hS];generalize hS':S.set id (.cells [.int .i64 (left - 1)] Dp)=S' at hS1 ⊢;have hback:∀v,S'.set id (.cells [.int .i64 v] Dp)=S.set id (.cells [.int .i64 v] Dp):=fun v=>by rw[←hS',List.set_set]
  simp[CA hS1]
  by_cases c1:left - 1 < 0
  ·rw[if_pos (.inl c1),hS'] at hq;have c1':left < 1:=by omega
   simp[c1,c1'];exact hq
  have c1':¬left < 1:=by omega
  by_cases c2:15 < d
  ·rw[if_pos (.inr (.inl c2)),hS'] at hq;have c2':(15:Int) < d:=by omega
   simp[c1,c1',c2,c2'];exact hq
  have c2':¬(15:Int) < d:=by omega
  simp[c1,c1',c2,c2'];refine hz ?_;cases c3:Dw n with
  |false=>
   rw[if_pos (by simp[c3]),hS'] at hq
   simp;exact hq
  |true=>
   rw[if_neg (by simp[c1,c2,c3])] at hq
   simp;obtain hk|hk|hk|hk|hk:=YA n.kind
   all_goals (
    obtain⟨q1,q2,q3,q4⟩:=hk;simp only[q1,q2,q3,q4,decide_true,decide_false,QS,Ny];simp only[q2,if_false,if_true] at hq)
   ·rw[hS'] at hq;refine Py h5 hex ?_;simpa[Dl,q1] using hq
   ·refine hn _ ?_;cases c5:Fa n with
    |false=>
     rw[c5] at hq;simp only[Bool.false_eq_true,if_false,hS'] at hq;simpa using hq
    |true=>
     rw[c5] at hq;simp only[if_true] at hq;simp;refine B6 n.items (fun i (_:Unit)=>([.int .i64 i],[])) (fun i _ S2=>∃lf:Int,0≤lf∧lf≤left∧S2=S.set id (.cells [.int .i64 lf] Dp)∧Node.rgts n.items (d+1) (left - 1)=Node.rgts (n.items.drop i) (d+1) lf) () rfl ⟨left - 1,by omega,by omega,hS'.symm,by simp⟩ ?_ ?_
     ·rintro i _ S2 v b x c hxi hd2 hc hm ⟨lf,l1,l2,rfl,hx⟩ hv;simp at hv;simp[hv,hc,hxi];have hS2:=A9 (o':=.cells [.int .i64 lf] Dp) hS;rw[Node.rgts_drop hxi] at hx;obtain⟨r1,r2,r3,r4⟩:=x.rgt_spec (d+1) lf l1;have e1:((d:Int)+1)=((d+1:Nat):Int):=by omega
      rw[e1];refine ih x hm (h4 x hm) hS2 (by omega) l1 (by omega) ?_
      rw[List.set_set];cases hb:(x.rgt (d+1) lf).1 with
      |false=>
       rw[hx,hb] at hq;simpa using hq
      |true=>
       rw[hb] at hx;simp
       try simp (disch:=omega) only[wrap64]
       refine .next c () rfl ⟨(x.rgt (d+1) lf).2,?_,by omega,rfl,by simpa using hx⟩
       have:=r2 hb;rw[hb] at r1;have r1:=r1.symm;simp only[Bool.and_eq_true,decide_eq_true_eq] at r1;omega
     ·rintro _ S2 v b ⟨lf,l1,l2,rfl,hx⟩ hv N;simp at hv;simp[hv];rw[hx,List.drop_length] at hq;simpa[Node.rgts] using hq
   ·rw[hS'] at hq;refine JD hm0 h7 ?_;have kb:Dl n=((Cv n.target).isSome&&decide (n.target.length≤256)):=by rw[Dl];simp only[q1,q2,q3,if_false,if_true]
    rw[kb] at hq;cases hsp:Cv n.target with
    |none=>
     rw[hsp] at hq;simpa using hq
    |some l=>
     rw[hsp] at hq;intro r _ _;have e:((n.target.length:Int)≤256)=(n.target.length≤256):=propext (by omega)
     simp[e];simpa using hq
   ·rw[hS'] at hq;have kb:Dl n=true:=by rw[Dl];simp only[q1,q2,q3,q4,if_false,if_true]
    rwa [kb] at hq
   ·rw[hS'] at hq;have kb:Dl n=false:=by rw[Dl];simp only[q1,q2,q3,q4,if_false,if_true]
    rwa [kb] at hq
theorem Sn{w0:World}(hm0:LA w0){n:Node}{S:St}(hok:n.ok){Q:AV→St→Prop}(hq:∀S',Sx S S'→Q (.bool (C2 n)) S'):AC w0 JE [.agg n.c] S Q:=by
 have h1:=@SQ w0 hm0 n (S++[.cells [.int .i64 4096] Dp]);rw[←Vl] at hq;rw[Node.c_eq] at h1 ⊢;apply Qc;unfold Mm;have hS:(S++[Obj.cells [.int .i64 0] Dp])[S.length]? =some (.cells [.int .i64 0] Dp):=by simp
 simp[CF hS,AG]
 by_cases k:n.kind=2
 ·have k':(n.kind=2)=True:=eq_true k;simp only[k',decide_true,Bool.true_and] at hq;simp[k'];refine h1 (d:=0) (left:=4096) hok (by simp) (by omega) (by omega) (by omega) ?_
  simp;exact hq _ (Sx.app _ _)
 ·have k':(n.kind=2)=False:=eq_false k;simp only[k',decide_false,Bool.false_and] at hq;simp[k'];exact hq _ (Sx.app _ _)
open Go.Proofs
theorem Node.c_eq'(n:Node):n.c=[.int .i64 n.kind,.bool n.opq,.vs 1 (n.names.l.map EH) n.names.r.strip,.vs 7 (n.items.map Node.c) n.ir.strip,.int .i64 n.size,.vs 2 (n.exts.map Ext.c) n.er.strip,.str n.target]:=n.c_eq
@[simp] theorem Node.c_drop(n:Node):n.c.drop 7=[]:=by rw[Node.c_eq];rfl
@[simp] theorem Node.zero_c(n:Node):7=n.c.length:=by simp
def H4(l:List Ext):Nat:=(l.map fun x=>x.data.length).sum
theorem Ws(l:List Ext){i:Nat}{x:Ext}(h:l[i]? =some x):H4 (l.take (i+1))=H4 (l.take i)+x.data.length:=by
 rw[List.take_succ,h];simp[H4]
theorem Pt{n:Nat}:∀(l:List Ext),(∀x∈l,x.data.length≤n)→H4 l≤l.length*n
 |[],_=>by simp[H4]
 |x::l,h=>by
  have h1:=Pt l fun y hy=>h y (by simp[hy])
  have h2:=h x (by simp)
  simp only[H4,List.map_cons,List.sum_cons,List.length_cons,Nat.add_mul] at h1 ⊢;omega
theorem TD(l:List Ext)(i:Nat):H4 (l.take i)≤H4 l:=by
 have:H4 (l.take i++l.drop i)=H4 (l.take i)+H4 (l.drop i):=by simp only[H4,List.map_append,List.sum_append]
 rw[List.take_append_drop] at this;omega
theorem Node.own_le{n:Node}(hok:n.ok):n.own≤3000000000000∧H4 n.exts≤1099511627776:=by
 rw[Node.ok_iff] at hok;obtain⟨h1,h2,h3,h4,h5,h6,h7⟩:=hok;have h8:=Pt (n:=1048576) n.exts (fun x hx=>(h6.2.2 x hx).2.2)
 have h9:n.exts.length*1048576≤1048576*1048576:=Nat.mul_le_mul_right _ h6.2.1;have h10:=h2.2.1;have h11:=h6.2.1;unfold Node.own;unfold H4 at h8 ⊢;exact⟨by omega,by omega⟩
theorem Q0{w0:World}(n:Node):∀{S:St} {Q:AV→St→Prop} {id:Nat} {d left:Int},n.ok→S[id]? =some (.cells [.int .i64 left] Dp)→-1000000≤d→d≤1000000→0≤left→left≤1000000000→
  Q (.bool (n.sml d left).1) (S.set id (.cells [.int .i64 (n.sml d left).2] Dp))→AC w0 GO [.agg n.c,.int .i64 d,.ptr id 0] S Q:=by
 induction n using Node.ind with
 |h n ih=>
  intro S Q id d left hok hS hd1 hd2 hl1 hl2 hq;have hown:=Node.own_le hok;rw[Node.c_eq];apply QK;unfold Ld;rw[Node.sml_eq] at hq;rw[Node.ok_iff] at hok;obtain⟨h1,h2,h3,h4,h5,h6,h7⟩:=hok;have hl2':=h2.2.1;have hl6':=h6.2.1;simp[CA hS,AG]
  try simp (disch:=omega) only[wrap64]
  simp[CF hS];have e0:∀i,H4 (n.exts.take i)≤H4 n.exts:=TD n.exts;have how:n.own=1+n.names.l.length+n.exts.length+H4 n.exts+n.target.length:=rfl;refine B6 n.exts (fun i (_:Unit)=>([.int .i64 i],[])) (fun i _ S2=>S2=S.set id (.cells [.int .i64 (left - (1+n.names.l.length+n.exts.length) - H4 (n.exts.take i))] Dp)) () rfl (by simp[H4]) ?_ ?_
  ·rintro i _ S2 v b x c hxi hd hc hm rfl hv;simp at hv;have hS2:=A9 (o':=.cells [.int .i64 (left - (1+n.names.l.length+n.exts.length) - H4 (n.exts.take i))] Dp) hS;have e1:=e0 i;have e2:=e0 (i+1);have e3:=(h6.2.2 x hm).2.2;simp[hv,hc,hxi,CA hS2]
   try simp (disch:=omega) only[wrap64]
   simp[CF hS2]
   try simp (disch:=omega) only[wrap64]
   refine .next c () rfl ?_;rw[Ws _ hxi];congr 4;omega
  ·rintro _ S2 v b rfl hv N;simp at hv;have hS2:=A9 (o':=.cells [.int .i64 (left - (1+n.names.l.length+n.exts.length) - H4 (n.exts.take n.exts.length))] Dp) hS;rw[List.take_length] at hS2;have e1:=e0 n.exts.length;simp[hv,CA hS2]
   try simp (disch:=omega) only[wrap64]
   simp[CF hS2];have e4:left - (1+(n.names.l.length:Int)+(n.exts.length:Int)) - (H4 n.exts:Int) - (n.target.length:Int)=left - n.own:=by omega
   rw[e4];have hS3:=A9 (o':=.cells [.int .i64 (left - n.own)] Dp) hS;simp[CA hS3]
   by_cases c1:left - n.own < 0
   ·rw[if_pos (.inl c1)] at hq;have c1':left < n.own:=by omega
    simp[c1,c1'];exact hq
   have c1':¬left < n.own:=by omega
   by_cases c2:d < 0
   ·rw[if_pos (.inr c2)] at hq;simp[c1,c1',c2];exact hq
   rw[if_neg (by simp[c1,c2])] at hq
   simp[c1,c1',c2];refine B6 n.items (fun i (_:Unit)=>([.int .i64 i],[])) (fun i _ S2=>∃lf:Int,0≤lf∧lf≤left∧S2=S.set id (.cells [.int .i64 lf] Dp)∧Node.smls n.items (d - 1) (left - n.own)=Node.smls (n.items.drop i) (d - 1) lf) () rfl ⟨left - n.own,by omega,by omega,rfl,by simp⟩ ?_ ?_
   ·rintro i _ S2 v b x c hxi hd3 hc hm ⟨lf,l1,l2,rfl,hx⟩ hv;simp at hv;simp[hv,hc,hxi];have hS2:=A9 (o':=.cells [.int .i64 lf] Dp) hS;rw[Node.smls_drop hxi] at hx
    try simp (disch:=omega) only[wrap64]
    refine ih x hm (h4 x hm) hS2 (by omega) (by omega) l1 (by omega) ?_
    rw[List.set_set];cases hb:(x.sml (d - 1) lf).1 with
    |false=>
     rw[hx,hb] at hq;simpa using hq
    |true=>
     rw[hb] at hx;simp
     try simp (disch:=omega) only[wrap64]
     obtain⟨r1,r2,r3⟩:=x.sml_spec (d - 1) lf l1 hb;exact .next c () rfl ⟨(x.sml (d - 1) lf).2,r2,by omega,rfl,by simpa using hx⟩
   ·rintro _ S2 v b ⟨lf,l1,l2,rfl,hx⟩ hv N;simp at hv;simp[hv];rw[hx,List.drop_length] at hq;simpa[Node.smls] using hq
theorem Lb{w0:World}{n:Node}{S:St}(hok:n.ok){Q:AV→St→Prop}(hq:∀S',Sx S S'→Q (.int .i64 (if n.small=true then 1 else 0)) S'):AC w0 GV [.agg n.c] S Q:=by
 have h1:=@Q0 w0 n (S++[.cells [.int .i64 400] Dp]);unfold Node.small at hq;rw[Node.c_eq] at h1 ⊢;apply P9;unfold LW;have hS:(S++[Obj.cells [.int .i64 0] Dp])[S.length]? =some (.cells [.int .i64 0] Dp):=by simp
 simp[CF hS];refine h1 (d:=30) (left:=400) hok (by simp) (by omega) (by omega) (by omega) (by omega) ?_
 simp;have hq:=hq _ (Sx.app S [.cells [.int .i64 (n.sml 30 400).2] Dp]);cases hb:(n.sml 30 400).1 with
 |false=>rw[hb] at hq;simpa using hq
 |true=>rw[hb] at hq;simpa using hq
theorem VV{w0:World}{S:St}{a b:Str}{Q:AV→St→Prop}(hq:Q (.bool (slt a b)) S):AC w0 Ff [.str a,.str b] S Q:=by
 apply L1;unfold IK;apply LD;unfold HX;simp[AG];exact hq
theorem QW{w0:World}{S:St}{l:List Str}{r:Rt}{s:Str}(hl:l.length≤1000000000)(hp:l.Pairwise (fun a b=>slt a b=true)){Q:AV→St→Prop}
  (hq:∀k:Nat,k≤l.length→(∀i x,i < k→l[i]? =some x→slt x s=true)→(∀i x,k≤i→l[i]? =some x→slt x s=false)→Q (.tup [.int .i64 k,.bool (decide (l[k]? =some s))]) S):
  AC w0 CI [.vs 1 (l.map EH) r,.str s] S Q:=by
 apply Eh;unfold Cx;refine ED (fun j=>∀k:Nat,k≤l.length→(∀i x,i < k→l[i]? =some x→slt x s=true)→(∀i x,k≤i→l[i]? =some x→slt x s=false)→j (.int .i64 k) S) (fun k hk h1 h2=>?_) (fun j hj=>?_)
 ·have hq:=hq k hk h1 h2
  by_cases c:k < l.length
  ·obtain⟨x,hx,_,hc,_⟩:=UD c;have gx:l[k]=x:=(List.getElem?_eq_some_iff.1 hx).2;have e1:((k:Int) < (l.length:Int))=True:=by simp;exact c
   rw[hx] at hq;have e2:decide (some x=some s)=decide (x=s):=by simp
   rw[e2] at hq;have e3:(List.map EH l)[k]? =some (EH x):=by simp[hx]
   simp[AG,c,hx,gx]
   by_cases e:x=s
   ·subst e;simp at hq ⊢;exact hq
   ·simp[e] at hq ⊢;refine JT ?_;unfold F3;simp;exact hq
  ·have e1:l[k]? =none:=by simp;omega
   rw[e1] at hq;simp[AG,c] at hq ⊢;exact hq
 ·refine HZ (fun p:Nat×Nat=>([.int .i64 p.1,.int .i64 p.2],[])) (fun m p S'=>S'=S∧m=p.2 - p.1∧p.1≤p.2∧p.2≤l.length∧(∀i x,i < p.1→l[i]? =some x→slt x s=true)∧(∀i x,p.2≤i→l[i]? =some x→slt x s=false)) l.length (0,l.length) (by simp) ⟨rfl,rfl,by simp,by simp,by intro i x h;omega,by
   intro i x h1 h2;have:=(List.getElem?_eq_some_iff.1 h2).1;omega⟩ ?_
  rintro m ⟨a,b⟩ S' v bx ⟨rfl,rfl,h1,h2,h3,h4⟩ hv;simp at hv h1 h2 h3 h4;obtain⟨hv1,hv2⟩:=hv;simp[hv1,hv2]
  by_cases c:a < b
  ·have e1:IntKind.i64.wrap ((a:Int)+b)=((a+b:Nat):Int):=by rw[wrap64 (by omega) (by omega)];omega
   have e2:IntKind.u64.wrap ((a+b:Nat):Int)=((a+b:Nat):Int):=by
    simp[IntKind.wrap,IntKind.bits,IntKind.signed];omega
   have e3:AJ .shr (.int .u64 ((a+b:Nat):Int)) (.int .u64 1)=some (.int .u64 (((a+b) / 2:Nat):Int)):=by
    simp[AJ,IntKind.bits];rw[Int.fdiv_eq_ediv_of_nonneg _ (by omega)]
   have hm:(a+b) / 2 < l.length:=by omega
   have e4:IntKind.i64.wrap (((a+b) / 2:Nat):Int)=(((a+b) / 2:Nat):Int):=wrap64 (by omega) (by omega)
   obtain⟨k,hk⟩:∃k,k=(a+b) / 2:=⟨_,rfl⟩;obtain⟨x,hx,_,hc,_⟩:=UD hm;rw[←hk] at e3 e4 hx hm;have gx:l[k]=x:=(List.getElem?_eq_some_iff.1 hx).2;simp only[e1];simp[c];have e2':IntKind.u64.wrap ((a:Int)+b)=(a:Int)+b:=by rw[show (a:Int)+b=((a+b:Nat):Int) by omega];exact e2
   have e3':AJ .shr (.int .u64 ((a:Int)+b)) (.int .u64 1)=some (.int .u64 (k:Int)):=by rw[show (a:Int)+b=((a+b:Nat):Int) by omega];exact e3
   simp[e2',e3',e4,hx];refine VV ?_;cases hs:slt x s with
   |true=>
    simp
    try simp (disch:=omega) only[wrap64]
    refine⟨_,(k+1,b),by show b - (k+1) < b - a;omega,rfl,rfl,rfl,by show k+1≤b;omega,h2,?_,h4⟩
    intro i y hi hy
    by_cases e:i=k
    ·subst e;rw[hx] at hy;cases hy;exact hs
    ·have hi':i < k:=by simp at hi;omega
     have:=List.pairwise_iff_getElem.1 hp i k (List.getElem?_eq_some_iff.1 hy).1 hm hi';rw[(List.getElem?_eq_some_iff.1 hy).2,gx] at this;exact Il this hs
   |false=>
    simp;refine⟨_,(a,k),by show k - a < b - a;omega,rfl,rfl,rfl,by show a≤k;omega,by show k≤l.length;omega,h3,?_⟩
    intro i y hi hy;simp at hi
    by_cases e:i=k
    ·subst e;rw[hx] at hy;cases hy;exact hs
    ·have hi':k < i:=by omega
     have:=List.pairwise_iff_getElem.1 hp k i hm (List.getElem?_eq_some_iff.1 hy).1 hi';rw[(List.getElem?_eq_some_iff.1 hy).2,gx] at this;cases h5:slt y s with
     |false=>rfl
     |true=>have:=Il this h5;rw[hs] at this;cases this
  ·have:a=b:=by omega
   subst this;simp[c];exact hj a h2 h3 h4
theorem Te:∀(l:List Str) (p:Option Str),nchain p l=true→l.Pairwise (fun a b=>slt a b=true)∧(∀q,p=some q→∀x∈l,slt q x=true)∧∀x∈l,DW x=true
 |[],p,h=>by simp
 |s::l,p,h=>by
  rw[Jz] at h;simp only[Bool.and_eq_true] at h;obtain⟨⟨h1,h2⟩,h3⟩:=h;obtain⟨k1,k2,k3⟩:=Te l (some s) h3;refine⟨List.pairwise_cons.2 ⟨k2 s rfl,k1⟩,fun q e x hx=>?_,fun x hx=>?_⟩
  ·subst e;rcases List.mem_cons.1 hx with rfl|hx
   ·exact h2
   ·exact Il h2 (k2 s rfl x hx)
  ·rcases List.mem_cons.1 hx with rfl|hx
   ·exact h1
   ·exact k3 x hx
def Node.none:Node:=.mk 0 false ⟨[],.nil⟩ [] .nil 0 [] .nil []
theorem Node.none_c:Node.none.c=[.int .i64 0,.bool false,.vs 1 [] .nil,.vs 7 [] .nil,.int .i64 0,.vs 2 [] .nil,.str []]:=by rw[Node.c_eq];rfl
def Node.find(n:Node)(s:Str):Option Node:=(n.names.l.findIdx? (fun x=>decide (x=s))).bind (n.items[·]?)
theorem Z5{l:List Str}{s:Str}{k:Nat}(hp:l.Pairwise (fun a b=>slt a b=true))(h1:∀i x,i < k→l[i]? =some x→slt x s=true)(h2:∀i x,k≤i→l[i]? =some x→slt x s=false):
  l.findIdx? (fun x=>decide (x=s))=if l[k]? =some s then some k else Option.none:=by
 split
 ·rename_i h;rw[List.findIdx?_eq_some_iff_getElem];obtain⟨hk,he⟩:=List.getElem?_eq_some_iff.1 h;refine⟨hk,by simp[he],fun j hj=>?_⟩
  have:=h1 j _ hj (List.getElem?_eq_getElem (by omega))
  simp;intro e;rw[e,Hb] at this;cases this
 ·rename_i h;rw[List.findIdx?_eq_none_iff];intro x hx;simp;intro e;subst e;obtain⟨i,hi⟩:=List.getElem?_of_mem hx
  by_cases c:i < k
  ·have:=h1 i _ c hi;rw[Hb] at this;cases this
  ·by_cases e:i=k
   ·subst e;exact h hi
   ·have hil:=(List.getElem?_eq_some_iff.1 hi).1;have hkl:k < l.length:=by omega
    have h4:=h2 k l[k] (by omega) (List.getElem?_eq_getElem hkl)
    have h5:=List.pairwise_iff_getElem.1 hp k i hkl hil (by omega)
    rw[(List.getElem?_eq_some_iff.1 hi).2,h4] at h5;cases h5
theorem QC{n:Node}(h:Fa n=true):nchain Option.none n.names.l=true∧n.names.l.length=n.items.length:=by
 simpa[Fa] using h
open Go.Proofs
def okR{α:Type}(r:Rt)(l:List α):Prop:=r.strip= .nil→l=[]
theorem YG{α:Type}{l:List α}:okR .none l:=fun e=>by cases e
theorem PM{α:Type}{l:List α}:okR .full l:=fun e=>by cases e
theorem SZ{α:Type}:okR .nil ([]:List α):=fun _=>rfl
theorem N1{ei:TI}{sz:Nat}(hsz:ei.size=sz){es:List (List AV)}{r:Rt}{S:St}(hr:okR r es)(hl:es.length≤lim){K:AV→Prop}(hq:∀r',okR r' es→K (.vs sz es r')):
  AA (GC .slice .eql (.vs sz es r.strip) (.vs sz [] .nil)) fun t4=>ifK t4 (K (.vs sz [] .nil)) (AA (BN ei S (.vs sz [] .full) (.vs sz es r.strip)) K):=by
 simp only[GC,eqA,Option.map_some,E5]
 by_cases c:r.strip= .nil
 ·have e:=hr c;subst e;have:(r.strip==Rt.nil)=true:=by rw[c];rfl
  rw[this,QS];exact hq .nil SZ
 ·have:(r.strip==Rt.nil)=false:=by cases h:r.strip<;>simp_all
  rw[this,Ny];subst hsz
  by_cases e:es=[]
  ·subst e;simp[BN,CH];exact hq .full PM
  ·simp[BN,CH,e,hl];exact hq _ (fun e=>by cases e)
theorem N9{w0:World}{S:St}{l:List Str}{r:Rt}(hr:okR r l)(hl:l.length≤100000000){Q:AV→St→Prop}(hq:∀r',okR r' l→Q (.vs 1 (l.map EH) r') S):AC w0 CK [.vs 1 (l.map EH) r] S Q:=by
 apply Fy;unfold Dt;exact N1 (ei:=AM) (sz:=1) (es:=l.map EH) (K:=fun t=>Q t S) rfl (fun e=>by simp[hr e]) (by simp[lim];omega) (fun r' h=>hq r' (fun e=>by simpa using h e))
theorem TG{w0:World}{S:St}{l:List Node}{r:Rt}(hr:okR r l)(hl:l.length≤100000000){Q:AV→St→Prop}(hq:∀r',okR r' l→Q (.vs 7 (l.map Node.c) r') S):AC w0 CW [.vs 7 (l.map Node.c) r] S Q:=by
 apply E0;unfold DM;exact N1 (ei:=AE) (sz:=7) (es:=l.map Node.c) (K:=fun t=>Q t S) rfl (fun e=>by simp[hr e]) (by simp[lim];omega) (fun r' h=>hq r' (fun e=>by simpa using h e))
theorem UN{w0:World}{S:St}{l:List Ext}{r:Rt}(hr:okR r l)(hl:l.length≤100000000){Q:AV→St→Prop}(hq:∀r',okR r' l→Q (.vs 2 (l.map Ext.c) r') S):AC w0 CC [.vs 2 (l.map Ext.c) r] S Q:=by
 apply EN;unfold Cq;exact N1 (ei:=As) (sz:=2) (es:=l.map Ext.c) (K:=fun t=>Q t S) rfl (fun e=>by simp[hr e]) (by simp[lim];omega) (fun r' h=>hq r' (fun e=>by simpa using h e))
def Gf(opq:Bool)(l:List Str)(r1:Rt)(items:List Node)(r2:Rt):Node:=.mk 2 opq ⟨l,r1⟩ items r2 0 [] .nil []
theorem O9{o:Bool}{l:List Str}{items:List Node}{q1 q2:Rt}(hl:l.length≤1048576∧∀s∈l,s.length≤1048576)(hi:items.length≤1048576∧∀x∈items,x.ok)(k1:okR q1 l)(k2:okR q2 items):(Gf o l q1 items q2).ok:=by
 rw[Node.ok_iff];refine⟨by simp[Gf,Node.kind,I64],⟨fun e=>k1 (by simp[Gf,Node.names] at e;simp[e]),hl⟩,⟨k2,hi.1⟩,hi.2,by simp[Gf,Node.size,I64],by simp[Gf,Node.exts,Node.er],by simp[Gf,Node.target]⟩
theorem QD{w0:World}{S:St}{l:List Str}{items:List Node}{r1 r2:Rt}(h1:okR r1 l)(h2:okR r2 items)(hl1:l.length≤100000000)(hl2:items.length≤100000000){Q:AV→St→Prop}
  (hq:∀q1 q2,okR q1 l→okR q2 items→Q (.agg (Gf false l q1 items q2).c) S):AC w0 JB [.vs 1 (l.map EH) r1,.vs 7 (items.map Node.c) r2] S Q:=by
 apply Td;unfold Pp;refine N9 (fun e=>h1 (by simpa using e)) hl1 (fun q1 k1=>?_)
 refine TG (fun e=>h2 (by simpa using e)) hl2 (fun q2 k2=>?_)
 have hq:=hq q1 q2 k1 k2;rw[Node.c_eq] at hq;simp;exact hq
theorem T5{w0:World}{S:St}{s:Str}(hl:s.length≤1000000000){Q:AV→St→Prop}(hq:∀r,(r= .nil∧ofE 0 s=[])∨r= .none→Q (.agg (Node.mk 1 false ⟨[],.nil⟩ [] .nil s.length (ofE 0 s) r []).c) S):AC w0 KU [.str s] S Q:=by
 apply Su;unfold OT;refine Tl hl (fun r hr=>?_)
 have hq:=hq r hr;rw[Node.c_eq] at hq;simp;exact hq
theorem Yr{s:Str}(h:s.length≤1000000):(ofE 0 s).length≤s.length∧∀x∈ofE 0 s,x.ok:=by
 obtain⟨h1,h2,h3,h4⟩:=PX s.length s 0 (Nat.le_refl _);refine⟨h3,fun x hx=>?_⟩
 have:=h1 x hx;unfold Ext.ok;omega
def Hw(s:Str)(r:Rt):Node:=.mk 1 false ⟨[],.nil⟩ [] .nil s.length (ofE 0 s) r []
theorem YZ{s:Str}{r:Rt}(h:s.length≤1000000)(hr:(r= .nil∧ofE 0 s=[])∨r= .none):(Hw s r).ok:=by
 rw[Node.ok_iff];obtain⟨h1,h2⟩:=Yr h;simp[Hw,Node.kind,Node.names,Node.items,Node.ir,Node.size,Node.exts,Node.er,Node.target,I64,Ss.ok];refine⟨by omega,fun e=>?_,by omega,h2⟩
 rcases hr with ⟨_,h⟩|rfl
 ·exact h
 ·cases e
theorem T0{s:Str}{r:Rt}(h:s.length≤1048576):Jq (Hw s r)=true:=by
 have:=bM h;simp[Jq,Dw,Dl,Hw,Node.kind,Node.opq,Node.names,Node.items,Node.size,Node.exts,Node.target,this]
@[simp] theorem dy{α:Type}{r:α→Prop}{x:α}:AK r (fun j=>j x)=r x:=rfl
end Go.Av
