/- Parts of the proofs of this seat: abstract values over the model, and what the functions of the program do. No condition. -/
import Derived.Test.YtehadbpejfjheaaGreatDoorM8
import Derived.Test.YtehadbpejfjheaaGreatDoorM9
import Derived.Test.YtehadbpejfjheaaGreatDoorD0
import Derived.Test.YtehadbpejfjheaaGreatDoorM12
import Derived.Test.YtehadbpejfjheaaGreatDoorY01
import Derived.Test.YtehadbpejfjheaaGreatDoorD1
import Derived.Test.YtehadbpejfjheaaGreatDoorXSA
import Derived.Test.YtehadbpejfjheaaGreatDoorDExt
import Derived.Test.YtehadbpejfjheaaGreatDoorX03
import Derived.Test.YtehadbpejfjheaaGreatDoorXLess
import Derived.Test.YtehadbpejfjheaaGreatDoorY04b
import Derived.Test.YtehadbpejfjheaaGreatDoorDEq
import Derived.Test.YtehadbpejfjheaaGreatDoorY03
import Derived.Shelf.Strings.Split
import Derived.Shelf.Lay
import Derived.Shelf.Vars
import Derived.Shelf.LaySoft
import Derived.Shelf.Strings.OnBuilder
import Derived.Shelf.Strings.LastIndex
set_option linter.all false
set_option maxRecDepth 100000
namespace Go.Proofs
open Go.Shelf Go.Av
shelf_lay Lays.n146 Nm 146 at Tryz as Tryz.lays146
end Go.Proofs
namespace Go.Av
open Go.Proofs Go.Shelf
def L2(w0:World):Prop:=∃m,w0.cell? ⟨Tryz.lays146_ren.g 1,0,none⟩=some (.int .i64 m)
theorem T0{W:World}(h:W.ShapedOpen Tryz.prog):L2 W:=cell_of_shapedOpen_int (zero:=#[.int .i64 0]) (t:=FE) h (of_decide_eq_true (by kernel_rfl)) (by kernel_rfl) rfl (by kernel_rfl) (by kernel_rfl) VL
theorem i4{E:Env}{G:Gh}{w:World}{S:St}(h:Rel E G w S){b o:Nat}{v:Value}(hc:E.w0.cell? ⟨b,o,none⟩=some v):w.cell? ⟨b,o,none⟩=some v:=by
 have hlt:b < E.w0.heap.size:=by
  unfold World.cell? at hc;split at hc
  ·rename_i c e fz hh;exact(Array.getElem?_eq_some_iff.1 hh).1
  ·cases hc
 rw[←hc];exact World.cell?_of_block (w:=E.w0) (h.old b hlt).1
theorem kY{w0:World}{S:St}{s:Str}(hm:L2 w0)(hs:s.length < 4294967281){Q:AV→St→Prop}(hq:Q (.vs 1 ((B8 s).map fun s=>[.str s]) .full) S):
  AC w0 Np [.str s,.str [47]] S Q:=by
 refine AT.of_strs TZ (by kernel_rfl) (by kernel_rfl) fun G w args' hr hl' ha=>?_
 obtain⟨v,u,rfl⟩:∃v u,args'=#[v,u]:=by
  match args',hl' with
  |⟨[v,u]⟩,_=>exact⟨v,u,rfl⟩
 have h0':=ha 0 _ v rfl rfl;have h1':=ha 1 _ u rfl rfl;cases h0';cases h1';obtain⟨m,hm⟩:=hm;refine(Any.strings_Split Tryz.lays146 (by kernel_rfl) ⟨s.toArray⟩ ⟨#[47]⟩ m w (by simpa[ByteArray.size] using hs) (i4 hr hm) (by decide)).mono ?_
 rintro e w' ⟨rfl,rfl⟩;have hd:(Lib.splitB ⟨#[47]⟩ 0 (Lib.countB ⟨s.toArray⟩ ⟨#[47]⟩) ⟨s.toArray⟩).map (·.data.toList)=B8 s:=by
  rw[Lib.splitB_data];exact Yb s
 have hlen:(B8 s).length=Lib.countB ⟨s.toArray⟩ ⟨#[47]⟩+1:=by
  rw[←hd,List.length_map];exact Lib.splitB_all ⟨#[47]⟩ (by decide) 0 _ ⟨s.toArray⟩ rfl
 have he:(Lib.splitB ⟨#[47]⟩ 0 (Lib.countB ⟨s.toArray⟩ ⟨#[47]⟩) ⟨s.toArray⟩).map Value.string=(B8 s).map fun s=>Value.string ⟨s.toArray⟩:=by
  rw[←hd,List.map_map];rfl
 refine⟨B8 s,Tryz.lays146_ren.t 9,?_,?_,hq⟩
 ·rw[hlen]
 ·rw[he]
open Go.Proofs
theorem Kk{α:Type}{s:List α}(h:s≠[]):List.isEmpty s=false:=by
 cases s with
 |nil=>exact absurd rfl h
 |cons _ _=>rfl
theorem cw(x y:UInt8):(x==y)=decide (x.toNat=y.toNat):=by
 rw[Bool.eq_iff_iff];simp[UInt8.toNat_inj]
theorem Rp{w0:World}{S:St}{s:Str}(hs:s.length < 4294967281){Q:AV→St→Prop}(hq:Q (.bool (Es s)) S):AC w0 KT [.str s] S Q:=by
 apply XQ;unfold R3;unfold Es at hq
 by_cases c1:s=[]
 ·simpa[c1,AO] using hq
 have e1:=Kk c1
 by_cases c2:s=[46]
 ·simpa[c1,c2,AO] using hq
 by_cases c3:s=[46,46]
 ·simpa[c1,c2,c3,AO] using hq
 by_cases c4:s.length≤64
 ·have c4':(s.length:Int)≤64:=by omega
  have b2:(s==[46])=false:=beq_eq_false_iff_ne.2 c2;have b3:(s==[46,46])=false:=beq_eq_false_iff_ne.2 c3;simp[e1,b2,b3,c4',AO];refine Xf (c0:=47) (c1:=0) (by decide) (by decide) hs ?_
  simpa[e1,c2,c3,c4,bne,b2,b3] using hq
 ·have c4':¬(s.length:Int)≤64:=by omega
  have b2:(s==[46])=false:=beq_eq_false_iff_ne.2 c2;have b3:(s==[46,46])=false:=beq_eq_false_iff_ne.2 c3;simp[e1,b2,b3,c4',AO];simpa[e1,b2,b3,c4,bne] using hq
theorem L0{w0:World}{S:St}{s:Str}(hs:s.length≤1048576){Q:AV→St→Prop}(hq:Q (.bool (Es s)) S):AC w0 JF [.str s] S Q:=by
 apply Wd;unfold QF;unfold Es at hq
 by_cases c1:s=[]
 ·simpa[c1,AO] using hq
 have e1:=Kk c1
 by_cases c2:s=[46]
 ·simpa[c1,c2,AO] using hq
 by_cases c3:s=[46,46]
 ·simpa[c1,c2,c3,AO] using hq
 have b2:(s==[46])=false:=beq_eq_false_iff_ne.2 c2;have b3:(s==[46,46])=false:=beq_eq_false_iff_ne.2 c3
 by_cases c4:s.length≤64
 ·have c4':¬64 < (s.length:Int):=by omega
  have hq':Q (.bool (!(s.any fun b=>b==47||b==0))) S:=by simpa[e1,b2,b3,c4,bne] using hq
  simp only[AO];simp[e1,b2,b3,c4',AO];refine BN s (fun i (_:Unit)=>([.int .i64 i],[])) (fun i _ S'=>S'=S∧(s.any fun b=>b==47||b==0)=((s.drop i).any fun b=>b==47||b==0)) () rfl (by simp) ?_ ?_
  ·rintro i _ S' v b x c hxi hd hc hm ⟨rfl,hx⟩ hv;simp at hv;simp[hv,hc,hxi];rw[hd,List.any_cons] at hx;have u47:(x==47)=decide (x.toNat=47):=cw x 47;have u0:(x==0)=decide (x.toNat=0):=cw x 0;rw[u47,u0] at hx
   by_cases h1:x.toNat=47
   ·have h1':(x.toNat:Int)=47:=by omega
    have hx2:(s.any fun b=>b==47||b==0)=true:=by rw[hx];simp[h1]
    rw[hx2] at hq';simpa[h1',h1] using hq'
   have h1':¬(x.toNat:Int)=47:=by omega
   by_cases h2:x.toNat=0
   ·have hx2:(s.any fun b=>b==47||b==0)=true:=by rw[hx];simp[h2]
    rw[hx2] at hq';simpa[h1',h2] using hq'
   ·simp[h1',h2];simp only[h1,h2,decide_false,Bool.false_or] at hx
    try simp (disch:=omega) only[wrap64]
    exact .next c () rfl ⟨rfl,hx⟩
  ·rintro _ S' v b ⟨rfl,hx⟩ hv N;simp at hv;simp[hv];rw[hx] at hq';simpa using hq'
 ·have c4':64 < (s.length:Int):=by omega
  simp[e1,b2,b3,c4',AO];simpa[e1,b2,b3,c4,bne] using hq
set_option maxHeartbeats 1000000 in
theorem M2{w0:World}{S:St}{s:Str}(hm:L2 w0)(hs:s.length≤1048576){Q:AV→St→Prop}
  (hq:match D4 s with
   |none=>Q (.tup [.vs 1 [] .nil,.bool false,.int .i64 1]) S
   |some l=>∀r,(r= .nil→l=[])→(r= .nil∨r= .own Ct)→Q (.tup [.vs 1 (l.map Cw) r,.bool (s.head? ==some 47),.int .i64 0]) S):AC w0 IH [.str s] S Q:=by
 apply Xl;unfold R7;unfold D4 at hq
 by_cases c1:s=[]
 ·simpa[c1,AO] using hq
 have e1:=Kk c1
 by_cases c2:1024 < s.length
 ·have c2':(1024:Int) < s.length:=by omega
  simpa[e1,c1,c2,c2',AO] using hq
 have c2':¬(1024:Int) < s.length:=by omega
 rw[if_neg (by simp[c1,c2])] at hq
 simp[e1,c2',AO];refine kY hm (by omega) ?_
 simp;have hsl:=Va s;have hap:=MG s;generalize B8 s=l at hq hsl hap;refine BN l (fun i (a:List Str×Rt)=>([.vs 1 (a.1.map Cw) a.2,.int .i64 i],[])) (fun i a S'=>S'=S∧CZ l=(CZ (l.drop i)).map (a.1++·)∧a.1.length≤i∧(a.2= .nil∧a.1=[]∨a.2= .own Ct)) ([],.nil) rfl ⟨rfl,by simp,by simp,by simp⟩ ?_ ?_
 ·rintro i ⟨acc,ra⟩ S' v b x c hxi hd hc hm' ⟨rfl,hx,hal,hra⟩ hv;simp at hv hx hal hra;have hra':ra≠ .none:=by rcases hra with ⟨rfl,_⟩|rfl<;>simp
  have hrt:C4 AH ra=Ct:=by rcases hra with ⟨rfl,_⟩|rfl<;>rfl
  have hlim:acc.length+1≤lim:=by unfold lim;have:=hsl.1;omega
  simp[hv,hc,hxi];rw[hd,CZ] at hx
  by_cases h1:x=[]
  ·simp[h1] at hx ⊢
   try simp (disch:=omega) only[wrap64]
   exact .next c (acc,ra) rfl ⟨rfl,hx,by simp;omega,hra⟩
  by_cases h2:x=[46]
  ·simp[h2] at hx ⊢
   try simp (disch:=omega) only[wrap64]
   exact .next c (acc,ra) rfl ⟨rfl,hx,by simp;omega,hra⟩
  have e1:=Kk h1;have b2:(x==[46])=false:=beq_eq_false_iff_ne.2 h2;have hadd:x=[46,46]∨Es x=true→CZ l=(CZ (l.drop (i+1))).map ((acc++[x])++·):=fun h=>by
   rw[hx,if_neg (by simp[h1,h2]),if_pos h,Option.map_map]
   congr 1;funext y;simp
  by_cases h3:x=[46,46]
  ·have hx:=hadd (.inl h3);subst h3;simp[Aj,BO,hra',hlim,hrt]
   try simp (disch:=omega) only[wrap64]
   exact .next c (acc++[[46,46]],.own Ct) (by simp) ⟨rfl,hx,by simp;omega,.inr rfl⟩
  have b3:(x==[46,46])=false:=beq_eq_false_iff_ne.2 h3;simp[e1,b2,b3,h1,h2,h3];refine Rp (by have:=hsl.2 x hm';omega) ?_
  cases h4:Es x with
  |true=>
   have hx:=hadd (.inr h4);simp[Aj,BO,hra',hlim,hrt]
   try simp (disch:=omega) only[wrap64]
   exact .next c (acc++[x],.own Ct) (by simp) ⟨rfl,hx,by simp;omega,.inr rfl⟩
  |false=>
   rw[if_neg (by simp[h1,h2]),if_neg (by simp[h3,h4])] at hx
   rw[hx] at hq;simpa using hq
 ·rintro⟨acc,ra⟩ S' v b ⟨rfl,hx,hal,hra⟩ hv N;simp at hv hx hal hra;simp[CZ] at hx;rw[hx] at hq;obtain⟨y,tl,rfl⟩:∃y tl,s=y::tl:=by
   cases s with
   |nil=>exact absurd rfl c1
   |cons y tl=>exact⟨y,tl,rfl⟩
  simp[hv];have e47:((y.toNat:Int)=47)=(y.toNat=47):=propext (by omega)
  have:=hq ra (by rcases hra with ⟨rfl,h⟩|rfl<;>simp[*]) (by rcases hra with ⟨rfl,h⟩|rfl<;>simp)
  simpa[cw,e47] using this
def XK(cur:Str):List Str→List Str
 |h::t=>(cur++h)::t
 |[]=>[cur]
theorem bY(s:Str):XK [] (B8 s)=B8 s:=by
 cases h:B8 s with
 |nil=>exact absurd h (MG s)
 |cons h t=>rfl
theorem dn(cur s:Str):XK cur (B8 (47::s))=cur::B8 s:=by simp[B8,XK]
theorem fH(cur s:Str){c:UInt8}(hc:c≠47):XK cur (B8 (c::s))=XK (cur++[c]) (B8 s):=by
 cases h:B8 s with
 |nil=>exact absurd h (MG s)
 |cons h' t=>simp[B8,hc,h,XK]
set_option maxHeartbeats 1000000 in
theorem Lr{w0:World}{S:St}{s:Str}(hs:s.length≤1048576){Q:AV→St→Prop}
  (hq:match D4 s with
   |none=>Q (.tup [.vs 1 [] .nil,.bool false]) S
   |some l=>∀r,(r= .nil→l=[])→(r= .full∨r= .none)→Q (.tup [.vs 1 (l.map Cw) r,.bool true]) S):AC w0 F1 [.str s] S Q:=by
 apply Vj;unfold P8;unfold D4 at hq
 by_cases c1:s=[]
 ·simpa[c1,AO] using hq
 have e1:=Kk c1;have hpos:0 < s.length:=List.length_pos_iff.2 c1;have c1':¬((s.length:Int) < 1):=by omega
 have c1'':decide ((s.length:Int) < 1)=false:=decide_eq_false c1'
 by_cases c2:1024 < s.length
 ·have c2':decide ((s.length:Int) > 1024)=true:=decide_eq_true (by omega)
  have hq':Q (.tup [.vs 1 [] .nil,.bool false]) S:=by simpa[c1,c2] using hq
  rw[c1'',c2'];simpa[AO] using hq'
 have c2':decide ((s.length:Int) > 1024)=false:=decide_eq_false (by omega)
 rw[if_neg (by simp[c1,c2])] at hq
 rw[c1'',c2'];simp[AO];refine Fw (fun k:Nat×Nat×List Str×Rt=>([.str s,.vs 1 (k.2.2.1.map Cw) k.2.2.2,.int .i64 k.1,.int .i64 k.2.1],[])) (fun n k S'=>S'=S∧k.1≤k.2.1∧k.2.1+n=s.length+1∧k.2.2.1.length≤k.2.1∧(k.2.2.2= .full∨k.2.2.2= .own Ct)∧
  if k.2.1≤s.length then CZ (B8 s)=(CZ (XK ((s.take k.2.1).drop k.1) (B8 (s.drop k.2.1)))).map (k.2.2.1++·) else CZ (B8 s)=some k.2.2.1) (s.length+1) (0,0,[],.full) rfl ⟨rfl,by simp,by simp,by simp,by simp,by simp[bY]⟩ ?_
 rintro n ⟨f,k,out,r⟩ S' v b ⟨rfl,hfk,hn,hol,hr,hx⟩ hv;simp only at hfk hn hol hr hx;simp at hv;have hr0:r≠ .none:=by rcases hr with rfl|rfl<;>simp
 have hrt:C4 AH r=Ct:=by rcases hr with rfl|rfl<;>rfl
 have hlim:out.length+1≤lim:=by unfold lim;omega
 by_cases ck:k≤s.length
 ·rw[if_pos ck] at hx;obtain⟨m,rfl⟩:∃m,n=m+1:=⟨n - 1,by omega⟩
  have hcl:((s.take k).drop f).length≤1024:=by simp;omega
  by_cases hch:∃c,s[k]? =some c∧c≠47
  ·obtain⟨c,h1,h2⟩:=hch;have ck2:k < s.length:=(List.getElem?_eq_some_iff.1 h1).1;have h2':¬(c.toNat:Int)=47:=fun e=>h2 (UInt8.toNat_inj.1 (by show c.toNat=47;omega))
   have hchr:Gg (.str s) (.int .i64 k)=some (.int .u8 c.toNat):=by simp[h1]
   simp[hv,ck,ck2,hchr,h2']
   try simp (disch:=omega) only[wrap64]
   refine⟨m,(f,k+1,out,r),by omega,rfl,rfl,by show f≤k+1;omega,by show k+1+m=_;omega,by show out.length≤k+1;omega,hr,?_⟩
   show if k+1≤s.length then _ else _
   rw[if_pos (by omega),hx]
   have hd:s.drop k=c::s.drop (k+1):=by rw[List.drop_eq_getElem_cons ck2];congr 1;exact(List.getElem?_eq_some_iff.1 h1).2
   have ht:(s.take (k+1)).drop f=(s.take k).drop f++[c]:=by
    rw[List.take_add_one,h1,List.drop_append_of_le_length (by simp;omega)]
    rfl
   rw[hd,fH _ _ h2,ht]
  ·obtain⟨rest,hr1,hr2⟩:∃rest,CZ (B8 s)=(CZ ((s.take k).drop f::rest)).map (out++·)∧∀out',CZ (B8 s)=(CZ rest).map (out'++·)→
     if k+1≤s.length then CZ (B8 s)=(CZ (XK ((s.take (k+1)).drop (k+1)) (B8 (s.drop (k+1))))).map (out'++·) else CZ (B8 s)=some out':=by
    have hnil:(s.take (k+1)).drop (k+1)=[]:=by rw[List.drop_eq_nil_iff];simp;omega
    by_cases ck2:k < s.length
    ·have h1:s[k]? =some 47:=by
      by_cases e:s[k]? =some 47
      ·exact e
      ·exact absurd ⟨s[k],by simp[ck2],fun e2=>e (by simp[ck2,e2])⟩ hch
     have hd:s.drop k=47::s.drop (k+1):=by rw[List.drop_eq_getElem_cons ck2];congr 1;exact(List.getElem?_eq_some_iff.1 h1).2
     rw[hd,dn] at hx;refine⟨_,hx,fun out' h=>?_⟩
     rw[if_pos (by omega),hnil,bY]
     exact h
    ·have hd:s.drop k=[]:=by rw[List.drop_eq_nil_iff];omega
     rw[hd] at hx;refine⟨[],by simpa[B8,XK] using hx,fun out' h=>?_⟩
     rw[if_neg (by omega)]
     simpa[CZ] using h
   clear hx;have fin:∀out' r',(CZ (B8 s)=(CZ rest).map (out'++·))→out'.length≤k+1→(r'= .full∨r'= .own Ct)→∀S'',S''=S'→Nx (fun k:Nat×Nat×List Str×Rt=>([.str s,.vs 1 (k.2.2.1.map Cw) k.2.2.2,.int .i64 k.1,.int .i64 k.2.1],[])) (fun n k S''=>S''=S'∧k.1≤k.2.1∧k.2.1+n=s.length+1∧k.2.2.1.length≤k.2.1∧(k.2.2.2= .full∨k.2.2.2= .own Ct)∧
     if k.2.1≤s.length then CZ (B8 s)=(CZ (XK ((s.take k.2.1).drop k.1) (B8 (s.drop k.2.1)))).map (k.2.2.1++·) else CZ (B8 s)=some k.2.2.1) (m+1) ([.str s,.vs 1 (out'.map Cw) r',.int .i64 ((k:Int)+1),.int .i64 ((k:Int)+1)],[]) S'':=fun out' r' h1 h2 h3 S'' e=>
    ⟨m,(k+1,k+1,out',r'),by omega,rfl,e,Nat.le_refl _,by show k+1+m=_;omega,h2,h3,hr2 out' h1⟩
   have hgo:(k < s.length∧s[k]? =some 47)∨¬k < s.length:=by
    by_cases ck2:k < s.length
    ·left;refine⟨ck2,?_⟩
     by_cases e:s[k]? =some 47
     ·exact e
     ·exact absurd ⟨s[k],by simp[ck2],fun e2=>e (by simp[ck2,e2])⟩ hch
    ·exact .inr ck2
   have u47:(((47:UInt8).toNat:Int)=47):=rfl;have hcut:FM (.str s) (some (.int .i64 f)) (some (.int .i64 k))=some (.str ((s.take k).drop f)):=by simp[hfk,ck]
   generalize List.drop f (List.take k s)=cur at hcl hr1 hcut;rcases hgo with ⟨ck2,h1⟩|ck2
   ·have hchr:Gg (.str s) (.int .i64 k)=some (.int .u8 (47:UInt8).toNat):=by simp[h1]
    simp[hv,ck,ck2,hchr,hcut]
    by_cases p1:cur=[]
    ·simp[p1]
     try simp (disch:=omega) only[wrap64]
     exact fin out r (by rw[hr1,CZ,if_pos (.inl p1)]) (by omega) hr _ rfl
    by_cases p2:cur=[46]
    ·simp[p2]
     try simp (disch:=omega) only[wrap64]
     exact fin out r (by rw[hr1,CZ,if_pos (.inr p2)]) (by omega) hr _ rfl
    have hadd:cur=[46,46]∨Es cur=true→CZ (B8 s)=(CZ rest).map ((out++[cur])++·):=fun h=>by
     rw[hr1,CZ,if_neg (by simp[p1,p2]),if_pos h,Option.map_map]
     congr 1;funext y;simp
    by_cases p3:cur=[46,46]
    ·have hx:=hadd (.inl p3);simp[p3,Aj,BO,hr0,hlim,hrt]
     try simp (disch:=omega) only[wrap64]
     rw[p3] at hx;simpa using fin (out++[[46,46]]) (.own Ct) hx (by simp;omega) (.inr rfl) _ rfl
    simp[p1,p2,p3];refine L0 (by omega) ?_
    cases p4:Es cur with
    |true=>
     have hx:=hadd (.inr p4);simp[Aj,BO,hr0,hlim,hrt]
     try simp (disch:=omega) only[wrap64]
     simpa using fin (out++[cur]) (.own Ct) hx (by simp;omega) (.inr rfl) _ rfl
    |false=>
     rw[hr1,CZ,if_neg (by simp[p1,p2]),if_neg (by simp[p3,p4])] at hq
     simpa using hq
   ·simp[hv,ck,ck2,hcut]
    by_cases p1:cur=[]
    ·simp[p1]
     try simp (disch:=omega) only[wrap64]
     exact fin out r (by rw[hr1,CZ,if_pos (.inl p1)]) (by omega) hr _ rfl
    by_cases p2:cur=[46]
    ·simp[p2]
     try simp (disch:=omega) only[wrap64]
     exact fin out r (by rw[hr1,CZ,if_pos (.inr p2)]) (by omega) hr _ rfl
    have hadd:cur=[46,46]∨Es cur=true→CZ (B8 s)=(CZ rest).map ((out++[cur])++·):=fun h=>by
     rw[hr1,CZ,if_neg (by simp[p1,p2]),if_pos h,Option.map_map]
     congr 1;funext y;simp
    by_cases p3:cur=[46,46]
    ·have hx:=hadd (.inl p3);simp[p3,Aj,BO,hr0,hlim,hrt]
     try simp (disch:=omega) only[wrap64]
     rw[p3] at hx;simpa using fin (out++[[46,46]]) (.own Ct) hx (by simp;omega) (.inr rfl) _ rfl
    simp[p1,p2,p3];refine L0 (by omega) ?_
    cases p4:Es cur with
    |true=>
     have hx:=hadd (.inr p4);simp[Aj,BO,hr0,hlim,hrt]
     try simp (disch:=omega) only[wrap64]
     simpa using fin (out++[cur]) (.own Ct) hx (by simp;omega) (.inr rfl) _ rfl
    |false=>
     rw[hr1,CZ,if_neg (by simp[p1,p2]),if_neg (by simp[p3,p4])] at hq
     simpa using hq
 ·rw[if_neg ck] at hx;rw[hx] at hq;simp[hv,ck];have:=hq r.strip (by rcases hr with rfl|rfl<;>simp[Rt.strip]) (by rcases hr with rfl|rfl<;>simp[Rt.strip])
  simpa using this
open Go.Proofs
theorem IA{w0:World}{S:St}{d s:Str}(hn:d.length+s.length≤1000000000){Q:AV→St→Prop}(hq:Q (.str (if d=[47] then d++s else d++47::s)) S):AC w0 Fn [.str d,.str s] S Q:=by
 apply Xe;unfold SA;rw[Mj (by omega),Mj (by simp;omega)]
 simp;rw[Mj (by simp;omega)]
 by_cases c:d=[47]
 ·simpa[c] using hq
 ·simpa[c] using hq
open Go.Proofs
@[simp] theorem Node.c_len(n:Node):n.c.length=7:=by rw[Node.c_eq];rfl
@[simp] theorem Node.c_free(n:Node):(AV.agg n.c).free=true:=by rw[Node.c_eq];simp
@[simp] theorem Node.c_strip(n:Node):(AV.agg n.c).strip= .agg n.c:=by rw[Node.c_eq];simp
@[simp] theorem Node.c_cells(n:Node):(AV.agg n.c).cells=n.c:=rfl
@[simp] theorem Node.c_map(n:Node):n.c.map AV.strip1=n.c:=by rw[Node.c_eq];simp
@[simp] theorem Node.c_free1(n:Node):(∀x∈n.c,x.free1=true)↔True:=by rw[Node.c_eq];simp
@[simp] theorem Node.c_take(n:Node):n.c.take 7=n.c:=by rw[Node.c_eq];rfl
@[simp] theorem nC(S:St)(n:Node):AI AG S (.ep n.c 0)=some (.agg n.c):=by rw[Node.c_eq];simp
theorem W4{w0:World}(n:Node):∀{S:St} {Q:AV→St→Prop},n.ok→n.count≤1000000000000→Q (.int .i64 n.count) S→AC w0 JO [.agg n.c] S Q:=by
 induction n using Node.ind with
 |h n ih=>
  intro S Q hok hn hq;rw[Node.c_eq];apply Vi;unfold QK;rw[Node.count_eq] at hn hq;rw[Node.ok_iff] at hok;obtain⟨h1,h2,h3,h4,h5,h6,h7⟩:=hok;simp[AO];refine BN n.items (fun i (_:Unit)=>([.int .i64 ((1+Node.counts (n.items.take i):Nat):Int),.int .i64 i],[some [.int .i64 n.kind,.bool n.opq,.vs 1 (n.names.l.map Cw) n.names.r.strip,.vs 7 (n.items.map Node.c) n.ir.strip,.int .i64 n.size,.vs 2 (n.exts.map Ext.c) n.er.strip,.str n.target]])) (fun i _ S'=>S'=S) () (by simp[Node.counts]) rfl ?_ ?_
  ·rintro i _ S' v b x c hxi hd hc hm rfl hv;simp at hv;simp[hv,hc,hxi];have hk:=Node.counts_take hxi;have hle:=Node.counts_take_le n.items (i+1);refine ih x hm (h4 x hm) (by omega) ?_
   simp
   try simp (disch:=omega) only[wrap64]
   exact .next c () (by rw[hk];simp;omega) rfl
  ·rintro _ S' v b rfl hv N;simp at hv;simp[hv];simpa using hq
theorem Xo{w0:World}(n:Node):∀{S:St} {Q:AV→St→Prop},n.ok→n.depth≤1000000000000→Q (.int .i64 n.depth) S→AC w0 JM [.agg n.c] S Q:=by
 induction n using Node.ind with
 |h n ih=>
  intro S Q hok hn hq;rw[Node.c_eq];apply VN;unfold Pr;rw[Node.depth_eq] at hn hq;rw[Node.ok_iff] at hok;obtain⟨h1,h2,h3,h4,h5,h6,h7⟩:=hok;simp[AO];refine BN n.items (fun i (_:Unit)=>([.int .i64 (Node.depths (n.items.take i):Int),.int .i64 i],[some [.int .i64 n.kind,.bool n.opq,.vs 1 (n.names.l.map Cw) n.names.r.strip,.vs 7 (n.items.map Node.c) n.ir.strip,.int .i64 n.size,.vs 2 (n.exts.map Ext.c) n.er.strip,.str n.target]])) (fun i _ S'=>S'=S) () (by simp[Node.depths]) rfl ?_ ?_
  ·rintro i _ S' v b x c hxi hd hc hm rfl hv;simp at hv;simp[hv,hc,hxi];have hk:=Node.depths_take hxi;have hle:=Node.depths_take_le n.items (i+1);refine ih x hm (h4 x hm) (by omega) ?_
   simp
   try simp (disch:=omega) only[wrap64]
   by_cases c1:Node.depths (n.items.take i) < x.depth+1
   ·have c2:(Node.depths (n.items.take i):Int) < x.depth+1:=by omega
    simp[c2]
    try simp (disch:=omega) only[wrap64]
    exact .next c () (by rw[hk,Nat.max_eq_right (by omega)];simp) rfl
   ·have c2:¬(Node.depths (n.items.take i):Int) < x.depth+1:=by omega
    simp[c2]
    try simp (disch:=omega) only[wrap64]
    exact .next c () (by rw[hk,Nat.max_eq_left (by omega)];simp) rfl
  ·rintro _ S' v b rfl hv N;simp at hv;simp[hv];simpa using hq
theorem bU{w0:World}{n:Node}{S:St}{Q:AV→St→Prop}(hq:Q (.bool (F0 n)) S):AC w0 OR [.agg n.c] S Q:=by
 rw[Node.c_eq];apply Yx;unfold T1;have p0:∀{α:Type} {l:List α},l≠[]→0 < l.length:=fun h=>List.length_pos_iff.2 h
 have fin:∀b:Bool,F0 n=b→Q (.bool b) S:=fun b h=>h ▸ hq
 have k12:n.kind=2→n.kind≠1∧n.kind≠3:=fun h=>by omega
 have k13:n.kind=1→n.kind≠3:=fun h=>by omega
 by_cases k2:n.kind=2
 ·have k1:=(k12 k2).1;have k3:=(k12 k2).2
  by_cases s0:n.size=0
  ·by_cases e0:n.exts=[]
   ·simp[k2,s0,e0,AO];exact fin _ (by simp[F0,k2,s0,e0])
   ·have:=p0 e0;simp[k2,s0,this,AO];exact fin _ (by simp[F0,k2,s0,e0])
  ·simp[k2,s0,AO];exact fin _ (by simp[F0,k2,s0])
 ·cases o:n.opq with
  |true=>
   simp[k2,o,AO];exact fin _ (by simp[F0,k2,o])
  |false=>
   by_cases a0:n.names.l=[]
   ·by_cases i0:n.items=[]
    ·by_cases k1:n.kind=1
     ·have k3:=k13 k1;simp[k1,o,a0,i0,AO];exact fin _ (by simp[F0,k1,o,a0,i0])
     ·by_cases s0:n.size=0
      ·by_cases e0:n.exts=[]
       ·by_cases k3:n.kind=3
        ·simp[k3,o,a0,i0,s0,e0,AO];exact fin _ (by simp[F0,k3,o,a0,i0,s0,e0])
        ·simp[k1,k2,k3,o,a0,i0,s0,e0,AO];exact fin _ (by simp[F0,k1,k2,k3,o,a0,i0,s0,e0])
       ·have:=p0 e0;simp[k1,k2,o,a0,i0,s0,this,AO];exact fin _ (by simp[F0,k1,k2,e0])
      ·simp[k1,k2,o,a0,i0,s0,AO];exact fin _ (by simp[F0,k1,k2,s0])
    ·have:=p0 i0;simp[k2,o,a0,this,AO];exact fin _ (by simp[F0,k2,i0])
   ·have:=p0 a0;simp[k2,o,this,AO];exact fin _ (by simp[F0,k2,a0])
def Nk(l:List Str)(i:Nat):Option Str:=if i=0 then none else l[i - 1]?
theorem NW{l:List Str}{i:Nat}{x:Str}(h:l[i]? =some x):Nk l (i+1)=some x:=by simp[Nk,h]
theorem Ur{w0:World}{n:Node}{S:St}(hok:n.ok){Q:AV→St→Prop}(hq:Q (.bool (HQ n)) S):AC w0 Jz [.agg n.c] S Q:=by
 rw[Node.c_eq];apply TO;unfold Ng;rw[Node.ok_iff] at hok;obtain⟨h1,h2,h3,h4,h5,h6,h7⟩:=hok;unfold HQ at hq
 by_cases hl:n.names.l.length=n.items.length
 ·have hl':((n.names.l.length:Int)=(n.items.length:Int)):=by omega
  simp[hl',hl,AO] at hq ⊢;have hlen:=h2.2.1;refine BN n.names.l (fun i (_:Unit)=>([.int .i64 i],[some [.int .i64 n.kind,.bool n.opq,.vs 1 (n.names.l.map Cw) n.names.r.strip,.vs 7 (n.items.map Node.c) n.ir.strip,.int .i64 n.size,.vs 2 (n.exts.map Ext.c) n.er.strip,.str n.target]])) (fun i _ S'=>S'=S∧nchain none n.names.l=nchain (Nk n.names.l i) (n.names.l.drop i)) () rfl (by simp[Nk]) ?_ ?_
  ·rintro i _ S' v b x c hxi hd hc hm ⟨rfl,hx⟩ hv;simp at hv;simp[hv,hc,hxi,←hl];rw[hd,Oo] at hx;refine L0 (h2.2.2 x hm) ?_;cases hr:Es x with
   |false=>
    rw[hx,hr] at hq;simpa using hq
   |true=>
    rw[hr] at hx
    by_cases hi:i=0
    ·subst hi;simp[Nk] at hx;simp
     try simp (disch:=omega) only[wrap64]
     exact .next c () rfl ⟨rfl,by rw[NW hxi];simpa using hx⟩
    ·have hi':(0:Int) < i:=by omega
     have hi0:0 < i:=by omega
     obtain⟨q,hqi⟩:∃q,n.names.l[i - 1]? =some q:=⟨n.names.l[i - 1]'(by omega),by simp[show i - 1 < n.names.l.length by omega]⟩
     have hp:Nk n.names.l i=some q:=by simp[Nk,hi,hqi]
     have hi1:(i:Int) - 1=((i - 1:Nat):Int):=by omega
     rw[hp] at hx;simp[hi',hi0]
     try simp (disch:=omega) only[wrap64]
     rw[hi1];simp[hqi,hxi];refine Rm (by have:=h2.2.2 q (List.mem_of_getElem? hqi);omega) (by have:=h2.2.2 x hm;omega) ?_
     cases hs:slt q x with
     |false=>
      rw[hx] at hq;simp[hs] at hq;simpa using hq
     |true=>
      simp
      try simp (disch:=omega) only[wrap64]
      exact .next c () rfl ⟨rfl,by rw[NW hxi,hx];simp[hs]⟩
  ·rintro _ S' v b ⟨rfl,hx⟩ hv N;simp at hv;simp[hv];rw[hx,List.drop_length] at hq;simpa[nchain,hl] using hq
 ·have hl':¬((n.names.l.length:Int)=(n.items.length:Int)):=by omega
  simp[hl',hl] at hq ⊢;exact hq
theorem ZV{w0:World}{n:Node}{S:St}(hok:n.ok){Q:AV→St→Prop}(hq:Q (.bool (HQ n)) S):AC w0 NJ [.agg n.c] S Q:=by
 rw[Node.c_eq];apply W5;unfold SN;rw[Node.ok_iff] at hok;obtain⟨h1,h2,h3,h4,h5,h6,h7⟩:=hok;unfold HQ at hq;simp[AO];have hlen:=h2.2.1;refine BN n.names.l (fun i (_:Unit)=>([.int .i64 i],[some [.int .i64 n.kind,.bool n.opq,.vs 1 (n.names.l.map Cw) n.names.r.strip,.vs 7 (n.items.map Node.c) n.ir.strip,.int .i64 n.size,.vs 2 (n.exts.map Ext.c) n.er.strip,.str n.target]])) (fun i _ S'=>S'=S∧nchain none n.names.l=nchain (Nk n.names.l i) (n.names.l.drop i)) () rfl (by simp[Nk]) ?_ ?_
 ·rintro i _ S' v b x c hxi hd hc hm ⟨rfl,hx⟩ hv;simp at hv;simp[hv,hc,hxi];rw[hd,Oo] at hx;refine Rp (by have:=h2.2.2 x hm;omega) ?_
  cases hr:Es x with
  |false=>
   rw[hx,hr] at hq;simpa using hq
  |true=>
   rw[hr] at hx
   by_cases hi:i=0
   ·subst hi;simp[Nk] at hx;simp
    try simp (disch:=omega) only[wrap64]
    exact .next c () rfl ⟨rfl,by rw[NW hxi];simpa using hx⟩
   ·have hi':(0:Int) < i:=by omega
    have hi0:0 < i:=by omega
    obtain⟨q,hqi⟩:∃q,n.names.l[i - 1]? =some q:=⟨n.names.l[i - 1]'(by omega),by simp[show i - 1 < n.names.l.length by omega]⟩
    have hp:Nk n.names.l i=some q:=by simp[Nk,hi,hqi]
    have hi1:(i:Int) - 1=((i - 1:Nat):Int):=by omega
    rw[hp] at hx;simp[hi',hi0]
    try simp (disch:=omega) only[wrap64]
    rw[hi1];simp[hqi,hxi];cases hs:slt q x with
    |false=>
     rw[hx] at hq;simp[hs] at hq;simpa[slt,hs] using hq
    |true=>
     simp[show Op.bytesLess q x=true from hs]
     try simp (disch:=omega) only[wrap64]
     exact .next c () rfl ⟨rfl,by rw[NW hxi,hx];simp[hs]⟩
 ·rintro _ S' v b ⟨rfl,hx⟩ hv N;simp at hv;simp[hv];rw[hx,List.drop_length] at hq;simp[nchain] at hq;have e:((n.names.l.length:Int)=(n.items.length:Int))=(n.names.l.length=n.items.length):=propext (by omega)
  simpa[e] using hq
theorem iM(k:Int):((k=1)=True∧(k=2)=False∧(k=3)=False∧(k=4)=False)∨((k=1)=False∧(k=2)=True∧(k=3)=False∧(k=4)=False)∨((k=1)=False∧(k=2)=False∧(k=3)=True∧(k=4)=False)∨
  ((k=1)=False∧(k=2)=False∧(k=3)=False∧(k=4)=True)∨((k=1)=False∧(k=2)=False∧(k=3)=False∧(k=4)=False):=by
 by_cases h1:k=1
 ·subst h1;simp
 by_cases h2:k=2
 ·subst h2;simp
 by_cases h3:k=3
 ·subst h3;simp
 by_cases h4:k=4
 ·subst h4;simp
 simp[h1,h2,h3,h4]
theorem eY{n:Node}(hok:n.ok):mo n.exts:=by
 rw[Node.ok_iff] at hok;obtain⟨h1,h2,h3,h4,h5,h6,h7⟩:=hok;exact⟨fun x hx=>⟨(h6.2.2 x hx).1,(h6.2.2 x hx).2.1,by have:=(h6.2.2 x hx).2.2;omega⟩,by omega⟩
theorem bk{w0:World}{n:Node}{S:St}(hok:n.ok){Q:AV→St→Prop}(hq:Q (.bool (Q4 n)) S):AC w0 OX [.agg n.c] S Q:=by
  have hex:=eY hok;have hen:=@Ur w0 n S hok;rw[Node.c_eq] at hen ⊢;apply Zk;unfold UO;rw[Node.ok_iff] at hok;obtain⟨h1,h2,h3,h4,h5,h6,h7⟩:=hok;have fin:∀b:Bool,Q4 n=b→Q (.bool b) S:=fun b h=>h ▸ hq
  have p0:∀{α:Type} {l:List α},l≠[]→¬l.length=0:=fun h e=>h (List.length_eq_zero_iff.1 e)
  obtain⟨bn,hbn⟩:∃bn,bn=(!n.opq&&decide (n.names.l.length=0)&&decide (n.items.length=0)):=⟨_,rfl⟩;obtain⟨be,hbe⟩:∃be,be=(decide (n.size=0)&&decide (n.exts.length=0)):=⟨_,rfl⟩;have hone:Q4 n=((decide (n.kind=2)||bn)&&(decide (n.kind=1)||be)&&(decide (n.kind=3)||decide (n.target=[]))&&Fm n):=by rw[Q4,F0,←hbn,←hbe]
  have hb:(n.opq=true∧bn=false)∨(n.opq=false∧(n.names.l=[])=False∧bn=false)∨(n.opq=false∧(n.names.l=[])=True∧(n.items=[])=False∧bn=false)∨(n.opq=false∧(n.names.l=[])=True∧(n.items=[])=True∧bn=true):=by
    cases o:n.opq with
    |true=>left;exact⟨rfl,by rw[hbn,o];rfl⟩
    | false =>
      right
      by_cases a:n.names.l=[]
      · right
        by_cases i0:n.items=[]
        · right;exact⟨rfl,eq_true a,eq_true i0,by rw[hbn,o,a,i0];rfl⟩
        · left;exact⟨rfl,eq_true a,eq_false i0,by rw[hbn];simp[i0]⟩
      · left;exact⟨rfl,eq_false a,by rw[hbn];simp[a]⟩
  have he:((n.size=0)=False∧be=false)∨((n.size=0)=True∧(n.exts=[])=False∧be=false)∨((n.size=0)=True∧(n.exts=[])=True∧be=true):=by
    by_cases a:n.size=0
    · right
      by_cases b:n.exts=[]
      · right;exact⟨eq_true a,eq_true b,by rw[hbe,a,b];rfl⟩
      · left;exact⟨eq_true a,eq_false b,by rw[hbe];simp[b]⟩
    · left;exact⟨eq_false a,by rw[hbe];simp[a]⟩
  clear hbn hbe;have go3:∀(P':AV→St→Prop),(∀(r2:AV) (c:Bool),c=(D4 n.target).isSome→P' (.tup [r2,.bool c]) S)→AC w0 F1 [.str n.target] S P':=fun P' hP=>by
    refine Lr h7 ?_;cases hsp:D4 n.target with
    |none=>exact hP _ _ (by rw[hsp];rfl)
    |some l=>exact fun r _ _=>hP _ _ (by rw[hsp];rfl)
  rcases hb with ⟨o,hbn⟩|⟨o,a0,hbn⟩|⟨o,a0,i0,hbn⟩|⟨o,a0,i0,hbn⟩<;>rcases he with ⟨s0,hbe⟩|⟨s0,e0,hbe⟩|⟨s0,e0,hbe⟩
  all_goals (
    rw[hbn,hbe] at hone;rw[o] at hen;simp only[AO]
    (first|simp[o,s0,a0,i0,e0]|simp[o,s0,a0,i0]|simp[o,s0,a0,e0]|simp[o,s0,a0]|simp[o,s0,e0]|simp[o,s0])
    )
  all_goals (
    obtain hk|hk|hk|hk|hk:=iM n.kind
    all_goals (
      obtain⟨q1,q2,q3,q4⟩:=hk;obtain⟨ct,tg⟩:∃ct:Prop,(n.target=[])=ct∧(ct=True∨ct=False):=⟨_,rfl,by by_cases tg:n.target=[];(left;exact eq_true tg);(right;exact eq_false tg)⟩
      obtain⟨tg,hct⟩:=tg;rcases hct with hct|hct
      all_goals (
        rw[hct] at tg;simp only[q1,q2,q3,q4,tg,decide_true,decide_false,Cf,CP]
        first
          |exact fin _ (by simp[hone,Fm,q1,q2,q3,q4,tg])
          |(simp;exact fin _ (by simp[hone,Fm,q1,q2,q3,q4,tg]))
          | (refine go3 _ (fun r2 c hc => ?_)
             simp;exact fin _ (by simp[hone,Fm,q1,q2,q3,q4,tg]))
          | (refine go3 _ (fun r2 c hc => ?_)
             have kb:Fm n=(c&&decide (n.target.length≤256)):=by rw[hc,Fm];simp only[q1,q2,q3,if_false,if_true]
             cases c with
             |false=>simp;exact fin _ (by rw[hone,kb];simp)
             |true=>simp;exact fin _ (by rw[hone,kb];simp[q1,q2,q3,q4,tg]<;>omega))
          |(simp;refine XM h5 hex ?_;simp;exact fin _ (by simp[hone,Fm,q1,q2,q3,q4,tg]))
          |(simp;refine hen ?_;simp;exact fin _ (by simp[hone,Fm,q1,q2,q3,q4,tg])))))
theorem aK{w0:World}(n:Node):∀{S:St} {Q:AV→St→Prop},n.ok→Q (.bool n.allB) S→AC w0 LP [.agg n.c] S Q:=by
 induction n using Node.ind with
 |h n ih=>
  intro S Q hok hq;have hone:=@bk w0 n S hok;rw[Node.c_eq] at hone ⊢;apply ZB;unfold UY;rw[Node.all_eq] at hq;rw[Node.ok_iff] at hok;obtain⟨h1,h2,h3,h4,h5,h6,h7⟩:=hok;simp[AO];refine BN n.items (fun i (_:Unit)=>([.int .i64 i],[some [.int .i64 n.kind,.bool n.opq,.vs 1 (n.names.l.map Cw) n.names.r.strip,.vs 7 (n.items.map Node.c) n.ir.strip,.int .i64 n.size,.vs 2 (n.exts.map Ext.c) n.er.strip,.str n.target]])) (fun i _ S'=>S'=S∧Node.allsB n.items=Node.allsB (n.items.drop i)) () (by simp) (by simp) ?_ ?_
  ·rintro i _ S' v b x c hxi hd hc hm ⟨rfl,hx⟩ hv;simp at hv;simp[hv,hc,hxi];rw[Node.alls_drop hxi] at hx;refine ih x hm (h4 x hm) ?_;cases ha:x.allB with
   |false=>
    rw[hx,ha] at hq;simpa using hq
   |true=>
    rw[ha] at hx;simp
    try simp (disch:=omega) only[wrap64]
    exact .next c () rfl ⟨rfl,by simpa using hx⟩
  ·rintro _ S' v b ⟨rfl,hx⟩ hv N;simp at hv;simp[hv];rw[hx,List.drop_length] at hq;exact hone (by simpa[Node.allsB] using hq)
theorem P6{w0:World}{n:Node}{S:St}(hok:n.ok)(hc:n.count≤1000000000000)(hd:n.depth≤1000000000000){Q:AV→St→Prop}(hq:Q (.bool (D5 n)) S):AC w0 JK [.agg n.c] S Q:=by
 have h1:=@aK w0 n S;have h2:=@W4 w0 n S;have h3:=@Xo w0 n S;rw[Node.c_eq] at h1 h2 h3 ⊢;apply VK;unfold Pp;unfold D5 at hq
 by_cases k:n.kind=2
 ·have k':(n.kind=2)=True:=eq_true k;simp only[k',decide_true,Bool.true_and] at hq;simp[k',AO];refine h1 hok ?_;cases ha:n.allB with
  |false=>
   rw[ha] at hq;simpa using hq
  |true=>
   rw[ha] at hq;simp;refine h2 hok hc ?_;simp
   by_cases hcc:n.count≤4096
   ·have hcc':(n.count:Int)≤4096:=by omega
    simp[hcc',hcc] at hq ⊢;refine h3 hok hd ?_;have e:((n.depth:Int)≤15)=(n.depth≤15):=propext (by omega)
    simpa[e] using hq
   ·have hcc':¬(n.count:Int)≤4096:=by omega
    simp[hcc',hcc] at hq ⊢;exact hq
 ·have k':(n.kind=2)=False:=eq_false k;simp only[k',decide_false,Bool.false_and] at hq;simp[k',AO];exact hq
open Go.Proofs
theorem Yy{w0:World}(hm0:L2 w0)(n:Node):∀{S:St} {Q:AV→St→Prop} {id d:Nat} {left:Int},n.ok→S[id]? =some (.cells [.int .i64 left] FE)→d≤1000→0≤left→left≤1000000000000→
  Q (.bool (n.rgt d left).1) (S.set id (.cells [.int .i64 (n.rgt d left).2] FE))→AC w0 KU [.agg n.c,.int .i64 d,.ptr id 0] S Q:=by
 induction n using Node.ind with
 |h n ih=>
  intro S Q id d left hok hS hd hl1 hl2 hq;have hex:=eY hok;have hz:=@bU w0 n;have hn:=fun S=>@ZV w0 n S hok
  rw[Node.c_eq] at hz hn ⊢;apply W3;unfold SQ;rw[Node.rgt_eq] at hq;rw[Node.ok_iff] at hok;obtain⟨h1,h2,h3,h4,h5,h6,h7⟩:=hok;have hS1:=Al (o':=.cells [.int .i64 (left - 1)] FE) hS;simp[Ac hS,AO]
  try simp (disch:=omega) only[wrap64]
  simp[Be hS];generalize hS':S.set id (.cells [.int .i64 (left - 1)] FE)=S' at hS1 ⊢;have hback:∀v,S'.set id (.cells [.int .i64 v] FE)=S.set id (.cells [.int .i64 v] FE):=fun v=>by rw[←hS',List.set_set]
  simp[Ac hS1]
  by_cases c1:left - 1 < 0
  ·rw[if_pos (.inl c1),hS'] at hq;have c1':left < 1:=by omega
   simp[c1,c1'];exact hq
  have c1':¬left < 1:=by omega
  by_cases c2:15 < d
  ·rw[if_pos (.inr (.inl c2)),hS'] at hq;have c2':(15:Int) < d:=by omega
   simp[c1,c1',c2,c2'];exact hq
  have c2':¬(15:Int) < d:=by omega
  simp[c1,c1',c2,c2'];refine hz ?_;cases c3:F0 n with
  |false=>
   rw[if_pos (by simp[c3]),hS'] at hq
   simp;exact hq
  |true=>
   rw[if_neg (by simp[c1,c2,c3])] at hq
   simp;obtain hk|hk|hk|hk|hk:=iM n.kind
   all_goals (
    obtain⟨q1,q2,q3,q4⟩:=hk;simp only[q1,q2,q3,q4,decide_true,decide_false,Cf,CP];simp only[q2,if_false,if_true] at hq)
   ·rw[hS'] at hq;refine V8 h5 hex ?_;simpa[Fm,q1] using hq
   ·refine hn _ ?_;cases c5:HQ n with
    |false=>
     rw[c5] at hq;simp only[Bool.false_eq_true,if_false,hS'] at hq;simpa using hq
    |true=>
     rw[c5] at hq;simp only[if_true] at hq;simp;refine BN n.items (fun i (_:Unit)=>([.int .i64 i],[])) (fun i _ S2=>∃lf:Int,0≤lf∧lf≤left∧S2=S.set id (.cells [.int .i64 lf] FE)∧Node.rgts n.items (d+1) (left - 1)=Node.rgts (n.items.drop i) (d+1) lf) () rfl ⟨left - 1,by omega,by omega,hS'.symm,by simp⟩ ?_ ?_
     ·rintro i _ S2 v b x c hxi hd2 hc hm ⟨lf,l1,l2,rfl,hx⟩ hv;simp at hv;simp[hv,hc,hxi];have hS2:=Al (o':=.cells [.int .i64 lf] FE) hS;rw[Node.rgts_drop hxi] at hx;obtain⟨r1,r2,r3,r4⟩:=x.rgt_spec (d+1) lf l1;have e1:((d:Int)+1)=((d+1:Nat):Int):=by omega
      rw[e1];refine ih x hm (h4 x hm) hS2 (by omega) l1 (by omega) ?_
      rw[List.set_set];cases hb:(x.rgt (d+1) lf).1 with
      |false=>
       rw[hx,hb] at hq;simpa using hq
      |true=>
       rw[hb] at hx;simp
       try simp (disch:=omega) only[wrap64]
       refine .next c () rfl ⟨(x.rgt (d+1) lf).2,?_,by omega,rfl,by simpa using hx⟩
       have:=r2 hb;rw[hb] at r1;have r1:=r1.symm;simp only[Bool.and_eq_true,decide_eq_true_eq] at r1;omega
     ·rintro _ S2 v b ⟨lf,l1,l2,rfl,hx⟩ hv N;simp at hv;simp[hv];rw[hx,List.drop_length] at hq;simpa[Node.rgts] using hq
   ·rw[hS'] at hq;refine M2 hm0 h7 ?_;have kb:Fm n=((D4 n.target).isSome&&decide (n.target.length≤256)):=by rw[Fm];simp only[q1,q2,q3,if_false,if_true]
    rw[kb] at hq;cases hsp:D4 n.target with
    |none=>
     rw[hsp] at hq;simpa using hq
    |some l=>
     rw[hsp] at hq;intro r _ _;have e:((n.target.length:Int)≤256)=(n.target.length≤256):=propext (by omega)
     simp[e];simpa using hq
   ·rw[hS'] at hq;have kb:Fm n=true:=by rw[Fm];simp only[q1,q2,q3,q4,if_false,if_true]
    rwa [kb] at hq
   ·rw[hS'] at hq;have kb:Fm n=false:=by rw[Fm];simp only[q1,q2,q3,q4,if_false,if_true]
    rwa [kb] at hq
theorem Yz{w0:World}(hm0:L2 w0){n:Node}{S:St}(hok:n.ok){Q:AV→St→Prop}(hq:∀S',Sx S S'→Q (.bool (D5 n)) S'):AC w0 NA [.agg n.c] S Q:=by
 have h1:=@Yy w0 hm0 n (S++[.cells [.int .i64 4096] FE]);rw[←db] at hq;rw[Node.c_eq] at h1 ⊢;apply W1;unfold Rb;have hS:(S++[Obj.cells [.int .i64 0] FE])[S.length]? =some (.cells [.int .i64 0] FE):=by simp
 simp[Be hS,AO]
 by_cases k:n.kind=2
 ·have k':(n.kind=2)=True:=eq_true k;simp only[k',decide_true,Bool.true_and] at hq;simp[k'];refine h1 (d:=0) (left:=4096) hok (by simp) (by omega) (by omega) (by omega) ?_
  simp;exact hq _ (Sx.app _ _)
 ·have k':(n.kind=2)=False:=eq_false k;simp only[k',decide_false,Bool.false_and] at hq;simp[k'];exact hq _ (Sx.app _ _)
open Go.Proofs
theorem Node.c_eq'(n:Node):n.c=[.int .i64 n.kind,.bool n.opq,.vs 1 (n.names.l.map Cw) n.names.r.strip,.vs 7 (n.items.map Node.c) n.ir.strip,.int .i64 n.size,.vs 2 (n.exts.map Ext.c) n.er.strip,.str n.target]:=n.c_eq
@[simp] theorem Node.c_drop(n:Node):n.c.drop 7=[]:=by rw[Node.c_eq];rfl
@[simp] theorem Node.zero_c(n:Node):7=n.c.length:=by simp
def K9(l:List Ext):Nat:=(l.map fun x=>x.data.length).sum
theorem fu(l:List Ext){i:Nat}{x:Ext}(h:l[i]? =some x):K9 (l.take (i+1))=K9 (l.take i)+x.data.length:=by
 rw[List.take_succ,h];simp[K9]
theorem Wn{n:Nat}:∀(l:List Ext),(∀x∈l,x.data.length≤n)→K9 l≤l.length*n
 |[],_=>by simp[K9]
 |x::l,h=>by
  have h1:=Wn l fun y hy=>h y (by simp[hy])
  have h2:=h x (by simp)
  simp only[K9,List.map_cons,List.sum_cons,List.length_cons,Nat.add_mul] at h1 ⊢;omega
theorem Zr(l:List Ext)(i:Nat):K9 (l.take i)≤K9 l:=by
 have:K9 (l.take i++l.drop i)=K9 (l.take i)+K9 (l.drop i):=by simp only[K9,List.map_append,List.sum_append]
 rw[List.take_append_drop] at this;omega
theorem Node.own_le{n:Node}(hok:n.ok):n.own≤3000000000000∧K9 n.exts≤1099511627776:=by
 rw[Node.ok_iff] at hok;obtain⟨h1,h2,h3,h4,h5,h6,h7⟩:=hok;have h8:=Wn (n:=1048576) n.exts (fun x hx=>(h6.2.2 x hx).2.2)
 have h9:n.exts.length*1048576≤1048576*1048576:=Nat.mul_le_mul_right _ h6.2.1;have h10:=h2.2.1;have h11:=h6.2.1;unfold Node.own;unfold K9 at h8 ⊢;exact⟨by omega,by omega⟩
theorem XC{w0:World}(n:Node):∀{S:St} {Q:AV→St→Prop} {id:Nat} {d left:Int},n.ok→S[id]? =some (.cells [.int .i64 left] FE)→-1000000≤d→d≤1000000→0≤left→left≤1000000000→
  Q (.bool (n.sml d left).1) (S.set id (.cells [.int .i64 (n.sml d left).2] FE))→AC w0 JN [.agg n.c,.int .i64 d,.ptr id 0] S Q:=by
 induction n using Node.ind with
 |h n ih=>
  intro S Q id d left hok hS hd1 hd2 hl1 hl2 hq;have hown:=Node.own_le hok;rw[Node.c_eq];apply Wc;unfold QO;rw[Node.sml_eq] at hq;rw[Node.ok_iff] at hok;obtain⟨h1,h2,h3,h4,h5,h6,h7⟩:=hok;have hl2':=h2.2.1;have hl6':=h6.2.1;simp[Ac hS,AO]
  try simp (disch:=omega) only[wrap64]
  simp[Be hS];have e0:∀i,K9 (n.exts.take i)≤K9 n.exts:=Zr n.exts;have how:n.own=1+n.names.l.length+n.exts.length+K9 n.exts+n.target.length:=rfl;refine BN n.exts (fun i (_:Unit)=>([.int .i64 i],[])) (fun i _ S2=>S2=S.set id (.cells [.int .i64 (left - (1+n.names.l.length+n.exts.length) - K9 (n.exts.take i))] FE)) () rfl (by simp[K9]) ?_ ?_
  ·rintro i _ S2 v b x c hxi hd hc hm rfl hv;simp at hv;have hS2:=Al (o':=.cells [.int .i64 (left - (1+n.names.l.length+n.exts.length) - K9 (n.exts.take i))] FE) hS;have e1:=e0 i;have e2:=e0 (i+1);have e3:=(h6.2.2 x hm).2.2;simp[hv,hc,hxi,Ac hS2]
   try simp (disch:=omega) only[wrap64]
   simp[Be hS2]
   try simp (disch:=omega) only[wrap64]
   refine .next c () rfl ?_;rw[fu _ hxi];congr 4;omega
  ·rintro _ S2 v b rfl hv N;simp at hv;have hS2:=Al (o':=.cells [.int .i64 (left - (1+n.names.l.length+n.exts.length) - K9 (n.exts.take n.exts.length))] FE) hS;rw[List.take_length] at hS2;have e1:=e0 n.exts.length;simp[hv,Ac hS2]
   try simp (disch:=omega) only[wrap64]
   simp[Be hS2];have e4:left - (1+(n.names.l.length:Int)+(n.exts.length:Int)) - (K9 n.exts:Int) - (n.target.length:Int)=left - n.own:=by omega
   rw[e4];have hS3:=Al (o':=.cells [.int .i64 (left - n.own)] FE) hS;simp[Ac hS3]
   by_cases c1:left - n.own < 0
   ·rw[if_pos (.inl c1)] at hq;have c1':left < n.own:=by omega
    simp[c1,c1'];exact hq
   have c1':¬left < n.own:=by omega
   by_cases c2:d < 0
   ·rw[if_pos (.inr c2)] at hq;simp[c1,c1',c2];exact hq
   rw[if_neg (by simp[c1,c2])] at hq
   simp[c1,c1',c2];refine BN n.items (fun i (_:Unit)=>([.int .i64 i],[])) (fun i _ S2=>∃lf:Int,0≤lf∧lf≤left∧S2=S.set id (.cells [.int .i64 lf] FE)∧Node.smls n.items (d - 1) (left - n.own)=Node.smls (n.items.drop i) (d - 1) lf) () rfl ⟨left - n.own,by omega,by omega,rfl,by simp⟩ ?_ ?_
   ·rintro i _ S2 v b x c hxi hd3 hc hm ⟨lf,l1,l2,rfl,hx⟩ hv;simp at hv;simp[hv,hc,hxi];have hS2:=Al (o':=.cells [.int .i64 lf] FE) hS;rw[Node.smls_drop hxi] at hx
    try simp (disch:=omega) only[wrap64]
    refine ih x hm (h4 x hm) hS2 (by omega) (by omega) l1 (by omega) ?_
    rw[List.set_set];cases hb:(x.sml (d - 1) lf).1 with
    |false=>
     rw[hx,hb] at hq;simpa using hq
    |true=>
     rw[hb] at hx;simp
     try simp (disch:=omega) only[wrap64]
     obtain⟨r1,r2,r3⟩:=x.sml_spec (d - 1) lf l1 hb;exact .next c () rfl ⟨(x.sml (d - 1) lf).2,r2,by omega,rfl,by simpa using hx⟩
   ·rintro _ S2 v b ⟨lf,l1,l2,rfl,hx⟩ hv N;simp at hv;simp[hv];rw[hx,List.drop_length] at hq;simpa[Node.smls] using hq
theorem Pw{w0:World}{n:Node}{S:St}(hok:n.ok){Q:AV→St→Prop}(hq:∀S',Sx S S'→Q (.int .i64 (if n.small=true then 1 else 0)) S'):AC w0 JH [.agg n.c] S Q:=by
 have h1:=@XC w0 n (S++[.cells [.int .i64 400] FE]);unfold Node.small at hq;rw[Node.c_eq] at h1 ⊢;apply VQ;unfold QE;have hS:(S++[Obj.cells [.int .i64 0] FE])[S.length]? =some (.cells [.int .i64 0] FE):=by simp
 simp[Be hS];refine h1 (d:=30) (left:=400) hok (by simp) (by omega) (by omega) (by omega) (by omega) ?_
 simp;have hq:=hq _ (Sx.app S [.cells [.int .i64 (n.sml 30 400).2] FE]);cases hb:(n.sml 30 400).1 with
 |false=>rw[hb] at hq;simpa using hq
 |true=>rw[hb] at hq;simpa using hq
theorem cd{w0:World}{S:St}{a b:Str}{Q:AV→St→Prop}(hq:Q (.bool (slt a b)) S):AC w0 H3 [.str a,.str b] S Q:=by
 apply Qf;unfold LH;apply Pd;unfold Kw;simp[AO];exact hq
theorem VZ{w0:World}{S:St}{l:List Str}{r:Rt}{s:Str}(hl:l.length≤1000000000)(hp:l.Pairwise (fun a b=>slt a b=true)){Q:AV→St→Prop}
  (hq:∀k:Nat,k≤l.length→(∀i x,i < k→l[i]? =some x→slt x s=true)→(∀i x,k≤i→l[i]? =some x→slt x s=false)→Q (.tup [.int .i64 k,.bool (decide (l[k]? =some s))]) S):
  AC w0 DO [.vs 1 (l.map Cw) r,.str s] S Q:=by
 apply GF;unfold EN;refine DX (fun j=>∀k:Nat,k≤l.length→(∀i x,i < k→l[i]? =some x→slt x s=true)→(∀i x,k≤i→l[i]? =some x→slt x s=false)→j (.int .i64 k) S) (fun k hk h1 h2=>?_) (fun j hj=>?_)
 ·have hq:=hq k hk h1 h2
  by_cases c:k < l.length
  ·obtain⟨x,hx,_,hc,_⟩:=bA c;have gx:l[k]=x:=(List.getElem?_eq_some_iff.1 hx).2;have e1:((k:Int) < (l.length:Int))=True:=by simp;exact c
   rw[hx] at hq;have e2:decide (some x=some s)=decide (x=s):=by simp
   rw[e2] at hq;have e3:(List.map Cw l)[k]? =some (Cw x):=by simp[hx]
   simp[AO,c,hx,gx]
   by_cases e:x=s
   ·subst e;simp at hq ⊢;exact hq
   ·simp[e] at hq ⊢;refine NC ?_;unfold Ik;simp;exact hq
  ·have e1:l[k]? =none:=by simp;omega
   rw[e1] at hq;simp[AO,c] at hq ⊢;exact hq
 ·refine Fw (fun p:Nat×Nat=>([.int .i64 p.1,.int .i64 p.2],[])) (fun m p S'=>S'=S∧m=p.2 - p.1∧p.1≤p.2∧p.2≤l.length∧(∀i x,i < p.1→l[i]? =some x→slt x s=true)∧(∀i x,p.2≤i→l[i]? =some x→slt x s=false)) l.length (0,l.length) (by simp) ⟨rfl,rfl,by simp,by simp,by intro i x h;omega,by
   intro i x h1 h2;have:=(List.getElem?_eq_some_iff.1 h2).1;omega⟩ ?_
  rintro m ⟨a,b⟩ S' v bx ⟨rfl,rfl,h1,h2,h3,h4⟩ hv;simp at hv h1 h2 h3 h4;obtain⟨hv1,hv2⟩:=hv;simp[hv1,hv2]
  by_cases c:a < b
  ·have e1:IntKind.i64.wrap ((a:Int)+b)=((a+b:Nat):Int):=by rw[wrap64 (by omega) (by omega)];omega
   have e2:IntKind.u64.wrap ((a+b:Nat):Int)=((a+b:Nat):Int):=by
    simp[IntKind.wrap,IntKind.bits,IntKind.signed];omega
   have e3:AP .shr (.int .u64 ((a+b:Nat):Int)) (.int .u64 1)=some (.int .u64 (((a+b) / 2:Nat):Int)):=by
    simp[AP,IntKind.bits];rw[Int.fdiv_eq_ediv_of_nonneg _ (by omega)]
   have hm:(a+b) / 2 < l.length:=by omega
   have e4:IntKind.i64.wrap (((a+b) / 2:Nat):Int)=(((a+b) / 2:Nat):Int):=wrap64 (by omega) (by omega)
   obtain⟨k,hk⟩:∃k,k=(a+b) / 2:=⟨_,rfl⟩;obtain⟨x,hx,_,hc,_⟩:=bA hm;rw[←hk] at e3 e4 hx hm;have gx:l[k]=x:=(List.getElem?_eq_some_iff.1 hx).2;simp only[e1];simp[c];have e2':IntKind.u64.wrap ((a:Int)+b)=(a:Int)+b:=by rw[show (a:Int)+b=((a+b:Nat):Int) by omega];exact e2
   have e3':AP .shr (.int .u64 ((a:Int)+b)) (.int .u64 1)=some (.int .u64 (k:Int)):=by rw[show (a:Int)+b=((a+b:Nat):Int) by omega];exact e3
   simp[e2',e3',e4,hx];refine cd ?_;cases hs:slt x s with
   |true=>
    simp
    try simp (disch:=omega) only[wrap64]
    refine⟨_,(k+1,b),by show b - (k+1) < b - a;omega,rfl,rfl,rfl,by show k+1≤b;omega,h2,?_,h4⟩
    intro i y hi hy
    by_cases e:i=k
    ·subst e;rw[hx] at hy;cases hy;exact hs
    ·have hi':i < k:=by simp at hi;omega
     have:=List.pairwise_iff_getElem.1 hp i k (List.getElem?_eq_some_iff.1 hy).1 hm hi';rw[(List.getElem?_eq_some_iff.1 hy).2,gx] at this;exact Fd this hs
   |false=>
    simp;refine⟨_,(a,k),by show k - a < b - a;omega,rfl,rfl,rfl,by show a≤k;omega,by show k≤l.length;omega,h3,?_⟩
    intro i y hi hy;simp at hi
    by_cases e:i=k
    ·subst e;rw[hx] at hy;cases hy;exact hs
    ·have hi':k < i:=by omega
     have:=List.pairwise_iff_getElem.1 hp k i hm (List.getElem?_eq_some_iff.1 hy).1 hi';rw[(List.getElem?_eq_some_iff.1 hy).2,gx] at this;cases h5:slt y s with
     |false=>rfl
     |true=>have:=Fd this h5;rw[hs] at this;cases this
  ·have:a=b:=by omega
   subst this;simp[c];exact hj a h2 h3 h4
theorem WI:∀(l:List Str) (p:Option Str),nchain p l=true→l.Pairwise (fun a b=>slt a b=true)∧(∀q,p=some q→∀x∈l,slt q x=true)∧∀x∈l,Es x=true
 |[],p,h=>by simp
 |s::l,p,h=>by
  rw[Oo] at h;simp only[Bool.and_eq_true] at h;obtain⟨⟨h1,h2⟩,h3⟩:=h;obtain⟨k1,k2,k3⟩:=WI l (some s) h3;refine⟨List.pairwise_cons.2 ⟨k2 s rfl,k1⟩,fun q e x hx=>?_,fun x hx=>?_⟩
  ·subst e;rcases List.mem_cons.1 hx with rfl|hx
   ·exact h2
   ·exact Fd h2 (k2 s rfl x hx)
  ·rcases List.mem_cons.1 hx with rfl|hx
   ·exact h1
   ·exact k3 x hx
def Node.none:Node:=.mk 0 false ⟨[],.nil⟩ [] .nil 0 [] .nil []
theorem Node.none_c:Node.none.c=[.int .i64 0,.bool false,.vs 1 [] .nil,.vs 7 [] .nil,.int .i64 0,.vs 2 [] .nil,.str []]:=by rw[Node.c_eq];rfl
def Node.find(n:Node)(s:Str):Option Node:=(n.names.l.findIdx? (fun x=>decide (x=s))).bind (n.items[·]?)
theorem kG{l:List Str}{s:Str}{k:Nat}(hp:l.Pairwise (fun a b=>slt a b=true))(h1:∀i x,i < k→l[i]? =some x→slt x s=true)(h2:∀i x,k≤i→l[i]? =some x→slt x s=false):
  l.findIdx? (fun x=>decide (x=s))=if l[k]? =some s then some k else Option.none:=by
 split
 ·rename_i h;rw[List.findIdx?_eq_some_iff_getElem];obtain⟨hk,he⟩:=List.getElem?_eq_some_iff.1 h;refine⟨hk,by simp[he],fun j hj=>?_⟩
  have:=h1 j _ hj (List.getElem?_eq_getElem (by omega))
  simp;intro e;rw[e,DH] at this;cases this
 ·rename_i h;rw[List.findIdx?_eq_none_iff];intro x hx;simp;intro e;subst e;obtain⟨i,hi⟩:=List.getElem?_of_mem hx
  by_cases c:i < k
  ·have:=h1 i _ c hi;rw[DH] at this;cases this
  ·by_cases e:i=k
   ·subst e;exact h hi
   ·have hil:=(List.getElem?_eq_some_iff.1 hi).1;have hkl:k < l.length:=by omega
    have h4:=h2 k l[k] (by omega) (List.getElem?_eq_getElem hkl)
    have h5:=List.pairwise_iff_getElem.1 hp k i hkl hil (by omega)
    rw[(List.getElem?_eq_some_iff.1 hi).2,h4] at h5;cases h5
theorem Q6{n:Node}(h:HQ n=true):nchain Option.none n.names.l=true∧n.names.l.length=n.items.length:=by
 simpa[HQ] using h
open Go.Proofs
def okR{α:Type}(r:Rt)(l:List α):Prop:=r.strip= .nil→l=[]
theorem iG{α:Type}{l:List α}:okR .none l:=fun e=>by cases e
theorem WR{α:Type}{l:List α}:okR .full l:=fun e=>by cases e
theorem kN{α:Type}:okR .nil ([]:List α):=fun _=>rfl
theorem TP{ei:TI}{sz:Nat}(hsz:ei.size=sz){es:List (List AV)}{r:Rt}{S:St}(hr:okR r es)(hl:es.length≤lim){K:AV→Prop}(hq:∀r',okR r' es→K (.vs sz es r')):
  AA (Ic .slice .eql (.vs sz es r.strip) (.vs sz [] .nil)) fun t4=>ifK t4 (K (.vs sz [] .nil)) (AA (Aj ei S (.vs sz [] .full) (.vs sz es r.strip)) K):=by
 simp only[Ic,eqA,Option.map_some,AF]
 by_cases c:r.strip= .nil
 ·have e:=hr c;subst e;have:(r.strip==Rt.nil)=true:=by rw[c];rfl
  rw[this,Cf];exact hq .nil kN
 ·have:(r.strip==Rt.nil)=false:=by cases h:r.strip<;>simp_all
  rw[this,CP];subst hsz
  by_cases e:es=[]
  ·subst e;simp[Aj,BO];exact hq .full WR
  ·simp[Aj,BO,e,hl];exact hq _ (fun e=>by cases e)
theorem OY{w0:World}{S:St}{l:List Str}{r:Rt}(hr:okR r l)(hl:l.length≤100000000){Q:AV→St→Prop}(hq:∀r',okR r' l→Q (.vs 1 (l.map Cw) r') S):AC w0 CH [.vs 1 (l.map Cw) r] S Q:=by
 apply Id;unfold FY;exact TP (ei:=AH) (sz:=1) (es:=l.map Cw) (K:=fun t=>Q t S) rfl (fun e=>by simp[hr e]) (by simp[lim];omega) (fun r' h=>hq r' (fun e=>by simpa using h e))
theorem Za{w0:World}{S:St}{l:List Node}{r:Rt}(hr:okR r l)(hl:l.length≤100000000){Q:AV→St→Prop}(hq:∀r',okR r' l→Q (.vs 7 (l.map Node.c) r') S):AC w0 Di [.vs 7 (l.map Node.c) r] S Q:=by
 apply G9;unfold Eq;exact TP (ei:=AG) (sz:=7) (es:=l.map Node.c) (K:=fun t=>Q t S) rfl (fun e=>by simp[hr e]) (by simp[lim];omega) (fun r' h=>hq r' (fun e=>by simpa using h e))
theorem az{w0:World}{S:St}{l:List Ext}{r:Rt}(hr:okR r l)(hl:l.length≤100000000){Q:AV→St→Prop}(hq:∀r',okR r' l→Q (.vs 2 (l.map Ext.c) r') S):AC w0 DK [.vs 2 (l.map Ext.c) r] S Q:=by
 apply GD;unfold EJ;exact TP (ei:=Bt) (sz:=2) (es:=l.map Ext.c) (K:=fun t=>Q t S) rfl (fun e=>by simp[hr e]) (by simp[lim];omega) (fun r' h=>hq r' (fun e=>by simpa using h e))
def Qy(opq:Bool)(l:List Str)(r1:Rt)(items:List Node)(r2:Rt):Node:=.mk 2 opq ⟨l,r1⟩ items r2 0 [] .nil []
theorem Zp{o:Bool}{l:List Str}{items:List Node}{q1 q2:Rt}(hl:l.length≤1048576∧∀s∈l,s.length≤1048576)(hi:items.length≤1048576∧∀x∈items,x.ok)(k1:okR q1 l)(k2:okR q2 items):(Qy o l q1 items q2).ok:=by
 rw[Node.ok_iff];refine⟨by simp[Qy,Node.kind,I64],⟨fun e=>k1 (by simp[Qy,Node.names] at e;simp[e]),hl⟩,⟨k2,hi.1⟩,hi.2,by simp[Qy,Node.size,I64],by simp[Qy,Node.exts,Node.er],by simp[Qy,Node.target]⟩
theorem cq{w0:World}{S:St}{l:List Str}{items:List Node}{r1 r2:Rt}(h1:okR r1 l)(h2:okR r2 items)(hl1:l.length≤100000000)(hl2:items.length≤100000000){Q:AV→St→Prop}
  (hq:∀q1 q2,okR q1 l→okR q2 items→Q (.agg (Qy false l q1 items q2).c) S):AC w0 RD [.vs 1 (l.map Cw) r1,.vs 7 (items.map Node.c) r2] S Q:=by
 apply bM;unfold VO;refine OY (fun e=>h1 (by simpa using e)) hl1 (fun q1 k1=>?_)
 refine Za (fun e=>h2 (by simpa using e)) hl2 (fun q2 k2=>?_)
 have hq:=hq q1 q2 k1 k2;rw[Node.c_eq] at hq;simp;exact hq
theorem bh{w0:World}{S:St}{t:Str}{Q:AV→St→Prop}(hq:Q (.agg (Node.mk 3 false ⟨[],.nil⟩ [] .nil 0 [] .nil t).c) S):AC w0 O5 [.str t] S Q:=by
 apply Yl;unfold Tt;rw[Node.c_eq] at hq;exact hq
@[simp] theorem oN{α:Type}{r:α→Prop}{x:α}:AY r (fun j=>j x)=r x:=rfl
end Go.Av
