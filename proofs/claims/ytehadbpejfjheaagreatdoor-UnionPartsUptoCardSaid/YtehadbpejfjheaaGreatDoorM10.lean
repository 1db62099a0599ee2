/- Parts of the proofs of this seat: abstract values over the model, and what the functions of the program do. No condition. -/
import Derived.Test.YtehadbpejfjheaaGreatDoorM8
import Derived.Test.YtehadbpejfjheaaGreatDoorM7
import Derived.DataReads
import Derived.ChangeShapes
import Derived.ChangeArms
set_option linter.all false
set_option maxRecDepth 100000
namespace Go.Av
open Go.RowKit
inductive Ty(P:Program)(B:Nat):TypeId→List AV→Prop where
 |bool {t:TypeId} (b:Bool) (h:P.underlying t=some .bool):Ty P B t [.bool b]
 |int {t:TypeId} {k:IntKind} (n:Int) (h:P.underlying t=some (.int k)) (hw:(Lit.int k n).wf=true):Ty P B t [.int k n]
 |str {t:TypeId} (l:List UInt8) (h:P.underlying t=some .string) (hl:l.length≤B):Ty P B t [.str l]
 |nil {t e:TypeId} (h:P.underlying t=some (.slice e)):Ty P B t [.vs (P.cellsOf e) [] .nil]
 |slice {t e:TypeId} (es:List (List AV)) (h:P.underlying t=some (.slice e)) (hl:es.length≤B) (he:∀x∈es,Ty P B e x):Ty P B t [.vs (P.cellsOf e) es .none]
 | struct {t : TypeId} {fs : Array Field} (xs : List AV) (h : P.underlying t = some (.struct fs)) (hl : xs.length = P.cellsOf t)
   (hf:∀f∈fs.toList,Ty P B f.type ((xs.drop f.offset).take (P.cellsOf f.type))):Ty P B t xs
 | array {t e : TypeId} {n : Nat} (xs : List AV) (h : P.underlying t = some (.array n e)) (hl : xs.length = P.cellsOf t)
   (hf:∀i,i < n→Ty P B e ((xs.drop (i*P.cellsOf e)).take (P.cellsOf e))):Ty P B t xs
def ET(P:Program):List Field→Nat→Option Nat
 |[],o=>some o
 |f::fs,o=>if f.offset=o then ET P fs (o+P.cellsOf f.type) else none
def Ko(P:Program)(L:List TypeId)(t:TypeId):Bool:=
 match P.underlying t with
 |some .bool=>P.cellsOf t==1
 |some (.int _)=>P.cellsOf t==1
 |some .string=>P.cellsOf t==1
 |some (.slice e)=>P.cellsOf t==1&&L.contains e&&decide (0 < P.cellsOf e)
 |some (.struct fs)=>ET P fs.toList 0==some (P.cellsOf t)&&fs.toList.all fun f=>L.contains f.type
 |some (.array n e)=>P.cellsOf t==n*P.cellsOf e&&L.contains e
 |_=>false
def good(x:AV):Prop:=x.cell1=true∧x.strip1=x
def CR(W:World)(cs:List Value)(xs:List AV):Prop:=xs.length=cs.length∧(∀x∈xs,good x)∧∀(i:Nat) (x:AV) (v:Value),xs[i]? =some x→cs[i]? =some v→VR (G0 W) v x
theorem CR.one{W:World}{v:Value}{x:AV}(h:VR (G0 W) v x)(g:good x):CR W [v] [x]:=
 ⟨rfl,fun y hy=>by rw[List.mem_singleton.1 hy];exact g,fun i y u hy hu=>by
  cases i with
  |zero=>simp at hy hu;subst hy hu;exact h
  |succ i=>simp at hy⟩
theorem CR.nil{W:World}:CR W [] []:=⟨rfl,by simp,by simp⟩
theorem CR.append{W:World}{cs ds:List Value}{xs ys:List AV}(h:CR W cs xs)(k:CR W ds ys):CR W (cs++ds) (xs++ys):=by
 refine⟨by simp[h.1,k.1],fun x hx=>?_,fun i x v hx hv=>?_⟩
 ·rcases List.mem_append.1 hx with hx|hx
  ·exact h.2.1 x hx
  ·exact k.2.1 x hx
 ·by_cases c:i < xs.length
  ·rw[List.getElem?_append_left c] at hx;rw[List.getElem?_append_left (by rw[←h.1];exact c)] at hv
   exact h.2.2 i x v hx hv
  ·rw[List.getElem?_append_right (by omega)] at hx
   rw[List.getElem?_append_right (by have:=h.1;omega)] at hv
   rw[←h.1] at hv;exact k.2.2 _ x v hx hv
section
variable {H:Type} {enc:TypeId×Value→H} {P:Program} {W:World} {B:Nat} {bd:DataW H→Prop}
structure Bdd(B:Nat)(bd:DataW H→Prop):Prop where
 str:∀l,bd (.lit (.string l))→l.length≤B
 sl:∀e s,bd (.slice e s)→e.length≤B∧(∀d∈e,bd d)∧∀d∈s,bd d
 agg:∀ps,bd (.agg ps)→∀d∈ps,bd d
abbrev Rd(enc:TypeId×Value→H)(P:Program)(W:World)(fuel:Nat):=DataW.trod enc P W 0 (fun _=>true) true fuel
def Reads(P:Program)(B:Nat)(W:World)(t:TypeId)(cs:List Value):Prop:=∃xs,Ty P B t xs∧CR W cs xs
theorem RT{fuel:Nat}{L:List TypeId}(ih:∀t cs d,t∈L→Rd enc P W fuel t cs=some d→bd d.1→Reads P B W t cs)(cs:List Value)(e:Nat)(he:e≤cs.length):
  ∀(fs:List Field) (o:Nat) (ds:List (DataW H×List MemPlace)),o≤e→ET P fs o=some e→(∀f∈fs,f.type∈L)→
   (∀(i:Nat) (f:Field),fs[i]? =some f→∃d,Rd enc P W fuel f.type ((cs.drop f.offset).take (P.cellsOf f.type))=some d∧bd d.1)→
   (∃xs,CR W ((cs.drop o).take (e - o)) xs∧∀f∈fs,o≤f.offset∧Ty P B f.type ((xs.drop (f.offset - o)).take (P.cellsOf f.type)))
 |[],o,ds,ho,hs,hL,hr=>by
  simp[ET] at hs;subst hs;exact⟨[],by simpa using CR.nil,by simp⟩
 |f::fs,o,ds,ho,hs,hL,hr=>by
  simp only[ET] at hs;split at hs
  case isFalse=>cases hs
  rename_i hof;have hmono:∀(fs:List Field) (o e:Nat),ET P fs o=some e→o≤e:=by
   intro fs
   induction fs with
   |nil=>intro o e h;simp[ET] at h;omega
   |cons f fs ih=>
    intro o e h;simp only[ET] at h;split at h
    ·have:=ih _ _ h;omega
    ·cases h
  have ho':=hmono _ _ _ hs;obtain⟨xs,hx,hxf⟩:=RT ih cs e he fs (o+P.cellsOf f.type) ds ho' hs (fun g hg=>hL g (List.mem_cons_of_mem _ hg)) (fun i g hg=>hr (i+1) g (by simpa using hg))
  obtain⟨d,hd,hbd⟩:=hr 0 f rfl;obtain⟨ys,hy,hyc⟩:=ih _ _ _ (hL f (List.mem_cons_self)) hd hbd;rw[hof] at hyc;have hyl:ys.length=P.cellsOf f.type:=by rw[hyc.1];simp;omega
  refine⟨ys++xs,?_,fun g hg=>?_⟩
  ·have:=hyc.append hx;have e2:(cs.drop o).take (e - o)=(cs.drop o).take (P.cellsOf f.type)++(cs.drop (o+P.cellsOf f.type)).take (e - (o+P.cellsOf f.type)):=by
    rw[←List.drop_drop,show e - o=P.cellsOf f.type+(e - (o+P.cellsOf f.type)) from by omega,List.take_add]
   rw[e2];exact this
  ·rcases List.mem_cons.1 hg with rfl|hg
   ·refine⟨by omega,?_⟩
    rw[hof,Nat.sub_self,List.drop_zero,List.take_append_of_le_length (by omega),List.take_of_length_le (by omega)]
    exact hy
   ·obtain⟨h1,h2⟩:=hxf g hg;refine⟨by omega,?_⟩
    rw[List.drop_append,List.drop_of_length_le (by omega),List.nil_append,hyl,show g.offset - o - P.cellsOf f.type=g.offset - (o+P.cellsOf f.type) from by omega]
    exact h2
theorem W1{fuel n:Nat}{e:TypeId}(ih:∀cs d,Rd enc P W fuel e cs=some d→bd d.1→Reads P B W e cs)(cs:List Value)(hr:∀i,i < n→∃d,Rd enc P W fuel e ((cs.drop (i*P.cellsOf e)).take (P.cellsOf e))=some d∧bd d.1)(hn:n*P.cellsOf e≤cs.length):
  ∃xs,CR W (cs.take (n*P.cellsOf e)) xs∧∀i,i < n→Ty P B e ((xs.drop (i*P.cellsOf e)).take (P.cellsOf e)):=by
 induction n with
 |zero=>exact⟨[],by simpa using CR.nil,by simp⟩
 |succ n ihn=>
  rw[Nat.add_mul,Nat.one_mul] at hn;obtain⟨xs,h1,h2⟩:=ihn (fun i hi=>hr i (by omega)) (by omega)
  obtain⟨d,hd,hbd⟩:=hr n (by omega)
  obtain⟨ys,hy,hyc⟩:=ih _ _ hd hbd;have hxl:xs.length=n*P.cellsOf e:=by rw[h1.1];simp;omega
  have hyl:ys.length=P.cellsOf e:=by rw[hyc.1];simp;omega
  refine⟨xs++ys,?_,fun i hi=>?_⟩
  ·rw[Nat.add_mul,Nat.one_mul,List.take_add];exact h1.append hyc
  ·by_cases c:i < n
   ·have:i*P.cellsOf e+P.cellsOf e≤n*P.cellsOf e:=by
     have:=Nat.mul_le_mul_right (P.cellsOf e) (show i+1≤n from c)
     rw[Nat.add_mul,Nat.one_mul] at this;exact this
    rw[List.drop_append_of_le_length (by omega),List.take_append_of_le_length (by rw[List.length_drop];omega)]
    exact h2 i c
   ·have hi':i=n:=by omega
    subst hi';rw[←hxl,List.drop_left,List.take_of_length_le (by omega)]
    exact hy
theorem PC{b o n:Nat}:(⟨b,o,none⟩:Addr).add n=⟨b,o+n,none⟩:=by
 unfold Addr.add;split
 ·rename_i h;subst h;rfl
 ·rfl
theorem PP{W:World}{a:Addr}{n:Nat}{cs:List Value}(h:W.cells? 0 a n=some cs):cs.length=n∧∀j,j < n→W.cell? (a.add j)=cs[j]?:=by
 unfold World.cells? at h;rw[if_pos (Nat.zero_le _)] at h;refine⟨by rw[mapM_some_length h];simp,fun j hj=>?_⟩
 exact mapM_some_get h j j (by simp[hj])
theorem W8{W:World}{a:Addr}{v:Value}(h:W.cell? a=some v):a.spot=none:=by
 unfold World.cell? at h;split at h
 ·split at h
  ·cases h
  ·rename_i k;simpa using k
 ·cases h
theorem X7{fuel:Nat}{e:TypeId}{a:Addr}{len cap:Nat}(ih:∀cs d,Rd enc P W fuel e cs=some d→bd d.1→Reads P B W e cs)(hn:0 < P.cellsOf e)(hlc:len≤cap)
  (hr:∀i,i < cap→∃d,((W.cells? 0 (a.add (i*P.cellsOf e)) (P.cellsOf e)).bind (Rd enc P W fuel e))=some d∧bd d.1):
  ∃es:List (List AV),es.length=len∧(∀x∈es,Ty P B e x)∧VR (G0 W) (.slice (some a) len cap) (.vs (P.cellsOf e) es .none):=by
 by_cases hc:cap=0
 ·subst hc;obtain rfl:len=0:=by omega
  exact⟨[],rfl,by simp,.vse a _ _ (.inl rfl)⟩
 have hd:∀i,i < cap→∃cs,W.cells? 0 (a.add (i*P.cellsOf e)) (P.cellsOf e)=some cs∧Reads P B W e cs:=fun i hi=>by
  obtain⟨d,hd,hbd⟩:=hr i hi;cases hcs:W.cells? 0 (a.add (i*P.cellsOf e)) (P.cellsOf e) with
  |none=>rw[hcs] at hd;cases hd
  |some cs=>rw[hcs] at hd;exact⟨cs,rfl,ih _ _ hd hbd⟩
 have hsp:a.spot=none:=by
  obtain⟨cs,h1,_⟩:=hd 0 (by omega)
  have:=(PP h1).2 0 hn;rw[Nat.zero_mul] at this;have hl:=(PP h1).1;rw[List.getElem?_eq_getElem (by omega)] at this
  exact W8 this
 obtain⟨b,o,sp⟩:=a;simp only at hsp;subst hsp;have hex:∀i:Nat,∃xs:List AV,i < len→Ty P B e xs∧xs.length=P.cellsOf e∧(∀x∈xs,good x)∧∀(j:Nat) (x:AV),xs[j]? =some x→∃v,W.cell? ⟨b,o+i*P.cellsOf e+j,none⟩=some v∧VR (G0 W) v x:=fun i=>by
  by_cases hi:i < len
  case neg=>exact⟨[],fun h=>(hi h).elim⟩
  obtain⟨cs,h1,xs,h2,h3⟩:=hd i (by omega)
  obtain⟨hl,hcell⟩:=PP h1;refine⟨xs,fun _=>⟨h2,by rw[h3.1,hl],h3.2.1,fun j x hx=>?_⟩⟩
  have hj:j < cs.length:=by rw[←h3.1];exact(List.getElem?_eq_some_iff.1 hx).1
  have:=hcell j (by omega)
  rw[PC,PC,List.getElem?_eq_getElem hj] at this;exact⟨_,this,h3.2.2 j x _ hx (List.getElem?_eq_getElem hj)⟩
 let g:Nat→List AV:=fun i=>Classical.choose (hex i)
 have hg:=fun i=>Classical.choose_spec (hex i)
 have hgi:∀(i:Nat) (x:List AV),((List.range len).map g)[i]? =some x→i < len∧x=g i:=fun i x h=>by
  simp only[List.getElem?_map,Option.map_eq_some_iff] at h;obtain⟨k,hk,rfl⟩:=h;obtain⟨hk1,hk2⟩:=List.getElem?_eq_some_iff.1 hk;simp at hk1 hk2;exact⟨hk1,by rw[hk2]⟩
 have hmem:∀x∈(List.range len).map g,∃i,i < len∧x=g i:=fun x hx=>by
  obtain⟨i,hi,rfl⟩:=List.mem_map.1 hx;exact⟨i,List.mem_range.1 hi,rfl⟩
 refine⟨(List.range len).map g,by simp,fun x hx=>?_,?_⟩
 ·obtain⟨i,hi,rfl⟩:=hmem x hx;exact(hg i hi).1
 ·have key:=VR.vs (G:=G0 W) b o cap (P.cellsOf e) ((List.range len).map g) .none (fun i j=>(W.cell? ⟨b,o+i*P.cellsOf e+j,none⟩).getD .nilFunc) (by simp) (by simpa using hlc) (by simp)
   (fun x hx=>by
    obtain⟨i,hi,rfl⟩:=hmem x hx;exact⟨(hg i hi).2.1,fun y hy=>((hg i hi).2.2.1 y hy).1⟩)
   (fun i x j y hi hj=>by
    obtain⟨hl,rfl⟩:=hgi i x hi;obtain⟨v,h1,h2⟩:=(hg i hl).2.2.2 j y hj
    show W.cell? _=_
    rw[h1];rfl)
   (fun i x j y hi hj=>by
    obtain⟨hl,rfl⟩:=hgi i x hi;obtain⟨v,h1,h2⟩:=(hg i hl).2.2.2 j y hj;rw[h1];exact h2)
  simpa using key
theorem Ti(hB:Bdd B bd){L:List TypeId}(hL:L.all (Ko P L)=true):∀(fuel:Nat) (t:TypeId) (cs:List Value) (d:DataW H×List MemPlace),t∈L→Rd enc P W fuel t cs=some d→bd d.1→Reads P B W t cs
 |0,t,cs,d,ht,h,hbd=>by simp[Rd,DataW.trod] at h
 |fuel+1,t,cs,d,ht,h,hbd=>by
  have hp:=List.all_eq_true.1 hL t ht;have ih:=fun t cs d ht=>Ti hB hL fuel t cs d ht
  unfold Ko at hp;simp only[Rd] at h;cases hu:P.underlying t with
  |none=>simp[hu] at hp
  |some td=>
   rw[hu] at hp;cases td<;>simp only[Bool.false_eq_true] at hp
   case bool=>
    obtain⟨b,rfl,_⟩:=DataW.trod_bool hu h;exact⟨_,.bool b hu,.one (.bool b) ⟨rfl,rfl⟩⟩
   case int k=>
    obtain⟨n,rfl,_,hw⟩:=DataW.trod_int hu h;exact⟨_,.int n hu hw,.one (.int k n) ⟨rfl,rfl⟩⟩
   case string=>
    obtain⟨s,rfl,rfl,hl⟩:=DataW.trod_string hu h;obtain⟨⟨l⟩⟩:=s;exact⟨_,.str l hu (hB.str _ hbd),.one (.str l) ⟨rfl,rfl⟩⟩
   case slice e=>
    simp only[Bool.and_eq_true,List.contains_iff_mem,decide_eq_true_eq,beq_iff_eq] at hp;rcases DataW.trod_slice hu h with ⟨rfl,_⟩|⟨a,len,cap,elems,rest,n,hn,rfl,rfl,_,hlc,hcm,hel,he1,he2⟩
    ·exact⟨_,.nil hu,.one (.vsnil _) ⟨rfl,rfl⟩⟩
    ·obtain rfl:n=fuel:=by omega
     obtain⟨hr1,hr2⟩:=he2;obtain⟨g1,g2,g3⟩:=hB.sl _ _ hbd;have g2:∀x∈elems,bd x.1:=fun x hx=>g2 _ (List.mem_map_of_mem hx)
     have g3:∀x∈rest,bd x.1:=fun x hx=>g3 _ (List.mem_map_of_mem hx)
     obtain⟨es,h1,h2,h3⟩:=X7 (P:=P) (W:=W) (a:=a) (len:=len) (cap:=cap) (fun cs d h hb=>ih e cs d hp.1.2 h hb) hp.2 hlc (fun i hi=>by
      by_cases c:i < len
      ·exact⟨_,(he1 i c).trans (List.getElem?_eq_getElem (by omega)),g2 _ (List.getElem_mem _)⟩
      ·have:=(hr1 rfl).2 (i - len) (by omega)
       rw[show len+(i - len)=i from by omega] at this
       exact⟨_,this.trans (List.getElem?_eq_getElem (by have:=(hr1 rfl).1;omega)),g3 _ (List.getElem_mem _)⟩)
     exact⟨_,.slice es hu (by simp at g1;omega) h2,.one h3 ⟨rfl,rfl⟩⟩
   case struct fs=>
    simp only[Bool.and_eq_true,beq_iff_eq,List.all_eq_true,List.contains_iff_mem] at hp;obtain⟨ds,n,hn,rfl,hl,hdl,hf⟩:=DataW.trod_struct hu h;have g:∀x∈ds,bd x.1:=fun x hx=>hB.agg _ hbd _ (List.mem_map_of_mem hx)
    obtain rfl:n=fuel:=by omega
    obtain⟨xs,h1,h2⟩:=RT (enc:=enc) (L:=L) (fun t cs d ht h hb=>ih t cs d ht h hb) cs (P.cellsOf t) (by omega) fs.toList 0 [] (Nat.zero_le _) hp.1 hp.2 (fun i f hi=>by
     have hi':fs[i]? =some f:=by simpa using hi
     have:=hf i f hi';have hlt:=(Array.getElem?_eq_some_iff.1 hi').1;exact⟨_,this.trans (List.getElem?_eq_getElem (by omega)),g _ (List.getElem_mem _)⟩)
    rw[List.drop_zero,Nat.sub_zero,List.take_of_length_le (by omega)] at h1
    exact⟨xs,.struct xs hu (by rw[h1.1,hl]) (fun f hf=>by simpa using (h2 f hf).2),h1⟩
   case array n e=>
    simp only[Bool.and_eq_true,beq_iff_eq,List.contains_iff_mem] at hp;unfold DataW.trod at h;simp only[hu] at h;split at h
    case isFalse=>cases h
    rename_i hl;simp only[Option.map_eq_some_iff] at h;obtain⟨ds,hm,rfl⟩:=h;have g:∀x∈ds,bd x.1:=fun x hx=>hB.agg _ hbd _ (List.mem_map_of_mem hx)
    have hdl:=mapM_some_length hm;obtain⟨xs,h1,h2⟩:=W1 (enc:=enc) (n:=n) (fun cs d h hb=>ih e cs d hp.2 h hb) cs (fun i hi=>by
     have:=mapM_some_get hm i i (by simp[hi])
     exact⟨_,this.trans (List.getElem?_eq_getElem (by rw[hdl];simpa using hi)),g _ (List.getElem_mem _)⟩) (by omega)
    rw[List.take_of_length_le (by omega)] at h1
    exact⟨xs,.array xs hu (by rw[h1.1,hl]) h2,h1⟩
def isAgg(P:Program)(t:TypeId):Bool:=match P.underlying t with|some (.struct _)|some (.array _ _)=>true|_=>false
def TyV(P:Program)(B:Nat)(t:TypeId)(x:AV):Prop:=(isAgg P t=true∧∃xs,x= .agg xs∧Ty P B t xs)∨(isAgg P t=false∧Ty P B t [x])
theorem Ib{x:AV}(h:x.cell1=true):x.free1=true:=by
 unfold AV.cell1 at h;simp at h;exact h.1
theorem O6{r:Reach}{b0:Nat}{t:TypeId}{v:Value}{td:TypeDesc}(hu:P.underlying t=some td)(hk:td= .bool∨(∃k,td= .int k)∨td= .string∨∃e,td= .slice e)(hval:Value.okWide P W r b0 t v):v.cells=#[v]:=by
 rcases hk with rfl|⟨k,rfl⟩|rfl|⟨e,rfl⟩<;>
 ·simp only[Value.okWide,hu,Cell.okWide] at hval;cases v<;>first|rfl|simp_all [Cell.ok]
theorem bf(hB:Bdd B bd){L:List TypeId}(hL:L.all (Ko P L)=true){t:TypeId}(ht:t∈L){r:Reach}{b0:Nat}{v:Value}{d:DataW H}{ps:List MemPlace}(hval:Value.okWide P W r b0 t v)
  (h:DataW.Trod enc P W 0 (fun _=>true) true t v d ps) (hbd:bd d):∃x,TyV P B t x∧VR (G0 W) v x∧x.free=true∧x.strip=x:=by
 obtain⟨fuel,hf⟩:=h;obtain⟨xs,h1,h2⟩:=Ti hB hL fuel t _ _ ht hf hbd;have hp:=List.all_eq_true.1 hL t ht;unfold Ko at hp;have agg:isAgg P t=true→(∃cs,v= .agg cs)→∃x,TyV P B t x∧VR (G0 W) v x∧x.free=true∧x.strip=x:=by
  rintro ha ⟨cs,rfl⟩;refine⟨.agg xs,.inl ⟨ha,xs,rfl,h1⟩,.agg xs cs (by have:=h2.1;simp[Value.cells] at this;omega) (fun i x v hx hv=>h2.2.2 i x v hx (by simpa[Value.cells] using hv)),?_,?_⟩
  ·show xs.all AV.free1=true
   exact List.all_eq_true.2 fun x hx=>Ib (h2.2.1 x hx).1
  ·show AV.agg (xs.map AV.strip1)= .agg xs
   rw[List.map_congr_left (g:=_root_.id) (fun x hx=>(h2.2.1 x hx).2),List.map_id]
 have one:isAgg P t=false→v.cells=#[v]→∃x,TyV P B t x∧VR (G0 W) v x∧x.free=true∧x.strip=x:=by
  intro ha hc;rw[hc] at h2;obtain⟨x,rfl⟩:∃x,xs=[x]:=by
   have:=h2.1
   match xs,this with
   |[x],_=>exact⟨x,rfl⟩
  have hg:=h2.2.1 x (by simp)
  have hv:=h2.2.2 0 x v rfl rfl;refine⟨x,.inr ⟨ha,h1⟩,hv,?_,?_⟩
  ·have:=Ib hg.1;cases x<;>simp_all [AV.free,AV.free1]
  ·have:=hg.2;have h3:=Ib hg.1;cases x<;>simp_all [AV.strip,AV.strip2,AV.free1]
 cases hu:P.underlying t with
 |none=>simp[hu] at hp
 |some td=>
  rw[hu] at hp;cases td<;>simp only[Bool.false_eq_true] at hp
  case bool=>exact one (by simp[isAgg,hu]) (O6 hu (.inl rfl) hval)
  case int k=>exact one (by simp[isAgg,hu]) (O6 hu (.inr (.inl ⟨k,rfl⟩)) hval)
  case string=>exact one (by simp[isAgg,hu]) (O6 hu (.inr (.inr (.inl rfl))) hval)
  case slice e=>exact one (by simp[isAgg,hu]) (O6 hu (.inr (.inr (.inr ⟨e,rfl⟩))) hval)
  case struct fs=>
   simp only[Value.okWide,hu] at hval;obtain⟨cs,h,_⟩:=hval;exact agg (by simp[isAgg,hu]) ⟨cs,h⟩
  case array n e=>
   simp only[Value.okWide,hu] at hval;obtain⟨cs,h,_⟩:=hval;exact agg (by simp[isAgg,hu]) ⟨cs,h⟩
theorem WZ(hB:Bdd B bd){L:List TypeId}(hL:L.all (Ko P L)=true){r:Reach}{b0:Nat}:∀(ts:List TypeId) (vs:List Value) (ds:List (DataW H)) (ps:List MemPlace),(∀t∈ts,t∈L)→DataW.TrodAll enc P W 0 (fun _=>true) true ts vs ds ps→(∀d∈ds,bd d)→
  (∀(j:Nat) (t:TypeId) (v:Value),ts[j]? =some t→vs[j]? =some v→Value.okWide P W r b0 t v)→
  ∃xs:List AV,xs.length=vs.length∧ts.length=vs.length∧ds.length=vs.length∧(∀(j:Nat) (t:TypeId) (x:AV),ts[j]? =some t→xs[j]? =some x→TyV P B t x)∧
   ∀(j:Nat) (x:AV) (v:Value),xs[j]? =some x→vs[j]? =some v→VR (G0 W) v x∧x.free=true∧x.strip=x
 |[],[],[],_,_,_,_,_=>⟨[],rfl,rfl,rfl,by simp,by simp⟩
 |t::ts,v::vs,d::ds,ps,hT,⟨p,q,h1,h2,_⟩,hbd,hv=>by
  obtain⟨xs,e1,e2,e3,e4,e5⟩:=WZ hB hL ts vs ds q (fun t ht=>hT t (List.mem_cons_of_mem _ ht)) h2 (fun d hd=>hbd d (by simp[hd])) (fun j t v h h'=>hv (j+1) t v h h')
  obtain⟨x,k1,k2,k3,k4⟩:=bf hB hL (hT t List.mem_cons_self) (hv 0 t v rfl rfl) h1 (hbd d (by simp))
  refine⟨x::xs,by simp[e1],by simp[e2],by simp[e3],fun j u y hu hy=>?_,fun j y u hy hu=>?_⟩
  ·cases j with
   |zero=>simp at hu hy;subst hu hy;exact k1
   |succ j=>exact e4 j u y (by simpa using hu) (by simpa using hy)
  ·cases j with
   |zero=>simp at hu hy;subst hu hy;exact⟨k2,k3,k4⟩
   |succ j=>exact e5 j y u (by simpa using hy) (by simpa using hu)
end
section
variable {P:Program} {B:Nat}
theorem Ty.bool_inv{t:TypeId}{xs:List AV}(h:Ty P B t xs)(hu:P.underlying t=some .bool):∃b,xs=[.bool b]:=by
 cases h with
 |bool b h=>exact⟨b,rfl⟩
 |int n h _=>rw[hu] at h;cases h
 |str l h _=>rw[hu] at h;cases h
 |nil h=>rw[hu] at h;cases h
 |slice es h _ _=>rw[hu] at h;cases h
 |struct xs h _ _=>rw[hu] at h;cases h
 |array xs h _ _=>rw[hu] at h;cases h
theorem Ty.int_inv{t:TypeId}{k:IntKind}{xs:List AV}(h:Ty P B t xs)(hu:P.underlying t=some (.int k)):∃n,xs=[.int k n]∧(Lit.int k n).wf=true:=by
 cases h with
 |bool b h=>rw[hu] at h;cases h
 |int n h hw=>rw[hu] at h;cases h;exact⟨n,rfl,hw⟩
 |str l h _=>rw[hu] at h;cases h
 |nil h=>rw[hu] at h;cases h
 |slice es h _ _=>rw[hu] at h;cases h
 |struct xs h _ _=>rw[hu] at h;cases h
 |array xs h _ _=>rw[hu] at h;cases h
theorem Ty.str_inv{t:TypeId}{xs:List AV}(h:Ty P B t xs)(hu:P.underlying t=some .string):∃l,xs=[.str l]∧l.length≤B:=by
 cases h with
 |bool b h=>rw[hu] at h;cases h
 |int n h hw=>rw[hu] at h;cases h
 |str l h hl=>exact⟨l,rfl,hl⟩
 |nil h=>rw[hu] at h;cases h
 |slice es h _ _=>rw[hu] at h;cases h
 |struct xs h _ _=>rw[hu] at h;cases h
 |array xs h _ _=>rw[hu] at h;cases h
theorem Ty.slice_inv{t e:TypeId}{xs:List AV}(h:Ty P B t xs)(hu:P.underlying t=some (.slice e)):
  ∃es r,xs=[.vs (P.cellsOf e) es r]∧((r= .nil∧es=[])∨r= .none)∧es.length≤B∧∀y∈es,Ty P B e y:=by
 cases h with
 |bool b h=>rw[hu] at h;cases h
 |int n h hw=>rw[hu] at h;cases h
 |str l h hl=>rw[hu] at h;cases h
 |nil h=>rw[hu] at h;cases h;exact⟨[],.nil,rfl,.inl ⟨rfl,rfl⟩,Nat.zero_le _,by simp⟩
 |slice es h hl he=>rw[hu] at h;cases h;exact⟨es,.none,rfl,.inr rfl,hl,he⟩
 |struct xs h _ _=>rw[hu] at h;cases h
 |array xs h _ _=>rw[hu] at h;cases h
theorem Ty.struct_inv{t:TypeId}{fs:Array Field}{xs:List AV}(h:Ty P B t xs)(hu:P.underlying t=some (.struct fs)):
  xs.length=P.cellsOf t∧∀f∈fs.toList,Ty P B f.type ((xs.drop f.offset).take (P.cellsOf f.type)):=by
 cases h with
 |bool b h=>rw[hu] at h;cases h
 |int n h hw=>rw[hu] at h;cases h
 |str l h hl=>rw[hu] at h;cases h
 |nil h=>rw[hu] at h;cases h
 |slice es h hl he=>rw[hu] at h;cases h
 |struct xs h hl hf=>rw[hu] at h;cases h;exact⟨hl,hf⟩
 |array xs h _ _=>rw[hu] at h;cases h
theorem TyV.one{t:TypeId}{x:AV}(h:TyV P B t x)(hu:isAgg P t=false):Ty P B t [x]:=by
 rcases h with ⟨h,_⟩|⟨_,h⟩
 ·rw[hu] at h;cases h
 ·exact h
theorem TyV.agg{t:TypeId}{x:AV}(h:TyV P B t x)(hu:isAgg P t=true):∃xs,x= .agg xs∧Ty P B t xs:=by
 rcases h with ⟨_,h⟩|⟨h,_⟩
 ·exact h
 ·rw[hu] at h;cases h
theorem bY{n:Int}(h:(Lit.int .u8 n).wf=true):∃k:Nat,n=k∧k < 256:=by
 simp[Lit.wf,IntKind.min,IntKind.max,IntKind.signed,IntKind.bits] at h;exact⟨n.toNat,by omega,by omega⟩
end
end Go.Av
