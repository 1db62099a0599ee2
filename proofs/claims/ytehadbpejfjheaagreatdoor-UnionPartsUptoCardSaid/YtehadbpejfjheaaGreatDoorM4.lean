/- Parts of the proofs of this seat: abstract values over the model, and what the functions of the program do. No condition. -/
import Derived.Test.YtehadbpejfjheaaGreatDoorM3
import Derived.Laws.StructEq
set_option linter.all false
set_option maxRecDepth 100000
namespace Go.Av
variable {E:Env} {f n:Nat} {Gs G:Gh} {ws w:World} {S:St} {a:Act} {fr:Fr} {before:List Oper}
theorem OO{a b:AV}(h:El a b=some true):a=b:=by
 unfold El at h;split at h
 ·split at h
  ·rename_i e;subst e;simp at h;subst h;rfl
  ·cases h
 ·simp at h;subst h;rfl
 ·simp at h;subst h;rfl
 ·cases h
theorem M4:∀{l m:List AV},BZ l m=some true→l=m
 |[],[],_=>rfl
 |a::l,b::m,h=>by
  simp only[BZ] at h;split at h
  ·rename_i e;rw[OO e,M4 h]
  ·split at h<;>cases h
  ·cases h
 |[],_::_,h=>by simp[BZ] at h
 |_::_,[],h=>by simp[BZ] at h
theorem Vk{a b:AV}(h:Ms a b=some true):a=b:=by
 unfold Ms at h;split at h
 ·rw[M4 h]
 ·exact OO h
def V9(G:Gh):Option (Nat×Value)→Option (Nat×AV)→Prop
 |none,none=>True
 |some (i,v),some (j,x)=>i=j∧VR G v x∧x.free=true∧∀c∈x.cells,c.own=false
 |_,_=>False
theorem Rh(C:Ctx){k:Nat}{g:KK}(h:Qe C k=some g):match g with
  | .int=>∃i,(C.ty k).kind= .int i
  | .str=>(C.ty k).kind= .str
  | .agg z=>C.eqk k=true∧z=(C.ty k).zero∧∃fs,(C.ty k).kind= .struct fs:=by
 unfold Qe at h;split at h
 ·cases h;exact⟨_,by assumption⟩
 ·cases h;assumption
 ·rename_i fs hk;split at h
  ·cases h;exact⟨by assumption,rfl,fs,hk⟩
  ·cases h
 ·cases h
theorem OD{u:Value}{i:IntKind}{k:IntKind}{a:Int}:∀{es:List MapEntry} {m:List (AV×AV)} {j:Nat} {r:Option (Nat×AV)},es.length=m.length→
  (∀(i:Nat) (e:MapEntry) (p:AV×AV),es[i]? =some e→m[i]? =some p→GE G e p)→F2 (.int k a) m j=some r→∃r',Instr.findNow (.int i) (.int k a) es j=some r'∧V9 G r' r
 |[],[],j,r,_,_,h=>by simp only[F2,Option.some.injEq] at h;subst h;exact⟨none,rfl,trivial⟩
 |e::es,p::m,j,r,hl,he,h=>by
  obtain⟨k',v⟩:=p;have h0:=he 0 e (k',v) rfl rfl;simp only[F2] at h;cases k' with
  |int k2 a2=>
   have hk:=h0.1.int_inv;simp only[Ms,El] at h;simp only[Instr.findNow,hk,Instr.sameNow]
   by_cases e1:k=k2
   ·subst e1;simp only[if_true] at h ⊢;cases hb:(a==a2) with
    |true=>rw[hb] at h;simp only[Option.some.injEq] at h;subst h;exact⟨_,rfl,rfl,h0.2.2.1,h0.2.2.2.1,h0.2.2.2.2⟩
    |false=>rw[hb] at h;exact OD (u:=u) (by simpa using hl) (fun i e p h1 h2=>he (i+1) e p (by simpa using h1) (by simpa using h2)) h
   ·simp only[e1,if_false] at h;cases h
  |_=>simp[Ms,El] at h
 |[],_::_,_,_,hl,_,_=>by simp at hl
 |_::_,[],_,_,hl,_,_=>by simp at hl
theorem OP{a:List UInt8}:∀{es:List MapEntry} {m:List (AV×AV)} {j:Nat} {r:Option (Nat×AV)},es.length=m.length→
  (∀(i:Nat) (e:MapEntry) (p:AV×AV),es[i]? =some e→m[i]? =some p→GE G e p)→F2 (.str a) m j=some r→∃r',Instr.findNow .string (.string ⟨a.toArray⟩) es j=some r'∧V9 G r' r
 |[],[],j,r,_,_,h=>by simp only[F2,Option.some.injEq] at h;subst h;exact⟨none,rfl,trivial⟩
 |e::es,p::m,j,r,hl,he,h=>by
  obtain⟨k',v⟩:=p;have h0:=he 0 e (k',v) rfl rfl;simp only[F2] at h;cases k' with
  |str a2=>
   have hk:=h0.1.str_inv;simp only[Ms,El] at h;have hbeq:((⟨a.toArray⟩:ByteArray)==⟨a2.toArray⟩)=(a==a2):=by
    rw[beq_toListBytes,toList_mk,toList_mk]
   simp only[Instr.findNow,hk,Instr.sameNow,hbeq];cases hb:(a==a2) with
   |true=>rw[hb] at h;simp only[Option.some.injEq] at h;subst h;exact⟨_,rfl,rfl,h0.2.2.1,h0.2.2.2.1,h0.2.2.2.2⟩
   |false=>rw[hb] at h;exact OP (by simpa using hl) (fun i e p h1 h2=>he (i+1) e p (by simpa using h1) (by simpa using h2)) h
  |_=>simp[Ms,El] at h
 |[],_::_,_,_,hl,_,_=>by simp at hl
 |_::_,[],_,_,hl,_,_=>by simp at hl
theorem Kh(A:Agree E){k:Nat}(hk:E.C.eqk k=true){u:Value}{xs:List AV}(hu:VR G u (.agg xs))(hty:Aw (E.C.ty k).zero xs=true):∀{es:List MapEntry} {m:List (AV×AV)} {j:Nat} {r:Option (Nat×AV)},es.length=m.length→
  (∀(i:Nat) (e:MapEntry) (p:AV×AV),es[i]? =some e→m[i]? =some p→GE G e p)→F2 (.agg xs) m j=some r→∃r',(Instr.findAsking k u es j).run E.P w= .ok r' w∧V9 G r' r
 |[],[],j,r,_,_,h=>by simp only[F2,Option.some.injEq] at h;subst h;exact⟨none,rfl,trivial⟩
 |e::es,p::m,j,r,hl,he,h=>by
  obtain⟨k',v⟩:=p;have h0:=he 0 e (k',v) rfl rfl;simp only[F2] at h;cases k' with
  |agg ys=>
   simp only[Ms] at h;cases hc:BZ xs ys with
   |none=>rw[hc] at h;cases h
   |some b=>
    rw[hc] at h;have heq:=A.eq k hk G u e.key xs ys b hu h0.1 hty hc w;simp only[Instr.findAsking,Sem.run_bind,heq,Result.andThen_ok];cases b with
    |true=>simp only[Option.some.injEq] at h;subst h;exact⟨_,rfl,rfl,h0.2.2.1,h0.2.2.2.1,h0.2.2.2.2⟩
    |false=>exact Kh A hk hu hty (by simpa using hl) (fun i e p h1 h2=>he (i+1) e p (by simpa using h1) (by simpa using h2)) h
  |_=>simp[Ms,El] at h
 |[],_::_,_,_,hl,_,_=>by simp at hl
 |_::_,[],_,_,hl,_,_=>by simp at hl
theorem Of{g:KK}{key:AV}(h:OJ g key=true):(g= .int∧∃k a,key= .int k a)∨(g= .str∧∃a,key= .str a)∨(∃z xs,g= .agg z∧key= .agg xs∧Aw z xs=true):=by
 unfold OJ at h;split at h
 ·exact .inl ⟨rfl,_,_,rfl⟩
 ·exact .inr (.inl ⟨rfl,_,rfl⟩)
 ·exact .inr (.inr ⟨_,_,rfl,rfl,h⟩)
 ·cases h
theorem run_findKey(A:Agree E){k:Nat}{g:KK}(ht:E.C.has k=true)(hg:Qe E.C k=some g){u:Value}{key:AV}(hu:VR G u key)(hok:OJ g key=true){es:Array MapEntry}{m:List (AV×AV)}(hl:es.size=m.length)
  (he:∀(i:Nat) (e:MapEntry) (p:AV×AV),es[i]? =some e→m[i]? =some p→GE G e p) {r:Option (Nat×AV)} (h:F2 key m 0=some r):
  ∃r',(Instr.findKey k u es.toList).run E.P w= .ok r' w∧V9 G r' r:=by
 have hs:=Rh E.C hg;have he':∀(i:Nat) (e:MapEntry) (p:AV×AV),es.toList[i]? =some e→m[i]? =some p→GE G e p:=fun i e p h1 h2=>he i e p (by simpa using h1) h2
 have hl':es.toList.length=m.length:=by simpa using hl
 rcases Of hok with ⟨rfl,kk,a,rfl⟩|⟨rfl,a,rfl⟩|⟨z,xs,rfl,rfl,hty⟩
 ·obtain rfl:=hu.int_inv;obtain⟨i,hs⟩:=hs;have h1:=(A.ty k ht).int hs;obtain⟨r',k1,k2⟩:=OD (G:=G) (u:=.int kk a) (i:=i) hl' he' h;exact⟨r',by simp only[Instr.findKey,Sem.run_bind,run_underlying h1,Result.andThen_ok,k1];rfl,k2⟩
 ·obtain rfl:=hu.str_inv;have h1:=(A.ty k ht).str hs;obtain⟨r',k1,k2⟩:=OP (G:=G) hl' he' h;exact⟨r',by simp only[Instr.findKey,Sem.run_bind,run_underlying h1,Result.andThen_ok,k1];rfl,k2⟩
 ·obtain⟨hq,rfl,fs,hs⟩:=hs;obtain⟨fl,h1,_⟩:=(A.ty k ht).struct hs;cases hes:es.toList with
  |nil=>
   rw[hes] at hl';have:m=[]:=by simpa using hl'.symm
   subst this;simp only[F2,Option.some.injEq] at h;subst h;exact⟨none,by simp only[Instr.findKey,Sem.run_bind,run_underlying h1,Result.andThen_ok,Instr.findNow];rfl,trivial⟩
  |cons e es'=>
   obtain⟨r',k1,k2⟩:=Kh (w:=w) A hq hu hty hl' he' h;rw[hes] at k1;refine⟨r',?_,k2⟩;have hn:Instr.findNow (.struct fl) u (e::es') 0=none:=by
    simp only[Instr.findNow];have:Instr.sameNow (.struct fl) u e.key=none:=by cases u<;>rfl
    rw[this]
   simp only[Instr.findKey,Sem.run_bind,run_underlying h1,Result.andThen_ok,hn,k1]
theorem run_checkKey(A:Agree E){k:Nat}{g:KK}(ht:E.C.has k=true)(hg:Qe E.C k=some g){u:Value}{key:AV}(hu:VR G u key)(hok:OJ g key=true)(em:Bool):(Instr.checkKey em 10000 k u).run E.P w= .ok () w:=by
 have hs:=Rh E.C hg;have aux:∀d (dd:TypeDesc),E.P.underlying k=some dd→(match dd with| .int _| .string=>True|_=>False)→(Instr.checkKey em (d+1) k u).run E.P w= .ok () w:=by
  intro d dd h1 h2;rw[Instr.checkKey];cases dd<;>simp only at h2<;>simp only[Sem.run_bind,run_underlying h1,Result.andThen_ok]<;>rfl
 rcases Of hok with ⟨rfl,kk,a,rfl⟩|⟨rfl,a,rfl⟩|⟨z,xs,rfl,rfl,hty⟩
 ·obtain⟨i,hs⟩:=hs;exact aux 9999 _ ((A.ty k ht).int hs) trivial
 ·exact aux 9999 _ ((A.ty k ht).str hs) trivial
 ·obtain⟨hq,rfl,_⟩:=hs;exact A.key k hq G u xs hu hty em w
theorem RA(A:Agree E){t:Nat}(ht:E.C.has t=true):∃z,(zeroValue t).run E.P w= .ok z w∧(∀G,VR G z (Jg (E.C.ty t)))∧z.cells.size=(E.C.ty t).size∧zOk z.cells.toList (E.C.ty t).zero=true:=by
 obtain⟨i,z,d,h1,h2,h3,h4,h5,h6,h7,h8,h9,h10⟩:=(A.ty t ht).ex;exact⟨z,by simp[zeroValue,typeInfo,h1,h4],h10,h8,h9⟩
theorem OM(A:Agree E){t:Nat}(ht:E.C.has t=true):∀{G w κ κc z},VR G z (Jg (E.C.ty t))→Bw G w κ κc z (Jg (E.C.ty t)):=by
 intro G w κ κc z h;have hc:=(A.ty t ht).cell;unfold Jg at h ⊢;split
 ·rename_i e;rw[if_pos e] at h;exact .of_agg h fun c hm=>AV.cell1.own (hc c hm)
 ·rename_i e;rw[if_neg e] at h;cases hz:(E.C.ty t).zero with
  |nil=>exact .undef _
  |cons x l=>rw[hz] at h;exact .of_cell1 h (hc x (by rw[hz];simp))
theorem Bw.noOwn{κ:Key}{κc:Nat→Key}{v:Value}{x:AV}(h:VR G v x)(hf:x.free=true)(ho:∀c∈x.cells,c.own=false):Bw G w κ κc v x:=by
 rcases AV.free_cases hf with ⟨h1,h2⟩|⟨cs,rfl,h1⟩
 ·refine .of_cell1 h ?_;rw[h2] at ho;simp[AV.cell1,h1,ho x (by simp)]
 ·exact .of_agg h ho
theorem U6(A:Agree E)(hr:Rel E G w S){t k e:Nat}{g:KK}(ht:E.C.has t=true)(hk:E.C.has k=true)(he:E.C.has e=true)(hkd:(E.C.ty t).kind= .map k e)(hg:Qe E.C k=some g){v u:Value}{x key:AV}
  (hv:VR G v x) (hu:VR G u key) {p:AV×Bool} (h:NC g (E.C.ty e) S x key=some p) (ok:Bool):
  ∃z,(Instr.lookup t v u ok).run E.P w= .ok (if ok then .tuple #[z,.bool p.2] else z) w∧∀κ κc,Bw G w κ κc z p.1:=by
 have h1:=(A.ty t ht).map hkd;unfold NC at h;split at h
 case isFalse=>cases h
 rename_i hok;obtain⟨zv,z1,z2,_⟩:=RA (w:=w) A he;cases hv with
 |mapnil=>
  simp only[Option.some.injEq] at h;subst h;have hck:=run_checkKey (w:=w) A hk hg hu hok true;obtain⟨r',k1,k2⟩:=run_findKey (w:=w) A hk hg hu hok (es:=#[]) (m:=[]) rfl (by simp) (r:=none) rfl
  cases r' with
  |some q=>exact k2.elim
  |none=>
   refine⟨zv,?_,fun κ κc=>OM A he (z2 G)⟩
   simp only[Instr.lookup,Sem.run_bind,run_underlying h1,Result.andThen_ok,Sem.run_pure];rw[show (#[]:Array MapEntry).isEmpty=true from rfl,hck]
   simp only[Result.andThen_ok,k1,z1,Sem.run_bind,Sem.run_pure]
 |map id b hb=>
  simp only[Option.bind_eq_some_iff,Option.map_eq_some_iff] at h;obtain⟨m,hm,r,hfind,rfl⟩:=h;obtain⟨b',es,clk,q1,q2,q3,q4,q5,q6⟩:=hr.mapOf hm;rw[hb] at q2;cases q2;have hck:=run_checkKey (w:=w) A hk hg hu hok es.isEmpty;obtain⟨r',k1,k2⟩:=run_findKey (w:=w) A hk hg hu hok q5 q6 hfind;cases r with
  |none=>
   cases r' with
   |some q=>exact k2.elim
   |none=>
    refine⟨zv,?_,fun κ κc=>OM A he (z2 G)⟩
    simp only[Instr.lookup,Sem.run_bind,run_underlying h1,Result.andThen_ok,Sem.run_pure,run_getObj_map q4,hck,k1,z1]
  |some q=>
   cases r' with
   |none=>exact k2.elim
   |some q'=>
    obtain⟨i,x⟩:=q;obtain⟨j,v⟩:=q';obtain⟨_,k3,k4,k5⟩:=k2;refine⟨v,?_,fun κ κc=>.noOwn k3 k4 k5⟩
    simp only[Instr.lookup,Sem.run_bind,run_underlying h1,Result.andThen_ok,Sem.run_pure,run_getObj_map q4,hck,k1,z1]
 |_=>simp at h
def World.setObj(w:World)(b:Nat)(o:Go.Obj):World:={w with heap:=w.heap.setIfInBounds b o}
theorem World.setObj_same{w:World}{b:Nat}{o:Go.Obj}(h:b < w.heap.size):(World.setObj w b o).heap[b]? =some o:=by simp[World.setObj,h]
theorem World.setObj_other{w:World}{b k:Nat}{o:Go.Obj}(h:k≠b):(World.setObj w b o).heap[k]? =w.heap[k]?:=by
 simp[World.setObj,Array.getElem?_setIfInBounds,Ne.symm h]
theorem I9{P:Program}{w:World}{b:Nat}{es:Array MapEntry}{clk:Nat}(h:w.heap[b]? =some (.map es clk))(o:Go.Obj):(setObj b o).run P w= .ok () (World.setObj w b o):=by
 simp[Go.setObj,Sem.run,h,World.setObj]
theorem RF.setMap(h:RF E f n Gs ws G w S a fr before){id b:Nat}{m:List (AV×AV)}(hid:S[id]? =some (.map m))(hb:G.rho id=some b)(hr:G.role b= .obj id){es0:Array MapEntry}{clk0:Nat}(hh:w.heap[b]? =some (.map es0 clk0))(es:Array MapEntry)(clk:Nat)(m':List (AV×AV))(hl:es.size=m'.length)
  (he:∀(i:Nat) (e:MapEntry) (p:AV×AV),es[i]? =some e→m'[i]? =some p→GE G e p):RF E f n Gs ws G (World.setObj w b (.map es clk)) (S.set id (.map m')) a fr before:=by
 have hlt:=(h.rel.rho id b hb).2;have hc:Chg (·= .obj id) G w G (World.setObj w b (.map es clk)):=
  ⟨.refl G,by simp[World.setObj],fun k _ hk=>⟨World.setObj_other (fun e=>hk (by rw[e];exact hr)),rfl,fun _=>rfl⟩⟩
 have hni:∀o,G.imm b o=none:=h.rel.noimm b (.inl ⟨id,hr⟩);refine⟨⟨h.rel.os,h.rel.tape,h.rel.output,by simpa[World.setObj] using h.rel.size,fun k hk=>⟨?_,(h.rel.old k hk).2⟩,fun k o v hv=>?_,fun k hk=>h.rel.role k (by simpa[World.setObj] using hk),h.rel.noimm,fun i k hk=>?_,fun k hk=>?_,fun i o hi=>?_⟩,
  h.frr.chg hc (by simp) (by simp) (by simp) (by simp),h.kept.chg hc (by simp),h.pr⟩
 ·rw[World.setObj_other (fun e=>by have:=(h.rel.old k hk).2;rw[e,hr] at this;cases this)];exact(h.rel.old k hk).1
 ·have hkb:k≠b:=by rintro rfl;rw[hni o] at hv;cases hv
  rw[←h.rel.imm k o v hv];simp only[World.cell?,World.setObj_other hkb]
 ·have:=h.rel.rho i k hk;exact⟨by simpa using this.1,by simpa[World.setObj] using this.2⟩
 ·obtain⟨arr',e',fz',h1,h2⟩:=h.rel.len k hk;have hkb:k≠b:=by rintro rfl;rw[hh] at h1;cases h1
  exact⟨arr',e',fz',by rw[World.setObj_other hkb];exact h1,h2⟩
 ·rw[List.getElem?_set] at hi
  by_cases e:id=i
  ·subst e;have hlt':id < S.length:=(List.getElem?_eq_some_iff.1 hid).1;simp only[if_true,hlt',Option.some.injEq] at hi;subst hi;exact⟨b,es,clk,hb,hr,World.setObj_same hlt,hl,he⟩
  ·simp only[e,if_false] at hi;exact(h.rel.obj i o hi).chg hc (by simpa using Ne.symm e) (by simp)
theorem YC{P:Program}(w:World)(old new:Value):∃v w',(Instr.keyThatStays old new).run P w= .ok v w'∧(v=old∨v=new)∧(w'=w∨w'=w.drew):=by
 unfold Instr.keyThatStays;split
 ·exact⟨new,w,rfl,.inr rfl,.inl rfl⟩
 ·have hf:(Question.extern "map.whichKeyStays" 2).forced=false:=rfl;simp only[Sem.run_bind,run_choose,hf,Bool.false_eq_true,if_false,Result.andThen_ok]
  by_cases h:(Question.extern "map.whichKeyStays" 2).cut (w.tape w.drawn (Question.extern "map.whichKeyStays" 2))=0
  ·exact⟨new,w.drew,by simp[h],.inr rfl,.inr rfl⟩
  ·exact⟨old,w.drew,by simp[h],.inl rfl,.inr rfl⟩
theorem JP{key:AV}:∀{m:List (AV×AV)} {j i:Nat} {v:AV},F2 key m j=some (some (i,v))→∃p,j≤i∧m[i - j]? =some p∧p.1=key∧p.2=v
 |[],j,i,v,h=>by simp[F2] at h
 |(k',v')::m,j,i,v,h=>by
  simp only[F2] at h;split at h
  ·rename_i e;simp only[Option.some.injEq,Prod.mk.injEq] at h;obtain⟨rfl,rfl⟩:=h;exact⟨(k',v'),Nat.le_refl _,by simp,(Vk e).symm,rfl⟩
  ·obtain⟨p,h1,h2,h3,h4⟩:=JP h;refine⟨p,by omega,?_,h3,h4⟩
   rw[show i - j=(i - (j+1))+1 by omega]
   simpa using h2
  ·cases h
theorem RF.mapUpdate(A:Agree E)(h:RF E f n Gs ws G w S a fr before){t k e:Nat}{g:KK}(ht:E.C.has t=true)(hk:E.C.has k=true)(hkd:(E.C.ty t).kind= .map k e)(hg:Qe E.C k=some g){v u y:Value}{x key z:AV}
  (hv:VR G v x) (hu:VR G u key) (hy:VR G y z) {S':St} (hs:ML g S x key z=some S'):
  ∃w',(Instr.mapUpdate t v u y).run E.P w= .ok () w'∧RF E f n Gs ws G w' S' a fr before:=by
 have h1:=(A.ty t ht).map hkd;unfold ML at hs;split at hs
 case isFalse=>cases hs
 rename_i hc;obtain⟨hok,hfree⟩:=hc;cases hv with
 |map id b hb=>
  simp only[Option.bind_eq_some_iff,Option.map_eq_some_iff] at hs;obtain⟨m,hm,r,hfind,rfl⟩:=hs;obtain⟨b',es,clk,q1,q2,q3,q4,q5,q6⟩:=h.rel.mapOf hm;rw[hb] at q2;cases q2;have hck:=run_checkKey (w:=w) A hk hg hu hok false;obtain⟨r',k1,k2⟩:=run_findKey (w:=w) A hk hg hu hok q5 q6 hfind;have hystrip:VR G y z.strip∧z.strip.free=true∧∀c∈z.strip.cells,c.own=false:=by
   refine⟨hy.strip,?_,fun c hc=>AV.cell1.own (AV.cells_strip_cell1 hfree c hc)⟩
   rcases AV.free_cases hfree with ⟨g1,g2⟩|⟨cs,rfl,g1⟩
   ·rw[AV.strip_of_free1 g1];exact AV.free_of_free1 (by rw[AV.free1_strip1];exact g1)
   ·simp only[AV.strip,AV.strip2,AV.free,List.all_map,List.all_eq_true,Function.comp_apply];intro c hc;rw[AV.free1_strip1];exact g1 c hc
  cases r with
  |none=>
   cases r' with
   |some q=>exact k2.elim
   |none=>
    refine⟨_,?_,h.setMap q1 hb q3 q4 (es.push {key:=u,val:=y,born:=clk}) (clk+1) (m++[(key,z.strip)]) (by simp[q5]) fun i e p he hp=>?_⟩
    ·simp only[Instr.mapUpdate,Sem.run_bind,run_underlying h1,Result.andThen_ok,run_getObj_map q4,hck,k1,I9 q4]
    ·by_cases e1:i < es.size
     ·rw[Array.getElem?_push,if_neg (by omega)] at he
      rw[List.getElem?_append_left (by omega)] at hp
      exact q6 i e p he hp
     ·have hi:i=es.size:=by
       have:=(Array.getElem?_eq_some_iff.1 he).1;simp at this;omega
      subst hi;simp at he;rw[q5] at hp;simp at hp;subst he hp;exact⟨hu,⟨g,hok⟩,hystrip⟩
  |some q=>
   cases r' with
   |none=>exact k2.elim
   |some q'=>
    obtain⟨i,x⟩:=q;obtain⟨j,v⟩:=q';obtain⟨rfl,k3,k4,k5⟩:=k2;obtain⟨⟨p1,p2⟩,p3,p4,rfl,rfl⟩:=JP hfind;simp only[Nat.sub_zero] at p4;have hlt:j < es.size:=by rw[q5];exact(List.getElem?_eq_some_iff.1 p4).1
    have hent:=q6 j es[j] _ (by simp[hlt]) p4
    obtain⟨nk,w1,n1,n2,n3⟩:=YC (P:=E.P) w (((es[j]?).map (·.key)).getD u) u;have hnk:VR G nk p1:=by
     rcases n2 with rfl|rfl
     ·simp[hlt];exact hent.1
     ·exact hu
    have hw1:RF E f n Gs ws G w1 S a fr before:=by rcases n3 with rfl|rfl;exact h;exact h.drew
    have q4':w1.heap[b]? =some (.map es clk):=by rcases n3 with rfl|rfl;exact q4;exact q4
    refine⟨_,?_,hw1.setMap q1 hb q3 q4' (es.modify j fun e=>{e with key:=nk,val:=y}) clk (m.modify j fun p=>(p.1,z.strip)) (by simp[q5]) fun i e p he hp=>?_⟩
    ·simp only[Instr.mapUpdate,Sem.run_bind,run_underlying h1,Result.andThen_ok,run_getObj_map q4,hck,k1,n1,I9 q4']
    ·rw[Array.getElem?_modify] at he;rw[List.getElem?_modify] at hp
     by_cases e1:j=i
     ·subst e1;simp only[if_true,p4] at he hp;simp[hlt] at he hp;subst he hp;exact⟨hnk,hent.2.1,hystrip⟩
     ·simp only[e1,if_false] at he hp;have:(fun a=>a) <$> m[i]? =m[i]?:=by cases m[i]?<;>rfl
      rw[this] at hp;exact q6 i e p he hp
 |_=>simp at hs
theorem set_self{α:Type}{l:List α}{i:Nat}{x:α}(h:l[i]? =some x):l.set i x=l:=by
 apply List.ext_getElem?;intro j;rw[List.getElem?_set];split
 ·rename_i e;subst e;have:=(List.getElem?_eq_some_iff.1 h).1;simp[this,←h]
 ·rfl
theorem RF.delete(A:Agree E)(h:RF E f n Gs ws G w S a fr before){t k e ty:Nat}{u2:Nat}{g:KK}(ht:E.C.has t=true)(hk:E.C.has k=true)(hkd:(E.C.ty t).kind= .map k e)(hg:Qe E.C k=some g){v u:Value}{x key:AV}
  (hv:VR G v x) (hu:VR G u key) {S':St} (hs:Sj g S x key=some S'):
  ∃w',(Builtin.delete_ #[t,u2] ty #[v,u]).run E.P w= .ok (.tuple #[]) w'∧RF E f n Gs ws G w' S' a fr before:=by
 have h1:=(A.ty t ht).map hkd;unfold Sj at hs;split at hs
 case isFalse=>cases hs
 rename_i hok;cases hv with
 |mapnil=>
  cases hs;have hck:=run_checkKey (w:=w) A hk hg hu hok true;exact⟨w,by simp[Builtin.delete_,run_underlying h1,hck],h⟩
 |map id b hb=>
  simp only[Option.bind_eq_some_iff,Option.map_eq_some_iff] at hs;obtain⟨m,hm,r,hfind,rfl⟩:=hs;obtain⟨b',es,clk,q1,q2,q3,q4,q5,q6⟩:=h.rel.mapOf hm;rw[hb] at q2;cases q2;have hck:=run_checkKey (w:=w) A hk hg hu hok es.isEmpty;obtain⟨r',k1,k2⟩:=run_findKey (w:=w) A hk hg hu hok q5 q6 hfind;cases r with
  |none=>
   cases r' with
   |some q=>exact k2.elim
   |none=>
    refine⟨World.setObj w b (.map es clk),?_,?_⟩
    ·simp only[Builtin.delete_,List.getElem?_toArray,List.getElem?_cons_zero,List.getElem?_cons_succ,Sem.run_bind,run_underlying h1,Result.andThen_ok,run_getObj_map q4,hck,k1,I9 q4];rfl
    ·have:=h.setMap q1 hb q3 q4 es clk m q5 q6;have hset:S.set id (.map m)=S:=set_self q1
     rwa [hset] at this
  |some q=>
   cases r' with
   |none=>exact k2.elim
   |some q'=>
    obtain⟨i,x⟩:=q;obtain⟨j,v⟩:=q';obtain⟨rfl,k3,k4,k5⟩:=k2;obtain⟨⟨p1,p2⟩,p3,p4,rfl,rfl⟩:=JP hfind;simp only[Nat.sub_zero] at p4;have hlt:j < es.size:=by rw[q5];exact(List.getElem?_eq_some_iff.1 p4).1
    refine⟨World.setObj w b (.map (es.eraseIdxIfInBounds j) clk),?_,h.setMap q1 hb q3 q4 _ clk (m.eraseIdx j) ?_ fun i e p he hp=>?_⟩
    ·simp only[Builtin.delete_,List.getElem?_toArray,List.getElem?_cons_zero,List.getElem?_cons_succ,Sem.run_bind,run_underlying h1,Result.andThen_ok,run_getObj_map q4,hck,k1,I9 q4];rfl
    ·simp[Array.eraseIdxIfInBounds,hlt,List.length_eraseIdx,←q5]
    ·simp only[Array.eraseIdxIfInBounds,hlt,dif_pos] at he;rw[Array.getElem?_eraseIdx] at he;rw[List.getElem?_eraseIdx] at hp
     by_cases e1:i < j
     ·simp only[e1,if_true] at he hp;exact q6 i e p he hp
     ·simp only[e1,if_false] at he hp;exact q6 (i+1) e p he hp
 |_=>simp at hs
end Go.Av
