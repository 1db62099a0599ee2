/- Parts of the proofs of this seat: abstract values over the model, and what the functions of the program do. No condition. -/
import Derived.Test.YtehadbpejfjheaaGreatDoorX04L
set_option linter.all false
set_option maxRecDepth 100000
namespace Go.Av
abbrev LN:=Nat×Node
def N5:List Node→Nat→List LN
 |[],_=>[]
 |n::l,k=>(k,n)::N5 l (k+1)
def IH:List LN→List LN
 |[]=>[]
 |z::l=>z::if z.2.opq=true then [] else IH l
def CO(Z:List LN)(s:Str):List LN:=Z.filterMap fun z=>(z.2.find s).map fun n=>(z.1,n)
def HR(Z:List LN)(s:Str):List LN:=
 match CO Z s with
 |[]=>[]
 |z::l=>if z.2.kind=4 then [] else if z.2.kind≠2 then [z] else IH ((z::l).takeWhile fun n=>decide (n.2.kind=2))
def F4(D:List Node)(names:List Str):List LN:=names.foldl HR (IH (N5 D 0))
theorem Hh(D:List Node)(names:List Str)(s:Str):F4 D (names++[s])=HR (F4 D names) s:=by simp[F4]
theorem Nu:∀Z:List LN,(IH Z).map (·.2)=D5 (Z.map (·.2))
 |[]=>rfl
 |z::l=>by
  rw[IH,List.map_cons,List.map_cons,D5];split
  ·rfl
  ·rw[Nu l]
theorem Tm:∀(D:List Node) (k:Nat),(N5 D k).map (·.2)=D
 |[],_=>rfl
 |n::l,k=>by rw[N5,List.map_cons,Tm l]
theorem Mu(s:Str):∀Z:List LN,(CO Z s).map (·.2)=DX (Z.map (·.2)) s
 |[]=>rfl
 |z::l=>by
  have ih:=Mu s l;simp only[CO,DX,List.map_cons,List.filterMap_cons] at ih ⊢;cases z.2.find s<;>simp[ih]
theorem UC:∀l:List LN,(l.takeWhile fun n=>decide (n.2.kind=2)).map (·.2)=(l.map (·.2)).takeWhile fun n=>decide (n.kind=2)
 |[]=>rfl
 |z::l=>by
  simp only[List.takeWhile_cons,List.map_cons];split
  ·rw[List.map_cons,UC l]
  ·rfl
theorem Np(Z:List LN)(s:Str):(HR Z s).map (·.2)=DZ (Z.map (·.2)) s:=by
 have h:=Mu s Z;unfold HR DZ;rw[←h];cases CO Z s with
 |nil=>rfl
 |cons z l=>
  simp only[List.map_cons];split
  ·rfl
  ·split
   ·rfl
   ·rw[Nu,UC,List.map_cons]
theorem Ir(D:List Node)(names:List Str):(F4 D names).map (·.2)=DQ D names:=by
 have gen:∀(names:List Str) (Z:List LN),(names.foldl HR Z).map (·.2)=names.foldl DZ (Z.map (·.2)):=by
  intro names
  induction names with
  |nil=>intro Z;rfl
  |cons s l ih=>intro Z;rw[List.foldl_cons,List.foldl_cons,ih,Np]
 rw[F4,gen,Nu,Tm];rfl
def atP:Node→List Str→Option Node
 |n,[]=>some n
 |n,s::l=>if n.kind=2 then (match n.find s with|some x=>atP x l|none=>none) else none
theorem Px:∀(names:List Str) (n:Node) (s:Str),atP n (names++[s])=(match atP n names with|some m=>if m.kind=2 then m.find s else none|none=>none)
 |[],n,s=>by
  simp only[List.nil_append,atP];split
  ·cases n.find s<;>rfl
  ·rfl
 |x::l,n,s=>by
  rw[List.cons_append,atP,atP];split
  ·cases hx:n.find x with
   |none=>rfl
   |some m=>exact Px l m s
  ·rfl
def Si(D:List Node)(names:List Str):Option Nat:=D.findIdx? fun n=>(atP n names).isSome
theorem NZ:∀Z:List LN,IH Z <+:Z
 |[]=>List.prefix_refl _
 |z::l=>by
  rw[IH];split
  ·exact⟨l,rfl⟩
  ·exact(List.prefix_cons_inj z).2 (NZ l)
theorem W5(Z:List LN)(s:Str):HR Z s <+:CO Z s:=by
 unfold HR;cases CO Z s with
 |nil=>exact List.prefix_refl _
 |cons z l=>
  simp only;split
  ·exact List.nil_prefix
  ·split
   ·exact⟨l,rfl⟩
   ·exact(NZ _).trans (List.takeWhile_prefix _)
theorem WD{l m:List LN}(h:l <+:m)(hs:m.Pairwise fun a b=>a.1 < b.1){z x:LN}(hz:z∈l)(hx:x∈m)(hle:x.1≤z.1):x∈l:=by
 obtain⟨t,rfl⟩:=h;rcases List.mem_append.1 hx with hx|hx
 ·exact hx
 ·have:=(List.pairwise_append.1 hs).2.2 z hz x hx;omega
structure Sl(D:List Node)(names:List Str):Prop where
 sorted:(F4 D names).Pairwise fun a b=>a.1 < b.1
 sound:∀z∈F4 D names,∃n,D[z.1]? =some n∧atP n names=some z.2
 all:∀j n m,D[j]? =some n→atP n names=some m→(∃z∈F4 D names,j≤z.1)→(j,m)∈F4 D names
theorem Mo:∀{D:List Node} {k:Nat} {z:LN},z∈N5 D k↔k≤z.1∧D[z.1 - k]? =some z.2
 |[],k,z=>by simp[N5]
 |n::l,k,(j,m)=>by
  rw[N5,List.mem_cons,Mo];simp only;constructor
  ·rintro (h|⟨h1,h2⟩)
   ·cases h;simp
   ·refine⟨by omega,?_⟩
    rw[show j - k=(j - (k+1))+1 by omega,List.getElem?_cons_succ];exact h2
  ·rintro⟨h1,h2⟩
   by_cases e:j=k
   ·subst e;simp at h2;left;rw[h2]
   ·right;rw[show j - k=(j - (k+1))+1 by omega,List.getElem?_cons_succ] at h2
    exact⟨by omega,h2⟩
theorem Ki:∀(D:List Node) (k:Nat),(N5 D k).Pairwise fun a b=>a.1 < b.1
 |[],_=>by simp[N5]
 |n::l,k=>by
  rw[N5,List.pairwise_cons];exact⟨fun z hz=>by have:=(Mo.1 hz).1;simp only;omega,Ki l (k+1)⟩
theorem Sl.start(D:List Node):Sl D []:=by
 have hp:=NZ (N5 D 0);refine⟨(Ki D 0).sublist hp.sublist,fun z hz=>?_,fun j n m hj hm ⟨z,hz,hle⟩=>?_⟩
 ·have:=(Mo.1 (hp.subset hz)).2;exact⟨z.2,by simpa using this,rfl⟩
 ·cases hm;exact WD hp (Ki D 0) hz (Mo.2 ⟨Nat.zero_le _,by simpa using hj⟩) hle
theorem Oi{Z:List LN}(h:Z.Pairwise fun a b=>a.1 < b.1)(s:Str):(CO Z s).Pairwise fun a b=>a.1 < b.1:=by
 unfold CO;rw[List.pairwise_filterMap];refine h.imp fun {a b} hab x hx y hy=>?_
 rw[Option.map_eq_some_iff] at hx hy;obtain⟨_,_,rfl⟩:=hx;obtain⟨_,_,rfl⟩:=hy;exact hab
theorem Sl.step{D:List Node}{names:List Str}(h:Sl D names)(hk:∀z∈F4 D names,z.2.kind=2)(s:Str):Sl D (names++[s]):=by
 have hp:=W5 (F4 D names) s;have hs:=Oi h.sorted s;refine⟨?_,?_,?_⟩
 ·rw[Hh];exact hs.sublist hp.sublist
 ·intro z hz;rw[Hh] at hz;have hz2:=hp.subset hz;unfold CO at hz2;obtain⟨y,hy,he⟩:=List.mem_filterMap.1 hz2;rw[Option.map_eq_some_iff] at he;obtain⟨x,hx,rfl⟩:=he;obtain⟨n,h1,h2⟩:=h.sound y hy;refine⟨n,h1,?_⟩;rw[Px,h2];simp only[hk y hy,if_true];exact hx
 ·rintro j n m hj hm ⟨z,hz,hle⟩;rw[Hh] at hz ⊢;have hz2:=hp.subset hz;unfold CO at hz2;obtain⟨y,hy,he⟩:=List.mem_filterMap.1 hz2;rw[Option.map_eq_some_iff] at he;obtain⟨x,hx,rfl⟩:=he;rw[Px] at hm;cases hq:atP n names with
  |none=>rw[hq] at hm;cases hm
  |some q=>
   rw[hq] at hm;simp only at hm;split at hm
   ·have hj2:=h.all j n q hj hq ⟨y,hy,hle⟩;have:(j,m)∈CO (F4 D names) s:=List.mem_filterMap.2 ⟨(j,q),hj2,by simp[hm]⟩
    exact WD hp hs hz this hle
   ·cases hm
theorem Sl.level{D:List Node}{names:List Str}(h:Sl D names){z:LN}{l:List LN}(hz:F4 D names=z::l):Si D names=some z.1:=by
 obtain⟨n,h1,h2⟩:=h.sound z (by rw[hz];simp)
 have hlt:=(List.getElem?_eq_some_iff.1 h1).1;rw[Si,List.findIdx?_eq_some_iff_getElem];refine⟨hlt,?_,fun j hj=>?_⟩
 ·have:=(List.getElem?_eq_some_iff.1 h1).2;rw[this,h2];rfl
 ·intro hsome;obtain⟨m,hm⟩:=Option.isSome_iff_exists.1 hsome;have hjl:j < D.length:=by omega
  have:=h.all j D[j] m (List.getElem?_eq_getElem hjl) hm ⟨z,by rw[hz];simp,by omega⟩
  have hs:=h.sorted;rw[hz] at this hs;rcases List.mem_cons.1 this with e|e
  ·rw[←e] at hj;simp at hj
  ·have:=(List.pairwise_cons.1 hs).1 _ e;simp only at this;omega
def Ha:List Spot→List Node→List LN
 |x::p,n::l=>(x.1,n)::Ha p l
 |_,_=>[]
theorem Mz{L:List (List Bk)}:∀{p:List Spot} {l:List Node},OnP L p l→(Ha p l).map (·.1)=p.map (·.1)∧(Ha p l).map (·.2)=l
 |[],[],_=>⟨rfl,rfl⟩
 |x::p,n::l,h=>by
  obtain⟨h1,h2⟩:=Mz h.2;simp[Ha,h1,h2]
 |[],_::_,h=>h.elim
 |_::_,[],h=>h.elim
theorem Yd{Z:List LN}{p:List Spot}{l:List Node}{L:List (List Bk)}(h:OnP L p l)(h1:Z.map (·.1)=p.map (·.1))(h2:Z.map (·.2)=l):Z=Ha p l:=by
 obtain⟨k1,k2⟩:=Mz h;have:∀(A B:List LN),A.map (·.1)=B.map (·.1)→A.map (·.2)=B.map (·.2)→A=B:=by
  intro A
  induction A with
  |nil=>intro B e _;cases B with|nil=>rfl|cons _ _=>simp at e
  |cons a A ih=>
   intro B e1 e2;cases B with
   |nil=>simp at e1
   |cons b B=>
    simp only[List.map_cons,List.cons.injEq] at e1 e2;rw[ih B e1.2 e2.2];obtain⟨a1,a2⟩:=a;obtain⟨b1,b2⟩:=b
    simp_all
 exact this _ _ (h1.trans k1.symm) (h2.trans k2.symm)
theorem NE(L:List (List Bk))(s:Str):∀(p:List Spot) (dirs:List Node) (f:Fnd),OnP L p dirs→(∀n∈dirs,n.allB=true)→f.kind=2→
  (Cy L s p f).dirs.map (·.1)=f.dirs.map (·.1)++(IH ((CO (Ha p dirs) s).takeWhile fun n=>decide (n.2.kind=2))).map (·.1)
 |[],[],f,_,_,hf=>by simp[Cy,Ha,CO,IH]
 |x::p,n::l,f,h,ha,hf=>by
  obtain⟨⟨P,hP,hat⟩,h2⟩:=h;have hrec:=fun f hf=>NE L s p l f h2 (fun y hy=>ha y (by simp[hy])) hf
  have hlook:=hat.look (ha n (by simp)) s
  rw[Cy,hP];simp only;cases hk:n.find s with
  |none=>
   rw[hk] at hlook;simp only at hlook;rw[hlook];simp only;rw[hrec f hf];simp[Ha,CO,hk]
  |some y=>
   rw[hk] at hlook;obtain⟨j,hj,hy⟩:=hlook;rw[hj];simp only;have hino:=hy.ino;have hkd:(BO P (j:Nat)).kind=y.kind:=by rw[hino];rfl
   have hop:(BO P (j:Nat)).opq=y.opq:=by rw[hino];rfl
   have he:CO (Ha (x::p) (n::l)) s=(x.1,y)::CO (Ha p l) s:=by simp[Ha,CO,hk]
   rw[he]
   by_cases k2:y.kind=2
   ·have f0:¬f.kind=0:=by omega
    rw[if_neg (c:=(BO P (j:Nat)).kind≠2) (by rw[hkd];simp[k2]),hop,List.takeWhile_cons_of_pos (by simp[k2]),IH]
    simp only[if_neg f0];cases ho:y.opq with
    |true=>simp
    |false=>
     simp only[if_false,Bool.false_eq_true];rw[hrec ⟨f.kind,f.sp,f.dirs++[(x.1,j)]⟩ hf];simp
   ·rw[if_pos (by rw[hkd];exact k2),if_neg (by omega),List.takeWhile_cons_of_neg (by simp[k2])]
    simp[IH]
 |[],_::_,_,h,_,_=>h.elim
 |_::_,[],_,h,_,_=>h.elim
theorem Sr(L:List (List Bk))(s:Str):∀(p:List Spot) (dirs:List Node),OnP L p dirs→(∀n∈dirs,n.allB=true)→
  match HR (Ha p dirs) s with
  |[]=>True
  |z::l=>(Cy L s p Fnd.none).sp.1=z.1∧(z.2.kind=2→(Cy L s p Fnd.none).dirs.map (·.1)=(z::l).map (·.1))
 |[],[],_,_=>by simp[HR,Ha,CO]
 |x::p,n::l,h,ha=>by
  obtain⟨⟨P,hP,hat⟩,h2⟩:=h;have hal:∀y∈l,y.allB=true:=fun y hy=>ha y (by simp[hy])
  have hrec:=Sr L s p l h2 hal;have hlook:=hat.look (ha n (by simp)) s
  rw[Cy,hP];simp only;cases hk:n.find s with
  |none=>
   rw[hk] at hlook;simp only at hlook;rw[hlook];simp only;have e1:HR (Ha (x::p) (n::l)) s=HR (Ha p l) s:=by simp only[HR,Ha,CO,List.filterMap_cons,hk,Option.map_none]
   rw[e1];exact hrec
  |some y=>
   rw[hk] at hlook;obtain⟨j,hj,hy⟩:=hlook;rw[hj];simp only;have hino:=hy.ino;have hkd:(BO P (j:Nat)).kind=y.kind:=by rw[hino];rfl
   have hop:(BO P (j:Nat)).opq=y.opq:=by rw[hino];rfl
   have he:CO (Ha (x::p) (n::l)) s=(x.1,y)::CO (Ha p l) s:=by simp[Ha,CO,hk]
   simp only[HR,he]
   by_cases k4:y.kind=4
   ·rw[if_pos k4];trivial
   rw[if_neg k4]
   by_cases k2:y.kind=2
   ·rw[if_neg (c:=(BO P (j:Nat)).kind≠2) (by rw[hkd];simp[k2]),if_neg (c:=y.kind≠2) (by simp[k2]),List.takeWhile_cons_of_pos (by simp[k2]),IH,hop,hkd]
    simp only[Fnd.none,if_true,List.nil_append];cases ho:y.opq with
    |true=>simp
    |false=>
     simp only[if_false,Bool.false_eq_true];have hm:=NE L s p l ⟨y.kind,(x.1,j),[(x.1,j)]⟩ h2 hal k2;obtain⟨q,q1,_,_⟩:=KP L s p l ⟨y.kind,(x.1,j),[(x.1,j)]⟩ h2 hal k2;refine⟨by rw[q1],fun _=>by rw[hm];simp⟩
   ·rw[if_pos (c:=(BO P (j:Nat)).kind≠2) (by rw[hkd];exact k2),if_pos (c:=y.kind≠2) k2,if_pos (c:=Fnd.none.kind=0∧(BO P (j:Nat)).kind≠4) ⟨rfl,by rw[hkd];exact k4⟩]
    exact⟨rfl,fun e=>absurd e k2⟩
 |[],_::_,h,_=>h.elim
 |_::_,[],h,_=>h.elim
theorem Ta:∀(D:List Node) (k:Nat),(Ga (D.map fun n=>n.tab 0) k).map (·.1)=(IH (N5 D k)).map (·.1)
 |[],_=>rfl
 |n::l,k=>by
  have ho:(BO (n.tab 0) 0).opq=n.opq:=by
   have:=(At.root n).ino;simp only[Int.natCast_zero] at this;exact congrArg Bk.opq this
  rw[List.map_cons,Ga,N5,IH,ho];split
  ·rfl
  ·simp[Ta l (k+1)]
theorem HS.levels{D:List Node}{ds:List Drx}{names:List Str}(h:HS (D.map fun n=>n.tab 0) D ds names):∀k,k≤names.length→(Db (D.map fun n=>n.tab 0) (names.take k)).map (·.1)=(F4 D (names.take k)).map (·.1)∧Sl D (names.take k):=by
 intro k
 induction k with
 |zero=>intro _;exact⟨Ta D 0,Sl.start D⟩
 |succ k ih=>
  intro hk;obtain⟨i1,i2⟩:=ih (by omega)
  obtain⟨d,_,hd⟩:=h.dir k (by omega)
  obtain⟨d',_,hd'⟩:=h.dir (k+1) hk;obtain⟨s,hs⟩:∃s,names[k]? =some s:=⟨names[k]'(by omega),List.getElem?_eq_getElem (by omega)⟩
  have htk:names.take (k+1)=names.take k++[s]:=by rw[List.take_succ,hs];rfl
  rw[htk] at hd' ⊢;have hon:=hd.on;rw[hd.at_] at hon;have hz:=Yd hon i1.symm (Ir D _);have hkd:∀z∈F4 D (names.take k),z.2.kind=2:=fun z hz=>(hd.good z.2 (by rw[←Ir];exact List.mem_map_of_mem hz)).2.2.1
  refine⟨?_,i2.step hkd s⟩;rw[OA,Hh,hz];have hl:=Sr _ s _ _ hon (fun n hn=>(hd.good n hn).2.1)
  have hsn:=Np (Ha (Db (D.map fun n=>n.tab 0) (names.take k)) (DQ D (names.take k))) s
  rw[(Mz hon).2] at hsn;have hne:=hd'.ne (by simp)
  rw[ES] at hne;cases hc:HR (Ha (Db (D.map fun n=>n.tab 0) (names.take k)) (DQ D (names.take k))) s with
  |nil=>rw[hc] at hsn;exact absurd hsn.symm hne
  |cons z l=>
   rw[hc] at hl hsn;refine hl.2 ?_;have:=hd'.good z.2 (by rw[ES,←hsn];simp)
   exact this.2.2.1
theorem Ends.level{D:List Node}{want:AtN}{t:Fnd}(h:Ends (D.map fun n=>n.tab 0) D want t)(hn:want.nodes≠[]):Si D want.names=some t.sp.1:=by
 obtain⟨he,ds,names,hw,hc⟩:=h;obtain⟨i1,i2⟩:=hw.levels names.length (Nat.le_refl _);rw[List.take_length] at i1 i2;obtain⟨d,_,_,hd⟩:=hw.last;have hon:=hd.on;rw[hd.at_] at hon;rcases hc with ⟨h1,h2,h3⟩|⟨s,y,l,hs,h1,h2,h3,h4,h5⟩
 ·rw[h1,h3];cases hz:F4 D names with
  |nil=>
   have:=Ir D names;rw[hz] at this;exact absurd (h2.trans this.symm) hn
  |cons z l=>
   rw[i2.level hz];rw[hz] at i1;cases hp:Db (D.map fun n=>n.tab 0) names with
   |nil=>rw[hp] at i1;simp at i1
   |cons x p=>
    rw[hp] at i1;simp at i1;simp[VS,i1.1]
 ·rw[h1,h5];have hz:=Yd hon i1.symm (Ir D _);have hkd:∀z∈F4 D names,z.2.kind=2:=fun z hz=>(hd.good z.2 (by rw[←Ir];exact List.mem_map_of_mem hz)).2.2.1
  have hl:=Sr _ s _ _ hon (fun n hn=>(hd.good n hn).2.1)
  have hsn:=Np (Ha (Db (D.map fun n=>n.tab 0) names) (DQ D names)) s
  rw[(Mz hon).2,h2] at hsn;have hst:=i2.step hkd s;cases hc:HR (Ha (Db (D.map fun n=>n.tab 0) names) (DQ D names)) s with
  |nil=>rw[hc] at hsn;cases hsn
  |cons z l=>
   rw[hc] at hl;have:F4 D (names++[s])=z::l:=by rw[Hh,hz,hc]
   rw[hst.level this,hl.1]
end Go.Av
