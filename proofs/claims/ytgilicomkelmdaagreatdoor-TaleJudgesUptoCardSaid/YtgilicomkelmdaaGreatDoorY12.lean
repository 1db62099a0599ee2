/- Parts of the proofs of this seat: abstract values over the model, and what the functions of the program do. No condition. -/
import Derived.Test.YtgilicomkelmdaaGreatDoorX05e
set_option linter.all false
set_option maxRecDepth 100000
namespace Go.Av
abbrev LN:=Nat×Node
def RN:List Node→Nat→List LN
 |[],_=>[]
 |n::l,k=>(k,n)::RN l (k+1)
def Jj:List LN→List LN
 |[]=>[]
 |z::l=>z::if z.2.opq=true then [] else Jj l
def CM(Z:List LN)(s:Str):List LN:=Z.filterMap fun z=>(z.2.find s).map fun n=>(z.1,n)
def JS(Z:List LN)(s:Str):List LN:=
 match CM Z s with
 |[]=>[]
 |z::l=>if z.2.kind=4 then [] else if z.2.kind≠2 then [z] else Jj ((z::l).takeWhile fun n=>decide (n.2.kind=2))
def Gy(D:List Node)(names:List Str):List LN:=names.foldl JS (Jj (RN D 0))
theorem JM(D:List Node)(names:List Str)(s:Str):Gy D (names++[s])=JS (Gy D names) s:=by simp[Gy]
theorem RY:∀Z:List LN,(Jj Z).map (·.2)=De (Z.map (·.2))
 |[]=>rfl
 |z::l=>by
  rw[Jj,List.map_cons,List.map_cons,De];split
  ·rfl
  ·rw[RY l]
theorem Zy:∀(D:List Node) (k:Nat),(RN D k).map (·.2)=D
 |[],_=>rfl
 |n::l,k=>by rw[RN,List.map_cons,Zy l]
theorem Ps(s:Str):∀Z:List LN,(CM Z s).map (·.2)=Bf (Z.map (·.2)) s
 |[]=>rfl
 |z::l=>by
  have ih:=Ps s l;simp only[CM,Bf,List.map_cons,List.filterMap_cons] at ih ⊢;cases z.2.find s<;>simp[ih]
theorem az:∀l:List LN,(l.takeWhile fun n=>decide (n.2.kind=2)).map (·.2)=(l.map (·.2)).takeWhile fun n=>decide (n.kind=2)
 |[]=>rfl
 |z::l=>by
  simp only[List.takeWhile_cons,List.map_cons];split
  ·rw[List.map_cons,az l]
  ·rfl
theorem Rr(Z:List LN)(s:Str):(JS Z s).map (·.2)=Cn (Z.map (·.2)) s:=by
 have h:=Ps s Z;unfold JS Cn;rw[←h];cases CM Z s with
 |nil=>rfl
 |cons z l=>
  simp only[List.map_cons];split
  ·rfl
  ·split
   ·rfl
   ·rw[RY,az,List.map_cons]
theorem Kb(D:List Node)(names:List Str):(Gy D names).map (·.2)=DC D names:=by
 have gen:∀(names:List Str) (Z:List LN),(names.foldl JS Z).map (·.2)=names.foldl Cn (Z.map (·.2)):=by
  intro names
  induction names with
  |nil=>intro Z;rfl
  |cons s l ih=>intro Z;rw[List.foldl_cons,List.foldl_cons,ih,Rr]
 rw[Gy,gen,RY,Zy];rfl
def atP:Node→List Str→Option Node
 |n,[]=>some n
 |n,s::l=>if n.kind=2 then (match n.find s with|some x=>atP x l|none=>none) else none
theorem Q8:∀(names:List Str) (n:Node) (s:Str),atP n (names++[s])=(match atP n names with|some m=>if m.kind=2 then m.find s else none|none=>none)
 |[],n,s=>by
  simp only[List.nil_append,atP];split
  ·cases n.find s<;>rfl
  ·rfl
 |x::l,n,s=>by
  rw[List.cons_append,atP,atP];split
  ·cases hx:n.find x with
   |none=>rfl
   |some m=>exact Q8 l m s
  ·rfl
def KI(D:List Node)(names:List Str):Option Nat:=D.findIdx? fun n=>(atP n names).isSome
theorem Rj:∀Z:List LN,Jj Z <+:Z
 |[]=>List.prefix_refl _
 |z::l=>by
  rw[Jj];split
  ·exact⟨l,rfl⟩
  ·exact(List.prefix_cons_inj z).2 (Rj l)
theorem fj(Z:List LN)(s:Str):JS Z s <+:CM Z s:=by
 unfold JS;cases CM Z s with
 |nil=>exact List.prefix_refl _
 |cons z l=>
  simp only;split
  ·exact List.nil_prefix
  ·split
   ·exact⟨l,rfl⟩
   ·exact(Rj _).trans (List.takeWhile_prefix _)
theorem dp{l m:List LN}(h:l <+:m)(hs:m.Pairwise fun a b=>a.1 < b.1){z x:LN}(hz:z∈l)(hx:x∈m)(hle:x.1≤z.1):x∈l:=by
 obtain⟨t,rfl⟩:=h;rcases List.mem_append.1 hx with hx|hx
 ·exact hx
 ·have:=(List.pairwise_append.1 hs).2.2 z hz x hx;omega
structure YE(D:List Node)(names:List Str):Prop where
 sorted:(Gy D names).Pairwise fun a b=>a.1 < b.1
 sound:∀z∈Gy D names,∃n,D[z.1]? =some n∧atP n names=some z.2
 all:∀j n m,D[j]? =some n→atP n names=some m→(∃z∈Gy D names,j≤z.1)→(j,m)∈Gy D names
theorem Pa:∀{D:List Node} {k:Nat} {z:LN},z∈RN D k↔k≤z.1∧D[z.1 - k]? =some z.2
 |[],k,z=>by simp[RN]
 |n::l,k,(j,m)=>by
  rw[RN,List.mem_cons,Pa];simp only;constructor
  ·rintro (h|⟨h1,h2⟩)
   ·cases h;simp
   ·refine⟨by omega,?_⟩
    rw[show j - k=(j - (k+1))+1 by omega,List.getElem?_cons_succ];exact h2
  ·rintro⟨h1,h2⟩
   by_cases e:j=k
   ·subst e;simp at h2;left;rw[h2]
   ·right;rw[show j - k=(j - (k+1))+1 by omega,List.getElem?_cons_succ] at h2
    exact⟨by omega,h2⟩
theorem NU:∀(D:List Node) (k:Nat),(RN D k).Pairwise fun a b=>a.1 < b.1
 |[],_=>by simp[RN]
 |n::l,k=>by
  rw[RN,List.pairwise_cons];exact⟨fun z hz=>by have:=(Pa.1 hz).1;simp only;omega,NU l (k+1)⟩
theorem YE.start(D:List Node):YE D []:=by
 have hp:=Rj (RN D 0);refine⟨(NU D 0).sublist hp.sublist,fun z hz=>?_,fun j n m hj hm ⟨z,hz,hle⟩=>?_⟩
 ·have:=(Pa.1 (hp.subset hz)).2;exact⟨z.2,by simpa using this,rfl⟩
 ·cases hm;exact dp hp (NU D 0) hz (Pa.2 ⟨Nat.zero_le _,by simpa using hj⟩) hle
theorem TS{Z:List LN}(h:Z.Pairwise fun a b=>a.1 < b.1)(s:Str):(CM Z s).Pairwise fun a b=>a.1 < b.1:=by
 unfold CM;rw[List.pairwise_filterMap];refine h.imp fun {a b} hab x hx y hy=>?_
 rw[Option.map_eq_some_iff] at hx hy;obtain⟨_,_,rfl⟩:=hx;obtain⟨_,_,rfl⟩:=hy;exact hab
theorem YE.step{D:List Node}{names:List Str}(h:YE D names)(hk:∀z∈Gy D names,z.2.kind=2)(s:Str):YE D (names++[s]):=by
 have hp:=fj (Gy D names) s;have hs:=TS h.sorted s;refine⟨?_,?_,?_⟩
 ·rw[JM];exact hs.sublist hp.sublist
 ·intro z hz;rw[JM] at hz;have hz2:=hp.subset hz;unfold CM at hz2;obtain⟨y,hy,he⟩:=List.mem_filterMap.1 hz2;rw[Option.map_eq_some_iff] at he;obtain⟨x,hx,rfl⟩:=he;obtain⟨n,h1,h2⟩:=h.sound y hy;refine⟨n,h1,?_⟩;rw[Q8,h2];simp only[hk y hy,if_true];exact hx
 ·rintro j n m hj hm ⟨z,hz,hle⟩;rw[JM] at hz ⊢;have hz2:=hp.subset hz;unfold CM at hz2;obtain⟨y,hy,he⟩:=List.mem_filterMap.1 hz2;rw[Option.map_eq_some_iff] at he;obtain⟨x,hx,rfl⟩:=he;rw[Q8] at hm;cases hq:atP n names with
  |none=>rw[hq] at hm;cases hm
  |some q=>
   rw[hq] at hm;simp only at hm;split at hm
   ·have hj2:=h.all j n q hj hq ⟨y,hy,hle⟩;have:(j,m)∈CM (Gy D names) s:=List.mem_filterMap.2 ⟨(j,q),hj2,by simp[hm]⟩
    exact dp hp hs hz this hle
   ·cases hm
theorem YE.level{D:List Node}{names:List Str}(h:YE D names){z:LN}{l:List LN}(hz:Gy D names=z::l):KI D names=some z.1:=by
 obtain⟨n,h1,h2⟩:=h.sound z (by rw[hz];simp)
 have hlt:=(List.getElem?_eq_some_iff.1 h1).1;rw[KI,List.findIdx?_eq_some_iff_getElem];refine⟨hlt,?_,fun j hj=>?_⟩
 ·have:=(List.getElem?_eq_some_iff.1 h1).2;rw[this,h2];rfl
 ·intro hsome;obtain⟨m,hm⟩:=Option.isSome_iff_exists.1 hsome;have hjl:j < D.length:=by omega
  have:=h.all j D[j] m (List.getElem?_eq_getElem hjl) hm ⟨z,by rw[hz];simp,by omega⟩
  have hs:=h.sorted;rw[hz] at this hs;rcases List.mem_cons.1 this with e|e
  ·rw[←e] at hj;simp at hj
  ·have:=(List.pairwise_cons.1 hs).1 _ e;simp only at this;omega
def Ix:List Spot→List Node→List LN
 |x::p,n::l=>(x.1,n)::Ix p l
 |_,_=>[]
theorem QK{L:List (List Bm)}:∀{p:List Spot} {l:List Node},OnP L p l→(Ix p l).map (·.1)=p.map (·.1)∧(Ix p l).map (·.2)=l
 |[],[],_=>⟨rfl,rfl⟩
 |x::p,n::l,h=>by
  obtain⟨h1,h2⟩:=QK h.2;simp[Ix,h1,h2]
 |[],_::_,h=>h.elim
 |_::_,[],h=>h.elim
theorem jB{Z:List LN}{p:List Spot}{l:List Node}{L:List (List Bm)}(h:OnP L p l)(h1:Z.map (·.1)=p.map (·.1))(h2:Z.map (·.2)=l):Z=Ix p l:=by
 obtain⟨k1,k2⟩:=QK h;have:∀(A B:List LN),A.map (·.1)=B.map (·.1)→A.map (·.2)=B.map (·.2)→A=B:=by
  intro A
  induction A with
  |nil=>intro B e _;cases B with|nil=>rfl|cons _ _=>simp at e
  |cons a A ih=>
   intro B e1 e2;cases B with
   |nil=>simp at e1
   |cons b B=>
    simp only[List.map_cons,List.cons.injEq] at e1 e2;rw[ih B e1.2 e2.2];obtain⟨a1,a2⟩:=a;obtain⟨b1,b2⟩:=b
    simp_all
 exact this _ _ (h1.trans k1.symm) (h2.trans k2.symm)
theorem Qe(L:List (List Bm))(s:Str):∀(p:List Spot) (dirs:List Node) (f:Fnd),OnP L p dirs→(∀n∈dirs,n.allB=true)→f.kind=2→
  (DB L s p f).dirs.map (·.1)=f.dirs.map (·.1)++(Jj ((CM (Ix p dirs) s).takeWhile fun n=>decide (n.2.kind=2))).map (·.1)
 |[],[],f,_,_,hf=>by simp[DB,Ix,CM,Jj]
 |x::p,n::l,f,h,ha,hf=>by
  obtain⟨⟨P,hP,hat⟩,h2⟩:=h;have hrec:=fun f hf=>Qe L s p l f h2 (fun y hy=>ha y (by simp[hy])) hf
  have hlook:=hat.look (ha n (by simp)) s
  rw[DB,hP];simp only;cases hk:n.find s with
  |none=>
   rw[hk] at hlook;simp only at hlook;rw[hlook];simp only;rw[hrec f hf];simp[Ix,CM,hk]
  |some y=>
   rw[hk] at hlook;obtain⟨j,hj,hy⟩:=hlook;rw[hj];simp only;have hino:=hy.ino;have hkd:(BM P (j:Nat)).kind=y.kind:=by rw[hino];rfl
   have hop:(BM P (j:Nat)).opq=y.opq:=by rw[hino];rfl
   have he:CM (Ix (x::p) (n::l)) s=(x.1,y)::CM (Ix p l) s:=by simp[Ix,CM,hk]
   rw[he]
   by_cases k2:y.kind=2
   ·have f0:¬f.kind=0:=by omega
    rw[if_neg (c:=(BM P (j:Nat)).kind≠2) (by rw[hkd];simp[k2]),hop,List.takeWhile_cons_of_pos (by simp[k2]),Jj]
    simp only[if_neg f0];cases ho:y.opq with
    |true=>simp
    |false=>
     simp only[if_false,Bool.false_eq_true];rw[hrec ⟨f.kind,f.sp,f.dirs++[(x.1,j)]⟩ hf];simp
   ·rw[if_pos (by rw[hkd];exact k2),if_neg (by omega),List.takeWhile_cons_of_neg (by simp[k2])]
    simp[Jj]
 |[],_::_,_,h,_,_=>h.elim
 |_::_,[],_,h,_,_=>h.elim
theorem Yg(L:List (List Bm))(s:Str):∀(p:List Spot) (dirs:List Node),OnP L p dirs→(∀n∈dirs,n.allB=true)→
  match JS (Ix p dirs) s with
  |[]=>True
  |z::l=>(DB L s p Fnd.none).sp.1=z.1∧(z.2.kind=2→(DB L s p Fnd.none).dirs.map (·.1)=(z::l).map (·.1))
 |[],[],_,_=>by simp[JS,Ix,CM]
 |x::p,n::l,h,ha=>by
  obtain⟨⟨P,hP,hat⟩,h2⟩:=h;have hal:∀y∈l,y.allB=true:=fun y hy=>ha y (by simp[hy])
  have hrec:=Yg L s p l h2 hal;have hlook:=hat.look (ha n (by simp)) s
  rw[DB,hP];simp only;cases hk:n.find s with
  |none=>
   rw[hk] at hlook;simp only at hlook;rw[hlook];simp only;have e1:JS (Ix (x::p) (n::l)) s=JS (Ix p l) s:=by simp only[JS,Ix,CM,List.filterMap_cons,hk,Option.map_none]
   rw[e1];exact hrec
  |some y=>
   rw[hk] at hlook;obtain⟨j,hj,hy⟩:=hlook;rw[hj];simp only;have hino:=hy.ino;have hkd:(BM P (j:Nat)).kind=y.kind:=by rw[hino];rfl
   have hop:(BM P (j:Nat)).opq=y.opq:=by rw[hino];rfl
   have he:CM (Ix (x::p) (n::l)) s=(x.1,y)::CM (Ix p l) s:=by simp[Ix,CM,hk]
   simp only[JS,he]
   by_cases k4:y.kind=4
   ·rw[if_pos k4];trivial
   rw[if_neg k4]
   by_cases k2:y.kind=2
   ·rw[if_neg (c:=(BM P (j:Nat)).kind≠2) (by rw[hkd];simp[k2]),if_neg (c:=y.kind≠2) (by simp[k2]),List.takeWhile_cons_of_pos (by simp[k2]),Jj,hop,hkd]
    simp only[Fnd.none,if_true,List.nil_append];cases ho:y.opq with
    |true=>simp
    |false=>
     simp only[if_false,Bool.false_eq_true];have hm:=Qe L s p l ⟨y.kind,(x.1,j),[(x.1,j)]⟩ h2 hal k2;obtain⟨q,q1,_,_⟩:=NM L s p l ⟨y.kind,(x.1,j),[(x.1,j)]⟩ h2 hal k2;refine⟨by rw[q1],fun _=>by rw[hm];simp⟩
   ·rw[if_pos (c:=(BM P (j:Nat)).kind≠2) (by rw[hkd];exact k2),if_pos (c:=y.kind≠2) k2,if_pos (c:=Fnd.none.kind=0∧(BM P (j:Nat)).kind≠4) ⟨rfl,by rw[hkd];exact k4⟩]
    exact⟨rfl,fun e=>absurd e k2⟩
 |[],_::_,h,_=>h.elim
 |_::_,[],h,_=>h.elim
theorem ar:∀(D:List Node) (k:Nat),(Gz (D.map fun n=>n.tab 0) k).map (·.1)=(Jj (RN D k)).map (·.1)
 |[],_=>rfl
 |n::l,k=>by
  have ho:(BM (n.tab 0) 0).opq=n.opq:=by
   have:=(At.root n).ino;simp only[Int.natCast_zero] at this;exact congrArg Bm.opq this
  rw[List.map_cons,Gz,RN,Jj,ho];split
  ·rfl
  ·simp[ar l (k+1)]
theorem JY.levels{D:List Node}{ds:List Drx}{names:List Str}(h:JY (D.map fun n=>n.tab 0) D ds names):∀k,k≤names.length→(D0 (D.map fun n=>n.tab 0) (names.take k)).map (·.1)=(Gy D (names.take k)).map (·.1)∧YE D (names.take k):=by
 intro k
 induction k with
 |zero=>intro _;exact⟨ar D 0,YE.start D⟩
 |succ k ih=>
  intro hk;obtain⟨i1,i2⟩:=ih (by omega)
  obtain⟨d,_,hd⟩:=h.dir k (by omega)
  obtain⟨d',_,hd'⟩:=h.dir (k+1) hk;obtain⟨s,hs⟩:∃s,names[k]? =some s:=⟨names[k]'(by omega),List.getElem?_eq_getElem (by omega)⟩
  have htk:names.take (k+1)=names.take k++[s]:=by rw[List.take_succ,hs];rfl
  rw[htk] at hd' ⊢;have hon:=hd.on;rw[hd.at_] at hon;have hz:=jB hon i1.symm (Kb D _);have hkd:∀z∈Gy D (names.take k),z.2.kind=2:=fun z hz=>(hd.good z.2 (by rw[←Kb];exact List.mem_map_of_mem hz)).2.2.1
  refine⟨?_,i2.step hkd s⟩;rw[Sa,JM,hz];have hl:=Yg _ s _ _ hon (fun n hn=>(hd.good n hn).2.1)
  have hsn:=Rr (Ix (D0 (D.map fun n=>n.tab 0) (names.take k)) (DC D (names.take k))) s
  rw[(QK hon).2] at hsn;have hne:=hd'.ne (by simp)
  rw[GD] at hne;cases hc:JS (Ix (D0 (D.map fun n=>n.tab 0) (names.take k)) (DC D (names.take k))) s with
  |nil=>rw[hc] at hsn;exact absurd hsn.symm hne
  |cons z l=>
   rw[hc] at hl hsn;refine hl.2 ?_;have:=hd'.good z.2 (by rw[GD,←hsn];simp)
   exact this.2.2.1
theorem Ends.level{D:List Node}{want:AtN}{t:Fnd}(h:Ends (D.map fun n=>n.tab 0) D want t)(hn:want.nodes≠[]):KI D want.names=some t.sp.1:=by
 obtain⟨he,ds,names,hw,hc⟩:=h;obtain⟨i1,i2⟩:=hw.levels names.length (Nat.le_refl _);rw[List.take_length] at i1 i2;obtain⟨d,_,_,hd⟩:=hw.last;have hon:=hd.on;rw[hd.at_] at hon;rcases hc with ⟨h1,h2,h3⟩|⟨s,y,l,hs,h1,h2,h3,h4,h5⟩
 ·rw[h1,h3];cases hz:Gy D names with
  |nil=>
   have:=Kb D names;rw[hz] at this;exact absurd (h2.trans this.symm) hn
  |cons z l=>
   rw[i2.level hz];rw[hz] at i1;cases hp:D0 (D.map fun n=>n.tab 0) names with
   |nil=>rw[hp] at i1;simp at i1
   |cons x p=>
    rw[hp] at i1;simp at i1;simp[dc,i1.1]
 ·rw[h1,h5];have hz:=jB hon i1.symm (Kb D _);have hkd:∀z∈Gy D names,z.2.kind=2:=fun z hz=>(hd.good z.2 (by rw[←Kb];exact List.mem_map_of_mem hz)).2.2.1
  have hl:=Yg _ s _ _ hon (fun n hn=>(hd.good n hn).2.1)
  have hsn:=Rr (Ix (D0 (D.map fun n=>n.tab 0) names) (DC D names)) s
  rw[(QK hon).2,h2] at hsn;have hst:=i2.step hkd s;cases hc:JS (Ix (D0 (D.map fun n=>n.tab 0) names) (DC D names)) s with
  |nil=>rw[hc] at hsn;cases hsn
  |cons z l=>
   rw[hc] at hl;have:Gy D (names++[s])=z::l:=by rw[JM,hz,hc]
   rw[hst.level this,hl.1]
end Go.Av
