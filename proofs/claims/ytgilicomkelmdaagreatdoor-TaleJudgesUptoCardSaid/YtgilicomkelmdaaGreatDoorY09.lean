/- Parts of the proofs of this seat: abstract values over the model, and what the functions of the program do. No condition. -/
import Derived.Test.YtgilicomkelmdaaGreatDoorDRow
import Derived.Test.YtgilicomkelmdaaGreatDoorD0
import Derived.Test.YtgilicomkelmdaaGreatDoorM9
import Derived.Test.YtgilicomkelmdaaGreatDoorM10
import Derived.Test.YtgilicomkelmdaaGreatDoorXLess
set_option linter.all false
set_option maxRecDepth 100000
namespace Go.Av
structure Hd where
 name:Str
 row:Int
 rest:Ss
 deriving DecidableEq
@[simp] def Hd.c(x:Hd):List AV:=[.str x.name,.int .i64 x.row,x.rest.v]
theorem Hd.cl(x:Hd):x.c.length=3:=rfl
instance:Inhabited Hd:=⟨⟨[],0,⟨[],.none⟩⟩⟩
def Hd.lt(a b:Hd):Bool:=if a.name=b.name then decide (a.row < b.row) else slt a.name b.name
def hat(hs:List Hd)(i:Nat):Hd:=hs.getD i default
theorem Ku{hs:List Hd}{i:Nat}{x:Hd}(h:hs[i]? =some x):hat hs i=x:=by simp[hat,List.getD_eq_getElem?_getD,h]
def GQ(hs:List Hd)(i k:Nat):List Hd:=(hs.set i (hat hs k)).set k (hat hs i)
def EE(n:Nat):Nat→Nat→List Hd→List Hd×Nat
 |0,i,hs=>(hs,i)
 |f+1,i,hs=>
  if 2*i+1≥n then (hs,i) else
   let j:=if 2*i+1+1 < n∧(hat hs (2*i+1+1)).lt (hat hs (2*i+1))=true then 2*i+1+1 else 2*i+1
   if (hat hs j).lt (hat hs i)=true then EE n f j (GQ hs i j) else (hs,i)
theorem Ci(hs:List Hd)(i k:Nat):(GQ hs i k).length=hs.length:=by simp[GQ]
theorem getD_some{hs:List Hd}{i:Nat}(h:i < hs.length):hs[i]? =some (hat hs i):=by simp[hat,List.getD_eq_getElem?_getD,h]
theorem Fl(n:Nat):∀(f i:Nat) (hs:List Hd),(EE n f i hs).1.length=hs.length
 |0,i,hs=>rfl
 |f+1,i,hs=>by
  simp only[EE]
  repeat' split
  all_goals first|rfl|(rw[Fl n f,Ci])
def Kn(n:Nat):Nat→List Hd→List Hd
 |0,hs=>hs
 |i+1,hs=>Kn n i (EE n n i hs).1
def YM(hs:List Hd):List Hd:=(EE (hs.length - 1) (hs.length - 1) 0 (GQ hs 0 (hs.length - 1))).1.dropLast
theorem Ve{hs:List Hd}{i k:Nat}(hi:i < hs.length)(hk:k < hs.length):(GQ hs i k).Perm hs:=by
 rw[List.perm_iff_count];intro a;have e1:=getD_some hi;have e2:=getD_some hk;have h1:hs[i]=hat hs i:=by rw[List.getElem?_eq_getElem hi] at e1;exact Option.some.inj e1
 have h2:hs[k]=hat hs k:=by rw[List.getElem?_eq_getElem hk] at e2;exact Option.some.inj e2
 have c1:hat hs i=a→0 < hs.count a:=fun e=>List.count_pos_iff.2 (e ▸ List.mem_of_getElem? e1)
 have c2:hat hs k=a→0 < hs.count a:=fun e=>List.count_pos_iff.2 (e ▸ List.mem_of_getElem? e2)
 unfold GQ;rw[List.count_set (by simpa using hk),List.count_set hi,List.getElem_set,h1,h2]
 by_cases k1:hat hs i=a<;>by_cases k2:hat hs k=a<;>by_cases e:i=k<;>simp[k1,k2,e] at c1 c2 ⊢<;>(try subst e)<;>(try simp_all)<;>omega
theorem KY{hs:List Hd}{i k j:Nat}(hi:i < hs.length)(hk:k < hs.length):hat (GQ hs i k) j=if j=k then hat hs i else if j=i then hat hs k else hat hs j:=by
 unfold GQ hat;simp only[List.getD_eq_getElem?_getD,List.getElem?_set,List.length_set]
 by_cases e1:k=j
 ·subst e1;simp[hk]
 ·by_cases e2:i=j
  ·subst e2;simp[e1,hi,Ne.symm e1]
  ·simp[e1,e2,Ne.symm e1,Ne.symm e2]
theorem HO{n:Nat}:∀(f i:Nat) (hs:List Hd),n≤hs.length→i < hs.length→(EE n f i hs).1.Perm hs
 |0,i,hs,_,_=>.refl _
 |f+1,i,hs,hn,hi=>by
  have:∀j,j < n→(EE n f j (GQ hs i j)).1.Perm hs:=fun j hj=>(HO f j (GQ hs i j) (by rw[Ci];exact hn) (by rw[Ci];omega)).trans (Ve hi (by omega))
  simp only[EE]
  repeat' split
  all_goals first|exact .refl _|exact this _ (by omega)
theorem T7{n:Nat}:∀(f i:Nat) (hs:List Hd) (j:Nat),n≤hs.length→i < n→n≤j→hat (EE n f i hs).1 j=hat hs j
 |0,i,hs,j,_,_,_=>rfl
 |f+1,i,hs,j,hn,hi,hj=>by
  have:∀k,k < n→hat (EE n f k (GQ hs i k)).1 j=hat hs j:=fun k hk=>by
   rw[T7 f k _ j (by rw[Ci];exact hn) hk hj,KY (by omega) (by omega),if_neg (by omega),if_neg (by omega)]
  simp only[EE]
  repeat' split
  all_goals first|rfl|exact this _ (by omega)
def Hd.le(a b:Hd):Prop:=b.lt a=false
theorem Hd.lt_trans{a b c:Hd}(h:a.lt b=true)(k:b.lt c=true):a.lt c=true:=by
 unfold Hd.lt at*
 by_cases e1:a.name=b.name
 ·by_cases e2:b.name=c.name
  ·simp[e1,e2] at h k ⊢;omega
  ·simp only[e1,e2,if_true,if_false] at h k ⊢;exact k
 ·by_cases e2:b.name=c.name
  ·simp only[e1,←e2,if_true,if_false] at h k ⊢;exact h
  ·simp only[e1,e2,if_false] at h k;have h3:=EV h k;have:a.name≠c.name:=fun e=>by rw[e] at h3;rw[CB] at h3;cases h3
   simp only[this,if_false];exact h3
theorem Hd.lt_irrefl(a:Hd):a.lt a=false:=by simp[Hd.lt]
theorem Hd.lt_tri(a b:Hd):a.lt b=true∨(a.name=b.name∧a.row=b.row)∨b.lt a=true:=by
 unfold Hd.lt
 by_cases e:a.name=b.name
 ·simp[e];omega
 ·simp only[e,Ne.symm e,if_false];rcases L0 a.name b.name with h|h|h
  ·exact .inl h
  ·exact(e h).elim
  ·exact .inr (.inr h)
theorem Hd.lt_key{a b a' b':Hd}(h1:a.name=a'.name)(h2:a.row=a'.row)(h3:b.name=b'.name)(h4:b.row=b'.row):a.lt b=a'.lt b':=by simp[Hd.lt,h1,h2,h3,h4]
theorem Hd.le_trans{a b c:Hd}(h:a.le b)(k:b.le c):a.le c:=by
 unfold Hd.le at*;cases h3:c.lt a with
 |false=>rfl
 |true=>
  rcases Hd.lt_tri a b with h4|⟨h4,h5⟩|h4
  ·have:=Hd.lt_trans h3 h4;rw[k] at this;cases this
  ·rw[Hd.lt_key rfl rfl h4 h5] at h3;rw[k] at h3;cases h3
  ·rw[h] at h4;cases h4
theorem Hd.le_refl(a:Hd):a.le a:=Hd.lt_irrefl a
theorem Hd.le_of_lt{a b:Hd}(h:a.lt b=true):a.le b:=by
 unfold Hd.le;cases k:b.lt a with
 |false=>rfl
 |true=>have:=Hd.lt_trans h k;rw[Hd.lt_irrefl] at this;cases this
def OI(n i:Nat)(hs:List Hd):Prop:=∀k,0 < k→k < n→i≤(k - 1) / 2→(hat hs ((k - 1) / 2)).le (hat hs k)
theorem XH{n:Nat}{hs:List Hd}(h:OI n 0 hs):∀(m k:Nat),k≤m→k < n→(hat hs 0).le (hat hs k)
 |0,k,hk,_=>by
  have:k=0:=by omega
  subst this;exact Hd.le_refl _
 |m+1,k,hk,hn=>by
  by_cases e:k=0
  ·subst e;exact Hd.le_refl _
  ·exact Hd.le_trans (XH h m ((k - 1) / 2) (by omega) (by omega)) (h k (by omega) hn (Nat.zero_le _))
theorem Lt{n i0:Nat}:∀(f i:Nat) (hs:List Hd),n≤hs.length→i < n→n≤f+i→i0≤i→
  (∀k,0 < k→k < n→i0≤(k - 1) / 2→(k - 1) / 2≠i→(hat hs ((k - 1) / 2)).le (hat hs k))→
  (i≠i0→i0≤(i - 1) / 2→∀k,0 < k→k < n→(k - 1) / 2=i→(hat hs ((i - 1) / 2)).le (hat hs k))→OI n i0 (EE n f i hs).1
 |0,i,hs,hn,hi,hf,_,_,_=>by omega
 |f+1,i,hs,hn,hi,hf,h0,h1,h2=>by
  simp only[EE];split
  ·rename_i c;intro k k1 k2 k3;exact h1 k k1 k2 k3 (by omega)
  rename_i c;obtain⟨j,hj⟩:∃j,j=if 2*i+1+1 < n∧(hat hs (2*i+1+1)).lt (hat hs (2*i+1))=true then 2*i+1+1 else 2*i+1:=⟨_,rfl⟩
  rw[←hj];have hjn:j < n∧(j=2*i+1∨j=2*i+2):=by split at hj<;>omega
  have hmin:∀k,0 < k→k < n→(k - 1) / 2=i→(hat hs j).le (hat hs k):=fun k k1 k2 k3=>by
   have:k=2*i+1∨k=2*i+1+1:=by omega
   by_cases cc:2*i+1+1 < n∧(hat hs (2*i+1+1)).lt (hat hs (2*i+1))=true
   ·rw[if_pos cc] at hj;subst hj;rcases this with rfl|rfl
    ·exact Hd.le_of_lt cc.2
    ·exact Hd.le_refl _
   ·rw[if_neg cc] at hj;subst hj;rcases this with rfl|rfl
    ·exact Hd.le_refl _
    ·unfold Hd.le;cases hh:(hat hs (2*i+1+1)).lt (hat hs (2*i+1)) with
     |false=>rfl
     |true=>exact(cc ⟨k2,hh⟩).elim
  split
  ·rename_i hlt;have hle:=Hd.le_of_lt hlt;have hsw:∀k,hat (GQ hs i j) k=if k=j then hat hs i else if k=i then hat hs j else hat hs k:=fun k=>KY (by omega) (by omega)
   refine Lt f j _ (by rw[Ci];exact hn) hjn.1 (by omega) (by omega) (fun k k1 k2 k3 k4=>?_) (fun _ _ k k1 k2 k3=>?_)
   ·rw[hsw,hsw];rw[if_neg k4]
    by_cases e1:(k - 1) / 2=i
    ·rw[if_pos e1]
     by_cases e2:k=j
     ·rw[if_pos e2];exact hle
     ·rw[if_neg e2,if_neg (by omega)];exact hmin k k1 k2 e1
    ·rw[if_neg e1];have e2:k≠j:=fun e=>e1 (by omega)
     rw[if_neg e2]
     by_cases e3:k=i
     ·rw[if_pos e3];subst e3
      by_cases e4:k=i0
      ·omega
      ·exact h2 e4 k3 j (by omega) hjn.1 (by omega)
     ·rw[if_neg e3];exact h1 k k1 k2 k3 e1
   ·have e:(j - 1) / 2=i:=by omega
    rw[hsw,hsw,e,if_neg (by omega),if_pos rfl,if_neg (by omega),if_neg (by omega)]
    have:=h1 k k1 k2 (by omega) (by omega)
    rw[k3] at this;exact this
  ·rename_i hlt;intro k k1 k2 k3
   by_cases e:(k - 1) / 2=i
   ·rw[e];exact Hd.le_trans (by simpa[Hd.le] using hlt) (hmin k k1 k2 e)
   ·exact h1 k k1 k2 k3 e
theorem Uz{n:Nat}:∀(i:Nat) (hs:List Hd),n≤hs.length→i≤n / 2→OI n i hs→OI n 0 (Kn n i hs)∧(Kn n i hs).Perm hs
 |0,hs,_,_,h=>⟨h,.refl _⟩
 |i+1,hs,hn,hi,h=>by
  have hp:=HO (n:=n) n i hs hn (by omega)
  have hh:=Lt (n:=n) (i0:=i) n i hs hn (by omega) (by omega) (Nat.le_refl _) (fun k k1 k2 k3 k4=>h k k1 k2 (by omega)) (fun e=>(e rfl).elim)
  obtain⟨r1,r2⟩:=Uz i _ (by rw[Fl];exact hn) (by omega) hh
  exact⟨r1,r2.trans hp⟩
theorem fy{n:Nat}{hs:List Hd}:OI n (n / 2) hs:=fun k k1 k2 k3=>by omega
theorem UQ{a b:List Hd}{k:Nat}(h:k < a.length):hat (a++b) k=hat a k:=by simp[hat,List.getD_eq_getElem?_getD,List.getElem?_append_left h]
theorem Xy{hs:List Hd}(hn:hs≠[])(h:OI hs.length 0 hs):OI (YM hs).length 0 (YM hs)∧(YM hs++[hat hs 0]).Perm hs:=by
 have hpos:=List.length_pos_iff.2 hn;unfold YM;generalize hd:(EE (hs.length - 1) (hs.length - 1) 0 (GQ hs 0 (hs.length - 1))).1=d;have hl:d.length=hs.length:=by rw[←hd,Fl,Ci]
 have hp:d.Perm hs:=by
  rw[←hd];exact(HO _ _ _ (by rw[Ci];omega) (by rw[Ci];omega)).trans (Ve hpos (by omega))
 have hlast:hat d (hs.length - 1)=hat hs 0:=by
  rw[←hd]
  by_cases c:hs.length=1
  ·rw[c];show hat (GQ hs 0 0) 0=hat hs 0;rw[KY (by omega) (by omega),if_pos rfl]
  ·rw[T7 _ _ _ _ (by rw[Ci];omega) (by omega) (Nat.le_refl _),KY (by omega) (by omega),if_pos rfl]
 have hdn:d≠[]:=by rw[←List.length_pos_iff];omega
 have he:d=d.dropLast++[hat hs 0]:=by
  have:=List.dropLast_concat_getLast hdn;rw[List.getLast_eq_getElem] at this;have e2:=getD_some (hs:=d) (i:=d.length - 1) (by omega)
  rw[List.getElem?_eq_getElem (by omega)] at e2
  rw[Option.some.inj e2,show d.length - 1=hs.length - 1 by omega,hlast] at this
  exact this.symm
 refine⟨?_,by rw[←he];exact hp⟩
 have hheap:OI (hs.length - 1) 0 d:=by
  by_cases c:hs.length=1
  ·intro k k1 k2;omega
  rw[←hd];have hsw:∀k,k≠0→k≠hs.length - 1→hat (GQ hs 0 (hs.length - 1)) k=hat hs k:=fun k h1 h2=>by
   rw[KY (by omega) (by omega),if_neg h2,if_neg h1]
  refine Lt _ _ _ (by rw[Ci];omega) (by omega) (by omega) (Nat.le_refl _) (fun k k1 k2 k3 k4=>?_) (fun e=>(e rfl).elim)
  rw[hsw _ k4 (by omega),hsw _ (by omega) (by omega)]
  exact h k k1 (by omega) (Nat.zero_le _)
 have hdl:d.dropLast.length=hs.length - 1:=by rw[List.length_dropLast,hl]
 rw[hdl];intro k k1 k2 k3;have:=hheap k k1 k2 k3;rw[he,UQ (by omega),UQ (by omega)] at this
 exact this
structure Item where
 name:Str
 row:Int
 deriving DecidableEq
@[simp] def Item.c(x:Item):List AV:=[.str x.name,.int .i64 x.row]
def GU(hs:List Hd):List Hd:=
 match hs with
 |[]=>[]
 |x::tl=>match x.rest.l with
  |[]=>YM (x::tl)
  |s::t=>(EE (tl.length+1) (tl.length+1) 0 (⟨s,x.row,⟨t,x.rest.r⟩⟩::tl)).1
def HX:Nat→List Hd→List Item
 |0,_=>[]
 |f+1,[]=>[]
 |f+1,x::tl=>⟨x.name,x.row⟩::HX f (GU (x::tl))
def hds:Nat→List Ss→List Hd
 |_,[]=>[]
 |i,x::xs=>(match x.l with|[]=>[]|s::t=>[⟨s,i,⟨t,x.r⟩⟩])++hds (i+1) xs
def Hs:Nat→Option (Nat×Str)→List Ss→Option (Nat×Str)
 |_,b,[]=>b
 |i,b,x::xs=>match x.l with
  |[]=>Hs (i+1) b xs
  |s::_=>match b with
   |none=>Hs (i+1) (some (i,s)) xs
   |some (j,t)=>if slt s t=true then Hs (i+1) (some (i,s)) xs else Hs (i+1) (some (j,t)) xs
def Jp(rs:List Ss)(j:Nat):List Ss:=match rs[j]? with|some r=>rs.set j ⟨r.l.tail,r.r⟩|none=>rs
def EQ:Nat→List Ss→List Item
 |0,_=>[]
 |f+1,rs=>match Hs 0 none rs with
  |none=>[]
  |some (j,t)=>⟨t,j⟩::EQ f (Jp rs j)
theorem Ti:∀(a b:List Ss) (i:Nat),hds i (a++b)=hds i a++hds (i+a.length) b
 |[],b,i=>by simp[hds]
 |x::a,b,i=>by
  simp only[List.cons_append,hds,Ti a b (i+1),List.length_cons,List.append_assoc];rw[show i+1+a.length=i+(a.length+1) by omega]
theorem Pw:∀{rs:List Ss} {i:Nat} {h:Hd},h∈hds i rs↔∃k r s t,rs[k]? =some r∧r.l=s::t∧h=⟨s,((i+k:Nat):Int),⟨t,r.r⟩⟩
 |[],i,h=>by simp[hds]
 |x::xs,i,h=>by
  simp only[hds,List.mem_append,Pw (rs:=xs)];constructor
  ·rintro (h1|⟨k,r,s,t,h1,h2,h3⟩)
   ·cases hx:x.l with
    |nil=>rw[hx] at h1;simp at h1
    |cons s t=>
     rw[hx] at h1;exact⟨0,x,s,t,rfl,hx,List.mem_singleton.1 h1⟩
   ·exact⟨k+1,r,s,t,by simpa using h1,h2,by rw[h3];congr 2;omega⟩
  ·rintro⟨k,r,s,t,h1,h2,h3⟩;cases k with
   |zero=>
    simp at h1;subst h1;rw[h2];exact .inl (by simpa using h3)
   |succ k=>exact .inr ⟨k,r,s,t,by simpa using h1,h2,by rw[h3];congr 2;omega⟩
theorem Iv:∀(rs:List Ss) (i:Nat) (b:Option (Nat×Str)),(∀j t,b=some (j,t)→j < i)→
  (Hs i b rs=none→b=none∧∀r∈rs,r.l=[])∧
  ∀j t,Hs i b rs=some (j,t)→
   (b=some (j,t)∨∃k r tl,rs[k]? =some r∧r.l=t::tl∧j=i+k)∧
   (∀j' t',b=some (j',t')→slt t' t=false∧(t'=t→j≤j'))∧
   ∀k r s tl,rs[k]? =some r→r.l=s::tl→slt s t=false∧(s=t→j≤i+k)
 |[],i,b,hb=>by
  refine⟨fun h=>⟨h,by simp⟩,fun j t h=>⟨.inl h,fun j' t' e=>?_,by simp⟩⟩
  simp only[Hs] at h;rw[h] at e;cases e;exact⟨CB _,fun _=>Nat.le_refl _⟩
 |x::xs,i,b,hb=>by
  unfold Hs;cases hx:x.l with
  |nil=>
   obtain⟨h1,h2⟩:=Iv xs (i+1) b (fun j t e=>by have:=hb j t e;omega)
   refine⟨fun h=>⟨(h1 h).1,fun r hr=>?_⟩,fun j t h=>?_⟩
   ·rcases List.mem_cons.1 hr with rfl|hr
    ·exact hx
    ·exact(h1 h).2 r hr
   ·obtain⟨k1,k2,k3⟩:=h2 j t h;refine⟨k1.imp _root_.id (fun⟨k,r,tl,e1,e2,e3⟩=>⟨k+1,r,tl,by simpa using e1,e2,by omega⟩),k2,fun k r s tl e1 e2=>?_⟩
    cases k with
    |zero=>simp at e1;subst e1;rw[hx] at e2;cases e2
    |succ k=>have:=k3 k r s tl (by simpa using e1) e2;exact⟨this.1,fun e=>by have:=this.2 e;omega⟩
  |cons s0 tl0=>
   simp only;have key:∀b':Nat×Str,b'.1≤i→(b'=(i,s0)∨b=some b')→(slt s0 b'.2=false∧(s0=b'.2→b'.1≤i))→(∀j' t',b=some (j',t')→slt t' b'.2=false∧(t'=b'.2→b'.1≤j'))→
     (Hs (i+1) (some b') xs=none→b=none∧∀r∈x::xs,r.l=[])∧
     ∀j t,Hs (i+1) (some b') xs=some (j,t)→
      (b=some (j,t)∨∃k r tl,(x::xs)[k]? =some r∧r.l=t::tl∧j=i+k)∧
      (∀j' t',b=some (j',t')→slt t' t=false∧(t'=t→j≤j'))∧
      ∀k r s tl,(x::xs)[k]? =some r→r.l=s::tl→slt s t=false∧(s=t→j≤i+k):=by
    intro b' hb1 hb2 hb3 hb4;obtain⟨h1,h2⟩:=Iv xs (i+1) (some b') (fun j t e=>by cases e;omega)
    refine⟨fun h=>(by have:=(h1 h).1;cases this),fun j t h=>?_⟩
    obtain⟨k1,k2,k3⟩:=h2 j t h;have kb:=k2 b'.1 b'.2 rfl;have comp:∀(q:Str) (m:Nat),slt q b'.2=false→(q=b'.2→b'.1≤m)→slt q t=false∧(q=t→j≤m):=by
     intro q m q1 q2;constructor
     ·cases hq:slt q t with
      |false=>rfl
      |true=>
       rcases L0 b'.2 q with g|g|g
       ·have:=EV g hq;rw[kb.1] at this;cases this
       ·rw[g,hq] at kb;exact kb.1
       ·rw[q1] at g;cases g
     ·rintro rfl;rcases L0 b'.2 q with g|g|g
      ·rw[kb.1] at g;cases g
      ·have:=kb.2 g;have:=q2 g.symm;omega
      ·rw[q1] at g;cases g
    refine⟨?_,fun j' t' e=>comp t' j' (hb4 j' t' e).1 (hb4 j' t' e).2,fun k r s tl e1 e2=>?_⟩
    ·rcases k1 with k1|⟨k,r,tl,e1,e2,e3⟩
     ·cases k1;rcases hb2 with hb2|hb2
      ·cases hb2;exact .inr ⟨0,x,tl0,rfl,hx,rfl⟩
      ·exact .inl hb2
     ·exact .inr ⟨k+1,r,tl,by simpa using e1,e2,by omega⟩
    ·cases k with
     |zero=>
      simp at e1;subst e1;rw[hx] at e2;cases e2;exact comp s0 (i+0) hb3.1 hb3.2
     |succ k=>
      have:=k3 k r s tl (by simpa using e1) e2
      exact⟨this.1,fun e=>by have:=this.2 e;omega⟩
   cases hbb:b with
   |none=>
    have:=key (i,s0) (Nat.le_refl _) (.inl rfl) ⟨CB _,fun _=>Nat.le_refl _⟩ (fun j' t' e=>by rw[hbb] at e;cases e)
    rw[hbb] at this;exact this
   |some b0=>
    obtain⟨j0,t0⟩:=b0;have hj0:=hb j0 t0 hbb;simp only;split
    ·rename_i hlt;have:=key (i,s0) (Nat.le_refl _) (.inl rfl) ⟨CB _,fun _=>Nat.le_refl _⟩ (fun j' t' e=>by
      rw[hbb] at e;cases e;exact⟨RI hlt,fun e=>by rw[e,CB] at hlt;cases hlt⟩)
     rw[hbb] at this;exact this
    ·rename_i hlt;have:=key (j0,t0) (by show j0≤i;omega) (.inr hbb) ⟨by simpa using hlt,fun _=>by show j0≤i;omega⟩ (fun j' t' e=>by
      rw[hbb] at e;cases e;exact⟨CB _,fun _=>Nat.le_refl _⟩)
     rw[hbb] at this;exact this
def ef(hs:List Hd)(rs:List Ss):Prop:=OI hs.length 0 hs∧hs.Perm (hds 0 rs)
theorem lH{rs:List Ss}{j:Nat}{r:Ss}{s:Str}{t:List Str}(h:rs[j]? =some r)(hr:r.l=s::t):
  ∃A B,hds 0 rs=A++(⟨s,(j:Int),⟨t,r.r⟩⟩::B)∧hds 0 (Jp rs j)=A++((match t with|[]=>[]|s'::t'=>[⟨s',(j:Int),⟨t',r.r⟩⟩])++B):=by
 have hj:=(List.getElem?_eq_some_iff.1 h).1;have h2:=(List.getElem?_eq_some_iff.1 h).2;have e1:rs=rs.take j++r::rs.drop (j+1):=by
  conv=>lhs;rw[←List.take_append_drop j rs,List.drop_eq_getElem_cons hj,h2]
 have e2:Jp rs j=rs.take j++⟨t,r.r⟩::rs.drop (j+1):=by
  simp only[Jp,h,hr,List.tail_cons]
  conv=>lhs;rw[e1]
  rw[List.set_append_right _ _ (by simp;omega)]
  simp only[List.length_take,Nat.min_eq_left (Nat.le_of_lt hj),Nat.sub_self,List.set_cons_zero]
 have hl:(rs.take j).length=j:=by simp;omega
 refine⟨hds 0 (rs.take j),hds (j+1) (rs.drop (j+1)),?_,?_⟩
 ·conv=>lhs;rw[e1]
  rw[Ti,hl];simp[hds,hr]
 ·rw[e2,Ti,hl];simp only[Nat.zero_add,hds];cases t<;>rfl
theorem VD{x:Hd}{tl:List Hd}{rs:List Ss}(h:ef (x::tl) rs):∃j:Nat,Hs 0 none rs=some (j,x.name)∧x.row=j∧ef (GU (x::tl)) (Jp rs j):=by
 obtain⟨hh,hp⟩:=h;obtain⟨b1,b2⟩:=Iv rs 0 none (fun _ _ e=>by cases e)
 have hroot:∀y∈hds 0 rs,x.le y:=fun y hy=>by
  have hm:=hp.mem_iff.2 hy;obtain⟨k,hk⟩:=List.mem_iff_getElem?.1 hm;have hkl:=(List.getElem?_eq_some_iff.1 hk).1;have:=XH hh k k (Nat.le_refl _) hkl;rw[Ku hk,Ku (i:=0) rfl] at this;exact this
 have hx:x∈hds 0 rs:=hp.mem_iff.1 (by simp)
 obtain⟨k,r,s,t,e1,e2,e3⟩:=Pw.1 hx;cases hb:Hs 0 none rs with
 |none=>
  have:=(b1 hb).2 r (List.mem_of_getElem? e1);rw[this] at e2;cases e2
 |some p=>
  obtain⟨j,n⟩:=p;obtain⟨c1,_,c3⟩:=b2 j n hb;rcases c1 with c1|⟨k',r',tl',f1,f2,f3⟩
  ·cases c1
  have f3:j=k':=by omega
  subst f3;have hbest:(⟨n,(j:Int),⟨tl',r'.r⟩⟩:Hd)∈hds 0 rs:=Pw.2 ⟨j,r',n,tl',f1,f2,by simp⟩
  have g1:=hroot _ hbest;have g2:=c3 k r s t e1 e2;have hk:j=k∧n=s:=by
   subst e3;unfold Hd.le Hd.lt at g1
   by_cases en:n=s
   ·subst en;simp at g1;have:=g2.2 rfl;exact⟨by omega,rfl⟩
   ·simp only[en,if_false] at g1;rcases L0 n s with q|q|q
    ·rw[g1] at q;cases q
    ·exact(en q).elim
    ·rw[g2.1] at q;cases q
  obtain⟨rfl,rfl⟩:=hk;have hxe:x=⟨n,(j:Int),⟨t,r.r⟩⟩:=by rw[e3];simp
  subst hxe;refine⟨j,rfl,rfl,?_⟩;obtain⟨A,B,d1,d2⟩:=lH e1 e2;have hperm:tl.Perm (A++B):=by
   rw[d1] at hp;exact(hp.trans List.perm_middle).cons_inv
  unfold GU;simp only;cases t with
  |nil=>
   simp only;obtain⟨p1,p2⟩:=Xy (by simp) hh
   refine⟨p1,?_⟩;rw[d2];simp only[List.nil_append];rw[Ku (i:=0) rfl] at p2;have:(YM (⟨n,(j:Int),⟨[],r.r⟩⟩::tl)).Perm tl:=by
    have:=(List.perm_append_singleton _ _).symm.trans p2;exact this.cons_inv
   exact this.trans hperm
  |cons s' t'=>
   simp only;have hl:(⟨s',(j:Int),⟨t',r.r⟩⟩::tl:List Hd).length=tl.length+1:=rfl;refine⟨?_,?_⟩
   ·rw[Fl,hl];refine Lt _ _ _ (Nat.le_of_eq hl.symm) (by omega) (by omega) (Nat.le_refl _) (fun k k1 k2 k3 k4=>?_) (fun e=>(e rfl).elim)
    have:=hh k k1 (by simpa using k2) (Nat.zero_le _)
    have hc:∀(m:Nat) (y z:Hd),m≠0→hat (y::tl) m=hat (z::tl) m:=fun m y z hm=>by
     cases m with
     |zero=>exact(hm rfl).elim
     |succ m=>simp[hat]
    rw[hc _ _ ⟨s',(j:Int),⟨t',r.r⟩⟩ k4,hc k _ ⟨s',(j:Int),⟨t',r.r⟩⟩ (by omega)] at this
    exact this
   ·refine(HO _ _ _ (Nat.le_of_eq hl.symm) (by rw[hl];omega)).trans ?_
    rw[d2];simp only[List.singleton_append];exact(List.Perm.cons _ hperm).trans List.perm_middle.symm
theorem bg:∀(f:Nat) (hs:List Hd) (rs:List Ss),ef hs rs→HX f hs=EQ f rs
 |0,_,_,_=>rfl
 |f+1,[],rs,h=>by
  have hn:hds 0 rs=[]:=by
   have:=h.2;exact List.nil_perm.1 this
  have:Hs 0 none rs=none:=by
   cases hb:Hs 0 none rs with
   |none=>rfl
   |some p=>
    obtain⟨j,n⟩:=p;obtain⟨c1,_,_⟩:=(Iv rs 0 none (fun _ _ e=>by cases e)).2 j n hb
    rcases c1 with c1|⟨k',r',tl',f1,f2,f3⟩
    ·cases c1
    ·have:=(Pw (i:=0)).2 ⟨k',r',n,tl',f1,f2,rfl⟩;rw[hn] at this;cases this
  simp only[HX,EQ,this]
 |f+1,x::tl,rs,h=>by
  obtain⟨j,h1,h2,h3⟩:=VD h;simp only[HX,EQ,h1,h2];rw[bg f _ _ h3]
theorem gN(rs:List Ss):ef (Kn (hds 0 rs).length ((hds 0 rs).length / 2) (hds 0 rs)) rs:=by
 obtain⟨h1,h2⟩:=Uz (n:=(hds 0 rs).length) _ (hds 0 rs) (Nat.le_refl _) (Nat.le_refl _) fy;refine⟨?_,h2⟩;rw[h2.length_eq];exact h1
open Go.Proofs
def HS(b:Nat)(S:St)(id:Nat)(hs:List Hd):Prop:=
 b≤id∧∃L,S[id]? =some (.cells [L,.fn Bn [] []] Ce)∧((hs=[]∧L= .vs 3 [] .nil)∨∃hid J,b≤hid∧L= .rs 3 hid 0 hs.length∧hid≠id∧S[hid]? =some (.cells (BN Hd.c hs++J) 0))
theorem Fk{w0:World}{S:St}{b id:Nat}{hs:List Hd}(h:HS b S id hs){Q:AV→St→Prop}(hq:Q (.int .i64 hs.length) S):AC w0 EP [.ptr id 0] S Q:=by
 obtain⟨_,L,h1,h2⟩:=h;apply Qp;unfold K3;rcases h2 with ⟨rfl,rfl⟩|⟨hid,J,hb,rfl,h3,h4⟩<;>simp[Aa h1]<;>exact hq
theorem Rc{w0:World}{S:St}{x y:Hd}{Q:AV→St→Prop}(hq:Q (.bool (x.lt y)) S):AC w0 Bn [.agg [.str x.name,.int .i64 x.row],.agg [.str y.name,.int .i64 y.row]] S Q:=by
 apply P4;unfold Kj;simp
 by_cases c:x.name=y.name
 ·simpa[c,Hd.lt] using hq
 ·simpa[c,Hd.lt] using hq
theorem Jk{w0:World}{S:St}{b id i k:Nat}{hs:List Hd}{x y:Hd}(h:HS b S id hs)(hi:hs[i]? =some x)(hk:hs[k]? =some y){Q:AV→St→Prop}(hq:Q (.bool (x.lt y)) S):AC w0 E9 [.ptr id 0,.int .i64 i,.int .i64 k] S Q:=by
 obtain⟨_,L,h1,h2⟩:=h;have li:=(List.getElem?_eq_some_iff.1 hi).1;have lk:=(List.getElem?_eq_some_iff.1 hk).1;apply PJ;unfold Jm;rcases h2 with ⟨rfl,rfl⟩|⟨hid,J,hb,rfl,h3,h4⟩
 ·simp at hi
 have r1:=Tv (T:=A3) h4 rfl rfl Hd.cl hi (k:=0) (by simp)
 have r2:=Tv (T:=A3) h4 rfl rfl Hd.cl hk (k:=0) (by simp)
 simp at r1 r2;simp[Aa h1,li,lk,r1,r2,Gj];exact Rc hq
theorem Jn{w0:World}{S:St}{b id i k:Nat}{hs:List Hd}(h:HS b S id hs)(hi:i < hs.length)(hk:k < hs.length){Q:AV→St→Prop}(hq:∀S',HS b S' id (GQ hs i k)→Kp b S S'→Q (.tup []) S'):AC w0 FE [.ptr id 0,.int .i64 i,.int .i64 k] S Q:=by
 obtain⟨hb0,L,h1,h2⟩:=h;obtain⟨x,hx⟩:∃x,hs[i]? =some x:=⟨hs[i],by simp[hi]⟩
 obtain⟨y,hy⟩:∃x,hs[k]? =some x:=⟨hs[k],by simp[hk]⟩
 apply PE;unfold J2;rcases h2 with ⟨rfl,rfl⟩|⟨hid,J,hb,rfl,h3,h4⟩
 ·simp at hi
 have r1:=Nf (T:=A0) (n:=3) h4 rfl rfl Hd.cl hx;have r2:=Nf (T:=A0) (n:=3) h4 rfl rfl Hd.cl hy;simp[Aa h1,hi,hk,r1,r2];have s1:=KX (T:=A0) y h4 rfl Hd.cl hx (v:=.agg y.c) rfl rfl;have hy2:∃z,(hs.set i y)[k]? =some z:=⟨(hs.set i y)[k]'(by simpa using hk),by simp[hk]⟩
 obtain⟨z,hz⟩:=hy2;have s2:=KX (T:=A0) x (Ai (o':=.cells (BN Hd.c (hs.set i y)++J) 0) h4) rfl Hd.cl hz (v:=.agg x.c) rfl rfl
 try simp at s1
 try simp at s2
 simp[s1,s2];refine hq _ ⟨hb0,_,(Au h3).trans h1,.inr ⟨hid,J,hb,by simp[GQ],h3,?_⟩⟩ (.set hb)
 rw[Ai h4];simp[GQ,Ku hx,Ku hy]
theorem RU{w0:World}{S:St}{b id:Nat}{hs:List Hd}(h:HS b S id hs)(hn:hs≠[])(hn2:hs.length≤1000000){Q:AV→St→Prop}(hq:∀r S',HS b S' id hs.dropLast→Kp b S S'→Q r S'):AC w0 Fh [.ptr id 0] S Q:=by
 obtain⟨hb0,L,h1,h2⟩:=h;have hpos:=List.length_pos_iff.2 hn;obtain⟨x,hx⟩:∃x,hs[hs.length - 1]? =some x:=⟨hs[hs.length - 1],by simp⟩
 apply QM;unfold KZ;rcases h2 with ⟨rfl,rfl⟩|⟨hid,J,hb,rfl,h3,h4⟩
 ·simp at hn
 have r1:=Nf (T:=A0) (n:=3) h4 rfl rfl Hd.cl hx;obtain⟨m,hm⟩:∃m,hs.length=m+1:=⟨hs.length - 1,by omega⟩
 rw[hm] at r1 h1;simp at r1;have e1:((m:Int)+1 - 1)=m:=by omega
 simp[Aa h1,e1];rw[wrap64 (by omega) (by omega)]
 simp[r1,DF h1];rw[Am (Ai h1)];simp;refine hq _ _ ⟨hb0,_,Ai h1,.inr ⟨hid,x.c++J,hb,by simp[hm],h3,?_⟩⟩ (.set hb0)
 rw[Au (Ne.symm h3),h4];have:BN Hd.c hs=BN Hd.c hs.dropLast++x.c:=by
  have e:hs=hs.dropLast++[x]:=by
   rw[hm] at hx;have:=List.dropLast_concat_getLast hn;rw[List.getLast_eq_getElem] at this
   conv=>lhs;rw[←this]
   congr 2;have h5:=(List.getElem?_eq_some_iff.1 hx).2;rw[←h5];congr 1;omega
  conv=>lhs;rw[e]
  simp[BN]
 rw[this,List.append_assoc]
theorem Lx{w0:World}{S:St}{b id i n:Nat}{hs:List Hd}(h:HS b S id hs)(hn:n≤hs.length)(hn2:hs.length≤1000000)(hi:i < 1000000){Q:AV→St→Prop}
  (hq:∀S',HS b S' id (EE n n i hs).1→Kp b S S'→Q (.bool (decide (i < (EE n n i hs).2))) S'):AC w0 Gn [.ifc B5 (.ptr id 0),.int .i64 i,.int .i64 n] S Q:=by
 apply V0;unfold QV;simp[D2];refine A7 (fun j=>∀S',HS b S' id (EE n n i hs).1→Kp b S S'→j (.int .i64 ((EE n n i hs).2:Int)) S') (fun S' h1 h2=>by simpa using hq S' h1 h2) (fun j4 hj4=>?_)
 refine BV (fun k:Nat×List Hd=>([.int .i64 k.1],[])) (fun m k S'=>HS b S' id k.2∧Kp b S S'∧k.2.length=hs.length∧k.1 < 1000000∧EE n m k.1 k.2=EE n n i hs∧n≤m+k.1) n (i,hs) rfl ⟨h,.refl _ _,rfl,hi,rfl,by omega⟩ ?_
 rintro m ⟨k,l⟩ S' v bx ⟨hS,hK,hl,hk,hd,hm⟩ hv;simp at hv hS hl hk hd hm;simp[hv]
 try simp (disch:=omega) only[wrap64]
 try simp
 by_cases c1:n≤2*k+1
 ·have e1:(n:Int)≤2*k+1:=by omega
  have e2:EE n m k l=(l,k):=by
   cases m with
   |zero=>rfl
   |succ m=>simp only[EE];rw[if_pos (by omega)]
  rw[e2] at hd;rw[←hd] at hj4;simp[e1,AH];exact hj4 S' hS hK
 have e1:¬(n:Int)≤2*k+1:=by omega
 have e0:¬(2*(k:Int)+1 < 0):=by omega
 obtain⟨m,rfl⟩:∃m',m=m'+1:=⟨m - 1,by omega⟩
 simp only[EE] at hd;rw[if_neg (by omega)] at hd
 simp[e1,e0];obtain⟨jj,hjj⟩:∃jj,jj=if 2*k+1+1 < n∧(hat l (2*k+1+1)).lt (hat l (2*k+1))=true then 2*k+1+1 else 2*k+1:=⟨_,rfl⟩
 rw[←hjj] at hd;have hjn:jj < n∧k < jj:=by split at hjj<;>omega
 have gk:=getD_some (hs:=l) (i:=k) (by omega)
 have gj:=getD_some (hs:=l) (i:=jj) (by omega)
 refine A7 (fun j=>j (.int .i64 (jj:Int)) S') ?_ (fun j3 hj3=>?_)
 ·simp[jc,Dn];refine Jk hS gj gk ?_
  by_cases c2:(hat l jj).lt (hat l k)=true
  ·simp[c2] at hd ⊢;refine Jn (i:=k) (k:=jj) hS (by omega) (by omega) fun S2 h2 k2=>?_
   exact⟨m,(jj,GQ l k jj),by omega,rfl,h2,hK.trans k2,by simp[Ci,hl],by show jj < _;omega,hd,by show n≤m+jj;omega⟩
  ·simp[c2] at hd ⊢;rw[←hd] at hj4;exact hj4 S' hS hK
 ·try simp (disch:=omega) only[wrap64]
  by_cases c3:2*k+1+1 < n
  ·have e3:2*(k:Int)+1+1 < n:=by omega
   have g1:=getD_some (hs:=l) (i:=2*k+1) (by omega)
   have g2:=getD_some (hs:=l) (i:=2*k+1+1) (by omega)
   simp[e3,jc,Dn];refine Jk (i:=2*k+1+1) (k:=2*k+1) hS g2 g1 ?_
   by_cases c4:(hat l (2*k+1+1)).lt (hat l (2*k+1))=true
   ·simp only[c3,c4,and_self,if_true] at hjj;subst hjj;simpa[c4] using hj3
   ·simp only[c3,c4,and_false,if_false] at hjj;subst hjj;simpa[c4] using hj3
  ·have e3:¬2*(k:Int)+1+1 < n:=by omega
   simp only[c3,false_and,if_false] at hjj;subst hjj;simp[e3,AH];exact hj3
theorem YC{w0:World}{S:St}{b id:Nat}{hs:List Hd}(h:HS b S id hs)(hn2:hs.length≤1000000){Q:AV→St→Prop}
  (hq:∀S',HS b S' id (Kn hs.length (hs.length / 2) hs)→Kp b S S'→Q (.tup []) S'):AC w0 LI [.ifc B5 (.ptr id 0)] S Q:=by
 apply Ww;unfold Qq;simp[D2,Dn];refine Fk h ?_;simp;rw[Zc _ _ _ (by omega)]
 have e1:IntKind.i64.wrap (((hs.length:Int)).tdiv 2)=((hs.length / 2:Nat):Int):=by
  rw[wrap64]<;>simp[Int.tdiv_eq_ediv_of_nonneg]<;>omega
 have e2:(hs.length:Int) / 2=((hs.length / 2:Nat):Int):=by omega
 simp only[e1,Ay,il]
 try simp (disch:=omega) only[wrap64]
 refine BV (fun k:Nat×List Hd=>([.int .i64 ((k.1:Int) - 1)],[])) (fun m k S'=>HS b S' id k.2∧Kp b S S'∧k.2.length=hs.length∧k.1 < 1000000∧Kn hs.length k.1 k.2=Kn hs.length (hs.length / 2) hs∧m=k.1) (hs.length / 2) (hs.length / 2,hs) rfl ⟨h,.refl _ _,rfl,by show hs.length / 2 < _;omega,rfl,rfl⟩ ?_
 rintro m ⟨k,l⟩ S' v bx ⟨hS,hK,hl,hk,hd,rfl⟩ hv;simp at hv hS hl hk hd;cases m with
 |zero=>
  simp[Kn] at hd hv;subst hd;simp[hv];exact hq _ hS hK
 |succ k=>
  simp only[Kn] at hd;have e3:((k+1:Nat):Int) - 1=k:=by omega
  rw[e3] at hv;simp[hv];refine Lx hS (by omega) (by omega) (by omega) fun S2 h2 k2=>?_
  try simp (disch:=omega) only[wrap64]
  exact⟨k,(k,(EE hs.length hs.length k l).1),by show k < k+1;omega,rfl,h2,hK.trans k2,by show (EE _ _ _ _).1.length=_;rw[Fl,hl],by show k < _;omega,hd,rfl⟩
theorem bB{w0:World}{S:St}{b id:Nat}{hs:List Hd}(h:HS b S id hs)(hn2:hs.length≤1000000){Q:AV→St→Prop}
  (hq:∀S',HS b S' id (EE hs.length hs.length 0 hs).1→Kp b S S'→Q (.tup []) S'):AC w0 Mr [.ifc B5 (.ptr id 0),.int .i64 0] S Q:=by
 apply ZB;unfold SU;simp[D2,Dn];refine Fk h ?_;refine Lx (i:=0) h (Nat.le_refl _) hn2 (by omega) fun S2 h2 k2=>?_
 simp;refine UM (fun _=>?_) (fun _=>hq _ h2 k2)
 apply Zk;unfold UD;refine BV (fun k:Unit=>([.int .i64 0],[])) (fun m k S'=>S'=S2) 0 () rfl rfl ?_
 rintro m k S' v bx rfl hv;simp at hv;simp[hv,AH];rw[wrap64 (by omega) (by omega),Zc _ _ _ (by omega)]
 simp;rw[show IntKind.i64.wrap 0=0 by decide]
 simp;exact hq _ h2 k2
theorem bO{w0:World}{S:St}{b id:Nat}{hs:List Hd}(h:HS b S id hs)(hn:hs≠[])(hn2:hs.length≤1000000){Q:AV→St→Prop}
  (hq:∀r S',HS b S' id (YM hs)→Kp b S S'→Q r S'):AC w0 NJ [.ifc B5 (.ptr id 0)] S Q:=by
 have hpos:=List.length_pos_iff.2 hn;apply YI;unfold Sq;simp[D2,Dn];refine Fk h ?_;have e1:IntKind.i64.wrap ((hs.length:Int) - 1)=((hs.length - 1:Nat):Int):=by rw[wrap64]<;>omega
 simp[e1];refine Jn (i:=0) (k:=hs.length - 1) h hpos (by omega) fun S2 h2 k2=>?_
 refine Lx (i:=0) (n:=hs.length - 1) h2 (by rw[Ci];omega) (by rw[Ci];omega) (by omega) fun S3 h3 k3=>?_
 refine RU h3 (by rw[←List.length_pos_iff,Fl,Ci];omega) (by rw[Fl,Ci];omega) fun r S4 h4 k4=>?_
 exact hq _ _ h4 ((k2.trans k3).trans k4)
def DX(rs:List Ss):Nat:=(rs.map fun x=>x.l.length).sum
theorem O5:∀(rs:List Ss) (i:Nat),(hds i rs).length≤rs.length
 |[],_=>by simp[hds]
 |x::xs,i=>by
  have:=O5 xs (i+1);simp only[hds,List.length_append,List.length_cons];cases x.l<;>simp<;>omega
theorem Xo{rs:List Ss}{i:Nat}{x:Ss}(h:rs[i]? =some x):DX (rs.take (i+1))=DX (rs.take i)+x.l.length:=by
 rw[List.take_succ,h];simp[DX]
theorem hZ(a b:List Ss):DX (a++b)=DX a+DX b:=by simp[DX]
theorem eN(rs:List Ss)(i:Nat):DX (rs.take i)≤DX rs:=by
 have:=hZ (rs.take i) (rs.drop i);rw[List.take_append_drop] at this;omega
def Kc(hs:List Hd):Nat:=(hs.map fun x=>x.rest.l.length+1).sum
theorem Rw{a b:List Hd}(h:a.Perm b):Kc a=Kc b:=by
 unfold Kc;exact(h.map _).sum_nat
theorem gF{x:Hd}{tl:List Hd}(h:OI (tl.length+1) 0 (x::tl)):Kc (GU (x::tl))+1=Kc (x::tl):=by
 unfold GU;simp only;cases hr:x.rest.l with
 |nil=>
  simp only;have:=Rw (Xy (hs:=x::tl) (by simp) h).2
  rw[Ku (i:=0) rfl] at this;rw[←this];simp[Kc,hr]
 |cons s t=>
  simp only;rw[Rw (HO _ _ _ (by simp) (by simp))]
  simp[Kc,hr];omega
theorem gO{x:Hd}{tl:List Hd}:(GU (x::tl)).length≤tl.length+1:=by
 unfold GU;simp only;cases hr:x.rest.l with
 |nil=>simp only[YM,List.length_dropLast,Fl,Ci,List.length_cons];omega
 |cons s t=>simp only[Fl,List.length_cons];omega
theorem ev{S:St}{b id:Nat}{hs:List Hd}{L f:AV}(h:HS b S id hs)(hL:S[id]? =some (.cells [L,f] Ce))(hb:b≤S.length)(hl:hs.length≤1000000)(x:Hd):
  ∃p S2,appendR A0 (stripMem S (.ptr id 0)) (AV.strip0 L) (.vs 3 [x.c] .full)=some p∧A8 BF p.2 (.ptr id 0) p.1=some S2∧HS b S2 id (hs++[x])∧Kp b S S2∧S.length≤S2.length:=by
 obtain⟨hb0,L',h1,h2⟩:=h;rw[h1] at hL;simp at hL;obtain⟨rfl,rfl⟩:=hL;have hid:=(List.getElem?_eq_some_iff.1 h1).1;rw[DF h1];rcases h2 with ⟨rfl,rfl⟩|⟨hid',J,hb',rfl,h3,h4⟩
 ·have e0:(S.set id (.cells [AV.vs 3 [] .nil,.fn Bn [] []] Ce)++[Obj.cells ([x.c]).flatten 0])[id]? =some (.cells [AV.vs 3 [] .nil,.fn Bn [] []] Ce):=by
   rw[List.getElem?_append_left (by simpa using hid)];exact Ai h1
  have hlim:(1:Nat)≤lim:=by unfold lim;omega
  refine⟨_,_,by simp[appendR,A1,hlim];rfl,by simp;rw[Am (by simpa using e0)];simp;rfl,⟨hb0,_,Ai (by simpa using e0),.inr ⟨S.length,[],by omega,by simp,by omega,?_⟩⟩,fun j hj=>?_,by simp⟩
  ·rw[Au (by omega),List.getElem?_append_right (by simp)]
   simp[BN]
  ·rw[Au (by omega),List.getElem?_append_left (by simp;omega),Au (by omega)]
 ·have hid2:=(List.getElem?_eq_some_iff.1 h4).1;have g1:(S.set id (.cells [AV.rs 3 hid' 0 hs.length,.fn Bn [] []] Ce))[hid']? =some (.cells (BN Hd.c hs++J) 0):=(Au (Ne.symm h3)).trans h4;have g2:hs.length*3≤(BN Hd.c hs++J).length:=by rw[List.length_append,GK Hd.cl];omega
  have g3:hs.length+1≤lim:=by unfold lim;omega
  have g4:(BN Hd.c hs++J).take (hs.length*3)=BN Hd.c hs:=by rw[←GK Hd.cl,List.take_left]
  have e0:((S.set id (.cells [AV.rs 3 hid' 0 hs.length,.fn Bn [] []] Ce)).set hid' .dead++[Obj.cells (BN Hd.c hs++([x.c]).flatten) 0])[id]? =some (.cells [AV.rs 3 hid' 0 hs.length,.fn Bn [] []] Ce):=by
   rw[List.getElem?_append_left (by simpa using hid),Au h3];exact Ai h1
  have ha:appendR A0 (S.set id (.cells [AV.rs 3 hid' 0 hs.length,.fn Bn [] []] Ce)) (.rs 3 hid' 0 hs.length) (.vs 3 [x.c] .full)=
    some (.rs 3 S.length 0 (hs.length+1),(S.set id (.cells [AV.rs 3 hid' 0 hs.length,.fn Bn [] []] Ce)).set hid' .dead++[Obj.cells (BN Hd.c hs++([x.c]).flatten) 0]):=by
   simp only[appendR,A1,Rs];simp only[List.cons_ne_nil,false_or,or_true,if_true,Option.bind_some,if_false,List.length_cons,List.length_nil,Nat.zero_add];simp only[C5,g1,Option.bind_some,g2,g3,g4,and_self,if_true,List.length_set]
  refine⟨_,_,ha,by rw[Am e0];simp;rfl,⟨hb0,_,Ai e0,.inr ⟨S.length,[],by omega,by simp,by omega,?_⟩⟩,fun j hj=>?_,by simp⟩
  ·rw[Au (by omega),List.getElem?_append_right (by simp)]
   simp[BN]
  ·rw[Au (by omega),List.getElem?_append_left (by simp;omega),Au (by omega),Au (by omega)]
theorem iS(a:List Ss)(x:Ss):hds 0 (a++[x])=hds 0 a++(match x.l with|[]=>[]|s::t=>[⟨s,(a.length:Int),⟨t,x.r⟩⟩]):=by
 rw[Ti];simp only[hds,List.append_nil,Nat.zero_add]
 all_goals (cases x.l<;>rfl)
theorem QE{w0:World}{S:St}{rows:List Ss}{r:Rt}(hl:rows.length≤100000)(ht:DX rows≤10000000)(hok:∀x∈rows,x.r= .nil→x.l=[]){Q:AV→St→Prop}
  (hq:∀S',Sx S S'→Q (.vs 2 ((EQ (DX rows) rows).map Item.c) .none) S'):AC w0 Ic [.vs 1 (rows.map Ss.c) r] S Q:=by
 apply WM;unfold Qy;simp only[B9,Ay];simp;refine A7 (fun j=>∀S',HS S.length S' S.length (hds 0 rows)→Sx S S'→S.length < S'.length→j (.int .i64 (DX rows:Int)) S') (fun S1 h1 hx1 hlt=>?_) (fun j3 hj3=>?_)
 ·simp[KU,Qj];have hhl:=O5 rows 0;refine YC h1 (by omega) fun S2 h2 k2=>?_
  have hlim:(DX rows:Int)≤lim:=by unfold lim;omega
  simp[C7,hlim];have hI:=gN rows;have hT:Kc (Kn (hds 0 rows).length ((hds 0 rows).length / 2) (hds 0 rows))=DX rows:=by
   rw[Rw hI.2];have:∀(rs:List Ss) (i:Nat),Kc (hds i rs)=DX rs:=by
    intro rs
    induction rs with
    |nil=>intro i;rfl
    |cons x xs ih=>
     intro i;have:=ih (i+1);simp only[hds,Kc,DX,List.map_append,List.sum_append_nat,List.map_cons,List.sum_cons] at this ⊢;rw[this];cases x.l<;>simp
   exact this rows 0
  have hmm:=bg (DX rows) _ rows hI;have hrest:∀x∈Kn (hds 0 rows).length ((hds 0 rows).length / 2) (hds 0 rows),x.rest.r= .nil→x.rest.l=[]:=fun x hx e=>by
   obtain⟨k,r,s,t,e1,e2,rfl⟩:=Pw.1 (hI.2.mem_iff.1 hx);have:=hok r (List.mem_of_getElem? e1) e;rw[this] at e2;cases e2
  have hlen:(Kn (hds 0 rows).length ((hds 0 rows).length / 2) (hds 0 rows)).length≤100000:=by rw[hI.2.length_eq];omega
  have hheap:=hI.1;generalize Kn (hds 0 rows).length ((hds 0 rows).length / 2) (hds 0 rows)=hs0 at*;refine A7 (fun j=>∀S' t,Sx S S'→j (.vs 2 ((HX (DX rows) hs0).map Item.c) (.own t)) S') (fun S' t hS'=>?_) (fun j2 hj2=>?_)
  ·rw[hmm];exact hq _ hS'
  refine BV (fun k:List Item×List Hd×Nat=>([.vs 2 (k.1.map Item.c) (.own k.2.2)],[]))
   (fun m k S'=>HS S.length S' S.length k.2.1∧Sx S S'∧m=Kc k.2.1∧k.1++HX m k.2.1=HX (DX rows) hs0∧(∃rs,ef k.2.1 rs)∧k.2.1.length≤100000∧k.1.length+m=DX rows∧∀x∈k.2.1,x.rest.r= .nil→x.rest.l=[])
   (DX rows) ([],hs0,SR) (by simp) ⟨h2,fun j hj=>(k2 j hj).trans (hx1 j hj),hT.symm,rfl,⟨rows,hI⟩,hlen,by simp,hrest⟩ ?_
  rintro m ⟨out,hs,t⟩ S' v b ⟨hS,hx,rfl,ho,⟨rs,hH⟩,hl2,hm,hr⟩ hv;simp only at hS hx ho hH hl2 hm hr;simp at hv;simp[hv];refine Fk hS ?_;cases hs with
  |nil=>
   simp;have:out=HX (DX rows) hs0:=by
    rw[←ho];cases (Kc ([]:List Hd))<;>simp[HX]
   rw[←this] at hj2;exact hj2 S' t hx
  |cons x tl=>
   obtain⟨n,hn⟩:∃n,Kc (x::tl)=n+1:=⟨Kc (x::tl) - 1,by simp[Kc];omega⟩
   have hnext:=gF (by simpa using hH.1)
   obtain⟨jj,_,_,hnI⟩:=VD hH;have hnl:=gO (x:=x) (tl:=tl);have hS0:=hS;obtain⟨hb0,L,g1,g2⟩:=hS;rcases g2 with ⟨e,_⟩|⟨hid,J,hb,rfl,g3,g4⟩
   ·cases e
   have hx0:(x::tl)[0]? =some x:=rfl;have r0:=Tv (T:=A3) (n:=3) (m:=2) g4 rfl rfl Hd.cl hx0 (k:=0) (by simp)
   have r1:=jk (T:=AX) (n:=3) g4 rfl Hd.cl hx0 (k:=2) (by simp)
   simp at r0 r1;have hlim2:out.length+1≤lim:=by unfold lim;omega
   rw[hn] at ho;simp only[HX] at ho;have hpos:(0:Int) < tl.length+1:=by omega
   simp[hpos,Aa g1,r0,r1,AU,A1,hlim2];have fin:∀S2,HS S.length S2 S.length (GU (x::tl))→Sx S S2→(∀y∈GU (x::tl),y.rest.r= .nil→y.rest.l=[])→∀t,Nx (fun k:List Item×List Hd×Nat=>([.vs 2 (k.1.map Item.c) (.own k.2.2)],[]))
     (fun m k S'=>HS S.length S' S.length k.2.1∧Sx S S'∧m=Kc k.2.1∧k.1++HX m k.2.1=HX (DX rows) hs0∧(∃rs,ef k.2.1 rs)∧k.2.1.length≤100000∧k.1.length+m=DX rows∧∀x∈k.2.1,x.rest.r= .nil→x.rest.l=[])
     (Kc (x::tl)) ([AV.vs 2 (List.map Item.c out++[[AV.str x.name,AV.int IntKind.i64 x.row]]) (.own t)],[]) S2:=fun S2 q1 q2 q3 t=>
    ⟨Kc (GU (x::tl)),(out++[⟨x.name,x.row⟩],GU (x::tl),t),by omega,by simp,q1,q2,rfl,by
     show (out++[_])++HX (Kc (GU (x::tl))) (GU (x::tl))=_
     rw[show Kc (GU (x::tl))=n by omega,List.append_assoc,List.singleton_append];exact ho,⟨_,hnI⟩,by simp at hl2;show (GU (x::tl)).length≤100000;omega,by simp;omega,q3⟩
   have hrow:∃t',Ba A3 (Rt.own t)=t':=⟨_,rfl⟩;obtain⟨t',ht'⟩:=hrow;rw[ht'];cases hrl:x.rest.l with
   |nil=>
    simp;have hnx:GU (x::tl)=YM (x::tl):=by simp[GU,hrl]
    refine bO hS0 (by simp) (by omega) fun r S2 h2' k2'=>?_
    refine fin S2 (by rw[hnx];exact h2') (fun j hj=>(k2' j hj).trans (hx j hj)) (fun y hy=>?_) t'
    rw[hnx] at hy;exact hr y ((Xy (by simp) hH.1).2.mem_iff.1 (List.mem_append_left _ hy))
   |cons s tt=>
    have hnn:¬(x.rest.r.strip= .nil):=fun e=>by
     have:x.rest.r= .nil:=by cases hq:x.rest.r<;>rw[hq] at e<;>simp[Rt.strip] at e
     have:=hr x (by simp) this
     rw[hrl] at this;cases this
    have hcells:BN Hd.c (x::tl)++J= .str x.name:: .int .i64 x.row::x.rest.v::(BN Hd.c tl++J):=by simp[BN]
    rw[hcells] at g4;have g5:=Ai (o':=.cells (.str s:: .int .i64 x.row::x.rest.v::(BN Hd.c tl++J)) 0) g4;have hnx:GU (x::tl)=(EE (tl.length+1) (tl.length+1) 0 (⟨s,x.row,⟨tt,x.rest.r⟩⟩::tl)).1:=by simp[GU,hrl]
    simp[hnn,Am g4];rw[Am (by simpa using g5)]
    simp;have hS3:HS S.length (S'.set hid (.cells (.str s:: .int .i64 x.row:: .vs 1 (tt.map BO) x.rest.r.strip::(BN Hd.c tl++J)) 0)) S.length (⟨s,x.row,⟨tt,x.rest.r⟩⟩::tl):=by
     refine⟨hb0,_,(Au g3).trans g1,.inr ⟨hid,J,hb,rfl,g3,?_⟩⟩;rw[Ai g4];simp[BN]
    refine bB hS3 (by simp at hl2 ⊢;omega) fun S2 h2' k2'=>?_
    refine fin S2 (by rw[hnx];exact h2') (fun j hj=>((k2' j hj).trans (Au (by omega))).trans (hx j hj)) (fun y hy=>?_) t'
    rw[hnx] at hy;have hy2:=(HO (n:=tl.length+1) (tl.length+1) 0 (⟨s,x.row,⟨tt,x.rest.r⟩⟩::tl) (by simp) (by simp)).mem_iff.1 hy
    rcases List.mem_cons.1 hy2 with rfl|hy2
    ·intro e;exact(hnn (by simp at e;rw[e];rfl)).elim
    ·exact hr y (by simp[hy2])
 ·refine Ak rows (fun i (_:Unit)=>([.int .i64 (DX (rows.take i):Int),.int .i64 i],[])) (fun i _ S'=>HS S.length S' S.length (hds 0 (rows.take i))∧Sx S S'∧S.length < S'.length) () (by simp[DX])
   ⟨⟨Nat.le_refl _,.vs 3 [] .nil,by simp,.inl ⟨by simp[hds],rfl⟩⟩,.app _ _,by simp⟩ ?_ ?_
  ·rintro i _ S' v b x c hxi hd hc hm ⟨hS,hx,hlt⟩ hv;simp at hv;have htk:=Xo hxi;have htl:=eN rows (i+1);have hsn:rows.take (i+1)=rows.take i++[x]:=by rw[List.take_succ,hxi];rfl
   have hhl:(hds 0 (rows.take i)).length≤i:=by
    have:=O5 (rows.take i) 0;simp at this;omega
   simp[hv,hc,hxi];have hlen:(rows.take i).length=i:=by simp;omega
   refine A7 (fun j=>∀S2,HS S.length S2 S.length (hds 0 (rows.take (i+1)))→Sx S S2→S.length < S2.length→j (.int .i64 (DX (rows.take (i+1)):Int)) S2) (fun S2 h2 x2 l2=>?_) (fun j hj=>?_)
   ·try simp (disch:=omega) only[wrap64]
    exact .next c () rfl ⟨h2,x2,l2⟩
   ·try simp (disch:=omega) only[wrap64]
    rw[hsn,iS,hlen,←hsn,htk] at hj;cases hxl:x.l with
    |nil=>
     rw[hxl] at hj;simp at hj ⊢;exact hj S' hS hx hlt
    |cons s tt=>
     rw[hxl] at hj;have hnn:¬(x.r.strip= .nil):=fun e=>by
      have:x.r= .nil:=by cases hq:x.r<;>rw[hq] at e<;>simp[Rt.strip] at e
      have:=hok x hm this;rw[hxl] at this;cases this
     obtain⟨hb0,L,g1,g2⟩:=id hS;obtain⟨p,S2,q1,q2,q3,q4,q5⟩:=ev hS g1 (by omega) (by omega) ⟨s,i,⟨tt,x.r⟩⟩
     have hL:AV.strip0 L=L:=by rcases g2 with ⟨_,rfl⟩|⟨_,_,_,rfl,_⟩<;>rfl
     simp[hnn,Aa g1];simp only[Hd.c,Ss.v] at q1;rw[q1];simp[q2];refine hj S2 (by simpa using q3) (fun j hj=>(q4 j hj).trans (hx j hj)) (by omega)
  ·rintro _ S' v b ⟨hS,hx,hlt⟩ hv N;simp at hv;simp[hv];rw[List.take_length] at hS;exact hj3 S' hS hx hlt
open Go.Proofs
def C8:Option Str→List Item→List Item
 |_,[]=>[]
 |p,x::l=>if p=some x.name then C8 (some x.name) l else x::C8 (some x.name) l
def Mw(l:List Item)(i:Nat):Option Str:=if i=0 then none else (l[i - 1]?).map (·.name)
theorem Ot:∀(p:Option Str) (l:List Item),(C8 p l).length≤l.length
 |_,[]=>by simp[C8]
 |p,x::l=>by
  have:=Ot (some x.name) l;simp only[C8];split<;>simp<;>omega
theorem ZP{w0:World}{S:St}{l:List Item}{r:Rt}(hl:l.length≤100000000){Q:AV→St→Prop}
  (hq:∀r,(r= .nil∧l=[]∨r= .none)→Q (.vs 2 ((C8 none l).map Item.c) r) S):AC w0 LP [.vs 2 (l.map Item.c) r] S Q:=by
 apply Vu;unfold Pp;simp;rw[AH];refine Ak l (fun i (s:List Item×Rt)=>([.vs 2 (s.1.map Item.c) s.2,.int .i64 i],[])) (fun i s S'=>S'=S∧s.1++C8 (Mw l i) (l.drop i)=C8 none l∧s.1.length≤i∧(s.2= .nil∧i=0∨∃t,s.2= .own t)) ([],.nil) (by simp) ⟨rfl,by simp[Mw],by simp,.inl ⟨rfl,rfl⟩⟩ ?_ ?_
 ·rintro i ⟨out,r1⟩ S' v b x c hxi hd hc hm ⟨rfl,ho,hol,hr⟩ hv;simp at hv ho hol hr;have hr1:r1≠ .none∧(r1= .nil∨True):=by rcases hr with ⟨rfl,_⟩|⟨t,rfl⟩<;>simp
  have hlim:out.length+1≤lim:=by unfold lim;omega
  have hpn:Mw l (i+1)=some x.name:=by simp[Mw,hxi]
  simp[hv,hc,hxi];refine A7 (fun j=>∀(o2:List Item) (t:Nat),o2++C8 (some x.name) (l.drop (i+1))=C8 none l→o2.length≤i+1→j (.vs 2 (o2.map Item.c) (.own t))) (fun o2 t h1 h2=>?_) (fun j hj=>?_)
  ·try simp (disch:=omega) only[wrap64]
   exact .next c (o2,.own t) rfl ⟨rfl,by rw[hpn];exact h1,h2,.inr ⟨t,rfl⟩⟩
  have app:C8 (Mw l i) (l.drop i)=x::C8 (some x.name) (l.drop (i+1))→j (.vs 2 (out.map Item.c++[[.str x.name,.int .i64 x.row]]) (.own (Ba A3 r1))):=fun e=>by
   rw[e] at ho;have:=hj (out++[x]) (Ba A3 r1) (by simpa using ho) (by simp;omega)
   simpa using this
  cases i with
  |zero=>
   simp[AH,AU,A1,hr1.1,hlim];refine app ?_;rw[hd];simp[Mw,C8]
  |succ i=>
   obtain⟨y,hyi⟩:∃y,l[i]? =some y:=⟨l[i]'(by omega),by simp⟩
   have e0:¬((i:Int)+1=0):=by omega
   have hp:Mw l (i+1)=some y.name:=by simp[Mw,hyi]
   simp[e0,hyi]
   try simp (disch:=omega) only[wrap64]
   simp[hyi]
   by_cases cn:y.name=x.name
   ·rcases hr with ⟨_,h⟩|⟨t,rfl⟩
    ·omega
    simp[cn];refine hj out t ?_ (by omega)
    rw[hd,hp] at ho;simpa[C8,cn] using ho
   ·simp[cn,AU,A1,hr1.1,hlim];refine app ?_;rw[hd,hp];simp[C8,cn]
 ·rintro⟨out,r1⟩ S' v b ⟨rfl,ho,hol,hr⟩ hv N;simp at hv ho hr;simp[hv];simp[C8] at ho;rw[←ho] at hq;refine hq _ ?_;rcases hr with ⟨rfl,h⟩|⟨t,rfl⟩
  ·exact .inl ⟨rfl,h⟩
  ·exact .inr rfl
theorem ez{rs:List Ss}{j:Nat}{x:Ss}{s:Str}{t:List Str}(h:rs[j]? =some x)(hx:x.l=s::t):DX (Jp rs j)+1=DX rs:=by
 have hj:=(List.getElem?_eq_some_iff.1 h).1;simp only[Jp,h,hx,List.tail_cons];have e1:rs=rs.take j++x::rs.drop (j+1):=by
  conv=>lhs;rw[←List.take_append_drop j rs,List.drop_eq_getElem_cons hj,(List.getElem?_eq_some_iff.1 h).2]
 have e2:rs.set j ⟨t,x.r⟩=rs.take j++⟨t,x.r⟩::rs.drop (j+1):=by
  conv=>lhs;rw[e1]
  rw[List.set_append_right _ _ (by simp;omega)]
  simp only[List.length_take,Nat.min_eq_left (Nat.le_of_lt hj),Nat.sub_self,List.set_cons_zero]
 rw[e2]
 conv=>rhs;rw[e1]
 simp[DX,hx];omega
def mO(a b:Item):Prop:=slt a.name b.name=true∨(a.name=b.name∧a.row < b.row)
abbrev Sorted(l:List Str):Prop:=l.Pairwise fun a b=>slt a b=true
theorem KT:∀{a b:List Str},Sorted a→Sorted b→(∀s,s∈a↔s∈b)→a=b
 |[],[],_,_,_=>rfl
 |[],y::b,_,_,h=>by have:=(h y).2 (by simp);simp at this
 |x::a,[],_,_,h=>by have:=(h x).1 (by simp);simp at this
 |x::a,y::b,ha,hb,h=>by
  have ha':=List.pairwise_cons.1 ha;have hb':=List.pairwise_cons.1 hb;have hxy:x=y:=by
   rcases List.mem_cons.1 ((h x).1 (by simp)) with e|e
   ·exact e
   ·rcases List.mem_cons.1 ((h y).2 (by simp)) with e2|e2
    ·exact e2.symm
    ·have h1:=hb'.1 x e;have h2:=ha'.1 y e2;have:=EV h1 h2;rw[CB] at this;cases this
  subst hxy;rw[KT ha'.2 hb'.2 fun s=>?_]
  constructor
  ·intro hs;rcases List.mem_cons.1 ((h s).1 (by simp[hs])) with e|e
   ·subst e;have:=ha'.1 s hs;rw[CB] at this;cases this
   ·exact e
  ·intro hs;rcases List.mem_cons.1 ((h s).2 (by simp[hs])) with e|e
   ·subst e;have:=hb'.1 s hs;rw[CB] at this;cases this
   ·exact e
theorem RT{rs:List Ss}{j i:Nat}{x:Ss}(h:(Jp rs j)[i]? =some x):∃y,rs[i]? =some y∧x=if i=j then ⟨y.l.tail,y.r⟩ else y:=by
 unfold Jp at h;cases hj:rs[j]? with
 |none=>
  rw[hj] at h;have:i≠j:=fun e=>by rw[e,hj] at h;cases h
  exact⟨x,h,by simp[this]⟩
 |some r=>
  rw[hj] at h;simp only at h;rw[List.getElem?_set] at h;split at h
  ·rename_i e;subst e;split at h
   ·cases h;exact⟨r,hj,by simp⟩
   ·cases h
  ·rename_i e;exact⟨x,h,by simp[Ne.symm e]⟩
theorem UK{rs:List Ss}{j i:Nat}{y:Ss}(h:rs[i]? =some y):(Jp rs j)[i]? =some (if i=j then ⟨y.l.tail,y.r⟩ else y):=by
 unfold Jp
 by_cases e:i=j
 ·subst e;rw[h];simp[(List.getElem?_eq_some_iff.1 h).1]
 ·cases hj:rs[j]? with
  |none=>simp[e,h]
  |some r=>simp[e,h,Ne.symm e]
theorem Ml:∀(f:Nat) (rs:List Ss),(∀x∈rs,Sorted x.l)→DX rs≤f→
  (∀it:Item,it∈EQ f rs↔∃(i:Nat) (x:Ss),rs[i]? =some x∧it.row=i∧it.name∈x.l)∧(EQ f rs).Pairwise mO
 |0,rs,hg,hf=>by
  simp only[EQ,List.not_mem_nil,false_iff];refine⟨fun it=>?_,.nil⟩
  rintro⟨i,x,h1,h2,h3⟩;have h4:=Xo h1;have h5:=eN rs (i+1);have:=List.length_pos_of_mem h3;omega
 |f+1,rs,hg,hf=>by
  obtain⟨b1,b2⟩:=Iv rs 0 none (fun _ _ e=>by cases e)
  cases hb:Hs 0 none rs with
  |none=>
   simp only[EQ,hb,List.not_mem_nil,false_iff];refine⟨fun it=>?_,.nil⟩
   rintro⟨i,x,h1,h2,h3⟩;rw[(b1 hb).2 x (List.mem_of_getElem? h1)] at h3;simp at h3
  |some p=>
   obtain⟨j,t⟩:=p;obtain⟨c1,_,c3⟩:=b2 j t hb;rcases c1 with c1|⟨k',r,tl,f1,f2,f3⟩
   ·cases c1
   have f3:j=k':=by omega
   subst f3;have hgr:=hg r (List.mem_of_getElem? f1);rw[f2] at hgr;have hgr':=List.pairwise_cons.1 hgr;have hg2:∀x∈Jp rs j,Sorted x.l:=fun x hx=>by
    obtain⟨i,hi⟩:=List.mem_iff_getElem?.1 hx;obtain⟨y,h1,h2⟩:=RT hi;have hy:=hg y (List.mem_of_getElem? h1);rw[h2];split
    ·cases hl:y.l with
     |nil=>exact .nil
     |cons s tt=>rw[hl] at hy;exact(List.pairwise_cons.1 hy).2
    ·exact hy
   obtain⟨i1,i2⟩:=Ml f (Jp rs j) hg2 (by have:=ez f1 f2;omega)
   simp only[EQ,hb];constructor
   ·intro it;rw[List.mem_cons,i1];constructor
    ·rintro (rfl|⟨i,x,h1,h2,h3⟩)
     ·exact⟨j,r,f1,rfl,by rw[f2];simp⟩
     ·obtain⟨y,h4,h5⟩:=RT h1;refine⟨i,y,h4,h2,?_⟩;rw[h5] at h3;split at h3
      ·exact List.mem_of_mem_tail h3
      ·exact h3
    ·rintro⟨i,x,h1,h2,h3⟩
     by_cases e:i=j
     ·subst e;rw[f1] at h1;cases h1;rw[f2] at h3;rcases List.mem_cons.1 h3 with h3|h3
      ·left;cases it;simp at h2 h3 ⊢;exact⟨h3,h2⟩
      ·exact .inr ⟨i,⟨r.l.tail,r.r⟩,by rw[UK f1];simp,h2,by rw[f2];exact h3⟩
     ·exact .inr ⟨i,x,by rw[UK h1];simp[e],h2,h3⟩
   ·refine List.pairwise_cons.2 ⟨fun it hit=>?_,i2⟩
    obtain⟨i,x,h1,h2,h3⟩:=(i1 it).1 hit;obtain⟨y,h4,h5⟩:=RT h1;unfold mO
    by_cases e:i=j
    ·subst e;rw[f1] at h4;cases h4;rw[h5] at h3;simp only[if_true,f2,List.tail_cons] at h3;exact .inl (hgr'.1 _ h3)
    ·rw[if_neg e] at h5;subst h5;cases hl:x.l with
     |nil=>rw[hl] at h3;simp at h3
     |cons s tt=>
      obtain⟨d1,d2⟩:=c3 i x s tt h4 hl;have hy:=hg x (List.mem_of_getElem? h4);rw[hl] at hy h3;have hy':=(List.pairwise_cons.1 hy).1;rcases L0 t s with q|q|q
      ·rcases List.mem_cons.1 h3 with h3|h3
       ·left;rw[h3];exact q
       ·left;exact EV q (hy' _ h3)
      ·rcases List.mem_cons.1 h3 with h3|h3
       ·right;refine⟨by rw[h3];exact q,?_⟩
        have:=d2 q.symm;simp only[h2];omega
       ·left;rw[q];exact hy' _ h3
      ·rw[d1] at q;cases q
theorem M5:∀(l:List Item) (p:Option Str),l.Pairwise mO→(∀n,p=some n→∀it∈l,slt n it.name=true∨n=it.name)→
  Sorted ((C8 p l).map (·.name))∧(∀it∈C8 p l,it∈l∧(∀n,p=some n→slt n it.name=true)∧∀it'∈l,it'.name=it.name→it.row≤it'.row)∧
  ∀it∈l,p=some it.name∨∃it'∈C8 p l,it'.name=it.name
 |[],_,_,_=>by simp[C8]
 |x::l,p,hp,hn=>by
  have hp':=List.pairwise_cons.1 hp;have hx:∀it∈l,slt x.name it.name=true∨x.name=it.name:=fun it hit=>(hp'.1 it hit).imp _root_.id (·.1)
  obtain⟨h1,h2,h3⟩:=M5 l (some x.name) hp'.2 (fun n e it hit=>by cases e;exact hx it hit)
  simp only[C8];have hle:∀it'∈l,it'.name=x.name→x.row≤it'.row:=fun it' hit e=>by
   rcases hp'.1 it' hit with h|h
   ·rw[e,CB] at h;cases h
   ·omega
  by_cases e:p=some x.name
  ·rw[if_pos e];refine⟨h1,fun it hit=>?_,fun it hit=>?_⟩
   ·obtain⟨k1,k2,k3⟩:=h2 it hit;refine⟨by simp[k1],fun n hn=>by rw[e] at hn;cases hn;exact k2 _ rfl,fun it' hit' en=>?_⟩
    rcases List.mem_cons.1 hit' with rfl|hit'
    ·have:=k2 _ rfl;rw[en,CB] at this;cases this
    ·exact k3 it' hit' en
   ·rcases List.mem_cons.1 hit with rfl|hit
    ·exact .inl e
    ·rcases h3 it hit with h|h
     ·exact .inl (e.trans h)
     ·exact .inr h
  ·rw[if_neg e];have hxp:∀n,p=some n→slt n x.name=true:=fun n en=>(hn n en x (by simp)).resolve_right fun h=>e (by rw[en,h])
   refine⟨?_,fun it hit=>?_,fun it hit=>?_⟩
   ·simp only[List.map_cons];refine List.pairwise_cons.2 ⟨fun s hs=>?_,h1⟩
    obtain⟨it,hit,rfl⟩:=List.mem_map.1 hs;exact(h2 it hit).2.1 _ rfl
   ·rcases List.mem_cons.1 hit with rfl|hit
    ·refine⟨by simp,hxp,fun it' hit' en=>?_⟩
     rcases List.mem_cons.1 hit' with rfl|hit'
     ·omega
     ·exact hle it' hit' en
    ·obtain⟨k1,k2,k3⟩:=h2 it hit;refine⟨by simp[k1],fun n en=>EV (hxp n en) (k2 _ rfl),fun it' hit' en=>?_⟩
     rcases List.mem_cons.1 hit' with rfl|hit'
     ·have:=k2 _ rfl;rw[en,CB] at this;cases this
     ·exact k3 it' hit' en
   ·rcases List.mem_cons.1 hit with rfl|hit
    ·exact .inr ⟨_,by simp,rfl⟩
    ·rcases h3 it hit with h|⟨it',h,h'⟩
     ·exact .inr ⟨x,by simp,Option.some.inj h⟩
     ·exact .inr ⟨it',by simp[h],h'⟩
def F2(rs:List Ss):List Str:=(C8 none (EQ (DX rs) rs)).map (·.name)
theorem Lz{rs:List Ss}(h:∀x∈rs,Sorted x.l):Sorted (F2 rs)∧∀s,s∈F2 rs↔∃x∈rs,s∈x.l:=by
 obtain⟨h1,h2⟩:=Ml (DX rs) rs h (Nat.le_refl _);obtain⟨h3,h4,h5⟩:=M5 _ none h2 (fun _ e=>by cases e)
 refine⟨h3,fun s=>?_⟩
 simp only[F2,List.mem_map];constructor
 ·rintro⟨it,h6,rfl⟩;obtain⟨i,x,k1,k2,k3⟩:=(h1 it).1 (h4 it h6).1;exact⟨x,List.mem_of_getElem? k1,k3⟩
 ·rintro⟨x,hx,hs⟩;obtain⟨i,hi⟩:=List.mem_iff_getElem?.1 hx;rcases h5 ⟨s,i⟩ ((h1 _).2 ⟨i,x,hi,rfl,hs⟩) with e|⟨it',h,h'⟩
  ·cases e
  ·exact⟨it',h,h'⟩
end Go.Av
