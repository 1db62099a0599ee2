/- Parts of the proofs of this seat: abstract values over the model, and what the functions of the program do. No condition. -/
import Derived.Test.YtehadbpejfjheaaGreatDoorD0
import Derived.Test.YtehadbpejfjheaaGreatDoorD1
import Derived.Test.YtehadbpejfjheaaGreatDoorM8
import Derived.Test.YtehadbpejfjheaaGreatDoorM9
import Derived.Test.YtehadbpejfjheaaGreatDoorXLess
set_option linter.all false
set_option maxRecDepth 100000
namespace Go.Av
structure Hd where
 name:Str
 row:Int
 rest:Ss
 deriving DecidableEq
@[simp] def Hd.c(x:Hd):List AV:=[.str x.name,.int .i64 x.row,x.rest.v]
theorem Hd.cl(x:Hd):x.c.length=3:=rfl
instance:Inhabited Hd:=⟨⟨[],0,⟨[],.none⟩⟩⟩
def Hd.lt(a b:Hd):Bool:=if a.name=b.name then decide (a.row < b.row) else slt a.name b.name
def hat(hs:List Hd)(i:Nat):Hd:=hs.getD i default
theorem Mb{hs:List Hd}{i:Nat}{x:Hd}(h:hs[i]? =some x):hat hs i=x:=by simp[hat,List.getD_eq_getElem?_getD,h]
def IN(hs:List Hd)(i k:Nat):List Hd:=(hs.set i (hat hs k)).set k (hat hs i)
def FG(n:Nat):Nat→Nat→List Hd→List Hd×Nat
 |0,i,hs=>(hs,i)
 |f+1,i,hs=>
  if 2*i+1≥n then (hs,i) else
   let j:=if 2*i+1+1 < n∧(hat hs (2*i+1+1)).lt (hat hs (2*i+1))=true then 2*i+1+1 else 2*i+1
   if (hat hs j).lt (hat hs i)=true then FG n f j (IN hs i j) else (hs,i)
theorem D2(hs:List Hd)(i k:Nat):(IN hs i k).length=hs.length:=by simp[IN]
theorem getD_some{hs:List Hd}{i:Nat}(h:i < hs.length):hs[i]? =some (hat hs i):=by simp[hat,List.getD_eq_getElem?_getD,h]
theorem GX(n:Nat):∀(f i:Nat) (hs:List Hd),(FG n f i hs).1.length=hs.length
 |0,i,hs=>rfl
 |f+1,i,hs=>by
  simp only[FG]
  repeat' split
  all_goals first|rfl|(rw[GX n f,D2])
def MK(n:Nat):Nat→List Hd→List Hd
 |0,hs=>hs
 |i+1,hs=>MK n i (FG n n i hs).1
def Zj(hs:List Hd):List Hd:=(FG (hs.length - 1) (hs.length - 1) 0 (IN hs 0 (hs.length - 1))).1.dropLast
theorem WY{hs:List Hd}{i k:Nat}(hi:i < hs.length)(hk:k < hs.length):(IN hs i k).Perm hs:=by
 rw[List.perm_iff_count];intro a;have e1:=getD_some hi;have e2:=getD_some hk;have h1:hs[i]=hat hs i:=by rw[List.getElem?_eq_getElem hi] at e1;exact Option.some.inj e1
 have h2:hs[k]=hat hs k:=by rw[List.getElem?_eq_getElem hk] at e2;exact Option.some.inj e2
 have c1:hat hs i=a→0 < hs.count a:=fun e=>List.count_pos_iff.2 (e ▸ List.mem_of_getElem? e1)
 have c2:hat hs k=a→0 < hs.count a:=fun e=>List.count_pos_iff.2 (e ▸ List.mem_of_getElem? e2)
 unfold IN;rw[List.count_set (by simpa using hk),List.count_set hi,List.getElem_set,h1,h2]
 by_cases k1:hat hs i=a<;>by_cases k2:hat hs k=a<;>by_cases e:i=k<;>simp[k1,k2,e] at c1 c2 ⊢<;>(try subst e)<;>(try simp_all)<;>omega
theorem MF{hs:List Hd}{i k j:Nat}(hi:i < hs.length)(hk:k < hs.length):hat (IN hs i k) j=if j=k then hat hs i else if j=i then hat hs k else hat hs j:=by
 unfold IN hat;simp only[List.getD_eq_getElem?_getD,List.getElem?_set,List.length_set]
 by_cases e1:k=j
 ·subst e1;simp[hk]
 ·by_cases e2:i=j
  ·subst e2;simp[e1,hi,Ne.symm e1]
  ·simp[e1,e2,Ne.symm e1,Ne.symm e2]
theorem JC{n:Nat}:∀(f i:Nat) (hs:List Hd),n≤hs.length→i < hs.length→(FG n f i hs).1.Perm hs
 |0,i,hs,_,_=>.refl _
 |f+1,i,hs,hn,hi=>by
  have:∀j,j < n→(FG n f j (IN hs i j)).1.Perm hs:=fun j hj=>(JC f j (IN hs i j) (by rw[D2];exact hn) (by rw[D2];omega)).trans (WY hi (by omega))
  simp only[FG]
  repeat' split
  all_goals first|exact .refl _|exact this _ (by omega)
theorem WO{n:Nat}:∀(f i:Nat) (hs:List Hd) (j:Nat),n≤hs.length→i < n→n≤j→hat (FG n f i hs).1 j=hat hs j
 |0,i,hs,j,_,_,_=>rfl
 |f+1,i,hs,j,hn,hi,hj=>by
  have:∀k,k < n→hat (FG n f k (IN hs i k)).1 j=hat hs j:=fun k hk=>by
   rw[WO f k _ j (by rw[D2];exact hn) hk hj,MF (by omega) (by omega),if_neg (by omega),if_neg (by omega)]
  simp only[FG]
  repeat' split
  all_goals first|rfl|exact this _ (by omega)
def Hd.le(a b:Hd):Prop:=b.lt a=false
theorem Hd.lt_trans{a b c:Hd}(h:a.lt b=true)(k:b.lt c=true):a.lt c=true:=by
 unfold Hd.lt at*
 by_cases e1:a.name=b.name
 ·by_cases e2:b.name=c.name
  ·simp[e1,e2] at h k ⊢;omega
  ·simp only[e1,e2,if_true,if_false] at h k ⊢;exact k
 ·by_cases e2:b.name=c.name
  ·simp only[e1,←e2,if_true,if_false] at h k ⊢;exact h
  ·simp only[e1,e2,if_false] at h k;have h3:=Fd h k;have:a.name≠c.name:=fun e=>by rw[e] at h3;rw[DH] at h3;cases h3
   simp only[this,if_false];exact h3
theorem Hd.lt_irrefl(a:Hd):a.lt a=false:=by simp[Hd.lt]
theorem Hd.lt_tri(a b:Hd):a.lt b=true∨(a.name=b.name∧a.row=b.row)∨b.lt a=true:=by
 unfold Hd.lt
 by_cases e:a.name=b.name
 ·simp[e];omega
 ·simp only[e,Ne.symm e,if_false];rcases Mz a.name b.name with h|h|h
  ·exact .inl h
  ·exact(e h).elim
  ·exact .inr (.inr h)
theorem Hd.lt_key{a b a' b':Hd}(h1:a.name=a'.name)(h2:a.row=a'.row)(h3:b.name=b'.name)(h4:b.row=b'.row):a.lt b=a'.lt b':=by simp[Hd.lt,h1,h2,h3,h4]
theorem Hd.le_trans{a b c:Hd}(h:a.le b)(k:b.le c):a.le c:=by
 unfold Hd.le at*;cases h3:c.lt a with
 |false=>rfl
 |true=>
  rcases Hd.lt_tri a b with h4|⟨h4,h5⟩|h4
  ·have:=Hd.lt_trans h3 h4;rw[k] at this;cases this
  ·rw[Hd.lt_key rfl rfl h4 h5] at h3;rw[k] at h3;cases h3
  ·rw[h] at h4;cases h4
theorem Hd.le_refl(a:Hd):a.le a:=Hd.lt_irrefl a
theorem Hd.le_of_lt{a b:Hd}(h:a.lt b=true):a.le b:=by
 unfold Hd.le;cases k:b.lt a with
 |false=>rfl
 |true=>have:=Hd.lt_trans h k;rw[Hd.lt_irrefl] at this;cases this
def QH(n i:Nat)(hs:List Hd):Prop:=∀k,0 < k→k < n→i≤(k - 1) / 2→(hat hs ((k - 1) / 2)).le (hat hs k)
theorem YG{n:Nat}{hs:List Hd}(h:QH n 0 hs):∀(m k:Nat),k≤m→k < n→(hat hs 0).le (hat hs k)
 |0,k,hk,_=>by
  have:k=0:=by omega
  subst this;exact Hd.le_refl _
 |m+1,k,hk,hn=>by
  by_cases e:k=0
  ·subst e;exact Hd.le_refl _
  ·exact Hd.le_trans (YG h m ((k - 1) / 2) (by omega) (by omega)) (h k (by omega) hn (Nat.zero_le _))
theorem Mq{n i0:Nat}:∀(f i:Nat) (hs:List Hd),n≤hs.length→i < n→n≤f+i→i0≤i→
  (∀k,0 < k→k < n→i0≤(k - 1) / 2→(k - 1) / 2≠i→(hat hs ((k - 1) / 2)).le (hat hs k))→
  (i≠i0→i0≤(i - 1) / 2→∀k,0 < k→k < n→(k - 1) / 2=i→(hat hs ((i - 1) / 2)).le (hat hs k))→QH n i0 (FG n f i hs).1
 |0,i,hs,hn,hi,hf,_,_,_=>by omega
 |f+1,i,hs,hn,hi,hf,h0,h1,h2=>by
  simp only[FG];split
  ·rename_i c;intro k k1 k2 k3;exact h1 k k1 k2 k3 (by omega)
  rename_i c;obtain⟨j,hj⟩:∃j,j=if 2*i+1+1 < n∧(hat hs (2*i+1+1)).lt (hat hs (2*i+1))=true then 2*i+1+1 else 2*i+1:=⟨_,rfl⟩
  rw[←hj];have hjn:j < n∧(j=2*i+1∨j=2*i+2):=by split at hj<;>omega
  have hmin:∀k,0 < k→k < n→(k - 1) / 2=i→(hat hs j).le (hat hs k):=fun k k1 k2 k3=>by
   have:k=2*i+1∨k=2*i+1+1:=by omega
   by_cases cc:2*i+1+1 < n∧(hat hs (2*i+1+1)).lt (hat hs (2*i+1))=true
   ·rw[if_pos cc] at hj;subst hj;rcases this with rfl|rfl
    ·exact Hd.le_of_lt cc.2
    ·exact Hd.le_refl _
   ·rw[if_neg cc] at hj;subst hj;rcases this with rfl|rfl
    ·exact Hd.le_refl _
    ·unfold Hd.le;cases hh:(hat hs (2*i+1+1)).lt (hat hs (2*i+1)) with
     |false=>rfl
     |true=>exact(cc ⟨k2,hh⟩).elim
  split
  ·rename_i hlt;have hle:=Hd.le_of_lt hlt;have hsw:∀k,hat (IN hs i j) k=if k=j then hat hs i else if k=i then hat hs j else hat hs k:=fun k=>MF (by omega) (by omega)
   refine Mq f j _ (by rw[D2];exact hn) hjn.1 (by omega) (by omega) (fun k k1 k2 k3 k4=>?_) (fun _ _ k k1 k2 k3=>?_)
   ·rw[hsw,hsw];rw[if_neg k4]
    by_cases e1:(k - 1) / 2=i
    ·rw[if_pos e1]
     by_cases e2:k=j
     ·rw[if_pos e2];exact hle
     ·rw[if_neg e2,if_neg (by omega)];exact hmin k k1 k2 e1
    ·rw[if_neg e1];have e2:k≠j:=fun e=>e1 (by omega)
     rw[if_neg e2]
     by_cases e3:k=i
     ·rw[if_pos e3];subst e3
      by_cases e4:k=i0
      ·omega
      ·exact h2 e4 k3 j (by omega) hjn.1 (by omega)
     ·rw[if_neg e3];exact h1 k k1 k2 k3 e1
   ·have e:(j - 1) / 2=i:=by omega
    rw[hsw,hsw,e,if_neg (by omega),if_pos rfl,if_neg (by omega),if_neg (by omega)]
    have:=h1 k k1 k2 (by omega) (by omega)
    rw[k3] at this;exact this
  ·rename_i hlt;intro k k1 k2 k3
   by_cases e:(k - 1) / 2=i
   ·rw[e];exact Hd.le_trans (by simpa[Hd.le] using hlt) (hmin k k1 k2 e)
   ·exact h1 k k1 k2 k3 e
theorem Wj{n:Nat}:∀(i:Nat) (hs:List Hd),n≤hs.length→i≤n / 2→QH n i hs→QH n 0 (MK n i hs)∧(MK n i hs).Perm hs
 |0,hs,_,_,h=>⟨h,.refl _⟩
 |i+1,hs,hn,hi,h=>by
  have hp:=JC (n:=n) n i hs hn (by omega)
  have hh:=Mq (n:=n) (i0:=i) n i hs hn (by omega) (by omega) (Nat.le_refl _) (fun k k1 k2 k3 k4=>h k k1 k2 (by omega)) (fun e=>(e rfl).elim)
  obtain⟨r1,r2⟩:=Wj i _ (by rw[GX];exact hn) (by omega) hh
  exact⟨r1,r2.trans hp⟩
theorem fM{n:Nat}{hs:List Hd}:QH n (n / 2) hs:=fun k k1 k2 k3=>by omega
theorem V4{a b:List Hd}{k:Nat}(h:k < a.length):hat (a++b) k=hat a k:=by simp[hat,List.getD_eq_getElem?_getD,List.getElem?_append_left h]
theorem Y1{hs:List Hd}(hn:hs≠[])(h:QH hs.length 0 hs):QH (Zj hs).length 0 (Zj hs)∧(Zj hs++[hat hs 0]).Perm hs:=by
 have hpos:=List.length_pos_iff.2 hn;unfold Zj;generalize hd:(FG (hs.length - 1) (hs.length - 1) 0 (IN hs 0 (hs.length - 1))).1=d;have hl:d.length=hs.length:=by rw[←hd,GX,D2]
 have hp:d.Perm hs:=by
  rw[←hd];exact(JC _ _ _ (by rw[D2];omega) (by rw[D2];omega)).trans (WY hpos (by omega))
 have hlast:hat d (hs.length - 1)=hat hs 0:=by
  rw[←hd]
  by_cases c:hs.length=1
  ·rw[c];show hat (IN hs 0 0) 0=hat hs 0;rw[MF (by omega) (by omega),if_pos rfl]
  ·rw[WO _ _ _ _ (by rw[D2];omega) (by omega) (Nat.le_refl _),MF (by omega) (by omega),if_pos rfl]
 have hdn:d≠[]:=by rw[←List.length_pos_iff];omega
 have he:d=d.dropLast++[hat hs 0]:=by
  have:=List.dropLast_concat_getLast hdn;rw[List.getLast_eq_getElem] at this;have e2:=getD_some (hs:=d) (i:=d.length - 1) (by omega)
  rw[List.getElem?_eq_getElem (by omega)] at e2
  rw[Option.some.inj e2,show d.length - 1=hs.length - 1 by omega,hlast] at this
  exact this.symm
 refine⟨?_,by rw[←he];exact hp⟩
 have hheap:QH (hs.length - 1) 0 d:=by
  by_cases c:hs.length=1
  ·intro k k1 k2;omega
  rw[←hd];have hsw:∀k,k≠0→k≠hs.length - 1→hat (IN hs 0 (hs.length - 1)) k=hat hs k:=fun k h1 h2=>by
   rw[MF (by omega) (by omega),if_neg h2,if_neg h1]
  refine Mq _ _ _ (by rw[D2];omega) (by omega) (by omega) (Nat.le_refl _) (fun k k1 k2 k3 k4=>?_) (fun e=>(e rfl).elim)
  rw[hsw _ k4 (by omega),hsw _ (by omega) (by omega)]
  exact h k k1 (by omega) (Nat.zero_le _)
 have hdl:d.dropLast.length=hs.length - 1:=by rw[List.length_dropLast,hl]
 rw[hdl];intro k k1 k2 k3;have:=hheap k k1 k2 k3;rw[he,V4 (by omega),V4 (by omega)] at this
 exact this
structure Item where
 name:Str
 row:Int
 deriving DecidableEq
@[simp] def Item.c(x:Item):List AV:=[.str x.name,.int .i64 x.row]
def Hy(hs:List Hd):List Hd:=
 match hs with
 |[]=>[]
 |x::tl=>match x.rest.l with
  |[]=>Zj (x::tl)
  |s::t=>(FG (tl.length+1) (tl.length+1) 0 (⟨s,x.row,⟨t,x.rest.r⟩⟩::tl)).1
def JE:Nat→List Hd→List Item
 |0,_=>[]
 |f+1,[]=>[]
 |f+1,x::tl=>⟨x.name,x.row⟩::JE f (Hy (x::tl))
def hds:Nat→List Ss→List Hd
 |_,[]=>[]
 |i,x::xs=>(match x.l with|[]=>[]|s::t=>[⟨s,i,⟨t,x.r⟩⟩])++hds (i+1) xs
def JP:Nat→Option (Nat×Str)→List Ss→Option (Nat×Str)
 |_,b,[]=>b
 |i,b,x::xs=>match x.l with
  |[]=>JP (i+1) b xs
  |s::_=>match b with
   |none=>JP (i+1) (some (i,s)) xs
   |some (j,t)=>if slt s t=true then JP (i+1) (some (i,s)) xs else JP (i+1) (some (j,t)) xs
def LK(rs:List Ss)(j:Nat):List Ss:=match rs[j]? with|some r=>rs.set j ⟨r.l.tail,r.r⟩|none=>rs
def FV:Nat→List Ss→List Item
 |0,_=>[]
 |f+1,rs=>match JP 0 none rs with
  |none=>[]
  |some (j,t)=>⟨t,j⟩::FV f (LK rs j)
theorem U1:∀(a b:List Ss) (i:Nat),hds i (a++b)=hds i a++hds (i+a.length) b
 |[],b,i=>by simp[hds]
 |x::a,b,i=>by
  simp only[List.cons_append,hds,U1 a b (i+1),List.length_cons,List.append_assoc];rw[show i+1+a.length=i+(a.length+1) by omega]
theorem RU:∀{rs:List Ss} {i:Nat} {h:Hd},h∈hds i rs↔∃k r s t,rs[k]? =some r∧r.l=s::t∧h=⟨s,((i+k:Nat):Int),⟨t,r.r⟩⟩
 |[],i,h=>by simp[hds]
 |x::xs,i,h=>by
  simp only[hds,List.mem_append,RU (rs:=xs)];constructor
  ·rintro (h1|⟨k,r,s,t,h1,h2,h3⟩)
   ·cases hx:x.l with
    |nil=>rw[hx] at h1;simp at h1
    |cons s t=>
     rw[hx] at h1;exact⟨0,x,s,t,rfl,hx,List.mem_singleton.1 h1⟩
   ·exact⟨k+1,r,s,t,by simpa using h1,h2,by rw[h3];congr 2;omega⟩
  ·rintro⟨k,r,s,t,h1,h2,h3⟩;cases k with
   |zero=>
    simp at h1;subst h1;rw[h2];exact .inl (by simpa using h3)
   |succ k=>exact .inr ⟨k,r,s,t,by simpa using h1,h2,by rw[h3];congr 2;omega⟩
theorem Km:∀(rs:List Ss) (i:Nat) (b:Option (Nat×Str)),(∀j t,b=some (j,t)→j < i)→
  (JP i b rs=none→b=none∧∀r∈rs,r.l=[])∧
  ∀j t,JP i b rs=some (j,t)→
   (b=some (j,t)∨∃k r tl,rs[k]? =some r∧r.l=t::tl∧j=i+k)∧
   (∀j' t',b=some (j',t')→slt t' t=false∧(t'=t→j≤j'))∧
   ∀k r s tl,rs[k]? =some r→r.l=s::tl→slt s t=false∧(s=t→j≤i+k)
 |[],i,b,hb=>by
  refine⟨fun h=>⟨h,by simp⟩,fun j t h=>⟨.inl h,fun j' t' e=>?_,by simp⟩⟩
  simp only[JP] at h;rw[h] at e;cases e;exact⟨DH _,fun _=>Nat.le_refl _⟩
 |x::xs,i,b,hb=>by
  unfold JP;cases hx:x.l with
  |nil=>
   obtain⟨h1,h2⟩:=Km xs (i+1) b (fun j t e=>by have:=hb j t e;omega)
   refine⟨fun h=>⟨(h1 h).1,fun r hr=>?_⟩,fun j t h=>?_⟩
   ·rcases List.mem_cons.1 hr with rfl|hr
    ·exact hx
    ·exact(h1 h).2 r hr
   ·obtain⟨k1,k2,k3⟩:=h2 j t h;refine⟨k1.imp _root_.id (fun⟨k,r,tl,e1,e2,e3⟩=>⟨k+1,r,tl,by simpa using e1,e2,by omega⟩),k2,fun k r s tl e1 e2=>?_⟩
    cases k with
    |zero=>simp at e1;subst e1;rw[hx] at e2;cases e2
    |succ k=>have:=k3 k r s tl (by simpa using e1) e2;exact⟨this.1,fun e=>by have:=this.2 e;omega⟩
  |cons s0 tl0=>
   simp only;have key:∀b':Nat×Str,b'.1≤i→(b'=(i,s0)∨b=some b')→(slt s0 b'.2=false∧(s0=b'.2→b'.1≤i))→(∀j' t',b=some (j',t')→slt t' b'.2=false∧(t'=b'.2→b'.1≤j'))→
     (JP (i+1) (some b') xs=none→b=none∧∀r∈x::xs,r.l=[])∧
     ∀j t,JP (i+1) (some b') xs=some (j,t)→
      (b=some (j,t)∨∃k r tl,(x::xs)[k]? =some r∧r.l=t::tl∧j=i+k)∧
      (∀j' t',b=some (j',t')→slt t' t=false∧(t'=t→j≤j'))∧
      ∀k r s tl,(x::xs)[k]? =some r→r.l=s::tl→slt s t=false∧(s=t→j≤i+k):=by
    intro b' hb1 hb2 hb3 hb4;obtain⟨h1,h2⟩:=Km xs (i+1) (some b') (fun j t e=>by cases e;omega)
    refine⟨fun h=>(by have:=(h1 h).1;cases this),fun j t h=>?_⟩
    obtain⟨k1,k2,k3⟩:=h2 j t h;have kb:=k2 b'.1 b'.2 rfl;have comp:∀(q:Str) (m:Nat),slt q b'.2=false→(q=b'.2→b'.1≤m)→slt q t=false∧(q=t→j≤m):=by
     intro q m q1 q2;constructor
     ·cases hq:slt q t with
      |false=>rfl
      |true=>
       rcases Mz b'.2 q with g|g|g
       ·have:=Fd g hq;rw[kb.1] at this;cases this
       ·rw[g,hq] at kb;exact kb.1
       ·rw[q1] at g;cases g
     ·rintro rfl;rcases Mz b'.2 q with g|g|g
      ·rw[kb.1] at g;cases g
      ·have:=kb.2 g;have:=q2 g.symm;omega
      ·rw[q1] at g;cases g
    refine⟨?_,fun j' t' e=>comp t' j' (hb4 j' t' e).1 (hb4 j' t' e).2,fun k r s tl e1 e2=>?_⟩
    ·rcases k1 with k1|⟨k,r,tl,e1,e2,e3⟩
     ·cases k1;rcases hb2 with hb2|hb2
      ·cases hb2;exact .inr ⟨0,x,tl0,rfl,hx,rfl⟩
      ·exact .inl hb2
     ·exact .inr ⟨k+1,r,tl,by simpa using e1,e2,by omega⟩
    ·cases k with
     |zero=>
      simp at e1;subst e1;rw[hx] at e2;cases e2;exact comp s0 (i+0) hb3.1 hb3.2
     |succ k=>
      have:=k3 k r s tl (by simpa using e1) e2
      exact⟨this.1,fun e=>by have:=this.2 e;omega⟩
   cases hbb:b with
   |none=>
    have:=key (i,s0) (Nat.le_refl _) (.inl rfl) ⟨DH _,fun _=>Nat.le_refl _⟩ (fun j' t' e=>by rw[hbb] at e;cases e)
    rw[hbb] at this;exact this
   |some b0=>
    obtain⟨j0,t0⟩:=b0;have hj0:=hb j0 t0 hbb;simp only;split
    ·rename_i hlt;have:=key (i,s0) (Nat.le_refl _) (.inl rfl) ⟨DH _,fun _=>Nat.le_refl _⟩ (fun j' t' e=>by
      rw[hbb] at e;cases e;exact⟨TD hlt,fun e=>by rw[e,DH] at hlt;cases hlt⟩)
     rw[hbb] at this;exact this
    ·rename_i hlt;have:=key (j0,t0) (by show j0≤i;omega) (.inr hbb) ⟨by simpa using hlt,fun _=>by show j0≤i;omega⟩ (fun j' t' e=>by
      rw[hbb] at e;cases e;exact⟨DH _,fun _=>Nat.le_refl _⟩)
     rw[hbb] at this;exact this
def fe(hs:List Hd)(rs:List Ss):Prop:=QH hs.length 0 hs∧hs.Perm (hds 0 rs)
theorem j8{rs:List Ss}{j:Nat}{r:Ss}{s:Str}{t:List Str}(h:rs[j]? =some r)(hr:r.l=s::t):
  ∃A B,hds 0 rs=A++(⟨s,(j:Int),⟨t,r.r⟩⟩::B)∧hds 0 (LK rs j)=A++((match t with|[]=>[]|s'::t'=>[⟨s',(j:Int),⟨t',r.r⟩⟩])++B):=by
 have hj:=(List.getElem?_eq_some_iff.1 h).1;have h2:=(List.getElem?_eq_some_iff.1 h).2;have e1:rs=rs.take j++r::rs.drop (j+1):=by
  conv=>lhs;rw[←List.take_append_drop j rs,List.drop_eq_getElem_cons hj,h2]
 have e2:LK rs j=rs.take j++⟨t,r.r⟩::rs.drop (j+1):=by
  simp only[LK,h,hr,List.tail_cons]
  conv=>lhs;rw[e1]
  rw[List.set_append_right _ _ (by simp;omega)]
  simp only[List.length_take,Nat.min_eq_left (Nat.le_of_lt hj),Nat.sub_self,List.set_cons_zero]
 have hl:(rs.take j).length=j:=by simp;omega
 refine⟨hds 0 (rs.take j),hds (j+1) (rs.drop (j+1)),?_,?_⟩
 ·conv=>lhs;rw[e1]
  rw[U1,hl];simp[hds,hr]
 ·rw[e2,U1,hl];simp only[Nat.zero_add,hds];cases t<;>rfl
theorem V7{x:Hd}{tl:List Hd}{rs:List Ss}(h:fe (x::tl) rs):∃j:Nat,JP 0 none rs=some (j,x.name)∧x.row=j∧fe (Hy (x::tl)) (LK rs j):=by
 obtain⟨hh,hp⟩:=h;obtain⟨b1,b2⟩:=Km rs 0 none (fun _ _ e=>by cases e)
 have hroot:∀y∈hds 0 rs,x.le y:=fun y hy=>by
  have hm:=hp.mem_iff.2 hy;obtain⟨k,hk⟩:=List.mem_iff_getElem?.1 hm;have hkl:=(List.getElem?_eq_some_iff.1 hk).1;have:=YG hh k k (Nat.le_refl _) hkl;rw[Mb hk,Mb (i:=0) rfl] at this;exact this
 have hx:x∈hds 0 rs:=hp.mem_iff.1 (by simp)
 obtain⟨k,r,s,t,e1,e2,e3⟩:=RU.1 hx;cases hb:JP 0 none rs with
 |none=>
  have:=(b1 hb).2 r (List.mem_of_getElem? e1);rw[this] at e2;cases e2
 |some p=>
  obtain⟨j,n⟩:=p;obtain⟨c1,_,c3⟩:=b2 j n hb;rcases c1 with c1|⟨k',r',tl',f1,f2,f3⟩
  ·cases c1
  have f3:j=k':=by omega
  subst f3;have hbest:(⟨n,(j:Int),⟨tl',r'.r⟩⟩:Hd)∈hds 0 rs:=RU.2 ⟨j,r',n,tl',f1,f2,by simp⟩
  have g1:=hroot _ hbest;have g2:=c3 k r s t e1 e2;have hk:j=k∧n=s:=by
   subst e3;unfold Hd.le Hd.lt at g1
   by_cases en:n=s
   ·subst en;simp at g1;have:=g2.2 rfl;exact⟨by omega,rfl⟩
   ·simp only[en,if_false] at g1;rcases Mz n s with q|q|q
    ·rw[g1] at q;cases q
    ·exact(en q).elim
    ·rw[g2.1] at q;cases q
  obtain⟨rfl,rfl⟩:=hk;have hxe:x=⟨n,(j:Int),⟨t,r.r⟩⟩:=by rw[e3];simp
  subst hxe;refine⟨j,rfl,rfl,?_⟩;obtain⟨A,B,d1,d2⟩:=j8 e1 e2;have hperm:tl.Perm (A++B):=by
   rw[d1] at hp;exact(hp.trans List.perm_middle).cons_inv
  unfold Hy;simp only;cases t with
  |nil=>
   simp only;obtain⟨p1,p2⟩:=Y1 (by simp) hh
   refine⟨p1,?_⟩;rw[d2];simp only[List.nil_append];rw[Mb (i:=0) rfl] at p2;have:(Zj (⟨n,(j:Int),⟨[],r.r⟩⟩::tl)).Perm tl:=by
    have:=(List.perm_append_singleton _ _).symm.trans p2;exact this.cons_inv
   exact this.trans hperm
  |cons s' t'=>
   simp only;have hl:(⟨s',(j:Int),⟨t',r.r⟩⟩::tl:List Hd).length=tl.length+1:=rfl;refine⟨?_,?_⟩
   ·rw[GX,hl];refine Mq _ _ _ (Nat.le_of_eq hl.symm) (by omega) (by omega) (Nat.le_refl _) (fun k k1 k2 k3 k4=>?_) (fun e=>(e rfl).elim)
    have:=hh k k1 (by simpa using k2) (Nat.zero_le _)
    have hc:∀(m:Nat) (y z:Hd),m≠0→hat (y::tl) m=hat (z::tl) m:=fun m y z hm=>by
     cases m with
     |zero=>exact(hm rfl).elim
     |succ m=>simp[hat]
    rw[hc _ _ ⟨s',(j:Int),⟨t',r.r⟩⟩ k4,hc k _ ⟨s',(j:Int),⟨t',r.r⟩⟩ (by omega)] at this
    exact this
   ·refine(JC _ _ _ (Nat.le_of_eq hl.symm) (by rw[hl];omega)).trans ?_
    rw[d2];simp only[List.singleton_append];exact(List.Perm.cons _ hperm).trans List.perm_middle.symm
theorem aT:∀(f:Nat) (hs:List Hd) (rs:List Ss),fe hs rs→JE f hs=FV f rs
 |0,_,_,_=>rfl
 |f+1,[],rs,h=>by
  have hn:hds 0 rs=[]:=by
   have:=h.2;exact List.nil_perm.1 this
  have:JP 0 none rs=none:=by
   cases hb:JP 0 none rs with
   |none=>rfl
   |some p=>
    obtain⟨j,n⟩:=p;obtain⟨c1,_,_⟩:=(Km rs 0 none (fun _ _ e=>by cases e)).2 j n hb
    rcases c1 with c1|⟨k',r',tl',f1,f2,f3⟩
    ·cases c1
    ·have:=(RU (i:=0)).2 ⟨k',r',n,tl',f1,f2,rfl⟩;rw[hn] at this;cases this
  simp only[JE,FV,this]
 |f+1,x::tl,rs,h=>by
  obtain⟨j,h1,h2,h3⟩:=V7 h;simp only[JE,FV,h1,h2];rw[aT f _ _ h3]
theorem fG(rs:List Ss):fe (MK (hds 0 rs).length ((hds 0 rs).length / 2) (hds 0 rs)) rs:=by
 obtain⟨h1,h2⟩:=Wj (n:=(hds 0 rs).length) _ (hds 0 rs) (Nat.le_refl _) (Nat.le_refl _) fM;refine⟨?_,h2⟩;rw[h2.length_eq];exact h1
open Go.Proofs
def HS(b:Nat)(S:St)(id:Nat)(hs:List Hd):Prop:=
 b≤id∧∃L,S[id]? =some (.cells [L,.fn Cm [] []] Dz)∧((hs=[]∧L= .vs 3 [] .nil)∨∃hid J,b≤hid∧L= .rs 3 hid 0 hs.length∧hid≠id∧S[hid]? =some (.cells (Ab Hd.c hs++J) 0))
theorem GY{w0:World}{S:St}{b id:Nat}{hs:List Hd}(h:HS b S id hs){Q:AV→St→Prop}(hq:Q (.int .i64 hs.length) S):AC w0 FX [.ptr id 0] S Q:=by
 obtain⟨_,L,h1,h2⟩:=h;apply Sr;unfold MC;rcases h2 with ⟨rfl,rfl⟩|⟨hid,J,hb,rfl,h3,h4⟩<;>simp[Ac h1]<;>exact hq
theorem TG{w0:World}{S:St}{x y:Hd}{Q:AV→St→Prop}(hq:Q (.bool (x.lt y)) S):AC w0 Cm [.agg [.str x.name,.int .i64 x.row],.agg [.str y.name,.int .i64 y.row]] S Q:=by
 apply Rx;unfold MW;simp
 by_cases c:x.name=y.name
 ·simpa[c,Hd.lt] using hq
 ·simpa[c,Hd.lt] using hq
theorem Ld{w0:World}{S:St}{b id i k:Nat}{hs:List Hd}{x y:Hd}(h:HS b S id hs)(hi:hs[i]? =some x)(hk:hs[k]? =some y){Q:AV→St→Prop}(hq:Q (.bool (x.lt y)) S):AC w0 F8 [.ptr id 0,.int .i64 i,.int .i64 k] S Q:=by
 obtain⟨_,L,h1,h2⟩:=h;have li:=(List.getElem?_eq_some_iff.1 hi).1;have lk:=(List.getElem?_eq_some_iff.1 hk).1;apply Qm;unfold LU;rcases h2 with ⟨rfl,rfl⟩|⟨hid,J,hb,rfl,h3,h4⟩
 ·simp at hi
 have r1:=V6 (T:=BU) h4 rfl rfl Hd.cl hi (k:=0) (by simp)
 have r2:=V6 (T:=BU) h4 rfl rfl Hd.cl hk (k:=0) (by simp)
 simp at r1 r2;simp[Ac h1,li,lk,r1,r2,Lj];exact TG hq
theorem LR{w0:World}{S:St}{b id i k:Nat}{hs:List Hd}(h:HS b S id hs)(hi:i < hs.length)(hk:k < hs.length){Q:AV→St→Prop}(hq:∀S',HS b S' id (IN hs i k)→Kp b S S'→Q (.tup []) S'):AC w0 GB [.ptr id 0,.int .i64 i,.int .i64 k] S Q:=by
 obtain⟨hb0,L,h1,h2⟩:=h;obtain⟨x,hx⟩:∃x,hs[i]? =some x:=⟨hs[i],by simp[hi]⟩
 obtain⟨y,hy⟩:∃x,hs[k]? =some x:=⟨hs[k],by simp[hk]⟩
 apply Qz;unfold LI;rcases h2 with ⟨rfl,rfl⟩|⟨hid,J,hb,rfl,h3,h4⟩
 ·simp at hi
 have r1:=Od (T:=BH) (n:=3) h4 rfl rfl Hd.cl hx;have r2:=Od (T:=BH) (n:=3) h4 rfl rfl Hd.cl hy;simp[Ac h1,hi,hk,r1,r2];have s1:=PS (T:=BH) y h4 rfl Hd.cl hx (v:=.agg y.c) rfl rfl;have hy2:∃z,(hs.set i y)[k]? =some z:=⟨(hs.set i y)[k]'(by simpa using hk),by simp[hk]⟩
 obtain⟨z,hz⟩:=hy2;have s2:=PS (T:=BH) x (Al (o':=.cells (Ab Hd.c (hs.set i y)++J) 0) h4) rfl Hd.cl hz (v:=.agg x.c) rfl rfl
 try simp at s1
 try simp at s2
 simp[s1,s2];refine hq _ ⟨hb0,_,(As h3).trans h1,.inr ⟨hid,J,hb,by simp[IN],h3,?_⟩⟩ (.set hb)
 rw[Al h4];simp[IN,Mb hx,Mb hy]
theorem Tr{w0:World}{S:St}{b id:Nat}{hs:List Hd}(h:HS b S id hs)(hn:hs≠[])(hn2:hs.length≤1000000){Q:AV→St→Prop}(hq:∀r S',HS b S' id hs.dropLast→Kp b S S'→Q r S'):AC w0 Gb [.ptr id 0] S Q:=by
 obtain⟨hb0,L,h1,h2⟩:=h;have hpos:=List.length_pos_iff.2 hn;obtain⟨x,hx⟩:∃x,hs[hs.length - 1]? =some x:=⟨hs[hs.length - 1],by simp⟩
 apply SV;unfold MR;rcases h2 with ⟨rfl,rfl⟩|⟨hid,J,hb,rfl,h3,h4⟩
 ·simp at hn
 have r1:=Od (T:=BH) (n:=3) h4 rfl rfl Hd.cl hx;obtain⟨m,hm⟩:∃m,hs.length=m+1:=⟨hs.length - 1,by omega⟩
 rw[hm] at r1 h1;simp at r1;have e1:((m:Int)+1 - 1)=m:=by omega
 simp[Ac h1,e1];rw[wrap64 (by omega) (by omega)]
 simp[r1,E6 h1];rw[Be (Al h1)];simp;refine hq _ _ ⟨hb0,_,Al h1,.inr ⟨hid,x.c++J,hb,by simp[hm],h3,?_⟩⟩ (.set hb0)
 rw[As (Ne.symm h3),h4];have:Ab Hd.c hs=Ab Hd.c hs.dropLast++x.c:=by
  have e:hs=hs.dropLast++[x]:=by
   rw[hm] at hx;have:=List.dropLast_concat_getLast hn;rw[List.getLast_eq_getElem] at this
   conv=>lhs;rw[←this]
   congr 2;have h5:=(List.getElem?_eq_some_iff.1 hx).2;rw[←h5];congr 1;omega
  conv=>lhs;rw[e]
  simp[Ab]
 rw[this,List.append_assoc]
theorem Mw{w0:World}{S:St}{b id i n:Nat}{hs:List Hd}(h:HS b S id hs)(hn:n≤hs.length)(hn2:hs.length≤1000000)(hi:i < 1000000){Q:AV→St→Prop}
  (hq:∀S',HS b S' id (FG n n i hs).1→Kp b S S'→Q (.bool (decide (i < (FG n n i hs).2))) S'):AC w0 IB [.ifc C0 (.ptr id 0),.int .i64 i,.int .i64 n] S Q:=by
 apply XU;unfold SM;simp[FK];refine DX (fun j=>∀S',HS b S' id (FG n n i hs).1→Kp b S S'→j (.int .i64 ((FG n n i hs).2:Int)) S') (fun S' h1 h2=>by simpa using hq S' h1 h2) (fun j4 hj4=>?_)
 refine Fw (fun k:Nat×List Hd=>([.int .i64 k.1],[])) (fun m k S'=>HS b S' id k.2∧Kp b S S'∧k.2.length=hs.length∧k.1 < 1000000∧FG n m k.1 k.2=FG n n i hs∧n≤m+k.1) n (i,hs) rfl ⟨h,.refl _ _,rfl,hi,rfl,by omega⟩ ?_
 rintro m ⟨k,l⟩ S' v bx ⟨hS,hK,hl,hk,hd,hm⟩ hv;simp at hv hS hl hk hd hm;simp[hv]
 try simp (disch:=omega) only[wrap64]
 try simp
 by_cases c1:n≤2*k+1
 ·have e1:(n:Int)≤2*k+1:=by omega
  have e2:FG n m k l=(l,k):=by
   cases m with
   |zero=>rfl
   |succ m=>simp only[FG];rw[if_pos (by omega)]
  rw[e2] at hd;rw[←hd] at hj4;simp[e1,AO];exact hj4 S' hS hK
 have e1:¬(n:Int)≤2*k+1:=by omega
 have e0:¬(2*(k:Int)+1 < 0):=by omega
 obtain⟨m,rfl⟩:∃m',m=m'+1:=⟨m - 1,by omega⟩
 simp only[FG] at hd;rw[if_neg (by omega)] at hd
 simp[e1,e0];obtain⟨jj,hjj⟩:∃jj,jj=if 2*k+1+1 < n∧(hat l (2*k+1+1)).lt (hat l (2*k+1))=true then 2*k+1+1 else 2*k+1:=⟨_,rfl⟩
 rw[←hjj] at hd;have hjn:jj < n∧k < jj:=by split at hjj<;>omega
 have gk:=getD_some (hs:=l) (i:=k) (by omega)
 have gj:=getD_some (hs:=l) (i:=jj) (by omega)
 refine DX (fun j=>j (.int .i64 (jj:Int)) S') ?_ (fun j3 hj3=>?_)
 ·simp[jF,CD];refine Ld hS gj gk ?_
  by_cases c2:(hat l jj).lt (hat l k)=true
  ·simp[c2] at hd ⊢;refine LR (i:=k) (k:=jj) hS (by omega) (by omega) fun S2 h2 k2=>?_
   exact⟨m,(jj,IN l k jj),by omega,rfl,h2,hK.trans k2,by simp[D2,hl],by show jj < _;omega,hd,by show n≤m+jj;omega⟩
  ·simp[c2] at hd ⊢;rw[←hd] at hj4;exact hj4 S' hS hK
 ·try simp (disch:=omega) only[wrap64]
  by_cases c3:2*k+1+1 < n
  ·have e3:2*(k:Int)+1+1 < n:=by omega
   have g1:=getD_some (hs:=l) (i:=2*k+1) (by omega)
   have g2:=getD_some (hs:=l) (i:=2*k+1+1) (by omega)
   simp[e3,jF,CD];refine Ld (i:=2*k+1+1) (k:=2*k+1) hS g2 g1 ?_
   by_cases c4:(hat l (2*k+1+1)).lt (hat l (2*k+1))=true
   ·simp only[c3,c4,and_self,if_true] at hjj;subst hjj;simpa[c4] using hj3
   ·simp only[c3,c4,and_false,if_false] at hjj;subst hjj;simpa[c4] using hj3
  ·have e3:¬2*(k:Int)+1+1 < n:=by omega
   simp only[c3,false_and,if_false] at hjj;subst hjj;simp[e3,AO];exact hj3
theorem Ze{w0:World}{S:St}{b id:Nat}{hs:List Hd}(h:HS b S id hs)(hn2:hs.length≤1000000){Q:AV→St→Prop}
  (hq:∀S',HS b S' id (MK hs.length (hs.length / 2) hs)→Kp b S S'→Q (.tup []) S'):AC w0 NY [.ifc C0 (.ptr id 0)] S Q:=by
 apply Xb;unfold Rg;simp[FK,CD];refine GY h ?_;simp;rw[ak _ _ _ (by omega)]
 have e1:IntKind.i64.wrap (((hs.length:Int)).tdiv 2)=((hs.length / 2:Nat):Int):=by
  rw[wrap64]<;>simp[Int.tdiv_eq_ediv_of_nonneg]<;>omega
 have e2:(hs.length:Int) / 2=((hs.length / 2:Nat):Int):=by omega
 simp only[e1,AF,iF]
 try simp (disch:=omega) only[wrap64]
 refine Fw (fun k:Nat×List Hd=>([.int .i64 ((k.1:Int) - 1)],[])) (fun m k S'=>HS b S' id k.2∧Kp b S S'∧k.2.length=hs.length∧k.1 < 1000000∧MK hs.length k.1 k.2=MK hs.length (hs.length / 2) hs∧m=k.1) (hs.length / 2) (hs.length / 2,hs) rfl ⟨h,.refl _ _,rfl,by show hs.length / 2 < _;omega,rfl,rfl⟩ ?_
 rintro m ⟨k,l⟩ S' v bx ⟨hS,hK,hl,hk,hd,rfl⟩ hv;simp at hv hS hl hk hd;cases m with
 |zero=>
  simp[MK] at hd hv;subst hd;simp[hv];exact hq _ hS hK
 |succ k=>
  simp only[MK] at hd;have e3:((k+1:Nat):Int) - 1=k:=by omega
  rw[e3] at hv;simp[hv];refine Mw hS (by omega) (by omega) (by omega) fun S2 h2 k2=>?_
  try simp (disch:=omega) only[wrap64]
  exact⟨k,(k,(FG hs.length hs.length k l).1),by show k < k+1;omega,rfl,h2,hK.trans k2,by show (FG _ _ _ _).1.length=_;rw[GX,hl],by show k < _;omega,hd,rfl⟩
theorem ab{w0:World}{S:St}{b id:Nat}{hs:List Hd}(h:HS b S id hs)(hn2:hs.length≤1000000){Q:AV→St→Prop}
  (hq:∀S',HS b S' id (FG hs.length hs.length 0 hs).1→Kp b S S'→Q (.tup []) S'):AC w0 Ol [.ifc C0 (.ptr id 0),.int .i64 0] S Q:=by
 apply Yr;unfold Uf;simp[FK,CD];refine GY h ?_;refine Mw (i:=0) h (Nat.le_refl _) hn2 (by omega) fun S2 h2 k2=>?_
 simp;refine eo (fun _=>?_) (fun _=>hq _ h2 k2)
 apply aw;unfold WN;refine Fw (fun k:Unit=>([.int .i64 0],[])) (fun m k S'=>S'=S2) 0 () rfl rfl ?_
 rintro m k S' v bx rfl hv;simp at hv;simp[hv,AO];rw[wrap64 (by omega) (by omega),ak _ _ _ (by omega)]
 simp;rw[show IntKind.i64.wrap 0=0 by decide]
 simp;exact hq _ h2 k2
theorem bo{w0:World}{S:St}{b id:Nat}{hs:List Hd}(h:HS b S id hs)(hn:hs≠[])(hn2:hs.length≤1000000){Q:AV→St→Prop}
  (hq:∀r S',HS b S' id (Zj hs)→Kp b S S'→Q r S'):AC w0 Of [.ifc C0 (.ptr id 0)] S Q:=by
 have hpos:=List.length_pos_iff.2 hn;apply Yp;unfold UX;simp[FK,CD];refine GY h ?_;have e1:IntKind.i64.wrap ((hs.length:Int) - 1)=((hs.length - 1:Nat):Int):=by rw[wrap64]<;>omega
 simp[e1];refine LR (i:=0) (k:=hs.length - 1) h hpos (by omega) fun S2 h2 k2=>?_
 refine Mw (i:=0) (n:=hs.length - 1) h2 (by rw[D2];omega) (by rw[D2];omega) (by omega) fun S3 h3 k3=>?_
 refine Tr h3 (by rw[←List.length_pos_iff,GX,D2];omega) (by rw[GX,D2];omega) fun r S4 h4 k4=>?_
 exact hq _ _ h4 ((k2.trans k3).trans k4)
def ES(rs:List Ss):Nat:=(rs.map fun x=>x.l.length).sum
theorem Q9:∀(rs:List Ss) (i:Nat),(hds i rs).length≤rs.length
 |[],_=>by simp[hds]
 |x::xs,i=>by
  have:=Q9 xs (i+1);simp only[hds,List.length_append,List.length_cons];cases x.l<;>simp<;>omega
theorem YP{rs:List Ss}{i:Nat}{x:Ss}(h:rs[i]? =some x):ES (rs.take (i+1))=ES (rs.take i)+x.l.length:=by
 rw[List.take_succ,h];simp[ES]
theorem iI(a b:List Ss):ES (a++b)=ES a+ES b:=by simp[ES]
theorem ez(rs:List Ss)(i:Nat):ES (rs.take i)≤ES rs:=by
 have:=iI (rs.take i) (rs.drop i);rw[List.take_append_drop] at this;omega
def MV(hs:List Hd):Nat:=(hs.map fun x=>x.rest.l.length+1).sum
theorem Tp{a b:List Hd}(h:a.Perm b):MV a=MV b:=by
 unfold MV;exact(h.map _).sum_nat
theorem ge{x:Hd}{tl:List Hd}(h:QH (tl.length+1) 0 (x::tl)):MV (Hy (x::tl))+1=MV (x::tl):=by
 unfold Hy;simp only;cases hr:x.rest.l with
 |nil=>
  simp only;have:=Tp (Y1 (hs:=x::tl) (by simp) h).2
  rw[Mb (i:=0) rfl] at this;rw[←this];simp[MV,hr]
 |cons s t=>
  simp only;rw[Tp (JC _ _ _ (by simp) (by simp))]
  simp[MV,hr];omega
theorem gP{x:Hd}{tl:List Hd}:(Hy (x::tl)).length≤tl.length+1:=by
 unfold Hy;simp only;cases hr:x.rest.l with
 |nil=>simp only[Zj,List.length_dropLast,GX,D2,List.length_cons];omega
 |cons s t=>simp only[GX,List.length_cons];omega
theorem fc{S:St}{b id:Nat}{hs:List Hd}{L f:AV}(h:HS b S id hs)(hL:S[id]? =some (.cells [L,f] Dz))(hb:b≤S.length)(hl:hs.length≤1000000)(x:Hd):
  ∃p S2,appendR BH (stripMem S (.ptr id 0)) (AV.strip0 L) (.vs 3 [x.c] .full)=some p∧Bn Bs p.2 (.ptr id 0) p.1=some S2∧HS b S2 id (hs++[x])∧Kp b S S2∧S.length≤S2.length:=by
 obtain⟨hb0,L',h1,h2⟩:=h;rw[h1] at hL;simp at hL;obtain⟨rfl,rfl⟩:=hL;have hid:=(List.getElem?_eq_some_iff.1 h1).1;rw[E6 h1];rcases h2 with ⟨rfl,rfl⟩|⟨hid',J,hb',rfl,h3,h4⟩
 ·have e0:(S.set id (.cells [AV.vs 3 [] .nil,.fn Cm [] []] Dz)++[Obj.cells ([x.c]).flatten 0])[id]? =some (.cells [AV.vs 3 [] .nil,.fn Cm [] []] Dz):=by
   rw[List.getElem?_append_left (by simpa using hid)];exact Al h1
  have hlim:(1:Nat)≤lim:=by unfold lim;omega
  refine⟨_,_,by simp[appendR,BO,hlim];rfl,by simp;rw[Be (by simpa using e0)];simp;rfl,⟨hb0,_,Al (by simpa using e0),.inr ⟨S.length,[],by omega,by simp,by omega,?_⟩⟩,fun j hj=>?_,by simp⟩
  ·rw[As (by omega),List.getElem?_append_right (by simp)]
   simp[Ab]
  ·rw[As (by omega),List.getElem?_append_left (by simp;omega),As (by omega)]
 ·have hid2:=(List.getElem?_eq_some_iff.1 h4).1;have g1:(S.set id (.cells [AV.rs 3 hid' 0 hs.length,.fn Cm [] []] Dz))[hid']? =some (.cells (Ab Hd.c hs++J) 0):=(As (Ne.symm h3)).trans h4;have g2:hs.length*3≤(Ab Hd.c hs++J).length:=by rw[List.length_append,C6 Hd.cl];omega
  have g3:hs.length+1≤lim:=by unfold lim;omega
  have g4:(Ab Hd.c hs++J).take (hs.length*3)=Ab Hd.c hs:=by rw[←C6 Hd.cl,List.take_left]
  have e0:((S.set id (.cells [AV.rs 3 hid' 0 hs.length,.fn Cm [] []] Dz)).set hid' .dead++[Obj.cells (Ab Hd.c hs++([x.c]).flatten) 0])[id]? =some (.cells [AV.rs 3 hid' 0 hs.length,.fn Cm [] []] Dz):=by
   rw[List.getElem?_append_left (by simpa using hid),As h3];exact Al h1
  have ha:appendR BH (S.set id (.cells [AV.rs 3 hid' 0 hs.length,.fn Cm [] []] Dz)) (.rs 3 hid' 0 hs.length) (.vs 3 [x.c] .full)=
    some (.rs 3 S.length 0 (hs.length+1),(S.set id (.cells [AV.rs 3 hid' 0 hs.length,.fn Cm [] []] Dz)).set hid' .dead++[Obj.cells (Ab Hd.c hs++([x.c]).flatten) 0]):=by
   simp only[appendR,BO,TL];simp only[List.cons_ne_nil,false_or,or_true,if_true,Option.bind_some,if_false,List.length_cons,List.length_nil,Nat.zero_add];simp only[DG,g1,Option.bind_some,g2,g3,g4,and_self,if_true,List.length_set]
  refine⟨_,_,ha,by rw[Be e0];simp;rfl,⟨hb0,_,Al e0,.inr ⟨S.length,[],by omega,by simp,by omega,?_⟩⟩,fun j hj=>?_,by simp⟩
  ·rw[As (by omega),List.getElem?_append_right (by simp)]
   simp[Ab]
  ·rw[As (by omega),List.getElem?_append_left (by simp;omega),As (by omega),As (by omega)]
theorem jT(a:List Ss)(x:Ss):hds 0 (a++[x])=hds 0 a++(match x.l with|[]=>[]|s::t=>[⟨s,(a.length:Int),⟨t,x.r⟩⟩]):=by
 rw[U1];simp only[hds,List.append_nil,Nat.zero_add]
 all_goals (cases x.l<;>rfl)
theorem SH{w0:World}{S:St}{rows:List Ss}{r:Rt}(hl:rows.length≤100000)(ht:ES rows≤10000000)(hok:∀x∈rows,x.r= .nil→x.l=[]){Q:AV→St→Prop}
  (hq:∀S',Sx S S'→Q (.vs 2 ((FV (ES rows) rows).map Item.c) .none) S'):AC w0 KW [.vs 1 (rows.map Ss.c) r] S Q:=by
 apply XL;unfold RY;simp only[CC,AF];simp;refine DX (fun j=>∀S',HS S.length S' S.length (hds 0 rows)→Sx S S'→S.length < S'.length→j (.int .i64 (ES rows:Int)) S') (fun S1 h1 hx1 hlt=>?_) (fun j3 hj3=>?_)
 ·simp[Q3,WS];have hhl:=Q9 rows 0;refine Ze h1 (by omega) fun S2 h2 k2=>?_
  have hlim:(ES rows:Int)≤lim:=by unfold lim;omega
  simp[FB,hlim];have hI:=fG rows;have hT:MV (MK (hds 0 rows).length ((hds 0 rows).length / 2) (hds 0 rows))=ES rows:=by
   rw[Tp hI.2];have:∀(rs:List Ss) (i:Nat),MV (hds i rs)=ES rs:=by
    intro rs
    induction rs with
    |nil=>intro i;rfl
    |cons x xs ih=>
     intro i;have:=ih (i+1);simp only[hds,MV,ES,List.map_append,List.sum_append_nat,List.map_cons,List.sum_cons] at this ⊢;rw[this];cases x.l<;>simp
   exact this rows 0
  have hmm:=aT (ES rows) _ rows hI;have hrest:∀x∈MK (hds 0 rows).length ((hds 0 rows).length / 2) (hds 0 rows),x.rest.r= .nil→x.rest.l=[]:=fun x hx e=>by
   obtain⟨k,r,s,t,e1,e2,rfl⟩:=RU.1 (hI.2.mem_iff.1 hx);have:=hok r (List.mem_of_getElem? e1) e;rw[this] at e2;cases e2
  have hlen:(MK (hds 0 rows).length ((hds 0 rows).length / 2) (hds 0 rows)).length≤100000:=by rw[hI.2.length_eq];omega
  have hheap:=hI.1;generalize MK (hds 0 rows).length ((hds 0 rows).length / 2) (hds 0 rows)=hs0 at*;refine DX (fun j=>∀S' t,Sx S S'→j (.vs 2 ((JE (ES rows) hs0).map Item.c) (.own t)) S') (fun S' t hS'=>?_) (fun j2 hj2=>?_)
  ·rw[hmm];exact hq _ hS'
  refine Fw (fun k:List Item×List Hd×Nat=>([.vs 2 (k.1.map Item.c) (.own k.2.2)],[]))
   (fun m k S'=>HS S.length S' S.length k.2.1∧Sx S S'∧m=MV k.2.1∧k.1++JE m k.2.1=JE (ES rows) hs0∧(∃rs,fe k.2.1 rs)∧k.2.1.length≤100000∧k.1.length+m=ES rows∧∀x∈k.2.1,x.rest.r= .nil→x.rest.l=[])
   (ES rows) ([],hs0,Tu) (by simp) ⟨h2,fun j hj=>(k2 j hj).trans (hx1 j hj),hT.symm,rfl,⟨rows,hI⟩,hlen,by simp,hrest⟩ ?_
  rintro m ⟨out,hs,t⟩ S' v b ⟨hS,hx,rfl,ho,⟨rs,hH⟩,hl2,hm,hr⟩ hv;simp only at hS hx ho hH hl2 hm hr;simp at hv;simp[hv];refine GY hS ?_;cases hs with
  |nil=>
   simp;have:out=JE (ES rows) hs0:=by
    rw[←ho];cases (MV ([]:List Hd))<;>simp[JE]
   rw[←this] at hj2;exact hj2 S' t hx
  |cons x tl=>
   obtain⟨n,hn⟩:∃n,MV (x::tl)=n+1:=⟨MV (x::tl) - 1,by simp[MV];omega⟩
   have hnext:=ge (by simpa using hH.1)
   obtain⟨jj,_,_,hnI⟩:=V7 hH;have hnl:=gP (x:=x) (tl:=tl);have hS0:=hS;obtain⟨hb0,L,g1,g2⟩:=hS;rcases g2 with ⟨e,_⟩|⟨hid,J,hb,rfl,g3,g4⟩
   ·cases e
   have hx0:(x::tl)[0]? =some x:=rfl;have r0:=V6 (T:=BU) (n:=3) (m:=2) g4 rfl rfl Hd.cl hx0 (k:=0) (by simp)
   have r1:=aQ (T:=Ai) (n:=3) g4 rfl Hd.cl hx0 (k:=2) (by simp)
   simp at r0 r1;have hlim2:out.length+1≤lim:=by unfold lim;omega
   rw[hn] at ho;simp only[JE] at ho;have hpos:(0:Int) < tl.length+1:=by omega
   simp[hpos,Ac g1,r0,r1,Aj,BO,hlim2];have fin:∀S2,HS S.length S2 S.length (Hy (x::tl))→Sx S S2→(∀y∈Hy (x::tl),y.rest.r= .nil→y.rest.l=[])→∀t,Nx (fun k:List Item×List Hd×Nat=>([.vs 2 (k.1.map Item.c) (.own k.2.2)],[]))
     (fun m k S'=>HS S.length S' S.length k.2.1∧Sx S S'∧m=MV k.2.1∧k.1++JE m k.2.1=JE (ES rows) hs0∧(∃rs,fe k.2.1 rs)∧k.2.1.length≤100000∧k.1.length+m=ES rows∧∀x∈k.2.1,x.rest.r= .nil→x.rest.l=[])
     (MV (x::tl)) ([AV.vs 2 (List.map Item.c out++[[AV.str x.name,AV.int IntKind.i64 x.row]]) (.own t)],[]) S2:=fun S2 q1 q2 q3 t=>
    ⟨MV (Hy (x::tl)),(out++[⟨x.name,x.row⟩],Hy (x::tl),t),by omega,by simp,q1,q2,rfl,by
     show (out++[_])++JE (MV (Hy (x::tl))) (Hy (x::tl))=_
     rw[show MV (Hy (x::tl))=n by omega,List.append_assoc,List.singleton_append];exact ho,⟨_,hnI⟩,by simp at hl2;show (Hy (x::tl)).length≤100000;omega,by simp;omega,q3⟩
   have hrow:∃t',C4 BU (Rt.own t)=t':=⟨_,rfl⟩;obtain⟨t',ht'⟩:=hrow;rw[ht'];cases hrl:x.rest.l with
   |nil=>
    simp;have hnx:Hy (x::tl)=Zj (x::tl):=by simp[Hy,hrl]
    refine bo hS0 (by simp) (by omega) fun r S2 h2' k2'=>?_
    refine fin S2 (by rw[hnx];exact h2') (fun j hj=>(k2' j hj).trans (hx j hj)) (fun y hy=>?_) t'
    rw[hnx] at hy;exact hr y ((Y1 (by simp) hH.1).2.mem_iff.1 (List.mem_append_left _ hy))
   |cons s tt=>
    have hnn:¬(x.rest.r.strip= .nil):=fun e=>by
     have:x.rest.r= .nil:=by cases hq:x.rest.r<;>rw[hq] at e<;>simp[Rt.strip] at e
     have:=hr x (by simp) this
     rw[hrl] at this;cases this
    have hcells:Ab Hd.c (x::tl)++J= .str x.name:: .int .i64 x.row::x.rest.v::(Ab Hd.c tl++J):=by simp[Ab]
    rw[hcells] at g4;have g5:=Al (o':=.cells (.str s:: .int .i64 x.row::x.rest.v::(Ab Hd.c tl++J)) 0) g4;have hnx:Hy (x::tl)=(FG (tl.length+1) (tl.length+1) 0 (⟨s,x.row,⟨tt,x.rest.r⟩⟩::tl)).1:=by simp[Hy,hrl]
    simp[hnn,Be g4];rw[Be (by simpa using g5)]
    simp;have hS3:HS S.length (S'.set hid (.cells (.str s:: .int .i64 x.row:: .vs 1 (tt.map Cw) x.rest.r.strip::(Ab Hd.c tl++J)) 0)) S.length (⟨s,x.row,⟨tt,x.rest.r⟩⟩::tl):=by
     refine⟨hb0,_,(As g3).trans g1,.inr ⟨hid,J,hb,rfl,g3,?_⟩⟩;rw[Al g4];simp[Ab]
    refine ab hS3 (by simp at hl2 ⊢;omega) fun S2 h2' k2'=>?_
    refine fin S2 (by rw[hnx];exact h2') (fun j hj=>((k2' j hj).trans (As (by omega))).trans (hx j hj)) (fun y hy=>?_) t'
    rw[hnx] at hy;have hy2:=(JC (n:=tl.length+1) (tl.length+1) 0 (⟨s,x.row,⟨tt,x.rest.r⟩⟩::tl) (by simp) (by simp)).mem_iff.1 hy
    rcases List.mem_cons.1 hy2 with rfl|hy2
    ·intro e;exact(hnn (by simp at e;rw[e];rfl)).elim
    ·exact hr y (by simp[hy2])
 ·refine BN rows (fun i (_:Unit)=>([.int .i64 (ES (rows.take i):Int),.int .i64 i],[])) (fun i _ S'=>HS S.length S' S.length (hds 0 (rows.take i))∧Sx S S'∧S.length < S'.length) () (by simp[ES])
   ⟨⟨Nat.le_refl _,.vs 3 [] .nil,by simp,.inl ⟨by simp[hds],rfl⟩⟩,.app _ _,by simp⟩ ?_ ?_
  ·rintro i _ S' v b x c hxi hd hc hm ⟨hS,hx,hlt⟩ hv;simp at hv;have htk:=YP hxi;have htl:=ez rows (i+1);have hsn:rows.take (i+1)=rows.take i++[x]:=by rw[List.take_succ,hxi];rfl
   have hhl:(hds 0 (rows.take i)).length≤i:=by
    have:=Q9 (rows.take i) 0;simp at this;omega
   simp[hv,hc,hxi];have hlen:(rows.take i).length=i:=by simp;omega
   refine DX (fun j=>∀S2,HS S.length S2 S.length (hds 0 (rows.take (i+1)))→Sx S S2→S.length < S2.length→j (.int .i64 (ES (rows.take (i+1)):Int)) S2) (fun S2 h2 x2 l2=>?_) (fun j hj=>?_)
   ·try simp (disch:=omega) only[wrap64]
    exact .next c () rfl ⟨h2,x2,l2⟩
   ·try simp (disch:=omega) only[wrap64]
    rw[hsn,jT,hlen,←hsn,htk] at hj;cases hxl:x.l with
    |nil=>
     rw[hxl] at hj;simp at hj ⊢;exact hj S' hS hx hlt
    |cons s tt=>
     rw[hxl] at hj;have hnn:¬(x.r.strip= .nil):=fun e=>by
      have:x.r= .nil:=by cases hq:x.r<;>rw[hq] at e<;>simp[Rt.strip] at e
      have:=hok x hm this;rw[hxl] at this;cases this
     obtain⟨hb0,L,g1,g2⟩:=id hS;obtain⟨p,S2,q1,q2,q3,q4,q5⟩:=fc hS g1 (by omega) (by omega) ⟨s,i,⟨tt,x.r⟩⟩
     have hL:AV.strip0 L=L:=by rcases g2 with ⟨_,rfl⟩|⟨_,_,_,rfl,_⟩<;>rfl
     simp[hnn,Ac g1];simp only[Hd.c,Ss.v] at q1;rw[q1];simp[q2];refine hj S2 (by simpa using q3) (fun j hj=>(q4 j hj).trans (hx j hj)) (by omega)
  ·rintro _ S' v b ⟨hS,hx,hlt⟩ hv N;simp at hv;simp[hv];rw[List.take_length] at hS;exact hj3 S' hS hx hlt
open Go.Proofs
def EB:Option Str→List Item→List Item
 |_,[]=>[]
 |p,x::l=>if p=some x.name then EB (some x.name) l else x::EB (some x.name) l
def OG(l:List Item)(i:Nat):Option Str:=if i=0 then none else (l[i - 1]?).map (·.name)
theorem Q7:∀(p:Option Str) (l:List Item),(EB p l).length≤l.length
 |_,[]=>by simp[EB]
 |p,x::l=>by
  have:=Q7 (some x.name) l;simp only[EB];split<;>simp<;>omega
theorem ZT{w0:World}{S:St}{l:List Item}{r:Rt}(hl:l.length≤100000000){Q:AV→St→Prop}
  (hq:∀r,(r= .nil∧l=[]∨r= .none)→Q (.vs 2 ((EB none l).map Item.c) r) S):AC w0 M1 [.vs 2 (l.map Item.c) r] S Q:=by
 apply XV;unfold Rh;simp;rw[AO];refine BN l (fun i (s:List Item×Rt)=>([.vs 2 (s.1.map Item.c) s.2,.int .i64 i],[])) (fun i s S'=>S'=S∧s.1++EB (OG l i) (l.drop i)=EB none l∧s.1.length≤i∧(s.2= .nil∧i=0∨∃t,s.2= .own t)) ([],.nil) (by simp) ⟨rfl,by simp[OG],by simp,.inl ⟨rfl,rfl⟩⟩ ?_ ?_
 ·rintro i ⟨out,r1⟩ S' v b x c hxi hd hc hm ⟨rfl,ho,hol,hr⟩ hv;simp at hv ho hol hr;have hr1:r1≠ .none∧(r1= .nil∨True):=by rcases hr with ⟨rfl,_⟩|⟨t,rfl⟩<;>simp
  have hlim:out.length+1≤lim:=by unfold lim;omega
  have hpn:OG l (i+1)=some x.name:=by simp[OG,hxi]
  simp[hv,hc,hxi];refine DX (fun j=>∀(o2:List Item) (t:Nat),o2++EB (some x.name) (l.drop (i+1))=EB none l→o2.length≤i+1→j (.vs 2 (o2.map Item.c) (.own t))) (fun o2 t h1 h2=>?_) (fun j hj=>?_)
  ·try simp (disch:=omega) only[wrap64]
   exact .next c (o2,.own t) rfl ⟨rfl,by rw[hpn];exact h1,h2,.inr ⟨t,rfl⟩⟩
  have app:EB (OG l i) (l.drop i)=x::EB (some x.name) (l.drop (i+1))→j (.vs 2 (out.map Item.c++[[.str x.name,.int .i64 x.row]]) (.own (C4 BU r1))):=fun e=>by
   rw[e] at ho;have:=hj (out++[x]) (C4 BU r1) (by simpa using ho) (by simp;omega)
   simpa using this
  cases i with
  |zero=>
   simp[AO,Aj,BO,hr1.1,hlim];refine app ?_;rw[hd];simp[OG,EB]
  |succ i=>
   obtain⟨y,hyi⟩:∃y,l[i]? =some y:=⟨l[i]'(by omega),by simp⟩
   have e0:¬((i:Int)+1=0):=by omega
   have hp:OG l (i+1)=some y.name:=by simp[OG,hyi]
   simp[e0,hyi]
   try simp (disch:=omega) only[wrap64]
   simp[hyi]
   by_cases cn:y.name=x.name
   ·rcases hr with ⟨_,h⟩|⟨t,rfl⟩
    ·omega
    simp[cn];refine hj out t ?_ (by omega)
    rw[hd,hp] at ho;simpa[EB,cn] using ho
   ·simp[cn,Aj,BO,hr1.1,hlim];refine app ?_;rw[hd,hp];simp[EB,cn]
 ·rintro⟨out,r1⟩ S' v b ⟨rfl,ho,hol,hr⟩ hv N;simp at hv ho hr;simp[hv];simp[EB] at ho;rw[←ho] at hq;refine hq _ ?_;rcases hr with ⟨rfl,h⟩|⟨t,rfl⟩
  ·exact .inl ⟨rfl,h⟩
  ·exact .inr rfl
theorem fm{rs:List Ss}{j:Nat}{x:Ss}{s:Str}{t:List Str}(h:rs[j]? =some x)(hx:x.l=s::t):ES (LK rs j)+1=ES rs:=by
 have hj:=(List.getElem?_eq_some_iff.1 h).1;simp only[LK,h,hx,List.tail_cons];have e1:rs=rs.take j++x::rs.drop (j+1):=by
  conv=>lhs;rw[←List.take_append_drop j rs,List.drop_eq_getElem_cons hj,(List.getElem?_eq_some_iff.1 h).2]
 have e2:rs.set j ⟨t,x.r⟩=rs.take j++⟨t,x.r⟩::rs.drop (j+1):=by
  conv=>lhs;rw[e1]
  rw[List.set_append_right _ _ (by simp;omega)]
  simp only[List.length_take,Nat.min_eq_left (Nat.le_of_lt hj),Nat.sub_self,List.set_cons_zero]
 rw[e2]
 conv=>rhs;rw[e1]
 simp[ES,hx];omega
@[simp] def wNt(k:Nat):List AV:=[.int .i64 k]
def mO(a b:Item):Prop:=slt a.name b.name=true∨(a.name=b.name∧a.row < b.row)
abbrev Sorted(l:List Str):Prop:=l.Pairwise fun a b=>slt a b=true
theorem L5:∀{a b:List Str},Sorted a→Sorted b→(∀s,s∈a↔s∈b)→a=b
 |[],[],_,_,_=>rfl
 |[],y::b,_,_,h=>by have:=(h y).2 (by simp);simp at this
 |x::a,[],_,_,h=>by have:=(h x).1 (by simp);simp at this
 |x::a,y::b,ha,hb,h=>by
  have ha':=List.pairwise_cons.1 ha;have hb':=List.pairwise_cons.1 hb;have hxy:x=y:=by
   rcases List.mem_cons.1 ((h x).1 (by simp)) with e|e
   ·exact e
   ·rcases List.mem_cons.1 ((h y).2 (by simp)) with e2|e2
    ·exact e2.symm
    ·have h1:=hb'.1 x e;have h2:=ha'.1 y e2;have:=Fd h1 h2;rw[DH] at this;cases this
  subst hxy;rw[L5 ha'.2 hb'.2 fun s=>?_]
  constructor
  ·intro hs;rcases List.mem_cons.1 ((h s).1 (by simp[hs])) with e|e
   ·subst e;have:=ha'.1 s hs;rw[DH] at this;cases this
   ·exact e
  ·intro hs;rcases List.mem_cons.1 ((h s).2 (by simp[hs])) with e|e
   ·subst e;have:=hb'.1 s hs;rw[DH] at this;cases this
   ·exact e
theorem TR{rs:List Ss}{j i:Nat}{x:Ss}(h:(LK rs j)[i]? =some x):∃y,rs[i]? =some y∧x=if i=j then ⟨y.l.tail,y.r⟩ else y:=by
 unfold LK at h;cases hj:rs[j]? with
 |none=>
  rw[hj] at h;have:i≠j:=fun e=>by rw[e,hj] at h;cases h
  exact⟨x,h,by simp[this]⟩
 |some r=>
  rw[hj] at h;simp only at h;rw[List.getElem?_set] at h;split at h
  ·rename_i e;subst e;split at h
   ·cases h;exact⟨r,hj,by simp⟩
   ·cases h
  ·rename_i e;exact⟨x,h,by simp[Ne.symm e]⟩
theorem Wm{rs:List Ss}{j i:Nat}{y:Ss}(h:rs[i]? =some y):(LK rs j)[i]? =some (if i=j then ⟨y.l.tail,y.r⟩ else y):=by
 unfold LK
 by_cases e:i=j
 ·subst e;rw[h];simp[(List.getElem?_eq_some_iff.1 h).1]
 ·cases hj:rs[j]? with
  |none=>simp[e,h]
  |some r=>simp[e,h,Ne.symm e]
theorem OL:∀(f:Nat) (rs:List Ss),(∀x∈rs,Sorted x.l)→ES rs≤f→
  (∀it:Item,it∈FV f rs↔∃(i:Nat) (x:Ss),rs[i]? =some x∧it.row=i∧it.name∈x.l)∧(FV f rs).Pairwise mO
 |0,rs,hg,hf=>by
  simp only[FV,List.not_mem_nil,false_iff];refine⟨fun it=>?_,.nil⟩
  rintro⟨i,x,h1,h2,h3⟩;have h4:=YP h1;have h5:=ez rs (i+1);have:=List.length_pos_of_mem h3;omega
 |f+1,rs,hg,hf=>by
  obtain⟨b1,b2⟩:=Km rs 0 none (fun _ _ e=>by cases e)
  cases hb:JP 0 none rs with
  |none=>
   simp only[FV,hb,List.not_mem_nil,false_iff];refine⟨fun it=>?_,.nil⟩
   rintro⟨i,x,h1,h2,h3⟩;rw[(b1 hb).2 x (List.mem_of_getElem? h1)] at h3;simp at h3
  |some p=>
   obtain⟨j,t⟩:=p;obtain⟨c1,_,c3⟩:=b2 j t hb;rcases c1 with c1|⟨k',r,tl,f1,f2,f3⟩
   ·cases c1
   have f3:j=k':=by omega
   subst f3;have hgr:=hg r (List.mem_of_getElem? f1);rw[f2] at hgr;have hgr':=List.pairwise_cons.1 hgr;have hg2:∀x∈LK rs j,Sorted x.l:=fun x hx=>by
    obtain⟨i,hi⟩:=List.mem_iff_getElem?.1 hx;obtain⟨y,h1,h2⟩:=TR hi;have hy:=hg y (List.mem_of_getElem? h1);rw[h2];split
    ·cases hl:y.l with
     |nil=>exact .nil
     |cons s tt=>rw[hl] at hy;exact(List.pairwise_cons.1 hy).2
    ·exact hy
   obtain⟨i1,i2⟩:=OL f (LK rs j) hg2 (by have:=fm f1 f2;omega)
   simp only[FV,hb];constructor
   ·intro it;rw[List.mem_cons,i1];constructor
    ·rintro (rfl|⟨i,x,h1,h2,h3⟩)
     ·exact⟨j,r,f1,rfl,by rw[f2];simp⟩
     ·obtain⟨y,h4,h5⟩:=TR h1;refine⟨i,y,h4,h2,?_⟩;rw[h5] at h3;split at h3
      ·exact List.mem_of_mem_tail h3
      ·exact h3
    ·rintro⟨i,x,h1,h2,h3⟩
     by_cases e:i=j
     ·subst e;rw[f1] at h1;cases h1;rw[f2] at h3;rcases List.mem_cons.1 h3 with h3|h3
      ·left;cases it;simp at h2 h3 ⊢;exact⟨h3,h2⟩
      ·exact .inr ⟨i,⟨r.l.tail,r.r⟩,by rw[Wm f1];simp,h2,by rw[f2];exact h3⟩
     ·exact .inr ⟨i,x,by rw[Wm h1];simp[e],h2,h3⟩
   ·refine List.pairwise_cons.2 ⟨fun it hit=>?_,i2⟩
    obtain⟨i,x,h1,h2,h3⟩:=(i1 it).1 hit;obtain⟨y,h4,h5⟩:=TR h1;unfold mO
    by_cases e:i=j
    ·subst e;rw[f1] at h4;cases h4;rw[h5] at h3;simp only[if_true,f2,List.tail_cons] at h3;exact .inl (hgr'.1 _ h3)
    ·rw[if_neg e] at h5;subst h5;cases hl:x.l with
     |nil=>rw[hl] at h3;simp at h3
     |cons s tt=>
      obtain⟨d1,d2⟩:=c3 i x s tt h4 hl;have hy:=hg x (List.mem_of_getElem? h4);rw[hl] at hy h3;have hy':=(List.pairwise_cons.1 hy).1;rcases Mz t s with q|q|q
      ·rcases List.mem_cons.1 h3 with h3|h3
       ·left;rw[h3];exact q
       ·left;exact Fd q (hy' _ h3)
      ·rcases List.mem_cons.1 h3 with h3|h3
       ·right;refine⟨by rw[h3];exact q,?_⟩
        have:=d2 q.symm;simp only[h2];omega
       ·left;rw[q];exact hy' _ h3
      ·rw[d1] at q;cases q
theorem OT:∀(l:List Item) (p:Option Str),l.Pairwise mO→(∀n,p=some n→∀it∈l,slt n it.name=true∨n=it.name)→
  Sorted ((EB p l).map (·.name))∧(∀it∈EB p l,it∈l∧(∀n,p=some n→slt n it.name=true)∧∀it'∈l,it'.name=it.name→it.row≤it'.row)∧
  ∀it∈l,p=some it.name∨∃it'∈EB p l,it'.name=it.name
 |[],_,_,_=>by simp[EB]
 |x::l,p,hp,hn=>by
  have hp':=List.pairwise_cons.1 hp;have hx:∀it∈l,slt x.name it.name=true∨x.name=it.name:=fun it hit=>(hp'.1 it hit).imp _root_.id (·.1)
  obtain⟨h1,h2,h3⟩:=OT l (some x.name) hp'.2 (fun n e it hit=>by cases e;exact hx it hit)
  simp only[EB];have hle:∀it'∈l,it'.name=x.name→x.row≤it'.row:=fun it' hit e=>by
   rcases hp'.1 it' hit with h|h
   ·rw[e,DH] at h;cases h
   ·omega
  by_cases e:p=some x.name
  ·rw[if_pos e];refine⟨h1,fun it hit=>?_,fun it hit=>?_⟩
   ·obtain⟨k1,k2,k3⟩:=h2 it hit;refine⟨by simp[k1],fun n hn=>by rw[e] at hn;cases hn;exact k2 _ rfl,fun it' hit' en=>?_⟩
    rcases List.mem_cons.1 hit' with rfl|hit'
    ·have:=k2 _ rfl;rw[en,DH] at this;cases this
    ·exact k3 it' hit' en
   ·rcases List.mem_cons.1 hit with rfl|hit
    ·exact .inl e
    ·rcases h3 it hit with h|h
     ·exact .inl (e.trans h)
     ·exact .inr h
  ·rw[if_neg e];have hxp:∀n,p=some n→slt n x.name=true:=fun n en=>(hn n en x (by simp)).resolve_right fun h=>e (by rw[en,h])
   refine⟨?_,fun it hit=>?_,fun it hit=>?_⟩
   ·simp only[List.map_cons];refine List.pairwise_cons.2 ⟨fun s hs=>?_,h1⟩
    obtain⟨it,hit,rfl⟩:=List.mem_map.1 hs;exact(h2 it hit).2.1 _ rfl
   ·rcases List.mem_cons.1 hit with rfl|hit
    ·refine⟨by simp,hxp,fun it' hit' en=>?_⟩
     rcases List.mem_cons.1 hit' with rfl|hit'
     ·omega
     ·exact hle it' hit' en
    ·obtain⟨k1,k2,k3⟩:=h2 it hit;refine⟨by simp[k1],fun n en=>Fd (hxp n en) (k2 _ rfl),fun it' hit' en=>?_⟩
     rcases List.mem_cons.1 hit' with rfl|hit'
     ·have:=k2 _ rfl;rw[en,DH] at this;cases this
     ·exact k3 it' hit' en
   ·rcases List.mem_cons.1 hit with rfl|hit
    ·exact .inr ⟨_,by simp,rfl⟩
    ·rcases h3 it hit with h|⟨it',h,h'⟩
     ·exact .inr ⟨x,by simp,Option.some.inj h⟩
     ·exact .inr ⟨it',by simp[h],h'⟩
def HP(rs:List Ss):List Str:=(EB none (FV (ES rs) rs)).map (·.name)
theorem NR{rs:List Ss}(h:∀x∈rs,Sorted x.l):Sorted (HP rs)∧∀s,s∈HP rs↔∃x∈rs,s∈x.l:=by
 obtain⟨h1,h2⟩:=OL (ES rs) rs h (Nat.le_refl _);obtain⟨h3,h4,h5⟩:=OT _ none h2 (fun _ e=>by cases e)
 refine⟨h3,fun s=>?_⟩
 simp only[HP,List.mem_map];constructor
 ·rintro⟨it,h6,rfl⟩;obtain⟨i,x,k1,k2,k3⟩:=(h1 it).1 (h4 it h6).1;exact⟨x,List.mem_of_getElem? k1,k3⟩
 ·rintro⟨x,hx,hs⟩;obtain⟨i,hi⟩:=List.mem_iff_getElem?.1 hx;rcases h5 ⟨s,i⟩ ((h1 _).2 ⟨i,x,hi,rfl,hs⟩) with e|⟨it',h,h'⟩
  ·cases e
  ·exact⟨it',h,h'⟩
end Go.Av
