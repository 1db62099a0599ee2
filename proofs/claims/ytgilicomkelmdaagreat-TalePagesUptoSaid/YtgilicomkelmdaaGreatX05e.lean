/- Parts of the proofs of this seat: abstract values over the model, and what the functions of the program do. No condition. -/
import Derived.Test.YtgilicomkelmdaaGreatY05d
import Derived.Test.YtgilicomkelmdaaGreatY01
set_option linter.all false
namespace Go.Av
open Go.Proofs
theorem Tg{w0:World}(hm:LI w0){S:St}{s:Str}(hs:s.length≤1048575){Q:AV→St→Prop}
  (hq:∀S',Sx S S'→(∀n,LL s=some n→n.ok→Q (.tup [.agg n.c,.int .i64 0]) S')∧(LL s=none→Q (.tup [.agg Node.none.c,.int .i64 1]) S')):AC w0 I4 [.str s] S Q:=by
 apply Rv;unfold L6;have hn0:LL s=none→Q (.tup [.agg [.int .i64 0,.bool false,.vs 1 [] .nil,.vs 7 [] .nil,.int .i64 0,.vs 2 [] .nil,.str []],.int .i64 1]) S:=fun h=>by
  have:=(hq S (Sx.refl _)).2 h
  rwa [Node.none_c] at this
 by_cases c1:s.length < 7
 ·have:LL s=none:=by simp[LL,c1]
  simp[AF,show ¬(4194304 < (s.length:Int)) by omega,show (s.length:Int) < 7 by omega]
  exact hn0 this
 by_cases c2:s.take 7=[115,111,99,97,103,101,49]
 case neg=>
  have:LL s=none:=by simp[LL,c2]
  simp[AF,show ¬(4194304 < (s.length:Int)) by omega,show ¬(s.length:Int) < 7 by omega,show 7≤s.length by omega,c2]
  exact hn0 this
 simp[AF,show ¬(4194304 < (s.length:Int)) by omega,show ¬(s.length:Int) < 7 by omega,show 7≤s.length by omega,c2]
 apply XI;unfold Qx;simp;have hR:RdO (S++[Obj.cells [.str (s.drop 7)] Cr,Obj.cells [.ptr S.length 0,.bool false,.int .i64 4096] BK]) (S.length+1) S.length ⟨s.drop 7,false,4096⟩:=⟨by simp,by simp[rdC]⟩
 have hl:(s.drop 7).length≤1048568:=by simp;omega
 have hI:=RS.node_ok 16 ⟨s.drop 7,false,4096⟩ hl (by simp)
 refine WI 16 (b:=S.length) (d:=0) (by omega) (by simp) hR (by omega) (by omega) hl (by simp) (by simp) (fun S2 hR2 hK2=>?_)
 have hd:LL s=if (RS.node 16 ⟨s.drop 7,false,4096⟩).2.bad=false∧(RS.node 16 ⟨s.drop 7,false,4096⟩).2.s=[]∧DR (RS.node 16 ⟨s.drop 7,false,4096⟩).1=true then some (RS.node 16 ⟨s.drop 7,false,4096⟩).1 else none:=by
  rw[LL,if_neg (by simp[c1,c2];omega)]
 generalize RS.node 16 ⟨s.drop 7,false,4096⟩=r at hR2 hd hI ⊢;have hSx:Sx S S2:=fun j hj=>by
  rw[hK2 j hj,List.getElem?_append_left hj]
 have hno:∀S3,Sx S S3→LL s=none→Q (.tup [.agg [.int .i64 0,.bool false,.vs 1 [] .nil,.vs 7 [] .nil,.int .i64 0,.vs 2 [] .nil,.str []],.int .i64 1]) S3:=fun S3 h3 h=>by
  have:=(hq S3 h3).2 h
  rwa [Node.none_c] at this
 simp[AO hR2.1];cases hb:r.2.bad with
 |true=>
  simp;exact hno S2 hSx (by rw[hd,hb];simp)
 |false=>
  simp;have hR3:S2[S.length]? =some (.cells [.str r.2.s] Cr):=hR2.2;apply M1;unfold JA;simp[AO hR3]
  by_cases c3:r.2.s=[]
  case neg=>
   have:=List.length_pos_iff.2 c3;simp[show (0:Int) < r.2.s.length by omega,this]
   exact hno S2 hSx (by rw[hd];simp[c3])
  simp[c3];refine PM hm hI.ok (fun S3 hS3=>?_)
  cases hr:DR r.1 with
  |false=>
   simp;exact hno S3 (hSx.trans hS3) (by rw[hd];simp[hr])
  |true=>
   simp;exact(hq S3 (hSx.trans hS3)).1 r.1 (by rw[hd,hb];simp[hr,c3]) hI.ok
theorem VK:∀{l:List Node} {k:Nat} {x:Node} (b:Nat),l[k]? =some x→(Node.idsOf l b)[k]? =some (b+Node.counts (l.take k))
 |[],k,x,b,h=>by simp at h
 |y::l,0,x,b,h=>by simp[Node.idsOf,Node.counts]
 |y::l,k+1,x,b,h=>by
  simp at h;have:=VK (b+y.count) h;simp only[Node.idsOf,List.getElem?_cons_succ,List.take_succ_cons,Node.counts,this];rw[Nat.add_assoc]
theorem VN(P:List Bk)(i:Nat):BQ P (i:Int)=(P[i]?).getD Bk.none:=by
 have:¬((i:Int) < 0):=by omega
 simp[BQ,this]
theorem dy(n:Node):BQ (n.tab 0) 0=n.hd 0:=by
 have:=VN (n.tab 0) 0;rw[Node.tab_eq] at this ⊢;simpa using this
structure Less(f g:Fnd):Prop where
 kind:f.kind=g.kind
 dirs:f.dirs.length=g.dirs.length
 sp:f.kind≠0→f.sp=(g.sp.1+1,g.sp.2)
theorem VO:∀(l:List Node) (k:Nat),(∀n∈l,DR n=true)→l.length+k≤64→Vd l k=0
 |[],_,_,_=>rfl
 |n::l,k,h,hk=>by
  rw[Vd,if_neg (by rw[h n (by simp)];simp),if_neg (by simp at hk;omega),VO l (k+1) (fun x hx=>h x (by simp[hx])) (by simp at hk;omega)]
def At(P:List Bk)(i:Nat)(n:Node):Prop:=∀j,j < n.count→P[i+j]? =(n.tab i)[j]?
theorem Yt:∀{l:List Node} {k:Nat} {x:Node} (b:Nat),l[k]? =some x→∀j,j < x.count→(Node.tabs l b)[Node.counts (l.take k)+j]? =(x.tab (b+Node.counts (l.take k)))[j]?
 |[],k,x,b,h,_,_=>by simp at h
 |y::l,0,x,b,h,j,hj=>by
  simp at h;subst h;rw[Node.tabs_cons];simp only[List.take_zero,Node.counts,Nat.zero_add,Nat.add_zero];rw[List.getElem?_append_left (by rw[Node.tab_len];exact hj)]
 |y::l,k+1,x,b,h,j,hj=>by
  simp at h;have:=Yt (b+y.count) h j hj;rw[Node.tabs_cons,List.take_succ_cons,Node.counts,List.getElem?_append_right (by rw[Node.tab_len];omega),Node.tab_len,show y.count+Node.counts (l.take k)+j - y.count=Node.counts (l.take k)+j by omega,this,Nat.add_assoc]
theorem At.hd{P:List Bk}{i:Nat}{n:Node}(h:At P i n):P[i]? =some (n.hd i):=by
 have:=h 0 (by rw[Node.count_eq];omega)
 rw[Node.tab_eq] at this;simpa using this
theorem At.ino{P:List Bk}{i:Nat}{n:Node}(h:At P i n):BQ P (i:Nat)=n.hd i:=by rw[VN,h.hd];rfl
theorem At.root(n:Node):At (n.tab 0) 0 n:=fun j _=>by rw[Nat.zero_add]
theorem At.kid{P:List Bk}{i:Nat}{n:Node}(h:At P i n){k:Nat}{x:Node}(hk:n.items[k]? =some x):At P (i+1+Node.counts (n.items.take k)) x:=fun j hj=>by
 have h1:=Yt (i+1) hk j hj;have h2:Node.counts (n.items.take k)+x.count≤Node.counts n.items:=by
  have:∀(l:List Node) (k:Nat),l[k]? =some x→Node.counts (l.take k)+x.count≤Node.counts l:=by
   intro l
   induction l with
   |nil=>intro k h;simp at h
   |cons y l ih=>
    intro k h;cases k with
    |zero=>simp at h;subst h;simp[Node.counts]
    |succ k=>simp at h;have:=ih k h;simp only[List.take_succ_cons,Node.counts];omega
  exact this _ _ hk
 have h3:=h (1+(Node.counts (n.items.take k)+j)) (by rw[Node.count_eq];omega)
 rw[Node.tab_eq,Nat.add_comm 1,List.getElem?_cons_succ,h1] at h3;rw[←h3];congr 1;omega
theorem KV{n:Node}(h:n.allB=true):n.names.l.length=n.items.length:=by
 rw[Node.all_eq] at h;simp only[Bool.and_eq_true] at h;obtain⟨hz,hk⟩:=Ic h.2
 by_cases k:n.kind=2
 ·have hn:HZ n=true:=by simpa[Gd,k] using hk
  exact(Nq hn).2
 ·have hi:=L1 hz k;have hnm:n.names.l=[]:=by simp[E4,k] at hz;exact hz.1.1.1.2
  rw[hi,hnm];rfl
theorem VP{n x:Node}(h:n.allB=true)(hx:x∈n.items):x.allB=true:=by
 rw[Node.all_eq] at h;simp only[Bool.and_eq_true] at h;exact Ti h.1 x hx
theorem bq{n:Node}(h:n.allB=true):n.kind=1∨n.kind=2∨n.kind=3∨n.kind=4:=by
 rw[Node.all_eq] at h;simp only[Bool.and_eq_true] at h;exact jV h.2
theorem YT{n x:Node}{s:Str}(h:n.find s=some x):x∈n.items:=by
 unfold Node.find at h;cases hk:n.names.l.findIdx? (fun x=>decide (x=s)) with
 |none=>rw[hk] at h;cases h
 |some k=>rw[hk] at h;exact List.mem_of_getElem? h
theorem At.look{P:List Bk}{i:Nat}{n:Node}(h:At P i n)(ha:n.allB=true)(s:Str):
  match n.find s with
  |none=>TE (BQ P (i:Nat)) s=none
  |some x=>∃j,TE (BQ P (i:Nat)) s=some j∧At P j x:=by
 rw[h.ino];unfold Node.find TE;have hl:=KV ha;simp only[Node.hd];cases hk:n.names.l.findIdx? (fun x=>decide (x=s)) with
 |none=>rfl
 |some k=>
  have hlt:=(List.findIdx?_eq_some_iff_getElem.1 hk).1;have hx:n.items[k]? =some n.items[k]:=List.getElem?_eq_getElem (by omega)
  simp only[Option.bind_some,hx];exact⟨_,VK _ hx,h.kid hx⟩
def Stands(L:List (List Bk))(x:Spot)(n:Node):Prop:=∃P,L[x.1]? =some P∧At P x.2 n
def OnP(L:List (List Bk)):List Spot→List Node→Prop
 |[],[]=>True
 |x::p,n::l=>Stands L x n∧OnP L p l
 |_,_=>False
def Eh:List Node→List Node
 |[]=>[]
 |n::l=>n::if n.opq=true then [] else Eh l
def Cz(dirs:List Node)(s:Str):List Node:=dirs.filterMap (·.find s)
def EB(dirs:List Node)(s:Str):List Node:=
 match Cz dirs s with
 |[]=>[]
 |x::l=>if x.kind=4 then [] else if x.kind≠2 then [x] else Eh ((x::l).takeWhile fun n=>decide (n.kind=2))
def TP:List Node→Str→Nat
 |[],_=>0
 |n::l,s=>match n.find s with|some _=>0|none=>TP l s+1
theorem Ly(L:List (List Bk))(s:Str):∀(p:List Spot) (dirs:List Node) (f:Fnd),OnP L p dirs→(∀n∈dirs,n.allB=true)→f.kind=2→
  ∃q,DN L s p f=⟨2,f.sp,f.dirs++q⟩∧OnP L q (Eh ((Cz dirs s).takeWhile fun n=>decide (n.kind=2)))∧(q.map (·.1)).Sublist (p.map (·.1))
 |[],[],f,_,_,hf=>⟨[],by rw[DN];simp[←hf],trivial,List.Sublist.refl _⟩
 |x::p,n::l,f,h,ha,hf=>by
  obtain⟨⟨P,hP,hat⟩,h2⟩:=h;have hrec:=fun f hf=>Ly L s p l f h2 (fun y hy=>ha y (by simp[hy])) hf
  have hlook:=hat.look (ha n (by simp)) s
  rw[DN,hP];simp only;cases hk:n.find s with
  |none=>
   rw[hk] at hlook;simp only at hlook;rw[hlook];simp only;obtain⟨q,q1,q2,q3⟩:=hrec f hf;refine⟨q,q1,?_,q3.cons _⟩;simp only[Cz,List.filterMap_cons,hk];exact q2
  |some y=>
   rw[hk] at hlook;obtain⟨j,hj,hy⟩:=hlook;rw[hj];simp only;have hino:=hy.ino;have hkd:(BQ P (j:Nat)).kind=y.kind:=by rw[hino];rfl
   have hop:(BQ P (j:Nat)).opq=y.opq:=by rw[hino];rfl
   simp only[Cz,List.filterMap_cons,hk]
   by_cases k2:y.kind=2
   ·have f0:¬f.kind=0:=by omega
    rw[if_neg (c:=(BQ P (j:Nat)).kind≠2) (by rw[hkd];simp[k2]),hop,List.takeWhile_cons_of_pos (by simp[k2]),Eh]
    simp only[if_neg f0];cases ho:y.opq with
    |true=>
     simp only[if_true];exact⟨[(x.1,j)],by rw[hf],⟨⟨P,hP,hy⟩,trivial⟩,by simp⟩
    |false=>
     simp only[if_false,Bool.false_eq_true];obtain⟨q,q1,q2,q3⟩:=hrec ⟨f.kind,f.sp,f.dirs++[(x.1,j)]⟩ hf;refine⟨(x.1,j)::q,by rw[q1];simp,⟨⟨P,hP,hy⟩,q2⟩,?_⟩
     simp only[List.map_cons];exact q3.cons₂ _
   ·rw[if_pos (by rw[hkd];exact k2),if_neg (by omega),List.takeWhile_cons_of_neg (by simp[k2])]
    exact⟨[],by simp[←hf],trivial,List.nil_sublist _⟩
 |[],_::_,_,h,_,_=>h.elim
 |_::_,[],_,h,_,_=>h.elim
def Agrees(L:List (List Bk))(p:List Spot)(dirs:List Node)(s:Str)(g:Fnd):List Node→Prop
 |[]=>g=Fnd.none
 |x::l=>g.kind=x.kind∧x.kind≠0∧x.kind≠4∧Stands L g.sp x∧x.allB=true∧(if x.kind=2 then OnP L g.dirs (x::l)∧g.dirs[0]? =some g.sp else g.dirs=[]∧l=[])∧(p[TP dirs s]?).map (·.1)=some g.sp.1∧(g.dirs.map (·.1)).Sublist (p.map (·.1))
theorem Jd(L:List (List Bk))(s:Str):∀(p:List Spot) (dirs:List Node),OnP L p dirs→(∀n∈dirs,n.allB=true)→Agrees L p dirs s (DN L s p Fnd.none) (EB dirs s)
 |[],[],_,_=>by simp[EB,Cz,DN,Agrees]
 |x::p,n::l,h,ha=>by
  obtain⟨⟨P,hP,hat⟩,h2⟩:=h;have hal:∀y∈l,y.allB=true:=fun y hy=>ha y (by simp[hy])
  have hrec:=Jd L s p l h2 hal;have hlook:=hat.look (ha n (by simp)) s
  rw[DN,hP];simp only;cases hk:n.find s with
  |none=>
   rw[hk] at hlook;simp only at hlook;rw[hlook];simp only;have e1:EB (n::l) s=EB l s:=by simp only[EB,Cz,List.filterMap_cons,hk]
   rw[e1];cases hs:EB l s with
   |nil=>rw[hs] at hrec;exact hrec
   |cons y t=>
    rw[hs] at hrec;obtain⟨r1,r2,r3,r4,r5,r6,r7,r8⟩:=hrec;refine⟨r1,r2,r3,r4,r5,r6,?_,r8.cons _⟩;rw[TP,hk];exact r7
  |some y=>
   rw[hk] at hlook;obtain⟨j,hj,hy⟩:=hlook;rw[hj];simp only;have hya:=VP (ha n (by simp)) (YT hk)
   have hino:=hy.ino;have hkd:(BQ P (j:Nat)).kind=y.kind:=by rw[hino];rfl
   have hop:(BQ P (j:Nat)).opq=y.opq:=by rw[hino];rfl
   have hst:Stands L (x.1,j) y:=⟨P,hP,hy⟩;have hn0:y.kind≠0:=by rcases bq hya with h|h|h|h<;>omega
   have hlev:TP (n::l) s=0:=by rw[TP,hk]
   simp only[EB,Cz,List.filterMap_cons,hk]
   by_cases k4:y.kind=4
   ·rw[if_pos (by rw[hkd];omega),if_neg (by rw[hkd];simp[k4]),if_pos k4]
    rfl
   rw[if_neg k4]
   by_cases k2:y.kind=2
   ·rw[if_neg (c:=(BQ P (j:Nat)).kind≠2) (by rw[hkd];simp[k2]),if_neg (c:=y.kind≠2) (by simp[k2]),List.takeWhile_cons_of_pos (by simp[k2]),Eh,hop,hkd]
    simp only[Fnd.none,if_true,List.nil_append];cases ho:y.opq with
    |true=>
     simp only[if_true];exact⟨rfl,hn0,k4,hst,hya,by rw[if_pos k2];exact⟨⟨hst,trivial⟩,rfl⟩,by rw[hlev];rfl,by simp⟩
    |false=>
     simp only[if_false,Bool.false_eq_true];obtain⟨q,q1,q2,q3⟩:=Ly L s p l ⟨y.kind,(x.1,j),[(x.1,j)]⟩ h2 hal k2;rw[q1];refine⟨k2.symm,hn0,k4,hst,hya,by rw[if_pos k2];exact⟨⟨hst,q2⟩,rfl⟩,by rw[hlev];rfl,?_⟩
     simp only[List.singleton_append,List.map_cons];exact q3.cons₂ _
   ·rw[if_pos (by rw[hkd];exact k2),if_pos ⟨rfl,by rw[hkd];exact k4⟩,if_pos k2]
    exact⟨hkd,hn0,k4,hst,hya,by rw[if_neg k2];exact⟨rfl,rfl⟩,by rw[hlev];rfl,List.nil_sublist _⟩
 |[],_::_,h,_=>h.elim
 |_::_,[],h,_=>h.elim
theorem WM(l:List Node)(s:Str):(Cz l s).length≤l.length:=List.length_filterMap_le _ _
theorem bL(l:List Node)(s:Str):(EB l s).length≤l.length:=by
 have h0:=WM l s;have hd:∀l:List Node,(Eh l).length≤l.length:=by
  intro l
  induction l with
  |nil=>simp[Eh]
  |cons x l ih=>rw[Eh];split<;>simp;omega
 unfold EB;cases he:Cz l s with
 |nil=>simp
 |cons x r=>
  rw[he] at h0;simp only;split
  ·simp
  ·split
   ·simp at h0 ⊢;omega
   ·exact Nat.le_trans (hd _) (Nat.le_trans (List.takeWhile_sublist _).length_le h0)
theorem Ie:∀{l:List Node} {x:Node},x∈Eh l→x∈l
 |n::l,x,h=>by
  rw[Eh] at h;rcases List.mem_cons.1 h with rfl|h
  ·simp
  ·split at h
   ·cases h
   ·exact List.mem_cons_of_mem _ (Ie h)
theorem cB{l:List Node}{s:Str}{x:Node}(h:x∈EB l s):∃n∈l,x∈n.items:=by
 have h2:x∈Cz l s:=by
  unfold EB at h;cases he:Cz l s with
  |nil=>rw[he] at h;cases h
  |cons y r=>
   rw[he] at h;simp only at h;split at h
   ·cases h
   ·split at h
    ·rw[List.mem_singleton] at h;simp[h]
    ·exact(List.takeWhile_sublist _).subset (Ie h)
 obtain⟨n,h3,h4⟩:=List.mem_filterMap.1 h2;exact⟨n,h3,YT h4⟩
theorem Zv{l:List Node}{s:Str}{x y:Node}{r:List Node}(h:EB l s=y::r)(k2:y.kind=2)(hx:x∈EB l s):x.kind=2:=by
 unfold EB at h hx;cases he:Cz l s with
 |nil=>rw[he] at h;cases h
 |cons z t=>
  rw[he] at h hx;simp only at h hx;split at h
  ·cases h
  ·rename_i c4;rw[if_neg c4] at hx;split at h
   ·rename_i c2;rw[if_pos c2] at hx;rw[List.mem_singleton] at hx;subst hx;cases h;exact k2
   ·rename_i c2;rw[if_neg c2] at hx;have h1:=Ie hx;have:∀(q:List Node),x∈q.takeWhile (fun n=>decide (n.kind=2))→x.kind=2:=by
     intro q
     induction q with
     |nil=>intro h;simp at h
     |cons a q ih=>
      intro h;rw[List.takeWhile_cons] at h;split at h
      ·rename_i ha;rcases List.mem_cons.1 h with rfl|h
       ·simpa using ha
       ·exact ih h
      ·cases h
    exact this _ h1
theorem Zu{n x:Node}(h:x∈n.items):x.depth < n.depth:=by
 have:=(F1 (l:=n.items)).2 x h;rw[Node.depth_eq n];omega
theorem Zk{n x:Node}(h:n.ok)(hx:x∈n.items):x.ok:=((Node.ok_iff n).1 h).2.2.2.1 x hx
abbrev dd:Str:=[46,46]
def Dz(D:List Node)(names:List Str):List Node:=names.foldl EB (Eh D)
theorem FT(D:List Node)(names:List Str)(s:Str):Dz D (names++[s])=EB (Dz D names) s:=by simp[Dz]
structure AtN where
 names:List Str
 nodes:List Node
 err:Int
def partsOf(t:Str):List Str:=(D7 t).getD []
def Fz(D:List Node)(follow:Bool)(next:List Str→List Str→AtN):List Str→List Str→AtN
 |[],names=>⟨names,Dz D names,0⟩
 |part::rest,names=>
  if part=dd then Fz D follow next rest names.dropLast else
  match EB (Dz D names) part with
  |[]=>⟨[],[],2⟩
  |y::l=>
   if y.kind=2 then Fz D follow next rest (names++[part])
   else if y.kind=3∧(rest≠[]∨follow=true) then next (partsOf y.target++rest) (if y.target.head? =some 47 then [] else names)
   else if rest≠[] then ⟨[],[],3⟩ else ⟨names++[part],y::l,0⟩
def Lz(D:List Node)(follow:Bool):Nat→List Str→List Str→AtN
 |0=>Fz D follow fun _ _=>⟨[],[],4⟩
 |h+1=>Fz D follow (Lz D follow h)
def aL(D:List Node)(follow:Bool):Nat→List Str→List Str→AtN
 |0=>fun _ _=>⟨[],[],4⟩
 |h+1=>Lz D follow h
theorem If(D:List Node)(follow:Bool)(h:Nat):Lz D follow h=Fz D follow (aL D follow h):=by cases h<;>rfl
def DM(D:List Node)(path:Str)(follow:Bool):AtN:=
 match D7 path with
 |none=>⟨[],[],1⟩
 |some l=>Lz D follow 40 l []
def Zg:List Str→Nat
 |[]=>0
 |s::l=>s.length+Zg l
theorem SF:∀s:List UInt8,Zg (DW s)+(DW s).length=s.length+1
 |[]=>rfl
 |c::l=>by
  have h:=SF l;unfold DW;split
  ·simp only[Zg,List.length_cons,List.length_nil];omega
  ·cases hs:DW l with
   |nil=>exact absurd hs (QN l)
   |cons a t=>
    rw[hs] at h;simp only[Zg,List.length_cons] at h ⊢;omega
theorem Nt:∀{l p:List Str},Gg l=some p→2*p.length≤Zg l+l.length
 |[],p,h=>by simp[Gg] at h;subst h;simp
 |s::l,p,h=>by
  rw[Gg] at h;split at h
  ·have:=Nt h;simp only[Zg,List.length_cons];omega
  ·rename_i c;split at h
   ·rw[Option.map_eq_some_iff] at h;obtain⟨q,hq,rfl⟩:=h;have:=Nt hq;have hs:0 < s.length:=List.length_pos_iff.2 fun e=>c (.inl e)
    simp only[Zg,List.length_cons];omega
   ·cases h
theorem Nj{s:Str}{p:List Str}(h:D7 s=some p):2*p.length≤s.length+1:=by
 unfold D7 at h;split at h
 ·cases h
 ·have:=Nt h;rw[SF] at this;exact this
theorem N0{s:Str}{p:List Str}(h:D7 s=some p):∀x∈p,x=dd∨E1 x=true:=by
 unfold D7 at h;split at h
 ·cases h
 ·exact Ng h
theorem Ol{s:Str}{p:List Str}(h:D7 s=some p):s.length≤1024∧s≠[]:=by
 unfold D7 at h;split at h
 ·cases h
 ·rename_i c;refine⟨by omega,fun e=>c (.inl e)⟩
structure Drx where
 path:Str
 place:List Spot
 r:Rt
structure Wk where
 todo:List Str
 dirs:List Drx
 follow:Bool
 hops:Nat
 fin:Option (Str×Fnd)
def E2:List Str→List Drx→List Str×List Drx
 |[],ds=>([],ds)
 |s::t,ds=>if s=dd then E2 t (if 1 < ds.length then ds.dropLast else ds) else (s::t,ds)
def Wk.pop(w:Wk):Wk:={w with todo:=(E2 w.todo w.dirs).1,dirs:=(E2 w.todo w.dirs).2}
def Wk.ask(w:Wk):Wk:=match w.fin with|none=>w.pop|some _=>w
theorem Np:∀(t:List Str) (ds:List Drx),(E2 t ds).1.head?≠some dd
 |[],ds=>by simp[E2]
 |s::t,ds=>by
  rw[E2];split
  ·exact Np t _
  ·rename_i c;simpa using c
theorem Zl:∀{t:List Str} {ds:List Drx},t.head?≠some dd→E2 t ds=(t,ds)
 |[],ds,_=>rfl
 |s::t,ds,h=>by rw[E2,if_neg (by simpa using h)]
theorem QD:∀(t:List Str) (ds:List Drx),(E2 t ds).1.length≤t.length
 |[],ds=>by simp[E2]
 |s::t,ds=>by
  rw[E2];split
  ·have:=QD t (if 1 < ds.length then ds.dropLast else ds);simp;omega
  ·simp
theorem VY:∀{t:List Str} {ds:List Drx} {s:Str},s∈(E2 t ds).1→s∈t
 |[],ds,s,h=>by simp[E2] at h
 |x::t,ds,s,h=>by
  rw[E2] at h;split at h
  ·exact List.mem_cons_of_mem _ (VY h)
  ·exact h
def D5(L:List (List Bk))(names:List Str):List Spot:=names.foldl (fun p s=>(DN L s p Fnd.none).dirs) (G8 L 0)
theorem Q5(L:List (List Bk))(names:List Str)(s:Str):D5 L (names++[s])=(DN L s (D5 L names) Fnd.none).dirs:=by simp[D5]
structure Yn(L:List (List Bk))(D:List Node)(d:Drx)(names:List Str):Prop where
 path:d.path=pathOf names
 at_:d.place=D5 L names
 on:OnP L d.place (Dz D names)
 good:∀n∈Dz D names,n.ok∧n.allB=true∧n.kind=2∧n.depth+names.length≤15∧n.count≤100000
 few:(Dz D names).length≤64
 ne:names≠[]→Dz D names≠[]
structure IY(L:List (List Bk))(D:List Node)(ds:List Drx)(names:List Str):Prop where
 len:ds.length=names.length+1
 dir:∀k,k≤names.length→∃d,ds[k]? =some d∧Yn L D d (names.take k)
 nm:∀s∈names,E1 s=true
theorem Yn.short{L:List (List Bk)}{D:List Node}{d:Drx}{names:List Str}(h:Yn L D d names):names.length≤15:=by
 by_cases e:names=[]
 ·rw[e];simp
 ·cases hh:Dz D names with
  |nil=>exact absurd hh (h.ne e)
  |cons x l=>
   have:=(h.good x (by rw[hh];simp)).2.2.2.1
   omega
theorem IY.last{L:List (List Bk)}{D:List Node}{ds:List Drx}{names:List Str}(h:IY L D ds names):∃d,ds.getLast? =some d∧ds[names.length]? =some d∧Yn L D d names:=by
 obtain⟨d,h1,h2⟩:=h.dir names.length (Nat.le_refl _);rw[List.take_length] at h2;refine⟨d,?_,h1,h2⟩;rw[List.getLast?_eq_getElem?,h.len];exact h1
theorem IY.drop{L:List (List Bk)}{D:List Node}{ds:List Drx}{names:List Str}(h:IY L D ds names):IY L D (if 1 < ds.length then ds.dropLast else ds) names.dropLast:=by
 have hl:=h.len;split
 ·rename_i c;refine⟨by simp;omega,fun k hk=>?_,fun s hs=>h.nm s (List.dropLast_subset _ hs)⟩
  simp at hk;obtain⟨d,h1,h2⟩:=h.dir k (by omega)
  refine⟨d,?_,?_⟩
  ·rw[List.getElem?_dropLast,if_pos (by omega)];exact h1
  ·rw[List.dropLast_eq_take,List.take_take,Nat.min_eq_left (by omega)];exact h2
 ·rename_i c;have e:names=[]:=List.eq_nil_of_length_eq_zero (by omega)
  subst e;exact h
theorem IY.root{L:List (List Bk)}{D:List Node}{ds:List Drx}{names:List Str}(h:IY L D ds names):IY L D (ds.take 1) []:=by
 have hl:=h.len;refine⟨by simp;omega,fun k hk=>?_,by simp⟩
 simp at hk;subst hk;obtain⟨d,h1,h2⟩:=h.dir 0 (by omega)
 refine⟨d,?_,h2⟩;rw[List.getElem?_take_of_lt (by omega)]
 exact h1
theorem IY.push{L:List (List Bk)}{D:List Node}{ds:List Drx}{names:List Str}{s:Str}{d:Drx}(h:IY L D ds names)(hs:E1 s=true)(hd:Yn L D d (names++[s])):IY L D (ds++[d]) (names++[s]):=by
 have hl:=h.len;refine⟨by simp;omega,fun k hk=>?_,fun x hx=>?_⟩
 ·simp at hk
  by_cases e:k=names.length+1
  ·subst e;refine⟨d,?_,?_⟩
   ·rw[←hl];simp
   ·rw[List.take_of_length_le (by simp)];exact hd
  ·obtain⟨x,h1,h2⟩:=h.dir k (by omega)
   refine⟨x,?_,?_⟩
   ·rw[List.getElem?_append_left (by omega)];exact h1
   ·rw[List.take_append_of_le_length (by omega)];exact h2
 ·rcases List.mem_append.1 hx with hx|hx
  ·exact h.nm x hx
  ·rw[List.mem_singleton] at hx;subst hx;exact hs
theorem U8{L:List (List Bk)}{D:List Node}{follow:Bool}{next:List Str→List Str→AtN}:∀(todo:List Str) {ds:List Drx} {names:List Str},IY L D ds names→
  ∃names',IY L D (E2 todo ds).2 names'∧Fz D follow next todo names=Fz D follow next (E2 todo ds).1 names'
 |[],ds,names,h=>⟨names,h,rfl⟩
 |s::t,ds,names,h=>by
  rw[E2]
  by_cases e:s=dd
  ·rw[if_pos e,Fz,if_pos e];exact U8 t h.drop
  ·rw[if_neg e];exact⟨names,h,rfl⟩
theorem NU{n:Node}(ha:n.allB=true)(k:n.kind=3):∃l,D7 n.target=some l∧n.target.length≤256:=by
 rw[Node.all_eq] at ha;simp only[Bool.and_eq_true] at ha;obtain⟨hz,hk⟩:=Ic ha.2;simp[Gd,k] at hk;obtain⟨h1,h2⟩:=hk;cases h:D7 n.target with
 |none=>rw[h] at h1;cases h1
 |some l=>exact⟨l,rfl,h2⟩
def Zr(p:List Spot):Fnd:=⟨2,(p[0]?).getD (0,0),p⟩
def Ends(L:List (List Bk))(D:List Node)(want:AtN)(t:Fnd):Prop:=
 want.err=0∧∃ds names,IY L D ds names∧((want.names=names∧want.nodes=Dz D names∧t=Zr (D5 L names))∨
  ∃s y l,E1 s=true∧want.names=names++[s]∧EB (Dz D names) s=y::l∧y.kind≠2∧want.nodes=y::l∧t=DN L s (D5 L names) Fnd.none)
theorem Nu{L:List (List Bk)}{D:List Node}{follow:Bool}{next:List Str→List Str→AtN}(rest:List Str):∀(l pre:List Str) {ds:List Drx},IY L D ds (pre++l)→
  Fz D follow next (l++rest) pre=Fz D follow next rest (pre++l)
 |[],pre,ds,h=>by simp
 |s::l,pre,ds,h=>by
  have hn:=h.nm s (by simp)
  obtain⟨d,h1,h2⟩:=h.dir (pre.length+1) (by simp)
  have e1:(pre++s::l).take (pre.length+1)=pre++[s]:=by rw[List.take_append,List.take_of_length_le (by omega)];simp
  rw[e1] at h2;rw[List.cons_append,Fz,if_neg (Hs hn).2.2.1];cases hh:EB (Dz D pre) s with
  |nil=>exact absurd (by rw[FT,hh]) (h2.ne (by simp))
  |cons y t=>
   have k2:y.kind=2:=(h2.good y (by rw[FT,hh];simp)).2.2.1
   simp only[k2,if_true];have:=Nu (follow:=follow) (next:=next) rest l (pre++[s]) (ds:=ds) (by simpa using h)
   rw[this];simp
theorem Ends.own{L:List (List Bk)}{D:List Node}{want:AtN}{t:Fnd}(h:Ends L D want t)(k:Nat):Lz D false k want.names []=want:=by
 obtain⟨he,ds,names,hw,hc⟩:=h;rw[If];rcases hc with ⟨h1,h2,h3⟩|⟨s,y,l,hs,h1,h2,h3,h4,h5⟩
 ·have:=Nu (follow:=false) (next:=aL D false k) [] names [] (ds:=ds) (by simpa using hw)
  rw[List.append_nil,List.nil_append] at this;rw[h1,this,Fz];cases want
  simp_all
 ·have:=Nu (follow:=false) (next:=aL D false k) [s] names [] (ds:=ds) (by simpa using hw)
  rw[List.nil_append] at this;rw[h1,this,Fz,if_neg (Hs hs).2.2.1,h2];simp only[h3,if_false];rw[if_neg (by simp),if_neg (by simp)]
  cases want
  simp_all
theorem Ends.same{L:List (List Bk)}{D:List Node}{want:AtN}{t u:Fnd}(h:Ends L D want t)(k:Ends L D want u):t=u:=by
 obtain⟨_,ds,names,hw,hc⟩:=h;obtain⟨_,ds2,names2,hw2,hc2⟩:=k;rcases hc with ⟨h1,h2,h3⟩|⟨s,y,l,hs,h1,h2,h3,h4,h5⟩<;>rcases hc2 with ⟨k1,k2,k3⟩|⟨s',y',l',hs',k1,k2,k3,k4,k5⟩
 ·rw[h3,k3,←h1,←k1]
 ·exfalso;obtain⟨d,q1,q2,q3⟩:=hw.last;have e:want.nodes=Dz D names:=h2;rw[k4] at e;exact k3 (q3.good y' (by rw[←e];simp)).2.2.1
 ·exfalso;obtain⟨d,q1,q2,q3⟩:=hw2.last;have e:want.nodes=Dz D names2:=k2;rw[h4] at e;exact h3 (q3.good y (by rw[←e];simp)).2.2.1
 ·rw[h1] at k1;obtain⟨e1,e2⟩:=List.append_inj' k1 rfl;cases e2;subst e1;rw[h5,k5]
theorem QP{H:List Node}{k:Nat}{s:Str}{y:Node}{l:List Node}(h:∀n∈H,n.ok∧n.allB=true∧n.kind=2∧n.depth+k≤15∧n.count≤100000)(hs:EB H s=y::l):
  ∀z∈y::l,z.ok∧z.allB=true∧(y.kind=2→z.kind=2)∧z.depth+(k+1)≤15∧z.count≤100000:=by
 intro z hz;rw[←hs] at hz;obtain⟨n,h1,h2⟩:=cB hz;obtain⟨q1,q2,q3,q4,q5⟩:=h n h1;have h6:=Zu h2;have h7:=((F1 (l:=n.items)).2 z h2).1;rw[Node.count_eq] at q5;exact⟨Zk q1 h2,VP q2 h2,fun k2=>Zv hs k2 hz,by omega,by omega⟩
theorem OnP.nil_iff{L:List (List Bk)}{p:List Spot}(h:OnP L p []):p=[]:=by
 cases p with
 |nil=>rfl
 |cons x p=>exact h.elim
theorem Ends.facts{L:List (List Bk)}{D:List Node}{want:AtN}{t:Fnd}(h:Ends L D want t):
  match want.nodes with
  |[]=>t=⟨2,(0,0),[]⟩∧want.names=[]
  |y::l=>t.kind=y.kind∧Stands L t.sp y∧y.ok∧y.allB=true∧(if y.kind=2 then OnP L t.dirs (y::l)∧t.dirs[0]? =some t.sp∧∀z∈y::l,z.ok∧z.allB=true∧z.kind=2∧z.count≤100000 else t.dirs=[]∧l=[]):=by
 obtain⟨he,ds,names,hw,hc⟩:=h;obtain⟨d,_,_,hd⟩:=hw.last;have hon:=hd.on;rw[hd.at_] at hon;rcases hc with ⟨h1,h2,h3⟩|⟨s,y,l,hs,h1,h2,h3,h4,h5⟩
 ·rw[h2,h3];cases hh:Dz D names with
  |nil=>
   rw[hh] at hon;have hp:=hon.nil_iff;refine⟨by rw[hp];rfl,?_⟩
   rw[h1]
   by_cases e:names=[]
   ·exact e
   ·exact absurd hh (hd.ne e)
  |cons y l=>
   rw[hh] at hon;have hg:=hd.good;rw[hh] at hg;obtain⟨g1,g2,g3,g4,g5⟩:=hg y (by simp)
   cases hp:D5 L names with
   |nil=>rw[hp] at hon;exact hon.elim
   |cons x p=>
    rw[hp] at hon;refine⟨g3.symm,hon.1,g1,g2,?_⟩;rw[if_pos g3];exact⟨hon,rfl,fun z hz=>by obtain⟨a,b,c,_,e⟩:=hg z hz;exact⟨a,b,c,e⟩⟩
 ·rw[h4];have hag:=Jd L s _ _ hon (fun n hn=>(hd.good n hn).2.1)
  rw[h2,←h5] at hag;obtain⟨a1,a2,a3,a4,a5,a6,a7,a8⟩:=hag;have hg:=QP hd.good h2 y (by simp)
  refine⟨a1,a4,hg.1,a5,?_⟩;rw[if_neg h3] at a6 ⊢;exact a6
theorem V8{names:List Str}{s:Str}(h:∀x∈names,E1 x=true):(if pathOf names=[47] then pathOf names++s else pathOf names++47::s)=pathOf (names++[s]):=by
 rw[Q9]
 by_cases e:names=[]
 ·subst e;simp[pathOf,Lib.join_nil]
 ·have:pathOf names≠[47]:=by
   obtain⟨l,x,rfl⟩:=(List.eq_nil_or_concat names).resolve_left e;have hx:=Hs (h x (by simp))
   rw[List.concat_eq_append,Q9];split
   ·simp[hx.1]
   ·intro e2;have:=congrArg List.length e2;simp[pathOf] at this
  rw[if_neg this,if_neg e]
def Wk.tell(w:Wk)(path s:Str)(rest:List Str)(f:Fnd)(fr:Rt)(there:Bool)(target:Str):Wk×Int:=
 if there=false then (w,2)
 else if f.kind=3∧(rest≠[]∨w.follow=true) then
  if 40 < w.hops+1 then ({w with todo:=rest,hops:=w.hops+1},4)
  else match D7 target with
   |none=>({w with todo:=rest,hops:=w.hops+1},1)
   |some l=>({w with todo:=l++rest,hops:=w.hops+1,dirs:=if target.head? =some 47 then w.dirs.take 1 else w.dirs},0)
 else if f.kind=2 then ({w with todo:=rest,dirs:=w.dirs++[⟨if path=[47] then path++s else path++47::s,f.dirs,fr⟩]},0)
 else if rest≠[] then ({w with todo:=rest},3)
 else ({w with todo:=rest,fin:=some (if path=[47] then path++s else path++47::s,f)},0)
structure Going(L:List (List Bk))(D:List Node)(want:AtN)(w:Wk)(h:Nat)(names:List Str):Prop where
 on:IY L D w.dirs names
 hops:w.hops+h=40
 td:∀s∈w.todo,s=dd∨E1 s=true
 fin:w.fin=none
 goes:Lz D w.follow h w.todo names=want
theorem Going.pop{L:List (List Bk)}{D:List Node}{want:AtN}{w:Wk}{h:Nat}{names:List Str}(g:Going L D want w h names):∃names',Going L D want w.pop h names':=by
 obtain⟨names',h1,h2⟩:=U8 (follow:=w.follow) (next:=aL D w.follow h) w.todo g.on;exact⟨names',h1,g.hops,fun s hs=>g.td s (VY hs),g.fin,by have:=g.goes;rw[If,h2] at this;rw[If];exact this⟩
theorem Going.step{L:List (List Bk)}{D:List Node}{want:AtN}{w:Wk}{h:Nat}{names:List Str}{s:Str}{rest:List Str}{f:Fnd}{fr:Rt}{target:Str}(g:Going L D want w h names)(ht:w.todo=s::rest)(hs:s≠dd)
  (hf:f=DN L s (D5 L names) Fnd.none) (htg:f.kind=3→∀y l,EB (Dz D names) s=y::l→target=y.target):
  ∃d,w.dirs.getLast? =some d∧d.path=pathOf names∧d.place=D5 L names∧names.length≤15∧
  match w.tell (pathOf names) s rest f fr (decide (f.kind≠0)) target with
  |(w',e)=>(e≠0→want.err=e)∧(e=0→(∃h' names',Going L D want w' h' names'∧(w'.todo=rest∧h'=h∨h=h'+1∧∃p,p.length≤128∧w'.todo=p++rest))∨
   (∃g',w'.fin=some (pathOf want.names,g')∧Ends L D want g'∧rest=[]∧w'={w with todo:=[],fin:=some (pathOf want.names,g')})):=by
 obtain⟨d,d1,d2,hd⟩:=g.on.last;have hon:=hd.on;rw[hd.at_] at hon;have hag:=Jd L s _ _ hon (fun n hn=>(hd.good n hn).2.1)
 rw[←hf] at hag;refine⟨d,d1,hd.path,hd.at_,hd.short,?_⟩;have hgo:=g.goes;rw[ht,If,Fz,if_neg hs] at hgo;have hsr:E1 s=true:=(g.td s (by rw[ht];simp)).resolve_left hs
 have hch:=V8 (s:=s) g.on.nm;cases hsn:EB (Dz D names) s with
 |nil=>
  rw[hsn] at hgo hag;simp only at hgo;have hk:f.kind=0:=by rw[show f=Fnd.none from hag];rfl
  simp only[Wk.tell,hk];simp[←hgo]
 |cons y l=>
  rw[hsn] at hgo hag;simp only at hgo;obtain⟨a1,a2,a3,a4,a5,a6,a7,a8⟩:=hag;have hk0:f.kind≠0:=by rw[a1];exact a2
  have hgd:=QP hd.good hsn;have htd:∀x∈rest,x=dd∨E1 x=true:=fun x hx=>g.td x (by rw[ht];simp[hx])
  simp only[Wk.tell,hk0,ne_eq,not_false_eq_true,decide_true,Bool.true_eq_false,if_false];rw[a1,hch]
  by_cases k2:y.kind=2
  ·rw[if_pos k2] at hgo a6;rw[if_neg (by omega),if_pos k2]
   refine⟨fun h=>absurd rfl h,fun _=>.inl ⟨h,names++[s],⟨?_,g.hops,htd,g.fin,?_⟩,.inl ⟨rfl,rfl⟩⟩⟩
   ·refine g.on.push hsr ⟨rfl,?_,?_,fun n hn=>?_,?_,fun _=>?_⟩
    ·rw[Q5,←hf]
    ·rw[FT,hsn];exact a6.1
    ·rw[FT,hsn] at hn;obtain⟨q1,q2,q3,q4,q5⟩:=hgd n hn;exact⟨q1,q2,q3 k2,by simpa using q4,q5⟩
    ·rw[FT];exact Nat.le_trans (bL _ _) hd.few
    ·rw[FT,hsn];simp
   ·rw[If];exact hgo
  rw[if_neg k2] at hgo a6
  by_cases c3:y.kind=3∧(rest≠[]∨w.follow=true)
  ·rw[if_pos c3] at hgo;rw[if_pos c3];have hh:=g.hops;have e1:=htg (a1.trans c3.1) y l hsn;subst e1;cases h with
   |zero=>
    rw[if_pos (by omega)]
    refine⟨fun _=>?_,fun h=>absurd h (by simp)⟩
    rw[←hgo];rfl
   |succ h=>
    rw[if_neg (by omega)]
    obtain⟨p,hp1,hp2⟩:=NU a5 c3.1;have hpo:partsOf y.target=p:=by rw[partsOf,hp1];rfl
    rw[hpo] at hgo;simp only[hp1];refine⟨fun h=>absurd trivial h,fun _=>.inl ⟨h,if y.target.head? =some 47 then [] else names,⟨?_,by simp only;omega,fun x hx=>?_,g.fin,hgo⟩,.inr ⟨rfl,p,by have:=Nj hp1;omega,rfl⟩⟩⟩
    ·simp only;split
     ·exact g.on.root
     ·exact g.on
    ·rcases List.mem_append.1 hx with hx|hx
     ·exact N0 hp1 x hx
     ·exact htd x hx
  rw[if_neg c3] at hgo;rw[if_neg c3,if_neg k2]
  by_cases cr:rest≠[]
  ·rw[if_pos cr] at hgo;rw[if_pos cr];refine⟨fun _=>by rw[←hgo],fun h=>absurd h (by simp)⟩
  ·rw[if_neg cr] at hgo;rw[if_neg cr];have hr:rest=[]:=by simpa using cr
   refine⟨fun h=>absurd rfl h,fun _=>.inr ⟨f,by rw[←hgo],⟨by rw[←hgo],w.dirs,names,g.on,.inr ⟨s,y,l,hsr,by rw[←hgo],hsn,k2,by rw[←hgo],hf⟩⟩,hr,by rw[←hgo,hr]⟩⟩
theorem Going.end{L:List (List Bk)}{D:List Node}{want:AtN}{w:Wk}{h:Nat}{names:List Str}(g:Going L D want w h names)(ht:w.todo=[]):
  ∃d,w.dirs.getLast? =some d∧d.path=pathOf want.names∧Ends L D want (Zr d.place):=by
 obtain⟨d,d1,d2,hd⟩:=g.on.last;have hgo:=g.goes;rw[ht,If,Fz] at hgo;refine⟨d,d1,by rw[←hgo];exact hd.path,by rw[←hgo],w.dirs,names,g.on,.inl ⟨by rw[←hgo],by rw[←hgo],by rw[hd.at_]⟩⟩
end Go.Av
