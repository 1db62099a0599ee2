/- Parts of the proofs of this seat: abstract values over the model, and what the functions of the program do. No condition. -/
import Derived.Test.YtjkffbaienbmkaaGreatDoorY05d
import Derived.Test.YtjkffbaienbmkaaGreatDoorY01
set_option linter.all false
namespace Go.Av
open Go.Proofs
theorem XI{w0:World}(hm:KI w0){S:St}{s:Str}(hs:s.length≤1048575){Q:AV→St→Prop}
  (hq:∀S',Sx S S'→(∀n,I0 s=some n→n.ok→Q (.tup [.agg n.c,.int .i64 0]) S')∧(I0 s=none→Q (.tup [.agg Node.none.c,.int .i64 1]) S')):AC w0 K5 [.str s] S Q:=by
 apply Vz;unfold Ov;have hn0:I0 s=none→Q (.tup [.agg [.int .i64 0,.bool false,.vs 1 [] .nil,.vs 7 [] .nil,.int .i64 0,.vs 2 [] .nil,.str []],.int .i64 1]) S:=fun h=>by
  have:=(hq S (Sx.refl _)).2 h
  rwa [Node.none_c] at this
 by_cases c1:s.length < 7
 ·have:I0 s=none:=by simp[I0,c1]
  simp[AH,show ¬(4194304 < (s.length:Int)) by omega,show (s.length:Int) < 7 by omega]
  exact hn0 this
 by_cases c2:s.take 7=[115,111,99,97,103,101,49]
 case neg=>
  have:I0 s=none:=by simp[I0,c2]
  simp[AH,show ¬(4194304 < (s.length:Int)) by omega,show ¬(s.length:Int) < 7 by omega,show 7≤s.length by omega,c2]
  exact hn0 this
 simp[AH,show ¬(4194304 < (s.length:Int)) by omega,show ¬(s.length:Int) < 7 by omega,show 7≤s.length by omega,c2]
 apply ba;unfold VO;simp;have hR:RdO (S++[Obj.cells [.str (s.drop 7)] DQ,Obj.cells [.ptr S.length 0,.bool false,.int .i64 4096] Bj]) (S.length+1) S.length ⟨s.drop 7,false,4096⟩:=⟨by simp,by simp[rdC]⟩
 have hl:(s.drop 7).length≤1048568:=by simp;omega
 have hI:=RS.node_ok 16 ⟨s.drop 7,false,4096⟩ hl (by simp)
 refine an 16 (b:=S.length) (d:=0) (by omega) (by simp) hR (by omega) (by omega) hl (by simp) (by simp) (fun S2 hR2 hK2=>?_)
 have hd:I0 s=if (RS.node 16 ⟨s.drop 7,false,4096⟩).2.bad=false∧(RS.node 16 ⟨s.drop 7,false,4096⟩).2.s=[]∧Bs (RS.node 16 ⟨s.drop 7,false,4096⟩).1=true then some (RS.node 16 ⟨s.drop 7,false,4096⟩).1 else none:=by
  rw[I0,if_neg (by simp[c1,c2];omega)]
 generalize RS.node 16 ⟨s.drop 7,false,4096⟩=r at hR2 hd hI ⊢;have hSx:Sx S S2:=fun j hj=>by
  rw[hK2 j hj,List.getElem?_append_left hj]
 have hno:∀S3,Sx S S3→I0 s=none→Q (.tup [.agg [.int .i64 0,.bool false,.vs 1 [] .nil,.vs 7 [] .nil,.int .i64 0,.vs 2 [] .nil,.str []],.int .i64 1]) S3:=fun S3 h3 h=>by
  have:=(hq S3 h3).2 h
  rwa [Node.none_c] at this
 simp[AW hR2.1];cases hb:r.2.bad with
 |true=>
  simp;exact hno S2 hSx (by rw[hd,hb];simp)
 |false=>
  simp;have hR3:S2[S.length]? =some (.cells [.str r.2.s] DQ):=hR2.2;apply QD;unfold LE;simp[AW hR3]
  by_cases c3:r.2.s=[]
  case neg=>
   have:=List.length_pos_iff.2 c3;simp[show (0:Int) < r.2.s.length by omega,this]
   exact hno S2 hSx (by rw[hd];simp[c3])
  simp[c3];refine TX hm hI.ok (fun S3 hS3=>?_)
  cases hr:Bs r.1 with
  |false=>
   simp;exact hno S3 (hSx.trans hS3) (by rw[hd];simp[hr])
  |true=>
   simp;exact(hq S3 (hSx.trans hS3)).1 r.1 (by rw[hd,hb];simp[hr,c3]) hI.ok
theorem ae:∀{l:List Node} {k:Nat} {x:Node} (b:Nat),l[k]? =some x→(Node.idsOf l b)[k]? =some (b+Node.counts (l.take k))
 |[],k,x,b,h=>by simp at h
 |y::l,0,x,b,h=>by simp[Node.idsOf,Node.counts]
 |y::l,k+1,x,b,h=>by
  simp at h;have:=ae (b+y.count) h;simp only[Node.idsOf,List.getElem?_cons_succ,List.take_succ_cons,Node.counts,this];rw[Nat.add_assoc]
theorem aH(P:List CU)(i:Nat):Bq P (i:Int)=(P[i]?).getD CU.none:=by
 have:¬((i:Int) < 0):=by omega
 simp[Bq,this]
theorem nC(n:Node):Bq (n.tab 0) 0=n.hd 0:=by
 have:=aH (n.tab 0) 0;rw[Node.tab_eq] at this ⊢;simpa using this
structure Less(f g:Fnd):Prop where
 kind:f.kind=g.kind
 dirs:f.dirs.length=g.dirs.length
 sp:f.kind≠0→f.sp=(g.sp.1+1,g.sp.2)
def WG(l:List Node):Bool:=decide (l.length≤8)&&l.all fun n=>n.small&&Bs n
theorem T6{l:List Node}:WG l=true↔l.length≤8∧∀n∈l,n.small=true∧Bs n=true:=by simp[WG]
theorem Pv:∀(l:List Node) (k:Nat),(∀n∈l,Bs n=true)→l.length+k≤64→My l k=0
 |[],_,_,_=>rfl
 |n::l,k,h,hk=>by
  rw[My,if_neg (by rw[h n (by simp)];simp),if_neg (by simp at hk;omega),Pv l (k+1) (fun x hx=>h x (by simp[hx])) (by simp at hk;omega)]
def At(P:List CU)(i:Nat)(n:Node):Prop:=∀j,j < n.count→P[i+j]? =(n.tab i)[j]?
theorem eg:∀{l:List Node} {k:Nat} {x:Node} (b:Nat),l[k]? =some x→∀j,j < x.count→(Node.tabs l b)[Node.counts (l.take k)+j]? =(x.tab (b+Node.counts (l.take k)))[j]?
 |[],k,x,b,h,_,_=>by simp at h
 |y::l,0,x,b,h,j,hj=>by
  simp at h;subst h;rw[Node.tabs_cons];simp only[List.take_zero,Node.counts,Nat.zero_add,Nat.add_zero];rw[List.getElem?_append_left (by rw[Node.tab_len];exact hj)]
 |y::l,k+1,x,b,h,j,hj=>by
  simp at h;have:=eg (b+y.count) h j hj;rw[Node.tabs_cons,List.take_succ_cons,Node.counts,List.getElem?_append_right (by rw[Node.tab_len];omega),Node.tab_len,show y.count+Node.counts (l.take k)+j - y.count=Node.counts (l.take k)+j by omega,this,Nat.add_assoc]
theorem At.hd{P:List CU}{i:Nat}{n:Node}(h:At P i n):P[i]? =some (n.hd i):=by
 have:=h 0 (by rw[Node.count_eq];omega)
 rw[Node.tab_eq] at this;simpa using this
theorem At.ino{P:List CU}{i:Nat}{n:Node}(h:At P i n):Bq P (i:Nat)=n.hd i:=by rw[aH,h.hd];rfl
theorem At.root(n:Node):At (n.tab 0) 0 n:=fun j _=>by rw[Nat.zero_add]
theorem At.kid{P:List CU}{i:Nat}{n:Node}(h:At P i n){k:Nat}{x:Node}(hk:n.items[k]? =some x):At P (i+1+Node.counts (n.items.take k)) x:=fun j hj=>by
 have h1:=eg (i+1) hk j hj;have h2:Node.counts (n.items.take k)+x.count≤Node.counts n.items:=by
  have:∀(l:List Node) (k:Nat),l[k]? =some x→Node.counts (l.take k)+x.count≤Node.counts l:=by
   intro l
   induction l with
   |nil=>intro k h;simp at h
   |cons y l ih=>
    intro k h;cases k with
    |zero=>simp at h;subst h;simp[Node.counts]
    |succ k=>simp at h;have:=ih k h;simp only[List.take_succ_cons,Node.counts];omega
  exact this _ _ hk
 have h3:=h (1+(Node.counts (n.items.take k)+j)) (by rw[Node.count_eq];omega)
 rw[Node.tab_eq,Nat.add_comm 1,List.getElem?_cons_succ,h1] at h3;rw[←h3];congr 1;omega
theorem Ih{n:Node}(h:n.allB=true):n.names.l.length=n.items.length:=by
 rw[Node.all_eq] at h;simp only[Bool.and_eq_true] at h;obtain⟨hz,hk⟩:=F0 h.2
 by_cases k:n.kind=2
 ·have hn:F2 n=true:=by simpa[Dq,k] using hk
  exact(Kw hn).2
 ·have hi:=LZ hz k;have hnm:n.names.l=[]:=by simp[Dt,k] at hz;exact hz.1.1.1.2
  rw[hi,hnm];rfl
theorem Ml{n x:Node}(h:n.allB=true)(hx:x∈n.items):x.allB=true:=by
 rw[Node.all_eq] at h;simp only[Bool.and_eq_true] at h;exact YK h.1 x hx
theorem lJ{n:Node}(h:n.allB=true):n.kind=1∨n.kind=2∨n.kind=3∨n.kind=4:=by
 rw[Node.all_eq] at h;simp only[Bool.and_eq_true] at h;exact qH h.2
theorem eN{n x:Node}{s:Str}(h:n.find s=some x):x∈n.items:=by
 unfold Node.find at h;cases hk:n.names.l.findIdx? (fun x=>decide (x=s)) with
 |none=>rw[hk] at h;cases h
 |some k=>rw[hk] at h;exact List.mem_of_getElem? h
theorem At.look{P:List CU}{i:Nat}{n:Node}(h:At P i n)(ha:n.allB=true)(s:Str):
  match n.find s with
  |none=>XX (Bq P (i:Nat)) s=none
  |some x=>∃j,XX (Bq P (i:Nat)) s=some j∧At P j x:=by
 rw[h.ino];unfold Node.find XX;have hl:=Ih ha;simp only[Node.hd];cases hk:n.names.l.findIdx? (fun x=>decide (x=s)) with
 |none=>rfl
 |some k=>
  have hlt:=(List.findIdx?_eq_some_iff_getElem.1 hk).1;have hx:n.items[k]? =some n.items[k]:=List.getElem?_eq_getElem (by omega)
  simp only[Option.bind_some,hx];exact⟨_,ae _ hx,h.kid hx⟩
def Stands(L:List (List CU))(x:Spot)(n:Node):Prop:=∃P,L[x.1]? =some P∧At P x.2 n
def OnP(L:List (List CU)):List Spot→List Node→Prop
 |[],[]=>True
 |x::p,n::l=>Stands L x n∧OnP L p l
 |_,_=>False
def Dm:List Node→List Node
 |[]=>[]
 |n::l=>n::if n.opq=true then [] else Dm l
def CI(dirs:List Node)(s:Str):List Node:=dirs.filterMap (·.find s)
def Dn(dirs:List Node)(s:Str):List Node:=
 match CI dirs s with
 |[]=>[]
 |x::l=>if x.kind=4 then [] else if x.kind≠2 then [x] else Dm ((x::l).takeWhile fun n=>decide (n.kind=2))
def Xj:List Node→Str→Nat
 |[],_=>0
 |n::l,s=>match n.find s with|some _=>0|none=>Xj l s+1
theorem Oq(L:List (List CU))(s:Str):∀(p:List Spot) (dirs:List Node) (f:Fnd),OnP L p dirs→(∀n∈dirs,n.allB=true)→f.kind=2→
  ∃q,D7 L s p f=⟨2,f.sp,f.dirs++q⟩∧OnP L q (Dm ((CI dirs s).takeWhile fun n=>decide (n.kind=2)))∧(q.map (·.1)).Sublist (p.map (·.1))
 |[],[],f,_,_,hf=>⟨[],by rw[D7];simp[←hf],trivial,List.Sublist.refl _⟩
 |x::p,n::l,f,h,ha,hf=>by
  obtain⟨⟨P,hP,hat⟩,h2⟩:=h;have hrec:=fun f hf=>Oq L s p l f h2 (fun y hy=>ha y (by simp[hy])) hf
  have hlook:=hat.look (ha n (by simp)) s
  rw[D7,hP];simp only;cases hk:n.find s with
  |none=>
   rw[hk] at hlook;simp only at hlook;rw[hlook];simp only;obtain⟨q,q1,q2,q3⟩:=hrec f hf;refine⟨q,q1,?_,q3.cons _⟩;simp only[CI,List.filterMap_cons,hk];exact q2
  |some y=>
   rw[hk] at hlook;obtain⟨j,hj,hy⟩:=hlook;rw[hj];simp only;have hino:=hy.ino;have hkd:(Bq P (j:Nat)).kind=y.kind:=by rw[hino];rfl
   have hop:(Bq P (j:Nat)).opq=y.opq:=by rw[hino];rfl
   simp only[CI,List.filterMap_cons,hk]
   by_cases k2:y.kind=2
   ·have f0:¬f.kind=0:=by omega
    rw[if_neg (c:=(Bq P (j:Nat)).kind≠2) (by rw[hkd];simp[k2]),hop,List.takeWhile_cons_of_pos (by simp[k2]),Dm]
    simp only[if_neg f0];cases ho:y.opq with
    |true=>
     simp only[if_true];exact⟨[(x.1,j)],by rw[hf],⟨⟨P,hP,hy⟩,trivial⟩,by simp⟩
    |false=>
     simp only[if_false,Bool.false_eq_true];obtain⟨q,q1,q2,q3⟩:=hrec ⟨f.kind,f.sp,f.dirs++[(x.1,j)]⟩ hf;refine⟨(x.1,j)::q,by rw[q1];simp,⟨⟨P,hP,hy⟩,q2⟩,?_⟩
     simp only[List.map_cons];exact q3.cons₂ _
   ·rw[if_pos (by rw[hkd];exact k2),if_neg (by omega),List.takeWhile_cons_of_neg (by simp[k2])]
    exact⟨[],by simp[←hf],trivial,List.nil_sublist _⟩
 |[],_::_,_,h,_,_=>h.elim
 |_::_,[],_,h,_,_=>h.elim
def Agrees(L:List (List CU))(p:List Spot)(dirs:List Node)(s:Str)(g:Fnd):List Node→Prop
 |[]=>g=Fnd.none
 |x::l=>g.kind=x.kind∧x.kind≠0∧x.kind≠4∧Stands L g.sp x∧x.allB=true∧(if x.kind=2 then OnP L g.dirs (x::l)∧g.dirs[0]? =some g.sp else g.dirs=[]∧l=[])∧(p[Xj dirs s]?).map (·.1)=some g.sp.1∧(g.dirs.map (·.1)).Sublist (p.map (·.1))
theorem Lo(L:List (List CU))(s:Str):∀(p:List Spot) (dirs:List Node),OnP L p dirs→(∀n∈dirs,n.allB=true)→Agrees L p dirs s (D7 L s p Fnd.none) (Dn dirs s)
 |[],[],_,_=>by simp[Dn,CI,D7,Agrees]
 |x::p,n::l,h,ha=>by
  obtain⟨⟨P,hP,hat⟩,h2⟩:=h;have hal:∀y∈l,y.allB=true:=fun y hy=>ha y (by simp[hy])
  have hrec:=Lo L s p l h2 hal;have hlook:=hat.look (ha n (by simp)) s
  rw[D7,hP];simp only;cases hk:n.find s with
  |none=>
   rw[hk] at hlook;simp only at hlook;rw[hlook];simp only;have e1:Dn (n::l) s=Dn l s:=by simp only[Dn,CI,List.filterMap_cons,hk]
   rw[e1];cases hs:Dn l s with
   |nil=>rw[hs] at hrec;exact hrec
   |cons y t=>
    rw[hs] at hrec;obtain⟨r1,r2,r3,r4,r5,r6,r7,r8⟩:=hrec;refine⟨r1,r2,r3,r4,r5,r6,?_,r8.cons _⟩;rw[Xj,hk];exact r7
  |some y=>
   rw[hk] at hlook;obtain⟨j,hj,hy⟩:=hlook;rw[hj];simp only;have hya:=Ml (ha n (by simp)) (eN hk)
   have hino:=hy.ino;have hkd:(Bq P (j:Nat)).kind=y.kind:=by rw[hino];rfl
   have hop:(Bq P (j:Nat)).opq=y.opq:=by rw[hino];rfl
   have hst:Stands L (x.1,j) y:=⟨P,hP,hy⟩;have hn0:y.kind≠0:=by rcases lJ hya with h|h|h|h<;>omega
   have hlev:Xj (n::l) s=0:=by rw[Xj,hk]
   simp only[Dn,CI,List.filterMap_cons,hk]
   by_cases k4:y.kind=4
   ·rw[if_pos (by rw[hkd];omega),if_neg (by rw[hkd];simp[k4]),if_pos k4]
    rfl
   rw[if_neg k4]
   by_cases k2:y.kind=2
   ·rw[if_neg (c:=(Bq P (j:Nat)).kind≠2) (by rw[hkd];simp[k2]),if_neg (c:=y.kind≠2) (by simp[k2]),List.takeWhile_cons_of_pos (by simp[k2]),Dm,hop,hkd]
    simp only[Fnd.none,if_true,List.nil_append];cases ho:y.opq with
    |true=>
     simp only[if_true];exact⟨rfl,hn0,k4,hst,hya,by rw[if_pos k2];exact⟨⟨hst,trivial⟩,rfl⟩,by rw[hlev];rfl,by simp⟩
    |false=>
     simp only[if_false,Bool.false_eq_true];obtain⟨q,q1,q2,q3⟩:=Oq L s p l ⟨y.kind,(x.1,j),[(x.1,j)]⟩ h2 hal k2;rw[q1];refine⟨k2.symm,hn0,k4,hst,hya,by rw[if_pos k2];exact⟨⟨hst,q2⟩,rfl⟩,by rw[hlev];rfl,?_⟩
     simp only[List.singleton_append,List.map_cons];exact q3.cons₂ _
   ·rw[if_pos (by rw[hkd];exact k2),if_pos ⟨rfl,by rw[hkd];exact k4⟩,if_pos k2]
    exact⟨hkd,hn0,k4,hst,hya,by rw[if_neg k2];exact⟨rfl,rfl⟩,by rw[hlev];rfl,List.nil_sublist _⟩
 |[],_::_,h,_=>h.elim
 |_::_,[],h,_=>h.elim
theorem Sn(l:List Node)(s:Str):(CI l s).length≤l.length:=List.length_filterMap_le _ _
theorem aU(l:List Node)(s:Str):(Dn l s).length≤l.length:=by
 have h0:=Sn l s;have hd:∀l:List Node,(Dm l).length≤l.length:=by
  intro l
  induction l with
  |nil=>simp[Dm]
  |cons x l ih=>rw[Dm];split<;>simp;omega
 unfold Dn;cases he:CI l s with
 |nil=>simp
 |cons x r=>
  rw[he] at h0;simp only;split
  ·simp
  ·split
   ·simp at h0 ⊢;omega
   ·exact Nat.le_trans (hd _) (Nat.le_trans (List.takeWhile_sublist _).length_le h0)
theorem I2:∀{l:List Node} {x:Node},x∈Dm l→x∈l
 |n::l,x,h=>by
  rw[Dm] at h;rcases List.mem_cons.1 h with rfl|h
  ·simp
  ·split at h
   ·cases h
   ·exact List.mem_cons_of_mem _ (I2 h)
theorem Uw{l:List Node}{s:Str}{x:Node}(h:x∈Dn l s):∃n∈l,x∈n.items:=by
 have h2:x∈CI l s:=by
  unfold Dn at h;cases he:CI l s with
  |nil=>rw[he] at h;cases h
  |cons y r=>
   rw[he] at h;simp only at h;split at h
   ·cases h
   ·split at h
    ·rw[List.mem_singleton] at h;simp[h]
    ·exact(List.takeWhile_sublist _).subset (I2 h)
 obtain⟨n,h3,h4⟩:=List.mem_filterMap.1 h2;exact⟨n,h3,eN h4⟩
theorem gA{l:List Node}{s:Str}{x y:Node}{r:List Node}(h:Dn l s=y::r)(k2:y.kind=2)(hx:x∈Dn l s):x.kind=2:=by
 unfold Dn at h hx;cases he:CI l s with
 |nil=>rw[he] at h;cases h
 |cons z t=>
  rw[he] at h hx;simp only at h hx;split at h
  ·cases h
  ·rename_i c4;rw[if_neg c4] at hx;split at h
   ·rename_i c2;rw[if_pos c2] at hx;rw[List.mem_singleton] at hx;subst hx;cases h;exact k2
   ·rename_i c2;rw[if_neg c2] at hx;have h1:=I2 hx;have:∀(q:List Node),x∈q.takeWhile (fun n=>decide (n.kind=2))→x.kind=2:=by
     intro q
     induction q with
     |nil=>intro h;simp at h
     |cons a q ih=>
      intro h;rw[List.takeWhile_cons] at h;split at h
      ·rename_i ha;rcases List.mem_cons.1 h with rfl|h
       ·simpa using ha
       ·exact ih h
      ·cases h
    exact this _ h1
theorem iY{n x:Node}(h:x∈n.items):x.depth < n.depth:=by
 have:=(GT (l:=n.items)).2 x h;rw[Node.depth_eq n];omega
theorem N6{n x:Node}(h:n.ok)(hx:x∈n.items):x.ok:=((Node.ok_iff n).1 h).2.2.2.1 x hx
abbrev dd:Str:=[46,46]
def Dc(D:List Node)(names:List Str):List Node:=names.foldl Dn (Dm D)
theorem Fn(D:List Node)(names:List Str)(s:Str):Dc D (names++[s])=Dn (Dc D names) s:=by simp[Dc]
structure AtN where
 names:List Str
 nodes:List Node
 err:Int
def partsOf(t:Str):List Str:=(DP t).getD []
def Ez(D:List Node)(follow:Bool)(next:List Str→List Str→AtN):List Str→List Str→AtN
 |[],names=>⟨names,Dc D names,0⟩
 |part::rest,names=>
  if part=dd then Ez D follow next rest names.dropLast else
  match Dn (Dc D names) part with
  |[]=>⟨[],[],2⟩
  |y::l=>
   if y.kind=2 then Ez D follow next rest (names++[part])
   else if y.kind=3∧(rest≠[]∨follow=true) then next (partsOf y.target++rest) (if y.target.head? =some 47 then [] else names)
   else if rest≠[] then ⟨[],[],3⟩ else ⟨names++[part],y::l,0⟩
def HM(D:List Node)(follow:Bool):Nat→List Str→List Str→AtN
 |0=>Ez D follow fun _ _=>⟨[],[],4⟩
 |h+1=>Ez D follow (HM D follow h)
def XW(D:List Node)(follow:Bool):Nat→List Str→List Str→AtN
 |0=>fun _ _=>⟨[],[],4⟩
 |h+1=>HM D follow h
theorem FV(D:List Node)(follow:Bool)(h:Nat):HM D follow h=Ez D follow (XW D follow h):=by cases h<;>rfl
def BP(D:List Node)(path:Str)(follow:Bool):AtN:=
 match DP path with
 |none=>⟨[],[],1⟩
 |some l=>HM D follow 40 l []
def iM:List Str→Nat
 |[]=>0
 |s::l=>s.length+iM l
theorem YL:∀s:List UInt8,iM (BU s)+(BU s).length=s.length+1
 |[]=>rfl
 |c::l=>by
  have h:=YL l;unfold BU;split
  ·simp only[iM,List.length_cons,List.length_nil];omega
  ·cases hs:BU l with
   |nil=>exact absurd hs (Mg l)
   |cons a t=>
    rw[hs] at h;simp only[iM,List.length_cons] at h ⊢;omega
theorem Ri:∀{l p:List Str},CM l=some p→2*p.length≤iM l+l.length
 |[],p,h=>by simp[CM] at h;subst h;simp
 |s::l,p,h=>by
  rw[CM] at h;split at h
  ·have:=Ri h;simp only[iM,List.length_cons];omega
  ·rename_i c;split at h
   ·rw[Option.map_eq_some_iff] at h;obtain⟨q,hq,rfl⟩:=h;have:=Ri hq;have hs:0 < s.length:=List.length_pos_iff.2 fun e=>c (.inl e)
    simp only[iM,List.length_cons];omega
   ·cases h
theorem KY{s:Str}{p:List Str}(h:DP s=some p):2*p.length≤s.length+1:=by
 unfold DP at h;split at h
 ·cases h
 ·have:=Ri h;rw[YL] at this;exact this
theorem Ry{s:Str}{p:List Str}(h:DP s=some p):∀x∈p,x=dd∨D5 x=true:=by
 unfold DP at h;split at h
 ·cases h
 ·exact Rv h
theorem J2{s:Str}{p:List Str}(h:DP s=some p):s.length≤1024∧s≠[]:=by
 unfold DP at h;split at h
 ·cases h
 ·rename_i c;refine⟨by omega,fun e=>c (.inl e)⟩
structure Drx where
 path:Str
 place:List Spot
 r:Rt
structure Wk where
 todo:List Str
 dirs:List Drx
 follow:Bool
 hops:Nat
 fin:Option (Str×Fnd)
def Fq:List Str→List Drx→List Str×List Drx
 |[],ds=>([],ds)
 |s::t,ds=>if s=dd then Fq t (if 1 < ds.length then ds.dropLast else ds) else (s::t,ds)
def Wk.pop(w:Wk):Wk:={w with todo:=(Fq w.todo w.dirs).1,dirs:=(Fq w.todo w.dirs).2}
def Wk.ask(w:Wk):Wk:=match w.fin with|none=>w.pop|some _=>w
theorem RG:∀(t:List Str) (ds:List Drx),(Fq t ds).1.head?≠some dd
 |[],ds=>by simp[Fq]
 |s::t,ds=>by
  rw[Fq];split
  ·exact RG t _
  ·rename_i c;simpa using c
theorem iH:∀{t:List Str} {ds:List Drx},t.head?≠some dd→Fq t ds=(t,ds)
 |[],ds,_=>rfl
 |s::t,ds,h=>by rw[Fq,if_neg (by simpa using h)]
theorem UZ:∀(t:List Str) (ds:List Drx),(Fq t ds).1.length≤t.length
 |[],ds=>by simp[Fq]
 |s::t,ds=>by
  rw[Fq];split
  ·have:=UZ t (if 1 < ds.length then ds.dropLast else ds);simp;omega
  ·simp
theorem al:∀{t:List Str} {ds:List Drx} {s:Str},s∈(Fq t ds).1→s∈t
 |[],ds,s,h=>by simp[Fq] at h
 |x::t,ds,s,h=>by
  rw[Fq] at h;split at h
  ·exact List.mem_cons_of_mem _ (al h)
  ·exact h
def Er(L:List (List CU))(names:List Str):List Spot:=names.foldl (fun p s=>(D7 L s p Fnd.none).dirs) (IZ L 0)
theorem VI(L:List (List CU))(names:List Str)(s:Str):Er L (names++[s])=(D7 L s (Er L names) Fnd.none).dirs:=by simp[Er]
structure dm(L:List (List CU))(D:List Node)(d:Drx)(names:List Str):Prop where
 path:d.path=pathOf names
 at_:d.place=Er L names
 on:OnP L d.place (Dc D names)
 good:∀n∈Dc D names,n.ok∧n.allB=true∧n.kind=2∧n.depth+names.length≤15∧n.count≤100000
 few:(Dc D names).length≤64
 ne:names≠[]→Dc D names≠[]
structure Je(L:List (List CU))(D:List Node)(ds:List Drx)(names:List Str):Prop where
 len:ds.length=names.length+1
 dir:∀k,k≤names.length→∃d,ds[k]? =some d∧dm L D d (names.take k)
 nm:∀s∈names,D5 s=true
theorem dm.short{L:List (List CU)}{D:List Node}{d:Drx}{names:List Str}(h:dm L D d names):names.length≤15:=by
 by_cases e:names=[]
 ·rw[e];simp
 ·cases hh:Dc D names with
  |nil=>exact absurd hh (h.ne e)
  |cons x l=>
   have:=(h.good x (by rw[hh];simp)).2.2.2.1
   omega
theorem Je.last{L:List (List CU)}{D:List Node}{ds:List Drx}{names:List Str}(h:Je L D ds names):∃d,ds.getLast? =some d∧ds[names.length]? =some d∧dm L D d names:=by
 obtain⟨d,h1,h2⟩:=h.dir names.length (Nat.le_refl _);rw[List.take_length] at h2;refine⟨d,?_,h1,h2⟩;rw[List.getLast?_eq_getElem?,h.len];exact h1
theorem Je.drop{L:List (List CU)}{D:List Node}{ds:List Drx}{names:List Str}(h:Je L D ds names):Je L D (if 1 < ds.length then ds.dropLast else ds) names.dropLast:=by
 have hl:=h.len;split
 ·rename_i c;refine⟨by simp;omega,fun k hk=>?_,fun s hs=>h.nm s (List.dropLast_subset _ hs)⟩
  simp at hk;obtain⟨d,h1,h2⟩:=h.dir k (by omega)
  refine⟨d,?_,?_⟩
  ·rw[List.getElem?_dropLast,if_pos (by omega)];exact h1
  ·rw[List.dropLast_eq_take,List.take_take,Nat.min_eq_left (by omega)];exact h2
 ·rename_i c;have e:names=[]:=List.eq_nil_of_length_eq_zero (by omega)
  subst e;exact h
theorem Je.root{L:List (List CU)}{D:List Node}{ds:List Drx}{names:List Str}(h:Je L D ds names):Je L D (ds.take 1) []:=by
 have hl:=h.len;refine⟨by simp;omega,fun k hk=>?_,by simp⟩
 simp at hk;subst hk;obtain⟨d,h1,h2⟩:=h.dir 0 (by omega)
 refine⟨d,?_,h2⟩;rw[List.getElem?_take_of_lt (by omega)]
 exact h1
theorem Je.push{L:List (List CU)}{D:List Node}{ds:List Drx}{names:List Str}{s:Str}{d:Drx}(h:Je L D ds names)(hs:D5 s=true)(hd:dm L D d (names++[s])):Je L D (ds++[d]) (names++[s]):=by
 have hl:=h.len;refine⟨by simp;omega,fun k hk=>?_,fun x hx=>?_⟩
 ·simp at hk
  by_cases e:k=names.length+1
  ·subst e;refine⟨d,?_,?_⟩
   ·rw[←hl];simp
   ·rw[List.take_of_length_le (by simp)];exact hd
  ·obtain⟨x,h1,h2⟩:=h.dir k (by omega)
   refine⟨x,?_,?_⟩
   ·rw[List.getElem?_append_left (by omega)];exact h1
   ·rw[List.take_append_of_le_length (by omega)];exact h2
 ·rcases List.mem_append.1 hx with hx|hx
  ·exact h.nm x hx
  ·rw[List.mem_singleton] at hx;subst hx;exact hs
theorem Z8{L:List (List CU)}{D:List Node}{follow:Bool}{next:List Str→List Str→AtN}:∀(todo:List Str) {ds:List Drx} {names:List Str},Je L D ds names→
  ∃names',Je L D (Fq todo ds).2 names'∧Ez D follow next todo names=Ez D follow next (Fq todo ds).1 names'
 |[],ds,names,h=>⟨names,h,rfl⟩
 |s::t,ds,names,h=>by
  rw[Fq]
  by_cases e:s=dd
  ·rw[if_pos e,Ez,if_pos e];exact Z8 t h.drop
  ·rw[if_neg e];exact⟨names,h,rfl⟩
theorem MH{n:Node}(ha:n.allB=true)(k:n.kind=3):∃l,DP n.target=some l∧n.target.length≤256:=by
 rw[Node.all_eq] at ha;simp only[Bool.and_eq_true] at ha;obtain⟨hz,hk⟩:=F0 ha.2;simp[Dq,k] at hk;obtain⟨h1,h2⟩:=hk;cases h:DP n.target with
 |none=>rw[h] at h1;cases h1
 |some l=>exact⟨l,rfl,h2⟩
def gq(p:List Spot):Fnd:=⟨2,(p[0]?).getD (0,0),p⟩
def Ends(L:List (List CU))(D:List Node)(want:AtN)(t:Fnd):Prop:=
 want.err=0∧∃ds names,Je L D ds names∧((want.names=names∧want.nodes=Dc D names∧t=gq (Er L names))∨
  ∃s y l,D5 s=true∧want.names=names++[s]∧Dn (Dc D names) s=y::l∧y.kind≠2∧want.nodes=y::l∧t=D7 L s (Er L names) Fnd.none)
theorem NJ{L:List (List CU)}{D:List Node}{follow:Bool}{next:List Str→List Str→AtN}(rest:List Str):∀(l pre:List Str) {ds:List Drx},Je L D ds (pre++l)→
  Ez D follow next (l++rest) pre=Ez D follow next rest (pre++l)
 |[],pre,ds,h=>by simp
 |s::l,pre,ds,h=>by
  have hn:=h.nm s (by simp)
  obtain⟨d,h1,h2⟩:=h.dir (pre.length+1) (by simp)
  have e1:(pre++s::l).take (pre.length+1)=pre++[s]:=by rw[List.take_append,List.take_of_length_le (by omega)];simp
  rw[e1] at h2;rw[List.cons_append,Ez,if_neg (GO hn).2.2.1];cases hh:Dn (Dc D pre) s with
  |nil=>exact absurd (by rw[Fn,hh]) (h2.ne (by simp))
  |cons y t=>
   have k2:y.kind=2:=(h2.good y (by rw[Fn,hh];simp)).2.2.1
   simp only[k2,if_true];have:=NJ (follow:=follow) (next:=next) rest l (pre++[s]) (ds:=ds) (by simpa using h)
   rw[this];simp
theorem Ends.own{L:List (List CU)}{D:List Node}{want:AtN}{t:Fnd}(h:Ends L D want t)(k:Nat):HM D false k want.names []=want:=by
 obtain⟨he,ds,names,hw,hc⟩:=h;rw[FV];rcases hc with ⟨h1,h2,h3⟩|⟨s,y,l,hs,h1,h2,h3,h4,h5⟩
 ·have:=NJ (follow:=false) (next:=XW D false k) [] names [] (ds:=ds) (by simpa using hw)
  rw[List.append_nil,List.nil_append] at this;rw[h1,this,Ez];cases want
  simp_all
 ·have:=NJ (follow:=false) (next:=XW D false k) [s] names [] (ds:=ds) (by simpa using hw)
  rw[List.nil_append] at this;rw[h1,this,Ez,if_neg (GO hs).2.2.1,h2];simp only[h3,if_false];rw[if_neg (by simp),if_neg (by simp)]
  cases want
  simp_all
theorem Ends.same{L:List (List CU)}{D:List Node}{want:AtN}{t u:Fnd}(h:Ends L D want t)(k:Ends L D want u):t=u:=by
 obtain⟨_,ds,names,hw,hc⟩:=h;obtain⟨_,ds2,names2,hw2,hc2⟩:=k;rcases hc with ⟨h1,h2,h3⟩|⟨s,y,l,hs,h1,h2,h3,h4,h5⟩<;>rcases hc2 with ⟨k1,k2,k3⟩|⟨s',y',l',hs',k1,k2,k3,k4,k5⟩
 ·rw[h3,k3,←h1,←k1]
 ·exfalso;obtain⟨d,q1,q2,q3⟩:=hw.last;have e:want.nodes=Dc D names:=h2;rw[k4] at e;exact k3 (q3.good y' (by rw[←e];simp)).2.2.1
 ·exfalso;obtain⟨d,q1,q2,q3⟩:=hw2.last;have e:want.nodes=Dc D names2:=k2;rw[h4] at e;exact h3 (q3.good y (by rw[←e];simp)).2.2.1
 ·rw[h1] at k1;obtain⟨e1,e2⟩:=List.append_inj' k1 rfl;cases e2;subst e1;rw[h5,k5]
theorem Un{H:List Node}{k:Nat}{s:Str}{y:Node}{l:List Node}(h:∀n∈H,n.ok∧n.allB=true∧n.kind=2∧n.depth+k≤15∧n.count≤100000)(hs:Dn H s=y::l):
  ∀z∈y::l,z.ok∧z.allB=true∧(y.kind=2→z.kind=2)∧z.depth+(k+1)≤15∧z.count≤100000:=by
 intro z hz;rw[←hs] at hz;obtain⟨n,h1,h2⟩:=Uw hz;obtain⟨q1,q2,q3,q4,q5⟩:=h n h1;have h6:=iY h2;have h7:=((GT (l:=n.items)).2 z h2).1;rw[Node.count_eq] at q5;exact⟨N6 q1 h2,Ml q2 h2,fun k2=>gA hs k2 hz,by omega,by omega⟩
theorem OnP.nil_iff{L:List (List CU)}{p:List Spot}(h:OnP L p []):p=[]:=by
 cases p with
 |nil=>rfl
 |cons x p=>exact h.elim
theorem Ends.facts{L:List (List CU)}{D:List Node}{want:AtN}{t:Fnd}(h:Ends L D want t):
  match want.nodes with
  |[]=>t=⟨2,(0,0),[]⟩∧want.names=[]
  |y::l=>t.kind=y.kind∧Stands L t.sp y∧y.ok∧y.allB=true∧(if y.kind=2 then OnP L t.dirs (y::l)∧t.dirs[0]? =some t.sp∧∀z∈y::l,z.ok∧z.allB=true∧z.kind=2∧z.count≤100000 else t.dirs=[]∧l=[]):=by
 obtain⟨he,ds,names,hw,hc⟩:=h;obtain⟨d,_,_,hd⟩:=hw.last;have hon:=hd.on;rw[hd.at_] at hon;rcases hc with ⟨h1,h2,h3⟩|⟨s,y,l,hs,h1,h2,h3,h4,h5⟩
 ·rw[h2,h3];cases hh:Dc D names with
  |nil=>
   rw[hh] at hon;have hp:=hon.nil_iff;refine⟨by rw[hp];rfl,?_⟩
   rw[h1]
   by_cases e:names=[]
   ·exact e
   ·exact absurd hh (hd.ne e)
  |cons y l=>
   rw[hh] at hon;have hg:=hd.good;rw[hh] at hg;obtain⟨g1,g2,g3,g4,g5⟩:=hg y (by simp)
   cases hp:Er L names with
   |nil=>rw[hp] at hon;exact hon.elim
   |cons x p=>
    rw[hp] at hon;refine⟨g3.symm,hon.1,g1,g2,?_⟩;rw[if_pos g3];exact⟨hon,rfl,fun z hz=>by obtain⟨a,b,c,_,e⟩:=hg z hz;exact⟨a,b,c,e⟩⟩
 ·rw[h4];have hag:=Lo L s _ _ hon (fun n hn=>(hd.good n hn).2.1)
  rw[h2,←h5] at hag;obtain⟨a1,a2,a3,a4,a5,a6,a7,a8⟩:=hag;have hg:=Un hd.good h2 y (by simp)
  refine⟨a1,a4,hg.1,a5,?_⟩;rw[if_neg h3] at a6 ⊢;exact a6
theorem bO{names:List Str}{s:Str}(h:∀x∈names,D5 x=true):(if pathOf names=[47] then pathOf names++s else pathOf names++47::s)=pathOf (names++[s]):=by
 rw[Lt]
 by_cases e:names=[]
 ·subst e;simp[pathOf,Lib.join_nil]
 ·have:pathOf names≠[47]:=by
   obtain⟨l,x,rfl⟩:=(List.eq_nil_or_concat names).resolve_left e;have hx:=GO (h x (by simp))
   rw[List.concat_eq_append,Lt];split
   ·simp[hx.1]
   ·intro e2;have:=congrArg List.length e2;simp[pathOf] at this
  rw[if_neg this,if_neg e]
def Wk.tell(w:Wk)(path s:Str)(rest:List Str)(f:Fnd)(fr:Rt)(there:Bool)(target:Str):Wk×Int:=
 if there=false then (w,2)
 else if f.kind=3∧(rest≠[]∨w.follow=true) then
  if 40 < w.hops+1 then ({w with todo:=rest,hops:=w.hops+1},4)
  else match DP target with
   |none=>({w with todo:=rest,hops:=w.hops+1},1)
   |some l=>({w with todo:=l++rest,hops:=w.hops+1,dirs:=if target.head? =some 47 then w.dirs.take 1 else w.dirs},0)
 else if f.kind=2 then ({w with todo:=rest,dirs:=w.dirs++[⟨if path=[47] then path++s else path++47::s,f.dirs,fr⟩]},0)
 else if rest≠[] then ({w with todo:=rest},3)
 else ({w with todo:=rest,fin:=some (if path=[47] then path++s else path++47::s,f)},0)
structure Going(L:List (List CU))(D:List Node)(want:AtN)(w:Wk)(h:Nat)(names:List Str):Prop where
 on:Je L D w.dirs names
 hops:w.hops+h=40
 td:∀s∈w.todo,s=dd∨D5 s=true
 fin:w.fin=none
 goes:HM D w.follow h w.todo names=want
theorem Going.pop{L:List (List CU)}{D:List Node}{want:AtN}{w:Wk}{h:Nat}{names:List Str}(g:Going L D want w h names):∃names',Going L D want w.pop h names':=by
 obtain⟨names',h1,h2⟩:=Z8 (follow:=w.follow) (next:=XW D w.follow h) w.todo g.on;exact⟨names',h1,g.hops,fun s hs=>g.td s (al hs),g.fin,by have:=g.goes;rw[FV,h2] at this;rw[FV];exact this⟩
theorem Going.step{L:List (List CU)}{D:List Node}{want:AtN}{w:Wk}{h:Nat}{names:List Str}{s:Str}{rest:List Str}{f:Fnd}{fr:Rt}{target:Str}(g:Going L D want w h names)(ht:w.todo=s::rest)(hs:s≠dd)
  (hf:f=D7 L s (Er L names) Fnd.none) (htg:f.kind=3→∀y l,Dn (Dc D names) s=y::l→target=y.target):
  ∃d,w.dirs.getLast? =some d∧d.path=pathOf names∧d.place=Er L names∧names.length≤15∧
  match w.tell (pathOf names) s rest f fr (decide (f.kind≠0)) target with
  |(w',e)=>(e≠0→want.err=e)∧(e=0→(∃h' names',Going L D want w' h' names'∧(w'.todo=rest∧h'=h∨h=h'+1∧∃p,p.length≤128∧w'.todo=p++rest))∨
   (∃g',w'.fin=some (pathOf want.names,g')∧Ends L D want g'∧rest=[]∧w'={w with todo:=[],fin:=some (pathOf want.names,g')})):=by
 obtain⟨d,d1,d2,hd⟩:=g.on.last;have hon:=hd.on;rw[hd.at_] at hon;have hag:=Lo L s _ _ hon (fun n hn=>(hd.good n hn).2.1)
 rw[←hf] at hag;refine⟨d,d1,hd.path,hd.at_,hd.short,?_⟩;have hgo:=g.goes;rw[ht,FV,Ez,if_neg hs] at hgo;have hsr:D5 s=true:=(g.td s (by rw[ht];simp)).resolve_left hs
 have hch:=bO (s:=s) g.on.nm;cases hsn:Dn (Dc D names) s with
 |nil=>
  rw[hsn] at hgo hag;simp only at hgo;have hk:f.kind=0:=by rw[show f=Fnd.none from hag];rfl
  simp only[Wk.tell,hk];simp[←hgo]
 |cons y l=>
  rw[hsn] at hgo hag;simp only at hgo;obtain⟨a1,a2,a3,a4,a5,a6,a7,a8⟩:=hag;have hk0:f.kind≠0:=by rw[a1];exact a2
  have hgd:=Un hd.good hsn;have htd:∀x∈rest,x=dd∨D5 x=true:=fun x hx=>g.td x (by rw[ht];simp[hx])
  simp only[Wk.tell,hk0,ne_eq,not_false_eq_true,decide_true,Bool.true_eq_false,if_false];rw[a1,hch]
  by_cases k2:y.kind=2
  ·rw[if_pos k2] at hgo a6;rw[if_neg (by omega),if_pos k2]
   refine⟨fun h=>absurd rfl h,fun _=>.inl ⟨h,names++[s],⟨?_,g.hops,htd,g.fin,?_⟩,.inl ⟨rfl,rfl⟩⟩⟩
   ·refine g.on.push hsr ⟨rfl,?_,?_,fun n hn=>?_,?_,fun _=>?_⟩
    ·rw[VI,←hf]
    ·rw[Fn,hsn];exact a6.1
    ·rw[Fn,hsn] at hn;obtain⟨q1,q2,q3,q4,q5⟩:=hgd n hn;exact⟨q1,q2,q3 k2,by simpa using q4,q5⟩
    ·rw[Fn];exact Nat.le_trans (aU _ _) hd.few
    ·rw[Fn,hsn];simp
   ·rw[FV];exact hgo
  rw[if_neg k2] at hgo a6
  by_cases c3:y.kind=3∧(rest≠[]∨w.follow=true)
  ·rw[if_pos c3] at hgo;rw[if_pos c3];have hh:=g.hops;have e1:=htg (a1.trans c3.1) y l hsn;subst e1;cases h with
   |zero=>
    rw[if_pos (by omega)]
    refine⟨fun _=>?_,fun h=>absurd h (by simp)⟩
    rw[←hgo];rfl
   |succ h=>
    rw[if_neg (by omega)]
    obtain⟨p,hp1,hp2⟩:=MH a5 c3.1;have hpo:partsOf y.target=p:=by rw[partsOf,hp1];rfl
    rw[hpo] at hgo;simp only[hp1];refine⟨fun h=>absurd trivial h,fun _=>.inl ⟨h,if y.target.head? =some 47 then [] else names,⟨?_,by simp only;omega,fun x hx=>?_,g.fin,hgo⟩,.inr ⟨rfl,p,by have:=KY hp1;omega,rfl⟩⟩⟩
    ·simp only;split
     ·exact g.on.root
     ·exact g.on
    ·rcases List.mem_append.1 hx with hx|hx
     ·exact Ry hp1 x hx
     ·exact htd x hx
  rw[if_neg c3] at hgo;rw[if_neg c3,if_neg k2]
  by_cases cr:rest≠[]
  ·rw[if_pos cr] at hgo;rw[if_pos cr];refine⟨fun _=>by rw[←hgo],fun h=>absurd h (by simp)⟩
  ·rw[if_neg cr] at hgo;rw[if_neg cr];have hr:rest=[]:=by simpa using cr
   refine⟨fun h=>absurd rfl h,fun _=>.inr ⟨f,by rw[←hgo],⟨by rw[←hgo],w.dirs,names,g.on,.inr ⟨s,y,l,hsr,by rw[←hgo],hsn,k2,by rw[←hgo],hf⟩⟩,hr,by rw[←hgo,hr]⟩⟩
theorem Going.end{L:List (List CU)}{D:List Node}{want:AtN}{w:Wk}{h:Nat}{names:List Str}(g:Going L D want w h names)(ht:w.todo=[]):
  ∃d,w.dirs.getLast? =some d∧d.path=pathOf want.names∧Ends L D want (gq d.place):=by
 obtain⟨d,d1,d2,hd⟩:=g.on.last;have hgo:=g.goes;rw[ht,FV,Ez] at hgo;refine⟨d,d1,by rw[←hgo];exact hd.path,by rw[←hgo],w.dirs,names,g.on,.inl ⟨by rw[←hgo],by rw[←hgo],by rw[hd.at_]⟩⟩
abbrev LN:=Nat×Node
def Uj:List Node→Nat→List LN
 |[],_=>[]
 |n::l,k=>(k,n)::Uj l (k+1)
def Ln:List LN→List LN
 |[]=>[]
 |z::l=>z::if z.2.opq=true then [] else Ln l
def DI(Z:List LN)(s:Str):List LN:=Z.filterMap fun z=>(z.2.find s).map fun n=>(z.1,n)
def LA(Z:List LN)(s:Str):List LN:=
 match DI Z s with
 |[]=>[]
 |z::l=>if z.2.kind=4 then [] else if z.2.kind≠2 then [z] else Ln ((z::l).takeWhile fun n=>decide (n.2.kind=2))
def Ia(D:List Node)(names:List Str):List LN:=names.foldl LA (Ln (Uj D 0))
theorem Kd(D:List Node)(names:List Str)(s:Str):Ia D (names++[s])=LA (Ia D names) s:=by simp[Ia]
theorem Ux:∀Z:List LN,(Ln Z).map (·.2)=Dm (Z.map (·.2))
 |[]=>rfl
 |z::l=>by
  rw[Ln,List.map_cons,List.map_cons,Dm];split
  ·rfl
  ·rw[Ux l]
theorem eK:∀(D:List Node) (k:Nat),(Uj D k).map (·.2)=D
 |[],_=>rfl
 |n::l,k=>by rw[Uj,List.map_cons,eK l]
theorem Sa(s:Str):∀Z:List LN,(DI Z s).map (·.2)=CI (Z.map (·.2)) s
 |[]=>rfl
 |z::l=>by
  have ih:=Sa s l;simp only[DI,CI,List.map_cons,List.filterMap_cons] at ih ⊢;cases z.2.find s<;>simp[ih]
theorem eP:∀l:List LN,(l.takeWhile fun n=>decide (n.2.kind=2)).map (·.2)=(l.map (·.2)).takeWhile fun n=>decide (n.kind=2)
 |[]=>rfl
 |z::l=>by
  simp only[List.takeWhile_cons,List.map_cons];split
  ·rw[List.map_cons,eP l]
  ·rfl
theorem UY(Z:List LN)(s:Str):(LA Z s).map (·.2)=Dn (Z.map (·.2)) s:=by
 have h:=Sa s Z;unfold LA Dn;rw[←h];cases DI Z s with
 |nil=>rfl
 |cons z l=>
  simp only[List.map_cons];split
  ·rfl
  ·split
   ·rfl
   ·rw[Ux,eP,List.map_cons]
theorem Mb(D:List Node)(names:List Str):(Ia D names).map (·.2)=Dc D names:=by
 have gen:∀(names:List Str) (Z:List LN),(names.foldl LA Z).map (·.2)=names.foldl Dn (Z.map (·.2)):=by
  intro names
  induction names with
  |nil=>intro Z;rfl
  |cons s l ih=>intro Z;rw[List.foldl_cons,List.foldl_cons,ih,UY]
 rw[Ia,gen,Ux,eK];rfl
def atP:Node→List Str→Option Node
 |n,[]=>some n
 |n,s::l=>if n.kind=2 then (match n.find s with|some x=>atP x l|none=>none) else none
theorem SU:∀(names:List Str) (n:Node) (s:Str),atP n (names++[s])=(match atP n names with|some m=>if m.kind=2 then m.find s else none|none=>none)
 |[],n,s=>by
  simp only[List.nil_append,atP];split
  ·cases n.find s<;>rfl
  ·rfl
 |x::l,n,s=>by
  rw[List.cons_append,atP,atP];split
  ·cases hx:n.find x with
   |none=>rfl
   |some m=>exact SU l m s
  ·rfl
def MF(D:List Node)(names:List Str):Option Nat:=D.findIdx? fun n=>(atP n names).isSome
theorem Ub:∀Z:List LN,Ln Z <+:Z
 |[]=>List.prefix_refl _
 |z::l=>by
  rw[Ln];split
  ·exact⟨l,rfl⟩
  ·exact(List.prefix_cons_inj z).2 (Ub l)
theorem lN(Z:List LN)(s:Str):LA Z s <+:DI Z s:=by
 unfold LA;cases DI Z s with
 |nil=>exact List.prefix_refl _
 |cons z l=>
  simp only;split
  ·exact List.nil_prefix
  ·split
   ·exact⟨l,rfl⟩
   ·exact(Ub _).trans (List.takeWhile_prefix _)
theorem jh{l m:List LN}(h:l <+:m)(hs:m.Pairwise fun a b=>a.1 < b.1){z x:LN}(hz:z∈l)(hx:x∈m)(hle:x.1≤z.1):x∈l:=by
 obtain⟨t,rfl⟩:=h;rcases List.mem_append.1 hx with hx|hx
 ·exact hx
 ·have:=(List.pairwise_append.1 hs).2.2 z hz x hx;omega
structure cM(D:List Node)(names:List Str):Prop where
 sorted:(Ia D names).Pairwise fun a b=>a.1 < b.1
 sound:∀z∈Ia D names,∃n,D[z.1]? =some n∧atP n names=some z.2
 all:∀j n m,D[j]? =some n→atP n names=some m→(∃z∈Ia D names,j≤z.1)→(j,m)∈Ia D names
theorem SP:∀{D:List Node} {k:Nat} {z:LN},z∈Uj D k↔k≤z.1∧D[z.1 - k]? =some z.2
 |[],k,z=>by simp[Uj]
 |n::l,k,(j,m)=>by
  rw[Uj,List.mem_cons,SP];simp only;constructor
  ·rintro (h|⟨h1,h2⟩)
   ·cases h;simp
   ·refine⟨by omega,?_⟩
    rw[show j - k=(j - (k+1))+1 by omega,List.getElem?_cons_succ];exact h2
  ·rintro⟨h1,h2⟩
   by_cases e:j=k
   ·subst e;simp at h2;left;rw[h2]
   ·right;rw[show j - k=(j - (k+1))+1 by omega,List.getElem?_cons_succ] at h2
    exact⟨by omega,h2⟩
theorem PP:∀(D:List Node) (k:Nat),(Uj D k).Pairwise fun a b=>a.1 < b.1
 |[],_=>by simp[Uj]
 |n::l,k=>by
  rw[Uj,List.pairwise_cons];exact⟨fun z hz=>by have:=(SP.1 hz).1;simp only;omega,PP l (k+1)⟩
theorem cM.start(D:List Node):cM D []:=by
 have hp:=Ub (Uj D 0);refine⟨(PP D 0).sublist hp.sublist,fun z hz=>?_,fun j n m hj hm ⟨z,hz,hle⟩=>?_⟩
 ·have:=(SP.1 (hp.subset hz)).2;exact⟨z.2,by simpa using this,rfl⟩
 ·cases hm;exact jh hp (PP D 0) hz (SP.2 ⟨Nat.zero_le _,by simpa using hj⟩) hle
theorem V5{Z:List LN}(h:Z.Pairwise fun a b=>a.1 < b.1)(s:Str):(DI Z s).Pairwise fun a b=>a.1 < b.1:=by
 unfold DI;rw[List.pairwise_filterMap];refine h.imp fun {a b} hab x hx y hy=>?_
 rw[Option.map_eq_some_iff] at hx hy;obtain⟨_,_,rfl⟩:=hx;obtain⟨_,_,rfl⟩:=hy;exact hab
theorem cM.step{D:List Node}{names:List Str}(h:cM D names)(hk:∀z∈Ia D names,z.2.kind=2)(s:Str):cM D (names++[s]):=by
 have hp:=lN (Ia D names) s;have hs:=V5 h.sorted s;refine⟨?_,?_,?_⟩
 ·rw[Kd];exact hs.sublist hp.sublist
 ·intro z hz;rw[Kd] at hz;have hz2:=hp.subset hz;unfold DI at hz2;obtain⟨y,hy,he⟩:=List.mem_filterMap.1 hz2;rw[Option.map_eq_some_iff] at he;obtain⟨x,hx,rfl⟩:=he;obtain⟨n,h1,h2⟩:=h.sound y hy;refine⟨n,h1,?_⟩;rw[SU,h2];simp only[hk y hy,if_true];exact hx
 ·rintro j n m hj hm ⟨z,hz,hle⟩;rw[Kd] at hz ⊢;have hz2:=hp.subset hz;unfold DI at hz2;obtain⟨y,hy,he⟩:=List.mem_filterMap.1 hz2;rw[Option.map_eq_some_iff] at he;obtain⟨x,hx,rfl⟩:=he;rw[SU] at hm;cases hq:atP n names with
  |none=>rw[hq] at hm;cases hm
  |some q=>
   rw[hq] at hm;simp only at hm;split at hm
   ·have hj2:=h.all j n q hj hq ⟨y,hy,hle⟩;have:(j,m)∈DI (Ia D names) s:=List.mem_filterMap.2 ⟨(j,q),hj2,by simp[hm]⟩
    exact jh hp hs hz this hle
   ·cases hm
theorem cM.level{D:List Node}{names:List Str}(h:cM D names){z:LN}{l:List LN}(hz:Ia D names=z::l):MF D names=some z.1:=by
 obtain⟨n,h1,h2⟩:=h.sound z (by rw[hz];simp)
 have hlt:=(List.getElem?_eq_some_iff.1 h1).1;rw[MF,List.findIdx?_eq_some_iff_getElem];refine⟨hlt,?_,fun j hj=>?_⟩
 ·have:=(List.getElem?_eq_some_iff.1 h1).2;rw[this,h2];rfl
 ·intro hsome;obtain⟨m,hm⟩:=Option.isSome_iff_exists.1 hsome;have hjl:j < D.length:=by omega
  have:=h.all j D[j] m (List.getElem?_eq_getElem hjl) hm ⟨z,by rw[hz];simp,by omega⟩
  have hs:=h.sorted;rw[hz] at this hs;rcases List.mem_cons.1 this with e|e
  ·rw[←e] at hj;simp at hj
  ·have:=(List.pairwise_cons.1 hs).1 _ e;simp only at this;omega
def K8:List Spot→List Node→List LN
 |x::p,n::l=>(x.1,n)::K8 p l
 |_,_=>[]
theorem Sg{L:List (List CU)}:∀{p:List Spot} {l:List Node},OnP L p l→(K8 p l).map (·.1)=p.map (·.1)∧(K8 p l).map (·.2)=l
 |[],[],_=>⟨rfl,rfl⟩
 |x::p,n::l,h=>by
  obtain⟨h1,h2⟩:=Sg h.2;simp[K8,h1,h2]
 |[],_::_,h=>h.elim
 |_::_,[],h=>h.elim
theorem l9{Z:List LN}{p:List Spot}{l:List Node}{L:List (List CU)}(h:OnP L p l)(h1:Z.map (·.1)=p.map (·.1))(h2:Z.map (·.2)=l):Z=K8 p l:=by
 obtain⟨k1,k2⟩:=Sg h;have:∀(A B:List LN),A.map (·.1)=B.map (·.1)→A.map (·.2)=B.map (·.2)→A=B:=by
  intro A
  induction A with
  |nil=>intro B e _;cases B with|nil=>rfl|cons _ _=>simp at e
  |cons a A ih=>
   intro B e1 e2;cases B with
   |nil=>simp at e1
   |cons b B=>
    simp only[List.map_cons,List.cons.injEq] at e1 e2;rw[ih B e1.2 e2.2];obtain⟨a1,a2⟩:=a;obtain⟨b1,b2⟩:=b
    simp_all
 exact this _ _ (h1.trans k1.symm) (h2.trans k2.symm)
theorem Ti(L:List (List CU))(s:Str):∀(p:List Spot) (dirs:List Node) (f:Fnd),OnP L p dirs→(∀n∈dirs,n.allB=true)→f.kind=2→
  (D7 L s p f).dirs.map (·.1)=f.dirs.map (·.1)++(Ln ((DI (K8 p dirs) s).takeWhile fun n=>decide (n.2.kind=2))).map (·.1)
 |[],[],f,_,_,hf=>by simp[D7,K8,DI,Ln]
 |x::p,n::l,f,h,ha,hf=>by
  obtain⟨⟨P,hP,hat⟩,h2⟩:=h;have hrec:=fun f hf=>Ti L s p l f h2 (fun y hy=>ha y (by simp[hy])) hf
  have hlook:=hat.look (ha n (by simp)) s
  rw[D7,hP];simp only;cases hk:n.find s with
  |none=>
   rw[hk] at hlook;simp only at hlook;rw[hlook];simp only;rw[hrec f hf];simp[K8,DI,hk]
  |some y=>
   rw[hk] at hlook;obtain⟨j,hj,hy⟩:=hlook;rw[hj];simp only;have hino:=hy.ino;have hkd:(Bq P (j:Nat)).kind=y.kind:=by rw[hino];rfl
   have hop:(Bq P (j:Nat)).opq=y.opq:=by rw[hino];rfl
   have he:DI (K8 (x::p) (n::l)) s=(x.1,y)::DI (K8 p l) s:=by simp[K8,DI,hk]
   rw[he]
   by_cases k2:y.kind=2
   ·have f0:¬f.kind=0:=by omega
    rw[if_neg (c:=(Bq P (j:Nat)).kind≠2) (by rw[hkd];simp[k2]),hop,List.takeWhile_cons_of_pos (by simp[k2]),Ln]
    simp only[if_neg f0];cases ho:y.opq with
    |true=>simp
    |false=>
     simp only[if_false,Bool.false_eq_true];rw[hrec ⟨f.kind,f.sp,f.dirs++[(x.1,j)]⟩ hf];simp
   ·rw[if_pos (by rw[hkd];exact k2),if_neg (by omega),List.takeWhile_cons_of_neg (by simp[k2])]
    simp[Ln]
 |[],_::_,_,h,_,_=>h.elim
 |_::_,[],_,h,_,_=>h.elim
theorem cC(L:List (List CU))(s:Str):∀(p:List Spot) (dirs:List Node),OnP L p dirs→(∀n∈dirs,n.allB=true)→
  match LA (K8 p dirs) s with
  |[]=>True
  |z::l=>(D7 L s p Fnd.none).sp.1=z.1∧(z.2.kind=2→(D7 L s p Fnd.none).dirs.map (·.1)=(z::l).map (·.1))
 |[],[],_,_=>by simp[LA,K8,DI]
 |x::p,n::l,h,ha=>by
  obtain⟨⟨P,hP,hat⟩,h2⟩:=h;have hal:∀y∈l,y.allB=true:=fun y hy=>ha y (by simp[hy])
  have hrec:=cC L s p l h2 hal;have hlook:=hat.look (ha n (by simp)) s
  rw[D7,hP];simp only;cases hk:n.find s with
  |none=>
   rw[hk] at hlook;simp only at hlook;rw[hlook];simp only;have e1:LA (K8 (x::p) (n::l)) s=LA (K8 p l) s:=by simp only[LA,K8,DI,List.filterMap_cons,hk,Option.map_none]
   rw[e1];exact hrec
  |some y=>
   rw[hk] at hlook;obtain⟨j,hj,hy⟩:=hlook;rw[hj];simp only;have hino:=hy.ino;have hkd:(Bq P (j:Nat)).kind=y.kind:=by rw[hino];rfl
   have hop:(Bq P (j:Nat)).opq=y.opq:=by rw[hino];rfl
   have he:DI (K8 (x::p) (n::l)) s=(x.1,y)::DI (K8 p l) s:=by simp[K8,DI,hk]
   simp only[LA,he]
   by_cases k4:y.kind=4
   ·rw[if_pos k4];trivial
   rw[if_neg k4]
   by_cases k2:y.kind=2
   ·rw[if_neg (c:=(Bq P (j:Nat)).kind≠2) (by rw[hkd];simp[k2]),if_neg (c:=y.kind≠2) (by simp[k2]),List.takeWhile_cons_of_pos (by simp[k2]),Ln,hop,hkd]
    simp only[Fnd.none,if_true,List.nil_append];cases ho:y.opq with
    |true=>simp
    |false=>
     simp only[if_false,Bool.false_eq_true];have hm:=Ti L s p l ⟨y.kind,(x.1,j),[(x.1,j)]⟩ h2 hal k2;obtain⟨q,q1,_,_⟩:=Oq L s p l ⟨y.kind,(x.1,j),[(x.1,j)]⟩ h2 hal k2;refine⟨by rw[q1],fun _=>by rw[hm];simp⟩
   ·rw[if_pos (c:=(Bq P (j:Nat)).kind≠2) (by rw[hkd];exact k2),if_pos (c:=y.kind≠2) k2,if_pos (c:=Fnd.none.kind=0∧(Bq P (j:Nat)).kind≠4) ⟨rfl,by rw[hkd];exact k4⟩]
    exact⟨rfl,fun e=>absurd e k2⟩
 |[],_::_,h,_=>h.elim
 |_::_,[],h,_=>h.elim
theorem dP:∀(D:List Node) (k:Nat),(IZ (D.map fun n=>n.tab 0) k).map (·.1)=(Ln (Uj D k)).map (·.1)
 |[],_=>rfl
 |n::l,k=>by
  have ho:(Bq (n.tab 0) 0).opq=n.opq:=by
   have:=(At.root n).ino;simp only[Int.natCast_zero] at this;exact congrArg CU.opq this
  rw[List.map_cons,IZ,Uj,Ln,ho];split
  ·rfl
  ·simp[dP l (k+1)]
theorem Je.levels{D:List Node}{ds:List Drx}{names:List Str}(h:Je (D.map fun n=>n.tab 0) D ds names):∀k,k≤names.length→(Er (D.map fun n=>n.tab 0) (names.take k)).map (·.1)=(Ia D (names.take k)).map (·.1)∧cM D (names.take k):=by
 intro k
 induction k with
 |zero=>intro _;exact⟨dP D 0,cM.start D⟩
 |succ k ih=>
  intro hk;obtain⟨i1,i2⟩:=ih (by omega)
  obtain⟨d,_,hd⟩:=h.dir k (by omega)
  obtain⟨d',_,hd'⟩:=h.dir (k+1) hk;obtain⟨s,hs⟩:∃s,names[k]? =some s:=⟨names[k]'(by omega),List.getElem?_eq_getElem (by omega)⟩
  have htk:names.take (k+1)=names.take k++[s]:=by rw[List.take_succ,hs];rfl
  rw[htk] at hd' ⊢;have hon:=hd.on;rw[hd.at_] at hon;have hz:=l9 hon i1.symm (Mb D _);have hkd:∀z∈Ia D (names.take k),z.2.kind=2:=fun z hz=>(hd.good z.2 (by rw[←Mb];exact List.mem_map_of_mem hz)).2.2.1
  refine⟨?_,i2.step hkd s⟩;rw[VI,Kd,hz];have hl:=cC _ s _ _ hon (fun n hn=>(hd.good n hn).2.1)
  have hsn:=UY (K8 (Er (D.map fun n=>n.tab 0) (names.take k)) (Dc D (names.take k))) s
  rw[(Sg hon).2] at hsn;have hne:=hd'.ne (by simp)
  rw[Fn] at hne;cases hc:LA (K8 (Er (D.map fun n=>n.tab 0) (names.take k)) (Dc D (names.take k))) s with
  |nil=>rw[hc] at hsn;exact absurd hsn.symm hne
  |cons z l=>
   rw[hc] at hl hsn;refine hl.2 ?_;have:=hd'.good z.2 (by rw[Fn,←hsn];simp)
   exact this.2.2.1
theorem Ends.level{D:List Node}{want:AtN}{t:Fnd}(h:Ends (D.map fun n=>n.tab 0) D want t)(hn:want.nodes≠[]):MF D want.names=some t.sp.1:=by
 obtain⟨he,ds,names,hw,hc⟩:=h;obtain⟨i1,i2⟩:=hw.levels names.length (Nat.le_refl _);rw[List.take_length] at i1 i2;obtain⟨d,_,_,hd⟩:=hw.last;have hon:=hd.on;rw[hd.at_] at hon;rcases hc with ⟨h1,h2,h3⟩|⟨s,y,l,hs,h1,h2,h3,h4,h5⟩
 ·rw[h1,h3];cases hz:Ia D names with
  |nil=>
   have:=Mb D names;rw[hz] at this;exact absurd (h2.trans this.symm) hn
  |cons z l=>
   rw[i2.level hz];rw[hz] at i1;cases hp:Er (D.map fun n=>n.tab 0) names with
   |nil=>rw[hp] at i1;simp at i1
   |cons x p=>
    rw[hp] at i1;simp at i1;simp[gq,i1.1]
 ·rw[h1,h5];have hz:=l9 hon i1.symm (Mb D _);have hkd:∀z∈Ia D names,z.2.kind=2:=fun z hz=>(hd.good z.2 (by rw[←Mb];exact List.mem_map_of_mem hz)).2.2.1
  have hl:=cC _ s _ _ hon (fun n hn=>(hd.good n hn).2.1)
  have hsn:=UY (K8 (Er (D.map fun n=>n.tab 0) names) (Dc D names)) s
  rw[(Sg hon).2,h2] at hsn;have hst:=i2.step hkd s;cases hc:LA (K8 (Er (D.map fun n=>n.tab 0) names) (Dc D names)) s with
  |nil=>rw[hc] at hsn;cases hsn
  |cons z l=>
   rw[hc] at hl;have:Ia D (names++[s])=z::l:=by rw[Kd,hz,hc]
   rw[hst.level this,hl.1]
end Go.Av
