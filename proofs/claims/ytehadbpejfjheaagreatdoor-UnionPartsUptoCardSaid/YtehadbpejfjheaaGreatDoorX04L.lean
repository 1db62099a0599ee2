/- Parts of the proofs of this seat: abstract values over the model, and what the functions of the program do. No condition. -/
import Derived.Test.YtehadbpejfjheaaGreatDoorXSplit
import Derived.Test.YtehadbpejfjheaaGreatDoorY05
import Derived.Test.YtehadbpejfjheaaGreatDoorDRow
import Derived.Test.YtehadbpejfjheaaGreatDoorX03
import Derived.Test.YtehadbpejfjheaaGreatDoorY01
set_option linter.all false
set_option maxRecDepth 100000
namespace Go.Av
open Go.Proofs
theorem bo{w0:World}{f:Nat}{args:List AV}(h:∀Q:AV→St→Prop,(∀S,Q (.bool true) S)→AC w0 f args [] Q):AC w0 f args [] fun r _=>r= .bool true:=h _ (fun _=>rfl)
structure Chain(k:Nat)(d:Node):Prop where
 ok:d.ok
 kind:d.kind=2
 count:d.count=k+1
 depth:d.depth=k
 all:d.allB=true
theorem Chain.zero{q1 q2:Rt}(k1:okR q1 ([]:List Str))(k2:okR q2 ([]:List Node)):Chain 0 (Gf false [] q1 [] q2):=
 ⟨O9 (by simp) (by simp) k1 k2,rfl,rfl,rfl,rfl⟩
theorem Chain.succ{k:Nat}{d:Node}(h:Chain k d){q1 q2:Rt}(k1:okR q1 [([97]:Str)])(k2:okR q2 [d]):Chain (k+1) (Gf false [[97]] q1 [d] q2):=by
 refine⟨O9 (by simp) (by simp[h.ok]) k1 k2,rfl,?_,?_,?_⟩
 ·rw[Node.count_eq];show 1+Node.counts [d]=_;rw[Node.counts,Node.counts,h.count];omega
 ·rw[Node.depth_eq];show Node.depths [d]=_;rw[Node.depths,Node.depths,h.depth];omega
 ·rw[Node.all_eq];show (Node.allsB [d]&&_)=true;rw[Node.allsB,h.all];rfl
open Go.Proofs
theorem JN{n:Node}(h:C2 n=true):n.kind=2∧n.allB=true∧n.count≤4096∧n.depth≤15:=by
 simpa[C2] using h
open Go.Proofs
def okA{α:Type}(r:Rt)(l:List α):Prop:=(r= .nil∧l=[])∨((∃t,r= .own t)∧l≠[])
theorem okA.cr{α:Type}{r:Rt}{l:List α}(h:okA r l):r.strip=cr l:=by
 rcases h with ⟨rfl,rfl⟩|⟨⟨t,rfl⟩,h⟩
 ·rfl
 ·cases l
  ·exact(h rfl).elim
  ·rfl
theorem okA.ne{α:Type}{r:Rt}{l:List α}(h:okA r l):r≠ .none∧r≠ .full:=by
 rcases h with ⟨rfl,rfl⟩|⟨⟨t,rfl⟩,h⟩<;>simp
theorem okA.app{α:Type}{t:Nat}{l:List α}{x:α}:okA (.own t) (l++[x]):=.inr ⟨⟨t,rfl⟩,by simp⟩
open Go.Proofs
theorem SX{w0:World}(n:Node):∀{S:St} {Q:AV→St→Prop} {id:Nat} {T:List Ino},n.ok→Zr S id T→T.length+n.count≤1000000→
  (∀S' T',Zr S' id (T++T')→T'.map Ino.p=n.tab T.length→Kp id S S'→Q (.int .i64 T.length) S')→AC w0 Dd [.ptr id 0,.agg n.c] S Q:=by
 induction n using Node.ind with
 |h n ih=>
  intro S Q id T hok hT hcnt hq;have hcc:=n.c_eq';rw[hcc];apply KO;unfold G9;rw[Node.ok_iff] at hok;obtain⟨h1,h2,h3,h4,h5,h6,h7⟩:=hok;rw[Node.count_eq] at hcnt;simp;have key:∀K:AV→St→Prop,(∀S1 t,id < t→S1[id]? =some (.cells [.rs 8 t 0 (T.length+1)] Cd)→S1[t]? =some (.cells (DH Ino.c (T++[Qf])) 0)→Kp id S S1→K (.int .i64 T.length) S1)→
    AA (Ap BD S (.ptr id 0)) fun t12=>AA (BU (AV.strip t12)) fun t13=>AA (Ap BD S (.ptr id 0)) fun t18=>
     AA (appendR An (stripMem S (.ptr id 0)) (AV.strip0 t18) (.vs 8 [[.int .i64 0,.bool false,.vs 1 [] .nil,.vs 7 [] .nil,.int .i64 0,.vs 2 [] .nil,.str [],.vs 1 [] .nil]] .full)) fun p21=>
     AA (CU BD p21.2 (.ptr id 0) p21.1) fun S1=>K t13 S1:=by
   intro K hK;rcases hT with ⟨rfl,hS⟩|⟨t,ht,hS,hS2⟩
   ·have e1:stripMem S (.ptr id 0)=S:=by
     rw[Fg hS];obtain⟨hlt,he⟩:=List.getElem?_eq_some_iff.1 hS;rw[show List.modify [AV.vs 8 [] .nil] 0 AV.strip1=[AV.vs 8 [] .nil] from rfl,←he,List.set_getElem_self]
    have hlt:=(List.getElem?_eq_some_iff.1 hS).1;have hS3:(S++[Obj.cells [.int .i64 0,.bool false,.vs 1 [] .nil,.vs 7 [] .nil,.int .i64 0,.vs 2 [] .nil,.str [],.vs 1 [] .nil] 0])[id]? =some (.cells [.vs 8 [] .nil] Cd):=by
     rw[List.getElem?_append_left hlt];exact hS
    simp[CA hS,e1,appendR,CH,lim,CF hS3];refine hK _ S.length hlt ?_ ?_ ?_
    ·exact A9 hS3
    ·rw[Cc (by omega)];simp[DH,Ino.c,Qf]
    ·intro j hj;rw[Cc (by omega),List.getElem?_append_left (by omega)]
   ·have e1:stripMem S (.ptr id 0)=S:=by
     rw[Fg hS];obtain⟨hlt,he⟩:=List.getElem?_eq_some_iff.1 hS;rw[show List.modify [AV.rs 8 t 0 T.length] 0 AV.strip1=[AV.rs 8 t 0 T.length] from rfl,←he,List.set_getElem_self]
    have hlt:=(List.getElem?_eq_some_iff.1 hS).1;have hl:(DH Ino.c T).length=T.length*8:=Ii (fun x=>x.c_len) T
    have hS3:(S.set t .dead++[Obj.cells (DH Ino.c T++[.int .i64 0,.bool false,.vs 1 [] .nil,.vs 7 [] .nil,.int .i64 0,.vs 2 [] .nil,.str [],.vs 1 [] .nil]) 0])[id]? =some (.cells [.rs 8 t 0 T.length] Cd):=by
     rw[List.getElem?_append_left (by simpa using hlt),Cc (by omega)];exact hS
    have hlim:T.length+1≤lim:=by unfold lim;omega
    have htk:(DH Ino.c T).take (T.length*8)=DH Ino.c T:=by rw[←hl,List.take_length]
    simp[CA hS,e1,appendR,CH,Co,hS2,hl,hlim,htk,CF hS3];refine hK _ S.length hlt ?_ ?_ ?_
    ·exact A9 hS3
    ·rw[Cc (by omega)]
     rw[List.getElem?_append_right (by simp)]
     simp[DH,Ino.c,Qf]
    ·intro j hj;rw[Cc (by omega),List.getElem?_append_left (by simp;omega),Cc (by omega)]
  refine key _ (fun S1 t ht hS1 hS1t hK1=>?_)
  simp;have hnames:okR n.names.r.strip n.names.l:=fun e=>h2.1 (by cases h:n.names.r<;>simp_all [Rt.strip])
  refine ED (fun j=>∀(S2:St) (T2:List Ino) (r:Rt),Zr S2 id (T++Qf::T2)→T2.map Ino.p=Node.tabs n.items (T.length+1)→Kp id S S2→okA r (Node.idsOf n.items (T.length+1))→
   j (some [.int .i64 n.kind,.bool n.opq,.vs 1 (n.names.l.map EH) n.names.r.strip,.vs 7 (n.items.map Node.c) n.ir.strip,.int .i64 n.size,.vs 2 (n.exts.map Ext.c) n.er.strip,.str n.target,.vs 1 ((Node.idsOf n.items (T.length+1)).map Zs) r]) S2) ?_ (fun j hj=>?_)
  ·intro S2 T2 r hT2 hm hK2 hr;have hl1:=h2.2.1;have hl2:=h6.2.1;simp;refine N9 (l:=n.names.l) (by simpa[okR] using hnames) (by omega) (fun q1 k1=>?_)
   refine UN (l:=n.exts) (by simpa[okR] using h6.1) (by omega) (fun q2 k2=>?_)
   simp;rcases hT2 with ⟨e,_⟩|⟨t2,ht2,hS2,hS2t⟩
   ·simp at e
   simp[CA hS2];have hget:(T++Qf::T2)[T.length]? =some Qf:=by simp
   have hS2t':S2[t2]? =some (.cells (DH Ino.c (T++Qf::T2)++[]) 0):=by rw[List.append_nil];exact hS2t
   have hst:=XJ (T:=An) (enc:=Ino.c) (n:=8) (v:=.agg (Ino.c ⟨n.hd T.length,q1,q2,r⟩)) ⟨n.hd T.length,q1,q2,r⟩ hS2t' rfl (fun x=>x.c_len) hget rfl (by simp[Ino.c])
   have hc8:Ino.c ⟨n.hd T.length,q1,q2,r⟩=[.int .i64 n.kind,.bool n.opq,.vs 1 (n.names.l.map EH) q1.strip,.vs 7 [] .nil,.int .i64 n.size,.vs 2 (n.exts.map Ext.c) q2.strip,.str n.target,.vs 1 ((Node.idsOf n.items (T.length+1)).map Zs) r.strip]:=rfl;rw[hc8] at hst;rw[hst];have hset:(T++Qf::T2).set T.length ⟨n.hd T.length,q1,q2,r⟩=T++(⟨n.hd T.length,q1,q2,r⟩:Ino)::T2:=by simp
   rw[hset,List.append_nil];refine hq _ (⟨n.hd T.length,q1,q2,r⟩::T2) (.inr ⟨t2,ht2,?_,?_⟩) ?_ ?_
   ·rw[Cc (by omega),hS2]
    simp
   ·exact A9 hS2t
   ·rw[List.map_cons,hm,Node.tab_eq]
   ·exact hK2.trans (Kp.set (by omega))
  ·refine B6 n.items (fun i (r:Rt)=>([.int .i64 i],[some [.int .i64 n.kind,.bool n.opq,.vs 1 (n.names.l.map EH) n.names.r.strip,.vs 7 (n.items.map Node.c) n.ir.strip,.int .i64 n.size,.vs 2 (n.exts.map Ext.c) n.er.strip,.str n.target,.vs 1 ((Node.idsOf (n.items.take i) (T.length+1)).map Zs) r]]))
    (fun i r S'=>∃T2:List Ino,Zr S' id (T++Qf::T2)∧T2.map Ino.p=Node.tabs (n.items.take i) (T.length+1)∧Kp id S S'∧okA r (Node.idsOf (n.items.take i) (T.length+1))) .nil (by simp[Node.idsOf]) ⟨[],.inr ⟨t,ht,by simpa using hS1,hS1t⟩,by simp[Node.tabs_nil],hK1,.inl ⟨rfl,by simp[Node.idsOf]⟩⟩ ?_ ?_
   ·rintro i r S2 v bx x c hxi hd hc hm ⟨T2,hT2,hTm,hK2,hr⟩ hv;simp at hv;obtain⟨hv1,hv2⟩:=hv;simp[hv1,hv2,hc,hxi];have hlen:(T++Qf::T2).length=T.length+1+Node.counts (n.items.take i):=by
     have:=congrArg List.length hTm;rw[List.length_map,Node.tabs_len] at this;simp;omega
    have hct:=Node.counts_take hxi;have hcl:=Node.counts_take_le n.items (i+1);refine ih x hm (h4 x hm) hT2 (by rw[hlen];omega) (fun S3 T3 hT3 hTm3 hK3=>?_)
    rw[hlen] at hTm3 ⊢;obtain⟨n1,n2⟩:=hr.ne;have hlim:(Node.idsOf (n.items.take i) (T.length+1)).length+1≤lim:=by rw[Node.idsOf_len,List.length_take];unfold lim;omega
    simp[BN,CH,n1,hlim]
    try simp (disch:=omega) only[wrap64]
    refine .next c (.own (FB AR r)) ?_ ⟨T2++T3,by simpa using hT3,?_,hK2.trans hK3,?_⟩
    ·rw[Node.idsOf_take hxi];simp
    ·rw[List.map_append,hTm,hTm3,Node.tabs_take hxi]
    ·rw[Node.idsOf_take hxi];exact .app
   ·rintro r S2 v bx ⟨T2,hT2,hTm,hK2,hr⟩ hv N;simp at hv;obtain⟨hv1,hv2⟩:=hv;rw[List.take_length] at hTm hr;have:=hj S2 T2 r hT2 hTm hK2 hr;simp[hv1,hv2];simpa using this
open Go.Proofs
theorem SC{w0:World}(hm:LA w0){n:Node}{S:St}(hok:n.ok){Q:AV→St→Prop}
  (h1:C2 n=true→∀S' id,Sx S S'→S.length≤id→Br S' id (n.tab 0)→Q (.tup [.ptr id 0,.int .i64 0]) S') (h2:C2 n=false→∀S',Sx S S'→Q (.tup [.nil,.int .i64 1]) S'):AC w0 I7 [.agg n.c] S Q:=by
 have hcc:=n.c_eq';rw[hcc];apply Qp;unfold Mw;simp[←hcc];refine Sn hm hok (fun S1 hS1=>?_)
 cases hr:C2 n with
 |false=>
  simp;exact h2 hr _ hS1
 |true=>
  obtain⟨r1,r2,r3,r4⟩:=JN hr;simp;refine SX n (T:=[]) hok (.inl ⟨rfl,by simp⟩) (by simp;omega) (fun S2 T2 hT2 hm2 hK=>?_)
  rcases hT2 with ⟨e,_⟩|⟨t,ht,hS2,hS2t⟩
  ·have:=congrArg List.length hm2;rw[List.length_map,Node.tab_len,Node.count_eq] at this;simp at e;subst e;simp at this;omega
  refine h1 hr S2 S1.length (fun j hj=>?_) hS1.le ⟨t,T2,ht,by simpa using hS2,by simpa using hS2t,by simpa using hm2⟩
  have:=hS1.le;rw[hK j (by omega),List.getElem?_append_left (by omega)]
  exact hS1 j hj
theorem FA{w0:World}{S:St}{id:Nat}{P:List Bk}{i:Int}(hB:Br S id P){Q:AV→St→Prop}(hq:∀nr er ir,Q (.agg (Ino.c ⟨BO P i,nr,er,ir⟩)) S):AC w0 CB [.ptr id 0,.int .i64 i] S Q:=by
 obtain⟨t,T,h1,hS,hSt,hm⟩:=hB;apply K8;unfold Hi;have hl:T.length=P.length:=by rw[←hm,List.length_map]
 by_cases c:i < 0
 ·have:=hq .nil .nil .nil;simp[AG,c];simpa[BO,c,Ino.c,Bk.none] using this
 by_cases c2:(T.length:Int)≤i
 ·have hn:P[i.toNat]? =none:=by simp;omega
  have:=hq .nil .nil .nil;simp[AG,c,CA hS,c2];simpa[BO,c,hn,Ino.c,Bk.none] using this
 ·obtain⟨k,rfl⟩:∃k:Nat,i=k:=⟨i.toNat,by omega⟩
  have hk:k < T.length:=by omega
  obtain⟨x,hx⟩:∃x,T[k]? =some x:=⟨T[k],by simp[hk]⟩
  have hpx:P[k]? =some x.p:=by rw[←hm];simp[hx]
  have hSt':S[t]? =some (.cells (DH Ino.c T++[]) 0):=by rw[List.append_nil];exact hSt
  have hld:=Xx (T:=An) (enc:=Ino.c) (n:=8) hSt' rfl rfl (fun x=>x.c_len) hx
  have:=hq x.nr x.er x.ir;have c':¬((k:Int) < 0):=by omega
  have e:BO P (k:Int)=x.p:=by simp[BO,hpx];omega
  rw[e] at this;simp[AG,c',CA hS,c2,hk,hld];simpa[Ino.c] using this
theorem Qs{w0:World}{S:St}{id:Nat}{P:List Bk}{i:Int}(hB:Br S id P){Q:AV→St→Prop}(hq:Q (.int .i64 (BO P i).kind) S):AC w0 EV [.ptr id 0,.int .i64 i] S Q:=by
 apply Jk;unfold Gg;refine FA hB (fun _ _ _=>?_)
 simp[Ino.c];exact hq
theorem Jc{w0:World}{S:St}{id:Nat}{P:List Bk}{i:Int}(hB:Br S id P){Q:AV→St→Prop}(hq:Q (.bool (BO P i).opq) S):AC w0 DC [.ptr id 0,.int .i64 i] S Q:=by
 apply Iq;unfold FT;refine FA hB (fun _ _ _=>?_)
 simp[Ino.c];exact hq
def PI(x:Bk)(s:Str):Option Nat:=(x.names.findIdx? (fun y=>decide (y=s))).bind (x.ids[·]?)
def Bk.good(x:Bk):Prop:=x.names.Pairwise (fun a b=>slt a b=true)∧x.names.length=x.ids.length∧x.names.length≤1000000
theorem Q3{w0:World}{S:St}{id:Nat}{P:List Bk}{i:Int}{s:Str}(hB:Br S id P)(hg:(BO P i).good){Q:AV→St→Prop}
  (hq:Q (match PI (BO P i) s with|some k=>.tup [.int .i64 k,.bool true]|none=>.tup [.int .i64 0,.bool false]) S):AC w0 EW [.ptr id 0,.int .i64 i,.str s] S Q:=by
 apply Jm;unfold Gb;refine FA hB (fun _ _ _=>?_)
 obtain⟨g1,g2,g3⟩:=hg;simp[Ino.c];refine QW (by omega) g1 (fun k hk k1 k2=>?_)
 have hf:=Z5 g1 k1 k2;unfold PI at hq;rw[hf] at hq
 by_cases c:(BO P i).names[k]? =some s
 ·rw[if_pos c] at hq;have hkl:=(List.getElem?_eq_some_iff.1 c).1;obtain⟨x,hx⟩:∃x,(BO P i).ids[k]? =some x:=⟨(BO P i).ids[k]'(by omega),by simp[show k < (BO P i).ids.length by omega]⟩
  simp[hx] at hq;simp[c,hx];exact hq
 ·rw[if_neg c] at hq;simp at hq;simp[c];exact hq
open Go.Proofs
theorem Ka{w0:World}{S:St}{s:Stk}{Q:AV→St→Prop}(hq:Q (.int .i64 s.l.length) S):AC w0 DV [.agg s.c] S Q:=by
 unfold Stk.c;apply Lu;unfold IN;simp;exact hq
def Stk.at_(s:Stk)(k:Int):Option Mnt:=if k < 0 then Option.none else s.l[k.toNat]?
theorem Hl{w0:World}{S:St}{s:Stk}{k:Int}{Q:AV→St→Prop}(hq:Q (match s.at_ k with|some m=>.ptr m.id 0|none=>.nil) S):AC w0 DL [.agg s.c,.int .i64 k] S Q:=by
 unfold Stk.c;apply NN;unfold Im;unfold Stk.at_ at hq
 by_cases c:k < 0
 ·rw[if_pos c] at hq;simp[AG,c];exact hq
 rw[if_neg c] at hq
 by_cases c2:(s.l.length:Int)≤k
 ·have hn:s.l[k.toNat]? =none:=by simp;omega
  rw[hn] at hq;simp[AG,c,c2];exact hq
 ·obtain⟨i,rfl⟩:∃i:Nat,k=i:=⟨k.toNat,by omega⟩
  have hk:i < s.l.length:=by omega
  obtain⟨x,hx⟩:∃x,s.l[i]? =some x:=⟨s.l[i],by simp[hk]⟩
  simp only[Int.toNat_natCast,hx] at hq;have c':¬((i:Int) < 0):=by omega
  simp[AG,c',c2,hx,Mnt.c];exact hq
theorem VW{w0:World}{S:St}{s:Stk}{k:Int}{Q:AV→St→Prop}(hq:Q (match s.at_ k with|some m=>.int .i64 m.num|none=>.int .i64 (-1)) S):AC w0 F8 [.agg s.c,.int .i64 k] S Q:=by
 unfold Stk.c;apply NG;unfold Iy;unfold Stk.at_ at hq
 by_cases c:k < 0
 ·rw[if_pos c] at hq;simp[AG,c];exact hq
 rw[if_neg c] at hq
 by_cases c2:(s.l.length:Int)≤k
 ·have hn:s.l[k.toNat]? =none:=by simp;omega
  rw[hn] at hq;simp[AG,c,c2];exact hq
 ·obtain⟨i,rfl⟩:∃i:Nat,k=i:=⟨k.toNat,by omega⟩
  have hk:i < s.l.length:=by omega
  obtain⟨x,hx⟩:∃x,s.l[i]? =some x:=⟨s.l[i],by simp[hk]⟩
  simp only[Int.toNat_natCast,hx] at hq;have c':¬((i:Int) < 0):=by omega
  simp[AG,c',c2,hx,Mnt.c];exact hq
theorem Tt{w0:World}{S:St}{s:Stk}{id:Nat}{P:List Bk}(hs:s.ok){Q:AV→St→Prop}(h1:64≤s.l.length→Q (.tup [.agg s.c,.int .i64 0,.int .i64 6]) S)
  (h2:s.l.length < 64→∀r,r.strip≠ .nil→Q (.tup [.agg (Stk.c ⟨⟨s.next,id,P⟩::s.l,r,s.next+1⟩),.int .i64 s.next,.int .i64 0]) S):AC w0 Fe [.agg s.c,.ptr id 0] S Q:=by
 unfold Stk.c at*;apply MF;unfold IG;have hn:=hs.next
 by_cases c:64≤s.l.length
 ·have:=h1 c;simp[show (64:Int)≤s.l.length by omega]
  exact this
 ·simp[show ¬(64:Int)≤s.l.length by omega]
  try simp (disch:=omega) only[wrap64]
  by_cases e:s.l=[]
  ·have:=h2 (by omega) .full (by simp)
   simp[BN,CH,e,Mnt.c] at this ⊢;exact this
  ·have:=h2 (by omega) .none (by simp)
   simp[Mnt.c] at this;simp[BN,CH,e,show s.l.length+1≤lim by unfold lim;omega,show 1+s.l.length≤lim by unfold lim;omega]
   exact this
structure KM(S0 S:St)(l:List Node)(s:Stk):Prop where
 ok:s.ok
 on:s.on S
 len:s.l.length=l.length
 next:s.next=l.length
 tabs:s.l.map Mnt.tab=l.reverse.map fun n=>n.tab 0
 nums:s.l.map Mnt.num=(List.range l.length).reverse
 ids:∀m∈s.l,S0.length≤m.id
@[simp] theorem Stk.c_len(s:Stk):s.c.length=2:=rfl
@[simp] theorem Stk.c_free(s:Stk):(AV.agg s.c).free=true:=by simp[Stk.c]
@[simp] theorem Stk.c_strip(s:Stk):(AV.agg s.c).strip= .agg s.c:=by simp[Stk.c]
@[simp] theorem Stk.c_map(s:Stk):s.c.map AV.strip1=s.c:=by simp[Stk.c]
@[simp] theorem Stk.c_free1(s:Stk):(∀x∈s.c,x.free1=true)↔True:=by simp[Stk.c]
@[simp] theorem Stk.c_take(s:Stk):s.c.take 2=s.c:=rfl
@[simp] theorem Stk.c_drop(s:Stk):s.c.drop 2=[]:=rfl
theorem Pg{w0:World}(hm:LA w0){l:List Node}{r:Rt}{S:St}(hok:∀n∈l,n.ok)(hl:l.length≤1000000){Q:AV→St→Prop}
  (hq:∀S',Sx S S'→(Ik l 0=0→∀s,KM S S' l s→Q (.tup [.agg s.c,.int .i64 0]) S')∧(Ik l 0≠0→Q (.tup [.agg Stk.none.c,.int .i64 (Ik l 0:Nat)]) S')):AC w0 JS [.vs 7 (l.map Node.c) r] S Q:=by
 apply UJ;unfold QQ;simp[AG];refine B6 l (fun i (s:Stk)=>([.int .i64 i],[some [.vs 2 [] .nil,.int .i64 0],some s.c])) (fun i s S'=>Sx S S'∧KM S S' (l.take i) s∧Ik l 0=Ik (l.drop i) i) Stk.none (by simp[Stk.none_c]) ⟨Sx.refl _,⟨⟨fun _=>rfl,by simp[Stk.none],by simp[Stk.none],by simp[Stk.none]⟩,by simp[Stk.on,Stk.none],by simp[Stk.none],by simp[Stk.none],by simp[Stk.none],by simp[Stk.none],by simp[Stk.none]⟩,by simp⟩ ?_ ?_
 ·rintro i s S' v b n c hxi hd hc hmem ⟨hSx,hs,he⟩ hv;simp at hv;obtain⟨hv1,hv2,hv3⟩:=hv;rw[hd,Ik] at he;have hlen:(l.take i).length=i:=by rw[List.length_take];omega
  simp[hv1,hv2,hv3,hc,hxi];refine SC hm (hok n hmem) (fun hr S2 id hS2 hid hB=>?_) (fun hr S2 hS2=>?_)
  ·rw[if_neg (by rw[hr];simp)] at he
   simp;have hon:=hs.on.mono hS2;refine Tt (P:=n.tab 0) hs.ok (fun h64=>?_) (fun h64 r2 hr2=>?_)
   ·rw[hs.len,hlen] at h64;rw[if_pos h64] at he;have:=(hq S2 (hSx.trans hS2)).2 (by omega)
    rw[he] at this;simp;simpa[Stk.none_c] using this
   ·rw[hs.len,hlen] at h64;rw[if_neg (by omega)] at he
    have hok2:(Stk.mk (⟨s.next,id,n.tab 0⟩::s.l) r2 (s.next+1)).ok:=⟨fun e=>absurd e hr2,by simp[hs.len,hlen];omega,by simp[hs.next,hlen];omega,fun m hm'=>by
     rcases List.mem_cons.1 hm' with rfl|hm'
     ·simp[hs.next,hlen];omega
     ·exact hs.ok.num m hm'⟩
    have htk:l.take (i+1)=l.take i++[n]:=by rw[List.take_succ,hxi];rfl
    generalize hs2:Stk.mk (⟨s.next,id,n.tab 0⟩::s.l) r2 (s.next+1)=s2 at hok2 ⊢;simp
    try simp (disch:=omega) only[wrap64]
    refine .next c s2 rfl ⟨hSx.trans hS2,?_,he⟩;subst hs2;refine⟨hok2,fun m hm'=>?_,?_,?_,?_,?_,?_⟩
    ·rcases List.mem_cons.1 hm' with rfl|hm'
     ·exact hB
     ·exact hon m hm'
    ·rw[htk];simp[hs.len,hlen]
    ·rw[htk];simp[hs.next,hlen]
    ·rw[htk];simp[hs.tabs]
    ·rw[htk];simp[hs.nums,hlen,hs.next,List.range_succ]
    ·intro m hm';rcases List.mem_cons.1 hm' with rfl|hm'
     ·exact Nat.le_trans hSx.le hid
     ·exact hs.ids m hm'
  ·rw[if_pos hr] at he;have:=(hq S2 (hSx.trans hS2)).2 (by omega)
   rw[he] at this;simp;simpa[Stk.none_c] using this
 ·rintro s S' v b ⟨hSx,hs,he⟩ hv N;simp at hv;obtain⟨hv1,hv2,hv3⟩:=hv;rw[List.drop_length,Ik] at he;rw[List.take_length] at hs;simp[hv1,hv2,hv3];exact(hq S' hSx).1 he s hs
open Go.Proofs
abbrev Spot:=Nat×Nat
def spC(x:Spot):List AV:=[.int .i64 x.1,.int .i64 x.2]
@[simp] theorem eW(x:Spot):(spC x).length=2:=rfl
structure Fnd where
 kind:Int
 sp:Spot
 dirs:List Spot
 deriving DecidableEq
def Fnd.c(f:Fnd)(r:Rt):List AV:=[.int .i64 f.kind,.int .i64 f.sp.1,.int .i64 f.sp.2,.vs 2 (f.dirs.map spC) r]
def Fnd.none:Fnd:=⟨0,(0,0),[]⟩
def Ga:List (List Bk)→Nat→List Spot
 |[],_=>[]
 |P::L,k=>(k,0)::if (BO P 0).opq=true then [] else Ga L (k+1)
def Cy(L:List (List Bk))(name:Str):List Spot→Fnd→Fnd
 |[],f=>f
 |x::p,f=>match L[x.1]? with
  |none=>Cy L name p f
  |some P=>match PI (BO P x.2) name with
   |none=>Cy L name p f
   |some j=>
    if (BO P j).kind≠2 then (if f.kind=0∧(BO P j).kind≠4 then ⟨(BO P j).kind,(x.1,j),[]⟩ else f)
    else
     let f1:Fnd:=if f.kind=0 then ⟨(BO P j).kind,(x.1,j),[]⟩ else f
     let f2:Fnd:=⟨f1.kind,f1.sp,f1.dirs++[(x.1,j)]⟩
     if (BO P j).opq=true then f2 else Cy L name p f2
def Stk.tabs(s:Stk):List (List Bk):=s.l.map Mnt.tab
def YP(L:List (List Bk)):Prop:=∀P∈L,∀i,(BO P i).good
theorem Bk.none_good:Bk.none.good:=⟨by simp[Bk.none],rfl,by simp[Bk.none]⟩
theorem X2(n:Node):n.ok→n.allB=true→n.count≤1000000→∀b,∀p∈n.tab b,p.good:=by
 induction n using Node.ind with
 |h n ih=>
  intro hok hall hc b p hp;rw[Node.all_eq] at hall;simp only[Bool.and_eq_true] at hall;obtain⟨ha,ho⟩:=hall;obtain⟨hz,hk⟩:=Iu ho;rw[Node.ok_iff] at hok;obtain⟨h1,h2,h3,h4,h5,h6,h7⟩:=hok;rw[Node.count_eq] at hc;rw[Node.tab_eq] at hp;rcases List.mem_cons.1 hp with rfl|hp
  ·have hl:=GG (l:=n.items)
   by_cases k:n.kind=2
   ·have hn:Fa n=true:=by simpa[Dl,k] using hk
    obtain⟨c1,c2⟩:=QC hn;obtain⟨c3,_,_⟩:=Te _ _ c1;exact⟨c3,by simp[Node.hd,Node.idsOf_len,c2],by simp only[Node.hd];rw[c2];omega⟩
   ·have hi:=KR hz k;have hnm:n.names.l=[]:=by simp[Dw,k] at hz;exact hz.1.1.1.2
    exact⟨by simp[Node.hd,hnm],by simp[Node.hd,hnm,hi,Node.idsOf],by simp[Node.hd,hnm]⟩
  ·have:∀(l:List Node) (b:Nat),(∀x∈l,x∈n.items)→p∈Node.tabs l b→p.good:=by
    intro l
    induction l with
    |nil=>intro b _ h;rw[Node.tabs_nil] at h;cases h
    |cons x l ihl=>
     intro b hm h;rw[Node.tabs_cons] at h;rcases List.mem_append.1 h with h|h
     ·have hx:=hm x (by simp)
      exact ih x hx (h4 x hx) (P5 ha x hx) (by have:=(GG (l:=n.items)).2 x hx;omega) b p h
     ·exact ihl _ (fun y hy=>hm y (by simp[hy])) h
   exact this n.items _ (fun _ h=>h) hp
theorem Wm{P:List Bk}{i:Int}:BO P i=Bk.none∨BO P i∈P:=by
 unfold BO;split
 ·exact .inl rfl
 ·cases h:P[i.toNat]? with
  |none=>exact .inl rfl
  |some x=>exact .inr (by simpa using List.mem_of_getElem? h)
theorem U9{n:Node}(hok:n.ok)(hr:C2 n=true)(i:Int):(BO (n.tab 0) i).good:=by
 obtain⟨r1,r2,r3,r4⟩:=JN hr;rcases Wm (P:=n.tab 0) (i:=i) with h|h
 ·rw[h];exact Bk.none_good
 ·exact X2 n hok r2 (by omega) 0 _ h
theorem ON:∀(l:List Node) (k:Nat),Ik l k=0→∀n∈l,C2 n=true
 |[],_,_=>by simp
 |n::l,k,h=>by
  rw[Ik] at h;split at h
  ·cases h
  ·rename_i c;split at h
   ·cases h
   ·intro x hx;rcases List.mem_cons.1 hx with rfl|hx
    ·simpa using c
    ·exact ON l _ h x hx
theorem KM.good{S0 S:St}{l:List Node}{s:Stk}(h:KM S0 S l s)(hok:∀n∈l,n.ok)(he:Ik l 0=0):YP s.tabs:=by
 intro P hP i;unfold Stk.tabs at hP;rw[h.tabs] at hP;obtain⟨n,hn,rfl⟩:=List.mem_map.1 hP;rw[List.mem_reverse] at hn;exact U9 (hok n hn) (ON l 0 he n hn) i
theorem Stk.at_some{s:Stk}{k:Nat}{m:Mnt}(h:s.l[k]? =some m):s.at_ (k:Int)=some m∧s.tabs[k]? =some m.tab:=by
 have:¬((k:Int) < 0):=by omega
 simp[Stk.at_,Stk.tabs,h]
theorem Stk.at_none{s:Stk}{k:Nat}(h:s.l[k]? =Option.none):s.at_ (k:Int)=Option.none∧s.tabs[k]? =Option.none:=by
 have:¬((k:Int) < 0):=by omega
 simp[Stk.at_,Stk.tabs,h]
theorem UV{w0:World}{S:St}{s:Stk}(hs:s.ok)(hon:s.on S){Q:AV→St→Prop}(hq:∀r,okR r (Ga s.tabs 0)→Q (.vs 2 ((Ga s.tabs 0).map spC) r) S):AC w0 Jx [.agg s.c] S Q:=by
 have hc:s.c=[.vs 2 (s.l.map Mnt.c) s.r.strip,.int .i64 s.next]:=rfl;rw[hc];apply Sm;unfold Ob;simp[AG,←hc];refine Ka ?_;have hlen:=hs.len;refine B6 s.l (fun i (p:List Spot×Rt)=>([.vs 2 (p.1.map spC) p.2,.int .i64 i],[some s.c])) (fun i p S'=>S'=S∧okA p.2 p.1∧p.1.length=i∧Ga s.tabs 0=p.1++Ga (s.tabs.drop i) i) ([],.nil) (by simp[hc]) ⟨rfl,.inl ⟨rfl,rfl⟩,rfl,by simp⟩ ?_ ?_
 ·rintro i ⟨p,r⟩ S' v b m c hxi hd hcc hm ⟨rfl,hr,hpl,he⟩ hv;simp at hv hr hpl he;obtain⟨⟨hv1,hv2⟩,hv3⟩:=hv;obtain⟨n1,n2⟩:=hr.ne;have hlim:p.length+1≤lim:=by unfold lim;omega
  have hdt:s.tabs.drop i=m.tab::s.tabs.drop (i+1):=by
   unfold Stk.tabs;rw[←List.map_drop,hd,List.map_cons,←List.map_drop]
  rw[hdt,Ga] at he;obtain⟨a1,a2⟩:=Stk.at_some hxi;simp[hv1,hv2,hv3,hcc,BN,CH,n1,hlim];refine Hl ?_;rw[a1];simp;refine Jc (hon m hm) ?_;cases ho:(BO m.tab 0).opq with
  |true=>
   rw[if_pos ho] at he;have:=hq .none YG;rw[he] at this;simp;simpa[spC] using this
  |false=>
   rw[if_neg (by rw[ho];simp)] at he
   simp
   try simp (disch:=omega) only[wrap64]
   refine .next c (p++[(i,0)],.own (FB BS r)) (by simp[spC]) ⟨rfl,.app,by simp[hpl],?_⟩
   rw[he];simp
 ·rintro⟨p,r⟩ S' v b ⟨rfl,hr,hpl,he⟩ hv N;simp at hv hr hpl he;obtain⟨⟨hv1,hv2⟩,hv3⟩:=hv;have hdl:s.tabs.drop s.l.length=[]:=by unfold Stk.tabs;simp
  rw[hdl,Ga,List.append_nil] at he;have:=hq r.strip (fun e=>by
   rw[he];rcases hr with ⟨_,h⟩|⟨⟨t,rfl⟩,_⟩
   ·exact h
   ·simp[Rt.strip] at e)
  rw[he] at this;simp[hv1,hv2];exact this
theorem UY{w0:World}{S:St}{s:Stk}{p:List Spot}{pr:Rt}{name:Str}(hs:s.ok)(hon:s.on S)(hg:YP s.tabs)(hpl:p.length≤1000000){Q:AV→St→Prop}
  (hq:∀r,okR r (Cy s.tabs name p Fnd.none).dirs→Q (.tup [.agg ((Cy s.tabs name p Fnd.none).c r.strip),.bool (decide (¬(Cy s.tabs name p Fnd.none).kind=0))]) S):
  AC w0 KY [.agg s.c,.vs 2 (p.map spC) pr,.str name] S Q:=by
 have hc:s.c=[.vs 2 (s.l.map Mnt.c) s.r.strip,.int .i64 s.next]:=rfl;rw[hc];apply Sh;unfold OR;simp[←hc];refine ED (fun j=>∀(f:Fnd) (r:Rt),okA r f.dirs→Cy s.tabs name p Fnd.none=f→j (some (f.c r)) S) (fun f r hr he=>?_) (fun j hj=>?_)
 ·rw[he] at hq;have:=hq r.strip (fun e=>by
   rcases hr with ⟨_,h⟩|⟨⟨t,rfl⟩,_⟩
   ·exact h
   ·simp[Rt.strip] at e)
  simp[Fnd.c];simpa[Fnd.c] using this
 refine B6 p (fun i (q:Fnd×Rt)=>([.int .i64 i],[some s.c,some (q.1.c q.2)])) (fun i q S'=>S'=S∧okA q.2 q.1.dirs∧q.1.dirs.length≤i∧Cy s.tabs name p Fnd.none=Cy s.tabs name (p.drop i) q.1) (Fnd.none,.nil) (by simp[Fnd.c,Fnd.none]) ⟨rfl,.inl ⟨rfl,rfl⟩,by simp[Fnd.none],by simp⟩ ?_ ?_
 ·rintro i ⟨f,r⟩ S' v b x c hxi hd hcc hm ⟨rfl,hr,hfl,he⟩ hv;simp at hv hr hfl he;obtain⟨hv1,hv2,hv3⟩:=hv;rw[hd] at he;obtain⟨n1,n2⟩:=hr.ne;have hlim:f.dirs.length+1≤lim:=by unfold lim;omega
  have hc2:=hc;simp only[Fnd.c] at hv3;simp[hv1,hv2,hv3,hcc,hxi,spC];refine Hl ?_;cases hL:s.l[x.1]? with
  |none=>
   obtain⟨a1,a2⟩:=Stk.at_none hL;rw[Cy,a2] at he;simp only at he;rw[a1];simp
   try simp (disch:=omega) only[wrap64]
   exact .next c (f,r) (by simp[Fnd.c]) ⟨rfl,hr,by simp;omega,he⟩
  |some m=>
   obtain⟨a1,a2⟩:=Stk.at_some hL;have hmm:=List.mem_of_getElem? hL;have hB:=hon m hmm;have hgood:=hg m.tab (by unfold Stk.tabs;exact List.mem_map.2 ⟨m,hmm,rfl⟩)
   rw[Cy,a2] at he;simp only at he;rw[a1];simp;refine Q3 hB (hgood _) ?_;cases hk:PI (BO m.tab x.2) name with
   |none=>
    rw[hk] at he;simp only at he;simp
    try simp (disch:=omega) only[wrap64]
    exact .next c (f,r) (by simp[Fnd.c]) ⟨rfl,hr,by simp;omega,he⟩
   |some k=>
    rw[hk] at he;simp only at he;simp;refine Qs hB ?_
    by_cases k2:(BO m.tab k).kind=2
    case neg=>
     rw[if_pos k2] at he;simp[k2]
     by_cases f0:f.kind=0
     ·by_cases k4:(BO m.tab k).kind=4
      ·rw[if_neg (by simp[k4])] at he
       simp[f0,k4];have:=hj f r hr he;simpa[Fnd.c,f0] using this
      ·rw[if_pos ⟨f0,k4⟩] at he;simp[f0,k4];have:=hj ⟨(BO m.tab k).kind,(x.1,k),[]⟩ .nil (.inl ⟨rfl,rfl⟩) he;simpa[Fnd.c] using this
     ·rw[if_neg (by simp[f0])] at he
      simp[f0];have:=hj f r hr he;simpa[Fnd.c] using this
    rw[if_neg (by simp[k2])] at he
    simp[k2];obtain⟨f1,hf1⟩:∃f1:Fnd,f1=if f.kind=0 then ⟨(BO m.tab k).kind,(x.1,k),[]⟩ else f:=⟨_,rfl⟩
    obtain⟨r1,hr1⟩:∃r1:Rt,r1=if f.kind=0 then .nil else r:=⟨_,rfl⟩
    have hok1:okA r1 f1.dirs:=by
     rw[hf1,hr1];split
     ·exact .inl ⟨rfl,rfl⟩
     ·exact hr
    have hl1:f1.dirs.length≤i:=by
     rw[hf1];split
     ·simp
     ·exact hfl
    have hlim1:f1.dirs.length+1≤lim:=by unfold lim;omega
    obtain⟨m1,m2⟩:=hok1.ne;rw[←hf1] at he;refine ED (fun jj=>jj (some (f1.c r1))) ?_ (fun jj hjj=>?_)
    ·simp[Fnd.c,BN,CH,m1,hlim1];refine Jc hB ?_;cases ho:(BO m.tab k).opq with
     |true=>
      rw[if_pos ho] at he;have:=hj _ (.own (FB BS r1)) .app he;simp;simpa[Fnd.c,spC] using this
     |false=>
      rw[if_neg (by rw[ho];simp)] at he
      simp
      try simp (disch:=omega) only[wrap64]
      exact .next c (⟨f1.kind,f1.sp,f1.dirs++[(x.1,k)]⟩,.own (FB BS r1)) (by simp[Fnd.c,spC]) ⟨rfl,.app,by simp;omega,he⟩
    ·by_cases f0:f.kind=0
     ·rw[if_pos f0] at hf1 hr1;subst hf1 hr1;simp[f0];simpa[Fnd.c,k2] using hjj
     ·rw[if_neg f0] at hf1 hr1;subst hf1 hr1;simp[f0];simpa[Fnd.c] using hjj
 ·rintro⟨f,r⟩ S' v b ⟨rfl,hr,hfl,he⟩ hv N;simp at hv hr he;obtain⟨hv1,hv2,hv3⟩:=hv;rw[Cy] at he;simp[hv1,hv2,hv3];exact hj f r hr he
theorem Rb:∀{l:List Node} {k:Nat} {x:Node} (b:Nat),l[k]? =some x→(Node.idsOf l b)[k]? =some (b+Node.counts (l.take k))
 |[],k,x,b,h=>by simp at h
 |y::l,0,x,b,h=>by simp[Node.idsOf,Node.counts]
 |y::l,k+1,x,b,h=>by
  simp at h;have:=Rb (b+y.count) h;simp only[Node.idsOf,List.getElem?_cons_succ,List.take_succ_cons,Node.counts,this];rw[Nat.add_assoc]
theorem Rn(P:List Bk)(i:Nat):BO P (i:Int)=(P[i]?).getD Bk.none:=by
 have:¬((i:Int) < 0):=by omega
 simp[BO,this]
theorem YL(n:Node):BO (n.tab 0) 0=n.hd 0:=by
 have:=Rn (n.tab 0) 0;rw[Node.tab_eq] at this ⊢;simpa using this
structure Less(f g:Fnd):Prop where
 kind:f.kind=g.kind
 dirs:f.dirs.length=g.dirs.length
 sp:f.kind≠0→f.sp=(g.sp.1+1,g.sp.2)
def PB(l:List Node):Bool:=decide (l.length≤8)&&l.all fun n=>n.small&&C2 n
theorem Tr{l:List Node}:PB l=true↔l.length≤8∧∀n∈l,n.small=true∧C2 n=true:=by simp[PB]
theorem Kr:∀(l:List Node) (k:Nat),(∀n∈l,C2 n=true)→l.length+k≤64→Ik l k=0
 |[],_,_,_=>rfl
 |n::l,k,h,hk=>by
  rw[Ik,if_neg (by rw[h n (by simp)];simp),if_neg (by simp at hk;omega),Kr l (k+1) (fun x hx=>h x (by simp[hx])) (by simp at hk;omega)]
def At(P:List Bk)(i:Nat)(n:Node):Prop:=∀j,j < n.count→P[i+j]? =(n.tab i)[j]?
theorem Ug:∀{l:List Node} {k:Nat} {x:Node} (b:Nat),l[k]? =some x→∀j,j < x.count→(Node.tabs l b)[Node.counts (l.take k)+j]? =(x.tab (b+Node.counts (l.take k)))[j]?
 |[],k,x,b,h,_,_=>by simp at h
 |y::l,0,x,b,h,j,hj=>by
  simp at h;subst h;rw[Node.tabs_cons];simp only[List.take_zero,Node.counts,Nat.zero_add,Nat.add_zero];rw[List.getElem?_append_left (by rw[Node.tab_len];exact hj)]
 |y::l,k+1,x,b,h,j,hj=>by
  simp at h;have:=Ug (b+y.count) h j hj;rw[Node.tabs_cons,List.take_succ_cons,Node.counts,List.getElem?_append_right (by rw[Node.tab_len];omega),Node.tab_len,show y.count+Node.counts (l.take k)+j - y.count=Node.counts (l.take k)+j by omega,this,Nat.add_assoc]
theorem At.hd{P:List Bk}{i:Nat}{n:Node}(h:At P i n):P[i]? =some (n.hd i):=by
 have:=h 0 (by rw[Node.count_eq];omega)
 rw[Node.tab_eq] at this;simpa using this
theorem At.ino{P:List Bk}{i:Nat}{n:Node}(h:At P i n):BO P (i:Nat)=n.hd i:=by rw[Rn,h.hd];rfl
theorem At.root(n:Node):At (n.tab 0) 0 n:=fun j _=>by rw[Nat.zero_add]
theorem At.kid{P:List Bk}{i:Nat}{n:Node}(h:At P i n){k:Nat}{x:Node}(hk:n.items[k]? =some x):At P (i+1+Node.counts (n.items.take k)) x:=fun j hj=>by
 have h1:=Ug (i+1) hk j hj;have h2:Node.counts (n.items.take k)+x.count≤Node.counts n.items:=by
  have:∀(l:List Node) (k:Nat),l[k]? =some x→Node.counts (l.take k)+x.count≤Node.counts l:=by
   intro l
   induction l with
   |nil=>intro k h;simp at h
   |cons y l ih=>
    intro k h;cases k with
    |zero=>simp at h;subst h;simp[Node.counts]
    |succ k=>simp at h;have:=ih k h;simp only[List.take_succ_cons,Node.counts];omega
  exact this _ _ hk
 have h3:=h (1+(Node.counts (n.items.take k)+j)) (by rw[Node.count_eq];omega)
 rw[Node.tab_eq,Nat.add_comm 1,List.getElem?_cons_succ,h1] at h3;rw[←h3];congr 1;omega
theorem R2{n:Node}(h:n.allB=true):n.names.l.length=n.items.length:=by
 rw[Node.all_eq] at h;simp only[Bool.and_eq_true] at h;obtain⟨hz,hk⟩:=Iu h.2
 by_cases k:n.kind=2
 ·have hn:Fa n=true:=by simpa[Dl,k] using hk
  exact(QC hn).2
 ·have hi:=KR hz k;have hnm:n.names.l=[]:=by simp[Dw,k] at hz;exact hz.1.1.1.2
  rw[hi,hnm];rfl
theorem Ri{n x:Node}(h:n.allB=true)(hx:x∈n.items):x.allB=true:=by
 rw[Node.all_eq] at h;simp only[Bool.and_eq_true] at h;exact P5 h.1 x hx
theorem XB{n:Node}(h:n.allB=true):n.kind=1∨n.kind=2∨n.kind=3∨n.kind=4:=by
 rw[Node.all_eq] at h;simp only[Bool.and_eq_true] at h;exact bL h.2
theorem UK{n x:Node}{s:Str}(h:n.find s=some x):x∈n.items:=by
 unfold Node.find at h;cases hk:n.names.l.findIdx? (fun x=>decide (x=s)) with
 |none=>rw[hk] at h;cases h
 |some k=>rw[hk] at h;exact List.mem_of_getElem? h
theorem At.look{P:List Bk}{i:Nat}{n:Node}(h:At P i n)(ha:n.allB=true)(s:Str):
  match n.find s with
  |none=>PI (BO P (i:Nat)) s=none
  |some x=>∃j,PI (BO P (i:Nat)) s=some j∧At P j x:=by
 rw[h.ino];unfold Node.find PI;have hl:=R2 ha;simp only[Node.hd];cases hk:n.names.l.findIdx? (fun x=>decide (x=s)) with
 |none=>rfl
 |some k=>
  have hlt:=(List.findIdx?_eq_some_iff_getElem.1 hk).1;have hx:n.items[k]? =some n.items[k]:=List.getElem?_eq_getElem (by omega)
  simp only[Option.bind_some,hx];exact⟨_,Rb _ hx,h.kid hx⟩
def Stands(L:List (List Bk))(x:Spot)(n:Node):Prop:=∃P,L[x.1]? =some P∧At P x.2 n
def OnP(L:List (List Bk)):List Spot→List Node→Prop
 |[],[]=>True
 |x::p,n::l=>Stands L x n∧OnP L p l
 |_,_=>False
def D5:List Node→List Node
 |[]=>[]
 |n::l=>n::if n.opq=true then [] else D5 l
def DX(dirs:List Node)(s:Str):List Node:=dirs.filterMap (·.find s)
def DZ(dirs:List Node)(s:Str):List Node:=
 match DX dirs s with
 |[]=>[]
 |x::l=>if x.kind=4 then [] else if x.kind≠2 then [x] else D5 ((x::l).takeWhile fun n=>decide (n.kind=2))
def QL:List Node→Str→Nat
 |[],_=>0
 |n::l,s=>match n.find s with|some _=>0|none=>QL l s+1
theorem KP(L:List (List Bk))(s:Str):∀(p:List Spot) (dirs:List Node) (f:Fnd),OnP L p dirs→(∀n∈dirs,n.allB=true)→f.kind=2→
  ∃q,Cy L s p f=⟨2,f.sp,f.dirs++q⟩∧OnP L q (D5 ((DX dirs s).takeWhile fun n=>decide (n.kind=2)))∧(q.map (·.1)).Sublist (p.map (·.1))
 |[],[],f,_,_,hf=>⟨[],by rw[Cy];simp[←hf],trivial,List.Sublist.refl _⟩
 |x::p,n::l,f,h,ha,hf=>by
  obtain⟨⟨P,hP,hat⟩,h2⟩:=h;have hrec:=fun f hf=>KP L s p l f h2 (fun y hy=>ha y (by simp[hy])) hf
  have hlook:=hat.look (ha n (by simp)) s
  rw[Cy,hP];simp only;cases hk:n.find s with
  |none=>
   rw[hk] at hlook;simp only at hlook;rw[hlook];simp only;obtain⟨q,q1,q2,q3⟩:=hrec f hf;refine⟨q,q1,?_,q3.cons _⟩;simp only[DX,List.filterMap_cons,hk];exact q2
  |some y=>
   rw[hk] at hlook;obtain⟨j,hj,hy⟩:=hlook;rw[hj];simp only;have hino:=hy.ino;have hkd:(BO P (j:Nat)).kind=y.kind:=by rw[hino];rfl
   have hop:(BO P (j:Nat)).opq=y.opq:=by rw[hino];rfl
   simp only[DX,List.filterMap_cons,hk]
   by_cases k2:y.kind=2
   ·have f0:¬f.kind=0:=by omega
    rw[if_neg (c:=(BO P (j:Nat)).kind≠2) (by rw[hkd];simp[k2]),hop,List.takeWhile_cons_of_pos (by simp[k2]),D5]
    simp only[if_neg f0];cases ho:y.opq with
    |true=>
     simp only[if_true];exact⟨[(x.1,j)],by rw[hf],⟨⟨P,hP,hy⟩,trivial⟩,by simp⟩
    |false=>
     simp only[if_false,Bool.false_eq_true];obtain⟨q,q1,q2,q3⟩:=hrec ⟨f.kind,f.sp,f.dirs++[(x.1,j)]⟩ hf;refine⟨(x.1,j)::q,by rw[q1];simp,⟨⟨P,hP,hy⟩,q2⟩,?_⟩
     simp only[List.map_cons];exact q3.cons₂ _
   ·rw[if_pos (by rw[hkd];exact k2),if_neg (by omega),List.takeWhile_cons_of_neg (by simp[k2])]
    exact⟨[],by simp[←hf],trivial,List.nil_sublist _⟩
 |[],_::_,_,h,_,_=>h.elim
 |_::_,[],_,h,_,_=>h.elim
def Agrees(L:List (List Bk))(p:List Spot)(dirs:List Node)(s:Str)(g:Fnd):List Node→Prop
 |[]=>g=Fnd.none
 |x::l=>g.kind=x.kind∧x.kind≠0∧x.kind≠4∧Stands L g.sp x∧x.allB=true∧(if x.kind=2 then OnP L g.dirs (x::l)∧g.dirs[0]? =some g.sp else g.dirs=[]∧l=[])∧(p[QL dirs s]?).map (·.1)=some g.sp.1∧(g.dirs.map (·.1)).Sublist (p.map (·.1))
theorem IJ(L:List (List Bk))(s:Str):∀(p:List Spot) (dirs:List Node),OnP L p dirs→(∀n∈dirs,n.allB=true)→Agrees L p dirs s (Cy L s p Fnd.none) (DZ dirs s)
 |[],[],_,_=>by simp[DZ,DX,Cy,Agrees]
 |x::p,n::l,h,ha=>by
  obtain⟨⟨P,hP,hat⟩,h2⟩:=h;have hal:∀y∈l,y.allB=true:=fun y hy=>ha y (by simp[hy])
  have hrec:=IJ L s p l h2 hal;have hlook:=hat.look (ha n (by simp)) s
  rw[Cy,hP];simp only;cases hk:n.find s with
  |none=>
   rw[hk] at hlook;simp only at hlook;rw[hlook];simp only;have e1:DZ (n::l) s=DZ l s:=by simp only[DZ,DX,List.filterMap_cons,hk]
   rw[e1];cases hs:DZ l s with
   |nil=>rw[hs] at hrec;exact hrec
   |cons y t=>
    rw[hs] at hrec;obtain⟨r1,r2,r3,r4,r5,r6,r7,r8⟩:=hrec;refine⟨r1,r2,r3,r4,r5,r6,?_,r8.cons _⟩;rw[QL,hk];exact r7
  |some y=>
   rw[hk] at hlook;obtain⟨j,hj,hy⟩:=hlook;rw[hj];simp only;have hya:=Ri (ha n (by simp)) (UK hk)
   have hino:=hy.ino;have hkd:(BO P (j:Nat)).kind=y.kind:=by rw[hino];rfl
   have hop:(BO P (j:Nat)).opq=y.opq:=by rw[hino];rfl
   have hst:Stands L (x.1,j) y:=⟨P,hP,hy⟩;have hn0:y.kind≠0:=by rcases XB hya with h|h|h|h<;>omega
   have hlev:QL (n::l) s=0:=by rw[QL,hk]
   simp only[DZ,DX,List.filterMap_cons,hk]
   by_cases k4:y.kind=4
   ·rw[if_pos (by rw[hkd];omega),if_neg (by rw[hkd];simp[k4]),if_pos k4]
    rfl
   rw[if_neg k4]
   by_cases k2:y.kind=2
   ·rw[if_neg (c:=(BO P (j:Nat)).kind≠2) (by rw[hkd];simp[k2]),if_neg (c:=y.kind≠2) (by simp[k2]),List.takeWhile_cons_of_pos (by simp[k2]),D5,hop,hkd]
    simp only[Fnd.none,if_true,List.nil_append];cases ho:y.opq with
    |true=>
     simp only[if_true];exact⟨rfl,hn0,k4,hst,hya,by rw[if_pos k2];exact⟨⟨hst,trivial⟩,rfl⟩,by rw[hlev];rfl,by simp⟩
    |false=>
     simp only[if_false,Bool.false_eq_true];obtain⟨q,q1,q2,q3⟩:=KP L s p l ⟨y.kind,(x.1,j),[(x.1,j)]⟩ h2 hal k2;rw[q1];refine⟨k2.symm,hn0,k4,hst,hya,by rw[if_pos k2];exact⟨⟨hst,q2⟩,rfl⟩,by rw[hlev];rfl,?_⟩
     simp only[List.singleton_append,List.map_cons];exact q3.cons₂ _
   ·rw[if_pos (by rw[hkd];exact k2),if_pos ⟨rfl,by rw[hkd];exact k4⟩,if_pos k2]
    exact⟨hkd,hn0,k4,hst,hya,by rw[if_neg k2];exact⟨rfl,rfl⟩,by rw[hlev];rfl,List.nil_sublist _⟩
 |[],_::_,h,_=>h.elim
 |_::_,[],h,_=>h.elim
theorem SF(l:List Node)(s:Str):(DX l s).length≤l.length:=List.length_filterMap_le _ _
theorem Wi(l:List Node)(s:Str):(DZ l s).length≤l.length:=by
 have h0:=SF l s;have hd:∀l:List Node,(D5 l).length≤l.length:=by
  intro l
  induction l with
  |nil=>simp[D5]
  |cons x l ih=>rw[D5];split<;>simp;omega
 unfold DZ;cases he:DX l s with
 |nil=>simp
 |cons x r=>
  rw[he] at h0;simp only;split
  ·simp
  ·split
   ·simp at h0 ⊢;omega
   ·exact Nat.le_trans (hd _) (Nat.le_trans (List.takeWhile_sublist _).length_le h0)
theorem Iv:∀{l:List Node} {x:Node},x∈D5 l→x∈l
 |n::l,x,h=>by
  rw[D5] at h;rcases List.mem_cons.1 h with rfl|h
  ·simp
  ·split at h
   ·cases h
   ·exact List.mem_cons_of_mem _ (Iv h)
theorem Ww{l:List Node}{s:Str}{x:Node}(h:x∈DZ l s):∃n∈l,x∈n.items:=by
 have h2:x∈DX l s:=by
  unfold DZ at h;cases he:DX l s with
  |nil=>rw[he] at h;cases h
  |cons y r=>
   rw[he] at h;simp only at h;split at h
   ·cases h
   ·split at h
    ·rw[List.mem_singleton] at h;simp[h]
    ·exact(List.takeWhile_sublist _).subset (Iv h)
 obtain⟨n,h3,h4⟩:=List.mem_filterMap.1 h2;exact⟨n,h3,UK h4⟩
theorem VC{l:List Node}{s:Str}{x y:Node}{r:List Node}(h:DZ l s=y::r)(k2:y.kind=2)(hx:x∈DZ l s):x.kind=2:=by
 unfold DZ at h hx;cases he:DX l s with
 |nil=>rw[he] at h;cases h
 |cons z t=>
  rw[he] at h hx;simp only at h hx;split at h
  ·cases h
  ·rename_i c4;rw[if_neg c4] at hx;split at h
   ·rename_i c2;rw[if_pos c2] at hx;rw[List.mem_singleton] at hx;subst hx;cases h;exact k2
   ·rename_i c2;rw[if_neg c2] at hx;have h1:=Iv hx;have:∀(q:List Node),x∈q.takeWhile (fun n=>decide (n.kind=2))→x.kind=2:=by
     intro q
     induction q with
     |nil=>intro h;simp at h
     |cons a q ih=>
      intro h;rw[List.takeWhile_cons] at h;split at h
      ·rename_i ha;rcases List.mem_cons.1 h with rfl|h
       ·simpa using ha
       ·exact ih h
      ·cases h
    exact this _ h1
theorem Vv{n x:Node}(h:x∈n.items):x.depth < n.depth:=by
 have:=(GG (l:=n.items)).2 x h;rw[Node.depth_eq n];omega
theorem VH{n x:Node}(h:n.ok)(hx:x∈n.items):x.ok:=((Node.ok_iff n).1 h).2.2.2.1 x hx
abbrev dd:Str:=[46,46]
def DQ(D:List Node)(names:List Str):List Node:=names.foldl DZ (D5 D)
theorem ES(D:List Node)(names:List Str)(s:Str):DQ D (names++[s])=DZ (DQ D names) s:=by simp[DQ]
structure AtN where
 names:List Str
 nodes:List Node
 err:Int
def partsOf(t:Str):List Str:=(Cv t).getD []
def E6(D:List Node)(follow:Bool)(next:List Str→List Str→AtN):List Str→List Str→AtN
 |[],names=>⟨names,DQ D names,0⟩
 |part::rest,names=>
  if part=dd then E6 D follow next rest names.dropLast else
  match DZ (DQ D names) part with
  |[]=>⟨[],[],2⟩
  |y::l=>
   if y.kind=2 then E6 D follow next rest (names++[part])
   else if y.kind=3∧(rest≠[]∨follow=true) then next (partsOf y.target++rest) (if y.target.head? =some 47 then [] else names)
   else if rest≠[] then ⟨[],[],3⟩ else ⟨names++[part],y::l,0⟩
def Kg(D:List Node)(follow:Bool):Nat→List Str→List Str→AtN
 |0=>E6 D follow fun _ _=>⟨[],[],4⟩
 |h+1=>E6 D follow (Kg D follow h)
def WP(D:List Node)(follow:Bool):Nat→List Str→List Str→AtN
 |0=>fun _ _=>⟨[],[],4⟩
 |h+1=>Kg D follow h
theorem HP(D:List Node)(follow:Bool)(h:Nat):Kg D follow h=E6 D follow (WP D follow h):=by cases h<;>rfl
def Hg(D:List Node)(path:Str)(follow:Bool):AtN:=
 match Cv path with
 |none=>⟨[],[],1⟩
 |some l=>Kg D follow 40 l []
def Vy:List Str→Nat
 |[]=>0
 |s::l=>s.length+Vy l
theorem P0:∀s:List UInt8,Vy (BI s)+(BI s).length=s.length+1
 |[]=>rfl
 |c::l=>by
  have h:=P0 l;unfold BI;split
  ·simp only[Vy,List.length_cons,List.length_nil];omega
  ·cases hs:BI l with
   |nil=>exact absurd hs (Io l)
   |cons a t=>
    rw[hs] at h;simp only[Vy,List.length_cons] at h ⊢;omega
theorem MN:∀{l p:List Str},Bj l=some p→2*p.length≤Vy l+l.length
 |[],p,h=>by simp[Bj] at h;subst h;simp
 |s::l,p,h=>by
  rw[Bj] at h;split at h
  ·have:=MN h;simp only[Vy,List.length_cons];omega
  ·rename_i c;split at h
   ·rw[Option.map_eq_some_iff] at h;obtain⟨q,hq,rfl⟩:=h;have:=MN hq;have hs:0 < s.length:=List.length_pos_iff.2 fun e=>c (.inl e)
    simp only[Vy,List.length_cons];omega
   ·cases h
theorem MP{s:Str}{p:List Str}(h:Cv s=some p):2*p.length≤s.length+1:=by
 unfold Cv at h;split at h
 ·cases h
 ·have:=MN h;rw[P0] at this;exact this
theorem Pq{s:Str}{p:List Str}(h:Cv s=some p):∀x∈p,x=dd∨DW x=true:=by
 unfold Cv at h;split at h
 ·cases h
 ·exact Lq h
theorem Mg{s:Str}{p:List Str}(h:Cv s=some p):s.length≤1024∧s≠[]:=by
 unfold Cv at h;split at h
 ·cases h
 ·rename_i c;refine⟨by omega,fun e=>c (.inl e)⟩
structure Drx where
 path:Str
 place:List Spot
 r:Rt
structure Wk where
 todo:List Str
 dirs:List Drx
 follow:Bool
 hops:Nat
 fin:Option (Str×Fnd)
def D7:List Str→List Drx→List Str×List Drx
 |[],ds=>([],ds)
 |s::t,ds=>if s=dd then D7 t (if 1 < ds.length then ds.dropLast else ds) else (s::t,ds)
def Wk.pop(w:Wk):Wk:={w with todo:=(D7 w.todo w.dirs).1,dirs:=(D7 w.todo w.dirs).2}
def Wk.ask(w:Wk):Wk:=match w.fin with|none=>w.pop|some _=>w
theorem Pb:∀(t:List Str) (ds:List Drx),(D7 t ds).1.head?≠some dd
 |[],ds=>by simp[D7]
 |s::t,ds=>by
  rw[D7];split
  ·exact Pb t _
  ·rename_i c;simpa using c
theorem Vr:∀{t:List Str} {ds:List Drx},t.head?≠some dd→D7 t ds=(t,ds)
 |[],ds,_=>rfl
 |s::t,ds,h=>by rw[D7,if_neg (by simpa using h)]
theorem Rp:∀(t:List Str) (ds:List Drx),(D7 t ds).1.length≤t.length
 |[],ds=>by simp[D7]
 |s::t,ds=>by
  rw[D7];split
  ·have:=Rp t (if 1 < ds.length then ds.dropLast else ds);simp;omega
  ·simp
theorem Rj:∀{t:List Str} {ds:List Drx} {s:Str},s∈(D7 t ds).1→s∈t
 |[],ds,s,h=>by simp[D7] at h
 |x::t,ds,s,h=>by
  rw[D7] at h;split at h
  ·exact List.mem_cons_of_mem _ (Rj h)
  ·exact h
def Db(L:List (List Bk))(names:List Str):List Spot:=names.foldl (fun p s=>(Cy L s p Fnd.none).dirs) (Ga L 0)
theorem OA(L:List (List Bk))(names:List Str)(s:Str):Db L (names++[s])=(Cy L s (Db L names) Fnd.none).dirs:=by simp[Db]
structure Tb(L:List (List Bk))(D:List Node)(d:Drx)(names:List Str):Prop where
 path:d.path=pathOf names
 at_:d.place=Db L names
 on:OnP L d.place (DQ D names)
 good:∀n∈DQ D names,n.ok∧n.allB=true∧n.kind=2∧n.depth+names.length≤15∧n.count≤100000
 few:(DQ D names).length≤64
 ne:names≠[]→DQ D names≠[]
structure HS(L:List (List Bk))(D:List Node)(ds:List Drx)(names:List Str):Prop where
 len:ds.length=names.length+1
 dir:∀k,k≤names.length→∃d,ds[k]? =some d∧Tb L D d (names.take k)
 nm:∀s∈names,DW s=true
theorem Tb.short{L:List (List Bk)}{D:List Node}{d:Drx}{names:List Str}(h:Tb L D d names):names.length≤15:=by
 by_cases e:names=[]
 ·rw[e];simp
 ·cases hh:DQ D names with
  |nil=>exact absurd hh (h.ne e)
  |cons x l=>
   have:=(h.good x (by rw[hh];simp)).2.2.2.1
   omega
theorem HS.last{L:List (List Bk)}{D:List Node}{ds:List Drx}{names:List Str}(h:HS L D ds names):∃d,ds.getLast? =some d∧ds[names.length]? =some d∧Tb L D d names:=by
 obtain⟨d,h1,h2⟩:=h.dir names.length (Nat.le_refl _);rw[List.take_length] at h2;refine⟨d,?_,h1,h2⟩;rw[List.getLast?_eq_getElem?,h.len];exact h1
theorem HS.drop{L:List (List Bk)}{D:List Node}{ds:List Drx}{names:List Str}(h:HS L D ds names):HS L D (if 1 < ds.length then ds.dropLast else ds) names.dropLast:=by
 have hl:=h.len;split
 ·rename_i c;refine⟨by simp;omega,fun k hk=>?_,fun s hs=>h.nm s (List.dropLast_subset _ hs)⟩
  simp at hk;obtain⟨d,h1,h2⟩:=h.dir k (by omega)
  refine⟨d,?_,?_⟩
  ·rw[List.getElem?_dropLast,if_pos (by omega)];exact h1
  ·rw[List.dropLast_eq_take,List.take_take,Nat.min_eq_left (by omega)];exact h2
 ·rename_i c;have e:names=[]:=List.eq_nil_of_length_eq_zero (by omega)
  subst e;exact h
theorem HS.root{L:List (List Bk)}{D:List Node}{ds:List Drx}{names:List Str}(h:HS L D ds names):HS L D (ds.take 1) []:=by
 have hl:=h.len;refine⟨by simp;omega,fun k hk=>?_,by simp⟩
 simp at hk;subst hk;obtain⟨d,h1,h2⟩:=h.dir 0 (by omega)
 refine⟨d,?_,h2⟩;rw[List.getElem?_take_of_lt (by omega)]
 exact h1
theorem HS.push{L:List (List Bk)}{D:List Node}{ds:List Drx}{names:List Str}{s:Str}{d:Drx}(h:HS L D ds names)(hs:DW s=true)(hd:Tb L D d (names++[s])):HS L D (ds++[d]) (names++[s]):=by
 have hl:=h.len;refine⟨by simp;omega,fun k hk=>?_,fun x hx=>?_⟩
 ·simp at hk
  by_cases e:k=names.length+1
  ·subst e;refine⟨d,?_,?_⟩
   ·rw[←hl];simp
   ·rw[List.take_of_length_le (by simp)];exact hd
  ·obtain⟨x,h1,h2⟩:=h.dir k (by omega)
   refine⟨x,?_,?_⟩
   ·rw[List.getElem?_append_left (by omega)];exact h1
   ·rw[List.take_append_of_le_length (by omega)];exact h2
 ·rcases List.mem_append.1 hx with hx|hx
  ·exact h.nm x hx
  ·rw[List.mem_singleton] at hx;subst hx;exact hs
theorem R3{L:List (List Bk)}{D:List Node}{follow:Bool}{next:List Str→List Str→AtN}:∀(todo:List Str) {ds:List Drx} {names:List Str},HS L D ds names→
  ∃names',HS L D (D7 todo ds).2 names'∧E6 D follow next todo names=E6 D follow next (D7 todo ds).1 names'
 |[],ds,names,h=>⟨names,h,rfl⟩
 |s::t,ds,names,h=>by
  rw[D7]
  by_cases e:s=dd
  ·rw[if_pos e,E6,if_pos e];exact R3 t h.drop
  ·rw[if_neg e];exact⟨names,h,rfl⟩
theorem LP{n:Node}(ha:n.allB=true)(k:n.kind=3):∃l,Cv n.target=some l∧n.target.length≤256:=by
 rw[Node.all_eq] at ha;simp only[Bool.and_eq_true] at ha;obtain⟨hz,hk⟩:=Iu ha.2;simp[Dl,k] at hk;obtain⟨h1,h2⟩:=hk;cases h:Cv n.target with
 |none=>rw[h] at h1;cases h1
 |some l=>exact⟨l,rfl,h2⟩
def VS(p:List Spot):Fnd:=⟨2,(p[0]?).getD (0,0),p⟩
def Ends(L:List (List Bk))(D:List Node)(want:AtN)(t:Fnd):Prop:=
 want.err=0∧∃ds names,HS L D ds names∧((want.names=names∧want.nodes=DQ D names∧t=VS (Db L names))∨
  ∃s y l,DW s=true∧want.names=names++[s]∧DZ (DQ D names) s=y::l∧y.kind≠2∧want.nodes=y::l∧t=Cy L s (Db L names) Fnd.none)
theorem ME{L:List (List Bk)}{D:List Node}{follow:Bool}{next:List Str→List Str→AtN}(rest:List Str):∀(l pre:List Str) {ds:List Drx},HS L D ds (pre++l)→
  E6 D follow next (l++rest) pre=E6 D follow next rest (pre++l)
 |[],pre,ds,h=>by simp
 |s::l,pre,ds,h=>by
  have hn:=h.nm s (by simp)
  obtain⟨d,h1,h2⟩:=h.dir (pre.length+1) (by simp)
  have e1:(pre++s::l).take (pre.length+1)=pre++[s]:=by rw[List.take_append,List.take_of_length_le (by omega)];simp
  rw[e1] at h2;rw[List.cons_append,E6,if_neg (Gc hn).2.2.1];cases hh:DZ (DQ D pre) s with
  |nil=>exact absurd (by rw[ES,hh]) (h2.ne (by simp))
  |cons y t=>
   have k2:y.kind=2:=(h2.good y (by rw[ES,hh];simp)).2.2.1
   simp only[k2,if_true];have:=ME (follow:=follow) (next:=next) rest l (pre++[s]) (ds:=ds) (by simpa using h)
   rw[this];simp
theorem Ends.own{L:List (List Bk)}{D:List Node}{want:AtN}{t:Fnd}(h:Ends L D want t)(k:Nat):Kg D false k want.names []=want:=by
 obtain⟨he,ds,names,hw,hc⟩:=h;rw[HP];rcases hc with ⟨h1,h2,h3⟩|⟨s,y,l,hs,h1,h2,h3,h4,h5⟩
 ·have:=ME (follow:=false) (next:=WP D false k) [] names [] (ds:=ds) (by simpa using hw)
  rw[List.append_nil,List.nil_append] at this;rw[h1,this,E6];cases want
  simp_all
 ·have:=ME (follow:=false) (next:=WP D false k) [s] names [] (ds:=ds) (by simpa using hw)
  rw[List.nil_append] at this;rw[h1,this,E6,if_neg (Gc hs).2.2.1,h2];simp only[h3,if_false];rw[if_neg (by simp),if_neg (by simp)]
  cases want
  simp_all
theorem Ends.same{L:List (List Bk)}{D:List Node}{want:AtN}{t u:Fnd}(h:Ends L D want t)(k:Ends L D want u):t=u:=by
 obtain⟨_,ds,names,hw,hc⟩:=h;obtain⟨_,ds2,names2,hw2,hc2⟩:=k;rcases hc with ⟨h1,h2,h3⟩|⟨s,y,l,hs,h1,h2,h3,h4,h5⟩<;>rcases hc2 with ⟨k1,k2,k3⟩|⟨s',y',l',hs',k1,k2,k3,k4,k5⟩
 ·rw[h3,k3,←h1,←k1]
 ·exfalso;obtain⟨d,q1,q2,q3⟩:=hw.last;have e:want.nodes=DQ D names:=h2;rw[k4] at e;exact k3 (q3.good y' (by rw[←e];simp)).2.2.1
 ·exfalso;obtain⟨d,q1,q2,q3⟩:=hw2.last;have e:want.nodes=DQ D names2:=k2;rw[h4] at e;exact h3 (q3.good y (by rw[←e];simp)).2.2.1
 ·rw[h1] at k1;obtain⟨e1,e2⟩:=List.append_inj' k1 rfl;cases e2;subst e1;rw[h5,k5]
theorem Ns{H:List Node}{k:Nat}{s:Str}{y:Node}{l:List Node}(h:∀n∈H,n.ok∧n.allB=true∧n.kind=2∧n.depth+k≤15∧n.count≤100000)(hs:DZ H s=y::l):
  ∀z∈y::l,z.ok∧z.allB=true∧(y.kind=2→z.kind=2)∧z.depth+(k+1)≤15∧z.count≤100000:=by
 intro z hz;rw[←hs] at hz;obtain⟨n,h1,h2⟩:=Ww hz;obtain⟨q1,q2,q3,q4,q5⟩:=h n h1;have h6:=Vv h2;have h7:=((GG (l:=n.items)).2 z h2).1;rw[Node.count_eq] at q5;exact⟨VH q1 h2,Ri q2 h2,fun k2=>VC hs k2 hz,by omega,by omega⟩
theorem OnP.nil_iff{L:List (List Bk)}{p:List Spot}(h:OnP L p []):p=[]:=by
 cases p with
 |nil=>rfl
 |cons x p=>exact h.elim
theorem Ends.facts{L:List (List Bk)}{D:List Node}{want:AtN}{t:Fnd}(h:Ends L D want t):
  match want.nodes with
  |[]=>t=⟨2,(0,0),[]⟩∧want.names=[]
  |y::l=>t.kind=y.kind∧Stands L t.sp y∧y.ok∧y.allB=true∧(if y.kind=2 then OnP L t.dirs (y::l)∧t.dirs[0]? =some t.sp∧∀z∈y::l,z.ok∧z.allB=true∧z.kind=2∧z.count≤100000 else t.dirs=[]∧l=[]):=by
 obtain⟨he,ds,names,hw,hc⟩:=h;obtain⟨d,_,_,hd⟩:=hw.last;have hon:=hd.on;rw[hd.at_] at hon;rcases hc with ⟨h1,h2,h3⟩|⟨s,y,l,hs,h1,h2,h3,h4,h5⟩
 ·rw[h2,h3];cases hh:DQ D names with
  |nil=>
   rw[hh] at hon;have hp:=hon.nil_iff;refine⟨by rw[hp];rfl,?_⟩
   rw[h1]
   by_cases e:names=[]
   ·exact e
   ·exact absurd hh (hd.ne e)
  |cons y l=>
   rw[hh] at hon;have hg:=hd.good;rw[hh] at hg;obtain⟨g1,g2,g3,g4,g5⟩:=hg y (by simp)
   cases hp:Db L names with
   |nil=>rw[hp] at hon;exact hon.elim
   |cons x p=>
    rw[hp] at hon;refine⟨g3.symm,hon.1,g1,g2,?_⟩;rw[if_pos g3];exact⟨hon,rfl,fun z hz=>by obtain⟨a,b,c,_,e⟩:=hg z hz;exact⟨a,b,c,e⟩⟩
 ·rw[h4];have hag:=IJ L s _ _ hon (fun n hn=>(hd.good n hn).2.1)
  rw[h2,←h5] at hag;obtain⟨a1,a2,a3,a4,a5,a6,a7,a8⟩:=hag;have hg:=Ns hd.good h2 y (by simp)
  refine⟨a1,a4,hg.1,a5,?_⟩;rw[if_neg h3] at a6 ⊢;exact a6
theorem TJ{names:List Str}{s:Str}(h:∀x∈names,DW x=true):(if pathOf names=[47] then pathOf names++s else pathOf names++47::s)=pathOf (names++[s]):=by
 rw[OY]
 by_cases e:names=[]
 ·subst e;simp[pathOf,Lib.join_nil]
 ·have:pathOf names≠[47]:=by
   obtain⟨l,x,rfl⟩:=(List.eq_nil_or_concat names).resolve_left e;have hx:=Gc (h x (by simp))
   rw[List.concat_eq_append,OY];split
   ·simp[hx.1]
   ·intro e2;have:=congrArg List.length e2;simp[pathOf] at this
  rw[if_neg this,if_neg e]
def Wk.tell(w:Wk)(path s:Str)(rest:List Str)(f:Fnd)(fr:Rt)(there:Bool)(target:Str):Wk×Int:=
 if there=false then (w,2)
 else if f.kind=3∧(rest≠[]∨w.follow=true) then
  if 40 < w.hops+1 then ({w with todo:=rest,hops:=w.hops+1},4)
  else match Cv target with
   |none=>({w with todo:=rest,hops:=w.hops+1},1)
   |some l=>({w with todo:=l++rest,hops:=w.hops+1,dirs:=if target.head? =some 47 then w.dirs.take 1 else w.dirs},0)
 else if f.kind=2 then ({w with todo:=rest,dirs:=w.dirs++[⟨if path=[47] then path++s else path++47::s,f.dirs,fr⟩]},0)
 else if rest≠[] then ({w with todo:=rest},3)
 else ({w with todo:=rest,fin:=some (if path=[47] then path++s else path++47::s,f)},0)
structure Going(L:List (List Bk))(D:List Node)(want:AtN)(w:Wk)(h:Nat)(names:List Str):Prop where
 on:HS L D w.dirs names
 hops:w.hops+h=40
 td:∀s∈w.todo,s=dd∨DW s=true
 fin:w.fin=none
 goes:Kg D w.follow h w.todo names=want
theorem Going.pop{L:List (List Bk)}{D:List Node}{want:AtN}{w:Wk}{h:Nat}{names:List Str}(g:Going L D want w h names):∃names',Going L D want w.pop h names':=by
 obtain⟨names',h1,h2⟩:=R3 (follow:=w.follow) (next:=WP D w.follow h) w.todo g.on;exact⟨names',h1,g.hops,fun s hs=>g.td s (Rj hs),g.fin,by have:=g.goes;rw[HP,h2] at this;rw[HP];exact this⟩
theorem Going.step{L:List (List Bk)}{D:List Node}{want:AtN}{w:Wk}{h:Nat}{names:List Str}{s:Str}{rest:List Str}{f:Fnd}{fr:Rt}{target:Str}(g:Going L D want w h names)(ht:w.todo=s::rest)(hs:s≠dd)
  (hf:f=Cy L s (Db L names) Fnd.none) (htg:f.kind=3→∀y l,DZ (DQ D names) s=y::l→target=y.target):
  ∃d,w.dirs.getLast? =some d∧d.path=pathOf names∧d.place=Db L names∧names.length≤15∧
  match w.tell (pathOf names) s rest f fr (decide (f.kind≠0)) target with
  |(w',e)=>(e≠0→want.err=e)∧(e=0→(∃h' names',Going L D want w' h' names'∧(w'.todo=rest∧h'=h∨h=h'+1∧∃p,p.length≤128∧w'.todo=p++rest))∨
   (∃g',w'.fin=some (pathOf want.names,g')∧Ends L D want g'∧rest=[]∧w'={w with todo:=[],fin:=some (pathOf want.names,g')})):=by
 obtain⟨d,d1,d2,hd⟩:=g.on.last;have hon:=hd.on;rw[hd.at_] at hon;have hag:=IJ L s _ _ hon (fun n hn=>(hd.good n hn).2.1)
 rw[←hf] at hag;refine⟨d,d1,hd.path,hd.at_,hd.short,?_⟩;have hgo:=g.goes;rw[ht,HP,E6,if_neg hs] at hgo;have hsr:DW s=true:=(g.td s (by rw[ht];simp)).resolve_left hs
 have hch:=TJ (s:=s) g.on.nm;cases hsn:DZ (DQ D names) s with
 |nil=>
  rw[hsn] at hgo hag;simp only at hgo;have hk:f.kind=0:=by rw[show f=Fnd.none from hag];rfl
  simp only[Wk.tell,hk];simp[←hgo]
 |cons y l=>
  rw[hsn] at hgo hag;simp only at hgo;obtain⟨a1,a2,a3,a4,a5,a6,a7,a8⟩:=hag;have hk0:f.kind≠0:=by rw[a1];exact a2
  have hgd:=Ns hd.good hsn;have htd:∀x∈rest,x=dd∨DW x=true:=fun x hx=>g.td x (by rw[ht];simp[hx])
  simp only[Wk.tell,hk0,ne_eq,not_false_eq_true,decide_true,Bool.true_eq_false,if_false];rw[a1,hch]
  by_cases k2:y.kind=2
  ·rw[if_pos k2] at hgo a6;rw[if_neg (by omega),if_pos k2]
   refine⟨fun h=>absurd rfl h,fun _=>.inl ⟨h,names++[s],⟨?_,g.hops,htd,g.fin,?_⟩,.inl ⟨rfl,rfl⟩⟩⟩
   ·refine g.on.push hsr ⟨rfl,?_,?_,fun n hn=>?_,?_,fun _=>?_⟩
    ·rw[OA,←hf]
    ·rw[ES,hsn];exact a6.1
    ·rw[ES,hsn] at hn;obtain⟨q1,q2,q3,q4,q5⟩:=hgd n hn;exact⟨q1,q2,q3 k2,by simpa using q4,q5⟩
    ·rw[ES];exact Nat.le_trans (Wi _ _) hd.few
    ·rw[ES,hsn];simp
   ·rw[HP];exact hgo
  rw[if_neg k2] at hgo a6
  by_cases c3:y.kind=3∧(rest≠[]∨w.follow=true)
  ·rw[if_pos c3] at hgo;rw[if_pos c3];have hh:=g.hops;have e1:=htg (a1.trans c3.1) y l hsn;subst e1;cases h with
   |zero=>
    rw[if_pos (by omega)]
    refine⟨fun _=>?_,fun h=>absurd h (by simp)⟩
    rw[←hgo];rfl
   |succ h=>
    rw[if_neg (by omega)]
    obtain⟨p,hp1,hp2⟩:=LP a5 c3.1;have hpo:partsOf y.target=p:=by rw[partsOf,hp1];rfl
    rw[hpo] at hgo;simp only[hp1];refine⟨fun h=>absurd trivial h,fun _=>.inl ⟨h,if y.target.head? =some 47 then [] else names,⟨?_,by simp only;omega,fun x hx=>?_,g.fin,hgo⟩,.inr ⟨rfl,p,by have:=MP hp1;omega,rfl⟩⟩⟩
    ·simp only;split
     ·exact g.on.root
     ·exact g.on
    ·rcases List.mem_append.1 hx with hx|hx
     ·exact Pq hp1 x hx
     ·exact htd x hx
  rw[if_neg c3] at hgo;rw[if_neg c3,if_neg k2]
  by_cases cr:rest≠[]
  ·rw[if_pos cr] at hgo;rw[if_pos cr];refine⟨fun _=>by rw[←hgo],fun h=>absurd h (by simp)⟩
  ·rw[if_neg cr] at hgo;rw[if_neg cr];have hr:rest=[]:=by simpa using cr
   refine⟨fun h=>absurd rfl h,fun _=>.inr ⟨f,by rw[←hgo],⟨by rw[←hgo],w.dirs,names,g.on,.inr ⟨s,y,l,hsr,by rw[←hgo],hsn,k2,by rw[←hgo],hf⟩⟩,hr,by rw[←hgo,hr]⟩⟩
theorem Going.end{L:List (List Bk)}{D:List Node}{want:AtN}{w:Wk}{h:Nat}{names:List Str}(g:Going L D want w h names)(ht:w.todo=[]):
  ∃d,w.dirs.getLast? =some d∧d.path=pathOf want.names∧Ends L D want (VS d.place):=by
 obtain⟨d,d1,d2,hd⟩:=g.on.last;have hgo:=g.goes;rw[ht,HP,E6] at hgo;refine⟨d,d1,by rw[←hgo];exact hd.path,by rw[←hgo],w.dirs,names,g.on,.inl ⟨by rw[←hgo],by rw[←hgo],by rw[hd.at_]⟩⟩
end Go.Av
