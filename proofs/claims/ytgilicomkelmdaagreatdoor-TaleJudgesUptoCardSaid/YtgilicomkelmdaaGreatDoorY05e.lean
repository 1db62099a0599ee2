/- Parts of the proofs of this seat: abstract values over the model, and what the functions of the program do. No condition. -/
import Derived.Test.YtgilicomkelmdaaGreatDoorY05d
import Derived.Test.YtgilicomkelmdaaGreatDoorX04L
import Derived.Test.YtgilicomkelmdaaGreatDoorX05e
set_option linter.all false
set_option maxRecDepth 100000
namespace Go.Av
theorem Is:Gl.length=7:=rfl
theorem Ru{s:Str}{n:Node}(h:IE s=some n):s=Gl++n.enc∧Bi n=true∧s.length≤4194304:=by
 unfold IE at h;split at h
 ·cases h
 ·rename_i c;simp only[not_or,Classical.not_not] at c;obtain⟨c1,c2,c3⟩:=c;simp only at h;split at h
  ·rename_i c4;cases h;obtain⟨k1,k2,k3⟩:=c4;obtain⟨_,r2,r3,r4⟩:=FQ k3;have:=(RS.node_of 16 _ k1).2 r2;rw[k2,List.append_nil] at this;refine⟨?_,k3,by omega⟩
   rw[←this]
   show s=Gl++s.drop 7
   rw[show Gl=s.take 7 from c3.symm,List.take_append_drop]
  ·cases h
theorem eo{s:Str}{n:Node}(h:Lc s=some n):s=Gl++n.enc∧Bi n=true∧s.length≤4194304:=by
 unfold Lc at h;split at h
 ·cases h
 ·rename_i c;simp only[not_or,Classical.not_not] at c;obtain⟨c1,c2,c3⟩:=c;split at h
  ·rename_i n' r hg;split at h
   ·rename_i c4;cases h;obtain⟨rfl,k3⟩:=c4;have:=Tq _ _ _ _ hg;rw[List.append_nil] at this;refine⟨?_,k3,by omega⟩
    rw[←this]
    show s=Gl++s.drop 7
    rw[show Gl=s.take 7 from c3.symm,List.take_append_drop]
   ·cases h
  ·cases h
theorem VH(t:Str):(Gl++t).take 7=Gl∧(Gl++t).drop 7=t:=⟨by rw[List.take_append_of_le_length (by rw[Is];omega)];rfl,by rw[List.drop_append_of_le_length (by rw[Is];omega)];rfl⟩
theorem cU{a b:Node}(h:a.sameB b=true):a.kind=b.kind∧a.names.l=b.names.l:=by
 rw[Node.same_eq] at h;simp only[Bool.and_eq_true,decide_eq_true_eq] at h;exact⟨h.1,h.2.2.2.2.1⟩
theorem gE{a b:Node}(h:a.sameB b=true):M0 a=M0 b:=by
 rw[Node.same_eq] at h;simp only[Bool.and_eq_true,decide_eq_true_eq] at h;obtain⟨h1,h2,h3,h4,h5,h6,h7⟩:=h;have h8:a.items.length=b.items.length:=dG h7;simp only[M0,C1,Ct,E1,h1,h2,h3,h4,h5,h6,h8]
theorem jh(a:Node):∀b:Node,a.sameB b=true→a.allB=b.allB∧a.count=b.count∧a.depth=b.depth:=by
 induction a using Node.ind with
 |h a ih=>
  intro b h;have h0:=gE h;rw[Node.same_eq] at h;simp only[Bool.and_eq_true,decide_eq_true_eq] at h;have h7:=h.2.2.2.2.2.2;rw[Node.all_eq,Node.all_eq,Node.count_eq,Node.count_eq,Node.depth_eq,Node.depth_eq,h0];have:∀(l m:List Node),(∀x∈l,x∈a.items)→Node.samesB l m=true→Node.allsB l=Node.allsB m∧Node.counts l=Node.counts m∧Node.depths l=Node.depths m:=by
   intro l
   induction l with
   |nil=>
    intro m _ hm;cases m with
    |nil=>exact⟨rfl,rfl,rfl⟩
    |cons y m=>simp at hm
   |cons x l ihl=>
    intro m hmem hm;cases m with
    |nil=>simp at hm
    |cons y m=>
     rw[Node.sames_cons] at hm;simp only[Bool.and_eq_true] at hm;obtain⟨p1,p2,p3⟩:=ih x (hmem x (by simp)) y hm.1
     obtain⟨q1,q2,q3⟩:=ihl m (fun z hz=>hmem z (by simp[hz])) hm.2
     rw[Node.allsB,Node.allsB,Node.counts,Node.counts,Node.depths,Node.depths,p1,p2,p3,q1,q2,q3];exact⟨rfl,rfl,rfl⟩
  obtain⟨q1,q2,q3⟩:=this a.items b.items (fun _ h=>h) h7
  rw[q1,q2,q3];exact⟨rfl,rfl,rfl⟩
theorem U3{a b:Node}(h:a.sameB b=true):Bi a=Bi b:=by
 obtain⟨h1,h2,h3⟩:=jh a b h;rw[Bi,Bi,(cU h).1,h1,h2,h3]
theorem jH{n:Node}(hok:n.ok)(hr:Bi n=true)(hl:7+n.enc.length≤4194304):∃n',IE (Gl++n.enc)=some n'∧n'.sameB n=true:=by
 obtain⟨r1,r2,r3,r4⟩:=FQ hr;obtain⟨n',e1,e2⟩:=RS.node_enc n 16 [] 4096 hok r2 r3 (by omega) (by omega)
 obtain⟨t1,t2⟩:=VH n.enc;refine⟨n',?_,e2⟩;rw[List.append_nil] at e1;unfold IE;rw[if_neg (by rw[t1,List.length_append,Is];simp[Gl];omega),t2,e1]
 simp only;rw[if_pos (by simp[U3 e2,hr])]
theorem jR{n:Node}(hok:n.ok)(hr:Bi n=true)(hl:7+n.enc.length≤4194304):∃n',Lc (Gl++n.enc)=some n'∧n'.sameB n=true:=by
 obtain⟨r1,r2,r3,r4⟩:=FQ hr;obtain⟨n',e1,e2⟩:=iT n 16 [] hok r2 r3 (by omega)
 obtain⟨t1,t2⟩:=VH n.enc;refine⟨n',?_,e2⟩;rw[List.append_nil] at e1;unfold Lc;rw[if_neg (by rw[t1,List.length_append,Is];simp[Gl];omega),t2,e1]
 simp only;rw[if_pos (by simp[U3 e2,hr])]
open Go.Proofs
theorem bV{x:Ext}:∀{l:List Ext},x∈l→x.data.length≤(l.map fun x=>x.data.length).sum
 |y::l,h=>by
  rcases List.mem_cons.1 h with rfl|h
  ·simp
  ·have:=bV h;simp;omega
theorem aq(n:Node):n.depth < n.count:=by
 induction n using Node.ind with
 |h n ih=>
  rw[Node.depth_eq,Node.count_eq];have:∀l:List Node,(∀x∈l,x.depth < x.count)→Node.depths l≤Node.counts l:=by
   intro l
   induction l with
   |nil=>simp[Node.depths]
   |cons x l ihl=>
    intro h;have h1:=h x (by simp)
    have h2:=ihl fun y hy=>h y (by simp[hy])
    rw[Node.depths,Node.counts];omega
  have:=this _ ih;omega
theorem d9:∀(f:Nat) (s:Str) (n:Node) (r:Str),s.length≤1048568→Fy f s=some (n,r)→n.ok∧n.weight+r.length≤s.length:=by
 intro f
 induction f with
 |zero=>intro s n r _ h;rw[Fy] at h;cases h
 |succ f ih=>
  intro s n r hl h;have hs:=Tq _ _ _ _ h;have hrl:r.length≤s.length:=by rw[hs];simp
  rw[Fy] at h;obtain⟨⟨k,s1⟩,h1,h⟩:=Option.bind_eq_some_iff.1 h;obtain⟨i1,j1⟩:=CW h1;have l1:s1.length≤s.length:=by rw[i1];simp
  rw[p1] at j1;simp only at h
  by_cases c1:k=1
  ·rw[if_pos c1] at h;obtain⟨⟨b,s2⟩,h2,h⟩:=Option.bind_eq_some_iff.1 h;obtain⟨⟨c,s3⟩,h3,h⟩:=Option.bind_eq_some_iff.1 h;obtain⟨⟨e,s4⟩,h4,h⟩:=Option.bind_eq_some_iff.1 h;cases h;obtain⟨i2,j2⟩:=CW h2;obtain⟨i3,_⟩:=CW h3;obtain⟨i4,i5⟩:=Y5 h4;simp only at i3 i4 i5;rw[p4] at j2;have q1:=congrArg List.length i2;have q2:=congrArg List.length i3;have q3:=congrArg List.length i5;simp at q1 q2 q3;have q4:=XE e;have hx:∀(c:Nat) (s r:Str) (l:List Ext),MR c s=some (l,r)→∀x∈l,0≤x.off∧x.off < 4294967296:=by
    intro c
    induction c with
    |zero=>intro s r l h;rw[MR] at h;cases h;simp
    |succ c ih=>
     intro s r l h;rw[MR] at h;obtain⟨⟨a,t1⟩,g1,h⟩:=Option.bind_eq_some_iff.1 h;obtain⟨⟨b,t2⟩,g2,h⟩:=Option.bind_eq_some_iff.1 h;obtain⟨⟨l',t3⟩,g3,h⟩:=Option.bind_eq_some_iff.1 h;cases h;have:=(CW g1).2;rw[p4] at this;intro x hx;rcases List.mem_cons.1 hx with rfl|hx
     ·simp;omega
     ·exact ih _ _ _ g3 x hx
   try dsimp only at*
   refine⟨So (ns:=[]) (its:=[]) (by unfold I64;omega) (by simp) (by simp) (by unfold I64;omega) ⟨by omega,fun x hxm=>?_⟩ (by simp),?_⟩
   ·have:=hx _ _ _ _ h4 x hxm;have hd:=bV hxm;unfold Ext.ok;omega
   ·rw[Node.weight_eq];unfold Node.own;simp[Node.weights];omega
  rw[if_neg c1] at h
  by_cases c2:k=2
  ·rw[if_pos c2] at h;obtain⟨⟨b,s2⟩,h2,h⟩:=Option.bind_eq_some_iff.1 h;obtain⟨⟨c,s3⟩,h3,h⟩:=Option.bind_eq_some_iff.1 h;simp only at h
   by_cases c5:1 < b
   ·rw[if_pos c5] at h;cases h
   rw[if_neg c5] at h;obtain⟨⟨ss,l,s4⟩,h4,h⟩:=Option.bind_eq_some_iff.1 h;cases h;obtain⟨i2,_⟩:=CW h2;obtain⟨i3,_⟩:=CW h3;simp only at i3;have q1:=congrArg List.length i2;have q2:=congrArg List.length i3;simp at q1 q2;have hI:∀(c:Nat) (s r:Str) (ss:List Str) (l:List Node),s.length≤1048568→J6 (Fy f) c s=some (ss,l,r)→ss.length+r.length≤s.length∧l.length=ss.length∧(∀x∈ss,x.length≤1048576)∧(∀x∈l,x.ok)∧ss.length+Node.weights l+r.length≤s.length:=by
    intro c
    induction c with
    |zero=>intro s r ss l _ h;rw[J6] at h;cases h;simp[Node.weights]
    |succ c ihc=>
     intro s r ss l hl h;rw[J6] at h;obtain⟨⟨a,t1⟩,g1,h⟩:=Option.bind_eq_some_iff.1 h;obtain⟨⟨b,t2⟩,g2,h⟩:=Option.bind_eq_some_iff.1 h;obtain⟨⟨ss',l',t3⟩,g3,h⟩:=Option.bind_eq_some_iff.1 h;cases h;obtain⟨u1,u2⟩:=F9 g1;have u3:=congrArg List.length u1;simp[Lj] at u3
     try dsimp only at*
     obtain⟨v1,v2⟩:=ih _ _ _ (by omega) g2
     try dsimp only at*
     obtain⟨w1,w2,w3,w4,w5⟩:=ihc _ _ _ _ (by omega) g3
     refine⟨by simp;omega,by simp[w2],?_,?_,by rw[Node.weights,List.length_cons];omega⟩
     ·intro x hx;rcases List.mem_cons.1 hx with rfl|hx
      ·omega
      ·exact w3 x hx
     ·intro x hx;rcases List.mem_cons.1 hx with rfl|hx
      ·exact v1
      ·exact w4 x hx
   try dsimp only at*
   obtain⟨w1,w2,w3,w4,w5⟩:=hI _ _ _ _ _ (by omega) h4
   refine⟨So (es:=[]) (by unfold I64;omega) ⟨by omega,w3⟩ ⟨by omega,w4⟩ (by unfold I64;omega) (by simp) (by simp),?_⟩
   rw[Node.weight_eq];unfold Node.own;simp;omega
  rw[if_neg c2] at h
  by_cases c3:k=3
  ·rw[if_pos c3] at h;obtain⟨⟨b,s2⟩,h2,h⟩:=Option.bind_eq_some_iff.1 h;cases h;obtain⟨i2,_⟩:=F9 h2;have q1:=congrArg List.length i2;simp[Lj] at q1
   try dsimp only at*
   refine⟨So (ns:=[]) (its:=[]) (es:=[]) (by unfold I64;omega) (by simp) (by simp) (by unfold I64;omega) (by simp) (by omega),?_⟩
   rw[Node.weight_eq];unfold Node.own;simp[Node.weights];omega
  rw[if_neg c3] at h
  by_cases c4:k=4
  ·rw[if_pos c4] at h;cases h;refine⟨So (ns:=[]) (its:=[]) (es:=[]) (by unfold I64;omega) (by simp) (by simp) (by unfold I64;omega) (by simp) (by simp),?_⟩
   have q1:=congrArg List.length i1;simp at q1;rw[Node.weight_eq];unfold Node.own;simp[Node.weights];omega
  rw[if_neg c4] at h;cases h
theorem UG{w0:World}{S:St}{s:Str}(hs:s.length≤1048575){Q:AV→St→Prop}
  (hq:(∀n,Lc s=some n→n.ok→Q (.tup [.agg n.c,.bool true]) S)∧(Lc s=none→Q (.tup [.agg Node.none.c,.bool false]) S)):AC w0 I2 [.str s] S Q:=by
 apply TP;unfold Mj;have hn0:Lc s=none→Q (.tup [.agg [.int .i64 0,.bool false,.vs 1 [] .nil,.vs 7 [] .nil,.int .i64 0,.vs 2 [] .nil,.str []],.bool false]) S:=fun h=>by
  have:=hq.2 h
  rwa [Node.none_c] at this
 by_cases c1:s.length < 7
 ·have:Lc s=none:=by simp[Lc,c1]
  simp[AH,show ¬(4194304 < (s.length:Int)) by omega,show (s.length:Int) < 7 by omega]
  exact hn0 this
 by_cases c2:s.take 7=[115,111,99,97,103,101,49]
 case neg=>
  have:Lc s=none:=by simp[Lc,c2]
  simp[AH,show ¬(4194304 < (s.length:Int)) by omega,show ¬(s.length:Int) < 7 by omega,show 7≤s.length by omega,c2]
  exact hn0 this
 simp[AH,show ¬(4194304 < (s.length:Int)) by omega,show ¬(s.length:Int) < 7 by omega,show 7≤s.length by omega,c2]
 have hd:Lc s=match Fy 16 (s.drop 7) with|some (n,r)=>if r=[]∧Bi n=true then some n else none|none=>none:=by
  rw[Lc,if_neg (by simp[c1,c2];omega)]
  cases Fy 16 (s.drop 7) with
  |none=>rfl
  |some p=>rfl
 refine av 16 (d:=0) (by omega) (by simp) (by simp;omega) ?_
 cases hg:Fy 16 (s.drop 7) with
 |none=>
  rw[hg] at hd;rw[Ds]
  try simp (disch:=omega) only[wrap64]
  simp[show ¬((-1:Int)=(s.length:Int) - 7) by omega]
  exact hn0 hd
 |some p=>
  obtain⟨n,r⟩:=p;rw[hg] at hd;simp only at hd;obtain⟨hok,hrl⟩:=d9 _ _ _ _ (by simp;omega) hg
  have hcw:=n.count_weight;have hdc:=aq n;simp at hrl;have hgc:TZ (some (n,r)) (s.drop 7).length=n.c++[.int .i64 ((s.length:Int) - 7 - r.length)]:=by
   simp only[TZ];congr 3;simp;omega
  have q1:(n.c++[AV.int .i64 ((s.length:Int) - 7 - r.length)]).length=8:=by simp
  have q2:(n.c++[AV.int .i64 ((s.length:Int) - 7 - r.length)])[7]? =some (.int .i64 ((s.length:Int) - 7 - r.length)):=by
   rw[List.getElem?_append_right (by simp)];simp
  have q3:(n.c++[AV.int .i64 ((s.length:Int) - 7 - r.length)]).take 7=n.c:=by
   rw[List.take_append_of_le_length (by simp)];simp
  have q4:(AV.agg (n.c++[AV.int .i64 ((s.length:Int) - 7 - r.length)])).free=true:=by
   rw[Node.c_eq];simp
  rw[hgc];generalize n.c++[AV.int .i64 ((s.length:Int) - 7 - r.length)]=G at q1 q2 q3 q4 ⊢;have q5:G[7]'(by omega)= .int .i64 ((s.length:Int) - 7 - r.length):=(List.getElem?_eq_some_iff.1 q2).2
  have q6:(∀x,x∈G→x.free1=true)=True:=eq_true (by simpa using q4)
  have q7:G.drop 8=[]:=by simp;omega
  try simp (disch:=omega) only[wrap64]
  simp[q1,q3,q5,q6,q7]
  by_cases c3:r=[]
  case neg=>
   have hp:=List.length_pos_iff.2 c3;have hne:¬((s.length:Int) - 7 - (r.length:Int)=(s.length:Int) - 7):=by omega
   simp[hne];exact hn0 (by rw[hd];simp[c3])
  simp[c3];refine J7 hok (by omega) (by omega) ?_
  cases hr:Bi n with
  |false=>
   simp;exact hn0 (by rw[hd];simp[hr])
  |true=>
   simp;exact hq.1 n (by rw[hd];simp[hr,c3]) hok
open Go.Proofs
theorem gD{l:List Node}(hl:l.length≤8):Wp l=l.all fun n=>n.small&&Bi n:=by simp[Wp,hl]
theorem io{p:Node→Bool}{l:List Node}{i:Nat}{x:Node}(h:l[i]? =some x):(l.drop i).all p=(p x&&(l.drop (i+1)).all p):=by
 have hi:=(List.getElem?_eq_some_iff.1 h).1;rw[List.drop_eq_getElem_cons hi,List.all_cons,(List.getElem?_eq_some_iff.1 h).2]
theorem ay{w0:World}{l:List Node}{r:Rt}{S:St}(hok:∀n∈l,n.ok){Q:AV→St→Prop}(hq:∀S',Sx S S'→Q (.int .i64 (if Wp l=true then 1 else 0)) S'):AC w0 NF [.vs 7 (l.map Node.c) r] S Q:=by
 apply YW;unfold SN
 by_cases c:(8:Int) < l.length
 ·have:=hq S (Sx.refl _);have e:Wp l=false:=by simp[Wp];omega
  rw[e] at this;simp[c];exact this
 simp[c,AH];refine Ak l (fun i (_:Unit)=>([.int .i64 i],[])) (fun i _ S'=>Sx S S'∧Wp l=(l.drop i).all fun n=>n.small&&Bi n) () rfl ⟨Sx.refl _,by rw[gD (by omega)];simp⟩ ?_ ?_
 ·rintro i _ S' v b n c hxi hd hc hmem ⟨hSx,he⟩ hv;simp at hv;rw[io hxi] at he;simp[hv,hc,hxi];refine OZ (hok n hmem) (fun S2 hS2=>?_)
  cases hs:n.small with
  |false=>
   rw[hs] at he;have:=hq S2 (hSx.trans hS2);rw[he] at this;simp;simpa using this
  |true=>
   obtain⟨b1,b2⟩:=Node.small_spec hs;have b3:=n.count_weight;simp;refine J7 (hok n hmem) (by omega) (by omega) ?_
   cases hr:Bi n with
   |false=>
    rw[hs,hr] at he;have:=hq S2 (hSx.trans hS2);rw[he] at this;simp;simpa using this
   |true=>
    rw[hs,hr] at he;simp
    try simp (disch:=omega) only[wrap64]
    exact .next c () rfl ⟨hSx.trans hS2,by simpa using he⟩
 ·rintro _ S' v b ⟨hSx,he⟩ hv N;simp at hv;rw[List.drop_length,List.all_nil] at he;have:=hq S' hSx;rw[he] at this;simp[hv];simpa using this
theorem Wv{w0:World}(hm:KD w0){l:List Node}{r:Rt}{S:St}(hok:∀n∈l,n.ok)(hmay:Wp l=true){Q:AV→St→Prop}(hq:∀S' s,Sx S S'→XI S S' l s→Q (.tup [.agg s.c,.bool true]) S'):AC w0 KP [.vs 7 (l.map Node.c) r] S Q:=by
 obtain⟨h8,hall⟩:=Zx.1 hmay;apply UV;unfold OJ;simp[show ¬(8:Int) < l.length by omega,AH]
 refine Ak l (fun i (_:Unit)=>([.int .i64 i],[some [.vs 2 [] .nil,.int .i64 0]])) (fun i _ S'=>Sx S S') () rfl (Sx.refl _) ?_ ?_
 ·rintro i _ S' v b n c hxi hd hc hmem hSx hv;simp at hv;obtain⟨hv1,hv2⟩:=hv;obtain⟨hs,hr⟩:=hall n hmem;simp[hv1,hv2,hc,hxi];refine OZ (hok n hmem) (fun S2 hS2=>?_)
  obtain⟨b1,b2⟩:=Node.small_spec hs;have b3:=n.count_weight;rw[hs];simp;refine J7 (hok n hmem) (by omega) (by omega) ?_
  rw[hr];simp
  try simp (disch:=omega) only[wrap64]
  exact .next c () rfl (hSx.trans hS2)
 ·rintro _ S' v b hSx hv N;simp at hv;obtain⟨hv1,hv2⟩:=hv;simp[hv1,hv2];have h0:=Xg l 0 (fun n hn=>(hall n hn).2) (by omega)
  refine dO hm hok (by omega) (fun S2 hS2=>⟨fun _ s hs=>?_,fun h=>absurd h0 h⟩)
  have hs':XI S S2 l s:=⟨hs.ok,hs.on,hs.len,hs.next,hs.tabs,hs.nums,fun m hm'=>Nat.le_trans hSx.le (hs.ids m hm')⟩
  simp;refine Sc ?_;rw[hs.len];simp;exact hq S2 s (hSx.trans hS2) hs'
theorem Xh:∀(L:List (List Bm)) (k:Nat),(Gz L k).length≤L.length
 |[],_=>by simp[Gz]
 |P::L,k=>by
  rw[Gz];split
  ·simp
  ·have:=Xh L (k+1);simp;omega
open Go.Proofs
@[simp] theorem ll:Hq .ptr .eql .nil .nil=some (.bool true):=rfl
@[simp] theorem lw(i o:Nat):Hq .ptr .eql (.ptr i o) .nil=some (.bool false):=rfl
@[simp] theorem kX:Hq .ptr .neq .nil .nil=some (.bool false):=rfl
@[simp] theorem kr(i o:Nat):Hq .ptr .neq (.ptr i o) .nil=some (.bool true):=rfl
@[simp] theorem Node.cg0(n:Node)(h:0 < n.c.length):n.c[0]= .int .i64 n.kind:=by have:=n.c_eq;simp only[this];rfl
@[simp] theorem Node.cg1(n:Node)(h:1 < n.c.length):n.c[1]= .bool n.opq:=by have:=n.c_eq;simp only[this];rfl
@[simp] theorem Node.cg2(n:Node)(h:2 < n.c.length):n.c[2]=n.names.v:=by have:=n.c_eq';simp only[this];rfl
@[simp] theorem Node.cg3(n:Node)(h:3 < n.c.length):n.c[3]= .vs 7 (n.items.map Node.c) n.ir.strip:=by have:=n.c_eq';simp only[this];rfl
@[simp] theorem Node.cg4(n:Node)(h:4 < n.c.length):n.c[4]= .int .i64 n.size:=by have:=n.c_eq;simp only[this];rfl
@[simp] theorem Node.cg5(n:Node)(h:5 < n.c.length):n.c[5]= .vs 2 (n.exts.map Ext.c) n.er.strip:=by have:=n.c_eq';simp only[this];rfl
@[simp] theorem Node.cg6(n:Node)(h:6 < n.c.length):n.c[6]= .str n.target:=by have:=n.c_eq;simp only[this];rfl
theorem X2{w0:World}{S:St}{l:List Str}{r:Rt}(hl:l.length≤100000000){Q:AV→St→Prop}(hq:∀r',okR r' l→Q (.vs 1 (l.map BO) r') S):AC w0 Bo [.vs 1 (l.map BO) r] S Q:=by
 refine⟨⟨_,Gu,by kernel_rfl,by kernel_rfl⟩,fun G w hrel hrole args' hlen ha=>?_⟩
 have hr:okR r l:=by
  intro e;have h0:0 < args'.size:=by rw[hlen];simp
  obtain⟨v,hv⟩:∃v,args'[0]? =some v:=⟨_,Array.getElem?_eq_getElem h0⟩;obtain⟨h1,h2,h3⟩:=ha 0 _ v rfl hv;have hr2:r.strip=r:=by simpa[AV.strip,AV.strip2,AV.strip1] using h3
  rw[hr2] at e;subst e;generalize he:l.map BO=es at h1;have hes:es=[]:=by
   cases h1 with
   |vsnil=>rfl
   |vs _ _ _ _ _ _ _ hr=>exact(hr rfl).elim
   |vse _ _ _ hr=>rfl
  rw[hes] at he;exact List.map_eq_nil_iff.1 he
 exact(R6 (w0:=w0) hr hl hq).2 G w hrel hrole args' hlen ha
theorem VN{w0:World}{S:St}{id:Nat}{P:List Bm}{i:Int}(hB:Br S id P)(hl:(BM P i).names.length≤100000000){Q:AV→St→Prop}(hq:∀r,okR r (BM P i).names→Q (.vs 1 ((BM P i).names.map BO) r) S):AC w0 E3 [.ptr id 0,.int .i64 i] S Q:=by
 apply LW;unfold G5;refine Fa hB (fun _ _ _=>?_)
 simp[Ino.c];exact X2 hl hq
theorem Vp{w0:World}{S:St}{id:Nat}{P:List Bm}{i:Int}(hB:Br S id P){Q:AV→St→Prop}(hq:Q (.int .i64 (BM P i).size) S):AC w0 Fd [.ptr id 0,.int .i64 i] S Q:=by
 apply ML;unfold H0;refine Fa hB (fun _ _ _=>?_)
 simp[Ino.c];exact hq
theorem MD{w0:World}{S:St}{id:Nat}{P:List Bm}{i:Int}(hB:Br S id P){Q:AV→St→Prop}(hq:Q (.str (BM P i).target) S):AC w0 Dh [.ptr id 0,.int .i64 i] S Q:=by
 apply Kf;unfold GN;refine Fa hB (fun _ _ _=>?_)
 simp[Ino.c];exact hq
theorem LT{w0:World}{S:St}{l:List Node}{r:Rt}(hl:l.length≤1000000){Q:AV→St→Prop}(hq:∀r,Q (.vs 7 ((De l).map Node.c) r) S):AC w0 Ia [.vs 7 (l.map Node.c) r] S Q:=by
 apply WX;unfold RD;simp[AH];refine Ak l (fun i (σ:List Node×Rt)=>([.vs 7 (σ.1.map Node.c) σ.2,.int .i64 i],[])) (fun i σ S'=>S'=S∧De l=σ.1++De (l.drop i)∧σ.1.length=i∧σ.2≠ .none) ([],.full) rfl ⟨rfl,by simp,rfl,by simp⟩ ?_ ?_
 ·rintro i ⟨out,ro⟩ S' v b n c hxi hd hc hmem ⟨rfl,he,hlen,hr⟩ hv;simp at hv he hlen hr;obtain⟨hv1,hv2⟩:=hv;rw[hd,De] at he;have hap:∀S2:St,AU AG S2 (.vs 7 (out.map Node.c) ro) (.vs 7 [n.c] .full)=some (.vs 7 ((out++[n]).map Node.c) (.own (Ba AG ro))):=fun S2=>by
   simp[AU,A1,hr,show out.length+1≤lim by unfold lim;omega]
  simp[hv1,hv2,hc,hxi,hap];cases ho:n.opq with
  |true=>
   rw[ho,if_pos rfl] at he;have:=hq .none;rw[he] at this;simp;simpa using this
  |false=>
   rw[ho,if_neg (by simp)] at he
   simp
   try simp (disch:=omega) only[wrap64]
   refine .next c (out++[n],.own (Ba AG ro)) (by simp) ⟨rfl,by rw[he];simp,by simp[hlen],by simp⟩
 ·rintro⟨out,ro⟩ S' v b ⟨rfl,he,hlen,hr⟩ hv N;simp at hv he;obtain⟨hv1,hv2⟩:=hv
  try rw[List.drop_length] at he
  rw[De,List.append_nil] at he;simp[hv1,hv2];have:=hq ro.strip;rw[he] at this;exact this
open Go.Proofs
theorem Z8{n:Node}(ha:n.allB=true)(s:Str):match n.names.l.findIdx? (fun x=>decide (x=s)) with|some k=>∃x,n.find s=some x∧n.items[k]? =some x|none=>n.find s=none:=by
 have hl:=HK ha;cases hk:n.names.l.findIdx? (fun x=>decide (x=s)) with
 |none=>exact Node.find_none hk
 |some k=>
  have hlt:=(List.findIdx?_eq_some_iff_getElem.1 hk).1;have hx:n.items[k]? =some n.items[k]:=List.getElem?_eq_getElem (by omega)
  exact⟨_,by rw[Node.find_some hk];exact hx,hx⟩
theorem WT(n:Node)(l:List Node)(s:Str):Bf (n::l) s=match n.find s with|some x=>x::Bf l s|none=>Bf l s:=by
 simp only[Bf,List.filterMap_cons];cases n.find s<;>rfl
theorem TN{w0:World}{S:St}{l:List Node}{r:Rt}{s:Str}(hl:l.length≤1000000)(hok:∀n∈l,n.ok∧n.allB=true){Q:AV→St→Prop}(hq:∀r,r≠ .nil→Q (.vs 7 ((Bf l s).map Node.c) r) S):AC w0 H6 [.vs 7 (l.map Node.c) r,.str s] S Q:=by
 apply RJ;unfold MF;simp[AH];refine Ak l (fun i (σ:List Node×Rt)=>([.vs 7 (σ.1.map Node.c) σ.2,.int .i64 i],[])) (fun i σ S'=>S'=S∧Bf l s=σ.1++Bf (l.drop i) s∧σ.1.length≤i∧(σ.2= .full∨∃t,σ.2= .own t)) ([],.full) rfl ⟨rfl,by simp,by simp,.inl rfl⟩ ?_ ?_
 ·rintro i ⟨out,ro⟩ S' v b n c hxi hd hc hmem ⟨rfl,he,hlen,hr⟩ hv;simp at hv he hlen hr;obtain⟨hv1,hv2⟩:=hv;have hrn:ro≠ .none:=by rcases hr with rfl|⟨t,rfl⟩<;>simp
  rw[hd,WT] at he;simp[hv1,hv2,hc,hxi];refine QB (hok n hmem).1 ?_;have hf:=Z8 (hok n hmem).2 s;cases hk:n.names.l.findIdx? (fun x=>decide (x=s)) with
  |none=>
   rw[hk] at hf;simp only at hf;rw[hf] at he;simp
   try simp (disch:=omega) only[wrap64]
   exact .next c (out,ro) (by simp) ⟨rfl,he,by simp;omega,hr⟩
  |some k=>
   rw[hk] at hf;obtain⟨x,hx1,hx2⟩:=hf;rw[hx1] at he;simp only at he;have hap:∀S2:St,AU AG S2 (.vs 7 (out.map Node.c) ro) (.vs 7 [x.c] .full)=some (.vs 7 ((out++[x]).map Node.c) (.own (Ba AG ro))):=fun S2=>by
    simp[AU,A1,hrn,show out.length+1≤lim by unfold lim;omega]
   simp[hx2,hap]
   try simp (disch:=omega) only[wrap64]
   refine .next c (out++[x],.own (Ba AG ro)) (by simp) ⟨rfl,by rw[he];simp,by simp;omega,.inr ⟨_,rfl⟩⟩
 ·rintro⟨out,ro⟩ S' v b ⟨rfl,he,hlen,hr⟩ hv N;simp at hv he hr;obtain⟨hv1,hv2⟩:=hv
  try rw[List.drop_length] at he
  simp[Bf] at he;simp[hv1,hv2];have:=hq ro.strip (by rcases hr with rfl|⟨t,rfl⟩<;>simp[Rt.strip])
  have e2:Bf l s=out:=by simpa[Bf] using he
  rw[e2] at this;exact this
theorem Lp{w0:World}{S:St}{l:List Node}{r:Rt}{s:Str}(hl:l.length≤1000000)(hok:∀n∈l,n.ok∧n.allB=true){Q:AV→St→Prop}(hq:∀r,Q (.vs 7 ((Cn l s).map Node.c) r) S):AC w0 GY [.vs 7 (l.map Node.c) r,.str s] S Q:=by
 apply Vv;unfold P3;refine TN hl hok (fun r1 hr1=>?_)
 have hel:=Qu l s;have hr1':r1.strip≠ .nil:=by cases r1<;>simp_all [Rt.strip]
 unfold Cn at hq;cases hE:Bf l s with
 |nil=>
  rw[hE] at hq;simp[AH];simpa using hq .nil
 |cons x t=>
  rw[hE] at hq hel;simp only at hq;simp at hel;have hne:¬((t.length:Int)+1=0):=by omega
  simp[AH,hne]
  by_cases k4:x.kind=4
  ·rw[if_pos k4] at hq;simp[k4];simpa using hq .nil
  rw[if_neg k4] at hq;simp[k4]
  by_cases k2:x.kind=2
  case neg=>
   rw[if_pos k2] at hq;simp[k2,hr1];simpa using hq _
  rw[if_neg (by simp[k2])] at hq
  simp[k2];generalize hE2:x::t=E at hq;have hEl:t.length+1=E.length:=by rw[←hE2];rfl
  have hEc:(x.c::t.map Node.c)=E.map Node.c:=by rw[←hE2];rfl
  rw[hEc];have hEi:((t.length:Int)+1)=(E.length:Int):=by omega
  rw[hEi];refine Ak E (fun i (_:Unit)=>([.int .i64 i],[])) (fun i _ S'=>S'=S∧E.takeWhile (fun n=>decide (n.kind=2))=E.take i++(E.drop i).takeWhile (fun n=>decide (n.kind=2))) () rfl ⟨rfl,by simp⟩ ?_ ?_
  ·rintro i _ S' v b n c hxi hd hc hmem ⟨rfl,he⟩ hv;simp at hv;rw[hd] at he;have hcut:=VM AG 7 (E.map Node.c) r1 .i64 i;simp[hv,hc,hxi]
   by_cases kn:n.kind=2
   ·simp[kn]
    try simp (disch:=omega) only[wrap64]
    refine .next c () rfl ⟨rfl,?_⟩;have htk:E.take (i+1)=E.take i++[n]:=by rw[List.take_succ,hxi];rfl
    rw[he,List.takeWhile_cons_of_pos (by simp[kn]),htk]
    simp
   ·rw[List.takeWhile_cons_of_neg (by simp[kn]),List.append_nil] at he
    simp[kn,hr1,show i≤E.length by omega]
    rw[←List.map_take];refine LT (l:=E.take i) (by rw[List.length_take];omega) (fun r2=>?_)
    rw[←he];exact hq r2
  ·rintro _ S' v b ⟨rfl,he⟩ hv N;simp at hv
   try rw[List.drop_length] at he
   simp[hv,hr1];have hall:(E.map Node.c).take E.length=E.map Node.c:=by rw[List.take_of_length_le];simp
   rw[hall];refine LT (l:=E) (by omega) (fun r2=>?_)
   have:=hq r2;rw[he] at this;simpa using this
theorem OnP.len{L:List (List Bm)}:∀{p:List Spot} {l:List Node},OnP L p l→p.length=l.length
 |[],[],_=>rfl
 |_::p,_::l,h=>by simp[OnP.len h.2]
 |[],_::_,h=>h.elim
 |_::_,[],h=>h.elim
theorem OnP.get{L:List (List Bm)}:∀{p:List Spot} {l:List Node} {k:Nat} {x:Spot},OnP L p l→p[k]? =some x→∃n,l[k]? =some n∧Stands L x n
 |[],[],k,x,_,h=>by simp at h
 |y::p,m::l,0,x,h,hx=>by simp at hx;subst hx;exact⟨m,rfl,h.1⟩
 |y::p,m::l,k+1,x,h,hx=>by simp at hx;obtain⟨n,h1,h2⟩:=OnP.get h.2 hx;exact⟨n,by simpa using h1,h2⟩
 |[],_::_,_,_,h,_=>h.elim
 |_::_,[],_,_,h,_=>h.elim
theorem Stands.at_{s:Stk}{x:Spot}{n:Node}(h:Stands s.tabs x n):∃m,s.at_ (x.1:Int)=some m∧m∈s.l∧BM m.tab (x.2:Int)=n.hd x.2∧x.1 < s.l.length:=by
 obtain⟨P,h1,h2⟩:=h;unfold Stk.tabs at h1;rw[List.getElem?_map,Option.map_eq_some_iff] at h1;obtain⟨m,h3,rfl⟩:=h1;exact⟨m,(Stk.at_some h3).1,List.mem_of_getElem? h3,h2.ino,(List.getElem?_eq_some_iff.1 h3).1⟩
open Go.Proofs
def Exo(id:Nat)(S S':St):Prop:=S.length≤S'.length∧∀j,j < S.length→j≠id→S'[j]? =S[j]?
theorem Exo.refl(id:Nat)(S:St):Exo id S S:=⟨Nat.le_refl _,fun _ _ _=>rfl⟩
theorem Exo.trans{id:Nat}{A B D:St}(h:Exo id A B)(k:Exo id B D):Exo id A D:=⟨Nat.le_trans h.1 k.1,fun j hj hn=>(k.2 j (by have:=h.1;omega) hn).trans (h.2 j hj hn)⟩
theorem Exo.set(id:Nat)(S:St)(o:Obj):Exo id S (S.set id o):=⟨by simp,fun j hj hn=>by rw[List.getElem?_set_ne (fun e=>hn e.symm)]⟩
theorem Exo.app(id:Nat)(S T:St):Exo id S (S++T):=⟨by simp,fun j hj _=>by rw[List.getElem?_append_left hj]⟩
theorem Exo.Sx_of{id:Nat}{S0 S S':St}(h:Exo id S S')(h0:Sx S0 S)(hid:S0.length≤id):Sx S0 S':=fun j hj=>(h.2 j (by have:=h0.le;omega) (by omega)).trans (h0 j hj)
def Drx.c(d:Drx):List AV:=[.str d.path,.vs 2 (d.place.map spC) d.r.strip]
@[simp] theorem Drx.c_len(d:Drx):d.c.length=2:=rfl
def Wk.cs(w:Wk)(rt rd:Rt)(e:AV):List AV:=[.vs 1 (w.todo.map BO) rt,.vs 2 (w.dirs.map Drx.c) rd,.bool w.follow,.int .i64 w.hops,e]
def PW(S:St)(id:Nat)(w:Wk):Prop:=∃rt rd e,S[id]? =some (.cells (w.cs rt rd e) Bu)∧(rt= .nil→w.todo=[])∧(rd= .nil→w.dirs=[])∧
 match w.fin with
 |none=>e= .nil
 |some p=>∃j r,e= .ptr j 0∧j≠id∧S[j]? =some (.cells (.str p.1::p.2.c r) Hb)
@[simp] theorem Ev{S:St}{id:Nat}{w:Wk}{rt rd:Rt}{e:AV}{tg:Nat}(h:S[id]? =some (.cells (w.cs rt rd e) tg)):AP AX S (.ptr id 0)=some (.vs 1 (w.todo.map BO) rt):=by rw[Aa h];rfl
@[simp] theorem Fx{S:St}{id:Nat}{w:Wk}{rt rd:Rt}{e:AV}{tg:Nat}(h:S[id]? =some (.cells (w.cs rt rd e) tg)):AP BP S (.ptr id 1)=some (.vs 2 (w.dirs.map Drx.c) rd):=by rw[Aa h];rfl
@[simp] theorem Sy{S:St}{id:Nat}{w:Wk}{rt rd:Rt}{e:AV}{tg:Nat}(h:S[id]? =some (.cells (w.cs rt rd e) tg)):AP Cc S (.ptr id 2)=some (.bool w.follow):=by rw[Aa h];rfl
@[simp] theorem Oc{S:St}{id:Nat}{w:Wk}{rt rd:Rt}{e:AV}{tg:Nat}(h:S[id]? =some (.cells (w.cs rt rd e) tg)):AP AN S (.ptr id 3)=some (.int .i64 w.hops):=by rw[Aa h];rfl
@[simp] theorem Ij{S:St}{id:Nat}{w:Wk}{rt rd:Rt}{e:AV}{tg:Nat}(h:S[id]? =some (.cells (w.cs rt rd e) tg)):AP Ck S (.ptr id 4)=some e:=by rw[Aa h];rfl
theorem Re{w0:World}{S:St}{id tg:Nat}{w:Wk}{rt rd:Rt}{e:AV}{d:Drx}(h:S[id]? =some (.cells (w.cs rt rd e) tg))(hd:w.dirs.getLast? =some d)(hl:w.dirs.length≤1000000){Q:AV→St→Prop}(hq:Q (.agg d.c) S):AC w0 ES [.ptr id 0] S Q:=by
 apply Q0;unfold KW;have hne:0 < w.dirs.length:=by
  cases hw:w.dirs with
  |nil=>rw[hw] at hd;cases hd
  |cons a l=>simp
 have hx:w.dirs[w.dirs.length - 1]? =some d:=by rw[←List.getLast?_eq_getElem?];exact hd
 have ew:IntKind.i64.wrap ((w.dirs.length:Int) - 1)=((w.dirs.length - 1:Nat):Int):=by rw[wrap64 (by omega) (by omega)];omega
 simp[Fx h,ew,hx,Drx.c];exact hq
theorem WW{S:St}{id tg:Nat}{w:Wk}{rt rd r:Rt}{e:AV}{t:List Str}(h:S[id]? =some (.cells (w.cs rt rd e) tg)):A8 AX S (.ptr id 0) (.vs 1 (t.map BO) r)=some (S.set id (.cells (({w with todo:=t}:Wk).cs r rd e) tg)):=by
 rw[Am h];simp[Wk.cs]
theorem NT{S:St}{id tg:Nat}{w:Wk}{rt rd r:Rt}{e:AV}{t:List Str}(h:S[id]? =some (.cells (w.cs rt rd e) tg)):A8 AX (stripMem S (.ptr id 0)) (.ptr id 0) (.vs 1 (t.map BO) r)=some (S.set id (.cells (({w with todo:=t}:Wk).cs r rd e) tg)):=by
 rw[DF h,Am (Ai h)];simp[Wk.cs]
theorem OW{S:St}{id tg:Nat}{w:Wk}{rt rd r:Rt}{e:AV}{t:List Drx}(h:S[id]? =some (.cells (w.cs rt rd e) tg)):A8 BP S (.ptr id 1) (.vs 2 (t.map Drx.c) r)=some (S.set id (.cells (({w with dirs:=t}:Wk).cs rt r e) tg)):=by
 rw[Am h];simp[Wk.cs]
theorem Uu{S:St}{id tg:Nat}{w:Wk}{rt rd r:Rt}{e:AV}{t:List Drx}(h:S[id]? =some (.cells (w.cs rt rd e) tg)):A8 BP (stripMem S (.ptr id 1)) (.ptr id 1) (.vs 2 (t.map Drx.c) r)=some (S.set id (.cells (({w with dirs:=t}:Wk).cs rt r e) tg)):=by
 rw[DF h,Am (Ai h)];simp[Wk.cs]
theorem WK{S:St}{id tg:Nat}{w:Wk}{rt rd:Rt}{e:AV}{n:Nat}(h:S[id]? =some (.cells (w.cs rt rd e) tg)):A8 AN S (.ptr id 3) (.int .i64 n)=some (S.set id (.cells (({w with hops:=n}:Wk).cs rt rd e) tg)):=by
 rw[Am h];simp[Wk.cs]
theorem YO{S:St}{id tg:Nat}{w:Wk}{rt rd:Rt}{e:AV}{j:Nat}(h:S[id]? =some (.cells (w.cs rt rd e) tg)):A8 Ck S (.ptr id 4) (.ptr j 0)=some (S.set id (.cells (w.cs rt rd (.ptr j 0)) tg)):=by
 rw[Am h];simp[Wk.cs]
theorem Ul{w0:World}{S:St}{id:Nat}{w:Wk}(h:PW S id w)(hne:w.dirs≠[])(hl:w.dirs.length≤1000000){Q:AV→St→Prop}
  (hq:∀S',Exo id S S'→PW S' id w.ask→(w.fin=none→∀s t d,w.ask.todo=s::t→w.ask.dirs.getLast? =some d→Q (.tup [.str d.path,.vs 2 (d.place.map spC) d.r.strip,.str s,.bool true]) S')∧
   ((w.fin≠none∨w.ask.todo=[])→Q (.tup [.str [],.vs 2 [] .nil,.str [],.bool false]) S')):AC w0 FH [.ptr id 0] S Q:=by
 apply PT;unfold Je;refine A7 (fun j=>∀S',Q (.tup [.str [],.vs 2 [] .nil,.str [],.bool false]) S'→j S') (fun S' h=>h) (fun j0 hj0=>?_)
 refine BV (fun _:List Str×List Drx=>([],[])) (fun n σ S'=>Exo id S S'∧PW S' id {w with todo:=σ.1,dirs:=σ.2}∧Ep σ.1 σ.2=Ep w.todo w.dirs∧σ.2≠[]∧σ.2.length≤1000000∧n=σ.1.length∧(w.fin≠none→σ=(w.todo,w.dirs))) w.todo.length (w.todo,w.dirs) rfl ⟨Exo.refl _ _,h,rfl,hne,hl,rfl,fun _=>rfl⟩ ?_
 rintro n ⟨todo,dirs⟩ S' v b ⟨hE,hW,hp,hne',hl',hn,hfx⟩ _;simp only at hp hne' hl' hn;obtain⟨rt,rd,e,h1,h2,h3,h4⟩:=hW;simp only at h1 h2 h3 h4;generalize hww:({w with todo:=todo,dirs:=dirs}:Wk)=ww at h1
 have t1:ww.todo=todo:=by rw[←hww]
 have t2:ww.dirs=dirs:=by rw[←hww]
 cases hf:w.fin with
 |some p=>
  rw[hf] at h4 hq;obtain⟨j,r,rfl,hj,hjc⟩:=h4;simp[Ij h1];refine hj0 _ ((hq S' hE ?_).2 (.inl (by simp)))
  have e:=hfx (by rw[hf];simp)
  cases e;rw[show w.ask=w by simp[Wk.ask,hf]]
  exact⟨rt,rd,.ptr j 0,by rw[show w=ww from hww];exact h1,h2,h3,by rw[hf];exact⟨j,r,rfl,hj,hjc⟩⟩
 |none=>
  rw[hf] at h4;subst h4;have hask:w.ask={w with todo:=(Ep todo dirs).1,dirs:=(Ep todo dirs).2}:=by rw[hp];simp[Wk.ask,hf,Wk.pop]
  simp[Ij h1,Ev h1,t1];cases todo with
  |nil=>
   simp;refine hj0 _ ((hq S' hE ?_).2 (.inr ?_))
   ·rw[hask];exact⟨rt,rd,.nil,by rw[Ep,hww];exact h1,h2,h3,by simp only[hf]⟩
   ·rw[hask];rfl
  |cons s t=>
   simp
   by_cases hs:s=dd
   ·subst hs;have hr:rt≠ .nil:=fun e=>by have:=h2 e;simp at this
    simp[hr];rw[NT h1];have g1:=Ai (o':=Obj.cells (({ww with todo:=t}:Wk).cs rt rd .nil) Bu) h1
    have hpos:0 < dirs.length:=List.length_pos_iff.2 hne';have hE1:=hE.trans (Exo.set id S' (Obj.cells (({ww with todo:=t}:Wk).cs rt rd .nil) Bu))
    generalize S'.set id (Obj.cells (({ww with todo:=t}:Wk).cs rt rd .nil) Bu)=S1 at g1 hE1
    generalize hw1:({ww with todo:=t}:Wk)=w1 at g1
    have u2:w1.dirs=dirs:=by rw[←hw1];exact t2
    simp[Fx g1,u2];rw[Ep,if_pos rfl] at hp
    by_cases c:1 < dirs.length
    ·rw[if_pos c] at hp;have ci:(1:Int) < dirs.length:=by omega
     have ew:IntKind.i64.wrap ((dirs.length:Int) - 1)=((dirs.length - 1:Nat):Int):=by rw[wrap64 (by omega) (by omega)];omega
     have hrd:rd.strip≠ .nil:=fun e=>by
      have:rd= .nil:=by cases rd<;>simp[Rt.strip] at e ⊢
      exact hne' (h3 this)
     simp[ci,ew,hrd];rw[←List.map_take,←List.dropLast_eq_take,OW g1];simp only[Ay];refine⟨t.length,(t,dirs.dropLast),by simp at hn;omega,rfl,hE1.trans (Exo.set _ _ _),⟨rt,_,.nil,by rw[←hww] at hw1;rw[←hw1];exact Ai (by rw[←hw1] at g1;exact g1),fun e=>absurd e hr,fun e=>?_,by simp only⟩,hp,?_,?_,rfl⟩
     ·split at e
      ·exact absurd e hrd
      ·cases e
     ·intro e;have:=congrArg List.length e;simp at this;omega
     ·simp;omega
    ·rw[if_neg c] at hp;have ci:¬(1:Int) < dirs.length:=by omega
     simp[ci];refine⟨t.length,(t,dirs),by simp at hn;omega,rfl,hE1,⟨rt,rd,.nil,by rw[←hww] at hw1;rw[←hw1] at g1;exact g1,fun e=>absurd e hr,h3,by simp only⟩,hp,hne',hl',rfl⟩
   ·have hd:∃d,dirs.getLast? =some d:=by
     cases hd:dirs.getLast? with
     |none=>exact absurd (List.getLast?_eq_none_iff.1 hd) hne'
     |some d=>exact⟨d,rfl⟩
    obtain⟨d,hd⟩:=hd;simp[hs];refine Re h1 (by rw[t2];exact hd) (by rw[t2];exact hl') ?_
    simp[Ev h1,t1,Drx.c];refine Re h1 (by rw[t2];exact hd) (by rw[t2];exact hl') ?_
    simp[Ev h1,t1,Drx.c];have e1:Ep (s::t) dirs=(s::t,dirs):=by rw[Ep,if_neg hs]
    rw[e1] at hask;have:=(hq S' hE ⟨rt,rd,.nil,by rw[hask];simp only;rw[hww];exact h1,by rw[hask];exact h2,by rw[hask];exact h3,by rw[hask];simp only[hf]⟩).1 hf s t d (by rw[hask]) (by rw[hask];exact hd)
    exact this
theorem dA{w0:World}(hm:KD w0){S:St}{p:List Spot}{pr:Rt}{path:Str}{fl:Bool}(hs:path.length≤1048576){Q:AV→St→Prop}
  (hq:match Cp path with
   |none=>Q (.tup [.nil,.int .i64 1]) S
   |some l=>∀S',Sx S S'→S.length < S'.length→PW S' S.length ⟨l,[⟨[47],p,pr⟩],fl,0,none⟩→Q (.tup [.ptr S.length 0,.int .i64 0]) S'):AC w0 PH [.vs 2 (p.map spC) pr,.str path,.bool fl] S Q:=by
 apply ZZ;unfold US;refine LO hm hs ?_;cases hsp:Cp path with
 |none=>
  rw[hsp] at hq;simp;exact hq
 |some l=>
  rw[hsp] at hq;intro r hr1 hr2;simp;refine hq _ (Sx.app _ _) (by simp) ⟨r.strip,.full,.nil,?_,fun e=>hr1 (by cases r<;>simp[Rt.strip] at e ⊢),by simp,by simp⟩
  rw[List.getElem?_append_right (Nat.le_refl _)];simp[Wk.cs,Drx.c,Rt.strip]
theorem bS{w0:World}(hm:KD w0){S:St}{id:Nat}{w:Wk}{target:Str}(h:PW S id w)(hf:w.fin=none)(hne:w.dirs≠[])(hs:target.length≤1048576)(hh:w.hops≤1000000)(hl:w.todo.length≤1000000){Q:AV→St→Prop}
  (hq:∀S',Exo id S S'→
   if 40 < w.hops+1 then (PW S' id {w with hops:=w.hops+1}→Q (.int .i64 4) S')
   else match Cp target with
    |none=>PW S' id {w with hops:=w.hops+1}→Q (.int .i64 1) S'
    |some l=>PW S' id {w with todo:=l++w.todo,hops:=w.hops+1,dirs:=if target.head? =some 47 then w.dirs.take 1 else w.dirs}→Q (.int .i64 0) S'):AC w0 F7 [.ptr id 0,.str target] S Q:=by
 obtain⟨rt,rd,e,h1,h2,h3,h4⟩:=h;rw[hf] at h4;subst h4;apply N4;unfold JK;have ew:IntKind.i64.wrap ((w.hops:Int)+1)=((w.hops+1:Nat):Int):=by rw[wrap64 (by omega) (by omega)];omega
 simp[Oc h1,ew];rw[show (AV.int .i64 ((w.hops:Int)+1))= .int .i64 ((w.hops+1:Nat):Int) by simp,WK h1]
 have g1:=Ai (o':=Obj.cells (({w with hops:=w.hops+1}:Wk).cs rt rd .nil) Bu) h1
 have hE1:=Exo.set id S (Obj.cells (({w with hops:=w.hops+1}:Wk).cs rt rd .nil) Bu)
 generalize S.set id (Obj.cells (({w with hops:=w.hops+1}:Wk).cs rt rd .nil) Bu)=S1 at g1 hE1
 have a1:PW S1 id {w with hops:=w.hops+1}:=⟨rt,rd,.nil,g1,h2,h3,by simp only[hf]⟩
 simp[Oc g1]
 by_cases c:40 < w.hops+1
 ·have ci:(40:Int) < (w.hops:Int)+1:=by omega
  have:=hq S1 hE1;rw[if_pos c] at this;simp[ci];exact this a1
 have ci:¬(40:Int) < (w.hops:Int)+1:=by omega
 simp only[if_neg c] at hq;simp[ci];refine LO hm hs ?_;cases hsp:Cp target with
 |none=>
  rw[hsp] at hq;simp;exact hq S1 hE1 a1
 |some l=>
  rw[hsp] at hq;intro r hr1 hr2;have hl2:=I1 hsp;have hsh:=Ip hsp;have hap:∀(S2:St),AU AJ S2 (.vs 1 (l.map BO) r) (.vs 1 (w.todo.map BO) rt.strip)=some (.vs 1 ((l++w.todo).map BO) (if w.todo=[] then r else .own (Ba AJ r))):=fun S2=>by
   have hrn:r≠ .none:=by rcases hr2 with rfl|rfl<;>simp
   simp only[AU,A1]
   by_cases e:w.todo=[]
   ·simp[e]
   ·have:l.length+w.todo.length≤lim:=by unfold lim;omega
    simp[e,hrn,this]
  have fin:∀(S2:St) (w2:Wk) (rd2:Rt),Exo id S1 S2→S2[id]? =some (.cells (w2.cs rt rd2 .nil) Bu)→w2.todo=w.todo→(rd2= .nil→w2.dirs=[])→w2.fin=none→w2.hops=w.hops+1→w2.follow=w.follow→w2.dirs=(if target.head? =some 47 then w.dirs.take 1 else w.dirs)→
    AA (AP AX S2 (.ptr id 0)) fun t43=>AA (AU AJ S2 (.vs 1 (l.map BO) r) t43.strip) fun t44=>AA (A8 AX S2 (.ptr id 0) t44) fun S5=>Q (.int .i64 0) S5:=by
   intro S2 w2 rd2 hE2 k1 k2 k3 k4 k5 k6 k7;simp only[Ev k1,Ay,k2,gn,hap,WW k1];refine hq _ ((hE1.trans hE2).trans (Exo.set _ _ _)) ⟨if w.todo=[] then r else .own (Ba AJ r),rd2,.nil,?_,fun e=>?_,fun e=>?_,by simp only[hf]⟩
   ·rw[Ai k1];simp[Wk.cs,k5,k6,k7]
   ·simp only;split at e
    ·rename_i e2;rw[hr1 e,e2];rfl
    ·cases e
   ·have:=k3 e;rw[k7] at this;exact this
  simp only[cO,dI,cz,cW,cL,Ay,Xm,iR];simp;rw[AH];have hpos:0 < w.dirs.length:=List.length_pos_iff.2 hne
  by_cases ch:target.head? =some 47
  ·have hcut:CT Bz (.vs 2 (w.dirs.map Drx.c) rd) none (some (.int .i64 1)) none=some (.vs 2 ((w.dirs.take 1).map Drx.c) (if 1=w.dirs.length then rd else .none)):=by
    have hx:rd= .nil→w.dirs=[]:=h3;simp[show 1≤w.dirs.length by omega]
    exact hx
   simp only[ch,Fx g1,Ay,fe,hcut,Uu g1];simp;refine fin _ {w with hops:=w.hops+1,dirs:=w.dirs.take 1} (if 1=w.dirs.length then rd else .none) (Exo.set _ _ _) ?_ rfl (fun e=>?_) (by simp only[hf]) rfl rfl (by simp only[ch,if_true])
   ·rw[Ai g1]
   ·split at e
    ·exact absurd (h3 e) hne
    ·cases e
  ·have:(target.head? ==some 47)=false:=by simpa using ch
   rw[this];exact fin S1 {w with hops:=w.hops+1} rd (Exo.refl _ _) g1 rfl h3 (by simp only[hf]) rfl rfl (by simp only[ch,if_false])
theorem ab{w0:World}(hm:KD w0){S:St}{id:Nat}{w:Wk}{f:Fnd}{fr:Rt}{there:Bool}{target:Str}(h:PW S id w)(hf:w.fin=none)(hne:w.dirs≠[])(hl:w.dirs.length≤100000)(hh:w.hops≤1000000)(htl:w.todo.length≤100000)(hs:target.length≤1048576)
  (hask:w.todo.head?≠some dd) {Q:AV→St→Prop}
  (hq0:w.todo=[]→∀S',Exo id S S'→PW S' id w→Q (.int .i64 1) S')
  (hq:∀s rest d,w.todo=s::rest→w.dirs.getLast? =some d→d.path.length+s.length≤1000000∧∀S',Exo id S S'→PW S' id (w.tell d.path s rest f fr there target).1→Q (.int .i64 (w.tell d.path s rest f fr there target).2) S'):
  AC w0 El [.ptr id 0,.agg (f.c fr.strip),.bool there,.str target] S Q:=by
 have hpop:w.ask=w:=by
  simp only[Wk.ask,hf,Wk.pop,dE hask];cases w;simp only at hf;subst hf;rfl
 apply Nu;unfold JB;simp;refine Ul h hne (by omega) (fun S1 hS1 hW=>?_)
 rw[hpop] at hW ⊢;cases ht:w.todo with
 |nil=>
  refine⟨fun _ s t d e=>(by cases e),fun _=>?_⟩
  simp;exact hq0 ht S1 hS1 hW
 |cons s rest=>
  refine⟨fun _ s' t' d e hd=>?_,fun e=>by rcases e with e|e;exact absurd hf e;cases e⟩
  cases e;obtain⟨hdl,hq⟩:=hq s rest d ht hd;unfold Wk.tell at hq;obtain⟨rt,rd,e,h1,h2,h3,h4⟩:=hW;rw[hf] at h4;subst h4;simp;cases there with
  |false=>
   simp;have:=hq S1 hS1;simp at this;exact this ⟨rt,rd,.nil,h1,h2,h3,by simp only[hf]⟩
  |true=>
   simp only[Bool.true_eq_false,if_false] at hq;simp[Ev h1,ht];have hr:rt≠ .nil:=fun e=>by have:=h2 e;rw[ht] at this;cases this
   simp[hr];rw[NT h1];have g1:=Ai (o':=Obj.cells (({w with todo:=rest}:Wk).cs rt rd .nil) Bu) h1
   have hE1:=hS1.trans (Exo.set id S1 (Obj.cells (({w with todo:=rest}:Wk).cs rt rd .nil) Bu))
   generalize S1.set id (Obj.cells (({w with todo:=rest}:Wk).cs rt rd .nil) Bu)=S2 at g1 hE1
   have a1:PW S2 id {w with todo:=rest}:=⟨rt,rd,.nil,g1,fun e=>absurd e hr,h3,by simp only[hf]⟩
   simp[Ev g1,Sy g1];refine A7 (fun j=>∀S',Q (.int .i64 0) S'→j S') (fun S' h=>h) (fun j3 hj3=>?_)
   have hn':({w with todo:=rest}:Wk).dirs≠[]:=hne
   refine UM (fun hc=>?_) (fun hc=>?_)
   ·have c3:f.kind=3∧(rest≠[]∨w.follow=true):=by simpa using hc
    simp only[if_pos c3] at hq;rw[ht,List.length_cons] at htl;refine bS hm a1 (by simp only[hf]) hne hs hh (by simp only;omega) (fun S3 hE3=>?_)
    have:=hq S3 (hE1.trans hE3)
    by_cases c40:40 < w.hops+1
    ·simp only[if_pos c40] at this ⊢;exact this
    ·simp only[if_neg c40] at this ⊢;cases hsp:Cp target with
     |none=>simp only[hsp] at this;exact this
     |some l=>simp only[hsp] at this;exact this
   have c3:¬(f.kind=3∧(rest≠[]∨w.follow=true)):=by
    intro h;have:(decide (f.kind=3)&&(!decide (rest=[])||w.follow))=true:=by simpa using h
    rw[this] at hc;cases hc
   simp only[if_neg c3] at hq
   by_cases k2:f.kind=2
   ·simp only[if_pos k2] at hq;have hrd:rd.strip≠ .nil:=fun e=>by
     have:rd= .nil:=by cases rd<;>simp[Rt.strip] at e ⊢
     exact hne (h3 this)
    have hcut:CT Bz (.vs 2 (w.dirs.map Drx.c) rd.strip) none (some (.int .i64 (w.dirs.length:Int))) (some (.int .i64 (w.dirs.length:Int)))=some (.vs 2 (w.dirs.map Drx.c) .full):=by
     simp[CT,bnd,hrd];rw[List.take_of_length_le (by simp)]
    simp[k2,Fx g1,hcut];refine Qb (by omega) ?_
    simp[Fx g1];have hap:AU Bz S2 (.vs 2 (w.dirs.map Drx.c) .full) (.vs 2 [[.str (if d.path=[47] then d.path++s else d.path++47::s),.vs 2 (f.dirs.map spC) fr.strip]] .full)=some (.vs 2 ((w.dirs++[({path:=if d.path=[47] then d.path++s else d.path++47::s,place:=f.dirs,r:=fr}:Drx)]).map Drx.c) (.own (Ba Bz .full))):=by
     simp[AU,A1,Drx.c,show w.dirs.length+1≤lim by unfold lim;omega]
    rw[hap];simp only[Ay,OW g1];refine hj3 _ (hq _ (hE1.trans (Exo.set _ _ _)) ⟨rt,_,.nil,Ai g1,fun e=>absurd e hr,fun e=>(by cases e),by simp only[hf]⟩)
   simp only[if_neg k2] at hq
   by_cases cr:rest≠[]
   ·simp only[if_pos cr] at hq;simp[k2,cr];exact hq S2 hE1 a1
   simp only[if_neg cr] at hq;have cr2:rest=[]:=by simpa using cr
   simp[k2,cr2];refine Qb (by omega) ?_
   simp;have hlt:id < S2.length:=(List.getElem?_eq_some_iff.1 g1).1;generalize hO:Obj.cells [AV.str (if d.path=[47] then d.path++s else d.path++47::s),.int .i64 f.kind,.int .i64 f.sp.1,.int .i64 f.sp.2,.vs 2 (f.dirs.map spC) fr.strip] Hb=O
   have g2:(S2++[O])[id]? =some (.cells (({w with todo:=rest}:Wk).cs rt rd .nil) Bu):=by rw[List.getElem?_append_left hlt];exact g1
   have g3:(S2++[O])[S2.length]? =some O:=by simp
   rw[YO g2];simp only[Ay];refine hj3 _ (hq _ ((hE1.trans (Exo.app _ _ _)).trans (Exo.set _ _ _)) ⟨rt,rd,.ptr S2.length 0,?_,fun e=>absurd e hr,h3,S2.length,fr.strip,rfl,by omega,?_⟩)
   ·rw[Ai g2,cr2];rfl
   ·rw[List.getElem?_set_ne (by omega),g3,←hO]
    rfl
theorem Od{w0:World}{S:St}{id:Nat}{w:Wk}(h:PW S id w)(hne:w.dirs≠[])(hl:w.dirs.length≤100000){Q:AV→St→Prop}
  (hq:match w.fin with
   |some p=>∀r:Rt,Q (.agg (.str p.1::p.2.c r.strip)) S
   |none=>∀(d:Drx) (r:Rt),w.dirs.getLast? =some d→Q (.agg (.str d.path::(dc d.place).c r.strip)) S):AC w0 Fc [.ptr id 0] S Q:=by
 obtain⟨rt,rd,e,h1,h2,h3,h4⟩:=h;apply MN;unfold H5;cases hf:w.fin with
 |some p=>
  rw[hf] at h4 hq;obtain⟨j,r,rfl,hj,hjc⟩:=h4;have hld:AP Aj S (.ptr j 0)=some (.agg (.str p.1::p.2.c r)):=by rw[Aa hjc];simp[Fnd.c]
  simp[Ij h1,hld,Fnd.c];exact hq r
 |none=>
  rw[hf] at h4 hq;subst h4;have hd:∃d,w.dirs.getLast? =some d:=by
   cases hd:w.dirs.getLast? with
   |none=>exact absurd (List.getLast?_eq_none_iff.1 hd) hne
   |some d=>exact⟨d,rfl⟩
  obtain⟨d,hd⟩:=hd;simp[Ij h1];refine Re h1 hd (by omega) ?_
  simp[Drx.c];rw[AH];cases hp:d.place with
  |nil=>
   simp;have:=hq d d.r hd;rw[hp] at this;simpa[dc,Fnd.c] using this
  |cons x p=>
   simp[spC];have:=hq d d.r hd;rw[hp] at this;simpa[dc,Fnd.c,spC] using this
structure Leads(S:St)(s:Stk)(D:List Node):Prop where
 ok:s.ok
 on:s.on S
 good:jW s.tabs
 root:OnP s.tabs (Gz s.tabs 0) (De D)
 dirs:∀n∈De D,n.ok∧n.allB=true∧n.kind=2∧n.depth≤15∧n.count≤100000
 few:(De D).length≤64
theorem Leads.start{S:St}{s:Stk}{D:List Node}(h:Leads S s D)(r:Rt):JY s.tabs D [⟨[47],Gz s.tabs 0,r⟩] []:=by
 refine⟨rfl,fun k hk=>?_,by simp⟩
 simp at hk;subst hk;exact⟨_,rfl,by simp[pathOf,Lib.join_nil],rfl,h.root,by simpa[DC] using h.dirs,h.few,by simp⟩
theorem Leads.mono{S S':St}{s:Stk}{D:List Node}(h:Leads S s D)(k:Sx S S'):Leads S' s D:=⟨h.ok,h.on.mono k,h.good,h.root,h.dirs,h.few⟩
def od(s:Stk)(D:List Node)(want:AtN)(S:St)(n:Nat)(S':St):Prop:=
 Sx S S'∧S.length < S'.length∧n≤100000∧∃w,PW S' S.length w∧w.todo.length≤n∧((∃h names,Going s.tabs D want w h names∧n=w.todo.length+129*h+1)∨(∃g names,JY s.tabs D w.dirs names∧w.fin=some (pathOf want.names,g)∧w.todo=[]∧Ends s.tabs D want g))
theorem SO{w0:World}(hm:KD w0){S:St}{s:Stk}{D:List Node}{path:Str}{fl:Bool}(hL:Leads S s D)(hs:path.length≤1048576){Q:AV→St→Prop}
  (hq:∀S',Sx S S'→((Bj D path fl).err≠0→Q (.tup [.agg (.str []::Fnd.none.c .nil),.int .i64 (Bj D path fl).err]) S')∧
   ((Bj D path fl).err=0→∀(t:Fnd) (r:Rt),Ends s.tabs D (Bj D path fl) t→Q (.tup [.agg (.str (pathOf (Bj D path fl).names)::t.c r.strip),.int .i64 0]) S')):AC w0 Jy [.agg s.c,.str path,.bool fl] S Q:=by
 have hc:s.c=[.vs 2 (s.l.map Mnt.c) s.r.strip,.int .i64 s.next]:=rfl;rw[hc];apply Yp;unfold SP;simp[←hc];refine aS hL.ok hL.on (fun r hr=>?_)
 simp;refine dA hm hs ?_;cases hsp:Cp path with
 |none=>
  simp;have:=(hq S (Sx.refl _)).1 (by simp[Bj,hsp])
  simpa[Bj,hsp,Fnd.c,Fnd.none] using this
 |some l=>
  intro S1 hS1 hlt hW;have hw:Bj D path fl=KR D fl 40 l []:=by rw[Bj,hsp]
  rw[hw] at hq;simp;generalize hwant:KR D fl 40 l []=want at hq;refine BV (fun _:Unit=>([],[some s.c,some [.str [],.int .i64 0,.int .i64 0,.int .i64 0,.vs 2 [] .nil]]))
   (fun n _ S'=>od s D want S n S') (l.length+129*40+1) ()
   rfl ⟨hS1,hlt,by have:=I1 hsp;have:=Ip hsp;omega,_,hW,by simp only;omega,.inl ⟨40,[],⟨hL.start _,rfl,fun x hx=>O9 hsp x hx,rfl,hwant⟩,rfl⟩⟩ ?_
  rintro n _ S2 v b ⟨hS2,hlt2,hnl0,w,hW2,htl,hcase⟩ hv;simp at hv;obtain⟨hv1,hv2⟩:=hv;have hL2:=hL.mono hS2;simp[hv1,hv2];have hdirs:∃names,JY s.tabs D w.dirs names:=by
   rcases hcase with ⟨h,names,g,_⟩|⟨_,names,h,_⟩
   ·exact⟨names,g.on⟩
   ·exact⟨names,h⟩
  obtain⟨nm0,hon0⟩:=hdirs;have hdl:w.dirs.length≤16:=by
   obtain⟨d,_,_,h3⟩:=hon0.last;have:=h3.short;have:=hon0.len;omega
  have hdn:w.dirs≠[]:=fun e=>by have:=hon0.len;rw[e] at this;simp at this
  refine Ul hW2 hdn (by omega) (fun S3 hE3 hW3=>?_)
  have hS3:Sx S S3:=hE3.Sx_of hS2 (Nat.le_refl _);have hlt3:S.length < S3.length:=Nat.lt_of_lt_of_le hlt2 hE3.1;have hL3:=hL.mono hS3;rcases hcase with ⟨h,names,g,hn⟩|⟨g,names,hg1,hg2,hg4,hg3⟩
  ·have hf:=g.fin;have hask:w.ask=w.pop:=by rw[Wk.ask,hf]
   rw[hask] at hW3 ⊢;obtain⟨names',g'⟩:=g.pop;have hhd:w.pop.todo.head?≠some dd:=Ol _ _;have hpl:w.pop.todo.length≤w.todo.length:=Ri _ _;generalize w.pop=w1 at hW3 g' hhd hpl ⊢;have hdl1:w1.dirs.length≤16:=by
    obtain⟨d,_,_,h3⟩:=g'.on.last;have:=h3.short;have:=g'.on.len;omega
   have hdn1:w1.dirs≠[]:=fun e=>by have:=g'.on.len;rw[e] at this;simp at this
   cases ht:w1.todo with
   |nil=>
    refine⟨fun _ s' t' d e=>(by cases e),fun _=>?_⟩
    simp;refine Od hW3 hdn1 (by omega) ?_
    rw[g'.fin];intro d r hd;obtain⟨d',e1,e2,e3⟩:=g'.end ht;rw[hd] at e1;cases e1;have:=(hq S3 hS3).2 e3.1 (dc d.place) r e3;simp[Fnd.c];rw[e2];simpa[Fnd.c] using this
   |cons nm rest=>
    refine⟨fun _ s' t' d e hd=>?_,fun e=>by rcases e with e|e;exact absurd hf e;cases e⟩
    cases e;have hnd:nm≠dd:=fun e=>hhd (by rw[ht,e];rfl)
    obtain⟨d0,d01,d02,hd0⟩:=g'.on.last;rw[hd] at d01;cases d01;have hon:=hd0.on;have hfew:=hd0.few;rw[←hon.len] at hfew;have hag:=Jl s.tabs nm _ _ hon (fun n hn=>(hd0.good n hn).2.1)
    have hdp:=hd0.at_;rw[hdp] at hon hfew hag ⊢;simp;refine Z6 hL.ok hL3.on hL.good (by omega) (fun rf hrf=>?_)
    have hnl:nm.length≤64:=by
     have:=(g'.td nm (by rw[ht];simp)).resolve_left hnd
     exact(Me this).2.2.2.1
    have hpth:d.path.length≤1000:=by rw[hd0.path];exact Oy hd0.short g'.on.nm
    have tell:∀(target:Str),target.length≤1048576→((DB s.tabs nm (D0 s.tabs names') Fnd.none).kind=3→∀y l,Cn (DC D names') nm=y::l→target=y.target)→∀(k:AV→St→Prop),
      (∀S5 e,Sx S S5→S.length < S5.length→(e≠0→want.err=e→k (.int .i64 e) S5)∧(e=0→Nx (fun _:Unit=>([],[some s.c,some [.str [],.int .i64 0,.int .i64 0,.int .i64 0,.vs 2 [] .nil]]))
   (fun n _ S'=>od s D want S n S') n ([],[some s.c,some [.str [],.int .i64 0,.int .i64 0,.int .i64 0,.vs 2 [] .nil]]) S5→k (.int .i64 e) S5))→
      AC w0 El [.ptr S.length 0,.agg ((DB s.tabs nm (D0 s.tabs names') Fnd.none).c rf.strip),.bool (decide ((DB s.tabs nm (D0 s.tabs names') Fnd.none).kind≠0)),.str target] S3 k:=by
     intro target htg hty k hk;refine ab hm hW3 g'.fin hdn1 (by omega) (by have:=g'.hops;omega) (by omega) htg hhd (fun e=>by rw[ht] at e;cases e) (fun s' rest' d' e1 e2=>?_)
     rw[ht] at e1;cases e1;rw[hd] at e2;cases e2;refine⟨by omega,fun S5 hE5 hW5=>?_⟩
     obtain⟨d2,k1,k2,k3,k4,k5⟩:=g'.step (fr:=rf) ht hnd rfl hty;rw[hd] at k1;cases k1;rw[k2] at hW5 ⊢;generalize w1.tell (pathOf names') nm rest (DB s.tabs nm (D0 s.tabs names') Fnd.none) rf (decide ((DB s.tabs nm (D0 s.tabs names') Fnd.none).kind≠0)) target=te at k5 hW5 ⊢;obtain⟨w2,e⟩:=te;simp only at k5 hW5 ⊢;obtain⟨k6,k7⟩:=k5;have hS5:=hE5.Sx_of hS3 (Nat.le_refl _);have hlt5:S.length < S5.length:=Nat.lt_of_lt_of_le hlt3 hE5.1;refine(hk S5 e hS5 hlt5).elim fun q1 q2=>?_
     by_cases he:e=0
     ·have hll:w1.todo.length=rest.length+1:=by rw[ht];rfl
      refine q2 he ?_;rcases k7 he with ⟨h',nm2,g2,hc⟩|⟨gg,c1,c2,c3,c4⟩
      ·rcases hc with ⟨c1,c2⟩|⟨c1,pp,c2,c3⟩
       ·exact⟨w2.todo.length+129*h'+1,(),by rw[c1,c2];omega,rfl,hS5,hlt5,by rw[c1,c2];omega,w2,hW5,by omega,.inl ⟨h',nm2,g2,rfl⟩⟩
       ·have hpl2:w2.todo.length=pp.length+rest.length:=by rw[c3,List.length_append]
        exact⟨w2.todo.length+129*h'+1,(),by omega,rfl,hS5,hlt5,by omega,w2,hW5,by omega,.inl ⟨h',nm2,g2,rfl⟩⟩
      ·exact⟨0,(),by omega,rfl,hS5,hlt5,by omega,w2,hW5,by rw[c4];simp,.inr ⟨gg,names',by rw[c4];exact g'.on,c1,by rw[c4],c2⟩⟩
     ·exact q1 he (k6 he)
    generalize hf':DB s.tabs nm (D0 s.tabs names') Fnd.none=f at hag tell ⊢;simp[Fnd.c];refine A7 (fun j=>∀target:Str,target.length≤1048576→(f.kind=3→∀y l,Cn (DC D names') nm=y::l→target=y.target)→j (.str target) S3) (fun target h1 h2=>?_) (fun j hj=>?_)
    ·simp;have:=tell target h1 h2;simp[Fnd.c] at this;refine this _ (fun S5 e hS5 hlt5=>⟨fun he hw2=>?_,fun he hN=>?_⟩)
     ·have hx:=(hq S5 hS5).1 (by rw[hw2];exact he)
      rw[hw2] at hx;simp[he];simpa[Fnd.c,Fnd.none] using hx
     ·simp[he];exact hN
    ·by_cases k3:f.kind=3
     ·simp[k3];cases hsn:Cn (DC D names') nm with
      |nil=>
       rw[hsn] at hag;rw[show f=Fnd.none from hag] at k3
       cases k3
      |cons y l2=>
       rw[hsn] at hag;obtain⟨a1,a2,a3,a4,a5,a6,a7,a8⟩:=hag;obtain⟨m,b1,b2,b3,b4⟩:=a4.at_;refine GB ?_;rw[b1];simp;refine MD (hL3.on m b2) ?_;rw[b3];have hty:=KC a5 (a1 ▸ k3);obtain⟨pp,hp1,hp2⟩:=hty;refine hj _ (by show y.target.length≤_;omega) (fun _ y' l' e=>by rw[hsn] at e;cases e;rfl)
     ·simp[k3];exact hj _ (by simp) (fun e=>absurd e k3)
  ·have hask:w.ask=w:=by rw[Wk.ask,hg2]
   rw[hask] at hW3 ⊢;refine⟨fun e=>(by rw[hg2] at e;cases e),fun _=>?_⟩
   simp;refine Od hW3 hdn (by omega) ?_
   rw[hg2];intro r;have:=(hq S3 hS3).2 hg3.1 g r hg3;simp[Fnd.c];simpa[Fnd.c] using this
open Go.Proofs
theorem am{D:List Node}(h:∀n∈De D,n.ok∧n.allB=true):∀(names:List Str),(∀n∈DC D names,n.ok∧n.allB=true)∧(DC D names).length≤(De D).length:=by
 have gen:∀(names:List Str) (H:List Node),(∀n∈H,n.ok∧n.allB=true)→(∀n∈names.foldl Cn H,n.ok∧n.allB=true)∧(names.foldl Cn H).length≤H.length:=by
  intro names
  induction names with
  |nil=>intro H h;exact⟨h,Nat.le_refl _⟩
  |cons s l ih=>
   intro H h;obtain⟨h1,h2⟩:=ih (Cn H s) (fun n hn=>by obtain⟨m,k1,k2⟩:=Rp hn;exact⟨LZ (h m k1).1 k2,Kr (h m k1).2 k2⟩)
   exact⟨h1,Nat.le_trans h2 (Xp _ _)⟩
 intro names;exact gen names _ h
structure Docs(D:List Node):Prop where
 len:D.length≤1000000
 ok:∀n∈D,n.ok
 dirs:∀n∈De D,n.ok∧n.allB=true
 few:(De D).length≤64
theorem RE{w0:World}{S:St}{D:List Node}{dr nr:Rt}{names:List Str}(hD:Docs D)(hn:names.length≤1000000){Q:AV→St→Prop}(hq:∀r:Rt,Q (.vs 7 ((DC D names).map Node.c) r.strip) S):AC w0 IR [.vs 7 (D.map Node.c) dr,.vs 1 (names.map BO) nr] S Q:=by
 apply Wf;unfold QX;refine LT (l:=D) hD.len (fun r1=>?_)
 rw[AH];simp;refine Ak names (fun i (r:Rt)=>([.vs 7 ((DC D (names.take i)).map Node.c) r,.int .i64 i],[])) (fun i r S'=>S'=S) r1 (by simp[DC]) rfl ?_ ?_
 ·rintro i r S' v b s c hxi hd hc hmem rfl hv;simp at hv;obtain⟨hv1,hv2⟩:=hv;obtain⟨k1,k2⟩:=am hD.dirs (names.take i);have hf:=hD.few;simp[hv1,hv2,hc,hxi];refine Lp (by omega) k1 (fun r2=>?_)
  try simp
  try simp (disch:=omega) only[wrap64]
  refine .next c r2 ?_ rfl;have:names.take (i+1)=names.take i++[s]:=by rw[List.take_succ,hxi];rfl
  rw[this,GD];simp
 ·rintro r S' v b rfl hv N;simp at hv;obtain⟨hv1,hv2⟩:=hv;simp[hv1,hv2];exact hq r
theorem Rt.of_strip_nil{r:Rt}(h:r.strip= .nil):r= .nil:=by cases r<;>simp[Rt.strip] at h ⊢
theorem dX{ei:TI}{l:List Str}{r:Rt}{n:Int}(hs:ei.size=1)(hr:r= .nil→l=[]){k:Nat}(hk:n=k)(hkl:k≤l.length):CT ei (.vs 1 (l.map BO) r) none (some (.int .i64 n)) none=some (.vs 1 ((l.take k).map BO) (if k=l.length then r else .none)):=by
 subst hk;have:(r= .nil→l.map BO=[]):=fun e=>by rw[hr e];rfl
 simp[hs,hkl];exact hr
theorem WV{w0:World}{D:List Node}{follow:Bool}(hD:Docs D):∀(h:Nat) (todo names:List Str) {S:St} {dr nr tr:Rt} {Q:AV→St→Prop},h≤40→names.length+todo.length+1100*h≤100000→(nr= .nil→names=[])→(tr= .nil→todo=[])→
  (∀r1 r2:Rt,Q (.agg [.vs 1 ((KR D follow h todo names).names.map BO) r1.strip,.vs 7 ((KR D follow h todo names).nodes.map Node.c) r2.strip,.int .i64 (KR D follow h todo names).err]) S)→
  AC w0 Ez [.vs 7 (D.map Node.c) dr,.vs 1 (names.map BO) nr,.vs 1 (todo.map BO) tr,.bool follow,.int .i64 h] S Q:=by
 intro h
 induction h using Nat.strongRecOn with
 |ind h ihh=>
  intro todo
  induction todo with
  |nil=>
   intro names S dr nr tr Q hh hlen hnr htr hq;rw[GG,ID] at hq;apply Mz;unfold KJ;simp;refine RE hD (by omega) (fun r=>?_)
   simp;exact hq nr r
  |cons part rest iht=>
   intro names S dr nr tr Q hh hlen hnr htr hq;rw[GG,ID,←GG] at hq;simp only[List.length_cons] at hlen;obtain⟨k1,k2⟩:=am hD.dirs names;have hf:=hD.few;have hr:tr≠ .nil:=fun e=>by have:=htr e;cases this
   have hz:¬((rest.length:Int)+1=0):=by omega
   apply Mz;unfold KJ;simp[hz,hr]
   by_cases e:part=dd
   ·rw[if_pos e] at hq;subst e;simp;refine A7 (fun j=>j (.int .i64 (names.length - 1:Nat))) ?_ (fun j hj=>?_)
    ·have hcut:=dX (ei:=AJ) (n:=((names.length - 1:Nat):Int)) rfl hnr rfl (by omega)
     simp[hcut];rw[←List.map_take,←List.dropLast_eq_take];refine iht names.dropLast hh (by simp;omega) (fun e=>?_) (fun e=>?_) (fun r1 r2=>?_)
     ·have:nr= .nil:=by
       split at e
       ·cases nr<;>simp[Rt.strip] at e ⊢
       ·cases e
      rw[hnr this];rfl
     ·exact absurd (by cases tr<;>simp[Rt.strip] at e ⊢) hr
     ·simp;exact hq r1 r2
    ·by_cases c:names.length=0
     ·have ew:IntKind.i64.wrap ((names.length:Int) - 1)= -1:=by rw[wrap64 (by omega) (by omega)];omega
      have e2:names.length - 1=0:=by omega
      rw[e2] at hj;simp[ew];exact hj
     ·have ew:IntKind.i64.wrap ((names.length:Int) - 1)=((names.length - 1:Nat):Int):=by rw[wrap64 (by omega) (by omega)];omega
      have hneg:¬(((names.length - 1:Nat):Int) < 0):=by omega
      rw[ew,decide_eq_false hneg];exact hj
   ·rw[if_neg e] at hq;simp[e];refine RE hD (by omega) (fun r=>?_)
    simp;refine Lp (by omega) k1 (fun r2=>?_)
    have hgood:∀z∈Cn (DC D names) part,z.ok∧z.allB=true:=fun z hz=>by
     obtain⟨m,q1,q2⟩:=Rp hz;exact⟨LZ (k1 m q1).1 q2,Kr (k1 m q1).2 q2⟩
    cases hsn:Cn (DC D names) part with
    |nil=>
     rw[hsn] at hq;simp;simpa using hq .nil .nil
    |cons y l=>
     rw[hsn] at hq hgood;simp only at hq;have hyo:=hgood y (by simp)
     have hz2:¬((l.length:Int)+1=0):=by omega
     have hap1:∀(S2:St),AU AJ S2 (.vs 1 [] .full) (.vs 1 (names.map BO) nr.strip)=some (.vs 1 (names.map BO) (if names=[] then .full else .own (Ba AJ .full))):=fun S2=>by
      simp only[AU,A1]
      by_cases e:names=[]
      ·simp[e]
      ·simp[e,show names.length≤lim by unfold lim;omega]
     have hap2:∀(S2:St),AU AJ S2 (.vs 1 (names.map BO) (if names=[] then .full else .own (Ba AJ .full))) (.vs 1 [[.str part]] .full)=some (.vs 1 ((names++[part]).map BO) (.own (Ba AJ (if names=[] then .full else .own (Ba AJ .full))))):=fun S2=>by
      by_cases e:names=[]
      ·subst e;simp[AU,A1,lim]
      ·simp[AU,A1,e,show names.length+1≤lim by unfold lim;omega]
     have hap2:=hap2 S;obtain⟨r3,hr3e⟩:∃r3,r3=(Rt.own (Ba AJ (if names=[] then .full else .own (Ba AJ .full)))):=⟨_,rfl⟩
     have hr3:r3≠ .nil:=by rw[hr3e];simp
     rw[←hr3e] at hap2;simp[hz2,hap1];simp at hap2;simp[hap2];rw[AH];have htr':tr.strip≠ .nil:=fun e=>hr (by cases tr<;>simp[Rt.strip] at e ⊢)
     have hr3':r3.strip≠ .nil:=fun e=>hr3 (by cases r3<;>simp[Rt.strip] at e ⊢)
     have hmapA:List.map BO names++[[AV.str part]]=(names++[part]).map BO:=by simp
     rw[hmapA]
     by_cases c2:y.kind=2
     ·rw[if_pos c2] at hq;simp only[c2,decide_true,FN];refine iht (names++[part]) hh (by simp;omega) (fun e=>absurd e hr3') (fun e=>absurd e htr') (fun r4 r5=>?_)
      simp;exact hq r4 r5
     rw[if_neg c2] at hq;simp only[decide_eq_false c2,EU];have hlast:¬(y.kind=3∧(rest≠[]∨follow=true))→ifK (AV.bool (decide (0 < rest.length))) (Q (AV.agg [AV.vs 1 [] Rt.nil,AV.vs 7 [] Rt.nil,AV.int IntKind.i64 3]) S)
       (Q (AV.agg [AV.vs 1 ((names++[part]).map BO) r3.strip,AV.vs 7 (y.c::List.map Node.c l) r2.strip,AV.int IntKind.i64 0]) S):=fun c3=>by
      rw[if_neg c3] at hq
      by_cases cr:rest=[]
      ·subst cr;simp;simpa using hq r3 r2
      ·have:0 < rest.length:=List.length_pos_iff.2 cr;rw[if_pos cr] at hq;simp[this];simpa using hq .nil .nil
     by_cases c3:y.kind=3
     case neg=>
      simp only[decide_eq_false c3,EU];exact hlast fun h=>c3 h.1
     simp only[c3,decide_true,FN]
     by_cases cf:rest≠[]∨follow=true
     case neg=>
      have:(decide (0 < rest.length)||follow)=false:=by
       cases follow with
       |true=>exact absurd (.inr rfl) cf
       |false=>
        have:rest=[]:=by
         by_cases e:rest=[]
         ·exact e
         ·exact absurd (.inl e) cf
        simp[this]
      rw[this,EU];exact hlast fun h=>cf h.2
     have:(decide (0 < rest.length)||follow)=true:=by
      rcases cf with h|h
      ·simp[List.length_pos_iff.2 h]
      ·simp[h]
     rw[this,FN];rw[if_pos ⟨c3,cf⟩] at hq;cases h with
     |zero=>
      simp only[eS] at hq;simp;simpa using hq .nil .nil
     |succ h=>
      simp;obtain⟨pp,hp1,hp2⟩:=KC hyo.2 c3;have hpo:partsOf y.target=pp:=by rw[partsOf,hp1];rfl
      have hsh:=Ip hp1;have htwo:=I1 hp1;simp only[eS,hpo] at hq;refine KB (by omega) ?_
      rw[hp1];intro r6 hr6 hr6';obtain⟨ch,tl,htg⟩:∃ch tl,y.target=ch::tl:=by
       cases hy:y.target with
       |nil=>exact absurd hy hsh.2
       |cons ch tl=>exact⟨ch,tl,rfl⟩
      have ew:IntKind.i64.wrap (h:Int)=(h:Int):=wrap64 (by omega) (by omega)
      have hapA:∀(S2:St),AU AJ S2 (.vs 1 [] .full) (.vs 1 (pp.map BO) r6.strip)=some (.vs 1 (pp.map BO) (if pp=[] then .full else .own (Ba AJ .full))):=fun S2=>by
       simp only[AU,A1]
       by_cases e:pp=[]
       ·simp[e]
       ·simp[e,show pp.length≤lim by unfold lim;omega]
      obtain⟨r7,hr7,hapB⟩:∃r7,r7≠ .nil∧∀(S2:St),AU AJ S2 (.vs 1 (pp.map BO) (if pp=[] then .full else .own (Ba AJ .full))) (.vs 1 (rest.map BO) tr.strip)=some (.vs 1 ((pp++rest).map BO) r7):=by
       by_cases e:rest=[]
       ·refine⟨if pp=[] then .full else .own (Ba AJ .full),by split<;>simp,fun S2=>?_⟩
        subst e;simp[AU,A1]
       ·refine⟨.own (Ba AJ (if pp=[] then .full else .own (Ba AJ .full))),by simp,fun S2=>?_⟩
        have hl2:pp.length+rest.length≤lim:=by unfold lim;omega
        by_cases e2:pp=[]
        ·subst e2;simp at hl2;simp[AU,A1,e,hl2]
        ·simp[AU,A1,e,e2,hl2]
      have hr7':r7.strip≠ .nil:=fun e=>hr7 (by cases r7<;>simp[Rt.strip] at e ⊢)
      simp;refine A7 (fun j=>∀(ns:List Str) (r:Rt),(r= .nil→ns=[])→ns.length≤names.length→ns=(if y.target.head? =some 47 then [] else names)→j (.vs 1 (ns.map BO) r)) (fun ns r h1 h1' h2=>?_) (fun j hj=>?_)
      ·simp[hapA,hapB,ew];rw[←List.map_append];refine ihh h (by omega) (pp++rest) ns (by omega) (by simp;omega) (fun e=>h1 (Rt.of_strip_nil e)) (fun e=>absurd e hr7') (fun r8 r9=>?_)
       simp;rw[h2];exact hq r8 r9
      ·rw[htg];simp
       by_cases c47:ch=47
       ·subst c47;simp;exact hj [] .nil (by simp) (by simp) (by simp[htg])
       ·have:¬((ch.toNat:Int)=47):=fun e=>c47 (UInt8.toNat_inj.1 (by show ch.toNat=47;omega))
        simp[this];exact hj names nr hnr (Nat.le_refl _) (by simp[htg,c47])
theorem P7{w0:World}{D:List Node}{dr:Rt}{follow:Bool}{path:Str}{S:St}(hD:Docs D)(hp:path.length≤1048576){Q:AV→St→Prop}
  (hq:∀r1 r2:Rt,Q (.agg [.vs 1 ((Bj D path follow).names.map BO) r1.strip,.vs 7 ((Bj D path follow).nodes.map Node.c) r2.strip,.int .i64 (Bj D path follow).err]) S):
  AC w0 IU [.vs 7 (D.map Node.c) dr,.str path,.bool follow] S Q:=by
 apply W3;unfold Pn;unfold Bj at hq;refine KB hp ?_;cases hsp:Cp path with
 |none=>
  rw[hsp] at hq;simp;simpa using hq .nil .nil
 |some l=>
  rw[hsp] at hq;intro r hr1 hr2;have:=I1 hsp;have:=Ip hsp;simp;refine WV hD 40 l [] (by omega) (by simp;omega) (fun _=>rfl) (fun e=>hr1 (Rt.of_strip_nil e)) (fun r1 r2=>?_)
  simp;exact hq r1 r2
end Go.Av
