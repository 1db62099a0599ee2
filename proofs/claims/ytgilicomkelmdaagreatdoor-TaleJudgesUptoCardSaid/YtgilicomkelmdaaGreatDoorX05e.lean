/- Parts of the proofs of this seat: abstract values over the model, and what the functions of the program do. No condition. -/
import Derived.Test.YtgilicomkelmdaaGreatDoorY05d
import Derived.Test.YtgilicomkelmdaaGreatDoorY01
set_option linter.all false
set_option maxRecDepth 100000
namespace Go.Av
open Go.Proofs
theorem VI{w0:World}(hm:KD w0){S:St}{s:Str}(hs:s.length≤1048575){Q:AV→St→Prop}
  (hq:∀S',Sx S S'→(∀n,IE s=some n→n.ok→Q (.tup [.agg n.c,.int .i64 0]) S')∧(IE s=none→Q (.tup [.agg Node.none.c,.int .i64 1]) S')):AC w0 JR [.str s] S Q:=by
 apply Sv;unfold NI;have hn0:IE s=none→Q (.tup [.agg [.int .i64 0,.bool false,.vs 1 [] .nil,.vs 7 [] .nil,.int .i64 0,.vs 2 [] .nil,.str []],.int .i64 1]) S:=fun h=>by
  have:=(hq S (Sx.refl _)).2 h
  rwa [Node.none_c] at this
 by_cases c1:s.length < 7
 ·have:IE s=none:=by simp[IE,c1]
  simp[AH,show ¬(4194304 < (s.length:Int)) by omega,show (s.length:Int) < 7 by omega]
  exact hn0 this
 by_cases c2:s.take 7=[115,111,99,97,103,101,49]
 case neg=>
  have:IE s=none:=by simp[IE,c2]
  simp[AH,show ¬(4194304 < (s.length:Int)) by omega,show ¬(s.length:Int) < 7 by omega,show 7≤s.length by omega,c2]
  exact hn0 this
 simp[AH,show ¬(4194304 < (s.length:Int)) by omega,show ¬(s.length:Int) < 7 by omega,show 7≤s.length by omega,c2]
 apply YH;unfold SJ;simp;have hR:RdO (S++[Obj.cells [.str (s.drop 7)] CS,Obj.cells [.ptr S.length 0,.bool false,.int .i64 4096] BH]) (S.length+1) S.length ⟨s.drop 7,false,4096⟩:=⟨by simp,by simp[rdC]⟩
 have hl:(s.drop 7).length≤1048568:=by simp;omega
 have hI:=RS.node_ok 16 ⟨s.drop 7,false,4096⟩ hl (by simp)
 refine X6 16 (b:=S.length) (d:=0) (by omega) (by simp) hR (by omega) (by omega) hl (by simp) (by simp) (fun S2 hR2 hK2=>?_)
 have hd:IE s=if (RS.node 16 ⟨s.drop 7,false,4096⟩).2.bad=false∧(RS.node 16 ⟨s.drop 7,false,4096⟩).2.s=[]∧Bi (RS.node 16 ⟨s.drop 7,false,4096⟩).1=true then some (RS.node 16 ⟨s.drop 7,false,4096⟩).1 else none:=by
  rw[IE,if_neg (by simp[c1,c2];omega)]
 generalize RS.node 16 ⟨s.drop 7,false,4096⟩=r at hR2 hd hI ⊢;have hSx:Sx S S2:=fun j hj=>by
  rw[hK2 j hj,List.getElem?_append_left hj]
 have hno:∀S3,Sx S S3→IE s=none→Q (.tup [.agg [.int .i64 0,.bool false,.vs 1 [] .nil,.vs 7 [] .nil,.int .i64 0,.vs 2 [] .nil,.str []],.int .i64 1]) S3:=fun S3 h3 h=>by
  have:=(hq S3 h3).2 h
  rwa [Node.none_c] at this
 simp[Aa hR2.1];cases hb:r.2.bad with
 |true=>
  simp;exact hno S2 hSx (by rw[hd,hb];simp)
 |false=>
  simp;have hR3:S2[S.length]? =some (.cells [.str r.2.s] CS):=hR2.2;apply Ny;unfold JC;simp[Aa hR3]
  by_cases c3:r.2.s=[]
  case neg=>
   have:=List.length_pos_iff.2 c3;simp[show (0:Int) < r.2.s.length by omega,this]
   exact hno S2 hSx (by rw[hd];simp[c3])
  simp[c3];refine Q1 hm hI.ok (fun S3 hS3=>?_)
  cases hr:Bi r.1 with
  |false=>
   simp;exact hno S3 (hSx.trans hS3) (by rw[hd];simp[hr])
  |true=>
   simp;exact(hq S3 (hSx.trans hS3)).1 r.1 (by rw[hd,hb];simp[hr,c3]) hI.ok
theorem Zq{w0:World}{S:St}{s:Str}(hs:s.length≤4){Q:AV→St→Prop}(hq:Q (.int .i64 (val s:Int)) S):AC w0 NA [.str s] S Q:=by
 apply ZI;unfold Sk;simp[AH];refine Ak s (fun i (_:Unit)=>([.int .i64 (val (s.take i):Nat),.int .i64 i],[])) (fun i _ S'=>S'=S) () (by simp[val]) rfl ?_ ?_
 ·rintro i _ S' v b x c hxi hd hc hm rfl hv;simp at hv;have hlt:=Nb (s.take i);have h4:256 ^ (s.take i).length≤256 ^ 3:=Nat.pow_le_pow_right (by omega) (by rw[List.length_take];omega)
  have h5:(256:Nat) ^ 3=16777216:=rfl;have hx256:x.toNat < 256:=x.toNat_lt;simp[hv,hc,hxi]
  try simp (disch:=omega) only[wrap64]
  try simp
  try simp (disch:=omega) only[wrap64]
  exact .next c () (by rw[Zu hxi];simp) rfl
 ·rintro _ S' v b rfl hv N;simp at hv;simp[hv];exact hq
def gJ(z:Str)(a k:Nat):Int:=match takeN k (z.drop a) with|some p=>(p.1:Int)|none=>-1
theorem D1{w0:World}{S:St}{s:Str}{a k:Nat}{ai:Int}(ha:ai=a)(hk:1≤k∧k≤4)(hl:a≤1000000000){Q:AV→St→Prop}(hq:Q (.int .i64 (gJ s a k)) S):AC w0 Cd [.str s,.int .i64 ai,.int .i64 k] S Q:=by
 subst ha;apply TJ;unfold Ma
 try simp (disch:=omega) only[wrap64]
 simp[AH,show ¬((a:Int) < 0) by omega]
 unfold gJ takeN at hq
 by_cases c:(s.drop a).length < k
 ·rw[if_pos c] at hq;simp at c;simp[show ((s.length:Int) < (a:Int)+k) by omega]
  exact hq
 ·rw[if_neg c] at hq;simp at c;simp[show ¬((s.length:Int) < (a:Int)+k) by omega]
  rw[PP _ _ _ _ _ (by omega) (by omega) (by omega)]
  simp;have e:(s.take (a+k)).drop a=(s.drop a).take k:=by rw[List.drop_take];congr 1;omega
  have e0:(((a:Int)+k).toNat)=a+k:=by omega
  rw[e0,e];refine Zq (by simp;omega) ?_
  exact hq
def TZ(o:Option (Node×Str))(len:Nat):List AV:=match o with|some p=>p.1.c++[.int .i64 ((len:Int) - p.2.length)]|none=>Node.none.c++[.int .i64 (-1)]
theorem Ds(len:Nat):TZ none len=[.int .i64 0,.bool false,.vs 1 [] .nil,.vs 7 [] .nil,.int .i64 0,.vs 2 [] .nil,.str [],.int .i64 (-1)]:=by simp[TZ,Node.none_c]
theorem F0{z:Str}{a k:Nat}(hk:1≤k):takeN k (z.drop a)=if z.length < a+k then none else some (val ((z.drop a).take k),z.drop (a+k)):=by
 unfold takeN
 by_cases c:z.length < a+k
 ·rw[if_pos c,if_pos (by simp;omega)]
 ·rw[if_neg c,if_neg (by simp;omega),List.drop_drop]
theorem Kq{z:Str}{a k:Nat}(hk:1≤k)(h:z.length < a+k):gJ z a k= -1:=by unfold gJ;rw[F0 hk,if_pos h]
theorem HP{z:Str}{a k:Nat}(hk:1≤k)(h:¬z.length < a+k):gJ z a k=val ((z.drop a).take k):=by unfold gJ;rw[F0 hk,if_neg h]
theorem Pu{z:Str}{a k:Nat}(hk:1≤k):JG k (z.drop a)=if z.length < a+k then none else if z.length < a+k+val ((z.drop a).take k) then none else some ((z.drop (a+k)).take (val ((z.drop a).take k)),z.drop (a+k+val ((z.drop a).take k))):=by
 unfold JG;rw[F0 hk]
 by_cases c:z.length < a+k
 ·rw[if_pos c,if_pos c];rfl
 ·rw[if_neg c,if_neg c,Option.bind_some];simp only
  by_cases c2:z.length < a+k+val ((z.drop a).take k)
  ·rw[if_pos c2,if_pos (by simp;omega)]
  ·rw[if_neg c2,if_neg (by simp;omega),List.drop_drop]
theorem Pd{z:Str}{k a:Nat}(h:k≤4):val ((z.drop a).take k) < 4294967296:=by
 have h1:=Nb ((z.drop a).take k);have h2:256 ^ ((z.drop a).take k).length≤256 ^ 4:=Nat.pow_le_pow_right (by omega) (by rw[List.length_take];omega)
 rw[p4] at h2;omega
theorem g9{f:Nat}{z r:Str}{n:Node}{a:Nat}(h:Fy f (z.drop a)=some (n,r)):r.length≤(z.drop a).length∧r=z.drop (a+((z.drop a).length - r.length)):=by
 have:=Tq _ _ _ _ h;have hl:=congrArg List.length this;rw[List.length_append] at hl;refine⟨by omega,?_⟩
 rw[←List.drop_drop,hl,Nat.add_sub_cancel]
 conv=>rhs;rw[this]
 rw[List.drop_left]
theorem cD{z:Str}{a n:Nat}{x y:Int}(hx:x=a)(hy:y=(a+n:Nat))(h:a+n≤z.length):Bv (.str z) (some (.int .i64 x)) (some (.int .i64 y))=some (.str ((z.drop a).take n)):=by
 subst hx hy;rw[PP _ _ _ _ _ (by omega) (by omega) (by omega)]
 simp only[Int.toNat_natCast];rw[List.drop_take,Nat.add_sub_cancel_left]
theorem av{w0:World}:∀(f:Nat) {S:St} {Q:AV→St→Prop} {s:Str} {d:Int},f≤16→d=16 - (f:Int)→s.length≤1048576→Q (.agg (TZ (Fy f s) s.length)) S→AC w0 Jc [.str s,.int .i64 d] S Q:=by
 intro f
 induction f with
 |zero=>
  intro S Q s d hf hd hl hq;apply Pb;unfold MY;rw[Fy,Ds] at hq;simp[AH,show (15:Int) < d by omega]
  exact hq
 |succ f ih=>
  intro S Q s d hf hd hl hq;apply Pb;unfold MY;have hd':¬(15:Int) < d:=by omega
  cases s with
  |nil=>
   rw[Fy,show takeN 1 ([]:Str)=none from rfl,Option.bind_none,Ds] at hq
   simp[AH,hd'];exact hq
  |cons x s=>
  have hT:takeN 1 (x::s)=some (x.toNat,s):=by simp[takeN,val]
  rw[Fy,hT,Option.bind_some] at hq;simp only at hq;have hx256:x.toNat < 256:=x.toNat_lt;have e0:IntKind.i64.wrap ((x.toNat:Nat):Int)=((x.toNat:Nat):Int):=wrap64 (by omega) (by omega)
  have hsl:¬(((x::s).length:Int) < 1):=by simp;omega
  simp only[hd',hsl,decide_false];rw[AH];simp[e0];refine A7 (fun j=>∀(at_:Int) (y:Option (List AV)) (k:Int) (o:Bool) (ns:List Str) (nr:Rt) (its:List Node) (ir:Rt) (sz:Int) (es:List Ext) (er:Rt) (t:Str) (r:Str),okA nr ns→okA ir its→okA er es→at_=(x::s).length - r.length→(∃zs,y=some zs∧zs.length=8)→
   Q (.agg (TZ (some (Node.mk k o ⟨ns,cr ns⟩ its (cr its) sz es (cr es) t,r)) (x::s).length)) S→j (.int .i64 at_) y (some (ndC k o ns nr its ir sz es er t)) S) ?_ (fun j hj=>?_)
  ·rintro at_ y k o ns nr its ir sz es er t r g1 g2 g3 rfl ⟨zs,rfl,hz⟩ hQ;simp only[TZ] at hQ;rw[Node.c_eq'] at hQ;simp at hQ;have hzd:zs.drop 8=[]:=by simp;omega
   simp[ndC,hz,hzd];rw[g1.cr,g2.cr,g3.cr];have e1:∀{α:Type} (l:List α),(cr l).strip=cr l:=fun l=>(aC l).2.2
   rw[e1,e1,e1] at hQ;exact hQ
  generalize hz:x::s=z at hj hq hl ⊢;have hzs:s=z.drop 1:=by rw[←hz];rfl
  have hz1:1≤z.length:=by rw[←hz];simp
  clear hz hT hsl;subst hzs;have e1:((x.toNat:Int)=1)=(x.toNat=1):=propext (by omega)
  have e2:((x.toNat:Int)=2)=(x.toNat=2):=propext (by omega)
  have e3:((x.toNat:Int)=3)=(x.toNat=3):=propext (by omega)
  have e4:((x.toNat:Int)=4)=(x.toNat=4):=propext (by omega)
  by_cases c1:x.toNat=1
  ·rw[if_pos c1,F0 (by omega)] at hq
   simp[c1];refine D1 (a:=1) rfl (k:=4) (by omega) (by omega) ?_
   simp;refine D1 (a:=5) rfl (k:=4) (by omega) (by omega) ?_
   by_cases d1:z.length < 5+4
   ·rw[Kq (a:=5) (by omega) d1]
    have:Q (.agg (TZ none z.length)) S:=by
     by_cases d2:z.length < 1+4
     ·rw[if_pos d2] at hq;exact hq
     ·rw[if_neg d2,Option.bind_some] at hq;simp only at hq;rw[F0 (by omega),if_pos (by omega)] at hq
      exact hq
    rw[Ds] at this;simp;exact this
   rw[HP (a:=5) (by omega) d1,HP (a:=1) (by omega) (by omega)]
   rw[if_neg (by omega),Option.bind_some] at hq
   simp only at hq;rw[show 1+4=5 from rfl,F0 (by omega),if_neg d1,Option.bind_some] at hq
   simp only at hq;have hvb:=Pd (z:=z) (k:=4) (a:=5) (by omega)
   have hva:=Pd (z:=z) (k:=4) (a:=1) (by omega)
   generalize val ((z.drop 5).take 4)=c at hq hvb ⊢;generalize val ((z.drop 1).take 4)=b at hq hva ⊢;simp[show ¬((c:Int) < 0) by omega]
   refine BV (fun p:Nat×Nat×List Ext×Rt=>([.str z,.int .i64 (p.1:Nat),.int .i64 (p.2.1:Nat)],[some [.int .i64 0,.bool false,.vs 1 [] .nil,.vs 7 [] .nil,.int .i64 0,.vs 2 [] .nil,.str [],.int .i64 0],some [.int .i64 0,.bool false,.vs 1 [] .nil,.vs 7 [] .nil,.int .i64 0,.vs 2 [] .nil,.str [],.int .i64 (-1)],some (ndC 1 false [] .nil [] .nil b p.2.2.1 p.2.2.2 [])]))
    (fun m p S'=>m=c - p.2.1∧p.2.1≤c∧S'=S∧p.1≤z.length∧okA p.2.2.2 p.2.2.1∧p.2.2.1.length≤p.2.1∧MR c (z.drop 9)=(MR (c - p.2.1) (z.drop p.1)).bind fun e=>some (p.2.2.1++e.1,e.2)) c (9,0,[],.nil) rfl ⟨rfl,by simp,rfl,by simp;omega,.inl ⟨rfl,rfl⟩,by simp,by simp;cases MR c (z.drop 9)<;>simp⟩ ?_
   rintro m ⟨a,i,l,r⟩ S' v bx ⟨rfl,hi,rfl,ha,hr,hli,he⟩ hv;simp at hv hi ha hr hli he;obtain⟨hv1,hv2⟩:=hv;simp only[ndC] at hv2;simp[hv1,hv2]
   by_cases c3:i < c
   case neg=>
    have:i=c:=by omega
    subst this;simp;rw[Nat.sub_self,MR,Option.bind_some] at he;simp at he;rw[he,Option.bind_some] at hq;have:=hj (a:Int) (some [.int .i64 0,.bool false,.vs 1 [] .nil,.vs 7 [] .nil,.int .i64 0,.vs 2 [] .nil,.str [],.int .i64 0]) 1 false [] .nil [] .nil b l r [] (z.drop a) (.inl ⟨rfl,rfl⟩) (.inl ⟨rfl,rfl⟩) hr (by simp;omega) ⟨_,rfl,rfl⟩ hq
    simpa[ndC] using this
   simp[c3];refine D1 (a:=a) rfl (k:=4) (by omega) (by omega) ?_
   simp
   try simp (disch:=omega) only[wrap64]
   refine D1 (a:=a+4) (by omega) (k:=4) (by omega) (by omega) ?_
   simp;obtain⟨q,hq2⟩:∃q,c - i=q+1:=⟨c - i - 1,by omega⟩
   rw[hq2,MR,F0 (by omega)] at he
   have hnone:MR c (z.drop 9)=none→Q (.agg [.int .i64 0,.bool false,.vs 1 [] .nil,.vs 7 [] .nil,.int .i64 0,.vs 2 [] .nil,.str [],.int .i64 (-1)]) S':=fun e=>by
    rw[e,Option.bind_none,Ds] at hq;exact hq
   by_cases d2:z.length < a+4+4
   ·have:=hnone (by
     by_cases d3:z.length < a+4
     ·rw[if_pos d3] at he;exact he
     ·rw[if_neg d3,Option.bind_some] at he;simp only at he;rw[Pu (by omega),if_pos d2] at he
      exact he)
    rw[Kq (a:=a+4) (by omega) d2]
    simp[AH];exact this
   rw[if_neg (by omega),Option.bind_some] at he
   simp only at he;rw[Pu (by omega),if_neg d2] at he
   rw[HP (a:=a+4) (by omega) d2,HP (a:=a) (by omega) (by omega)]
   have hvo:=Pd (z:=z) (k:=4) (a:=a) (by omega)
   have hvs:=Pd (z:=z) (k:=4) (a:=a+4) (by omega)
   generalize val ((z.drop (a+4)).take 4)=sz at he hvs ⊢;generalize val ((z.drop a).take 4)=off at he hvo ⊢;simp[show ¬((sz:Int) < 0) by omega]
   try simp (disch:=omega) only[wrap64]
   by_cases d4:z.length < a+4+4+sz
   ·have:=hnone (by rw[if_pos d4] at he;exact he)
    simp[AH,show ((z.length:Int) < (a:Int)+8+sz) by omega]
    exact this
   rw[if_neg d4,Option.bind_some] at he;simp only at he;simp[AH,show ¬((z.length:Int) < (a:Int)+8+sz) by omega]
   have hcut:=cD (z:=z) (a:=a+8) (n:=sz) (x:=(a:Int)+8) (y:=(a:Int)+8+sz) (by omega) (by omega) (by omega)
   simp only[hcut];obtain⟨n1,n2⟩:=hr.ne;have hlim:l.length+1≤lim:=by unfold lim;omega
   simp[AU,A1,n1,hlim]
   try simp (disch:=omega) only[wrap64]
   refine⟨_,(a+8+sz,i+1,l++[⟨off,(z.drop (a+8)).take sz⟩],.own (Ba Al r)),by show c - (i+1) < c - i;omega,by simp[ndC],rfl,by show i+1≤c;omega,rfl,by show a+8+sz≤z.length;omega,.app,by simp;omega,?_⟩
   rw[he];simp only;have e5:c - (i+1)=q:=by omega
   rw[e5,show a+4+4=a+8 from rfl]
   cases MR q (z.drop (a+8+sz)) with
   |none=>rfl
   |some p=>simp
  rw[if_neg c1] at hq
  by_cases c2:x.toNat=2
  ·rw[if_pos c2,F0 (by omega)] at hq
   simp[c2];refine D1 (a:=2) rfl (k:=2) (by omega) (by omega) ?_
   have hnone0:TZ none z.length=_:=Ds _
   by_cases d1:z.length < 2+2
   ·rw[Kq (by omega) d1]
    have:Q (.agg (TZ none z.length)) S:=by
     by_cases d2:z.length < 1+1
     ·rw[if_pos d2] at hq;exact hq
     ·rw[if_neg d2,Option.bind_some] at hq;simp only at hq;rw[F0 (by omega),if_pos (by omega)] at hq
      exact hq
    rw[Ds] at this;simp[AH];exact this
   rw[HP (by omega) d1]
   rw[if_neg (by omega),Option.bind_some] at hq
   simp only at hq;rw[show 1+1=2 from rfl,F0 (by omega),if_neg d1,Option.bind_some] at hq
   simp only at hq;have hvb:val ((z.drop 2).take 2) < 65536:=by
    have h1:=Nb ((z.drop 2).take 2);have h2:256 ^ ((z.drop 2).take 2).length≤256 ^ 2:=Nat.pow_le_pow_right (by omega) (by rw[List.length_take];omega)
    rw[p2] at h2;omega
   generalize val ((z.drop 2).take 2)=c at hq hvb ⊢;obtain⟨w,hw⟩:∃w,z[1]? =some w:=⟨z[1]'(by omega),by simp[show 1 < z.length by omega]⟩
   have gw:z[1]'(by omega)=w:=(List.getElem?_eq_some_iff.1 hw).2
   have hwv:val ((z.drop 1).take 1)=w.toNat:=by
    have:(z.drop 1).take 1=[w]:=by
     rw[List.drop_eq_getElem_cons (by omega),gw];simp
    rw[this];simp[val]
   rw[hwv] at hq;have hw256:w.toNat < 256:=w.toNat_lt;simp[AH,show ¬((c:Int) < 0) by omega,show 1 < z.length by omega,gw]
   by_cases d5:1 < w.toNat
   ·rw[if_pos d5,Ds] at hq;simp[show (1:Int) < w.toNat by omega]
    exact hq
   rw[if_neg d5] at hq;have ew:((w.toNat:Int)=1)=(w.toNat=1):=propext (by omega)
   simp[show ¬(1:Int) < w.toNat by omega,ew]
   refine BV (fun p:Nat×Nat×(List Str×List Node)×Rt×Rt=>([.str z,.int .i64 (p.1:Nat),.int .i64 (p.2.1:Nat)],[some [.int .i64 0,.bool false,.vs 1 [] .nil,.vs 7 [] .nil,.int .i64 0,.vs 2 [] .nil,.str [],.int .i64 0],some [.int .i64 0,.bool false,.vs 1 [] .nil,.vs 7 [] .nil,.int .i64 0,.vs 2 [] .nil,.str [],.int .i64 (-1)],some (ndC 2 (decide (w.toNat=1)) p.2.2.1.1 p.2.2.2.1 p.2.2.1.2 p.2.2.2.2 0 [] .nil [])]))
    (fun m p S'=>m=c - p.2.1∧p.2.1≤c∧S'=S∧p.1≤z.length∧okA p.2.2.2.1 p.2.2.1.1∧okA p.2.2.2.2 p.2.2.1.2∧p.2.2.1.1.length≤p.2.1∧p.2.2.1.2.length≤p.2.1∧J6 (Fy f) c (z.drop 4)=(J6 (Fy f) (c - p.2.1) (z.drop p.1)).bind fun e=>some (p.2.2.1.1++e.1,p.2.2.1.2++e.2.1,e.2.2)) c (4,0,([],[]),.nil,.nil) rfl ⟨rfl,by simp,rfl,by simp;omega,.inl ⟨rfl,rfl⟩,.inl ⟨rfl,rfl⟩,by simp,by simp,by simp;cases J6 (Fy f) c (z.drop 4)<;>simp⟩ ?_
   rintro m ⟨a,i,⟨ns,its⟩,r1,r2⟩ S' v bx ⟨rfl,hi,rfl,ha,hr1,hr2,hli,hli2,he⟩ hv;simp at hv hi ha hr1 hr2 hli hli2 he;obtain⟨hv1,hv2⟩:=hv;simp only[ndC] at hv2;simp[hv1,hv2]
   by_cases c3:i < c
   case neg=>
    have:i=c:=by omega
    subst this;simp;rw[Nat.sub_self,J6,Option.bind_some] at he;simp at he;rw[show 2+2=4 from rfl,he,Option.bind_some] at hq
    have:=hj (a:Int) (some [.int .i64 0,.bool false,.vs 1 [] .nil,.vs 7 [] .nil,.int .i64 0,.vs 2 [] .nil,.str [],.int .i64 0]) 2 (decide (w.toNat=1)) ns r1 its r2 0 [] .nil [] (z.drop a) hr1 hr2 (.inl ⟨rfl,rfl⟩) (by simp;omega) ⟨_,rfl,rfl⟩ hq
    simpa[ndC] using this
   simp[c3];refine D1 (a:=a) rfl (k:=1) (by omega) (by omega) ?_
   obtain⟨q,hq2⟩:∃q,c - i=q+1:=⟨c - i - 1,by omega⟩
   rw[hq2,J6,Pu (by omega)] at he
   have hnone:J6 (Fy f) c (z.drop 4)=none→Q (.agg [.int .i64 0,.bool false,.vs 1 [] .nil,.vs 7 [] .nil,.int .i64 0,.vs 2 [] .nil,.str [],.int .i64 (-1)]) S':=fun e=>by
    rw[show 2+2=4 from rfl,e,Option.bind_none,Ds] at hq
    exact hq
   by_cases d2:z.length < a+1
   ·have:=hnone (by rw[if_pos d2] at he;exact he)
    rw[Kq (by omega) d2]
    simp;exact this
   rw[if_neg d2] at he;rw[HP (by omega) d2]
   have hvs:val ((z.drop a).take 1) < 256:=by
    have h1:=Nb ((z.drop a).take 1);have h2:256 ^ ((z.drop a).take 1).length≤256 ^ 1:=Nat.pow_le_pow_right (by omega) (by rw[List.length_take];omega)
    rw[p1] at h2;omega
   generalize val ((z.drop a).take 1)=sz at he hvs ⊢;simp[show ¬((sz:Int) < 0) by omega]
   try simp (disch:=omega) only[wrap64]
   by_cases d4:z.length < a+1+sz
   ·have:=hnone (by rw[if_pos d4] at he;exact he)
    simp[show ((z.length:Int) < (a:Int)+1+sz) by omega]
    exact this
   rw[if_neg d4,Option.bind_some] at he;simp only at he;simp[show ¬((z.length:Int) < (a:Int)+1+sz) by omega]
   have hcut:=cD (z:=z) (a:=a+1) (n:=sz) (x:=(a:Int)+1) (y:=(a:Int)+1+sz) (by omega) (by omega) (by omega)
   simp only[hcut];obtain⟨n1,n2⟩:=hr1.ne;obtain⟨n3,n4⟩:=hr2.ne;have hlim:ns.length+1≤lim:=by unfold lim;omega
   have hlim2:its.length+1≤lim:=by unfold lim;omega
   simp[AU,A1,n1,hlim];have hcast:(a:Int)+1+sz=((a+1+sz:Nat):Int):=by omega
   rw[hcast,bW,if_pos (by omega)]
   simp
   try simp (disch:=omega) only[wrap64]
   refine ih (by omega) (by omega) (by simp;omega) ?_
   cases hg:Fy f (z.drop (a+1+sz)) with
   |none=>
    rw[hg,Option.bind_none] at he;have:=hnone he;rw[Ds];simp;exact this
   |some pr=>
    obtain⟨y,rr⟩:=pr;rw[hg,Option.bind_some] at he;simp only at he;obtain⟨g1,g2⟩:=g9 hg;simp at g1 g2;obtain⟨L,hL⟩:∃L,L=z.length - (a+1+sz) - rr.length:=⟨_,rfl⟩;have hgc:TZ (some (y,rr)) (z.drop (a+1+sz)).length=y.c++[.int .i64 (L:Int)]:=by
     simp only[TZ];congr 3;simp;omega
    have q1:(y.c++[AV.int .i64 (L:Int)]).length=8:=by simp
    have q2:(y.c++[AV.int .i64 (L:Int)])[7]? =some (.int .i64 (L:Int)):=by
     rw[List.getElem?_append_right (by simp)];simp
    have q3:(y.c++[AV.int .i64 (L:Int)]).take 7=y.c:=by
     rw[List.take_append_of_le_length (by simp)];simp
    have q4:(AV.agg (y.c++[AV.int .i64 (L:Int)])).free=true:=by
     rw[Node.c_eq];simp
    rw[hgc];generalize y.c++[AV.int .i64 (L:Int)]=G at q1 q2 q3 q4 ⊢;have q5:G[7]'(by omega)= .int .i64 (L:Int):=(List.getElem?_eq_some_iff.1 q2).2
    have q6:(∀x,x∈G→x.free1=true)=True:=eq_true (by simpa using q4)
    have q7:G.drop 8=[]:=by simp;omega
    simp[q1,q3,q5,q6,q7,n3,hlim2,show ¬((L:Int) < 0) by omega]
    try simp (disch:=omega) only[wrap64]
    refine⟨_,(a+1+sz+L,i+1,(ns++[(z.drop (a+1)).take sz],its++[y]),.own (Ba AJ r1),.own (Ba AG r2)),by show c - (i+1) < c - i;omega,by simp[ndC],rfl,by show i+1≤c;omega,rfl,by show a+1+sz+L≤z.length;omega,.app,.app,by simp;omega,by simp;omega,?_⟩
    rw[he];simp only;have e5:c - (i+1)=q:=by omega
    rw[e5];have e6:rr=z.drop (a+1+sz+L):=by rw[hL];exact g2
    rw[←e6];cases J6 (Fy f) q rr with
    |none=>rfl
    |some p=>simp
  rw[if_neg c2] at hq
  by_cases c3:x.toNat=3
  ·rw[if_pos c3,Pu (by omega)] at hq
   simp[c3];refine D1 (a:=1) rfl (k:=2) (by omega) (by omega) ?_
   by_cases d1:z.length < 1+2
   ·rw[if_pos d1,Option.bind_none,Ds] at hq;rw[Kq (by omega) d1]
    simp[AH];exact hq
   rw[if_neg d1] at hq;rw[HP (by omega) d1]
   have hvb:=Pd (z:=z) (k:=2) (a:=1) (by omega)
   generalize val ((z.drop 1).take 2)=sz at hq hvb ⊢;simp[AH,show ¬((sz:Int) < 0) by omega]
   try simp (disch:=omega) only[wrap64]
   by_cases d4:z.length < 1+2+sz
   ·rw[if_pos d4,Option.bind_none,Ds] at hq;simp[show (((z.length - 1:Nat):Int)+1 < (3:Int)+sz) by omega]
    exact hq
   rw[if_neg d4,Option.bind_some] at hq;simp only at hq;have hcut:=cD (z:=z) (a:=3) (n:=sz) (x:=3) (y:=(3:Int)+sz) (by omega) (by omega) (by omega)
   simp[show ¬(((z.length - 1:Nat):Int)+1 < (3:Int)+sz) by omega,hcut]
   have:=hj ((3:Int)+sz) (some [.int .i64 0,.bool false,.vs 1 [] .nil,.vs 7 [] .nil,.int .i64 0,.vs 2 [] .nil,.str [],.int .i64 0]) 3 false [] .nil [] .nil 0 [] .nil ((z.drop 3).take sz) (z.drop (3+sz)) (.inl ⟨rfl,rfl⟩) (.inl ⟨rfl,rfl⟩) (.inl ⟨rfl,rfl⟩) (by simp;omega) ⟨_,rfl,rfl⟩ hq
   simpa[ndC] using this
  rw[if_neg c3] at hq
  by_cases c4:x.toNat=4
  ·rw[if_pos c4] at hq;simp[c4];have:=hj 1 (some [.int .i64 0,.bool false,.vs 1 [] .nil,.vs 7 [] .nil,.int .i64 0,.vs 2 [] .nil,.str [],.int .i64 0]) 4 false [] .nil [] .nil 0 [] .nil [] (z.drop 1) (.inl ⟨rfl,rfl⟩) (.inl ⟨rfl,rfl⟩) (.inl ⟨rfl,rfl⟩) (by simp;omega) ⟨_,rfl,rfl⟩ hq
   simpa[ndC] using this
  ·rw[if_neg c4,Ds] at hq;simp[e1,e2,e3,e4,c1,c2,c3,c4];exact hq
theorem XQ:∀{l:List Node} {k:Nat} {x:Node} (b:Nat),l[k]? =some x→(Node.idsOf l b)[k]? =some (b+Node.counts (l.take k))
 |[],k,x,b,h=>by simp at h
 |y::l,0,x,b,h=>by simp[Node.idsOf,Node.counts]
 |y::l,k+1,x,b,h=>by
  simp at h;have:=XQ (b+y.count) h;simp only[Node.idsOf,List.getElem?_cons_succ,List.take_succ_cons,Node.counts,this];rw[Nat.add_assoc]
theorem Xr(P:List Bm)(i:Nat):BM P (i:Int)=(P[i]?).getD Bm.none:=by
 have:¬((i:Int) < 0):=by omega
 simp[BM,this]
theorem gh(n:Node):BM (n.tab 0) 0=n.hd 0:=by
 have:=Xr (n.tab 0) 0;rw[Node.tab_eq] at this ⊢;simpa using this
structure Less(f g:Fnd):Prop where
 kind:f.kind=g.kind
 dirs:f.dirs.length=g.dirs.length
 sp:f.kind≠0→f.sp=(g.sp.1+1,g.sp.2)
def Wp(l:List Node):Bool:=decide (l.length≤8)&&l.all fun n=>n.small&&Bi n
theorem Zx{l:List Node}:Wp l=true↔l.length≤8∧∀n∈l,n.small=true∧Bi n=true:=by simp[Wp]
theorem Xg:∀(l:List Node) (k:Nat),(∀n∈l,Bi n=true)→l.length+k≤64→OA l k=0
 |[],_,_,_=>rfl
 |n::l,k,h,hk=>by
  rw[OA,if_neg (by rw[h n (by simp)];simp),if_neg (by simp at hk;omega),Xg l (k+1) (fun x hx=>h x (by simp[hx])) (by simp at hk;omega)]
def At(P:List Bm)(i:Nat)(n:Node):Prop:=∀j,j < n.count→P[i+j]? =(n.tab i)[j]?
theorem bZ:∀{l:List Node} {k:Nat} {x:Node} (b:Nat),l[k]? =some x→∀j,j < x.count→(Node.tabs l b)[Node.counts (l.take k)+j]? =(x.tab (b+Node.counts (l.take k)))[j]?
 |[],k,x,b,h,_,_=>by simp at h
 |y::l,0,x,b,h,j,hj=>by
  simp at h;subst h;rw[Node.tabs_cons];simp only[List.take_zero,Node.counts,Nat.zero_add,Nat.add_zero];rw[List.getElem?_append_left (by rw[Node.tab_len];exact hj)]
 |y::l,k+1,x,b,h,j,hj=>by
  simp at h;have:=bZ (b+y.count) h j hj;rw[Node.tabs_cons,List.take_succ_cons,Node.counts,List.getElem?_append_right (by rw[Node.tab_len];omega),Node.tab_len,show y.count+Node.counts (l.take k)+j - y.count=Node.counts (l.take k)+j by omega,this,Nat.add_assoc]
theorem At.hd{P:List Bm}{i:Nat}{n:Node}(h:At P i n):P[i]? =some (n.hd i):=by
 have:=h 0 (by rw[Node.count_eq];omega)
 rw[Node.tab_eq] at this;simpa using this
theorem At.ino{P:List Bm}{i:Nat}{n:Node}(h:At P i n):BM P (i:Nat)=n.hd i:=by rw[Xr,h.hd];rfl
theorem At.root(n:Node):At (n.tab 0) 0 n:=fun j _=>by rw[Nat.zero_add]
theorem At.kid{P:List Bm}{i:Nat}{n:Node}(h:At P i n){k:Nat}{x:Node}(hk:n.items[k]? =some x):At P (i+1+Node.counts (n.items.take k)) x:=fun j hj=>by
 have h1:=bZ (i+1) hk j hj;have h2:Node.counts (n.items.take k)+x.count≤Node.counts n.items:=by
  have:∀(l:List Node) (k:Nat),l[k]? =some x→Node.counts (l.take k)+x.count≤Node.counts l:=by
   intro l
   induction l with
   |nil=>intro k h;simp at h
   |cons y l ih=>
    intro k h;cases k with
    |zero=>simp at h;subst h;simp[Node.counts]
    |succ k=>simp at h;have:=ih k h;simp only[List.take_succ_cons,Node.counts];omega
  exact this _ _ hk
 have h3:=h (1+(Node.counts (n.items.take k)+j)) (by rw[Node.count_eq];omega)
 rw[Node.tab_eq,Nat.add_comm 1,List.getElem?_cons_succ,h1] at h3;rw[←h3];congr 1;omega
theorem HK{n:Node}(h:n.allB=true):n.names.l.length=n.items.length:=by
 rw[Node.all_eq] at h;simp only[Bool.and_eq_true] at h;obtain⟨hz,hk⟩:=Eu h.2
 by_cases k:n.kind=2
 ·have hn:E1 n=true:=by simpa[Ct,k] using hk
  exact(I6 hn).2
 ·have hi:=Jh hz k;have hnm:n.names.l=[]:=by simp[C1,k] at hz;exact hz.1.1.1.2
  rw[hi,hnm];rfl
theorem Kr{n x:Node}(h:n.allB=true)(hx:x∈n.items):x.allB=true:=by
 rw[Node.all_eq] at h;simp only[Bool.and_eq_true] at h;exact Ur h.1 x hx
theorem fC{n:Node}(h:n.allB=true):n.kind=1∨n.kind=2∨n.kind=3∨n.kind=4:=by
 rw[Node.all_eq] at h;simp only[Bool.and_eq_true] at h;exact mM h.2
theorem ag{n x:Node}{s:Str}(h:n.find s=some x):x∈n.items:=by
 unfold Node.find at h;cases hk:n.names.l.findIdx? (fun x=>decide (x=s)) with
 |none=>rw[hk] at h;cases h
 |some k=>rw[hk] at h;exact List.mem_of_getElem? h
theorem At.look{P:List Bm}{i:Nat}{n:Node}(h:At P i n)(ha:n.allB=true)(s:Str):
  match n.find s with
  |none=>T5 (BM P (i:Nat)) s=none
  |some x=>∃j,T5 (BM P (i:Nat)) s=some j∧At P j x:=by
 rw[h.ino];unfold Node.find T5;have hl:=HK ha;simp only[Node.hd];cases hk:n.names.l.findIdx? (fun x=>decide (x=s)) with
 |none=>rfl
 |some k=>
  have hlt:=(List.findIdx?_eq_some_iff_getElem.1 hk).1;have hx:n.items[k]? =some n.items[k]:=List.getElem?_eq_getElem (by omega)
  simp only[Option.bind_some,hx];exact⟨_,XQ _ hx,h.kid hx⟩
def Stands(L:List (List Bm))(x:Spot)(n:Node):Prop:=∃P,L[x.1]? =some P∧At P x.2 n
def OnP(L:List (List Bm)):List Spot→List Node→Prop
 |[],[]=>True
 |x::p,n::l=>Stands L x n∧OnP L p l
 |_,_=>False
def De:List Node→List Node
 |[]=>[]
 |n::l=>n::if n.opq=true then [] else De l
def Bf(dirs:List Node)(s:Str):List Node:=dirs.filterMap (·.find s)
def Cn(dirs:List Node)(s:Str):List Node:=
 match Bf dirs s with
 |[]=>[]
 |x::l=>if x.kind=4 then [] else if x.kind≠2 then [x] else De ((x::l).takeWhile fun n=>decide (n.kind=2))
def Uy:List Node→Str→Nat
 |[],_=>0
 |n::l,s=>match n.find s with|some _=>0|none=>Uy l s+1
theorem NM(L:List (List Bm))(s:Str):∀(p:List Spot) (dirs:List Node) (f:Fnd),OnP L p dirs→(∀n∈dirs,n.allB=true)→f.kind=2→
  ∃q,DB L s p f=⟨2,f.sp,f.dirs++q⟩∧OnP L q (De ((Bf dirs s).takeWhile fun n=>decide (n.kind=2)))∧(q.map (·.1)).Sublist (p.map (·.1))
 |[],[],f,_,_,hf=>⟨[],by rw[DB];simp[←hf],trivial,List.Sublist.refl _⟩
 |x::p,n::l,f,h,ha,hf=>by
  obtain⟨⟨P,hP,hat⟩,h2⟩:=h;have hrec:=fun f hf=>NM L s p l f h2 (fun y hy=>ha y (by simp[hy])) hf
  have hlook:=hat.look (ha n (by simp)) s
  rw[DB,hP];simp only;cases hk:n.find s with
  |none=>
   rw[hk] at hlook;simp only at hlook;rw[hlook];simp only;obtain⟨q,q1,q2,q3⟩:=hrec f hf;refine⟨q,q1,?_,q3.cons _⟩;simp only[Bf,List.filterMap_cons,hk];exact q2
  |some y=>
   rw[hk] at hlook;obtain⟨j,hj,hy⟩:=hlook;rw[hj];simp only;have hino:=hy.ino;have hkd:(BM P (j:Nat)).kind=y.kind:=by rw[hino];rfl
   have hop:(BM P (j:Nat)).opq=y.opq:=by rw[hino];rfl
   simp only[Bf,List.filterMap_cons,hk]
   by_cases k2:y.kind=2
   ·have f0:¬f.kind=0:=by omega
    rw[if_neg (c:=(BM P (j:Nat)).kind≠2) (by rw[hkd];simp[k2]),hop,List.takeWhile_cons_of_pos (by simp[k2]),De]
    simp only[if_neg f0];cases ho:y.opq with
    |true=>
     simp only[if_true];exact⟨[(x.1,j)],by rw[hf],⟨⟨P,hP,hy⟩,trivial⟩,by simp⟩
    |false=>
     simp only[if_false,Bool.false_eq_true];obtain⟨q,q1,q2,q3⟩:=hrec ⟨f.kind,f.sp,f.dirs++[(x.1,j)]⟩ hf;refine⟨(x.1,j)::q,by rw[q1];simp,⟨⟨P,hP,hy⟩,q2⟩,?_⟩
     simp only[List.map_cons];exact q3.cons₂ _
   ·rw[if_pos (by rw[hkd];exact k2),if_neg (by omega),List.takeWhile_cons_of_neg (by simp[k2])]
    exact⟨[],by simp[←hf],trivial,List.nil_sublist _⟩
 |[],_::_,_,h,_,_=>h.elim
 |_::_,[],_,h,_,_=>h.elim
def Agrees(L:List (List Bm))(p:List Spot)(dirs:List Node)(s:Str)(g:Fnd):List Node→Prop
 |[]=>g=Fnd.none
 |x::l=>g.kind=x.kind∧x.kind≠0∧x.kind≠4∧Stands L g.sp x∧x.allB=true∧(if x.kind=2 then OnP L g.dirs (x::l)∧g.dirs[0]? =some g.sp else g.dirs=[]∧l=[])∧(p[Uy dirs s]?).map (·.1)=some g.sp.1∧(g.dirs.map (·.1)).Sublist (p.map (·.1))
theorem Jl(L:List (List Bm))(s:Str):∀(p:List Spot) (dirs:List Node),OnP L p dirs→(∀n∈dirs,n.allB=true)→Agrees L p dirs s (DB L s p Fnd.none) (Cn dirs s)
 |[],[],_,_=>by simp[Cn,Bf,DB,Agrees]
 |x::p,n::l,h,ha=>by
  obtain⟨⟨P,hP,hat⟩,h2⟩:=h;have hal:∀y∈l,y.allB=true:=fun y hy=>ha y (by simp[hy])
  have hrec:=Jl L s p l h2 hal;have hlook:=hat.look (ha n (by simp)) s
  rw[DB,hP];simp only;cases hk:n.find s with
  |none=>
   rw[hk] at hlook;simp only at hlook;rw[hlook];simp only;have e1:Cn (n::l) s=Cn l s:=by simp only[Cn,Bf,List.filterMap_cons,hk]
   rw[e1];cases hs:Cn l s with
   |nil=>rw[hs] at hrec;exact hrec
   |cons y t=>
    rw[hs] at hrec;obtain⟨r1,r2,r3,r4,r5,r6,r7,r8⟩:=hrec;refine⟨r1,r2,r3,r4,r5,r6,?_,r8.cons _⟩;rw[Uy,hk];exact r7
  |some y=>
   rw[hk] at hlook;obtain⟨j,hj,hy⟩:=hlook;rw[hj];simp only;have hya:=Kr (ha n (by simp)) (ag hk)
   have hino:=hy.ino;have hkd:(BM P (j:Nat)).kind=y.kind:=by rw[hino];rfl
   have hop:(BM P (j:Nat)).opq=y.opq:=by rw[hino];rfl
   have hst:Stands L (x.1,j) y:=⟨P,hP,hy⟩;have hn0:y.kind≠0:=by rcases fC hya with h|h|h|h<;>omega
   have hlev:Uy (n::l) s=0:=by rw[Uy,hk]
   simp only[Cn,Bf,List.filterMap_cons,hk]
   by_cases k4:y.kind=4
   ·rw[if_pos (by rw[hkd];omega),if_neg (by rw[hkd];simp[k4]),if_pos k4]
    rfl
   rw[if_neg k4]
   by_cases k2:y.kind=2
   ·rw[if_neg (c:=(BM P (j:Nat)).kind≠2) (by rw[hkd];simp[k2]),if_neg (c:=y.kind≠2) (by simp[k2]),List.takeWhile_cons_of_pos (by simp[k2]),De,hop,hkd]
    simp only[Fnd.none,if_true,List.nil_append];cases ho:y.opq with
    |true=>
     simp only[if_true];exact⟨rfl,hn0,k4,hst,hya,by rw[if_pos k2];exact⟨⟨hst,trivial⟩,rfl⟩,by rw[hlev];rfl,by simp⟩
    |false=>
     simp only[if_false,Bool.false_eq_true];obtain⟨q,q1,q2,q3⟩:=NM L s p l ⟨y.kind,(x.1,j),[(x.1,j)]⟩ h2 hal k2;rw[q1];refine⟨k2.symm,hn0,k4,hst,hya,by rw[if_pos k2];exact⟨⟨hst,q2⟩,rfl⟩,by rw[hlev];rfl,?_⟩
     simp only[List.singleton_append,List.map_cons];exact q3.cons₂ _
   ·rw[if_pos (by rw[hkd];exact k2),if_pos ⟨rfl,by rw[hkd];exact k4⟩,if_pos k2]
    exact⟨hkd,hn0,k4,hst,hya,by rw[if_neg k2];exact⟨rfl,rfl⟩,by rw[hlev];rfl,List.nil_sublist _⟩
 |[],_::_,h,_=>h.elim
 |_::_,[],h,_=>h.elim
theorem Qu(l:List Node)(s:Str):(Bf l s).length≤l.length:=List.length_filterMap_le _ _
theorem Xp(l:List Node)(s:Str):(Cn l s).length≤l.length:=by
 have h0:=Qu l s;have hd:∀l:List Node,(De l).length≤l.length:=by
  intro l
  induction l with
  |nil=>simp[De]
  |cons x l ih=>rw[De];split<;>simp;omega
 unfold Cn;cases he:Bf l s with
 |nil=>simp
 |cons x r=>
  rw[he] at h0;simp only;split
  ·simp
  ·split
   ·simp at h0 ⊢;omega
   ·exact Nat.le_trans (hd _) (Nat.le_trans (List.takeWhile_sublist _).length_le h0)
theorem Km:∀{l:List Node} {x:Node},x∈De l→x∈l
 |n::l,x,h=>by
  rw[De] at h;rcases List.mem_cons.1 h with rfl|h
  ·simp
  ·split at h
   ·cases h
   ·exact List.mem_cons_of_mem _ (Km h)
theorem Rp{l:List Node}{s:Str}{x:Node}(h:x∈Cn l s):∃n∈l,x∈n.items:=by
 have h2:x∈Bf l s:=by
  unfold Cn at h;cases he:Bf l s with
  |nil=>rw[he] at h;cases h
  |cons y r=>
   rw[he] at h;simp only at h;split at h
   ·cases h
   ·split at h
    ·rw[List.mem_singleton] at h;simp[h]
    ·exact(List.takeWhile_sublist _).subset (Km h)
 obtain⟨n,h3,h4⟩:=List.mem_filterMap.1 h2;exact⟨n,h3,ag h4⟩
theorem dV{l:List Node}{s:Str}{x y:Node}{r:List Node}(h:Cn l s=y::r)(k2:y.kind=2)(hx:x∈Cn l s):x.kind=2:=by
 unfold Cn at h hx;cases he:Bf l s with
 |nil=>rw[he] at h;cases h
 |cons z t=>
  rw[he] at h hx;simp only at h hx;split at h
  ·cases h
  ·rename_i c4;rw[if_neg c4] at hx;split at h
   ·rename_i c2;rw[if_pos c2] at hx;rw[List.mem_singleton] at hx;subst hx;cases h;exact k2
   ·rename_i c2;rw[if_neg c2] at hx;have h1:=Km hx;have:∀(q:List Node),x∈q.takeWhile (fun n=>decide (n.kind=2))→x.kind=2:=by
     intro q
     induction q with
     |nil=>intro h;simp at h
     |cons a q ih=>
      intro h;rw[List.takeWhile_cons] at h;split at h
      ·rename_i ha;rcases List.mem_cons.1 h with rfl|h
       ·simpa using ha
       ·exact ih h
      ·cases h
    exact this _ h1
theorem dK{n x:Node}(h:x∈n.items):x.depth < n.depth:=by
 have:=(FK (l:=n.items)).2 x h;rw[Node.depth_eq n];omega
theorem LZ{n x:Node}(h:n.ok)(hx:x∈n.items):x.ok:=((Node.ok_iff n).1 h).2.2.2.1 x hx
abbrev dd:Str:=[46,46]
def DC(D:List Node)(names:List Str):List Node:=names.foldl Cn (De D)
theorem GD(D:List Node)(names:List Str)(s:Str):DC D (names++[s])=Cn (DC D names) s:=by simp[DC]
structure AtN where
 names:List Str
 nodes:List Node
 err:Int
def partsOf(t:Str):List Str:=(Cp t).getD []
def ID(D:List Node)(follow:Bool)(next:List Str→List Str→AtN):List Str→List Str→AtN
 |[],names=>⟨names,DC D names,0⟩
 |part::rest,names=>
  if part=dd then ID D follow next rest names.dropLast else
  match Cn (DC D names) part with
  |[]=>⟨[],[],2⟩
  |y::l=>
   if y.kind=2 then ID D follow next rest (names++[part])
   else if y.kind=3∧(rest≠[]∨follow=true) then next (partsOf y.target++rest) (if y.target.head? =some 47 then [] else names)
   else if rest≠[] then ⟨[],[],3⟩ else ⟨names++[part],y::l,0⟩
def KR(D:List Node)(follow:Bool):Nat→List Str→List Str→AtN
 |0=>ID D follow fun _ _=>⟨[],[],4⟩
 |h+1=>ID D follow (KR D follow h)
def eS(D:List Node)(follow:Bool):Nat→List Str→List Str→AtN
 |0=>fun _ _=>⟨[],[],4⟩
 |h+1=>KR D follow h
theorem GG(D:List Node)(follow:Bool)(h:Nat):KR D follow h=ID D follow (eS D follow h):=by cases h<;>rfl
def Bj(D:List Node)(path:Str)(follow:Bool):AtN:=
 match Cp path with
 |none=>⟨[],[],1⟩
 |some l=>KR D follow 40 l []
def dM:List Str→Nat
 |[]=>0
 |s::l=>s.length+dM l
theorem U4:∀s:List UInt8,dM (BT s)+(BT s).length=s.length+1
 |[]=>rfl
 |c::l=>by
  have h:=U4 l;unfold BT;split
  ·simp only[dM,List.length_cons,List.length_nil];omega
  ·cases hs:BT l with
   |nil=>exact absurd hs (Ka l)
   |cons a t=>
    rw[hs] at h;simp only[dM,List.length_cons] at h ⊢;omega
theorem Or:∀{l p:List Str},Bk l=some p→2*p.length≤dM l+l.length
 |[],p,h=>by simp[Bk] at h;subst h;simp
 |s::l,p,h=>by
  rw[Bk] at h;split at h
  ·have:=Or h;simp only[dM,List.length_cons];omega
  ·rename_i c;split at h
   ·rw[Option.map_eq_some_iff] at h;obtain⟨q,hq,rfl⟩:=h;have:=Or hq;have hs:0 < s.length:=List.length_pos_iff.2 fun e=>c (.inl e)
    simp only[dM,List.length_cons];omega
   ·cases h
theorem I1{s:Str}{p:List Str}(h:Cp s=some p):2*p.length≤s.length+1:=by
 unfold Cp at h;split at h
 ·cases h
 ·have:=Or h;rw[U4] at this;exact this
theorem O9{s:Str}{p:List Str}(h:Cp s=some p):∀x∈p,x=dd∨DQ x=true:=by
 unfold Cp at h;split at h
 ·cases h
 ·exact PN h
theorem Ip{s:Str}{p:List Str}(h:Cp s=some p):s.length≤1024∧s≠[]:=by
 unfold Cp at h;split at h
 ·cases h
 ·rename_i c;refine⟨by omega,fun e=>c (.inl e)⟩
structure Drx where
 path:Str
 place:List Spot
 r:Rt
structure Wk where
 todo:List Str
 dirs:List Drx
 follow:Bool
 hops:Nat
 fin:Option (Str×Fnd)
def Ep:List Str→List Drx→List Str×List Drx
 |[],ds=>([],ds)
 |s::t,ds=>if s=dd then Ep t (if 1 < ds.length then ds.dropLast else ds) else (s::t,ds)
def Wk.pop(w:Wk):Wk:={w with todo:=(Ep w.todo w.dirs).1,dirs:=(Ep w.todo w.dirs).2}
def Wk.ask(w:Wk):Wk:=match w.fin with|none=>w.pop|some _=>w
theorem Ol:∀(t:List Str) (ds:List Drx),(Ep t ds).1.head?≠some dd
 |[],ds=>by simp[Ep]
 |s::t,ds=>by
  rw[Ep];split
  ·exact Ol t _
  ·rename_i c;simpa using c
theorem dE:∀{t:List Str} {ds:List Drx},t.head?≠some dd→Ep t ds=(t,ds)
 |[],ds,_=>rfl
 |s::t,ds,h=>by rw[Ep,if_neg (by simpa using h)]
theorem Ri:∀(t:List Str) (ds:List Drx),(Ep t ds).1.length≤t.length
 |[],ds=>by simp[Ep]
 |s::t,ds=>by
  rw[Ep];split
  ·have:=Ri t (if 1 < ds.length then ds.dropLast else ds);simp;omega
  ·simp
theorem XC:∀{t:List Str} {ds:List Drx} {s:Str},s∈(Ep t ds).1→s∈t
 |[],ds,s,h=>by simp[Ep] at h
 |x::t,ds,s,h=>by
  rw[Ep] at h;split at h
  ·exact List.mem_cons_of_mem _ (XC h)
  ·exact h
def D0(L:List (List Bm))(names:List Str):List Spot:=names.foldl (fun p s=>(DB L s p Fnd.none).dirs) (Gz L 0)
theorem Sa(L:List (List Bm))(names:List Str)(s:Str):D0 L (names++[s])=(DB L s (D0 L names) Fnd.none).dirs:=by simp[D0]
structure bG(L:List (List Bm))(D:List Node)(d:Drx)(names:List Str):Prop where
 path:d.path=pathOf names
 at_:d.place=D0 L names
 on:OnP L d.place (DC D names)
 good:∀n∈DC D names,n.ok∧n.allB=true∧n.kind=2∧n.depth+names.length≤15∧n.count≤100000
 few:(DC D names).length≤64
 ne:names≠[]→DC D names≠[]
structure JY(L:List (List Bm))(D:List Node)(ds:List Drx)(names:List Str):Prop where
 len:ds.length=names.length+1
 dir:∀k,k≤names.length→∃d,ds[k]? =some d∧bG L D d (names.take k)
 nm:∀s∈names,DQ s=true
theorem bG.short{L:List (List Bm)}{D:List Node}{d:Drx}{names:List Str}(h:bG L D d names):names.length≤15:=by
 by_cases e:names=[]
 ·rw[e];simp
 ·cases hh:DC D names with
  |nil=>exact absurd hh (h.ne e)
  |cons x l=>
   have:=(h.good x (by rw[hh];simp)).2.2.2.1
   omega
theorem JY.last{L:List (List Bm)}{D:List Node}{ds:List Drx}{names:List Str}(h:JY L D ds names):∃d,ds.getLast? =some d∧ds[names.length]? =some d∧bG L D d names:=by
 obtain⟨d,h1,h2⟩:=h.dir names.length (Nat.le_refl _);rw[List.take_length] at h2;refine⟨d,?_,h1,h2⟩;rw[List.getLast?_eq_getElem?,h.len];exact h1
theorem JY.drop{L:List (List Bm)}{D:List Node}{ds:List Drx}{names:List Str}(h:JY L D ds names):JY L D (if 1 < ds.length then ds.dropLast else ds) names.dropLast:=by
 have hl:=h.len;split
 ·rename_i c;refine⟨by simp;omega,fun k hk=>?_,fun s hs=>h.nm s (List.dropLast_subset _ hs)⟩
  simp at hk;obtain⟨d,h1,h2⟩:=h.dir k (by omega)
  refine⟨d,?_,?_⟩
  ·rw[List.getElem?_dropLast,if_pos (by omega)];exact h1
  ·rw[List.dropLast_eq_take,List.take_take,Nat.min_eq_left (by omega)];exact h2
 ·rename_i c;have e:names=[]:=List.eq_nil_of_length_eq_zero (by omega)
  subst e;exact h
theorem JY.root{L:List (List Bm)}{D:List Node}{ds:List Drx}{names:List Str}(h:JY L D ds names):JY L D (ds.take 1) []:=by
 have hl:=h.len;refine⟨by simp;omega,fun k hk=>?_,by simp⟩
 simp at hk;subst hk;obtain⟨d,h1,h2⟩:=h.dir 0 (by omega)
 refine⟨d,?_,h2⟩;rw[List.getElem?_take_of_lt (by omega)]
 exact h1
theorem JY.push{L:List (List Bm)}{D:List Node}{ds:List Drx}{names:List Str}{s:Str}{d:Drx}(h:JY L D ds names)(hs:DQ s=true)(hd:bG L D d (names++[s])):JY L D (ds++[d]) (names++[s]):=by
 have hl:=h.len;refine⟨by simp;omega,fun k hk=>?_,fun x hx=>?_⟩
 ·simp at hk
  by_cases e:k=names.length+1
  ·subst e;refine⟨d,?_,?_⟩
   ·rw[←hl];simp
   ·rw[List.take_of_length_le (by simp)];exact hd
  ·obtain⟨x,h1,h2⟩:=h.dir k (by omega)
   refine⟨x,?_,?_⟩
   ·rw[List.getElem?_append_left (by omega)];exact h1
   ·rw[List.take_append_of_le_length (by omega)];exact h2
 ·rcases List.mem_append.1 hx with hx|hx
  ·exact h.nm x hx
  ·rw[List.mem_singleton] at hx;subst hx;exact hs
theorem Xe{L:List (List Bm)}{D:List Node}{follow:Bool}{next:List Str→List Str→AtN}:∀(todo:List Str) {ds:List Drx} {names:List Str},JY L D ds names→
  ∃names',JY L D (Ep todo ds).2 names'∧ID D follow next todo names=ID D follow next (Ep todo ds).1 names'
 |[],ds,names,h=>⟨names,h,rfl⟩
 |s::t,ds,names,h=>by
  rw[Ep]
  by_cases e:s=dd
  ·rw[if_pos e,ID,if_pos e];exact Xe t h.drop
  ·rw[if_neg e];exact⟨names,h,rfl⟩
theorem KC{n:Node}(ha:n.allB=true)(k:n.kind=3):∃l,Cp n.target=some l∧n.target.length≤256:=by
 rw[Node.all_eq] at ha;simp only[Bool.and_eq_true] at ha;obtain⟨hz,hk⟩:=Eu ha.2;simp[Ct,k] at hk;obtain⟨h1,h2⟩:=hk;cases h:Cp n.target with
 |none=>rw[h] at h1;cases h1
 |some l=>exact⟨l,rfl,h2⟩
def dc(p:List Spot):Fnd:=⟨2,(p[0]?).getD (0,0),p⟩
def Ends(L:List (List Bm))(D:List Node)(want:AtN)(t:Fnd):Prop:=
 want.err=0∧∃ds names,JY L D ds names∧((want.names=names∧want.nodes=DC D names∧t=dc (D0 L names))∨
  ∃s y l,DQ s=true∧want.names=names++[s]∧Cn (DC D names) s=y::l∧y.kind≠2∧want.nodes=y::l∧t=DB L s (D0 L names) Fnd.none)
theorem RZ{H:List Node}{k:Nat}{s:Str}{y:Node}{l:List Node}(h:∀n∈H,n.ok∧n.allB=true∧n.kind=2∧n.depth+k≤15∧n.count≤100000)(hs:Cn H s=y::l):
  ∀z∈y::l,z.ok∧z.allB=true∧(y.kind=2→z.kind=2)∧z.depth+(k+1)≤15∧z.count≤100000:=by
 intro z hz;rw[←hs] at hz;obtain⟨n,h1,h2⟩:=Rp hz;obtain⟨q1,q2,q3,q4,q5⟩:=h n h1;have h6:=dK h2;have h7:=((FK (l:=n.items)).2 z h2).1;rw[Node.count_eq] at q5;exact⟨LZ q1 h2,Kr q2 h2,fun k2=>dV hs k2 hz,by omega,by omega⟩
theorem OnP.nil_iff{L:List (List Bm)}{p:List Spot}(h:OnP L p []):p=[]:=by
 cases p with
 |nil=>rfl
 |cons x p=>exact h.elim
theorem Ends.facts{L:List (List Bm)}{D:List Node}{want:AtN}{t:Fnd}(h:Ends L D want t):
  match want.nodes with
  |[]=>t=⟨2,(0,0),[]⟩∧want.names=[]
  |y::l=>t.kind=y.kind∧Stands L t.sp y∧y.ok∧y.allB=true∧(if y.kind=2 then OnP L t.dirs (y::l)∧t.dirs[0]? =some t.sp∧∀z∈y::l,z.ok∧z.allB=true∧z.kind=2∧z.count≤100000 else t.dirs=[]∧l=[]):=by
 obtain⟨he,ds,names,hw,hc⟩:=h;obtain⟨d,_,_,hd⟩:=hw.last;have hon:=hd.on;rw[hd.at_] at hon;rcases hc with ⟨h1,h2,h3⟩|⟨s,y,l,hs,h1,h2,h3,h4,h5⟩
 ·rw[h2,h3];cases hh:DC D names with
  |nil=>
   rw[hh] at hon;have hp:=hon.nil_iff;refine⟨by rw[hp];rfl,?_⟩
   rw[h1]
   by_cases e:names=[]
   ·exact e
   ·exact absurd hh (hd.ne e)
  |cons y l=>
   rw[hh] at hon;have hg:=hd.good;rw[hh] at hg;obtain⟨g1,g2,g3,g4,g5⟩:=hg y (by simp)
   cases hp:D0 L names with
   |nil=>rw[hp] at hon;exact hon.elim
   |cons x p=>
    rw[hp] at hon;refine⟨g3.symm,hon.1,g1,g2,?_⟩;rw[if_pos g3];exact⟨hon,rfl,fun z hz=>by obtain⟨a,b,c,_,e⟩:=hg z hz;exact⟨a,b,c,e⟩⟩
 ·rw[h4];have hag:=Jl L s _ _ hon (fun n hn=>(hd.good n hn).2.1)
  rw[h2,←h5] at hag;obtain⟨a1,a2,a3,a4,a5,a6,a7,a8⟩:=hag;have hg:=RZ hd.good h2 y (by simp)
  refine⟨a1,a4,hg.1,a5,?_⟩;rw[if_neg h3] at a6 ⊢;exact a6
theorem Ym{names:List Str}{s:Str}(h:∀x∈names,DQ x=true):(if pathOf names=[47] then pathOf names++s else pathOf names++47::s)=pathOf (names++[s]):=by
 rw[Jv]
 by_cases e:names=[]
 ·subst e;simp[pathOf,Lib.join_nil]
 ·have:pathOf names≠[47]:=by
   obtain⟨l,x,rfl⟩:=(List.eq_nil_or_concat names).resolve_left e;have hx:=Me (h x (by simp))
   rw[List.concat_eq_append,Jv];split
   ·simp[hx.1]
   ·intro e2;have:=congrArg List.length e2;simp[pathOf] at this
  rw[if_neg this,if_neg e]
def Wk.tell(w:Wk)(path s:Str)(rest:List Str)(f:Fnd)(fr:Rt)(there:Bool)(target:Str):Wk×Int:=
 if there=false then (w,2)
 else if f.kind=3∧(rest≠[]∨w.follow=true) then
  if 40 < w.hops+1 then ({w with todo:=rest,hops:=w.hops+1},4)
  else match Cp target with
   |none=>({w with todo:=rest,hops:=w.hops+1},1)
   |some l=>({w with todo:=l++rest,hops:=w.hops+1,dirs:=if target.head? =some 47 then w.dirs.take 1 else w.dirs},0)
 else if f.kind=2 then ({w with todo:=rest,dirs:=w.dirs++[⟨if path=[47] then path++s else path++47::s,f.dirs,fr⟩]},0)
 else if rest≠[] then ({w with todo:=rest},3)
 else ({w with todo:=rest,fin:=some (if path=[47] then path++s else path++47::s,f)},0)
structure Going(L:List (List Bm))(D:List Node)(want:AtN)(w:Wk)(h:Nat)(names:List Str):Prop where
 on:JY L D w.dirs names
 hops:w.hops+h=40
 td:∀s∈w.todo,s=dd∨DQ s=true
 fin:w.fin=none
 goes:KR D w.follow h w.todo names=want
theorem Going.pop{L:List (List Bm)}{D:List Node}{want:AtN}{w:Wk}{h:Nat}{names:List Str}(g:Going L D want w h names):∃names',Going L D want w.pop h names':=by
 obtain⟨names',h1,h2⟩:=Xe (follow:=w.follow) (next:=eS D w.follow h) w.todo g.on;exact⟨names',h1,g.hops,fun s hs=>g.td s (XC hs),g.fin,by have:=g.goes;rw[GG,h2] at this;rw[GG];exact this⟩
theorem Going.step{L:List (List Bm)}{D:List Node}{want:AtN}{w:Wk}{h:Nat}{names:List Str}{s:Str}{rest:List Str}{f:Fnd}{fr:Rt}{target:Str}(g:Going L D want w h names)(ht:w.todo=s::rest)(hs:s≠dd)
  (hf:f=DB L s (D0 L names) Fnd.none) (htg:f.kind=3→∀y l,Cn (DC D names) s=y::l→target=y.target):
  ∃d,w.dirs.getLast? =some d∧d.path=pathOf names∧d.place=D0 L names∧names.length≤15∧
  match w.tell (pathOf names) s rest f fr (decide (f.kind≠0)) target with
  |(w',e)=>(e≠0→want.err=e)∧(e=0→(∃h' names',Going L D want w' h' names'∧(w'.todo=rest∧h'=h∨h=h'+1∧∃p,p.length≤128∧w'.todo=p++rest))∨
   (∃g',w'.fin=some (pathOf want.names,g')∧Ends L D want g'∧rest=[]∧w'={w with todo:=[],fin:=some (pathOf want.names,g')})):=by
 obtain⟨d,d1,d2,hd⟩:=g.on.last;have hon:=hd.on;rw[hd.at_] at hon;have hag:=Jl L s _ _ hon (fun n hn=>(hd.good n hn).2.1)
 rw[←hf] at hag;refine⟨d,d1,hd.path,hd.at_,hd.short,?_⟩;have hgo:=g.goes;rw[ht,GG,ID,if_neg hs] at hgo;have hsr:DQ s=true:=(g.td s (by rw[ht];simp)).resolve_left hs
 have hch:=Ym (s:=s) g.on.nm;cases hsn:Cn (DC D names) s with
 |nil=>
  rw[hsn] at hgo hag;simp only at hgo;have hk:f.kind=0:=by rw[show f=Fnd.none from hag];rfl
  simp only[Wk.tell,hk];simp[←hgo]
 |cons y l=>
  rw[hsn] at hgo hag;simp only at hgo;obtain⟨a1,a2,a3,a4,a5,a6,a7,a8⟩:=hag;have hk0:f.kind≠0:=by rw[a1];exact a2
  have hgd:=RZ hd.good hsn;have htd:∀x∈rest,x=dd∨DQ x=true:=fun x hx=>g.td x (by rw[ht];simp[hx])
  simp only[Wk.tell,hk0,ne_eq,not_false_eq_true,decide_true,Bool.true_eq_false,if_false];rw[a1,hch]
  by_cases k2:y.kind=2
  ·rw[if_pos k2] at hgo a6;rw[if_neg (by omega),if_pos k2]
   refine⟨fun h=>absurd rfl h,fun _=>.inl ⟨h,names++[s],⟨?_,g.hops,htd,g.fin,?_⟩,.inl ⟨rfl,rfl⟩⟩⟩
   ·refine g.on.push hsr ⟨rfl,?_,?_,fun n hn=>?_,?_,fun _=>?_⟩
    ·rw[Sa,←hf]
    ·rw[GD,hsn];exact a6.1
    ·rw[GD,hsn] at hn;obtain⟨q1,q2,q3,q4,q5⟩:=hgd n hn;exact⟨q1,q2,q3 k2,by simpa using q4,q5⟩
    ·rw[GD];exact Nat.le_trans (Xp _ _) hd.few
    ·rw[GD,hsn];simp
   ·rw[GG];exact hgo
  rw[if_neg k2] at hgo a6
  by_cases c3:y.kind=3∧(rest≠[]∨w.follow=true)
  ·rw[if_pos c3] at hgo;rw[if_pos c3];have hh:=g.hops;have e1:=htg (a1.trans c3.1) y l hsn;subst e1;cases h with
   |zero=>
    rw[if_pos (by omega)]
    refine⟨fun _=>?_,fun h=>absurd h (by simp)⟩
    rw[←hgo];rfl
   |succ h=>
    rw[if_neg (by omega)]
    obtain⟨p,hp1,hp2⟩:=KC a5 c3.1;have hpo:partsOf y.target=p:=by rw[partsOf,hp1];rfl
    rw[hpo] at hgo;simp only[hp1];refine⟨fun h=>absurd trivial h,fun _=>.inl ⟨h,if y.target.head? =some 47 then [] else names,⟨?_,by simp only;omega,fun x hx=>?_,g.fin,hgo⟩,.inr ⟨rfl,p,by have:=I1 hp1;omega,rfl⟩⟩⟩
    ·simp only;split
     ·exact g.on.root
     ·exact g.on
    ·rcases List.mem_append.1 hx with hx|hx
     ·exact O9 hp1 x hx
     ·exact htd x hx
  rw[if_neg c3] at hgo;rw[if_neg c3,if_neg k2]
  by_cases cr:rest≠[]
  ·rw[if_pos cr] at hgo;rw[if_pos cr];refine⟨fun _=>by rw[←hgo],fun h=>absurd h (by simp)⟩
  ·rw[if_neg cr] at hgo;rw[if_neg cr];have hr:rest=[]:=by simpa using cr
   refine⟨fun h=>absurd rfl h,fun _=>.inr ⟨f,by rw[←hgo],⟨by rw[←hgo],w.dirs,names,g.on,.inr ⟨s,y,l,hsr,by rw[←hgo],hsn,k2,by rw[←hgo],hf⟩⟩,hr,by rw[←hgo,hr]⟩⟩
theorem Going.end{L:List (List Bm)}{D:List Node}{want:AtN}{w:Wk}{h:Nat}{names:List Str}(g:Going L D want w h names)(ht:w.todo=[]):
  ∃d,w.dirs.getLast? =some d∧d.path=pathOf want.names∧Ends L D want (dc d.place):=by
 obtain⟨d,d1,d2,hd⟩:=g.on.last;have hgo:=g.goes;rw[ht,GG,ID] at hgo;refine⟨d,d1,by rw[←hgo];exact hd.path,by rw[←hgo],w.dirs,names,g.on,.inl ⟨by rw[←hgo],by rw[←hgo],by rw[hd.at_]⟩⟩
end Go.Av
