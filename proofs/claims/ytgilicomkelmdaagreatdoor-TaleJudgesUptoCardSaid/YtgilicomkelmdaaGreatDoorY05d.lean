/- Parts of the proofs of this seat: abstract values over the model, and what the functions of the program do. No condition. -/
import Derived.Test.YtgilicomkelmdaaGreatDoorY05
import Derived.Test.YtgilicomkelmdaaGreatDoorX04L
import Derived.Test.YtgilicomkelmdaaGreatDoorDRow
import Derived.Test.YtgilicomkelmdaaGreatDoorX03
import Derived.Test.YtgilicomkelmdaaGreatDoorXSplit
set_option linter.all false
set_option maxRecDepth 100000
namespace Go.Av
theorem aC{α:Type}(l:List α):(cr l= .nil→l=[])∧((cr l).strip= .nil→l=[])∧(cr l).strip=cr l:=by
 cases l<;>simp[cr,Rt.strip]
structure lW(st:RS)(n:Node)(st':RS):Prop where
 ok:n.ok
 len:st'.s.length≤st.s.length
 bad:st.bad=true→st'.bad=true
 lo:-1≤st'.left
 hi:st'.left≤st.left
 nb:st'.bad=false→0≤st'.left
theorem RS.items_ok{rd:RS→Node×RS}(hrd:∀st:RS,st.s.length≤1048568→0≤st.left→lW st (rd st).1 (rd st).2):∀(c:Nat) (st:RS),st.s.length≤1048568→0≤st.left→
  (RS.items rd c st).1.length+(RS.items rd c st).2.2.s.length≤st.s.length+1∧(RS.items rd c st).2.1.length=(RS.items rd c st).1.length∧(∀s∈(RS.items rd c st).1,s.length≤1048576)∧(∀n∈(RS.items rd c st).2.1,n.ok)∧(RS.items rd c st).2.2.s.length≤st.s.length∧
   (st.bad=true→RS.items rd c st=([],[],st))∧-1≤(RS.items rd c st).2.2.left∧(RS.items rd c st).2.2.left≤st.left∧((RS.items rd c st).2.2.bad=false→0≤(RS.items rd c st).2.2.left)
 |0,st,h,hl=>by simp[RS.items];omega
 |c+1,st,h,hl=>by
  rw[RS.items]
  by_cases hb:st.bad=true
  ·rw[if_pos hb];simp;omega
  ·rw[if_neg hb];simp only;generalize hA:st.text 1=A;have ht:=RS.text_lt (k:=1) (st:=st);rw[hA] at ht;obtain⟨t1,t2,t3,t4⟩:=ht;generalize hB:rd A.2=B;have hr:=hrd A.2 (by omega) (by omega)
   rw[hB] at hr;obtain⟨r1,r2,r3,r4,r5,r6⟩:=hr
   by_cases hb2:B.2.bad=true
   ·have e:RS.items rd c B.2=([],[],B.2):=by cases c<;>rw[RS.items];rw[if_pos hb2]
    rw[e];refine⟨by (try simp);omega,rfl,by (try simp);omega,by simpa using r1,by (try simp);omega,fun e=>absurd e hb,r4,by (try simp);omega,by simp[hb2]⟩
   ·have hbA:A.2.bad=false:=by
     cases hh:A.2.bad with
     |false=>rfl
     |true=>exact absurd (r3 hh) hb2
    have hbB:B.2.bad=false:=by simpa using hb2
    obtain⟨h1,h2,h3,h4,h5,h6,h7,h8,h9⟩:=RS.items_ok hrd c B.2 (by omega) (r6 hbB)
    have t2:=t2 hbA (by omega)
    refine⟨by (try simp);omega,by simp[h2],?_,?_,by (try simp);omega,fun e=>absurd e hb,h7,by (try simp);omega,h9⟩
    ·intro x hx;rcases List.mem_cons.1 hx with rfl|hx
     ·omega
     ·exact h3 x hx
    ·intro x hx;rcases List.mem_cons.1 hx with rfl|hx
     ·exact r1
     ·exact h4 x hx
theorem So{k:Int}{o:Bool}{ns:List Str}{its:List Node}{sz:Int}{es:List Ext}{t:Str}(h1:I64 k)(h2:ns.length≤1048576∧∀s∈ns,s.length≤1048576)(h3:its.length≤1048576∧∀n∈its,n.ok)(h4:I64 sz)(h5:es.length≤1048576∧∀e∈es,e.ok)(h6:t.length≤1048576):
  (Node.mk k o ⟨ns,cr ns⟩ its (cr its) sz es (cr es) t).ok:=by
 rw[Node.ok_iff];exact⟨h1,⟨(aC ns).1,h2⟩,⟨(aC its).2.1,h3.1⟩,h3.2,h4,⟨(aC es).2.1,h5⟩,h6⟩
theorem RS.node_ok:∀(f:Nat) (st:RS),st.s.length≤1048568→0≤st.left→lW st (RS.node f st).1 (RS.node f st).2
 |0,st,h,hl=>by
  rw[RS.node];exact⟨Node.none_ok,Nat.le_refl _,fun _=>rfl,by (try simp);omega,by (try simp);omega,by simp⟩
 |f+1,st,h,hl=>by
  rw[RS.node]
  by_cases hb:st.bad=true∨st.left - 1 < 0
  ·rw[if_pos hb];exact⟨Node.none_ok,Nat.le_refl _,fun _=>rfl,by (try simp);omega,by (try simp);omega,by simp⟩
  ·rw[if_neg hb];have hb0:¬st.bad=true:=fun e=>hb (.inl e)
   have hl1:0≤st.left - 1:=by omega
   simp only;have hn:=RS.num_lt (k:=1) (st:={st with left:=st.left - 1})
   generalize RS.num 1 {st with left:=st.left - 1}=A at hn ⊢
   obtain⟨n1,n2,n3,n4⟩:=hn;simp only at n2 n3;rw[p1] at n1
   by_cases c1:A.1=1
   ·rw[if_pos c1];have hB:=RS.num_lt (k:=4) (st:=A.2);generalize RS.num 4 A.2=B at hB ⊢;obtain⟨b1,b2,b3,b4⟩:=hB;have hC:=RS.num_lt (k:=4) (st:=B.2);generalize RS.num 4 B.2=D at hC ⊢;obtain⟨d1,d2,d3,d4⟩:=hC;have hE:=RS.exts_lt D.1 D.2;generalize RS.exts D.1 D.2=E at hE ⊢;obtain⟨e1,e2,e3,e4,e5⟩:=hE;rw[p4] at b1;refine⟨So (ns:=[]) (its:=[]) (by unfold I64;omega) (by simp) (by simp) (by unfold I64;omega) ⟨by omega,fun x hx=>?_⟩ (by simp),by (try simp);omega,fun e=>absurd e hb0,by (try simp);omega,by (try simp);omega,fun _=>by (try simp);omega⟩
    have:=e2 x hx;unfold Ext.ok;omega
   rw[if_neg c1]
   by_cases c2:A.1=2
   ·rw[if_pos c2];have hB:=RS.num_lt (k:=1) (st:=A.2);generalize RS.num 1 A.2=B at hB ⊢;obtain⟨b1,b2,b3,b4⟩:=hB;have hC:=RS.num_lt (k:=2) (st:={B.2 with bad:=B.2.bad||decide (1 < B.1)})
    simp only at hC ⊢;generalize RS.num 2 {B.2 with bad:=B.2.bad||decide (1 < B.1)}=D at hC ⊢
    obtain⟨d1,d2,d3,d4⟩:=hC;obtain⟨h1,h2,h3,h4,h5,h6,h7,h8,h9⟩:=RS.items_ok (RS.node_ok f) D.1 D.2 (by omega) (by omega)
    generalize RS.items (RS.node f) D.1 D.2=E at h1 h2 h3 h4 h5 h6 h7 h8 h9 ⊢;refine⟨So (es:=[]) (by unfold I64;omega) ⟨by omega,h3⟩ ⟨by omega,h4⟩ (by unfold I64;omega) (by simp) (by simp),by (try simp);omega,fun e=>absurd e hb0,h7,by (try simp);omega,h9⟩
   rw[if_neg c2]
   by_cases c3:A.1=3
   ·rw[if_pos c3];have hB:=RS.text_lt (k:=2) (st:=A.2);generalize RS.text 2 A.2=B at hB ⊢;obtain⟨b1,b2,b3,b4⟩:=hB;refine⟨So (ns:=[]) (its:=[]) (es:=[]) (by unfold I64;omega) (by simp) (by simp) (by unfold I64;omega) (by simp) (by omega),by (try simp);omega,fun e=>absurd e hb0,by (try simp);omega,by (try simp);omega,fun _=>by (try simp);omega⟩
   ·rw[if_neg c3];refine⟨So (ns:=[]) (its:=[]) (es:=[]) (by unfold I64;omega) (by simp) (by simp) (by unfold I64;omega) (by simp) (by simp),by (try simp);omega,fun e=>absurd e hb0,by (try simp);omega,by (try simp);omega,fun _=>by (try simp);omega⟩
def IE(s:Str):Option Node:=
 if s.length < 7∨4194304 < s.length∨s.take 7≠[115,111,99,97,103,101,49] then none else
  let r:=RS.node 16 ⟨s.drop 7,false,4096⟩
  if r.2.bad=false∧r.2.s=[]∧Bi r.1=true then some r.1 else none
def Lc(s:Str):Option Node:=
 if s.length < 7∨4194304 < s.length∨s.take 7≠[115,111,99,97,103,101,49] then none else
  match Fy 16 (s.drop 7) with
  |some (n,r)=>if r=[]∧Bi n=true then some n else none
  |none=>none
open Go.Proofs
def rdC(s:Str):Obj:=.cells [.str s] CS
theorem iA{n:Nat}(hn:n < 16777216):AI .shl (.int .i64 (n:Int)) (.int .u64 8)=some (.int .i64 ((n*256:Nat):Int)):=by
 simp only[AI];rw[if_neg (by omega)]
 simp only[IntKind.bits];have:(n:Int)*2 ^ (min (Int.toNat 8) 64)=((n*256:Nat):Int):=by
  rw[show (min (Int.toNat 8) 64)=8 from rfl];omega
 rw[this,wrap64 (by omega) (by omega)]
theorem kW{n b:Nat}(hn:n < 16777216)(hb:b < 256):AI .or (.int .i64 ((n*256:Nat):Int)) (.int .i64 (b:Int))=some (.int .i64 ((n*256+b:Nat):Int)):=by
 simp only[AI,if_true,F6];have h1:(BitVec.ofInt 64 ((n*256:Nat):Int)|||BitVec.ofInt 64 (b:Int)).toNat=n*256+b:=by
  rw[BitVec.toNat_or,BitVec.ofInt_natCast,BitVec.ofInt_natCast,BitVec.toNat_ofNat,BitVec.toNat_ofNat,Nat.mod_eq_of_lt (by omega),Nat.mod_eq_of_lt (by omega)]
  have:=Nat.shiftLeft_add_eq_or_of_lt (i:=8) (b:=b) (by omega) n
  rw[Nat.shiftLeft_eq] at this;exact this.symm
 show some (AV.int .i64 (IntKind.i64.wrap (((BitVec.ofInt 64 ((n*256:Nat):Int)|||BitVec.ofInt 64 (b:Int)).toNat:Nat):Int)))=_
 rw[h1,wrap64 (by omega) (by omega)]
theorem Zu{s:Str}{i:Nat}{x:UInt8}(h:s[i]? =some x):val (s.take (i+1))=val (s.take i)*256+x.toNat:=by
 have hi:=(List.getElem?_eq_some_iff.1 h).1;rw[List.take_succ,h];generalize s.take i=l;clear h hi;simp only[Option.toList]
 induction l with
 |nil=>simp[val]
 |cons y l ih=>
  rw[List.cons_append,val,val,ih,List.length_append,List.length_singleton,Nat.pow_succ];rw[Nat.add_mul];rw[Nat.mul_assoc];omega
theorem SZ{w0:World}{S:St}{id k:Nat}{s:Str}(hS:S[id]? =some (rdC s))(hk:1≤k∧k≤4)(hl:s.length≤1000000000){Q:AV→St→Prop}
  (hq:match takeN k s with|some (n,r)=>Q (.tup [.int .i64 n,.bool true]) (S.set id (rdC r))|none=>Q (.tup [.int .i64 0,.bool false]) S):AC w0 Ed [.ptr id 0,.int .i64 k] S Q:=by
 apply N5;unfold I9;have hS':S[id]? =some (.cells [.str s] CS):=hS;unfold takeN at hq
 by_cases c:s.length < k
 ·rw[if_pos c] at hq;simp[show ¬((k:Int) < 1) by omega,show ¬(4 < (k:Int)) by omega,Aa hS',AH,show ((s.length:Int) < (k:Int)) by omega]
  exact hq
 ·rw[if_neg c] at hq;simp[show ¬((k:Int) < 1) by omega,show ¬(4 < (k:Int)) by omega,Aa hS',AH,show ¬((s.length:Int) < (k:Int)) by omega]
  refine BV (fun p:Nat×Nat=>([.int .i64 (p.1:Nat),.int .i64 (p.2:Nat)],[])) (fun m p S'=>S'=S∧m=k - p.2∧p.2≤k∧p.1=val (s.take p.2)) k (0,0) rfl ⟨rfl,rfl,by simp,by simp[val]⟩ ?_
  rintro m ⟨n,i⟩ S' v b ⟨rfl,rfl,h1,h2⟩ hv;simp at hv h1 h2;obtain⟨hv1,hv2⟩:=hv;simp[hv1,hv2]
  by_cases c2:i=k
  ·subst c2;simp;simp only[DF hS',Aa hS'];have e1:S'.set id (.cells [.str s] CS)=S':=by
    obtain⟨hlt,he⟩:=List.getElem?_eq_some_iff.1 hS';rw[←he,List.set_getElem_self]
   simp[e1,show i≤s.length by omega,Am hS']
   rw[←h2] at hq;exact hq
  ·have c3:i < k:=by omega
   have hi:i < s.length:=by omega
   obtain⟨x,hx⟩:∃x,s[i]? =some x:=⟨s[i],by simp[hi]⟩
   have gx:s[i]=x:=(List.getElem?_eq_some_iff.1 hx).2;have hnl:n < 16777216:=by
    have:=Nb (s.take i);rw[List.length_take,Nat.min_eq_left (by omega),←h2] at this
    have h3:256 ^ i≤256 ^ 3:=Nat.pow_le_pow_right (by omega) (by omega)
    have h4:(256:Nat) ^ 3=16777216:=rfl;omega
   have hx256:x.toNat < 256:=x.toNat_lt;have e1:IntKind.i64.wrap ((x.toNat:Nat):Int)=((x.toNat:Nat):Int):=wrap64 (by omega) (by omega)
   simp only[iA hnl];simp[c3,Aa hS',hx,gx,hi,e1];have:=kW hnl hx256;have this':AI .or (.int .i64 ((n:Int)*256)) (.int .i64 (x.toNat:Int))=some (.int .i64 ((n*256+x.toNat:Nat):Int)):=by rw[show (n:Int)*256=((n*256:Nat):Int) by omega];exact this
   simp only[this',Ay]
   try simp (disch:=omega) only[wrap64]
   refine⟨_,(n*256+x.toNat,i+1),by show k - (i+1) < k - i;omega,rfl,rfl,rfl,by show i+1≤k;omega,?_⟩
   show n*256+x.toNat=val (s.take (i+1))
   rw[Zu hx,h2]
theorem Y6{w0:World}{S:St}{id k:Nat}{s:Str}(hS:S[id]? =some (rdC s))(hk:1≤k∧k≤4)(hl:s.length≤1000000000){Q:AV→St→Prop}
  (hq:match JG k s with|some (t,r)=>Q (.tup [.str t,.bool true]) (S.set id (rdC r))|none=>Q (.tup [.str [],.bool false]) S):AC w0 F5 [.ptr id 0,.int .i64 k] S Q:=by
 apply N3;unfold I8;have hS':S[id]? =some (.cells [.str s] CS):=hS;have e1:S.set id (.cells [.str s] CS)=S:=by
  obtain⟨hlt,he⟩:=List.getElem?_eq_some_iff.1 hS';rw[←he,List.set_getElem_self]
 simp[Aa hS'];refine SZ hS hk hl ?_;unfold JG at hq;cases hT:takeN k s with
 |none=>
  rw[hT] at hq;simp at hq;simp[AH,Am hS',e1];exact hq
 |some p=>
  obtain⟨n,r⟩:=p;rw[hT] at hq;simp only[Option.bind_some] at hq;have hS2:(S.set id (rdC r))[id]? =some (.cells [.str r] CS):=Ai hS
  by_cases c:r.length < n
  ·rw[if_pos c] at hq;have c':((r.length:Int) < (n:Int)):=by omega
   simp[AH,Aa hS2,c,c',Am hS2,e1];exact hq
  ·rw[if_neg c] at hq;have c':¬((r.length:Int) < (n:Int)):=by omega
   have c2:n≤r.length:=by omega
   have e2:(S.set id (rdC r)).set id (.cells [.str r] CS)=S.set id (rdC r):=by rw[List.set_set];rfl
   simp[AH,Aa hS2,c,c',c2];simp only[DF hS2];rw[show List.modify [AV.str r] 0 AV.strip1=[AV.str r] from rfl]
   simp[e2,Aa hS2,c2,Am hS2];simp only[DF hS2];rw[show List.modify [AV.str r] 0 AV.strip1=[AV.str r] from rfl]
   simp[e2,Am hS2];exact hq
def RdO(S:St)(rid wid:Nat)(st:RS):Prop:=S[rid]? =some (.cells [.ptr wid 0,.bool st.bad,.int .i64 st.left] BH)∧S[wid]? =some (rdC st.s)
theorem RdO.put{S:St}{rid wid:Nat}{st:RS}(h:RdO S rid wid st)(hne:rid≠wid){s:Str}:RdO (S.set wid (rdC s)) rid wid {st with s:=s}:=
 ⟨by rw[Au (Ne.symm hne)];exact h.1,Ai h.2⟩
theorem RdO.flag{S:St}{rid wid:Nat}{st:RS}(h:RdO S rid wid st)(hne:rid≠wid)(b:Bool):RdO (S.set rid (.cells [.ptr wid 0,.bool b,.int .i64 st.left] BH)) rid wid {st with bad:=b}:=
 ⟨Ai h.1,by rw[Au hne];exact h.2⟩
theorem Kd{w0:World}{S:St}{rid wid b k:Nat}{st:RS}(h:RdO S rid wid st)(hne:rid≠wid)(hb:b≤rid∧b≤wid)(hk:1≤k∧k≤4)(hl:st.s.length≤1000000000){Q:AV→St→Prop}
  (hq:∀S',RdO S' rid wid (st.num k).2→Kp b S S'→Q (.int .i64 (st.num k).1) S'):AC w0 Bl [.ptr rid 0,.int .i64 k] S Q:=by
 apply LK;unfold Gx;simp[Aa h.1];refine SZ h.2 hk hl ?_;unfold RS.num at hq;cases hT:takeN k st.s with
 |none=>
  rw[hT] at hq;cases hbad:st.bad with
  |true=>
   have hS1:=h.1;rw[hbad] at hS1;simp[Aa hS1,Am hS1];have:=h.flag hne true;exact hq _ this (Kp.set hb.1)
  |false=>
   have hS1:=h.1;rw[hbad] at hS1;simp[Aa hS1,Am hS1];have:=h.flag hne true;exact hq _ this (Kp.set hb.1)
 |some p=>
  obtain⟨n,r⟩:=p;rw[hT] at hq;have h2:=h.put hne (s:=r);have h3:=h2.flag hne st.bad;have hS1:=h2.1;cases hbad:st.bad with
  |true=>
   simp only[hbad] at hS1 h3;simp[Aa hS1,Am hS1];refine hq _ ?_ ((Kp.set hb.2).trans (Kp.set hb.1));have e:({s:=r,bad:=st.bad,left:=st.left}:RS)={s:=r,bad:=true,left:=st.left}:=by rw[hbad]
   show RdO _ _ _ {s:=r,bad:=st.bad,left:=st.left}
   rw[e];exact h3
  |false=>
   simp only[hbad] at hS1 h3;simp[Aa hS1,Am hS1];refine hq _ ?_ ((Kp.set hb.2).trans (Kp.set hb.1));have e:({s:=r,bad:=st.bad,left:=st.left}:RS)={s:=r,bad:=false,left:=st.left}:=by rw[hbad]
   show RdO _ _ _ {s:=r,bad:=st.bad,left:=st.left}
   rw[e];exact h3
theorem Ya{w0:World}{S:St}{rid wid b k:Nat}{st:RS}(h:RdO S rid wid st)(hne:rid≠wid)(hb:b≤rid∧b≤wid)(hk:1≤k∧k≤4)(hl:st.s.length≤1000000000){Q:AV→St→Prop}
  (hq:∀S',RdO S' rid wid (st.text k).2→Kp b S S'→Q (.str (st.text k).1) S'):AC w0 DY [.ptr rid 0,.int .i64 k] S Q:=by
 apply NQ;unfold IP;simp[Aa h.1];refine Y6 h.2 hk hl ?_;unfold RS.text at hq;cases hT:JG k st.s with
 |none=>
  rw[hT] at hq;cases hbad:st.bad with
  |true=>
   have hS1:=h.1;rw[hbad] at hS1;simp[Aa hS1,Am hS1];have:=h.flag hne true;exact hq _ this (Kp.set hb.1)
  |false=>
   have hS1:=h.1;rw[hbad] at hS1;simp[Aa hS1,Am hS1];have:=h.flag hne true;exact hq _ this (Kp.set hb.1)
 |some p=>
  obtain⟨n,r⟩:=p;rw[hT] at hq;have h2:=h.put hne (s:=r);have h3:=h2.flag hne st.bad;have hS1:=h2.1;cases hbad:st.bad with
  |true=>
   simp only[hbad] at hS1 h3;simp[Aa hS1,Am hS1];refine hq _ ?_ ((Kp.set hb.2).trans (Kp.set hb.1));have e:({s:=r,bad:=st.bad,left:=st.left}:RS)={s:=r,bad:=true,left:=st.left}:=by rw[hbad]
   show RdO _ _ _ {s:=r,bad:=st.bad,left:=st.left}
   rw[e];exact h3
  |false=>
   simp only[hbad] at hS1 h3;simp[Aa hS1,Am hS1];refine hq _ ?_ ((Kp.set hb.2).trans (Kp.set hb.1));have e:({s:=r,bad:=st.bad,left:=st.left}:RS)={s:=r,bad:=false,left:=st.left}:=by rw[hbad]
   show RdO _ _ _ {s:=r,bad:=st.bad,left:=st.left}
   rw[e];exact h3
def okA{α:Type}(r:Rt)(l:List α):Prop:=(r= .nil∧l=[])∨((∃t,r= .own t)∧l≠[])
theorem okA.cr{α:Type}{r:Rt}{l:List α}(h:okA r l):r.strip=cr l:=by
 rcases h with ⟨rfl,rfl⟩|⟨⟨t,rfl⟩,h⟩
 ·rfl
 ·cases l
  ·exact(h rfl).elim
  ·rfl
theorem okA.ne{α:Type}{r:Rt}{l:List α}(h:okA r l):r≠ .none∧r≠ .full:=by
 rcases h with ⟨rfl,rfl⟩|⟨⟨t,rfl⟩,h⟩<;>simp
theorem okA.app{α:Type}{t:Nat}{l:List α}{x:α}:okA (.own t) (l++[x]):=.inr ⟨⟨t,rfl⟩,by simp⟩
def ndC(k:Int)(o:Bool)(ns:List Str)(nr:Rt)(its:List Node)(ir:Rt)(sz:Int)(es:List Ext)(er:Rt)(t:Str):List AV:=[.int .i64 k,.bool o,.vs 1 (ns.map BO) nr,.vs 7 (its.map Node.c) ir,.int .i64 sz,.vs 2 (es.map Ext.c) er,.str t]
theorem X6{w0:World}:∀(f:Nat) {S:St} {Q:AV→St→Prop} {rid wid b:Nat} {st:RS} {d:Int},f≤16→d=16 - (f:Int)→RdO S rid wid st→rid≠wid→(b≤rid∧b≤wid)→st.s.length≤1048568→0≤st.left→st.left≤1000000→
  (∀S',RdO S' rid wid (RS.node f st).2→Kp b S S'→Q (.agg (RS.node f st).1.c) S')→AC w0 EL [.ptr rid 0,.int .i64 d] S Q:=by
 intro f
 induction f with
 |zero=>
  intro S Q rid wid b st d hf hd0 h hne hb hl h0 h1 hq;apply Hr;unfold Fo;rw[AH];simp only[Aa h.1];simp;simp[Am h.1]
  try simp (disch:=omega) only[wrap64]
  have hS1:=Ai (o':=.cells [.ptr wid 0,.bool st.bad,.int .i64 (st.left - 1)] BH) h.1;have hS2:=Ai (o':=.cells [.ptr wid 0,.bool true,.int .i64 (st.left - 1)] BH) h.1;have hfin:Q (.agg [.int .i64 0,.bool false,.vs 1 [] .nil,.vs 7 [] .nil,.int .i64 0,.vs 2 [] .nil,.str []]) (S.set rid (.cells [.ptr wid 0,.bool true,.int .i64 (st.left - 1)] BH)):=by
   have:=hq (S.set rid (.cells [.ptr wid 0,.bool true,.int .i64 (st.left - 1)] BH)) ⟨hS2,by rw[Au hne];exact h.2⟩ (Kp.set hb.1)
   rw[RS.node] at this;simp only[Node.none_c] at this;exact this
  simp[Aa hS1];have hd:(15:Int) < d:=by omega
  by_cases c:st.left < 1
  ·simp[c,hd,show st.left - 1 < 0 by omega,Am hS1,Aa hS2]
   exact hfin
  ·simp[c,hd,show ¬st.left - 1 < 0 by omega,Am hS1,Aa hS2]
   exact hfin
 |succ f ih=>
  intro S Q rid wid b st d hf hd0 h hne hb hl h0 h1 hq;apply Hr;unfold Fo;simp[Aa h.1,Am h.1]
  try simp (disch:=omega) only[wrap64]
  have hS1:=Ai (o':=.cells [.ptr wid 0,.bool st.bad,.int .i64 (st.left - 1)] BH) h.1;have hS2:=Ai (o':=.cells [.ptr wid 0,.bool true,.int .i64 (st.left - 1)] BH) h.1;have hfin:(st.bad=true∨st.left - 1 < 0)→Q (.agg [.int .i64 0,.bool false,.vs 1 [] .nil,.vs 7 [] .nil,.int .i64 0,.vs 2 [] .nil,.str []]) (S.set rid (.cells [.ptr wid 0,.bool true,.int .i64 (st.left - 1)] BH)):=fun hc=>by
   rw[RS.node,if_pos hc] at hq;have:=hq (S.set rid (.cells [.ptr wid 0,.bool true,.int .i64 (st.left - 1)] BH)) ⟨hS2,by rw[Au hne];exact h.2⟩ (Kp.set hb.1)
   simp only[Node.none_c] at this;exact this
  have hd:¬(15:Int) < d:=by omega
  simp[Aa hS1]
  by_cases c:st.left < 1
  ·have:=hfin (.inr (by omega))
   simp[c,show st.left - 1 < 0 by omega,Am hS1,Aa hS2,AH]
   exact this
  have c':¬st.left - 1 < 0:=by omega
  cases hbad:st.bad with
  |true=>
   have:=hfin (.inl hbad);rw[hbad] at hS1;simp[c,c',hd,Aa hS1,AH];exact this
  |false=>
  rw[hbad] at hS1;simp[c,c',hd];simp[Aa hS1];have hR1:RdO (S.set rid (.cells [.ptr wid 0,.bool false,.int .i64 (st.left - 1)] BH)) rid wid {st with left:=st.left - 1}:=⟨by rw[←hbad] at hS1;simpa[hbad] using hS1,by rw[Au hne];exact h.2⟩
  have hK1:Kp b S (S.set rid (.cells [.ptr wid 0,.bool false,.int .i64 (st.left - 1)] BH)):=Kp.set hb.1;rw[RS.node,if_neg (by rw[hbad];simp;omega)] at hq
  simp only at hq;generalize S.set rid (.cells [.ptr wid 0,.bool false,.int .i64 (st.left - 1)] BH)=S1 at hR1 hK1 ⊢;have hN:=RS.num_lt (k:=1) (st:={st with left:=st.left - 1})
  refine Kd hR1 hne hb (k:=1) (by omega) (by simp;omega) (fun S2 hR2 hK2=>?_)
  generalize RS.num 1 {st with left:=st.left - 1}=A at hq hN hR2 ⊢
  obtain⟨a1,a2,a3,_⟩:=hN;simp only at a2 a3;rw[p1] at a1;simp;refine A7 (fun j=>∀(k:Int) (o:Bool) (ns:List Str) (nr:Rt) (its:List Node) (ir:Rt) (sz:Int) (es:List Ext) (er:Rt) (t:Str) (S':St),okA nr ns→okA ir its→okA er es→Q (.agg (Node.mk k o ⟨ns,cr ns⟩ its (cr its) sz es (cr es) t).c) S'→j (some (ndC k o ns nr its ir sz es er t)) S') ?_ (fun j hj=>?_)
  ·intro k o ns nr its ir sz es er t S' g1 g2 g3 hQ;rw[Node.c_eq'] at hQ;simp at hQ;simp[ndC];rw[g1.cr,g2.cr,g3.cr];have e1:∀{α:Type} (l:List α),(cr l).strip=cr l:=fun l=>(aC l).2.2
   rw[e1,e1,e1] at hQ;exact hQ
  have e1:((A.1:Int)=1)=(A.1=1):=propext (by omega)
  have e2:((A.1:Int)=2)=(A.1=2):=propext (by omega)
  have e3:((A.1:Int)=3)=(A.1=3):=propext (by omega)
  by_cases c1:A.1=1
  ·rw[if_pos c1] at hq;simp only at hq;simp[c1];have hB:=RS.num_lt (k:=4) (st:=A.2);refine Kd hR2 hne hb (k:=4) (by omega) (by omega) (fun S3 hR3 hK3=>?_)
   generalize RS.num 4 A.2=B at hB hR3 hq ⊢;obtain⟨b1,b2,b3,b4⟩:=hB;simp;have hC:=RS.num_lt (k:=4) (st:=B.2);refine Kd hR3 hne hb (k:=4) (by omega) (by omega) (fun S4 hR4 hK4=>?_)
   generalize RS.num 4 B.2=D at hC hR4 hq ⊢;obtain⟨d1,d2,d3,d4⟩:=hC;have hK:Kp b S S4:=((hK1.trans hK2).trans hK3).trans hK4;rw[p4] at d1;refine BV (fun p:Nat×List Ext×Rt=>([.int .i64 (p.1:Nat)],[some (ndC 1 false [] .nil [] .nil B.1 p.2.1 p.2.2 [])])) (fun m p S'=>m=p.1∧p.1≤D.1∧∃st':RS,RdO S' rid wid st'∧Kp b S S'∧okA p.2.2 p.2.1∧st'.s.length≤st.s.length∧p.2.1.length+st'.s.length≤1048577∧(st'.bad=false→p.2.1.length+st'.s.length≤1048576)∧
    RS.exts D.1 D.2=(p.2.1++(RS.exts p.1 st').1,(RS.exts p.1 st').2)) D.1 (D.1,[],.nil) rfl ⟨rfl,Nat.le_refl _,D.2,hR4,hK,.inl ⟨rfl,rfl⟩,by omega,by simp;omega,fun _=>by simp;omega,by simp⟩ ?_
   rintro m ⟨c,l,r⟩ S5 v bx ⟨rfl,hc,st',hR5,hK5,hr,hl5,hl6,hl7,he⟩ hv;simp at hv hc hr hl6 hl7 he;obtain⟨hv1,hv2⟩:=hv;simp only[ndC] at hv2;simp[hv1,hv2,Aa hR5.1,AH]
   by_cases cm:m=0
   ·subst cm;rw[RS.exts] at he;simp at he;rw[he] at hq;have:=hj 1 false [] .nil [] .nil B.1 l r [] S5 (.inl ⟨rfl,rfl⟩) (.inl ⟨rfl,rfl⟩) hr (hq S5 hR5 hK5);simpa[ndC] using this
   have cm':0 < m:=by omega
   cases hbd:st'.bad with
   |true=>
    have:RS.exts m st'=([],st'):=by cases m<;>rw[RS.exts];rw[if_pos hbd]
    rw[this] at he;simp at he;rw[he] at hq;have:=hj 1 false [] .nil [] .nil B.1 l r [] S5 (.inl ⟨rfl,rfl⟩) (.inl ⟨rfl,rfl⟩) hr (hq S5 hR5 hK5);simp[cm'];simpa[ndC] using this
   |false=>
    obtain⟨q,rfl⟩:∃q,m=q+1:=⟨m - 1,by omega⟩
    simp;rw[RS.exts,if_neg (by rw[hbd];simp)] at he
    simp only at he;have hF:=RS.num_lt (k:=4) (st:=st');refine Kd hR5 hne hb (k:=4) (by omega) (by omega) (fun S6 hR6 hK6=>?_)
    generalize RS.num 4 st'=F at hF hR6 he ⊢;obtain⟨f1,f2,f3,f4⟩:=hF;simp;have hG:=RS.text_lt (k:=4) (st:=F.2);refine Ya hR6 hne hb (k:=4) (by omega) (by omega) (fun S7 hR7 hK7=>?_)
    generalize RS.text 4 F.2=G at hG hR7 he ⊢;obtain⟨g1,g2,g3,g4⟩:=hG;obtain⟨n1,n2⟩:=hr.ne;have hl7:=hl7 hbd;have hlim:l.length+1≤lim:=by unfold lim;omega
    simp[AU,A1,n1,hlim];have hwr:IntKind.i64.wrap (q:Int)=(q:Int):=wrap64 (by omega) (by omega)
    refine⟨_,(q,l++[⟨F.1,G.1⟩],.own (Ba Al r)),Nat.lt_succ_self q,?_,rfl,by show q≤D.1;omega,G.2,hR7,(hK5.trans hK6).trans hK7,.app,by omega,?_,?_,?_⟩
    ·simp[ndC,hwr]
    ·simp;omega
    ·intro hg;have:=g2 hg (by omega)
     simp;omega
    ·rw[he];simp
  rw[if_neg c1] at hq
  by_cases c2:A.1=2
  ·rw[if_pos c2] at hq;simp only at hq;simp[c2];have hB:=RS.num_lt (k:=1) (st:=A.2);refine Kd hR2 hne hb (k:=1) (by omega) (by omega) (fun S3 hR3 hK3=>?_)
   generalize RS.num 1 A.2=B at hB hR3 hq ⊢;obtain⟨b1,b2,b3,b4⟩:=hB;have eb1:((B.1:Int)=1)=(B.1=1):=propext (by omega)
   have eb2:((1:Int) < B.1)=(1 < B.1):=propext (by omega)
   simp[Aa hR3.1];have hR4:=hR3.flag hne (B.2.bad||decide (1 < B.1));have hK4:Kp b S3 (S3.set rid (.cells [.ptr wid 0,.bool (B.2.bad||decide (1 < B.1)),.int .i64 B.2.left] BH)):=Kp.set hb.1;simp[Am hR3.1,eb1,eb2];generalize S3.set rid (.cells [.ptr wid 0,.bool (B.2.bad||decide (1 < B.1)),.int .i64 B.2.left] BH)=S4 at hR4 hK4 ⊢;have hC:=RS.num_lt (k:=2) (st:={B.2 with bad:=B.2.bad||decide (1 < B.1)})
   simp only at hC;refine Kd hR4 hne hb (k:=2) (by omega) (by simp;omega) (fun S5 hR5 hK5=>?_)
   generalize RS.num 2 {B.2 with bad:=B.2.bad||decide (1 < B.1)}=D at hC hR5 hq ⊢
   obtain⟨d1,d2,d3,d4⟩:=hC;have hK:Kp b S S5:=(((hK1.trans hK2).trans hK3).trans hK4).trans hK5;rw[p2] at d1;refine BV (fun p:Nat×List Str×List Node×Rt×Rt=>([.int .i64 (p.1:Nat)],[some (ndC 2 (decide (B.1=1)) p.2.1 p.2.2.2.1 p.2.2.1 p.2.2.2.2 0 [] .nil [])])) (fun m p S'=>m=p.1∧p.1≤D.1∧∃st':RS,RdO S' rid wid st'∧Kp b S S'∧okA p.2.2.2.1 p.2.1∧okA p.2.2.2.2 p.2.2.1∧p.2.2.1.length=p.2.1.length∧st'.s.length≤st.s.length∧
    (st'.bad=false→p.2.1.length+st'.s.length≤1048576)∧(st'.bad=false→0≤st'.left)∧st'.left≤1000000∧
    RS.items (RS.node f) D.1 D.2=(p.2.1++(RS.items (RS.node f) p.1 st').1,p.2.2.1++(RS.items (RS.node f) p.1 st').2.1,(RS.items (RS.node f) p.1 st').2.2)) D.1 (D.1,[],[],.nil,.nil) rfl ⟨rfl,Nat.le_refl _,D.2,hR5,hK,.inl ⟨rfl,rfl⟩,.inl ⟨rfl,rfl⟩,rfl,by omega,fun _=>by simp;omega,fun _=>by omega,by omega,by simp⟩ ?_
   rintro m ⟨c,ns,its,r1,r2⟩ S6 v bx ⟨rfl,hc,st',hR6,hK6,hr1,hr2,hlen,hl5,hl7,hl8,hl9,he⟩ hv;simp at hv hc hr1 hr2 hl7 hlen he;obtain⟨hv1,hv2⟩:=hv;simp only[ndC] at hv2;simp[hv1,hv2,Aa hR6.1,AH];have hend:RS.items (RS.node f) D.1 D.2=(ns,its,st')→j (some (ndC 2 (decide (B.1=1)) ns r1 its r2 0 [] .nil [])) S6:=fun he=>by
    rw[he] at hq;exact hj 2 (decide (B.1=1)) ns r1 its r2 0 [] .nil [] S6 hr1 hr2 (.inl ⟨rfl,rfl⟩) (hq S6 hR6 hK6)
   by_cases cm:m=0
   ·subst cm;rw[RS.items] at he;have:=hend (by simpa using he)
    simpa[ndC] using this
   have cm':0 < m:=by omega
   cases hbd:st'.bad with
   |true=>
    have e:RS.items (RS.node f) m st'=([],[],st'):=by cases m<;>rw[RS.items];rw[if_pos hbd]
    rw[e] at he;have:=hend (by simpa using he)
    simp[cm'];simpa[ndC] using this
   |false=>
    obtain⟨q,rfl⟩:∃q,m=q+1:=⟨m - 1,by omega⟩
    have hl8:=hl8 hbd;have hl7:=hl7 hbd;simp;rw[RS.items,if_neg (by rw[hbd];simp)] at he
    simp only at he;have hF:=RS.text_lt (k:=1) (st:=st');refine Ya hR6 hne hb (k:=1) (by omega) (by omega) (fun S7 hR7 hK7=>?_)
    generalize RS.text 1 st'=F at hF hR7 he ⊢;obtain⟨f1,f2,f3,f4⟩:=hF;obtain⟨n1,n2⟩:=hr1.ne;obtain⟨n3,n4⟩:=hr2.ne;have hlim:ns.length+1≤lim:=by unfold lim;omega
    have hlim2:its.length+1≤lim:=by rw[hlen];exact hlim
    simp[AU,A1,n1,hlim];have hG:=RS.node_ok f F.2 (by omega) (by omega)
    refine ih (by omega) (by omega) hR7 hne hb (by omega) (by omega) (by omega) (fun S8 hR8 hK8=>?_)
    generalize RS.node f F.2=G at hG hR8 he ⊢;obtain⟨g1,g2,g3,g4,g5,g6⟩:=hG;simp[n3,hlim2];have hwr:IntKind.i64.wrap (q:Int)=(q:Int):=wrap64 (by omega) (by omega)
    refine⟨_,(q,ns++[F.1],its++[G.1],.own (Ba AJ r1),.own (Ba AG r2)),Nat.lt_succ_self q,?_,rfl,by show q≤D.1;omega,G.2,hR8,(hK6.trans hK7).trans hK8,.app,.app,by simp[hlen],by omega,?_,g6,by omega,?_⟩
    ·simp[ndC,hwr]
    ·intro hg;have hF2:F.2.bad=false:=by
      cases hh:F.2.bad with
      |false=>rfl
      |true=>rw[g3 hh] at hg;cases hg
     have:=f2 hF2 (by omega)
     simp;omega
    ·rw[he];simp
  rw[if_neg c2] at hq
  by_cases c3:A.1=3
  ·rw[if_pos c3] at hq;simp only at hq;simp[c3];refine Ya hR2 hne hb (k:=2) (by omega) (by omega) (fun S3 hR3 hK3=>?_)
   simp;have:=hj 3 false [] .nil [] .nil 0 [] .nil (RS.text 2 A.2).1 S3 (.inl ⟨rfl,rfl⟩) (.inl ⟨rfl,rfl⟩) (.inl ⟨rfl,rfl⟩) (hq S3 hR3 ((hK1.trans hK2).trans hK3));simpa[ndC] using this
  ·rw[if_neg c3] at hq;simp only at hq;simp[e1,e2,e3,c1,c2,c3];have:=hj A.1 false [] .nil [] .nil 0 [] .nil [] S2 (.inl ⟨rfl,rfl⟩) (.inl ⟨rfl,rfl⟩) (.inl ⟨rfl,rfl⟩) (hq S2 hR2 (hK1.trans hK2));simpa[ndC] using this
open Go.Proofs
theorem ZN{w0:World}(n:Node):∀{S:St} {Q:AV→St→Prop} {id:Nat} {T:List Ino},n.ok→kF S id T→T.length+n.count≤1000000→
  (∀S' T',kF S' id (T++T')→T'.map Ino.p=n.tab T.length→Kp id S S'→Q (.int .i64 T.length) S')→AC w0 EI [.ptr id 0,.agg n.c] S Q:=by
 induction n using Node.ind with
 |h n ih=>
  intro S Q id T hok hT hcnt hq;have hcc:=n.c_eq';rw[hcc];apply Mf;unfold IK;rw[Node.ok_iff] at hok;obtain⟨h1,h2,h3,h4,h5,h6,h7⟩:=hok;rw[Node.count_eq] at hcnt;simp;have key:∀K:AV→St→Prop,(∀S1 t,id < t→S1[id]? =some (.cells [.rs 8 t 0 (T.length+1)] B4)→S1[t]? =some (.cells (BN Ino.c (T++[WS])) 0)→Kp id S S1→K (.int .i64 T.length) S1)→
    AA (AP BQ S (.ptr id 0)) fun t12=>AA (Ap (AV.strip t12)) fun t13=>AA (AP BQ S (.ptr id 0)) fun t18=>
     AA (appendR Ar (stripMem S (.ptr id 0)) (AV.strip0 t18) (.vs 8 [[.int .i64 0,.bool false,.vs 1 [] .nil,.vs 7 [] .nil,.int .i64 0,.vs 2 [] .nil,.str [],.vs 1 [] .nil]] .full)) fun p21=>
     AA (A8 BQ p21.2 (.ptr id 0) p21.1) fun S1=>K t13 S1:=by
   intro K hK;rcases hT with ⟨rfl,hS⟩|⟨t,ht,hS,hS2⟩
   ·have e1:stripMem S (.ptr id 0)=S:=by
     rw[DF hS];obtain⟨hlt,he⟩:=List.getElem?_eq_some_iff.1 hS;rw[show List.modify [AV.vs 8 [] .nil] 0 AV.strip1=[AV.vs 8 [] .nil] from rfl,←he,List.set_getElem_self]
    have hlt:=(List.getElem?_eq_some_iff.1 hS).1;have hS3:(S++[Obj.cells [.int .i64 0,.bool false,.vs 1 [] .nil,.vs 7 [] .nil,.int .i64 0,.vs 2 [] .nil,.str [],.vs 1 [] .nil] 0])[id]? =some (.cells [.vs 8 [] .nil] B4):=by
     rw[List.getElem?_append_left hlt];exact hS
    simp[Aa hS,e1,appendR,A1,lim,Am hS3];refine hK _ S.length hlt ?_ ?_ ?_
    ·exact Ai hS3
    ·rw[Au (by omega)];simp[BN,Ino.c,WS]
    ·intro j hj;rw[Au (by omega),List.getElem?_append_left (by omega)]
   ·have e1:stripMem S (.ptr id 0)=S:=by
     rw[DF hS];obtain⟨hlt,he⟩:=List.getElem?_eq_some_iff.1 hS;rw[show List.modify [AV.rs 8 t 0 T.length] 0 AV.strip1=[AV.rs 8 t 0 T.length] from rfl,←he,List.set_getElem_self]
    have hlt:=(List.getElem?_eq_some_iff.1 hS).1;have hl:(BN Ino.c T).length=T.length*8:=GK (fun x=>x.c_len) T
    have hS3:(S.set t .dead++[Obj.cells (BN Ino.c T++[.int .i64 0,.bool false,.vs 1 [] .nil,.vs 7 [] .nil,.int .i64 0,.vs 2 [] .nil,.str [],.vs 1 [] .nil]) 0])[id]? =some (.cells [.rs 8 t 0 T.length] B4):=by
     rw[List.getElem?_append_left (by simpa using hlt),Au (by omega)];exact hS
    have hlim:T.length+1≤lim:=by unfold lim;omega
    have htk:(BN Ino.c T).take (T.length*8)=BN Ino.c T:=by rw[←hl,List.take_length]
    simp[Aa hS,e1,appendR,A1,C5,hS2,hl,hlim,htk,Am hS3];refine hK _ S.length hlt ?_ ?_ ?_
    ·exact Ai hS3
    ·rw[Au (by omega)]
     rw[List.getElem?_append_right (by simp)]
     simp[BN,Ino.c,WS]
    ·intro j hj;rw[Au (by omega),List.getElem?_append_left (by simp;omega),Au (by omega)]
  refine key _ (fun S1 t ht hS1 hS1t hK1=>?_)
  simp;have hnames:okR n.names.r.strip n.names.l:=fun e=>h2.1 (by cases h:n.names.r<;>simp_all [Rt.strip])
  refine A7 (fun j=>∀(S2:St) (T2:List Ino) (r:Rt),kF S2 id (T++WS::T2)→T2.map Ino.p=Node.tabs n.items (T.length+1)→Kp id S S2→okA r (Node.idsOf n.items (T.length+1))→
   j (some [.int .i64 n.kind,.bool n.opq,.vs 1 (n.names.l.map BO) n.names.r.strip,.vs 7 (n.items.map Node.c) n.ir.strip,.int .i64 n.size,.vs 2 (n.exts.map Ext.c) n.er.strip,.str n.target,.vs 1 ((Node.idsOf n.items (T.length+1)).map kG) r]) S2) ?_ (fun j hj=>?_)
  ·intro S2 T2 r hT2 hm hK2 hr;have hl1:=h2.2.1;have hl2:=h6.2.1;simp;refine R6 (l:=n.names.l) (by simpa[okR] using hnames) (by omega) (fun q1 k1=>?_)
   refine aI (l:=n.exts) (by simpa[okR] using h6.1) (by omega) (fun q2 k2=>?_)
   simp;rcases hT2 with ⟨e,_⟩|⟨t2,ht2,hS2,hS2t⟩
   ·simp at e
   simp[Aa hS2];have hget:(T++WS::T2)[T.length]? =some WS:=by simp
   have hS2t':S2[t2]? =some (.cells (BN Ino.c (T++WS::T2)++[]) 0):=by rw[List.append_nil];exact hS2t
   have hst:=KX (T:=Ar) (enc:=Ino.c) (n:=8) (v:=.agg (Ino.c ⟨n.hd T.length,q1,q2,r⟩)) ⟨n.hd T.length,q1,q2,r⟩ hS2t' rfl (fun x=>x.c_len) hget rfl (by simp[Ino.c])
   have hc8:Ino.c ⟨n.hd T.length,q1,q2,r⟩=[.int .i64 n.kind,.bool n.opq,.vs 1 (n.names.l.map BO) q1.strip,.vs 7 [] .nil,.int .i64 n.size,.vs 2 (n.exts.map Ext.c) q2.strip,.str n.target,.vs 1 ((Node.idsOf n.items (T.length+1)).map kG) r.strip]:=rfl;rw[hc8] at hst;rw[hst];have hset:(T++WS::T2).set T.length ⟨n.hd T.length,q1,q2,r⟩=T++(⟨n.hd T.length,q1,q2,r⟩:Ino)::T2:=by simp
   rw[hset,List.append_nil];refine hq _ (⟨n.hd T.length,q1,q2,r⟩::T2) (.inr ⟨t2,ht2,?_,?_⟩) ?_ ?_
   ·rw[Au (by omega),hS2]
    simp
   ·exact Ai hS2t
   ·rw[List.map_cons,hm,Node.tab_eq]
   ·exact hK2.trans (Kp.set (by omega))
  ·refine Ak n.items (fun i (r:Rt)=>([.int .i64 i],[some [.int .i64 n.kind,.bool n.opq,.vs 1 (n.names.l.map BO) n.names.r.strip,.vs 7 (n.items.map Node.c) n.ir.strip,.int .i64 n.size,.vs 2 (n.exts.map Ext.c) n.er.strip,.str n.target,.vs 1 ((Node.idsOf (n.items.take i) (T.length+1)).map kG) r]]))
    (fun i r S'=>∃T2:List Ino,kF S' id (T++WS::T2)∧T2.map Ino.p=Node.tabs (n.items.take i) (T.length+1)∧Kp id S S'∧okA r (Node.idsOf (n.items.take i) (T.length+1))) .nil (by simp[Node.idsOf]) ⟨[],.inr ⟨t,ht,by simpa using hS1,hS1t⟩,by simp[Node.tabs_nil],hK1,.inl ⟨rfl,by simp[Node.idsOf]⟩⟩ ?_ ?_
   ·rintro i r S2 v bx x c hxi hd hc hm ⟨T2,hT2,hTm,hK2,hr⟩ hv;simp at hv;obtain⟨hv1,hv2⟩:=hv;simp[hv1,hv2,hc,hxi];have hlen:(T++WS::T2).length=T.length+1+Node.counts (n.items.take i):=by
     have:=congrArg List.length hTm;rw[List.length_map,Node.tabs_len] at this;simp;omega
    have hct:=Node.counts_take hxi;have hcl:=Node.counts_take_le n.items (i+1);refine ih x hm (h4 x hm) hT2 (by rw[hlen];omega) (fun S3 T3 hT3 hTm3 hK3=>?_)
    rw[hlen] at hTm3 ⊢;obtain⟨n1,n2⟩:=hr.ne;have hlim:(Node.idsOf (n.items.take i) (T.length+1)).length+1≤lim:=by rw[Node.idsOf_len,List.length_take];unfold lim;omega
    simp[AU,A1,n1,hlim]
    try simp (disch:=omega) only[wrap64]
    refine .next c (.own (Ba AN r)) ?_ ⟨T2++T3,by simpa using hT3,?_,hK2.trans hK3,?_⟩
    ·rw[Node.idsOf_take hxi];simp
    ·rw[List.map_append,hTm,hTm3,Node.tabs_take hxi]
    ·rw[Node.idsOf_take hxi];exact .app
   ·rintro r S2 v bx ⟨T2,hT2,hTm,hK2,hr⟩ hv N;simp at hv;obtain⟨hv1,hv2⟩:=hv;rw[List.take_length] at hTm hr;have:=hj S2 T2 r hT2 hTm hK2 hr;simp[hv1,hv2];simpa using this
open Go.Proofs
theorem Qs{w0:World}(hm:KD w0){n:Node}{S:St}(hok:n.ok){Q:AV→St→Prop}
  (h1:Bi n=true→∀S' id,Sx S S'→S.length≤id→Br S' id (n.tab 0)→Q (.tup [.ptr id 0,.int .i64 0]) S') (h2:Bi n=false→∀S',Sx S S'→Q (.tup [.nil,.int .i64 1]) S'):AC w0 IW [.agg n.c] S Q:=by
 have hcc:=n.c_eq';rw[hcc];apply V6;unfold Pc;simp[←hcc];refine Q1 hm hok (fun S1 hS1=>?_)
 cases hr:Bi n with
 |false=>
  simp;exact h2 hr _ hS1
 |true=>
  obtain⟨r1,r2,r3,r4⟩:=FQ hr;simp;refine ZN n (T:=[]) hok (.inl ⟨rfl,by simp⟩) (by simp;omega) (fun S2 T2 hT2 hm2 hK=>?_)
  rcases hT2 with ⟨e,_⟩|⟨t,ht,hS2,hS2t⟩
  ·have:=congrArg List.length hm2;rw[List.length_map,Node.tab_len,Node.count_eq] at this;simp at e;subst e;simp at this;omega
  refine h1 hr S2 S1.length (fun j hj=>?_) hS1.le ⟨t,T2,ht,by simpa using hS2,by simpa using hS2t,by simpa using hm2⟩
  have:=hS1.le;rw[hK j (by omega),List.getElem?_append_left (by omega)]
  exact hS1 j hj
theorem Fa{w0:World}{S:St}{id:Nat}{P:List Bm}{i:Int}(hB:Br S id P){Q:AV→St→Prop}(hq:∀nr er ir,Q (.agg (Ino.c ⟨BM P i,nr,er,ir⟩)) S):AC w0 B3 [.ptr id 0,.int .i64 i] S Q:=by
 obtain⟨t,T,h1,hS,hSt,hm⟩:=hB;apply Nz;unfold JE;have hl:T.length=P.length:=by rw[←hm,List.length_map]
 by_cases c:i < 0
 ·have:=hq .nil .nil .nil;simp[AH,c];simpa[BM,c,Ino.c,Bm.none] using this
 by_cases c2:(T.length:Int)≤i
 ·have hn:P[i.toNat]? =none:=by simp;omega
  have:=hq .nil .nil .nil;simp[AH,c,Aa hS,c2];simpa[BM,c,hn,Ino.c,Bm.none] using this
 ·obtain⟨k,rfl⟩:∃k:Nat,i=k:=⟨i.toNat,by omega⟩
  have hk:k < T.length:=by omega
  obtain⟨x,hx⟩:∃x,T[k]? =some x:=⟨T[k],by simp[hk]⟩
  have hpx:P[k]? =some x.p:=by rw[←hm];simp[hx]
  have hSt':S[t]? =some (.cells (BN Ino.c T++[]) 0):=by rw[List.append_nil];exact hSt
  have hld:=Nf (T:=Ar) (enc:=Ino.c) (n:=8) hSt' rfl rfl (fun x=>x.c_len) hx
  have:=hq x.nr x.er x.ir;have c':¬((k:Int) < 0):=by omega
  have e:BM P (k:Int)=x.p:=by simp[BM,hpx];omega
  rw[e] at this;simp[AH,c',Aa hS,c2,hk,hld];simpa[Ino.c] using this
theorem N9{w0:World}{S:St}{id:Nat}{P:List Bm}{i:Int}(hB:Br S id P){Q:AV→St→Prop}(hq:Q (.int .i64 (BM P i).kind) S):AC w0 D6 [.ptr id 0,.int .i64 i] S Q:=by
 apply MH;unfold Hv;refine Fa hB (fun _ _ _=>?_)
 simp[Ino.c];exact hq
theorem L5{w0:World}{S:St}{id:Nat}{P:List Bm}{i:Int}(hB:Br S id P){Q:AV→St→Prop}(hq:Q (.bool (BM P i).opq) S):AC w0 Di [.ptr id 0,.int .i64 i] S Q:=by
 apply Ke;unfold Ge;refine Fa hB (fun _ _ _=>?_)
 simp[Ino.c];exact hq
def T5(x:Bm)(s:Str):Option Nat:=(x.names.findIdx? (fun y=>decide (y=s))).bind (x.ids[·]?)
def Bm.good(x:Bm):Prop:=x.names.Pairwise (fun a b=>slt a b=true)∧x.names.length=x.ids.length∧x.names.length≤1000000
theorem OV{w0:World}{S:St}{id:Nat}{P:List Bm}{i:Int}{s:Str}(hB:Br S id P)(hg:(BM P i).good){Q:AV→St→Prop}
  (hq:Q (match T5 (BM P i) s with|some k=>.tup [.int .i64 k,.bool true]|none=>.tup [.int .i64 0,.bool false]) S):AC w0 EC [.ptr id 0,.int .i64 i,.str s] S Q:=by
 apply MP;unfold H1;refine Fa hB (fun _ _ _=>?_)
 obtain⟨g1,g2,g3⟩:=hg;simp[Ino.c];refine UX (by omega) g1 (fun k hk k1 k2=>?_)
 have hf:=lB g1 k1 k2;unfold T5 at hq;rw[hf] at hq
 by_cases c:(BM P i).names[k]? =some s
 ·rw[if_pos c] at hq;have hkl:=(List.getElem?_eq_some_iff.1 c).1;obtain⟨x,hx⟩:∃x,(BM P i).ids[k]? =some x:=⟨(BM P i).ids[k]'(by omega),by simp[show k < (BM P i).ids.length by omega]⟩
  simp[hx] at hq;simp[c,hx];exact hq
 ·rw[if_neg c] at hq;simp at hq;simp[c];exact hq
open Go.Proofs
theorem Sc{w0:World}{S:St}{s:Stk}{Q:AV→St→Prop}(hq:Q (.int .i64 s.l.length) S):AC w0 FI [.agg s.c] S Q:=by
 unfold Stk.c;apply PV;unfold Jw;simp;exact hq
def Stk.at_(s:Stk)(k:Int):Option Mnt:=if k < 0 then Option.none else s.l[k.toNat]?
theorem GB{w0:World}{S:St}{s:Stk}{k:Int}{Q:AV→St→Prop}(hq:Q (match s.at_ k with|some m=>.ptr m.id 0|none=>.nil) S):AC w0 CX [.agg s.c,.int .i64 k] S Q:=by
 unfold Stk.c;apply Pe;unfold Ko;unfold Stk.at_ at hq
 by_cases c:k < 0
 ·rw[if_pos c] at hq;simp[AH,c];exact hq
 rw[if_neg c] at hq
 by_cases c2:(s.l.length:Int)≤k
 ·have hn:s.l[k.toNat]? =none:=by simp;omega
  rw[hn] at hq;simp[AH,c,c2];exact hq
 ·obtain⟨i,rfl⟩:∃i:Nat,k=i:=⟨k.toNat,by omega⟩
  have hk:i < s.l.length:=by omega
  obtain⟨x,hx⟩:∃x,s.l[i]? =some x:=⟨s.l[i],by simp[hk]⟩
  simp only[Int.toNat_natCast,hx] at hq;have c':¬((i:Int) < 0):=by omega
  simp[AH,c',c2,hx,Mnt.c];exact hq
theorem df{w0:World}{S:St}{s:Stk}{k:Int}{Q:AV→St→Prop}(hq:Q (match s.at_ k with|some m=>.int .i64 m.num|none=>.int .i64 (-1)) S):AC w0 HW [.agg s.c,.int .i64 k] S Q:=by
 unfold Stk.c;apply QA;unfold Kt;unfold Stk.at_ at hq
 by_cases c:k < 0
 ·rw[if_pos c] at hq;simp[AH,c];exact hq
 rw[if_neg c] at hq
 by_cases c2:(s.l.length:Int)≤k
 ·have hn:s.l[k.toNat]? =none:=by simp;omega
  rw[hn] at hq;simp[AH,c,c2];exact hq
 ·obtain⟨i,rfl⟩:∃i:Nat,k=i:=⟨k.toNat,by omega⟩
  have hk:i < s.l.length:=by omega
  obtain⟨x,hx⟩:∃x,s.l[i]? =some x:=⟨s.l[i],by simp[hk]⟩
  simp only[Int.toNat_natCast,hx] at hq;have c':¬((i:Int) < 0):=by omega
  simp[AH,c',c2,hx,Mnt.c];exact hq
theorem SD{w0:World}{S:St}{s:Stk}{id:Nat}{P:List Bm}(hs:s.ok){Q:AV→St→Prop}(h1:64≤s.l.length→Q (.tup [.agg s.c,.int .i64 0,.int .i64 6]) S)
  (h2:s.l.length < 64→∀r,r.strip≠ .nil→Q (.tup [.agg (Stk.c ⟨⟨s.next,id,P⟩::s.l,r,s.next+1⟩),.int .i64 s.next,.int .i64 0]) S):AC w0 FF [.agg s.c,.ptr id 0] S Q:=by
 unfold Stk.c at*;apply O3;unfold Jf;have hn:=hs.next
 by_cases c:64≤s.l.length
 ·have:=h1 c;simp[show (64:Int)≤s.l.length by omega]
  exact this
 ·simp[show ¬(64:Int)≤s.l.length by omega]
  try simp (disch:=omega) only[wrap64]
  by_cases e:s.l=[]
  ·have:=h2 (by omega) .full (by simp)
   simp[AU,A1,e,Mnt.c] at this ⊢;exact this
  ·have:=h2 (by omega) .none (by simp)
   simp[Mnt.c] at this;simp[AU,A1,e,show s.l.length+1≤lim by unfold lim;omega,show 1+s.l.length≤lim by unfold lim;omega]
   exact this
structure XI(S0 S:St)(l:List Node)(s:Stk):Prop where
 ok:s.ok
 on:s.on S
 len:s.l.length=l.length
 next:s.next=l.length
 tabs:s.l.map Mnt.tab=l.reverse.map fun n=>n.tab 0
 nums:s.l.map Mnt.num=(List.range l.length).reverse
 ids:∀m∈s.l,S0.length≤m.id
@[simp] theorem Stk.c_len(s:Stk):s.c.length=2:=rfl
@[simp] theorem Stk.c_map(s:Stk):s.c.map AV.strip1=s.c:=by simp[Stk.c]
@[simp] theorem Stk.c_free1(s:Stk):(∀x∈s.c,x.free1=true)↔True:=by simp[Stk.c]
@[simp] theorem Stk.c_take(s:Stk):s.c.take 2=s.c:=rfl
@[simp] theorem Stk.c_drop(s:Stk):s.c.drop 2=[]:=rfl
theorem dO{w0:World}(hm:KD w0){l:List Node}{r:Rt}{S:St}(hok:∀n∈l,n.ok)(hl:l.length≤1000000){Q:AV→St→Prop}
  (hq:∀S',Sx S S'→(OA l 0=0→∀s,XI S S' l s→Q (.tup [.agg s.c,.int .i64 0]) S')∧(OA l 0≠0→Q (.tup [.agg Stk.none.c,.int .i64 (OA l 0:Nat)]) S')):AC w0 Ow [.vs 7 (l.map Node.c) r] S Q:=by
 apply au;unfold VF;simp[AH];refine Ak l (fun i (s:Stk)=>([.int .i64 i],[some [.vs 2 [] .nil,.int .i64 0],some s.c])) (fun i s S'=>Sx S S'∧XI S S' (l.take i) s∧OA l 0=OA (l.drop i) i) Stk.none (by simp[Stk.none_c]) ⟨Sx.refl _,⟨⟨fun _=>rfl,by simp[Stk.none],by simp[Stk.none],by simp[Stk.none]⟩,by simp[Stk.on,Stk.none],by simp[Stk.none],by simp[Stk.none],by simp[Stk.none],by simp[Stk.none],by simp[Stk.none]⟩,by simp⟩ ?_ ?_
 ·rintro i s S' v b n c hxi hd hc hmem ⟨hSx,hs,he⟩ hv;simp at hv;obtain⟨hv1,hv2,hv3⟩:=hv;rw[hd,OA] at he;have hlen:(l.take i).length=i:=by rw[List.length_take];omega
  simp[hv1,hv2,hv3,hc,hxi];refine Qs hm (hok n hmem) (fun hr S2 id hS2 hid hB=>?_) (fun hr S2 hS2=>?_)
  ·rw[if_neg (by rw[hr];simp)] at he
   simp;have hon:=hs.on.mono hS2;refine SD (P:=n.tab 0) hs.ok (fun h64=>?_) (fun h64 r2 hr2=>?_)
   ·rw[hs.len,hlen] at h64;rw[if_pos h64] at he;have:=(hq S2 (hSx.trans hS2)).2 (by omega)
    rw[he] at this;simp;simpa[Stk.none_c] using this
   ·rw[hs.len,hlen] at h64;rw[if_neg (by omega)] at he
    have hok2:(Stk.mk (⟨s.next,id,n.tab 0⟩::s.l) r2 (s.next+1)).ok:=⟨fun e=>absurd e hr2,by simp[hs.len,hlen];omega,by simp[hs.next,hlen];omega,fun m hm'=>by
     rcases List.mem_cons.1 hm' with rfl|hm'
     ·simp[hs.next,hlen];omega
     ·exact hs.ok.num m hm'⟩
    have htk:l.take (i+1)=l.take i++[n]:=by rw[List.take_succ,hxi];rfl
    generalize hs2:Stk.mk (⟨s.next,id,n.tab 0⟩::s.l) r2 (s.next+1)=s2 at hok2 ⊢;simp
    try simp (disch:=omega) only[wrap64]
    refine .next c s2 rfl ⟨hSx.trans hS2,?_,he⟩;subst hs2;refine⟨hok2,fun m hm'=>?_,?_,?_,?_,?_,?_⟩
    ·rcases List.mem_cons.1 hm' with rfl|hm'
     ·exact hB
     ·exact hon m hm'
    ·rw[htk];simp[hs.len,hlen]
    ·rw[htk];simp[hs.next,hlen]
    ·rw[htk];simp[hs.tabs]
    ·rw[htk];simp[hs.nums,hlen,hs.next,List.range_succ]
    ·intro m hm';rcases List.mem_cons.1 hm' with rfl|hm'
     ·exact Nat.le_trans hSx.le hid
     ·exact hs.ids m hm'
  ·rw[if_pos hr] at he;have:=(hq S2 (hSx.trans hS2)).2 (by omega)
   rw[he] at this;simp;simpa[Stk.none_c] using this
 ·rintro s S' v b ⟨hSx,hs,he⟩ hv N;simp at hv;obtain⟨hv1,hv2,hv3⟩:=hv;rw[List.drop_length,OA] at he;rw[List.take_length] at hs;simp[hv1,hv2,hv3];exact(hq S' hSx).1 he s hs
open Go.Proofs
abbrev Spot:=Nat×Nat
def spC(x:Spot):List AV:=[.int .i64 x.1,.int .i64 x.2]
@[simp] theorem pP(x:Spot):(spC x).length=2:=rfl
structure Fnd where
 kind:Int
 sp:Spot
 dirs:List Spot
 deriving DecidableEq
def Fnd.c(f:Fnd)(r:Rt):List AV:=[.int .i64 f.kind,.int .i64 f.sp.1,.int .i64 f.sp.2,.vs 2 (f.dirs.map spC) r]
def Fnd.none:Fnd:=⟨0,(0,0),[]⟩
def Gz:List (List Bm)→Nat→List Spot
 |[],_=>[]
 |P::L,k=>(k,0)::if (BM P 0).opq=true then [] else Gz L (k+1)
def DB(L:List (List Bm))(name:Str):List Spot→Fnd→Fnd
 |[],f=>f
 |x::p,f=>match L[x.1]? with
  |none=>DB L name p f
  |some P=>match T5 (BM P x.2) name with
   |none=>DB L name p f
   |some j=>
    if (BM P j).kind≠2 then (if f.kind=0∧(BM P j).kind≠4 then ⟨(BM P j).kind,(x.1,j),[]⟩ else f)
    else
     let f1:Fnd:=if f.kind=0 then ⟨(BM P j).kind,(x.1,j),[]⟩ else f
     let f2:Fnd:=⟨f1.kind,f1.sp,f1.dirs++[(x.1,j)]⟩
     if (BM P j).opq=true then f2 else DB L name p f2
def Stk.tabs(s:Stk):List (List Bm):=s.l.map Mnt.tab
def jW(L:List (List Bm)):Prop:=∀P∈L,∀i,(BM P i).good
theorem Bm.none_good:Bm.none.good:=⟨by simp[Bm.none],rfl,by simp[Bm.none]⟩
theorem gr(n:Node):n.ok→n.allB=true→n.count≤1000000→∀b,∀p∈n.tab b,p.good:=by
 induction n using Node.ind with
 |h n ih=>
  intro hok hall hc b p hp;rw[Node.all_eq] at hall;simp only[Bool.and_eq_true] at hall;obtain⟨ha,ho⟩:=hall;obtain⟨hz,hk⟩:=Eu ho;rw[Node.ok_iff] at hok;obtain⟨h1,h2,h3,h4,h5,h6,h7⟩:=hok;rw[Node.count_eq] at hc;rw[Node.tab_eq] at hp;rcases List.mem_cons.1 hp with rfl|hp
  ·have hl:=FK (l:=n.items)
   by_cases k:n.kind=2
   ·have hn:E1 n=true:=by simpa[Ct,k] using hk
    obtain⟨c1,c2⟩:=I6 hn;obtain⟨c3,_,_⟩:=Mn _ _ c1;exact⟨c3,by simp[Node.hd,Node.idsOf_len,c2],by simp only[Node.hd];rw[c2];omega⟩
   ·have hi:=Jh hz k;have hnm:n.names.l=[]:=by simp[C1,k] at hz;exact hz.1.1.1.2
    exact⟨by simp[Node.hd,hnm],by simp[Node.hd,hnm,hi,Node.idsOf],by simp[Node.hd,hnm]⟩
  ·have:∀(l:List Node) (b:Nat),(∀x∈l,x∈n.items)→p∈Node.tabs l b→p.good:=by
    intro l
    induction l with
    |nil=>intro b _ h;rw[Node.tabs_nil] at h;cases h
    |cons x l ihl=>
     intro b hm h;rw[Node.tabs_cons] at h;rcases List.mem_append.1 h with h|h
     ·have hx:=hm x (by simp)
      exact ih x hx (h4 x hx) (Ur ha x hx) (by have:=(FK (l:=n.items)).2 x hx;omega) b p h
     ·exact ihl _ (fun y hy=>hm y (by simp[hy])) h
   exact this n.items _ (fun _ h=>h) hp
theorem fR{P:List Bm}{i:Int}:BM P i=Bm.none∨BM P i∈P:=by
 unfold BM;split
 ·exact .inl rfl
 ·cases h:P[i.toNat]? with
  |none=>exact .inl rfl
  |some x=>exact .inr (by simpa using List.mem_of_getElem? h)
theorem cJ{n:Node}(hok:n.ok)(hr:Bi n=true)(i:Int):(BM (n.tab 0) i).good:=by
 obtain⟨r1,r2,r3,r4⟩:=FQ hr;rcases fR (P:=n.tab 0) (i:=i) with h|h
 ·rw[h];exact Bm.none_good
 ·exact gr n hok r2 (by omega) 0 _ h
theorem Stk.at_some{s:Stk}{k:Nat}{m:Mnt}(h:s.l[k]? =some m):s.at_ (k:Int)=some m∧s.tabs[k]? =some m.tab:=by
 have:¬((k:Int) < 0):=by omega
 simp[Stk.at_,Stk.tabs,h]
theorem Stk.at_none{s:Stk}{k:Nat}(h:s.l[k]? =Option.none):s.at_ (k:Int)=Option.none∧s.tabs[k]? =Option.none:=by
 have:¬((k:Int) < 0):=by omega
 simp[Stk.at_,Stk.tabs,h]
theorem aS{w0:World}{S:St}{s:Stk}(hs:s.ok)(hon:s.on S){Q:AV→St→Prop}(hq:∀r,okR r (Gz s.tabs 0)→Q (.vs 2 ((Gz s.tabs 0).map spC) r) S):AC w0 NY [.agg s.c] S Q:=by
 have hc:s.c=[.vs 2 (s.l.map Mnt.c) s.r.strip,.int .i64 s.next]:=rfl;rw[hc];apply Xx;unfold R2;simp[AH,←hc];refine Sc ?_;have hlen:=hs.len;refine Ak s.l (fun i (p:List Spot×Rt)=>([.vs 2 (p.1.map spC) p.2,.int .i64 i],[some s.c])) (fun i p S'=>S'=S∧okA p.2 p.1∧p.1.length=i∧Gz s.tabs 0=p.1++Gz (s.tabs.drop i) i) ([],.nil) (by simp[hc]) ⟨rfl,.inl ⟨rfl,rfl⟩,rfl,by simp⟩ ?_ ?_
 ·rintro i ⟨p,r⟩ S' v b m c hxi hd hcc hm ⟨rfl,hr,hpl,he⟩ hv;simp at hv hr hpl he;obtain⟨⟨hv1,hv2⟩,hv3⟩:=hv;obtain⟨n1,n2⟩:=hr.ne;have hlim:p.length+1≤lim:=by unfold lim;omega
  have hdt:s.tabs.drop i=m.tab::s.tabs.drop (i+1):=by
   unfold Stk.tabs;rw[←List.map_drop,hd,List.map_cons,←List.map_drop]
  rw[hdt,Gz] at he;obtain⟨a1,a2⟩:=Stk.at_some hxi;simp[hv1,hv2,hv3,hcc,AU,A1,n1,hlim];refine GB ?_;rw[a1];simp;refine L5 (hon m hm) ?_;cases ho:(BM m.tab 0).opq with
  |true=>
   rw[if_pos ho] at he;have:=hq .none aH;rw[he] at this;simp;simpa[spC] using this
  |false=>
   rw[if_neg (by rw[ho];simp)] at he
   simp
   try simp (disch:=omega) only[wrap64]
   refine .next c (p++[(i,0)],.own (Ba BD r)) (by simp[spC]) ⟨rfl,.app,by simp[hpl],?_⟩
   rw[he];simp
 ·rintro⟨p,r⟩ S' v b ⟨rfl,hr,hpl,he⟩ hv N;simp at hv hr hpl he;obtain⟨⟨hv1,hv2⟩,hv3⟩:=hv;have hdl:s.tabs.drop s.l.length=[]:=by unfold Stk.tabs;simp
  rw[hdl,Gz,List.append_nil] at he;have:=hq r.strip (fun e=>by
   rw[he];rcases hr with ⟨_,h⟩|⟨⟨t,rfl⟩,_⟩
   ·exact h
   ·simp[Rt.strip] at e)
  rw[he] at this;simp[hv1,hv2];exact this
theorem Z6{w0:World}{S:St}{s:Stk}{p:List Spot}{pr:Rt}{name:Str}(hs:s.ok)(hon:s.on S)(hg:jW s.tabs)(hpl:p.length≤1000000){Q:AV→St→Prop}
  (hq:∀r,okR r (DB s.tabs name p Fnd.none).dirs→Q (.tup [.agg ((DB s.tabs name p Fnd.none).c r.strip),.bool (decide (¬(DB s.tabs name p Fnd.none).kind=0))]) S):
  AC w0 NB [.agg s.c,.vs 2 (p.map spC) pr,.str name] S Q:=by
 have hc:s.c=[.vs 2 (s.l.map Mnt.c) s.r.strip,.int .i64 s.next]:=rfl;rw[hc];apply Ys;unfold Sp;simp[←hc];refine A7 (fun j=>∀(f:Fnd) (r:Rt),okA r f.dirs→DB s.tabs name p Fnd.none=f→j (some (f.c r)) S) (fun f r hr he=>?_) (fun j hj=>?_)
 ·rw[he] at hq;have:=hq r.strip (fun e=>by
   rcases hr with ⟨_,h⟩|⟨⟨t,rfl⟩,_⟩
   ·exact h
   ·simp[Rt.strip] at e)
  simp[Fnd.c];simpa[Fnd.c] using this
 refine Ak p (fun i (q:Fnd×Rt)=>([.int .i64 i],[some s.c,some (q.1.c q.2)])) (fun i q S'=>S'=S∧okA q.2 q.1.dirs∧q.1.dirs.length≤i∧DB s.tabs name p Fnd.none=DB s.tabs name (p.drop i) q.1) (Fnd.none,.nil) (by simp[Fnd.c,Fnd.none]) ⟨rfl,.inl ⟨rfl,rfl⟩,by simp[Fnd.none],by simp⟩ ?_ ?_
 ·rintro i ⟨f,r⟩ S' v b x c hxi hd hcc hm ⟨rfl,hr,hfl,he⟩ hv;simp at hv hr hfl he;obtain⟨hv1,hv2,hv3⟩:=hv;rw[hd] at he;obtain⟨n1,n2⟩:=hr.ne;have hlim:f.dirs.length+1≤lim:=by unfold lim;omega
  have hc2:=hc;simp only[Fnd.c] at hv3;simp[hv1,hv2,hv3,hcc,hxi,spC];refine GB ?_;cases hL:s.l[x.1]? with
  |none=>
   obtain⟨a1,a2⟩:=Stk.at_none hL;rw[DB,a2] at he;simp only at he;rw[a1];simp
   try simp (disch:=omega) only[wrap64]
   exact .next c (f,r) (by simp[Fnd.c]) ⟨rfl,hr,by simp;omega,he⟩
  |some m=>
   obtain⟨a1,a2⟩:=Stk.at_some hL;have hmm:=List.mem_of_getElem? hL;have hB:=hon m hmm;have hgood:=hg m.tab (by unfold Stk.tabs;exact List.mem_map.2 ⟨m,hmm,rfl⟩)
   rw[DB,a2] at he;simp only at he;rw[a1];simp;refine OV hB (hgood _) ?_;cases hk:T5 (BM m.tab x.2) name with
   |none=>
    rw[hk] at he;simp only at he;simp
    try simp (disch:=omega) only[wrap64]
    exact .next c (f,r) (by simp[Fnd.c]) ⟨rfl,hr,by simp;omega,he⟩
   |some k=>
    rw[hk] at he;simp only at he;simp;refine N9 hB ?_
    by_cases k2:(BM m.tab k).kind=2
    case neg=>
     rw[if_pos k2] at he;simp[k2]
     by_cases f0:f.kind=0
     ·by_cases k4:(BM m.tab k).kind=4
      ·rw[if_neg (by simp[k4])] at he
       simp[f0,k4];have:=hj f r hr he;simpa[Fnd.c,f0] using this
      ·rw[if_pos ⟨f0,k4⟩] at he;simp[f0,k4];have:=hj ⟨(BM m.tab k).kind,(x.1,k),[]⟩ .nil (.inl ⟨rfl,rfl⟩) he;simpa[Fnd.c] using this
     ·rw[if_neg (by simp[f0])] at he
      simp[f0];have:=hj f r hr he;simpa[Fnd.c] using this
    rw[if_neg (by simp[k2])] at he
    simp[k2];obtain⟨f1,hf1⟩:∃f1:Fnd,f1=if f.kind=0 then ⟨(BM m.tab k).kind,(x.1,k),[]⟩ else f:=⟨_,rfl⟩
    obtain⟨r1,hr1⟩:∃r1:Rt,r1=if f.kind=0 then .nil else r:=⟨_,rfl⟩
    have hok1:okA r1 f1.dirs:=by
     rw[hf1,hr1];split
     ·exact .inl ⟨rfl,rfl⟩
     ·exact hr
    have hl1:f1.dirs.length≤i:=by
     rw[hf1];split
     ·simp
     ·exact hfl
    have hlim1:f1.dirs.length+1≤lim:=by unfold lim;omega
    obtain⟨m1,m2⟩:=hok1.ne;rw[←hf1] at he;refine A7 (fun jj=>jj (some (f1.c r1))) ?_ (fun jj hjj=>?_)
    ·simp[Fnd.c,AU,A1,m1,hlim1];refine L5 hB ?_;cases ho:(BM m.tab k).opq with
     |true=>
      rw[if_pos ho] at he;have:=hj _ (.own (Ba BD r1)) .app he;simp;simpa[Fnd.c,spC] using this
     |false=>
      rw[if_neg (by rw[ho];simp)] at he
      simp
      try simp (disch:=omega) only[wrap64]
      exact .next c (⟨f1.kind,f1.sp,f1.dirs++[(x.1,k)]⟩,.own (Ba BD r1)) (by simp[Fnd.c,spC]) ⟨rfl,.app,by simp;omega,he⟩
    ·by_cases f0:f.kind=0
     ·rw[if_pos f0] at hf1 hr1;subst hf1 hr1;simp[f0];simpa[Fnd.c,k2] using hjj
     ·rw[if_neg f0] at hf1 hr1;subst hf1 hr1;simp[f0];simpa[Fnd.c] using hjj
 ·rintro⟨f,r⟩ S' v b ⟨rfl,hr,hfl,he⟩ hv N;simp at hv hr he;obtain⟨hv1,hv2,hv3⟩:=hv;rw[DB] at he;simp[hv1,hv2,hv3];exact hj f r hr he
end Go.Av
