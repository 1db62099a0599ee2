/- Parts of the proofs of this seat: abstract values over the model, and what the functions of the program do. No condition. -/
import Derived.Test.YtjkffbaienbmkaaGreatDoorY05d
import Derived.Test.YtjkffbaienbmkaaGreatDoorX04L
import Derived.Test.YtjkffbaienbmkaaGreatDoorX05e
import Derived.Test.YtjkffbaienbmkaaGreatDoorY06
import Derived.Test.YtjkffbaienbmkaaGreatDoorXBld
set_option linter.all false
namespace Go.Av
theorem Uq{s:Str}{n:Node}(h:I0 s=some n):s=H1++n.enc∧Bs n=true∧s.length≤4194304:=by
 unfold I0 at h;split at h
 ·cases h
 ·rename_i c;simp only[not_or,Classical.not_not] at c;obtain⟨c1,c2,c3⟩:=c;simp only at h;split at h
  ·rename_i c4;cases h;obtain⟨k1,k2,k3⟩:=c4;obtain⟨_,r2,r3,r4⟩:=FB k3;have:=(RS.node_of 16 _ k1).2 r2;rw[k2,List.append_nil] at this;refine⟨?_,k3,by omega⟩
   rw[←this]
   show s=H1++s.drop 7
   rw[show H1=s.take 7 from c3.symm,List.take_append_drop]
  ·cases h
open Go.Proofs
theorem TyV.u16{t:TypeId}{x:AV}(h:TV t x)(hu:Tryz.prog.underlying t=some (.int .u16)):∃n:Nat,x= .int .u16 n∧n < 65536:=by
 obtain⟨n,e,hw⟩:=(h.one (by simp[isAgg,hu])).int_inv hu
 simp[Lit.wf,IntKind.min,IntKind.max,IntKind.signed,IntKind.bits] at hw;refine⟨n.toNat,?_,by omega⟩
 have:((n.toNat:Nat):Int)=n:=by omega
 rw[this];simpa using e
open Go.Proofs
theorem ka{l:List Node}(hl:l.length≤8):WG l=l.all fun n=>n.small&&Bs n:=by simp[WG,hl]
theorem mW{p:Node→Bool}{l:List Node}{i:Nat}{x:Node}(h:l[i]? =some x):(l.drop i).all p=(p x&&(l.drop (i+1)).all p):=by
 have hi:=(List.getElem?_eq_some_iff.1 h).1;rw[List.drop_eq_getElem_cons hi,List.all_cons,(List.getElem?_eq_some_iff.1 h).2]
set_option maxRecDepth 100000 in
theorem Pg{w0:World}{l:List Node}{r:Rt}{S:St}(hok:∀n∈l,n.ok){Q:AV→St→Prop}(hq:∀S',Sx S S'→Q (.int .i64 (if WG l=true then 1 else 0)) S'):AC w0 JU [.vs 7 (l.map Node.c) r] S Q:=by
 apply bo;unfold VU
 by_cases c:(8:Int) < l.length
 ·have:=hq S (Sx.refl _);have e:WG l=false:=by simp[WG];omega
  rw[e] at this;simp[c];exact this
 simp[c,AH];refine Al l (fun i (_:Unit)=>([.int .i64 i],[])) (fun i _ S'=>Sx S S'∧WG l=(l.drop i).all fun n=>n.small&&Bs n) () rfl ⟨Sx.refl _,by rw[ka (by omega)];simp⟩ ?_ ?_
 ·rintro i _ S' v b n c hxi hd hc hmem ⟨hSx,he⟩ hv;simp at hv;rw[mW hxi] at he;simp[hv,hc,hxi];refine Q5 (hok n hmem) (fun S2 hS2=>?_)
  cases hs:n.small with
  |false=>
   rw[hs] at he;have:=hq S2 (hSx.trans hS2);rw[he] at this;simp;simpa using this
  |true=>
   obtain⟨b1,b2⟩:=Node.small_spec hs;have b3:=n.count_weight;simp;refine MQ (hok n hmem) (by omega) (by omega) ?_
   cases hr:Bs n with
   |false=>
    rw[hs,hr] at he;have:=hq S2 (hSx.trans hS2);rw[he] at this;simp;simpa using this
   |true=>
    rw[hs,hr] at he;simp
    try simp (disch:=omega) only[wrap64]
    exact .next c () rfl ⟨hSx.trans hS2,by simpa using he⟩
 ·rintro _ S' v b ⟨hSx,he⟩ hv N;simp at hv;rw[List.drop_length,List.all_nil] at he;have:=hq S' hSx;rw[he] at this;simp[hv];simpa using this
set_option maxRecDepth 100000 in
theorem MK{w0:World}(hm:KI w0){l:List Node}{r:Rt}{S:St}(hok:∀n∈l,n.ok)(hmay:WG l=true){Q:AV→St→Prop}(hq:∀S' s,Sx S S'→Mj S S' l s→Q (.tup [.agg s.c,.bool true]) S'):AC w0 G6 [.vs 7 (l.map Node.c) r] S Q:=by
 obtain⟨h8,hall⟩:=T6.1 hmay;apply YU;unfold Qu;simp[show ¬(8:Int) < l.length by omega,AH]
 refine Al l (fun i (_:Unit)=>([.int .i64 i],[some [.vs 2 [] .nil,.int .i64 0]])) (fun i _ S'=>Sx S S') () rfl (Sx.refl _) ?_ ?_
 ·rintro i _ S' v b n c hxi hd hc hmem hSx hv;simp at hv;obtain⟨hv1,hv2⟩:=hv;obtain⟨hs,hr⟩:=hall n hmem;simp[hv1,hv2,hc,hxi];refine Q5 (hok n hmem) (fun S2 hS2=>?_)
  obtain⟨b1,b2⟩:=Node.small_spec hs;have b3:=n.count_weight;rw[hs];simp;refine MQ (hok n hmem) (by omega) (by omega) ?_
  rw[hr];simp
  try simp (disch:=omega) only[wrap64]
  exact .next c () rfl (hSx.trans hS2)
 ·rintro _ S' v b hSx hv N;simp at hv;obtain⟨hv1,hv2⟩:=hv;simp[hv1,hv2];have h0:=Pv l 0 (fun n hn=>(hall n hn).2) (by omega)
  refine W0 hm hok (by omega) (fun S2 hS2=>⟨fun _ s hs=>?_,fun h=>absurd h0 h⟩)
  have hs':Mj S S2 l s:=⟨hs.ok,hs.on,hs.len,hs.next,hs.tabs,hs.nums,fun m hm'=>Nat.le_trans hSx.le (hs.ids m hm')⟩
  simp;refine Lj ?_;rw[hs.len];simp;exact hq S2 s (hSx.trans hS2) hs'
theorem TP{S0 S:St}{l:List Node}{s:Stk}(h:Mj S0 S l s):s.tabs=l.reverse.map fun n=>n.tab 0:=h.tabs
theorem Ui:∀(L:List (List CU)) (k:Nat),(IZ L k).length≤L.length
 |[],_=>by simp[IZ]
 |P::L,k=>by
  rw[IZ];split
  ·simp
  ·have:=Ui L (k+1);simp;omega
open Go.Proofs
@[simp] theorem pW:Gw .ptr .eql .nil .nil=some (.bool true):=rfl
@[simp] theorem pZ(i o:Nat):Gw .ptr .eql (.ptr i o) .nil=some (.bool false):=rfl
@[simp] theorem oJ:Gw .ptr .neq .nil .nil=some (.bool false):=rfl
@[simp] theorem oY(i o:Nat):Gw .ptr .neq (.ptr i o) .nil=some (.bool true):=rfl
@[simp] theorem Node.cg0(n:Node)(h:0 < n.c.length):n.c[0]= .int .i64 n.kind:=by have:=n.c_eq;simp only[this];rfl
@[simp] theorem Node.cg1(n:Node)(h:1 < n.c.length):n.c[1]= .bool n.opq:=by have:=n.c_eq;simp only[this];rfl
@[simp] theorem Node.cg2(n:Node)(h:2 < n.c.length):n.c[2]=n.names.v:=by have:=n.c_eq';simp only[this];rfl
@[simp] theorem Node.cg3(n:Node)(h:3 < n.c.length):n.c[3]= .vs 7 (n.items.map Node.c) n.ir.strip:=by have:=n.c_eq';simp only[this];rfl
@[simp] theorem Node.cg4(n:Node)(h:4 < n.c.length):n.c[4]= .int .i64 n.size:=by have:=n.c_eq;simp only[this];rfl
@[simp] theorem Node.cg5(n:Node)(h:5 < n.c.length):n.c[5]= .vs 2 (n.exts.map Ext.c) n.er.strip:=by have:=n.c_eq';simp only[this];rfl
@[simp] theorem Node.cg6(n:Node)(h:6 < n.c.length):n.c[6]= .str n.target:=by have:=n.c_eq;simp only[this];rfl
theorem cD{w0:World}{S:St}{l:List Str}{r:Rt}(hl:l.length≤100000000){Q:AV→St→Prop}(hq:∀r',okR r' l→Q (.vs 1 (l.map Bz) r') S):AC w0 B9 [.vs 1 (l.map Bz) r] S Q:=by
 refine⟨⟨_,IU,by kernel_rfl,by kernel_rfl⟩,fun G w hrel hrole args' hlen ha=>?_⟩
 have hr:okR r l:=by
  intro e;have h0:0 < args'.size:=by rw[hlen];simp
  obtain⟨v,hv⟩:∃v,args'[0]? =some v:=⟨_,Array.getElem?_eq_getElem h0⟩;obtain⟨h1,h2,h3⟩:=ha 0 _ v rfl hv;have hr2:r.strip=r:=by simpa[AV.strip,AV.strip2,AV.strip1] using h3
  rw[hr2] at e;subst e;generalize he:l.map Bz=es at h1;have hes:es=[]:=by
   cases h1 with
   |vsnil=>rfl
   |vs _ _ _ _ _ _ _ hr=>exact(hr rfl).elim
   |vse _ _ _ hr=>rfl
  rw[hes] at he;exact List.map_eq_nil_iff.1 he
 exact(PQ (w0:=w0) hr hl hq).2 G w hrel hrole args' hlen ha
theorem XE{w0:World}{S:St}{id:Nat}{P:List CU}{i:Int}(hB:Br S id P)(hl:(Bq P i).names.length≤100000000){Q:AV→St→Prop}(hq:∀r,okR r (Bq P i).names→Q (.vs 1 ((Bq P i).names.map Bz) r) S):AC w0 F3 [.ptr id 0,.int .i64 i] S Q:=by
 apply Nr;unfold IV;refine GX hB (fun _ _ _=>?_)
 simp[Ino.c];exact cD hl hq
theorem Yn{w0:World}{S:St}{id:Nat}{P:List CU}{i:Int}(hB:Br S id P){Q:AV→St→Prop}(hq:Q (.int .i64 (Bq P i).size) S):AC w0 GW [.ptr id 0,.int .i64 i] S Q:=by
 apply OT;unfold JP;refine GX hB (fun _ _ _=>?_)
 simp[Ino.c];exact hq
theorem OI{w0:World}{S:St}{id:Nat}{P:List CU}{i:Int}(hB:Br S id P){Q:AV→St→Prop}(hq:Q (.str (Bq P i).target) S):AC w0 Ec [.ptr id 0,.int .i64 i] S Q:=by
 apply Mu;unfold H9;refine GX hB (fun _ _ _=>?_)
 simp[Ino.c];exact hq
open Go.Proofs
theorem OnP.len{L:List (List CU)}:∀{p:List Spot} {l:List Node},OnP L p l→p.length=l.length
 |[],[],_=>rfl
 |_::p,_::l,h=>by simp[OnP.len h.2]
 |[],_::_,h=>h.elim
 |_::_,[],h=>h.elim
theorem OnP.get{L:List (List CU)}:∀{p:List Spot} {l:List Node} {k:Nat} {x:Spot},OnP L p l→p[k]? =some x→∃n,l[k]? =some n∧Stands L x n
 |[],[],k,x,_,h=>by simp at h
 |y::p,m::l,0,x,h,hx=>by simp at hx;subst hx;exact⟨m,rfl,h.1⟩
 |y::p,m::l,k+1,x,h,hx=>by simp at hx;obtain⟨n,h1,h2⟩:=OnP.get h.2 hx;exact⟨n,by simpa using h1,h2⟩
 |[],_::_,_,_,h,_=>h.elim
 |_::_,[],_,_,h,_=>h.elim
theorem Stands.at_{s:Stk}{x:Spot}{n:Node}(h:Stands s.tabs x n):∃m,s.at_ (x.1:Int)=some m∧m∈s.l∧Bq m.tab (x.2:Int)=n.hd x.2∧x.1 < s.l.length:=by
 obtain⟨P,h1,h2⟩:=h;unfold Stk.tabs at h1;rw[List.getElem?_map,Option.map_eq_some_iff] at h1;obtain⟨m,h3,rfl⟩:=h1;exact⟨m,(Stk.at_some h3).1,List.mem_of_getElem? h3,h2.ino,(List.getElem?_eq_some_iff.1 h3).1⟩
open Go.Proofs
def q8(x:CU):Prop:=0≤x.size∧x.size≤1048576∧(∀e∈x.exts,0≤e.off∧e.off+e.data.length≤1048576)∧x.exts.length≤1000000000
theorem dK{n:Node}(hok:n.ok)(h:n.allB=true)(b:Nat):q8 (n.hd b):=by
 have hx:n.exts.length≤1000000000:=by
  have:=((Node.ok_iff n).1 hok).2.2.2.2.2.1.2.1;omega
 rw[Node.all_eq] at h;simp only[Bool.and_eq_true] at h;obtain⟨hz,hk⟩:=F0 h.2
 by_cases k:n.kind=1
 ·have he:ES n.size n.exts=true:=by simpa[Dq,k] using hk
  obtain⟨h1,h2,h3⟩:=TC he;exact⟨h1,h2,h3,hx⟩
 ·simp[Dt,k] at hz;have h1:n.size=0:=hz.1.2.1;have h2:n.exts=[]:=hz.1.2.2;exact⟨by simp[Node.hd,h1],by simp[Node.hd,h1],by simp[Node.hd,h2],by simp[Node.hd,h2]⟩
theorem Y1{w0:World}{S:St}{id:Nat}{P:List CU}{i off n:Int}(hB:Br S id P)(hf:q8 (Bq P i)){Q:AV→St→Prop}(hq:∀S',Sx S S'→Q (.str (Tt (Bq P i).size (Bq P i).exts off n)) S'):
  AC w0 GH [.ptr id 0,.int .i64 i,.int .i64 off,.int .i64 n] S Q:=by
 apply OV;unfold JW;refine GX hB (fun _ _ _=>?_)
 simp[Ino.c];obtain⟨f1,f2,f3,f4⟩:=hf;exact ZC f3 (by omega) ⟨f1,f2⟩ hq
end Go.Av
