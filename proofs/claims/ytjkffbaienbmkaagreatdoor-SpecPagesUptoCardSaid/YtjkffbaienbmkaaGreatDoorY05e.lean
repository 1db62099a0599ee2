/- Parts of the proofs of this seat: abstract values over the model, and what the functions of the program do. No condition. -/
import Derived.Test.YtjkffbaienbmkaaGreatDoorY05d
import Derived.Test.YtjkffbaienbmkaaGreatDoorX04L
import Derived.Test.YtjkffbaienbmkaaGreatDoorX05e
import Derived.Test.YtjkffbaienbmkaaGreatDoorY06
import Derived.Test.YtjkffbaienbmkaaGreatDoorXBld
set_option linter.all false
namespace Go.Av
theorem Uq{s:Str}{n:Node}(h:I0 s=some n):s=H1++n.enc∧Bs n=true∧s.length≤4194304:=by
 unfold I0 at h;split at h
 ·cases h
 ·rename_i c;simp only[not_or,Classical.not_not] at c;obtain⟨c1,c2,c3⟩:=c;simp only at h;split at h
  ·rename_i c4;cases h;obtain⟨k1,k2,k3⟩:=c4;obtain⟨_,r2,r3,r4⟩:=FB k3;have:=(RS.node_of 16 _ k1).2 r2;rw[k2,List.append_nil] at this;refine⟨?_,k3,by omega⟩
   rw[←this]
   show s=H1++s.drop 7
   rw[show H1=s.take 7 from c3.symm,List.take_append_drop]
  ·cases h
open Go.Proofs
theorem TyV.u16{t:TypeId}{x:AV}(h:TV t x)(hu:Tryz.prog.underlying t=some (.int .u16)):∃n:Nat,x= .int .u16 n∧n < 65536:=by
 obtain⟨n,e,hw⟩:=(h.one (by simp[isAgg,hu])).int_inv hu
 simp[Lit.wf,IntKind.min,IntKind.max,IntKind.signed,IntKind.bits] at hw;refine⟨n.toNat,?_,by omega⟩
 have:((n.toNat:Nat):Int)=n:=by omega
 rw[this];simpa using e
open Go.Proofs
theorem ka{l:List Node}(hl:l.length≤8):WG l=l.all fun n=>n.small&&Bs n:=by simp[WG,hl]
theorem mW{p:Node→Bool}{l:List Node}{i:Nat}{x:Node}(h:l[i]? =some x):(l.drop i).all p=(p x&&(l.drop (i+1)).all p):=by
 have hi:=(List.getElem?_eq_some_iff.1 h).1;rw[List.drop_eq_getElem_cons hi,List.all_cons,(List.getElem?_eq_some_iff.1 h).2]
set_option maxRecDepth 100000 in
theorem Pg{w0:World}{l:List Node}{r:Rt}{S:St}(hok:∀n∈l,n.ok){Q:AV→St→Prop}(hq:∀S',Sx S S'→Q (.int .i64 (if WG l=true then 1 else 0)) S'):AC w0 JU [.vs 7 (l.map Node.c) r] S Q:=by
 apply bo;unfold VU
 by_cases c:(8:Int) < l.length
 ·have:=hq S (Sx.refl _);have e:WG l=false:=by simp[WG];omega
  rw[e] at this;simp[c];exact this
 simp[c,AH];refine Al l (fun i (_:Unit)=>([.int .i64 i],[])) (fun i _ S'=>Sx S S'∧WG l=(l.drop i).all fun n=>n.small&&Bs n) () rfl ⟨Sx.refl _,by rw[ka (by omega)];simp⟩ ?_ ?_
 ·rintro i _ S' v b n c hxi hd hc hmem ⟨hSx,he⟩ hv;simp at hv;rw[mW hxi] at he;simp[hv,hc,hxi];refine Q5 (hok n hmem) (fun S2 hS2=>?_)
  cases hs:n.small with
  |false=>
   rw[hs] at he;have:=hq S2 (hSx.trans hS2);rw[he] at this;simp;simpa using this
  |true=>
   obtain⟨b1,b2⟩:=Node.small_spec hs;have b3:=n.count_weight;simp;refine MQ (hok n hmem) (by omega) (by omega) ?_
   cases hr:Bs n with
   |false=>
    rw[hs,hr] at he;have:=hq S2 (hSx.trans hS2);rw[he] at this;simp;simpa using this
   |true=>
    rw[hs,hr] at he;simp
    try simp (disch:=omega) only[wrap64]
    exact .next c () rfl ⟨hSx.trans hS2,by simpa using he⟩
 ·rintro _ S' v b ⟨hSx,he⟩ hv N;simp at hv;rw[List.drop_length,List.all_nil] at he;have:=hq S' hSx;rw[he] at this;simp[hv];simpa using this
set_option maxRecDepth 100000 in
theorem MK{w0:World}(hm:KI w0){l:List Node}{r:Rt}{S:St}(hok:∀n∈l,n.ok)(hmay:WG l=true){Q:AV→St→Prop}(hq:∀S' s,Sx S S'→Mj S S' l s→Q (.tup [.agg s.c,.bool true]) S'):AC w0 G6 [.vs 7 (l.map Node.c) r] S Q:=by
 obtain⟨h8,hall⟩:=T6.1 hmay;apply YU;unfold Qu;simp[show ¬(8:Int) < l.length by omega,AH]
 refine Al l (fun i (_:Unit)=>([.int .i64 i],[some [.vs 2 [] .nil,.int .i64 0]])) (fun i _ S'=>Sx S S') () rfl (Sx.refl _) ?_ ?_
 ·rintro i _ S' v b n c hxi hd hc hmem hSx hv;simp at hv;obtain⟨hv1,hv2⟩:=hv;obtain⟨hs,hr⟩:=hall n hmem;simp[hv1,hv2,hc,hxi];refine Q5 (hok n hmem) (fun S2 hS2=>?_)
  obtain⟨b1,b2⟩:=Node.small_spec hs;have b3:=n.count_weight;rw[hs];simp;refine MQ (hok n hmem) (by omega) (by omega) ?_
  rw[hr];simp
  try simp (disch:=omega) only[wrap64]
  exact .next c () rfl (hSx.trans hS2)
 ·rintro _ S' v b hSx hv N;simp at hv;obtain⟨hv1,hv2⟩:=hv;simp[hv1,hv2];have h0:=Pv l 0 (fun n hn=>(hall n hn).2) (by omega)
  refine W0 hm hok (by omega) (fun S2 hS2=>⟨fun _ s hs=>?_,fun h=>absurd h0 h⟩)
  have hs':Mj S S2 l s:=⟨hs.ok,hs.on,hs.len,hs.next,hs.tabs,hs.nums,fun m hm'=>Nat.le_trans hSx.le (hs.ids m hm')⟩
  simp;refine Lj ?_;rw[hs.len];simp;exact hq S2 s (hSx.trans hS2) hs'
theorem TP{S0 S:St}{l:List Node}{s:Stk}(h:Mj S0 S l s):s.tabs=l.reverse.map fun n=>n.tab 0:=h.tabs
theorem Ui:∀(L:List (List CU)) (k:Nat),(IZ L k).length≤L.length
 |[],_=>by simp[IZ]
 |P::L,k=>by
  rw[IZ];split
  ·simp
  ·have:=Ui L (k+1);simp;omega
open Go.Proofs
@[simp] theorem pW:Gw .ptr .eql .nil .nil=some (.bool true):=rfl
@[simp] theorem pZ(i o:Nat):Gw .ptr .eql (.ptr i o) .nil=some (.bool false):=rfl
@[simp] theorem oJ:Gw .ptr .neq .nil .nil=some (.bool false):=rfl
@[simp] theorem oY(i o:Nat):Gw .ptr .neq (.ptr i o) .nil=some (.bool true):=rfl
@[simp] theorem Node.cg0(n:Node)(h:0 < n.c.length):n.c[0]= .int .i64 n.kind:=by have:=n.c_eq;simp only[this];rfl
@[simp] theorem Node.cg1(n:Node)(h:1 < n.c.length):n.c[1]= .bool n.opq:=by have:=n.c_eq;simp only[this];rfl
@[simp] theorem Node.cg2(n:Node)(h:2 < n.c.length):n.c[2]=n.names.v:=by have:=n.c_eq';simp only[this];rfl
@[simp] theorem Node.cg3(n:Node)(h:3 < n.c.length):n.c[3]= .vs 7 (n.items.map Node.c) n.ir.strip:=by have:=n.c_eq';simp only[this];rfl
@[simp] theorem Node.cg4(n:Node)(h:4 < n.c.length):n.c[4]= .int .i64 n.size:=by have:=n.c_eq;simp only[this];rfl
@[simp] theorem Node.cg5(n:Node)(h:5 < n.c.length):n.c[5]= .vs 2 (n.exts.map Ext.c) n.er.strip:=by have:=n.c_eq';simp only[this];rfl
@[simp] theorem Node.cg6(n:Node)(h:6 < n.c.length):n.c[6]= .str n.target:=by have:=n.c_eq;simp only[this];rfl
theorem cD{w0:World}{S:St}{l:List Str}{r:Rt}(hl:l.length≤100000000){Q:AV→St→Prop}(hq:∀r',okR r' l→Q (.vs 1 (l.map Bz) r') S):AC w0 B9 [.vs 1 (l.map Bz) r] S Q:=by
 refine⟨⟨_,IU,by kernel_rfl,by kernel_rfl⟩,fun G w hrel hrole args' hlen ha=>?_⟩
 have hr:okR r l:=by
  intro e;have h0:0 < args'.size:=by rw[hlen];simp
  obtain⟨v,hv⟩:∃v,args'[0]? =some v:=⟨_,Array.getElem?_eq_getElem h0⟩;obtain⟨h1,h2,h3⟩:=ha 0 _ v rfl hv;have hr2:r.strip=r:=by simpa[AV.strip,AV.strip2,AV.strip1] using h3
  rw[hr2] at e;subst e;generalize he:l.map Bz=es at h1;have hes:es=[]:=by
   cases h1 with
   |vsnil=>rfl
   |vs _ _ _ _ _ _ _ hr=>exact(hr rfl).elim
   |vse _ _ _ hr=>rfl
  rw[hes] at he;exact List.map_eq_nil_iff.1 he
 exact(PQ (w0:=w0) hr hl hq).2 G w hrel hrole args' hlen ha
theorem XE{w0:World}{S:St}{id:Nat}{P:List CU}{i:Int}(hB:Br S id P)(hl:(Bq P i).names.length≤100000000){Q:AV→St→Prop}(hq:∀r,okR r (Bq P i).names→Q (.vs 1 ((Bq P i).names.map Bz) r) S):AC w0 F3 [.ptr id 0,.int .i64 i] S Q:=by
 apply Nr;unfold IV;refine GX hB (fun _ _ _=>?_)
 simp[Ino.c];exact cD hl hq
theorem Yn{w0:World}{S:St}{id:Nat}{P:List CU}{i:Int}(hB:Br S id P){Q:AV→St→Prop}(hq:Q (.int .i64 (Bq P i).size) S):AC w0 GW [.ptr id 0,.int .i64 i] S Q:=by
 apply OT;unfold JP;refine GX hB (fun _ _ _=>?_)
 simp[Ino.c];exact hq
theorem OI{w0:World}{S:St}{id:Nat}{P:List CU}{i:Int}(hB:Br S id P){Q:AV→St→Prop}(hq:Q (.str (Bq P i).target) S):AC w0 Ec [.ptr id 0,.int .i64 i] S Q:=by
 apply Mu;unfold H9;refine GX hB (fun _ _ _=>?_)
 simp[Ino.c];exact hq
theorem Nw{w0:World}{S:St}{l:List Node}{r:Rt}(hl:l.length≤1000000){Q:AV→St→Prop}(hq:∀r,Q (.vs 7 ((Dm l).map Node.c) r) S):AC w0 Jz [.vs 7 (l.map Node.c) r] S Q:=by
 apply Zv;unfold UH;simp[AH];refine Al l (fun i (σ:List Node×Rt)=>([.vs 7 (σ.1.map Node.c) σ.2,.int .i64 i],[])) (fun i σ S'=>S'=S∧Dm l=σ.1++Dm (l.drop i)∧σ.1.length=i∧σ.2≠ .none) ([],.full) rfl ⟨rfl,by simp,rfl,by simp⟩ ?_ ?_
 ·rintro i ⟨out,ro⟩ S' v b n c hxi hd hc hmem ⟨rfl,he,hlen,hr⟩ hv;simp at hv he hlen hr;obtain⟨hv1,hv2⟩:=hv;rw[hd,Dm] at he;have hap:∀S2:St,AT AF S2 (.vs 7 (out.map Node.c) ro) (.vs 7 [n.c] .full)=some (.vs 7 ((out++[n]).map Node.c) (.own (By AF ro))):=fun S2=>by
   simp[AT,BM,hr,show out.length+1≤lim by unfold lim;omega]
  simp[hv1,hv2,hc,hxi,hap];cases ho:n.opq with
  |true=>
   rw[ho,if_pos rfl] at he;have:=hq .none;rw[he] at this;simp;simpa using this
  |false=>
   rw[ho,if_neg (by simp)] at he
   simp
   try simp (disch:=omega) only[wrap64]
   refine .next c (out++[n],.own (By AF ro)) (by simp) ⟨rfl,by rw[he];simp,by simp[hlen],by simp⟩
 ·rintro⟨out,ro⟩ S' v b ⟨rfl,he,hlen,hr⟩ hv N;simp at hv he;obtain⟨hv1,hv2⟩:=hv
  try rw[List.drop_length] at he
  rw[Dm,List.append_nil] at he;simp[hv1,hv2];have:=hq ro.strip;rw[he] at this;exact this
theorem ZM{w0:World}{S:St}{l:List Node}{r:Rt}(hl:l.length≤1000000){Q:AV→St→Prop}(hq:∀r,Q (.vs 7 (l.reverse.map Node.c) r) S):AC w0 MP [.vs 7 (l.map Node.c) r] S Q:=by
 apply Xt;unfold Qy;simp[AH];refine Al l (fun i (σ:List Node×Rt)=>([.vs 7 (σ.1.map Node.c) σ.2,.int .i64 i],[])) (fun i σ S'=>S'=S∧σ.1=l.reverse.take i∧σ.2≠ .none) ([],.nil) rfl ⟨rfl,by simp,by simp⟩ ?_ ?_
 ·rintro i ⟨out,ro⟩ S' v b n c hxi hd hc hmem ⟨rfl,he,hr⟩ hv;simp at hv he hr;obtain⟨hv1,hv2⟩:=hv;have e1:IntKind.i64.wrap ((l.length:Int) - 1)=(l.length:Int) - 1:=wrap64 (by omega) (by omega)
  have e2:IntKind.i64.wrap ((l.length:Int) - 1 - i)=((l.length - 1 - i:Nat):Int):=by rw[wrap64 (by omega) (by omega)];omega
  obtain⟨m,hm⟩:∃m,l[l.length - 1 - i]? =some m:=⟨l[l.length - 1 - i]'(by omega),List.getElem?_eq_getElem (by omega)⟩
  have hrev:l.reverse[i]? =some m:=by rw[List.getElem?_reverse c];exact hm
  have htk:l.reverse.take (i+1)=l.reverse.take i++[m]:=by rw[List.take_succ,hrev];rfl
  have hol:out.length≤l.length:=by rw[he,List.length_take,List.length_reverse];omega
  have hap:∀S2:St,AT AF S2 (.vs 7 (out.map Node.c) ro) (.vs 7 [m.c] .full)=some (.vs 7 ((out++[m]).map Node.c) (.own (By AF ro))):=fun S2=>by
   simp[AT,BM,hr,show out.length+1≤lim by unfold lim;omega]
  simp[hv1,hv2,hc,e1,e2,hm,hap]
  try simp (disch:=omega) only[wrap64]
  exact .next c (out++[m],.own (By AF ro)) (by simp) ⟨rfl,by rw[htk,he],by simp⟩
 ·rintro⟨out,ro⟩ S' v b ⟨rfl,he,hr⟩ hv N;simp at hv he;obtain⟨hv1,hv2⟩:=hv;have:l.reverse.take l.length=l.reverse:=by rw[List.take_of_length_le];simp
  rw[this] at he;simp[hv1,hv2];have:=hq ro.strip;rw[←he] at this;exact this
open Go.Proofs
theorem fA{n:Node}(ha:n.allB=true)(s:Str):match n.names.l.findIdx? (fun x=>decide (x=s)) with|some k=>∃x,n.find s=some x∧n.items[k]? =some x|none=>n.find s=none:=by
 have hl:=Ih ha;cases hk:n.names.l.findIdx? (fun x=>decide (x=s)) with
 |none=>exact Node.find_none hk
 |some k=>
  have hlt:=(List.findIdx?_eq_some_iff_getElem.1 hk).1;have hx:n.items[k]? =some n.items[k]:=List.getElem?_eq_getElem (by omega)
  exact⟨_,by rw[Node.find_some hk];exact hx,hx⟩
theorem Y6(n:Node)(l:List Node)(s:Str):CI (n::l) s=match n.find s with|some x=>x::CI l s|none=>CI l s:=by
 simp only[CI,List.filterMap_cons];cases n.find s<;>rfl
set_option maxRecDepth 100000 in
theorem WS{w0:World}{S:St}{l:List Node}{r:Rt}{s:Str}(hl:l.length≤1000000)(hok:∀n∈l,n.ok∧n.allB=true){Q:AV→St→Prop}(hq:∀r,r≠ .nil→Q (.vs 7 ((CI l s).map Node.c) r) S):AC w0 Jl [.vs 7 (l.map Node.c) r,.str s] S Q:=by
 apply UW;unfold N8;simp[AH];refine Al l (fun i (σ:List Node×Rt)=>([.vs 7 (σ.1.map Node.c) σ.2,.int .i64 i],[])) (fun i σ S'=>S'=S∧CI l s=σ.1++CI (l.drop i) s∧σ.1.length≤i∧(σ.2= .full∨∃t,σ.2= .own t)) ([],.full) rfl ⟨rfl,by simp,by simp,.inl rfl⟩ ?_ ?_
 ·rintro i ⟨out,ro⟩ S' v b n c hxi hd hc hmem ⟨rfl,he,hlen,hr⟩ hv;simp at hv he hlen hr;obtain⟨hv1,hv2⟩:=hv;have hrn:ro≠ .none:=by rcases hr with rfl|⟨t,rfl⟩<;>simp
  rw[hd,Y6] at he;simp[hv1,hv2,hc,hxi];refine UJ (hok n hmem).1 ?_;have hf:=fA (hok n hmem).2 s;cases hk:n.names.l.findIdx? (fun x=>decide (x=s)) with
  |none=>
   rw[hk] at hf;simp only at hf;rw[hf] at he;simp
   try simp (disch:=omega) only[wrap64]
   exact .next c (out,ro) (by simp) ⟨rfl,he,by simp;omega,hr⟩
  |some k=>
   rw[hk] at hf;obtain⟨x,hx1,hx2⟩:=hf;rw[hx1] at he;simp only at he;have hap:∀S2:St,AT AF S2 (.vs 7 (out.map Node.c) ro) (.vs 7 [x.c] .full)=some (.vs 7 ((out++[x]).map Node.c) (.own (By AF ro))):=fun S2=>by
    simp[AT,BM,hrn,show out.length+1≤lim by unfold lim;omega]
   simp[hx2,hap]
   try simp (disch:=omega) only[wrap64]
   refine .next c (out++[x],.own (By AF ro)) (by simp) ⟨rfl,by rw[he];simp,by simp;omega,.inr ⟨_,rfl⟩⟩
 ·rintro⟨out,ro⟩ S' v b ⟨rfl,he,hlen,hr⟩ hv N;simp at hv he hr;obtain⟨hv1,hv2⟩:=hv
  try rw[List.drop_length] at he
  simp[CI] at he;simp[hv1,hv2];have:=hq ro.strip (by rcases hr with rfl|⟨t,rfl⟩<;>simp[Rt.strip])
  have e2:CI l s=out:=by simpa[CI] using he
  rw[e2] at this;exact this
set_option maxRecDepth 100000 in
theorem M9{w0:World}{S:St}{l:List Node}{r:Rt}{s:Str}(hl:l.length≤1000000)(hok:∀n∈l,n.ok∧n.allB=true){Q:AV→St→Prop}(hq:∀r,Q (.vs 7 ((Dn l s).map Node.c) r) S):AC w0 Hv [.vs 7 (l.map Node.c) r,.str s] S Q:=by
 apply ZO;unfold SO;refine WS hl hok (fun r1 hr1=>?_)
 have hel:=Sn l s;have hr1':r1.strip≠ .nil:=by cases r1<;>simp_all [Rt.strip]
 unfold Dn at hq;cases hE:CI l s with
 |nil=>
  rw[hE] at hq;simp[AH];simpa using hq .nil
 |cons x t=>
  rw[hE] at hq hel;simp only at hq;simp at hel;have hne:¬((t.length:Int)+1=0):=by omega
  simp[AH,hne]
  by_cases k4:x.kind=4
  ·rw[if_pos k4] at hq;simp[k4];simpa using hq .nil
  rw[if_neg k4] at hq;simp[k4]
  by_cases k2:x.kind=2
  case neg=>
   rw[if_pos k2] at hq;simp[k2,hr1];simpa using hq _
  rw[if_neg (by simp[k2])] at hq
  simp[k2];generalize hE2:x::t=E at hq;have hEl:t.length+1=E.length:=by rw[←hE2];rfl
  have hEc:(x.c::t.map Node.c)=E.map Node.c:=by rw[←hE2];rfl
  rw[hEc];have hEi:((t.length:Int)+1)=(E.length:Int):=by omega
  rw[hEi];refine Al E (fun i (_:Unit)=>([.int .i64 i],[])) (fun i _ S'=>S'=S∧E.takeWhile (fun n=>decide (n.kind=2))=E.take i++(E.drop i).takeWhile (fun n=>decide (n.kind=2))) () rfl ⟨rfl,by simp⟩ ?_ ?_
  ·rintro i _ S' v b n c hxi hd hc hmem ⟨rfl,he⟩ hv;simp at hv;rw[hd] at he;have hcut:=gR AF 7 (E.map Node.c) r1 .i64 i;simp[hv,hc,hxi]
   by_cases kn:n.kind=2
   ·simp[kn]
    try simp (disch:=omega) only[wrap64]
    refine .next c () rfl ⟨rfl,?_⟩;have htk:E.take (i+1)=E.take i++[n]:=by rw[List.take_succ,hxi];rfl
    rw[he,List.takeWhile_cons_of_pos (by simp[kn]),htk]
    simp
   ·rw[List.takeWhile_cons_of_neg (by simp[kn]),List.append_nil] at he
    simp[kn,hr1,show i≤E.length by omega]
    rw[←List.map_take];refine Nw (l:=E.take i) (by rw[List.length_take];omega) (fun r2=>?_)
    rw[←he];exact hq r2
  ·rintro _ S' v b ⟨rfl,he⟩ hv N;simp at hv
   try rw[List.drop_length] at he
   simp[hv,hr1];have hall:(E.map Node.c).take E.length=E.map Node.c:=by rw[List.take_of_length_le];simp
   rw[hall];refine Nw (l:=E) (by omega) (fun r2=>?_)
   have:=hq r2;rw[he] at this;simpa using this
theorem OnP.len{L:List (List CU)}:∀{p:List Spot} {l:List Node},OnP L p l→p.length=l.length
 |[],[],_=>rfl
 |_::p,_::l,h=>by simp[OnP.len h.2]
 |[],_::_,h=>h.elim
 |_::_,[],h=>h.elim
theorem OnP.get{L:List (List CU)}:∀{p:List Spot} {l:List Node} {k:Nat} {x:Spot},OnP L p l→p[k]? =some x→∃n,l[k]? =some n∧Stands L x n
 |[],[],k,x,_,h=>by simp at h
 |y::p,m::l,0,x,h,hx=>by simp at hx;subst hx;exact⟨m,rfl,h.1⟩
 |y::p,m::l,k+1,x,h,hx=>by simp at hx;obtain⟨n,h1,h2⟩:=OnP.get h.2 hx;exact⟨n,by simpa using h1,h2⟩
 |[],_::_,_,_,h,_=>h.elim
 |_::_,[],_,_,h,_=>h.elim
theorem Stands.at_{s:Stk}{x:Spot}{n:Node}(h:Stands s.tabs x n):∃m,s.at_ (x.1:Int)=some m∧m∈s.l∧Bq m.tab (x.2:Int)=n.hd x.2∧x.1 < s.l.length:=by
 obtain⟨P,h1,h2⟩:=h;unfold Stk.tabs at h1;rw[List.getElem?_map,Option.map_eq_some_iff] at h1;obtain⟨m,h3,rfl⟩:=h1;exact⟨m,(Stk.at_some h3).1,List.mem_of_getElem? h3,h2.ino,(List.getElem?_eq_some_iff.1 h3).1⟩
open Go.Proofs
def q8(x:CU):Prop:=0≤x.size∧x.size≤1048576∧(∀e∈x.exts,0≤e.off∧e.off+e.data.length≤1048576)∧x.exts.length≤1000000000
theorem dK{n:Node}(hok:n.ok)(h:n.allB=true)(b:Nat):q8 (n.hd b):=by
 have hx:n.exts.length≤1000000000:=by
  have:=((Node.ok_iff n).1 hok).2.2.2.2.2.1.2.1;omega
 rw[Node.all_eq] at h;simp only[Bool.and_eq_true] at h;obtain⟨hz,hk⟩:=F0 h.2
 by_cases k:n.kind=1
 ·have he:ES n.size n.exts=true:=by simpa[Dq,k] using hk
  obtain⟨h1,h2,h3⟩:=TC he;exact⟨h1,h2,h3,hx⟩
 ·simp[Dt,k] at hz;have h1:n.size=0:=hz.1.2.1;have h2:n.exts=[]:=hz.1.2.2;exact⟨by simp[Node.hd,h1],by simp[Node.hd,h1],by simp[Node.hd,h2],by simp[Node.hd,h2]⟩
theorem Y1{w0:World}{S:St}{id:Nat}{P:List CU}{i off n:Int}(hB:Br S id P)(hf:q8 (Bq P i)){Q:AV→St→Prop}(hq:∀S',Sx S S'→Q (.str (Tt (Bq P i).size (Bq P i).exts off n)) S'):
  AC w0 GH [.ptr id 0,.int .i64 i,.int .i64 off,.int .i64 n] S Q:=by
 apply OV;unfold JW;refine GX hB (fun _ _ _=>?_)
 simp[Ino.c];obtain⟨f1,f2,f3,f4⟩:=hf;exact ZC f3 (by omega) ⟨f1,f2⟩ hq
end Go.Av
