/- Parts of the proofs of this seat: abstract values over the model, and what the functions of the program do. No condition. -/
import Derived.Test.YtehadbpejfjheaaGreatDoorX04L
import Derived.Test.YtehadbpejfjheaaGreatDoorY05
set_option linter.all false
set_option maxRecDepth 100000
namespace Go.Av
open Go.Proofs
theorem TyV.u16{t:TypeId}{x:AV}(h:TV t x)(hu:Tryz.prog.underlying t=some (.int .u16)):∃n:Nat,x= .int .u16 n∧n < 65536:=by
 obtain⟨n,e,hw⟩:=(h.one (by simp[isAgg,hu])).int_inv hu
 simp[Lit.wf,IntKind.min,IntKind.max,IntKind.signed,IntKind.bits] at hw;refine⟨n.toNat,?_,by omega⟩
 have:((n.toNat:Nat):Int)=n:=by omega
 rw[this];simpa using e
open Go.Proofs
theorem Wh{l:List Node}(hl:l.length≤8):PB l=l.all fun n=>n.small&&C2 n:=by simp[PB,hl]
theorem Ym{p:Node→Bool}{l:List Node}{i:Nat}{x:Node}(h:l[i]? =some x):(l.drop i).all p=(p x&&(l.drop (i+1)).all p):=by
 have hi:=(List.getElem?_eq_some_iff.1 h).1;rw[List.drop_eq_getElem_cons hi,List.all_cons,(List.getElem?_eq_some_iff.1 h).2]
theorem Tk{w0:World}{l:List Node}{r:Rt}{S:St}(hok:∀n∈l,n.ok){Q:AV→St→Prop}(hq:∀S',Sx S S'→Q (.int .i64 (if PB l=true then 1 else 0)) S'):AC w0 J1 [.vs 7 (l.map Node.c) r] S Q:=by
 apply SR;unfold OC
 by_cases c:(8:Int) < l.length
 ·have:=hq S (Sx.refl _);have e:PB l=false:=by simp[PB];omega
  rw[e] at this;simp[c];exact this
 simp[c,AG];refine B6 l (fun i (_:Unit)=>([.int .i64 i],[])) (fun i _ S'=>Sx S S'∧PB l=(l.drop i).all fun n=>n.small&&C2 n) () rfl ⟨Sx.refl _,by rw[Wh (by omega)];simp⟩ ?_ ?_
 ·rintro i _ S' v b n c hxi hd hc hmem ⟨hSx,he⟩ hv;simp at hv;rw[Ym hxi] at he;simp[hv,hc,hxi];refine Lb (hok n hmem) (fun S2 hS2=>?_)
  cases hs:n.small with
  |false=>
   rw[hs] at he;have:=hq S2 (hSx.trans hS2);rw[he] at this;simp;simpa using this
  |true=>
   obtain⟨b1,b2⟩:=Node.small_spec hs;have b3:=n.count_weight;simp;refine LK (hok n hmem) (by omega) (by omega) ?_
   cases hr:C2 n with
   |false=>
    rw[hs,hr] at he;have:=hq S2 (hSx.trans hS2);rw[he] at this;simp;simpa using this
   |true=>
    rw[hs,hr] at he;simp
    try simp (disch:=omega) only[wrap64]
    exact .next c () rfl ⟨hSx.trans hS2,by simpa using he⟩
 ·rintro _ S' v b ⟨hSx,he⟩ hv N;simp at hv;rw[List.drop_length,List.all_nil] at he;have:=hq S' hSx;rw[he] at this;simp[hv];simpa using this
theorem Qw{w0:World}(hm:LA w0){l:List Node}{r:Rt}{S:St}(hok:∀n∈l,n.ok)(hmay:PB l=true){Q:AV→St→Prop}(hq:∀S' s,Sx S S'→KM S S' l s→Q (.tup [.agg s.c,.bool true]) S'):AC w0 Ic [.vs 7 (l.map Node.c) r] S Q:=by
 obtain⟨h8,hall⟩:=Tr.1 hmay;apply QG;unfold LJ;simp[show ¬(8:Int) < l.length by omega,AG]
 refine B6 l (fun i (_:Unit)=>([.int .i64 i],[some [.vs 2 [] .nil,.int .i64 0]])) (fun i _ S'=>Sx S S') () rfl (Sx.refl _) ?_ ?_
 ·rintro i _ S' v b n c hxi hd hc hmem hSx hv;simp at hv;obtain⟨hv1,hv2⟩:=hv;obtain⟨hs,hr⟩:=hall n hmem;simp[hv1,hv2,hc,hxi];refine Lb (hok n hmem) (fun S2 hS2=>?_)
  obtain⟨b1,b2⟩:=Node.small_spec hs;have b3:=n.count_weight;rw[hs];simp;refine LK (hok n hmem) (by omega) (by omega) ?_
  rw[hr];simp
  try simp (disch:=omega) only[wrap64]
  exact .next c () rfl (hSx.trans hS2)
 ·rintro _ S' v b hSx hv N;simp at hv;obtain⟨hv1,hv2⟩:=hv;simp[hv1,hv2];have h0:=Kr l 0 (fun n hn=>(hall n hn).2) (by omega)
  refine Pg hm hok (by omega) (fun S2 hS2=>⟨fun _ s hs=>?_,fun h=>absurd h0 h⟩)
  have hs':KM S S2 l s:=⟨hs.ok,hs.on,hs.len,hs.next,hs.tabs,hs.nums,fun m hm'=>Nat.le_trans hSx.le (hs.ids m hm')⟩
  simp;refine Ka ?_;rw[hs.len];simp;exact hq S2 s (hSx.trans hS2) hs'
theorem M5{S0 S:St}{l:List Node}{s:Stk}(h:KM S0 S l s):s.tabs=l.reverse.map fun n=>n.tab 0:=h.tabs
theorem Ra:∀(L:List (List Bk)) (k:Nat),(Ga L k).length≤L.length
 |[],_=>by simp[Ga]
 |P::L,k=>by
  rw[Ga];split
  ·simp
  ·have:=Ra L (k+1);simp;omega
open Go.Proofs
@[simp] theorem aF:GC .ptr .eql .nil .nil=some (.bool true):=rfl
@[simp] theorem aH(i o:Nat):GC .ptr .eql (.ptr i o) .nil=some (.bool false):=rfl
@[simp] theorem ZN:GC .ptr .neq .nil .nil=some (.bool false):=rfl
@[simp] theorem Zd(i o:Nat):GC .ptr .neq (.ptr i o) .nil=some (.bool true):=rfl
@[simp] theorem Node.cg0(n:Node)(h:0 < n.c.length):n.c[0]= .int .i64 n.kind:=by have:=n.c_eq;simp only[this];rfl
@[simp] theorem Node.cg1(n:Node)(h:1 < n.c.length):n.c[1]= .bool n.opq:=by have:=n.c_eq;simp only[this];rfl
@[simp] theorem Node.cg2(n:Node)(h:2 < n.c.length):n.c[2]=n.names.v:=by have:=n.c_eq';simp only[this];rfl
@[simp] theorem Node.cg3(n:Node)(h:3 < n.c.length):n.c[3]= .vs 7 (n.items.map Node.c) n.ir.strip:=by have:=n.c_eq';simp only[this];rfl
@[simp] theorem Node.cg4(n:Node)(h:4 < n.c.length):n.c[4]= .int .i64 n.size:=by have:=n.c_eq;simp only[this];rfl
@[simp] theorem Node.cg5(n:Node)(h:5 < n.c.length):n.c[5]= .vs 2 (n.exts.map Ext.c) n.er.strip:=by have:=n.c_eq';simp only[this];rfl
@[simp] theorem Node.cg6(n:Node)(h:6 < n.c.length):n.c[6]= .str n.target:=by have:=n.c_eq;simp only[this];rfl
theorem Qu{w0:World}{S:St}{id:Nat}{P:List Bk}{i:Int}(hB:Br S id P){Q:AV→St→Prop}(hq:Q (.int .i64 (BO P i).size) S):AC w0 Ee [.ptr id 0,.int .i64 i] S Q:=by
 apply Js;unfold Gi;refine FA hB (fun _ _ _=>?_)
 simp[Ino.c];exact hq
theorem Jh{w0:World}{S:St}{id:Nat}{P:List Bk}{i:Int}(hB:Br S id P){Q:AV→St→Prop}(hq:Q (.str (BO P i).target) S):AC w0 DD [.ptr id 0,.int .i64 i] S Q:=by
 apply Iw;unfold FZ;refine FA hB (fun _ _ _=>?_)
 simp[Ino.c];exact hq
open Go.Proofs
theorem OnP.len{L:List (List Bk)}:∀{p:List Spot} {l:List Node},OnP L p l→p.length=l.length
 |[],[],_=>rfl
 |_::p,_::l,h=>by simp[OnP.len h.2]
 |[],_::_,h=>h.elim
 |_::_,[],h=>h.elim
theorem OnP.get{L:List (List Bk)}:∀{p:List Spot} {l:List Node} {k:Nat} {x:Spot},OnP L p l→p[k]? =some x→∃n,l[k]? =some n∧Stands L x n
 |[],[],k,x,_,h=>by simp at h
 |y::p,m::l,0,x,h,hx=>by simp at hx;subst hx;exact⟨m,rfl,h.1⟩
 |y::p,m::l,k+1,x,h,hx=>by simp at hx;obtain⟨n,h1,h2⟩:=OnP.get h.2 hx;exact⟨n,by simpa using h1,h2⟩
 |[],_::_,_,_,h,_=>h.elim
 |_::_,[],_,_,h,_=>h.elim
theorem Stands.at_{s:Stk}{x:Spot}{n:Node}(h:Stands s.tabs x n):∃m,s.at_ (x.1:Int)=some m∧m∈s.l∧BO m.tab (x.2:Int)=n.hd x.2∧x.1 < s.l.length:=by
 obtain⟨P,h1,h2⟩:=h;unfold Stk.tabs at h1;rw[List.getElem?_map,Option.map_eq_some_iff] at h1;obtain⟨m,h3,rfl⟩:=h1;exact⟨m,(Stk.at_some h3).1,List.mem_of_getElem? h3,h2.ino,(List.getElem?_eq_some_iff.1 h3).1⟩
open Go.Proofs
def Exo(id:Nat)(S S':St):Prop:=S.length≤S'.length∧∀j,j < S.length→j≠id→S'[j]? =S[j]?
theorem Exo.refl(id:Nat)(S:St):Exo id S S:=⟨Nat.le_refl _,fun _ _ _=>rfl⟩
theorem Exo.trans{id:Nat}{A B D:St}(h:Exo id A B)(k:Exo id B D):Exo id A D:=⟨Nat.le_trans h.1 k.1,fun j hj hn=>(k.2 j (by have:=h.1;omega) hn).trans (h.2 j hj hn)⟩
theorem Exo.set(id:Nat)(S:St)(o:Obj):Exo id S (S.set id o):=⟨by simp,fun j hj hn=>by rw[List.getElem?_set_ne (fun e=>hn e.symm)]⟩
theorem Exo.app(id:Nat)(S T:St):Exo id S (S++T):=⟨by simp,fun j hj _=>by rw[List.getElem?_append_left hj]⟩
theorem Exo.get{id:Nat}{S S':St}(h:Exo id S S'){j:Nat}{o:Obj}(hn:j≠id)(e:S[j]? =some o):S'[j]? =some o:=(h.2 j (List.getElem?_eq_some_iff.1 e).1 hn).trans e
theorem Exo.Sx_of{id:Nat}{S0 S S':St}(h:Exo id S S')(h0:Sx S0 S)(hid:S0.length≤id):Sx S0 S':=fun j hj=>(h.2 j (by have:=h0.le;omega) (by omega)).trans (h0 j hj)
def Drx.c(d:Drx):List AV:=[.str d.path,.vs 2 (d.place.map spC) d.r.strip]
@[simp] theorem Drx.c_len(d:Drx):d.c.length=2:=rfl
def Wk.cs(w:Wk)(rt rd:Rt)(e:AV):List AV:=[.vs 1 (w.todo.map EH) rt,.vs 2 (w.dirs.map Drx.c) rd,.bool w.follow,.int .i64 w.hops,e]
def Jr(S:St)(id:Nat)(w:Wk):Prop:=∃rt rd e,S[id]? =some (.cells (w.cs rt rd e) Bo)∧(rt= .nil→w.todo=[])∧(rd= .nil→w.dirs=[])∧
 match w.fin with
 |none=>e= .nil
 |some p=>∃j r,e= .ptr j 0∧j≠id∧S[j]? =some (.cells (.str p.1::p.2.c r) GQ)
theorem Jr.mono{S S':St}{id:Nat}{w:Wk}(h:Jr S id w)(k:Sx S S'):Jr S' id w:=by
 obtain⟨rt,rd,e,h1,h2,h3,h4⟩:=h;refine⟨rt,rd,e,k.get h1,h2,h3,?_⟩;cases hf:w.fin with
 |none=>rw[hf] at h4;exact h4
 |some p=>
  rw[hf] at h4;obtain⟨j,r,a,b,c⟩:=h4;exact⟨j,r,a,b,k.get c⟩
@[simp] theorem EC{S:St}{id:Nat}{w:Wk}{rt rd:Rt}{e:AV}{tg:Nat}(h:S[id]? =some (.cells (w.cs rt rd e) tg)):Ap AW S (.ptr id 0)=some (.vs 1 (w.todo.map EH) rt):=by rw[CA h];rfl
@[simp] theorem Ew{S:St}{id:Nat}{w:Wk}{rt rd:Rt}{e:AV}{tg:Nat}(h:S[id]? =some (.cells (w.cs rt rd e) tg)):Ap A7 S (.ptr id 1)=some (.vs 2 (w.dirs.map Drx.c) rd):=by rw[CA h];rfl
@[simp] theorem Ok{S:St}{id:Nat}{w:Wk}{rt rd:Rt}{e:AV}{tg:Nat}(h:S[id]? =some (.cells (w.cs rt rd e) tg)):Ap G4 S (.ptr id 2)=some (.bool w.follow):=by rw[CA h];rfl
@[simp] theorem LT{S:St}{id:Nat}{w:Wk}{rt rd:Rt}{e:AV}{tg:Nat}(h:S[id]? =some (.cells (w.cs rt rd e) tg)):Ap AR S (.ptr id 3)=some (.int .i64 w.hops):=by rw[CA h];rfl
@[simp] theorem HG{S:St}{id:Nat}{w:Wk}{rt rd:Rt}{e:AV}{tg:Nat}(h:S[id]? =some (.cells (w.cs rt rd e) tg)):Ap B3 S (.ptr id 4)=some e:=by rw[CA h];rfl
theorem Ni{w0:World}{S:St}{id tg:Nat}{w:Wk}{rt rd:Rt}{e:AV}{d:Drx}(h:S[id]? =some (.cells (w.cs rt rd e) tg))(hd:w.dirs.getLast? =some d)(hl:w.dirs.length≤1000000){Q:AV→St→Prop}(hq:Q (.agg d.c) S):AC w0 Do [.ptr id 0] S Q:=by
 apply Mp;unfold I0;have hne:0 < w.dirs.length:=by
  cases hw:w.dirs with
  |nil=>rw[hw] at hd;cases hd
  |cons a l=>simp
 have hx:w.dirs[w.dirs.length - 1]? =some d:=by rw[←List.getLast?_eq_getElem?];exact hd
 have ew:IntKind.i64.wrap ((w.dirs.length:Int) - 1)=((w.dirs.length - 1:Nat):Int):=by rw[wrap64 (by omega) (by omega)];omega
 simp[Ew h,ew,hx,Drx.c];exact hq
theorem Qm{S:St}{id tg:Nat}{w:Wk}{rt rd r:Rt}{e:AV}{t:List Str}(h:S[id]? =some (.cells (w.cs rt rd e) tg)):CU AW S (.ptr id 0) (.vs 1 (t.map EH) r)=some (S.set id (.cells (({w with todo:=t}:Wk).cs r rd e) tg)):=by
 rw[CF h];simp[Wk.cs]
theorem J0{S:St}{id tg:Nat}{w:Wk}{rt rd r:Rt}{e:AV}{t:List Str}(h:S[id]? =some (.cells (w.cs rt rd e) tg)):CU AW (stripMem S (.ptr id 0)) (.ptr id 0) (.vs 1 (t.map EH) r)=some (S.set id (.cells (({w with todo:=t}:Wk).cs r rd e) tg)):=by
 rw[Fg h,CF (A9 h)];simp[Wk.cs]
theorem LI{S:St}{id tg:Nat}{w:Wk}{rt rd r:Rt}{e:AV}{t:List Drx}(h:S[id]? =some (.cells (w.cs rt rd e) tg)):CU A7 S (.ptr id 1) (.vs 2 (t.map Drx.c) r)=some (S.set id (.cells (({w with dirs:=t}:Wk).cs rt r e) tg)):=by
 rw[CF h];simp[Wk.cs]
theorem P7{S:St}{id tg:Nat}{w:Wk}{rt rd r:Rt}{e:AV}{t:List Drx}(h:S[id]? =some (.cells (w.cs rt rd e) tg)):CU A7 (stripMem S (.ptr id 1)) (.ptr id 1) (.vs 2 (t.map Drx.c) r)=some (S.set id (.cells (({w with dirs:=t}:Wk).cs rt r e) tg)):=by
 rw[Fg h,CF (A9 h)];simp[Wk.cs]
theorem Q8{S:St}{id tg:Nat}{w:Wk}{rt rd:Rt}{e:AV}{n:Nat}(h:S[id]? =some (.cells (w.cs rt rd e) tg)):CU AR S (.ptr id 3) (.int .i64 n)=some (S.set id (.cells (({w with hops:=n}:Wk).cs rt rd e) tg)):=by
 rw[CF h];simp[Wk.cs]
theorem SA{S:St}{id tg:Nat}{w:Wk}{rt rd:Rt}{e:AV}{j:Nat}(h:S[id]? =some (.cells (w.cs rt rd e) tg)):CU B3 S (.ptr id 4) (.ptr j 0)=some (S.set id (.cells (w.cs rt rd (.ptr j 0)) tg)):=by
 rw[CF h];simp[Wk.cs]
theorem Po{w0:World}{S:St}{id:Nat}{w:Wk}(h:Jr S id w)(hne:w.dirs≠[])(hl:w.dirs.length≤1000000){Q:AV→St→Prop}
  (hq:∀S',Exo id S S'→Jr S' id w.ask→(w.fin=none→∀s t d,w.ask.todo=s::t→w.ask.dirs.getLast? =some d→Q (.tup [.str d.path,.vs 2 (d.place.map spC) d.r.strip,.str s,.bool true]) S')∧
   ((w.fin≠none∨w.ask.todo=[])→Q (.tup [.str [],.vs 2 [] .nil,.str [],.bool false]) S')):AC w0 EM [.ptr id 0] S Q:=by
 apply Lp;unfold IM;refine ED (fun j=>∀S',Q (.tup [.str [],.vs 2 [] .nil,.str [],.bool false]) S'→j S') (fun S' h=>h) (fun j0 hj0=>?_)
 refine HZ (fun _:List Str×List Drx=>([],[])) (fun n σ S'=>Exo id S S'∧Jr S' id {w with todo:=σ.1,dirs:=σ.2}∧D7 σ.1 σ.2=D7 w.todo w.dirs∧σ.2≠[]∧σ.2.length≤1000000∧n=σ.1.length∧(w.fin≠none→σ=(w.todo,w.dirs))) w.todo.length (w.todo,w.dirs) rfl ⟨Exo.refl _ _,h,rfl,hne,hl,rfl,fun _=>rfl⟩ ?_
 rintro n ⟨todo,dirs⟩ S' v b ⟨hE,hW,hp,hne',hl',hn,hfx⟩ _;simp only at hp hne' hl' hn;obtain⟨rt,rd,e,h1,h2,h3,h4⟩:=hW;simp only at h1 h2 h3 h4;generalize hww:({w with todo:=todo,dirs:=dirs}:Wk)=ww at h1
 have t1:ww.todo=todo:=by rw[←hww]
 have t2:ww.dirs=dirs:=by rw[←hww]
 cases hf:w.fin with
 |some p=>
  rw[hf] at h4 hq;obtain⟨j,r,rfl,hj,hjc⟩:=h4;simp[HG h1];refine hj0 _ ((hq S' hE ?_).2 (.inl (by simp)))
  have e:=hfx (by rw[hf];simp)
  cases e;rw[show w.ask=w by simp[Wk.ask,hf]]
  exact⟨rt,rd,.ptr j 0,by rw[show w=ww from hww];exact h1,h2,h3,by rw[hf];exact⟨j,r,rfl,hj,hjc⟩⟩
 |none=>
  rw[hf] at h4;subst h4;have hask:w.ask={w with todo:=(D7 todo dirs).1,dirs:=(D7 todo dirs).2}:=by rw[hp];simp[Wk.ask,hf,Wk.pop]
  simp[HG h1,EC h1,t1];cases todo with
  |nil=>
   simp;refine hj0 _ ((hq S' hE ?_).2 (.inr ?_))
   ·rw[hask];exact⟨rt,rd,.nil,by rw[D7,hww];exact h1,h2,h3,by simp only[hf]⟩
   ·rw[hask];rfl
  |cons s t=>
   simp
   by_cases hs:s=dd
   ·subst hs;have hr:rt≠ .nil:=fun e=>by have:=h2 e;simp at this
    simp[hr];rw[J0 h1];have g1:=A9 (o':=Obj.cells (({ww with todo:=t}:Wk).cs rt rd .nil) Bo) h1
    have hpos:0 < dirs.length:=List.length_pos_iff.2 hne';have hE1:=hE.trans (Exo.set id S' (Obj.cells (({ww with todo:=t}:Wk).cs rt rd .nil) Bo))
    generalize S'.set id (Obj.cells (({ww with todo:=t}:Wk).cs rt rd .nil) Bo)=S1 at g1 hE1
    generalize hw1:({ww with todo:=t}:Wk)=w1 at g1
    have u2:w1.dirs=dirs:=by rw[←hw1];exact t2
    simp[Ew g1,u2];rw[D7,if_pos rfl] at hp
    by_cases c:1 < dirs.length
    ·rw[if_pos c] at hp;have ci:(1:Int) < dirs.length:=by omega
     have ew:IntKind.i64.wrap ((dirs.length:Int) - 1)=((dirs.length - 1:Nat):Int):=by rw[wrap64 (by omega) (by omega)];omega
     have hrd:rd.strip≠ .nil:=fun e=>by
      have:rd= .nil:=by cases rd<;>simp[Rt.strip] at e ⊢
      exact hne' (h3 this)
     simp[ci,ew,hrd];rw[←List.map_take,←List.dropLast_eq_take,LI g1];simp only[E5];refine⟨t.length,(t,dirs.dropLast),by simp at hn;omega,rfl,hE1.trans (Exo.set _ _ _),⟨rt,_,.nil,by rw[←hww] at hw1;rw[←hw1];exact A9 (by rw[←hw1] at g1;exact g1),fun e=>absurd e hr,fun e=>?_,by simp only⟩,hp,?_,?_,rfl⟩
     ·split at e
      ·exact absurd e hrd
      ·cases e
     ·intro e;have:=congrArg List.length e;simp at this;omega
     ·simp;omega
    ·rw[if_neg c] at hp;have ci:¬(1:Int) < dirs.length:=by omega
     simp[ci];refine⟨t.length,(t,dirs),by simp at hn;omega,rfl,hE1,⟨rt,rd,.nil,by rw[←hww] at hw1;rw[←hw1] at g1;exact g1,fun e=>absurd e hr,h3,by simp only⟩,hp,hne',hl',rfl⟩
   ·have hd:∃d,dirs.getLast? =some d:=by
     cases hd:dirs.getLast? with
     |none=>exact absurd (List.getLast?_eq_none_iff.1 hd) hne'
     |some d=>exact⟨d,rfl⟩
    obtain⟨d,hd⟩:=hd;simp[hs];refine Ni h1 (by rw[t2];exact hd) (by rw[t2];exact hl') ?_
    simp[EC h1,t1,Drx.c];refine Ni h1 (by rw[t2];exact hd) (by rw[t2];exact hl') ?_
    simp[EC h1,t1,Drx.c];have e1:D7 (s::t) dirs=(s::t,dirs):=by rw[D7,if_neg hs]
    rw[e1] at hask;have:=(hq S' hE ⟨rt,rd,.nil,by rw[hask];simp only;rw[hww];exact h1,by rw[hask];exact h2,by rw[hask];exact h3,by rw[hask];simp only[hf]⟩).1 hf s t d (by rw[hask]) (by rw[hask];exact hd)
    exact this
theorem U8{w0:World}(hm:LA w0){S:St}{p:List Spot}{pr:Rt}{path:Str}{fl:Bool}(hs:path.length≤1048576){Q:AV→St→Prop}
  (hq:match Cv path with
   |none=>Q (.tup [.nil,.int .i64 1]) S
   |some l=>∀S',Sx S S'→S.length < S'.length→Jr S' S.length ⟨l,[⟨[47],p,pr⟩],fl,0,none⟩→Q (.tup [.ptr S.length 0,.int .i64 0]) S'):AC w0 L3 [.vs 2 (p.map spC) pr,.str path,.bool fl] S Q:=by
 apply T9;unfold Ps;refine JD hm hs ?_;cases hsp:Cv path with
 |none=>
  rw[hsp] at hq;simp;exact hq
 |some l=>
  rw[hsp] at hq;intro r hr1 hr2;simp;refine hq _ (Sx.app _ _) (by simp) ⟨r.strip,.full,.nil,?_,fun e=>hr1 (by cases r<;>simp[Rt.strip] at e ⊢),by simp,by simp⟩
  rw[List.getElem?_append_right (Nat.le_refl _)];simp[Wk.cs,Drx.c,Rt.strip]
theorem Uj{w0:World}(hm:LA w0){S:St}{id:Nat}{w:Wk}{target:Str}(h:Jr S id w)(hf:w.fin=none)(hne:w.dirs≠[])(hs:target.length≤1048576)(hh:w.hops≤1000000)(hl:w.todo.length≤1000000){Q:AV→St→Prop}
  (hq:∀S',Exo id S S'→
   if 40 < w.hops+1 then (Jr S' id {w with hops:=w.hops+1}→Q (.int .i64 4) S')
   else match Cv target with
    |none=>Jr S' id {w with hops:=w.hops+1}→Q (.int .i64 1) S'
    |some l=>Jr S' id {w with todo:=l++w.todo,hops:=w.hops+1,dirs:=if target.head? =some 47 then w.dirs.take 1 else w.dirs}→Q (.int .i64 0) S'):AC w0 E8 [.ptr id 0,.str target] S Q:=by
 obtain⟨rt,rd,e,h1,h2,h3,h4⟩:=h;rw[hf] at h4;subst h4;apply LE;unfold HT;have ew:IntKind.i64.wrap ((w.hops:Int)+1)=((w.hops+1:Nat):Int):=by rw[wrap64 (by omega) (by omega)];omega
 simp[LT h1,ew];rw[show (AV.int .i64 ((w.hops:Int)+1))= .int .i64 ((w.hops+1:Nat):Int) by simp,Q8 h1]
 have g1:=A9 (o':=Obj.cells (({w with hops:=w.hops+1}:Wk).cs rt rd .nil) Bo) h1
 have hE1:=Exo.set id S (Obj.cells (({w with hops:=w.hops+1}:Wk).cs rt rd .nil) Bo)
 generalize S.set id (Obj.cells (({w with hops:=w.hops+1}:Wk).cs rt rd .nil) Bo)=S1 at g1 hE1
 have a1:Jr S1 id {w with hops:=w.hops+1}:=⟨rt,rd,.nil,g1,h2,h3,by simp only[hf]⟩
 simp[LT g1]
 by_cases c:40 < w.hops+1
 ·have ci:(40:Int) < (w.hops:Int)+1:=by omega
  have:=hq S1 hE1;rw[if_pos c] at this;simp[ci];exact this a1
 have ci:¬(40:Int) < (w.hops:Int)+1:=by omega
 simp only[if_neg c] at hq;simp[ci];refine JD hm hs ?_;cases hsp:Cv target with
 |none=>
  rw[hsp] at hq;simp;exact hq S1 hE1 a1
 |some l=>
  rw[hsp] at hq;intro r hr1 hr2;have hl2:=MP hsp;have hsh:=Mg hsp;have hap:∀(S2:St),BN AM S2 (.vs 1 (l.map EH) r) (.vs 1 (w.todo.map EH) rt.strip)=some (.vs 1 ((l++w.todo).map EH) (if w.todo=[] then r else .own (FB AM r))):=fun S2=>by
   have hrn:r≠ .none:=by rcases hr2 with rfl|rfl<;>simp
   simp only[BN,CH]
   by_cases e:w.todo=[]
   ·simp[e]
   ·have:l.length+w.todo.length≤lim:=by unfold lim;omega
    simp[e,hrn,this]
  have fin:∀(S2:St) (w2:Wk) (rd2:Rt),Exo id S1 S2→S2[id]? =some (.cells (w2.cs rt rd2 .nil) Bo)→w2.todo=w.todo→(rd2= .nil→w2.dirs=[])→w2.fin=none→w2.hops=w.hops+1→w2.follow=w.follow→w2.dirs=(if target.head? =some 47 then w.dirs.take 1 else w.dirs)→
    AA (Ap AW S2 (.ptr id 0)) fun t43=>AA (BN AM S2 (.vs 1 (l.map EH) r) t43.strip) fun t44=>AA (CU AW S2 (.ptr id 0) t44) fun S5=>Q (.int .i64 0) S5:=by
   intro S2 w2 rd2 hE2 k1 k2 k3 k4 k5 k6 k7;simp only[EC k1,E5,k2,YV,hap,Qm k1];refine hq _ ((hE1.trans hE2).trans (Exo.set _ _ _)) ⟨if w.todo=[] then r else .own (FB AM r),rd2,.nil,?_,fun e=>?_,fun e=>?_,by simp only[hf]⟩
   ·rw[A9 k1];simp[Wk.cs,k5,k6,k7]
   ·simp only;split at e
    ·rename_i e2;rw[hr1 e,e2];rfl
    ·cases e
   ·have:=k3 e;rw[k7] at this;exact this
  simp only[Vf,VT,Va,Vj,Vs,E5,XL,Xz];simp;rw[AG];have hpos:0 < w.dirs.length:=List.length_pos_iff.2 hne
  by_cases ch:target.head? =some 47
  ·have hcut:Dv Bx (.vs 2 (w.dirs.map Drx.c) rd) none (some (.int .i64 1)) none=some (.vs 2 ((w.dirs.take 1).map Drx.c) (if 1=w.dirs.length then rd else .none)):=by
    have hx:rd= .nil→w.dirs=[]:=h3;simp[show 1≤w.dirs.length by omega]
    exact hx
   simp only[ch,Ew g1,E5,Wz,hcut,P7 g1];simp;refine fin _ {w with hops:=w.hops+1,dirs:=w.dirs.take 1} (if 1=w.dirs.length then rd else .none) (Exo.set _ _ _) ?_ rfl (fun e=>?_) (by simp only[hf]) rfl rfl (by simp only[ch,if_true])
   ·rw[A9 g1]
   ·split at e
    ·exact absurd (h3 e) hne
    ·cases e
  ·have:(target.head? ==some 47)=false:=by simpa using ch
   rw[this];exact fin S1 {w with hops:=w.hops+1} rd (Exo.refl _ _) g1 rfl h3 (by simp only[hf]) rfl rfl (by simp only[ch,if_false])
theorem Tn{w0:World}(hm:LA w0){S:St}{id:Nat}{w:Wk}{f:Fnd}{fr:Rt}{there:Bool}{target:Str}(h:Jr S id w)(hf:w.fin=none)(hne:w.dirs≠[])(hl:w.dirs.length≤100000)(hh:w.hops≤1000000)(htl:w.todo.length≤100000)(hs:target.length≤1048576)
  (hask:w.todo.head?≠some dd) {Q:AV→St→Prop}
  (hq0:w.todo=[]→∀S',Exo id S S'→Jr S' id w→Q (.int .i64 1) S')
  (hq:∀s rest d,w.todo=s::rest→w.dirs.getLast? =some d→d.path.length+s.length≤1000000∧∀S',Exo id S S'→Jr S' id (w.tell d.path s rest f fr there target).1→Q (.int .i64 (w.tell d.path s rest f fr there target).2) S'):
  AC w0 D0 [.ptr id 0,.agg (f.c fr.strip),.bool there,.str target] S Q:=by
 have hpop:w.ask=w:=by
  simp only[Wk.ask,hf,Wk.pop,Vr hask];cases w;simp only at hf;subst hf;rfl
 apply K9;unfold HY;simp;refine Po h hne (by omega) (fun S1 hS1 hW=>?_)
 rw[hpop] at hW ⊢;cases ht:w.todo with
 |nil=>
  refine⟨fun _ s t d e=>(by cases e),fun _=>?_⟩
  simp;exact hq0 ht S1 hS1 hW
 |cons s rest=>
  refine⟨fun _ s' t' d e hd=>?_,fun e=>by rcases e with e|e;exact absurd hf e;cases e⟩
  cases e;obtain⟨hdl,hq⟩:=hq s rest d ht hd;unfold Wk.tell at hq;obtain⟨rt,rd,e,h1,h2,h3,h4⟩:=hW;rw[hf] at h4;subst h4;simp;cases there with
  |false=>
   simp;have:=hq S1 hS1;simp at this;exact this ⟨rt,rd,.nil,h1,h2,h3,by simp only[hf]⟩
  |true=>
   simp only[Bool.true_eq_false,if_false] at hq;simp[EC h1,ht];have hr:rt≠ .nil:=fun e=>by have:=h2 e;rw[ht] at this;cases this
   simp[hr];rw[J0 h1];have g1:=A9 (o':=Obj.cells (({w with todo:=rest}:Wk).cs rt rd .nil) Bo) h1
   have hE1:=hS1.trans (Exo.set id S1 (Obj.cells (({w with todo:=rest}:Wk).cs rt rd .nil) Bo))
   generalize S1.set id (Obj.cells (({w with todo:=rest}:Wk).cs rt rd .nil) Bo)=S2 at g1 hE1
   have a1:Jr S2 id {w with todo:=rest}:=⟨rt,rd,.nil,g1,fun e=>absurd e hr,h3,by simp only[hf]⟩
   simp[EC g1,Ok g1];refine ED (fun j=>∀S',Q (.int .i64 0) S'→j S') (fun S' h=>h) (fun j3 hj3=>?_)
   have hn':({w with todo:=rest}:Wk).dirs≠[]:=hne
   refine Un (fun hc=>?_) (fun hc=>?_)
   ·have c3:f.kind=3∧(rest≠[]∨w.follow=true):=by simpa using hc
    simp only[if_pos c3] at hq;rw[ht,List.length_cons] at htl;refine Uj hm a1 (by simp only[hf]) hne hs hh (by simp only;omega) (fun S3 hE3=>?_)
    have:=hq S3 (hE1.trans hE3)
    by_cases c40:40 < w.hops+1
    ·simp only[if_pos c40] at this ⊢;exact this
    ·simp only[if_neg c40] at this ⊢;cases hsp:Cv target with
     |none=>simp only[hsp] at this;exact this
     |some l=>simp only[hsp] at this;exact this
   have c3:¬(f.kind=3∧(rest≠[]∨w.follow=true)):=by
    intro h;have:(decide (f.kind=3)&&(!decide (rest=[])||w.follow))=true:=by simpa using h
    rw[this] at hc;cases hc
   simp only[if_neg c3] at hq
   by_cases k2:f.kind=2
   ·simp only[if_pos k2] at hq;have hrd:rd.strip≠ .nil:=fun e=>by
     have:rd= .nil:=by cases rd<;>simp[Rt.strip] at e ⊢
     exact hne (h3 this)
    have hcut:Dv Bx (.vs 2 (w.dirs.map Drx.c) rd.strip) none (some (.int .i64 (w.dirs.length:Int))) (some (.int .i64 (w.dirs.length:Int)))=some (.vs 2 (w.dirs.map Drx.c) .full):=by
     simp[Dv,bnd,hrd];rw[List.take_of_length_le (by simp)]
    simp[k2,Ew g1,hcut];refine Ma (by omega) ?_
    simp[Ew g1];have hap:BN Bx S2 (.vs 2 (w.dirs.map Drx.c) .full) (.vs 2 [[.str (if d.path=[47] then d.path++s else d.path++47::s),.vs 2 (f.dirs.map spC) fr.strip]] .full)=some (.vs 2 ((w.dirs++[({path:=if d.path=[47] then d.path++s else d.path++47::s,place:=f.dirs,r:=fr}:Drx)]).map Drx.c) (.own (FB Bx .full))):=by
     simp[BN,CH,Drx.c,show w.dirs.length+1≤lim by unfold lim;omega]
    rw[hap];simp only[E5,LI g1];refine hj3 _ (hq _ (hE1.trans (Exo.set _ _ _)) ⟨rt,_,.nil,A9 g1,fun e=>absurd e hr,fun e=>(by cases e),by simp only[hf]⟩)
   simp only[if_neg k2] at hq
   by_cases cr:rest≠[]
   ·simp only[if_pos cr] at hq;simp[k2,cr];exact hq S2 hE1 a1
   simp only[if_neg cr] at hq;have cr2:rest=[]:=by simpa using cr
   simp[k2,cr2];refine Ma (by omega) ?_
   simp;have hlt:id < S2.length:=(List.getElem?_eq_some_iff.1 g1).1;generalize hO:Obj.cells [AV.str (if d.path=[47] then d.path++s else d.path++47::s),.int .i64 f.kind,.int .i64 f.sp.1,.int .i64 f.sp.2,.vs 2 (f.dirs.map spC) fr.strip] GQ=O
   have g2:(S2++[O])[id]? =some (.cells (({w with todo:=rest}:Wk).cs rt rd .nil) Bo):=by rw[List.getElem?_append_left hlt];exact g1
   have g3:(S2++[O])[S2.length]? =some O:=by simp
   rw[SA g2];simp only[E5];refine hj3 _ (hq _ ((hE1.trans (Exo.app _ _ _)).trans (Exo.set _ _ _)) ⟨rt,rd,.ptr S2.length 0,?_,fun e=>absurd e hr,h3,S2.length,fr.strip,rfl,by omega,?_⟩)
   ·rw[A9 g2,cr2];rfl
   ·rw[List.getElem?_set_ne (by omega),g3,←hO]
    rfl
theorem Li{w0:World}{S:St}{id:Nat}{w:Wk}(h:Jr S id w)(hne:w.dirs≠[])(hl:w.dirs.length≤100000){Q:AV→St→Prop}
  (hq:match w.fin with
   |some p=>∀r:Rt,Q (.agg (.str p.1::p.2.c r.strip)) S
   |none=>∀(d:Drx) (r:Rt),w.dirs.getLast? =some d→Q (.agg (.str d.path::(VS d.place).c r.strip)) S):AC w0 EY [.ptr id 0] S Q:=by
 obtain⟨rt,rd,e,h1,h2,h3,h4⟩:=h;apply Ji;unfold Gj;cases hf:w.fin with
 |some p=>
  rw[hf] at h4 hq;obtain⟨j,r,rfl,hj,hjc⟩:=h4;have hld:Ap AP S (.ptr j 0)=some (.agg (.str p.1::p.2.c r)):=by rw[CA hjc];simp[Fnd.c]
  simp[HG h1,hld,Fnd.c];exact hq r
 |none=>
  rw[hf] at h4 hq;subst h4;have hd:∃d,w.dirs.getLast? =some d:=by
   cases hd:w.dirs.getLast? with
   |none=>exact absurd (List.getLast?_eq_none_iff.1 hd) hne
   |some d=>exact⟨d,rfl⟩
  obtain⟨d,hd⟩:=hd;simp[HG h1];refine Ni h1 hd (by omega) ?_
  simp[Drx.c];rw[AG];cases hp:d.place with
  |nil=>
   simp;have:=hq d d.r hd;rw[hp] at this;simpa[VS,Fnd.c] using this
  |cons x p=>
   simp[spC];have:=hq d d.r hd;rw[hp] at this;simpa[VS,Fnd.c,spC] using this
structure Leads(S:St)(s:Stk)(D:List Node):Prop where
 ok:s.ok
 on:s.on S
 good:YP s.tabs
 root:OnP s.tabs (Ga s.tabs 0) (D5 D)
 dirs:∀n∈D5 D,n.ok∧n.allB=true∧n.kind=2∧n.depth≤15∧n.count≤100000
 few:(D5 D).length≤64
theorem Leads.start{S:St}{s:Stk}{D:List Node}(h:Leads S s D)(r:Rt):HS s.tabs D [⟨[47],Ga s.tabs 0,r⟩] []:=by
 refine⟨rfl,fun k hk=>?_,by simp⟩
 simp at hk;subst hk;exact⟨_,rfl,by simp[pathOf,Lib.join_nil],rfl,h.root,by simpa[DQ] using h.dirs,h.few,by simp⟩
theorem Leads.mono{S S':St}{s:Stk}{D:List Node}(h:Leads S s D)(k:Sx S S'):Leads S' s D:=⟨h.ok,h.on.mono k,h.good,h.root,h.dirs,h.few⟩
def dX(s:Stk)(D:List Node)(want:AtN)(S:St)(n:Nat)(S':St):Prop:=
 Sx S S'∧S.length < S'.length∧n≤100000∧∃w,Jr S' S.length w∧w.todo.length≤n∧((∃h names,Going s.tabs D want w h names∧n=w.todo.length+129*h+1)∨(∃g names,HS s.tabs D w.dirs names∧w.fin=some (pathOf want.names,g)∧w.todo=[]∧Ends s.tabs D want g))
theorem OE{w0:World}(hm:LA w0){S:St}{s:Stk}{D:List Node}{path:Str}{fl:Bool}(hL:Leads S s D)(hs:path.length≤1048576){Q:AV→St→Prop}
  (hq:∀S',Sx S S'→((Hg D path fl).err≠0→Q (.tup [.agg (.str []::Fnd.none.c .nil),.int .i64 (Hg D path fl).err]) S')∧
   ((Hg D path fl).err=0→∀(t:Fnd) (r:Rt),Ends s.tabs D (Hg D path fl) t→Q (.tup [.agg (.str (pathOf (Hg D path fl).names)::t.c r.strip),.int .i64 0]) S')):AC w0 IF [.agg s.c,.str path,.bool fl] S Q:=by
 have hc:s.c=[.vs 2 (s.l.map Mnt.c) s.r.strip,.int .i64 s.next]:=rfl;rw[hc];apply TL;unfold Oe;simp[←hc];refine UV hL.ok hL.on (fun r hr=>?_)
 simp;refine U8 hm hs ?_;cases hsp:Cv path with
 |none=>
  simp;have:=(hq S (Sx.refl _)).1 (by simp[Hg,hsp])
  simpa[Hg,hsp,Fnd.c,Fnd.none] using this
 |some l=>
  intro S1 hS1 hlt hW;have hw:Hg D path fl=Kg D fl 40 l []:=by rw[Hg,hsp]
  rw[hw] at hq;simp;generalize hwant:Kg D fl 40 l []=want at hq;refine HZ (fun _:Unit=>([],[some s.c,some [.str [],.int .i64 0,.int .i64 0,.int .i64 0,.vs 2 [] .nil]]))
   (fun n _ S'=>dX s D want S n S') (l.length+129*40+1) ()
   rfl ⟨hS1,hlt,by have:=MP hsp;have:=Mg hsp;omega,_,hW,by simp only;omega,.inl ⟨40,[],⟨hL.start _,rfl,fun x hx=>Pq hsp x hx,rfl,hwant⟩,rfl⟩⟩ ?_
  rintro n _ S2 v b ⟨hS2,hlt2,hnl0,w,hW2,htl,hcase⟩ hv;simp at hv;obtain⟨hv1,hv2⟩:=hv;have hL2:=hL.mono hS2;simp[hv1,hv2];have hdirs:∃names,HS s.tabs D w.dirs names:=by
   rcases hcase with ⟨h,names,g,_⟩|⟨_,names,h,_⟩
   ·exact⟨names,g.on⟩
   ·exact⟨names,h⟩
  obtain⟨nm0,hon0⟩:=hdirs;have hdl:w.dirs.length≤16:=by
   obtain⟨d,_,_,h3⟩:=hon0.last;have:=h3.short;have:=hon0.len;omega
  have hdn:w.dirs≠[]:=fun e=>by have:=hon0.len;rw[e] at this;simp at this
  refine Po hW2 hdn (by omega) (fun S3 hE3 hW3=>?_)
  have hS3:Sx S S3:=hE3.Sx_of hS2 (Nat.le_refl _);have hlt3:S.length < S3.length:=Nat.lt_of_lt_of_le hlt2 hE3.1;have hL3:=hL.mono hS3;rcases hcase with ⟨h,names,g,hn⟩|⟨g,names,hg1,hg2,hg4,hg3⟩
  ·have hf:=g.fin;have hask:w.ask=w.pop:=by rw[Wk.ask,hf]
   rw[hask] at hW3 ⊢;obtain⟨names',g'⟩:=g.pop;have hhd:w.pop.todo.head?≠some dd:=Pb _ _;have hpl:w.pop.todo.length≤w.todo.length:=Rp _ _;generalize w.pop=w1 at hW3 g' hhd hpl ⊢;have hdl1:w1.dirs.length≤16:=by
    obtain⟨d,_,_,h3⟩:=g'.on.last;have:=h3.short;have:=g'.on.len;omega
   have hdn1:w1.dirs≠[]:=fun e=>by have:=g'.on.len;rw[e] at this;simp at this
   cases ht:w1.todo with
   |nil=>
    refine⟨fun _ s' t' d e=>(by cases e),fun _=>?_⟩
    simp;refine Li hW3 hdn1 (by omega) ?_
    rw[g'.fin];intro d r hd;obtain⟨d',e1,e2,e3⟩:=g'.end ht;rw[hd] at e1;cases e1;have:=(hq S3 hS3).2 e3.1 (VS d.place) r e3;simp[Fnd.c];rw[e2];simpa[Fnd.c] using this
   |cons nm rest=>
    refine⟨fun _ s' t' d e hd=>?_,fun e=>by rcases e with e|e;exact absurd hf e;cases e⟩
    cases e;have hnd:nm≠dd:=fun e=>hhd (by rw[ht,e];rfl)
    obtain⟨d0,d01,d02,hd0⟩:=g'.on.last;rw[hd] at d01;cases d01;have hon:=hd0.on;have hfew:=hd0.few;rw[←hon.len] at hfew;have hag:=IJ s.tabs nm _ _ hon (fun n hn=>(hd0.good n hn).2.1)
    have hdp:=hd0.at_;rw[hdp] at hon hfew hag ⊢;simp;refine UY hL.ok hL3.on hL.good (by omega) (fun rf hrf=>?_)
    have hnl:nm.length≤64:=by
     have:=(g'.td nm (by rw[ht];simp)).resolve_left hnd
     exact(Gc this).2.2.2.1
    have hpth:d.path.length≤1000:=by rw[hd0.path];exact Vm hd0.short g'.on.nm
    have tell:∀(target:Str),target.length≤1048576→((Cy s.tabs nm (Db s.tabs names') Fnd.none).kind=3→∀y l,DZ (DQ D names') nm=y::l→target=y.target)→∀(k:AV→St→Prop),
      (∀S5 e,Sx S S5→S.length < S5.length→(e≠0→want.err=e→k (.int .i64 e) S5)∧(e=0→Nx (fun _:Unit=>([],[some s.c,some [.str [],.int .i64 0,.int .i64 0,.int .i64 0,.vs 2 [] .nil]]))
   (fun n _ S'=>dX s D want S n S') n ([],[some s.c,some [.str [],.int .i64 0,.int .i64 0,.int .i64 0,.vs 2 [] .nil]]) S5→k (.int .i64 e) S5))→
      AC w0 D0 [.ptr S.length 0,.agg ((Cy s.tabs nm (Db s.tabs names') Fnd.none).c rf.strip),.bool (decide ((Cy s.tabs nm (Db s.tabs names') Fnd.none).kind≠0)),.str target] S3 k:=by
     intro target htg hty k hk;refine Tn hm hW3 g'.fin hdn1 (by omega) (by have:=g'.hops;omega) (by omega) htg hhd (fun e=>by rw[ht] at e;cases e) (fun s' rest' d' e1 e2=>?_)
     rw[ht] at e1;cases e1;rw[hd] at e2;cases e2;refine⟨by omega,fun S5 hE5 hW5=>?_⟩
     obtain⟨d2,k1,k2,k3,k4,k5⟩:=g'.step (fr:=rf) ht hnd rfl hty;rw[hd] at k1;cases k1;rw[k2] at hW5 ⊢;generalize w1.tell (pathOf names') nm rest (Cy s.tabs nm (Db s.tabs names') Fnd.none) rf (decide ((Cy s.tabs nm (Db s.tabs names') Fnd.none).kind≠0)) target=te at k5 hW5 ⊢;obtain⟨w2,e⟩:=te;simp only at k5 hW5 ⊢;obtain⟨k6,k7⟩:=k5;have hS5:=hE5.Sx_of hS3 (Nat.le_refl _);have hlt5:S.length < S5.length:=Nat.lt_of_lt_of_le hlt3 hE5.1;refine(hk S5 e hS5 hlt5).elim fun q1 q2=>?_
     by_cases he:e=0
     ·have hll:w1.todo.length=rest.length+1:=by rw[ht];rfl
      refine q2 he ?_;rcases k7 he with ⟨h',nm2,g2,hc⟩|⟨gg,c1,c2,c3,c4⟩
      ·rcases hc with ⟨c1,c2⟩|⟨c1,pp,c2,c3⟩
       ·exact⟨w2.todo.length+129*h'+1,(),by rw[c1,c2];omega,rfl,hS5,hlt5,by rw[c1,c2];omega,w2,hW5,by omega,.inl ⟨h',nm2,g2,rfl⟩⟩
       ·have hpl2:w2.todo.length=pp.length+rest.length:=by rw[c3,List.length_append]
        exact⟨w2.todo.length+129*h'+1,(),by omega,rfl,hS5,hlt5,by omega,w2,hW5,by omega,.inl ⟨h',nm2,g2,rfl⟩⟩
      ·exact⟨0,(),by omega,rfl,hS5,hlt5,by omega,w2,hW5,by rw[c4];simp,.inr ⟨gg,names',by rw[c4];exact g'.on,c1,by rw[c4],c2⟩⟩
     ·exact q1 he (k6 he)
    generalize hf':Cy s.tabs nm (Db s.tabs names') Fnd.none=f at hag tell ⊢;simp[Fnd.c];refine ED (fun j=>∀target:Str,target.length≤1048576→(f.kind=3→∀y l,DZ (DQ D names') nm=y::l→target=y.target)→j (.str target) S3) (fun target h1 h2=>?_) (fun j hj=>?_)
    ·simp;have:=tell target h1 h2;simp[Fnd.c] at this;refine this _ (fun S5 e hS5 hlt5=>⟨fun he hw2=>?_,fun he hN=>?_⟩)
     ·have hx:=(hq S5 hS5).1 (by rw[hw2];exact he)
      rw[hw2] at hx;simp[he];simpa[Fnd.c,Fnd.none] using hx
     ·simp[he];exact hN
    ·by_cases k3:f.kind=3
     ·simp[k3];cases hsn:DZ (DQ D names') nm with
      |nil=>
       rw[hsn] at hag;rw[show f=Fnd.none from hag] at k3
       cases k3
      |cons y l2=>
       rw[hsn] at hag;obtain⟨a1,a2,a3,a4,a5,a6,a7,a8⟩:=hag;obtain⟨m,b1,b2,b3,b4⟩:=a4.at_;refine Hl ?_;rw[b1];simp;refine Jh (hL3.on m b2) ?_;rw[b3];have hty:=LP a5 (a1 ▸ k3);obtain⟨pp,hp1,hp2⟩:=hty;refine hj _ (by show y.target.length≤_;omega) (fun _ y' l' e=>by rw[hsn] at e;cases e;rfl)
     ·simp[k3];exact hj _ (by simp) (fun e=>absurd e k3)
  ·have hask:w.ask=w:=by rw[Wk.ask,hg2]
   rw[hask] at hW3 ⊢;refine⟨fun e=>(by rw[hg2] at e;cases e),fun _=>?_⟩
   simp;refine Li hW3 hdn (by omega) ?_
   rw[hg2];intro r;have:=(hq S3 hS3).2 hg3.1 g r hg3;simp[Fnd.c];simpa[Fnd.c] using this
open Go.Proofs
structure Docs(D:List Node):Prop where
 len:D.length≤1000000
 ok:∀n∈D,n.ok
 dirs:∀n∈D5 D,n.ok∧n.allB=true
 few:(D5 D).length≤64
end Go.Av
