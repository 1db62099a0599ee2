/- Parts of the proofs of this seat: abstract values over the model, and what the functions of the program do. No condition. -/
import Derived.Test.YtehadbpejfjheaaGreatDoorM12
import Derived.Test.YtehadbpejfjheaaGreatDoorM6
import Derived.IntWalk
set_option linter.all false
set_option maxRecDepth 100000
namespace Go.Av
section
variable {α:Type}
@[simp] theorem AF{x:α}{k:α→Prop}:AA (some x) k=k x:=rfl
@[simp] theorem mB{k:α→Prop}:AA none k=False:=rfl
theorem AO{r:α}{b:α→Prop}:AY r b=b r:=rfl
@[simp] theorem Cf{A B:Prop}:ifK (.bool true) A B=A:=rfl
@[simp] theorem CP{A B:Prop}:ifK (.bool false) A B=B:=rfl
theorem fC{b:Bool}{A B:Prop}(h1:b=true→A)(h2:b=false→B):ifK (.bool b) A B:=by
 cases b
 ·exact h2 rfl
 ·exact h1 rfl
@[simp] theorem pH{A B Z:Prop}:gK (.bool true) A B Z=A:=rfl
@[simp] theorem oh{A B Z:Prop}:gK (.bool false) A B Z=B:=rfl
@[simp] theorem pA{A B Z:Prop}:gK (.tup []) A B Z=Z:=rfl
end
@[simp] theorem CG(k:IntKind)(n:Int):AV.strip (.int k n)= .int k n:=rfl
@[simp] theorem Ci(b:Bool):AV.strip (.bool b)= .bool b:=rfl
@[simp] theorem TF(s:List UInt8):AV.strip (.str s)= .str s:=rfl
@[simp] theorem strip_nil:AV.strip .nil= .nil:=rfl
@[simp] theorem Bq(i o:Nat):AV.strip (.ptr i o)= .ptr i o:=rfl
@[simp] theorem oS(c:List AV)(o:Nat):AV.strip (.ep c o)= .ep c o:=rfl
@[simp] theorem ML(z:Nat)(es:List (List AV))(r:Rt):AV.strip (.vs z es r)= .vs z es r.strip:=rfl
@[simp] theorem Ey(a b c d:Nat):AV.strip (.rs a b c d)= .rs a b c d:=rfl
@[simp] theorem Yh(m:Option Nat):AV.strip (.map m)= .map m:=rfl
@[simp] theorem oL(f:Nat)(a b:List AV):AV.strip (.fn f a b)= .fn f a b:=rfl
@[simp] theorem lm:AV.strip .nilfn= .nilfn:=rfl
@[simp] theorem nl(t:Nat)(v:AV):AV.strip (.ifc t v)= .ifc t v:=rfl
@[simp] theorem lE:AV.strip .nilifc= .nilifc:=rfl
@[simp] theorem nV(cs:List AV):AV.strip (.agg cs)= .agg (cs.map AV.strip1):=rfl
@[simp] theorem lj:AV.strip .undef= .undef:=rfl
@[simp] theorem nJ(cs:List AV):AV.strip (.tup cs)= .tup (cs.map AV.strip2):=rfl
@[simp] theorem mR(k:IntKind)(n:Int):AV.strip1 (.int k n)= .int k n:=rfl
@[simp] theorem lO(b:Bool):AV.strip1 (.bool b)= .bool b:=rfl
@[simp] theorem mM(s:List UInt8):AV.strip1 (.str s)= .str s:=rfl
@[simp] theorem nQ(z:Nat)(es:List (List AV))(r:Rt):AV.strip1 (.vs z es r)= .vs z es r.strip:=rfl
@[simp] theorem mA(m:Option Nat):AV.strip1 (.map m)= .map m:=rfl
@[simp] theorem mp(i o:Nat):AV.strip1 (.ptr i o)= .ptr i o:=rfl
@[simp] theorem mu:AV.strip1 .nil= .nil:=rfl
@[simp] theorem nP(f:Nat)(a b:List AV):AV.strip1 (.fn f a b)= .fn f a b:=rfl
@[simp] theorem mP(t:Nat)(v:AV):AV.strip1 (.ifc t v)= .ifc t v:=rfl
@[simp] theorem fF(z:Nat)(es:List (List AV))(r:Rt):AV.strip0 (.vs z es r)= .vs z es r:=rfl
@[simp] theorem mm(cs:List AV):AV.strip0 (.agg cs)= .agg (cs.map AV.strip1):=rfl
@[simp] theorem lG(t:Nat):Rt.strip (.own t)= .none:=rfl
@[simp] theorem kj:Rt.strip .nil= .nil:=rfl
@[simp] theorem jk:Rt.strip .full= .full:=rfl
@[simp] theorem jv:Rt.strip .none= .none:=rfl
theorem Ac{i:TI}{S:St}{id off tg:Nat}{cs:List AV}(h:S[id]? =some (.cells cs tg)):AI i S (.ptr id off)=Dv i cs off:=by simp[AI,DG,h]
@[simp] theorem oE{i:TI}{S:St}{off:Nat}{cs:List AV}:AI i S (.ep cs off)=Dv i cs off:=rfl
theorem Be{i:TI}{S:St}{id off tg:Nat}{cs:List AV}{x:AV}(h:S[id]? =some (.cells cs tg)):Bn i S (.ptr id off) x=(BS i cs off x).map fun cs'=>S.set id (.cells cs' tg):=by simp[Bn,DG,Jy,h]
@[simp] theorem E6{S:St}{id off tg:Nat}{cs:List AV}(h:S[id]? =some (.cells cs tg)):stripMem S (.ptr id off)=S.set id (.cells (cs.modify off AV.strip1) tg):=by simp[stripMem,DG,Jy,h]
theorem wrap64{n:Int}(h1:-9223372036854775808≤n)(h2:n≤9223372036854775807):IntKind.i64.wrap n=n:=IntWalk.i64_in n ⟨h1,h2⟩
theorem Al{S:St}{id:Nat}{o o':Obj}(h:S[id]? =some o):(S.set id o')[id]? =some o':=by
 have:=(List.getElem?_eq_some_iff.1 h).1;simp[this]
theorem As{S:St}{id j:Nat}{o':Obj}(h:id≠j):(S.set id o')[j]? =S[j]?:=by simp[h]
@[simp] theorem cY(a:AV)(l:List AV):AQ (.tup (a::l)) 0= .tup (a.strip2::l):=rfl
@[simp] theorem dP(a b:AV)(l:List AV):AQ (.tup (a::b::l)) 1= .tup (a::b.strip2::l):=rfl
@[simp] theorem l7(a b c:AV)(l:List AV):AQ (.tup (a::b::c::l)) 2= .tup (a::b::c.strip2::l):=rfl
@[simp] theorem l9(a b c d:AV)(l:List AV):AQ (.tup (a::b::c::d::l)) 3= .tup (a::b::c::d.strip2::l):=rfl
@[simp] theorem dG(a:AV)(l:List AV):AK (.tup (a::l)) 0=some a:=rfl
@[simp] theorem dF(a b:AV)(l:List AV):AK (.tup (a::b::l)) 1=some b:=rfl
@[simp] theorem dM(a b c:AV)(l:List AV):AK (.tup (a::b::c::l)) 2=some c:=rfl
@[simp] theorem mW(a b c d:AV)(l:List AV):AK (.tup (a::b::c::d::l)) 3=some d:=rfl
@[simp] theorem mK(k:IntKind)(n:Int):AV.strip2 (.int k n)= .int k n:=rfl
@[simp] theorem lM(b:Bool):AV.strip2 (.bool b)= .bool b:=rfl
@[simp] theorem ml(s:List UInt8):AV.strip2 (.str s)= .str s:=rfl
@[simp] theorem mY:AV.strip2 .nil= .nil:=rfl
@[simp] theorem l0(i o:Nat):AV.strip2 (.ptr i o)= .ptr i o:=rfl
@[simp] theorem nR(z:Nat)(es:List (List AV))(r:Rt):AV.strip2 (.vs z es r)= .vs z es r.strip:=rfl
@[simp] theorem mS(m:Option Nat):AV.strip2 (.map m)= .map m:=rfl
@[simp] theorem mG(cs:List AV):AV.strip2 (.agg cs)= .agg (cs.map AV.strip1):=rfl
@[simp] theorem l8(k:IntKind)(n:Int):AV.strip0 (.int k n)= .int k n:=rfl
@[simp] theorem oq(k:IntKind)(n:Int):AV.flat (.int k n)= .int k n:=rfl
@[simp] theorem np(b:Bool):AV.flat (.bool b)= .bool b:=rfl
@[simp] theorem oC(s:List UInt8):AV.flat (.str s)= .str s:=rfl
@[simp] theorem pM(z:Nat)(es:List (List AV))(r:Rt):AV.flat (.vs z es r)= .vs z es r:=rfl
@[simp] theorem flat_agg(cs:List AV):AV.flat (.agg cs)= .agg cs:=rfl
@[simp] theorem oM(i o:Nat):AV.flat (.ptr i o)= .ptr i o:=rfl
@[simp] theorem oF:AV.flat .nil= .nil:=rfl
@[simp] theorem oJ(i o:Nat):Ig (.ptr i o)=some (.ptr i o):=rfl
@[simp] theorem pB(c:List AV)(o:Nat):Ig (.ep c o)=some (.ep c o):=rfl
@[simp] theorem lV(i o d:Nat):Bd (.ptr i o) d=some (.ptr i (o+d)):=rfl
@[simp] theorem mf(c:List AV)(o d:Nat):Bd (.ep c o) d=some (.ep c (o+d)):=rfl
@[simp] theorem mT(a b:AV):Aq (.bool true) a b=some a:=rfl
@[simp] theorem lR(a b:AV):Aq (.bool false) a b=some b:=rfl
@[simp] theorem pO(b:Bool):unA .not (.bool b)=some (.bool (!b)):=rfl
@[simp] theorem ow(k:IntKind)(a b:Int):AP .add (.int k a) (.int k b)=some (.int k (k.wrap (a+b))):=by simp[AP,GN]
@[simp] theorem iF(k:IntKind)(a b:Int):AP .sub (.int k a) (.int k b)=some (.int k (k.wrap (a - b))):=by simp[AP,GN]
@[simp] theorem o0(k:IntKind)(a b:Int):AP .mul (.int k a) (.int k b)=some (.int k (k.wrap (a*b))):=by simp[AP,GN]
@[simp] theorem ny(k:IntKind)(a b:Int):AP .eql (.int k a) (.int k b)=some (.bool (decide (a=b))):=by simp[AP,GN];rfl
@[simp] theorem iE(k:IntKind)(a b:Int):AP .neq (.int k a) (.int k b)=some (.bool (decide (a≠b))):=by simp[AP,GN];by_cases h:a=b<;>simp[h]
@[simp] theorem GL(k:IntKind)(a b:Int):AP .lss (.int k a) (.int k b)=some (.bool (decide (a < b))):=by simp[AP,GN]
@[simp] theorem nw(k:IntKind)(a b:Int):AP .leq (.int k a) (.int k b)=some (.bool (decide (a≤b))):=by simp[AP,GN]
@[simp] theorem ou(k:IntKind)(a b:Int):AP .gtr (.int k a) (.int k b)=some (.bool (decide (a > b))):=by simp[AP,GN]
@[simp] theorem o6(k:IntKind)(a b:Int):AP .geq (.int k a) (.int k b)=some (.bool (decide (a≥b))):=by simp[AP,GN]
@[simp] theorem je(a b:Bool):Ic .bool .eql (.bool a) (.bool b)=some (.bool (a==b)):=rfl
@[simp] theorem jr(a b:Bool):Ic .bool .neq (.bool a) (.bool b)=some (.bool (!(a==b))):=rfl
@[simp] theorem nd(z:Nat)(es:List (List AV))(r:Rt):A6 (.vs z es r)=some (.int .i64 es.length):=rfl
@[simp] theorem lI(s:List UInt8):FJ (.str s)=some (.int .i64 s.length):=rfl
@[simp] theorem nI{Ca:Nat→List AV→St→(AV→St→Prop)→Prop}{g:Nat}{xs:List AV}{S:St}{k:AV→St→Prop}:AX Ca g xs S k=AA (CD xs) fun xs=>Ca g xs S k:=rfl
@[simp] theorem o8(k:IntKind)(n:Int):AV.free (.int k n)=true:=rfl
@[simp] theorem nT(b:Bool):AV.free (.bool b)=true:=rfl
@[simp] theorem n7(s:List UInt8):AV.free (.str s)=true:=rfl
@[simp] theorem pD(z:Nat)(es:List (List AV))(r:Rt):AV.free (.vs z es r)=true:=rfl
@[simp] theorem oe(i o:Nat):AV.free (.ptr i o)=true:=rfl
@[simp] theorem od:AV.free .nil=true:=rfl
@[simp] theorem nz(m:Option Nat):AV.free (.map m)=true:=rfl
@[simp] theorem n8(cs:List AV):AV.free (.agg cs)=cs.all AV.free1:=rfl
@[simp] theorem pP(f:Nat)(a b:List AV):AV.free (.fn f a b)=true:=rfl
@[simp] theorem og(t:Nat)(v:AV):AV.free (.ifc t v)=true:=rfl
@[simp] theorem m6(k:IntKind)(n:Int):AV.free1 (.int k n)=true:=rfl
@[simp] theorem mJ(b:Bool):AV.free1 (.bool b)=true:=rfl
@[simp] theorem nh(s:List UInt8):AV.free1 (.str s)=true:=rfl
@[simp] theorem nv(z:Nat)(es:List (List AV))(r:Rt):AV.free1 (.vs z es r)=true:=rfl
@[simp] theorem nS(i o:Nat):AV.free1 (.ptr i o)=true:=rfl
@[simp] theorem nH(m:Option Nat):AV.free1 (.map m)=true:=rfl
@[simp] theorem nY(k:IntKind)(n:Int):AV.cells (.int k n)=[.int k n]:=rfl
@[simp] theorem mr(b:Bool):AV.cells (.bool b)=[.bool b]:=rfl
@[simp] theorem nU(s:List UInt8):AV.cells (.str s)=[.str s]:=rfl
@[simp] theorem o7(z:Nat)(es:List (List AV))(r:Rt):AV.cells (.vs z es r)=[.vs z es r]:=rfl
@[simp] theorem no(i o:Nat):AV.cells (.ptr i o)=[.ptr i o]:=rfl
@[simp] theorem nE(m:Option Nat):AV.cells (.map m)=[.map m]:=rfl
@[simp] theorem nM(cs:List AV):AV.cells (.agg cs)=cs:=rfl
attribute [simp] Dv CD BS A9 AB AZ CC Il bO By Md Ye CE Fx
theorem O4{g:KK}{S:St}{id:Nat}{es:List (AV×AV)}{key x:AV}(h:S[id]? =some (.map es))(hk:LT g key=true)(hx:x.free=true)(hf:Gf key es 0=some none):
  HW g S (.map (some id)) key x=some (S.set id (.map (es++[(key,x.strip)]))):=by simp[HW,hk,hx,Jx,h,hf]
@[simp] theorem kU(k k':IntKind)(n:Int):Cq k (.int k' n)=some (.int k (k.wrap n)):=rfl
theorem ak(k:IntKind)(a b:Int)(hb:b≠0):AP .quo (.int k a) (.int k b)=some (.int k (k.wrap (a.tdiv b))):=by simp[AP,GN,hb]
@[simp] theorem pC {c : Bool} {k : AV → Prop} {B : (AV → Prop) → Prop} :
  AY (fun x=>AA (Aq (.bool c) (.bool true) x) k) (fun j=>ifK (.bool c) (j (.tup [])) (B j))=AY k (fun j=>ifK (.bool c) (j (.bool true)) (B j)):=by cases c<;>rfl
@[simp] theorem n5 {c : Bool} {k : AV → Prop} {B : (AV → Prop) → Prop} :
  AY (fun x=>AA (Aq (.bool c) x (.bool false)) k) (fun j=>ifK (.bool c) (B j) (j (.tup [])))=AY k (fun j=>ifK (.bool c) (B j) (j (.bool false))):=by cases c<;>rfl
@[simp] theorem oD {c : Bool} {k : St → AV → Prop} {S : St} {B : (AV → St → Prop) → Prop} :
  AY (fun x S=>AA (Aq (.bool c) (.bool true) x) (k S)) (fun j=>ifK (.bool c) (j (.tup []) S) (B j))=AY (fun x S=>k S x) (fun j=>ifK (.bool c) (j (.bool true) S) (B j)):=by cases c<;>rfl
@[simp] theorem ni {c : Bool} {k : St → AV → Prop} {S : St} {B : (AV → St → Prop) → Prop} :
  AY (fun x S=>AA (Aq (.bool c) x (.bool false)) (k S)) (fun j=>ifK (.bool c) (B j) (j (.tup []) S))=AY (fun x S=>k S x) (fun j=>ifK (.bool c) (B j) (j (.bool false) S)):=by cases c<;>rfl
@[simp] theorem pG{c d:Bool}{k:AV→Prop}:AY k (fun j=>ifK (.bool c) (j (.bool true)) (j (.bool d)))=k (.bool (c||d)):=by cases c<;>rfl
@[simp] theorem nu{c d:Bool}{k:AV→Prop}:AY k (fun j=>ifK (.bool c) (j (.bool d)) (j (.bool false)))=k (.bool (c&&d)):=by cases c<;>rfl
@[simp] theorem join_one{α:Type}{k:α→Prop}{x:α}:AY k (fun j=>j x)=k x:=rfl
@[simp] theorem nO{α β:Type}{k:α→β→Prop}{x:α}{y:β}:AY k (fun j=>j x y)=k x y:=rfl
theorem DX{α:Type}{r:α}{b:α→Prop}(J:α→Prop)(h1:J r)(h2:∀j,J j→b j):AY r b:=h2 r h1
theorem eo{c:Bool}{A B:Prop}(h1:c=true→A)(h2:c=false→B):ifK (.bool c) A B:=fC h1 h2
structure Nx{σ:Type}(e:σ→Lv)(Inv:Nat→σ→St→Prop)(n:Nat)(x:Lv)(S':St):Prop where
 ex:∃m s',m < n∧x=e s'∧Inv m s' S'
theorem Fw{σ:Type}{x0:Lv}{pj:(Nat→AV)→(Nat→Option (List AV))→Lv}{body:(Lv→St→Prop)→(Nat→AV)→(Nat→Option (List AV))→St→Prop}{S:St}(e:σ→Lv)(Inv:Nat→σ→St→Prop)(n0:Nat)(s0:σ)
  (h0:x0=e s0) (hi:Inv n0 s0 S) (hb:∀n s S v b,Inv n s S→pj v b=e s→body (Nx e Inv n) v b S):Cb x0 pj body S:=by
 refine⟨fun n x S=>∃s,x=e s∧Inv n s S,⟨n0,s0,h0,hi⟩,?_⟩
 rintro n v b S ⟨s,hx,hI⟩;have:=hb n s S v b hI hx;have e2:Nx e Inv n=(fun x S'=>∃m,m < n∧∃s,x=e s∧Inv m s S'):=by
  funext x S';apply propext;constructor
  ·rintro⟨m,s',h1,h2,h3⟩;exact⟨m,h1,s',h2,h3⟩
  ·rintro⟨m,h1,s',h2,h3⟩;exact⟨m,s',h1,h2,h3⟩
 rw[←e2];exact this
structure Nl{σ:Type}(e:Nat→σ→Lv)(Inv:Nat→σ→St→Prop)(k i:Nat)(x:Lv)(S':St):Prop where
 ex:∃j s',i < j∧j≤k∧x=e j s'∧Inv j s' S'
theorem Nl.next{σ:Type}{e:Nat→σ→Lv}{Inv:Nat→σ→St→Prop}{k i:Nat}{x:Lv}{S':St}(h:i < k)(s':σ)(hx:x=e (i+1) s')(hi:Inv (i+1) s' S'):Nl e Inv k i x S':=⟨i+1,s',by omega,by omega,hx,hi⟩
theorem BN{α σ:Type}{x0:Lv}{pj:(Nat→AV)→(Nat→Option (List AV))→Lv}{body:(Lv→St→Prop)→(Nat→AV)→(Nat→Option (List AV))→St→Prop}{S:St}(l:List α)(e:Nat→σ→Lv)(Inv:Nat→σ→St→Prop)(s0:σ)
  (h0:x0=e 0 s0) (hi:Inv 0 s0 S)
  (hs:∀i s S v b x,i < l.length→l[i]? =some x→l.drop i=x::l.drop (i+1)→(i:Int) < l.length→x∈l→Inv i s S→pj v b=e i s→body (Nl e Inv l.length i) v b S)
  (he:∀s S v b,Inv l.length s S→pj v b=e l.length s→∀N,body N v b S):Cb x0 pj body S:=by
 refine⟨fun n x S=>∃s,n≤l.length∧x=e (l.length - n) s∧Inv (l.length - n) s S,⟨l.length,s0,Nat.le_refl _,by rw[Nat.sub_self];exact h0,by rw[Nat.sub_self];exact hi⟩,?_⟩
 rintro n v b S ⟨s,hn,hx,hI⟩
 by_cases c:l.length - n < l.length
 ·have hh:=hs (l.length - n) s S v b l[l.length - n] c (by simp[c]) (List.drop_eq_getElem_cons c) (by omega) (List.getElem_mem c) hI hx
  have:(Nl e Inv l.length (l.length - n))=(fun x S'=>∃m,m < n∧∃s,m≤l.length∧x=e (l.length - m) s∧Inv (l.length - m) s S'):=by
   funext x S';apply propext;constructor
   ·rintro⟨j,s',h1,h2,h3,h4⟩;have:l.length - (l.length - j)=j:=by omega
    exact⟨l.length - j,by omega,s',by omega,by rw[this];exact h3,by rw[this];exact h4⟩
   ·rintro⟨m,h1,s',h2,h3,h4⟩;exact⟨l.length - m,s',by omega,by omega,h3,h4⟩
  rw[←this];exact hh
 ·have:l.length - n=l.length:=by omega
  rw[this] at hx hI;exact he s S v b hI hx _
@[simp] theorem jX(r:Rt):r.strip.strip=r.strip:=by cases r<;>rfl
@[simp] theorem n6(k:IntKind)(x y:Int):jK [.int k x,.int k y]=some (.int k (if y < x then y else x)):=by simp[jK]
@[simp] theorem oX(k:IntKind)(x y:Int):SU [.int k x,.int k y]=some (.int k (if y > x then y else x)):=by simp[SU]
@[simp] theorem ff(ei:TI)(es:List (List AV))(r:Rt)(k:IntKind)(i sz:Nat):Ae ei (.vs sz es r) (.int k (i:Int))=if sz=ei.size then (es[i]?).map (.ep · 0) else none:=by simp[Ae]
@[simp] theorem jw(ei:TI)(es:List (List AV))(r:Rt)(k:IntKind)(i sz:Nat):Ae ei (.vs sz es r) (.int k (no_index (OfNat.ofNat i)))=if sz=ei.size then (es[i]?).map (.ep · 0) else none:=ff ei es r k i sz
@[simp] theorem gc{s:List UInt8}{k:IntKind}{i:Nat}:Gg (.str s) (.int k (i:Int))=(s[i]?).map (fun b=>.int .u8 b.toNat):=by simp[Gg]
@[simp] theorem pE(a b:List UInt8):(a==b)=decide (a=b):=by by_cases h:a=b<;>simp[h]
@[simp] theorem pI(a b:Int):(a==b)=decide (a=b):=by by_cases h:a=b<;>simp[h]
@[simp] theorem lA(a b:List UInt8):AP .eql (.str a) (.str b)=some (.bool (decide (a=b))):=by simp[AP,TM]
@[simp] theorem j7(a b:List UInt8):AP .neq (.str a) (.str b)=some (.bool (!decide (a=b))):=by simp[AP,TM]
@[simp] theorem lH(a b:List UInt8):AP .lss (.str a) (.str b)=some (.bool (Op.bytesLess a b)):=rfl
@[simp] theorem j9(a b:List UInt8):AP .geq (.str a) (.str b)=some (.bool (!Op.bytesLess a b)):=rfl
theorem Mj{a b:List UInt8}(h:a.length+b.length≤1000000000000):AP .add (.str a) (.str b)=some (.str (a++b)):=by simp[AP,TM,h]
theorem bA{α:Type}{l:List α}{i:Nat}(c:i < l.length):∃x,l[i]? =some x∧l.drop i=x::l.drop (i+1)∧(i:Int) < l.length∧x∈l:=
 ⟨l[i],by simp[c],List.drop_eq_getElem_cons c,by omega,List.getElem_mem c⟩
@[simp] theorem nZ(s:List UInt8)(k1 k2:IntKind)(i k:Nat):FM (.str s) (some (.int k1 i)) (some (.int k2 k))=if i≤k∧k≤s.length then some (.str ((s.take k).drop i)) else none:=by
 by_cases h1:k≤s.length
 ·by_cases h2:i≤k
  ·simp[FM,bnd,h1,h2]
  ·simp[FM,bnd,h1,h2]
 ·simp[FM,bnd,h1]
@[simp] theorem jB(s:List UInt8)(k1:IntKind)(i:Nat):FM (.str s) (some (.int k1 i)) none=if i≤s.length then some (.str (s.drop i)) else none:=by
 by_cases h2:i≤s.length<;>simp[FM,bnd,h2]
@[simp] theorem ix(s:List UInt8)(k2:IntKind)(k:Nat):FM (.str s) none (some (.int k2 k))=if k≤s.length then some (.str (s.take k)) else none:=by
 by_cases h2:k≤s.length<;>simp[FM,bnd,h2]
@[simp] theorem ko(s:List UInt8)(k1:IntKind)(i:Nat):FM (.str s) (some (.int k1 (no_index (OfNat.ofNat i)))) none=if i≤s.length then some (.str (s.drop i)) else none:=jB s k1 i
@[simp] theorem kW(s:List UInt8)(k1:IntKind)(i:Nat):FM (.str s) none (some (.int k1 (no_index (OfNat.ofNat i))))=if i≤s.length then some (.str (s.take i)) else none:=ix s k1 i
@[simp] theorem eS (ei : TI) (sz : Nat) (es : List (List AV)) (r : Rt) (k1 k2 : IntKind) (i k : Nat) :
  Dt ei (.vs sz es r) (some (.int k1 i)) (some (.int k2 k)) none=if sz=ei.size∧(i≤k∧k≤es.length)∧(r= .nil→es=[]) then some (.vs sz ((es.take k).drop i) (if k=es.length then r else .none)) else none:=by
 by_cases h0:sz=ei.size
 case neg=>simp[Dt,h0]
 by_cases h1:k≤es.length
 case neg=>simp[Dt,bnd,h0,h1]
 by_cases h2:i≤k
 case neg=>simp[Dt,bnd,h0,h1,h2]
 by_cases hr:r= .nil
 ·subst hr
  by_cases he:es=[]
  ·subst he;have:k=0:=by simpa using h1
   subst this;have:i=0:=by omega
   subst this;simp[Dt,bnd,h0]
  ·simp[Dt,bnd,h0,h1,h2,he]
 ·simp[Dt,bnd,h0,h1,h2,hr]
@[simp] theorem mV (ei : TI) (sz : Nat) (es : List (List AV)) (r : Rt) (k1 : IntKind) (i : Nat) :
  Dt ei (.vs sz es r) (some (.int k1 i)) none none=if sz=ei.size∧i≤es.length∧(r= .nil→es=[]) then some (.vs sz (es.drop i) r) else none:=by
 have h:=eS ei sz es r k1 k1 i es.length;have e:Dt ei (.vs sz es r) (some (.int k1 i)) none none=Dt ei (.vs sz es r) (some (.int k1 i)) (some (.int k1 es.length)) none:=by simp[Dt,bnd]
 rw[e,h];simp
@[simp] theorem i7 (ei : TI) (sz : Nat) (es : List (List AV)) (r : Rt) (k1 : IntKind) (k : Nat) :
  Dt ei (.vs sz es r) none (some (.int k1 k)) none=if sz=ei.size∧k≤es.length∧(r= .nil→es=[]) then some (.vs sz (es.take k) (if k=es.length then r else .none)) else none:=by
 have h:=eS ei sz es r k1 k1 0 k;have e:Dt ei (.vs sz es r) none (some (.int k1 k)) none=Dt ei (.vs sz es r) (some (.int k1 (0:Nat))) (some (.int k1 k)) none:=by simp[Dt,bnd]
 rw[e,h];simp
@[simp] theorem mD (ei : TI) (sz : Nat) (es : List (List AV)) (r : Rt) (k1 : IntKind) (i : Nat) :
  Dt ei (.vs sz es r) (some (.int k1 (no_index (OfNat.ofNat i)))) none none=if sz=ei.size∧i≤es.length∧(r= .nil→es=[]) then some (.vs sz (es.drop i) r) else none:=mV ei sz es r k1 i
@[simp] theorem mC (ei : TI) (sz : Nat) (es : List (List AV)) (r : Rt) (k1 : IntKind) (k : Nat) :
  Dt ei (.vs sz es r) none (some (.int k1 (no_index (OfNat.ofNat k)))) none=if sz=ei.size∧k≤es.length∧(r= .nil→es=[]) then some (.vs sz (es.take k) (if k=es.length then r else .none)) else none:=i7 ei sz es r k1 k
@[simp] theorem mb(s:List UInt8):AV.strip0 (.str s)= .str s:=rfl
@[simp] theorem ls(b:Bool):AV.strip0 (.bool b)= .bool b:=rfl
@[simp] theorem l6(i o:Nat):AV.strip0 (.ptr i o)= .ptr i o:=rfl
@[simp] theorem lw:AV.strip0 .nil= .nil:=rfl
@[simp] theorem mq(m:Option Nat):AV.strip0 (.map m)= .map m:=rfl
@[simp] theorem nF(a b c d:Nat):AV.strip0 (.rs a b c d)= .rs a b c d:=rfl
@[simp] theorem jn:AV.strip2 .nilifc= .nilifc:=rfl
@[simp] theorem lN:AV.flat .nilifc= .nilifc:=rfl
@[simp] theorem oc(m:Option Nat):AV.flat (.map m)= .map m:=rfl
@[simp] theorem pJ(a b c d:Nat):AV.flat (.rs a b c d)= .rs a b c d:=rfl
@[simp] theorem pN(f:Nat)(a b:List AV):AV.flat (.fn f a b)= .fn f a b:=rfl
@[simp] theorem lb:AV.free .nilifc=true:=rfl
@[simp] theorem lF:AV.free1 .nilifc=true:=rfl
@[simp] theorem na:AV.free1 .nil=true:=rfl
@[simp] theorem n9(f:Nat)(a b:List AV):AV.free1 (.fn f a b)=true:=rfl
@[simp] theorem oK(a b c d:Nat):AV.free1 (.rs a b c d)=true:=rfl
@[simp] theorem pL(a b c d:Nat):AV.free (.rs a b c d)=true:=rfl
@[simp] theorem m7(t:Nat)(v:AV):AV.free1 (.ifc t v)=true:=rfl
@[simp] theorem ja:AV.strip1 .nilifc= .nilifc:=rfl
@[simp] theorem ng(a b c d:Nat):AV.strip1 (.rs a b c d)= .rs a b c d:=rfl
@[simp] theorem ks:AV.strip1 .nilfn= .nilfn:=rfl
@[simp] theorem lu:AV.free1 .nilfn=true:=rfl
@[simp] theorem nB:AV.cells .nil=[.nil]:=rfl
@[simp] theorem oG(a b c d:Nat):AV.cells (.rs a b c d)=[.rs a b c d]:=rfl
@[simp] theorem oW(f:Nat)(a b:List AV):AV.cells (.fn f a b)=[.fn f a b]:=rfl
@[simp] theorem nA(t:Nat)(v:AV):AV.cells (.ifc t v)=[.ifc t v]:=rfl
@[simp] theorem ky:AV.cells .nilifc=[.nilifc]:=rfl
@[simp] theorem o9(c:Bool)(A B Z:Prop):gK (.bool c) A B Z=ifK (.bool c) A B:=by cases c<;>rfl
@[simp] theorem fj(ei:TI)(sz id off len:Nat)(k:IntKind)(i:Nat):Ae ei (.rs sz id off len) (.int k (i:Int))=if sz=ei.size∧i < len then some (.ptr id (off+i*sz)) else none:=by simp[Ae]
@[simp] theorem jd(ei:TI)(sz id off len:Nat)(k:IntKind)(i:Nat):Ae ei (.rs sz id off len) (.int k (no_index (OfNat.ofNat i)))=if sz=ei.size∧i < len then some (.ptr id (off+i*sz)) else none:=fj ei sz id off len k i
@[simp] theorem nt(sz id off len:Nat):A6 (.rs sz id off len)=some (.int .i64 len):=rfl
@[simp] theorem jy{s:List UInt8}{k:IntKind}{i:Nat}:Gg (.str s) (.int k (no_index (OfNat.ofNat i)))=(s[i]?).map (fun b=>.int .u8 b.toNat):=gc
@[simp] theorem nG(ei:TI)(sz id off len:Nat)(k:IntKind)(n:Nat):Dt ei (.rs sz id off len) none (some (.int k (n:Int))) none=if sz=ei.size∧n≤len then some (.rs sz id off n) else none:=by
 by_cases h0:sz=ei.size<;>by_cases h1:n≤len<;>simp[Dt,bnd,h0,h1]
end Go.Av
