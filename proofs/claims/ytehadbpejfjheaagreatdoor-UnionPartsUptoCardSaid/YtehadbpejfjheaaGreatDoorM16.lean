/- Parts of the proofs of this seat: abstract values over the model, and what the functions of the program do. No condition. -/
import Derived.Test.YtehadbpejfjheaaGreatDoorM13
import Derived.Test.YtehadbpejfjheaaGreatDoorM6
import Derived.IntWalk
set_option linter.all false
set_option maxRecDepth 100000
namespace Go.Av
section
variable {α:Type}
@[simp] theorem E5{x:α}{k:α→Prop}:AA (some x) k=k x:=rfl
@[simp] theorem bZ{k:α→Prop}:AA none k=False:=rfl
theorem AG{r:α}{b:α→Prop}:AK r b=b r:=rfl
@[simp] theorem QS{A B:Prop}:ifK (.bool true) A B=A:=rfl
@[simp] theorem Ny{A B:Prop}:ifK (.bool false) A B=B:=rfl
theorem XD{b:Bool}{A B:Prop}(h1:b=true→A)(h2:b=false→B):ifK (.bool b) A B:=by
 cases b
 ·exact h2 rfl
 ·exact h1 rfl
@[simp] theorem eb{A B Z:Prop}:gK (.bool true) A B Z=A:=rfl
@[simp] theorem eK{A B Z:Prop}:gK (.bool false) A B Z=B:=rfl
@[simp] theorem ed{A B Z:Prop}:gK (.tup []) A B Z=Z:=rfl
end
@[simp] theorem XL(k:IntKind)(n:Int):AV.strip (.int k n)= .int k n:=rfl
@[simp] theorem cD(b:Bool):AV.strip (.bool b)= .bool b:=rfl
@[simp] theorem cz(s:List UInt8):AV.strip (.str s)= .str s:=rfl
@[simp] theorem strip_nil:AV.strip .nil= .nil:=rfl
@[simp] theorem cO(i o:Nat):AV.strip (.ptr i o)= .ptr i o:=rfl
@[simp] theorem eG(c:List AV)(o:Nat):AV.strip (.ep c o)= .ep c o:=rfl
@[simp] theorem YV(z:Nat)(es:List (List AV))(r:Rt):AV.strip (.vs z es r)= .vs z es r.strip:=rfl
@[simp] theorem dp(a b c d:Nat):AV.strip (.rs a b c d)= .rs a b c d:=rfl
@[simp] theorem cZ(m:Option Nat):AV.strip (.map m)= .map m:=rfl
@[simp] theorem d9(f:Nat)(a b:List AV):AV.strip (.fn f a b)= .fn f a b:=rfl
@[simp] theorem aX:AV.strip .nilfn= .nilfn:=rfl
@[simp] theorem cX(t:Nat)(v:AV):AV.strip (.ifc t v)= .ifc t v:=rfl
@[simp] theorem Zm:AV.strip .nilifc= .nilifc:=rfl
@[simp] theorem cY(cs:List AV):AV.strip (.agg cs)= .agg (cs.map AV.strip1):=rfl
@[simp] theorem aU:AV.strip .undef= .undef:=rfl
@[simp] theorem cK(cs:List AV):AV.strip (.tup cs)= .tup (cs.map AV.strip2):=rfl
@[simp] theorem cB(k:IntKind)(n:Int):AV.strip1 (.int k n)= .int k n:=rfl
@[simp] theorem aK(b:Bool):AV.strip1 (.bool b)= .bool b:=rfl
@[simp] theorem bv(s:List UInt8):AV.strip1 (.str s)= .str s:=rfl
@[simp] theorem cU(z:Nat)(es:List (List AV))(r:Rt):AV.strip1 (.vs z es r)= .vs z es r.strip:=rfl
@[simp] theorem av(m:Option Nat):AV.strip1 (.map m)= .map m:=rfl
@[simp] theorem bQ(i o:Nat):AV.strip1 (.ptr i o)= .ptr i o:=rfl
@[simp] theorem an:AV.strip1 .nil= .nil:=rfl
@[simp] theorem cJ(f:Nat)(a b:List AV):AV.strip1 (.fn f a b)= .fn f a b:=rfl
@[simp] theorem bA(t:Nat)(v:AV):AV.strip1 (.ifc t v)= .ifc t v:=rfl
@[simp] theorem Wz(z:Nat)(es:List (List AV))(r:Rt):AV.strip0 (.vs z es r)= .vs z es r:=rfl
@[simp] theorem bI(cs:List AV):AV.strip0 (.agg cs)= .agg (cs.map AV.strip1):=rfl
@[simp] theorem Zw(t:Nat):Rt.strip (.own t)= .none:=rfl
@[simp] theorem Zc:Rt.strip .nil= .nil:=rfl
@[simp] theorem Y4:Rt.strip .full= .full:=rfl
@[simp] theorem ZA:Rt.strip .none= .none:=rfl
theorem CA{i:TI}{S:St}{id off tg:Nat}{cs:List AV}(h:S[id]? =some (.cells cs tg)):Ap i S (.ptr id off)=IE i cs off:=by simp[Ap,Co,h]
@[simp] theorem dq{i:TI}{S:St}{off:Nat}{cs:List AV}:Ap i S (.ep cs off)=IE i cs off:=rfl
theorem CF{i:TI}{S:St}{id off tg:Nat}{cs:List AV}{x:AV}(h:S[id]? =some (.cells cs tg)):CU i S (.ptr id off) x=(Ei i cs off x).map fun cs'=>S.set id (.cells cs' tg):=by simp[CU,Co,Hr,h]
@[simp] theorem Fg{S:St}{id off tg:Nat}{cs:List AV}(h:S[id]? =some (.cells cs tg)):stripMem S (.ptr id off)=S.set id (.cells (cs.modify off AV.strip1) tg):=by simp[stripMem,Co,Hr,h]
theorem wrap64{n:Int}(h1:-9223372036854775808≤n)(h2:n≤9223372036854775807):IntKind.i64.wrap n=n:=IntWalk.i64_in n ⟨h1,h2⟩
theorem A9{S:St}{id:Nat}{o o':Obj}(h:S[id]? =some o):(S.set id o')[id]? =some o':=by
 have:=(List.getElem?_eq_some_iff.1 h).1;simp[this]
theorem Cc{S:St}{id j:Nat}{o':Obj}(h:id≠j):(S.set id o')[j]? =S[j]?:=by simp[h]
@[simp] theorem Vj(a:AV)(l:List AV):AQ (.tup (a::l)) 0= .tup (a.strip2::l):=rfl
@[simp] theorem Vs(a b:AV)(l:List AV):AQ (.tup (a::b::l)) 1= .tup (a::b.strip2::l):=rfl
@[simp] theorem bT(a b c:AV)(l:List AV):AQ (.tup (a::b::c::l)) 2= .tup (a::b::c.strip2::l):=rfl
@[simp] theorem bg(a b c d:AV)(l:List AV):AQ (.tup (a::b::c::d::l)) 3= .tup (a::b::c::d.strip2::l):=rfl
@[simp] theorem Vf(a:AV)(l:List AV):Ah (.tup (a::l)) 0=some a:=rfl
@[simp] theorem VT(a b:AV)(l:List AV):Ah (.tup (a::b::l)) 1=some b:=rfl
@[simp] theorem Va(a b c:AV)(l:List AV):Ah (.tup (a::b::c::l)) 2=some c:=rfl
@[simp] theorem ay(a b c d:AV)(l:List AV):Ah (.tup (a::b::c::d::l)) 3=some d:=rfl
@[simp] theorem al(k:IntKind)(n:Int):AV.strip2 (.int k n)= .int k n:=rfl
@[simp] theorem ag(b:Bool):AV.strip2 (.bool b)= .bool b:=rfl
@[simp] theorem bq(s:List UInt8):AV.strip2 (.str s)= .str s:=rfl
@[simp] theorem bD:AV.strip2 .nil= .nil:=rfl
@[simp] theorem bK(i o:Nat):AV.strip2 (.ptr i o)= .ptr i o:=rfl
@[simp] theorem cl(z:Nat)(es:List (List AV))(r:Rt):AV.strip2 (.vs z es r)= .vs z es r.strip:=rfl
@[simp] theorem ai(m:Option Nat):AV.strip2 (.map m)= .map m:=rfl
@[simp] theorem bU(cs:List AV):AV.strip2 (.agg cs)= .agg (cs.map AV.strip1):=rfl
@[simp] theorem bX(k:IntKind)(n:Int):AV.strip0 (.int k n)= .int k n:=rfl
@[simp] theorem dM(k:IntKind)(n:Int):AV.flat (.int k n)= .int k n:=rfl
@[simp] theorem cj(b:Bool):AV.flat (.bool b)= .bool b:=rfl
@[simp] theorem dx(s:List UInt8):AV.flat (.str s)= .str s:=rfl
@[simp] theorem eT(z:Nat)(es:List (List AV))(r:Rt):AV.flat (.vs z es r)= .vs z es r:=rfl
@[simp] theorem flat_agg(cs:List AV):AV.flat (.agg cs)= .agg cs:=rfl
@[simp] theorem dR(i o:Nat):AV.flat (.ptr i o)= .ptr i o:=rfl
@[simp] theorem dl:AV.flat .nil= .nil:=rfl
@[simp] theorem eJ(i o:Nat):Lr (.ptr i o)=some (.ptr i o):=rfl
@[simp] theorem eP(c:List AV)(o:Nat):Lr (.ep c o)=some (.ep c o):=rfl
@[simp] theorem aQ(i o d:Nat):D2 (.ptr i o) d=some (.ptr i (o+d)):=rfl
@[simp] theorem bO(c:List AV)(o d:Nat):D2 (.ep c o) d=some (.ep c (o+d)):=rfl
@[simp] theorem cC(a b:AV):AS (.bool true) a b=some a:=rfl
@[simp] theorem aM(a b:AV):AS (.bool false) a b=some b:=rfl
@[simp] theorem eV(b:Bool):unA .not (.bool b)=some (.bool (!b)):=rfl
@[simp] theorem dN(k:IntKind)(a b:Int):AJ .add (.int k a) (.int k b)=some (.int k (k.wrap (a+b))):=by simp[AJ,Gw]
@[simp] theorem di(k:IntKind)(a b:Int):AJ .sub (.int k a) (.int k b)=some (.int k (k.wrap (a - b))):=by simp[AJ,Gw]
@[simp] theorem df(k:IntKind)(a b:Int):AJ .mul (.int k a) (.int k b)=some (.int k (k.wrap (a*b))):=by simp[AJ,Gw]
@[simp] theorem eC(k:IntKind)(a b:Int):AJ .eql (.int k a) (.int k b)=some (.bool (decide (a=b))):=by simp[AJ,Gw];rfl
@[simp] theorem Xz(k:IntKind)(a b:Int):AJ .neq (.int k a) (.int k b)=some (.bool (decide (a≠b))):=by simp[AJ,Gw];by_cases h:a=b<;>simp[h]
@[simp] theorem dL(k:IntKind)(a b:Int):AJ .lss (.int k a) (.int k b)=some (.bool (decide (a < b))):=by simp[AJ,Gw]
@[simp] theorem eF(k:IntKind)(a b:Int):AJ .leq (.int k a) (.int k b)=some (.bool (decide (a≤b))):=by simp[AJ,Gw]
@[simp] theorem eB(k:IntKind)(a b:Int):AJ .gtr (.int k a) (.int k b)=some (.bool (decide (a > b))):=by simp[AJ,Gw]
@[simp] theorem d7(k:IntKind)(a b:Int):AJ .geq (.int k a) (.int k b)=some (.bool (decide (a≥b))):=by simp[AJ,Gw]
@[simp] theorem Y1(a b:Bool):GC .bool .eql (.bool a) (.bool b)=some (.bool (a==b)):=rfl
@[simp] theorem ZD(a b:Bool):GC .bool .neq (.bool a) (.bool b)=some (.bool (!(a==b))):=rfl
@[simp] theorem dB(z:Nat)(es:List (List AV))(r:Rt):BU (.vs z es r)=some (.int .i64 es.length):=rfl
@[simp] theorem aC(s:List UInt8):DE (.str s)=some (.int .i64 s.length):=rfl
@[simp] theorem cp{Ca:Nat→List AV→St→(AV→St→Prop)→Prop}{g:Nat}{xs:List AV}{S:St}{k:AV→St→Prop}:A1 Ca g xs S k=AA (OV xs) fun xs=>Ca g xs S k:=rfl
@[simp] theorem dI(k:IntKind)(n:Int):AV.free (.int k n)=true:=rfl
@[simp] theorem cf(b:Bool):AV.free (.bool b)=true:=rfl
@[simp] theorem eH(s:List UInt8):AV.free (.str s)=true:=rfl
@[simp] theorem eQ(z:Nat)(es:List (List AV))(r:Rt):AV.free (.vs z es r)=true:=rfl
@[simp] theorem dG(i o:Nat):AV.free (.ptr i o)=true:=rfl
@[simp] theorem dP:AV.free .nil=true:=rfl
@[simp] theorem dZ(m:Option Nat):AV.free (.map m)=true:=rfl
@[simp] theorem db(cs:List AV):AV.free (.agg cs)=cs.all AV.free1:=rfl
@[simp] theorem eR(f:Nat)(a b:List AV):AV.free (.fn f a b)=true:=rfl
@[simp] theorem dg(t:Nat)(v:AV):AV.free (.ifc t v)=true:=rfl
@[simp] theorem cF(k:IntKind)(n:Int):AV.free1 (.int k n)=true:=rfl
@[simp] theorem bG(b:Bool):AV.free1 (.bool b)=true:=rfl
@[simp] theorem cG(s:List UInt8):AV.free1 (.str s)=true:=rfl
@[simp] theorem eD(z:Nat)(es:List (List AV))(r:Rt):AV.free1 (.vs z es r)=true:=rfl
@[simp] theorem cM(i o:Nat):AV.free1 (.ptr i o)=true:=rfl
@[simp] theorem cq(m:Option Nat):AV.free1 (.map m)=true:=rfl
@[simp] theorem cb(k:IntKind)(n:Int):AV.cells (.int k n)=[.int k n]:=rfl
@[simp] theorem ap(b:Bool):AV.cells (.bool b)=[.bool b]:=rfl
@[simp] theorem cS(s:List UInt8):AV.cells (.str s)=[.str s]:=rfl
@[simp] theorem dc(z:Nat)(es:List (List AV))(r:Rt):AV.cells (.vs z es r)=[.vs z es r]:=rfl
@[simp] theorem cy(i o:Nat):AV.cells (.ptr i o)=[.ptr i o]:=rfl
@[simp] theorem cc(m:Option Nat):AV.cells (.map m)=[.map m]:=rfl
@[simp] theorem cg(cs:List AV):AV.cells (.agg cs)=cs:=rfl
attribute [simp] IE OV Ei De AB Ai Du He Tj Ck RM Rg Cu C7
@[simp] theorem Ze(k k':IntKind)(n:Int):Ij k (.int k' n)=some (.int k (k.wrap n)):=rfl
@[simp] theorem eX {c : Bool} {k : AV → Prop} {B : (AV → Prop) → Prop} :
  AK (fun x=>AA (AS (.bool c) (.bool true) x) k) (fun j=>ifK (.bool c) (j (.tup [])) (B j))=AK k (fun j=>ifK (.bool c) (j (.bool true)) (B j)):=by cases c<;>rfl
@[simp] theorem da {c : Bool} {k : AV → Prop} {B : (AV → Prop) → Prop} :
  AK (fun x=>AA (AS (.bool c) x (.bool false)) k) (fun j=>ifK (.bool c) (B j) (j (.tup [])))=AK k (fun j=>ifK (.bool c) (B j) (j (.bool false))):=by cases c<;>rfl
@[simp] theorem eM {c : Bool} {k : St → AV → Prop} {S : St} {B : (AV → St → Prop) → Prop} :
  AK (fun x S=>AA (AS (.bool c) (.bool true) x) (k S)) (fun j=>ifK (.bool c) (j (.tup []) S) (B j))=AK (fun x S=>k S x) (fun j=>ifK (.bool c) (j (.bool true) S) (B j)):=by cases c<;>rfl
@[simp] theorem ca {c : Bool} {k : St → AV → Prop} {S : St} {B : (AV → St → Prop) → Prop} :
  AK (fun x S=>AA (AS (.bool c) x (.bool false)) (k S)) (fun j=>ifK (.bool c) (B j) (j (.tup []) S))=AK (fun x S=>k S x) (fun j=>ifK (.bool c) (B j) (j (.bool false) S)):=by cases c<;>rfl
@[simp] theorem eN{c d:Bool}{k:AV→Prop}:AK k (fun j=>ifK (.bool c) (j (.bool true)) (j (.bool d)))=k (.bool (c||d)):=by cases c<;>rfl
@[simp] theorem dT{c d:Bool}{k:AV→Prop}:AK k (fun j=>ifK (.bool c) (j (.bool d)) (j (.bool false)))=k (.bool (c&&d)):=by cases c<;>rfl
@[simp] theorem join_one{α:Type}{k:α→Prop}{x:α}:AK k (fun j=>j x)=k x:=rfl
@[simp] theorem c8{α β:Type}{k:α→β→Prop}{x:α}{y:β}:AK k (fun j=>j x y)=k x y:=rfl
theorem ED{α:Type}{r:α}{b:α→Prop}(J:α→Prop)(h1:J r)(h2:∀j,J j→b j):AK r b:=h2 r h1
theorem Un{c:Bool}{A B:Prop}(h1:c=true→A)(h2:c=false→B):ifK (.bool c) A B:=XD h1 h2
structure Nx{σ:Type}(e:σ→Lv)(Inv:Nat→σ→St→Prop)(n:Nat)(x:Lv)(S':St):Prop where
 ex:∃m s',m < n∧x=e s'∧Inv m s' S'
theorem HZ{σ:Type}{x0:Lv}{pj:(Nat→AV)→(Nat→Option (List AV))→Lv}{body:(Lv→St→Prop)→(Nat→AV)→(Nat→Option (List AV))→St→Prop}{S:St}(e:σ→Lv)(Inv:Nat→σ→St→Prop)(n0:Nat)(s0:σ)
  (h0:x0=e s0) (hi:Inv n0 s0 S) (hb:∀n s S v b,Inv n s S→pj v b=e s→body (Nx e Inv n) v b S):DK x0 pj body S:=by
 refine⟨fun n x S=>∃s,x=e s∧Inv n s S,⟨n0,s0,h0,hi⟩,?_⟩
 rintro n v b S ⟨s,hx,hI⟩;have:=hb n s S v b hI hx;have e2:Nx e Inv n=(fun x S'=>∃m,m < n∧∃s,x=e s∧Inv m s S'):=by
  funext x S';apply propext;constructor
  ·rintro⟨m,s',h1,h2,h3⟩;exact⟨m,h1,s',h2,h3⟩
  ·rintro⟨m,h1,s',h2,h3⟩;exact⟨m,s',h1,h2,h3⟩
 rw[←e2];exact this
structure Nl{σ:Type}(e:Nat→σ→Lv)(Inv:Nat→σ→St→Prop)(k i:Nat)(x:Lv)(S':St):Prop where
 ex:∃j s',i < j∧j≤k∧x=e j s'∧Inv j s' S'
theorem Nl.next{σ:Type}{e:Nat→σ→Lv}{Inv:Nat→σ→St→Prop}{k i:Nat}{x:Lv}{S':St}(h:i < k)(s':σ)(hx:x=e (i+1) s')(hi:Inv (i+1) s' S'):Nl e Inv k i x S':=⟨i+1,s',by omega,by omega,hx,hi⟩
theorem B6{α σ:Type}{x0:Lv}{pj:(Nat→AV)→(Nat→Option (List AV))→Lv}{body:(Lv→St→Prop)→(Nat→AV)→(Nat→Option (List AV))→St→Prop}{S:St}(l:List α)(e:Nat→σ→Lv)(Inv:Nat→σ→St→Prop)(s0:σ)
  (h0:x0=e 0 s0) (hi:Inv 0 s0 S)
  (hs:∀i s S v b x,i < l.length→l[i]? =some x→l.drop i=x::l.drop (i+1)→(i:Int) < l.length→x∈l→Inv i s S→pj v b=e i s→body (Nl e Inv l.length i) v b S)
  (he:∀s S v b,Inv l.length s S→pj v b=e l.length s→∀N,body N v b S):DK x0 pj body S:=by
 refine⟨fun n x S=>∃s,n≤l.length∧x=e (l.length - n) s∧Inv (l.length - n) s S,⟨l.length,s0,Nat.le_refl _,by rw[Nat.sub_self];exact h0,by rw[Nat.sub_self];exact hi⟩,?_⟩
 rintro n v b S ⟨s,hn,hx,hI⟩
 by_cases c:l.length - n < l.length
 ·have hh:=hs (l.length - n) s S v b l[l.length - n] c (by simp[c]) (List.drop_eq_getElem_cons c) (by omega) (List.getElem_mem c) hI hx
  have:(Nl e Inv l.length (l.length - n))=(fun x S'=>∃m,m < n∧∃s,m≤l.length∧x=e (l.length - m) s∧Inv (l.length - m) s S'):=by
   funext x S';apply propext;constructor
   ·rintro⟨j,s',h1,h2,h3,h4⟩;have:l.length - (l.length - j)=j:=by omega
    exact⟨l.length - j,by omega,s',by omega,by rw[this];exact h3,by rw[this];exact h4⟩
   ·rintro⟨m,h1,s',h2,h3,h4⟩;exact⟨l.length - m,s',by omega,by omega,h3,h4⟩
  rw[←this];exact hh
 ·have:l.length - n=l.length:=by omega
  rw[this] at hx hI;exact he s S v b hI hx _
@[simp] theorem X1(r:Rt):r.strip.strip=r.strip:=by cases r<;>rfl
@[simp] theorem dj(k:IntKind)(x y:Int):XX [.int k x,.int k y]=some (.int k (if y < x then y else x)):=by simp[XX]
@[simp] theorem dm(k:IntKind)(x y:Int):TE [.int k x,.int k y]=some (.int k (if y > x then y else x)):=by simp[TE]
@[simp] theorem XT(ei:TI)(es:List (List AV))(r:Rt)(k:IntKind)(i sz:Nat):BB ei (.vs sz es r) (.int k (i:Int))=if sz=ei.size then (es[i]?).map (.ep · 0) else none:=by simp[BB]
@[simp] theorem Y3(ei:TI)(es:List (List AV))(r:Rt)(k:IntKind)(i sz:Nat):BB ei (.vs sz es r) (.int k (no_index (OfNat.ofNat i)))=if sz=ei.size then (es[i]?).map (.ep · 0) else none:=XT ei es r k i sz
@[simp] theorem W4{s:List UInt8}{k:IntKind}{i:Nat}:FX (.str s) (.int k (i:Int))=(s[i]?).map (fun b=>.int .u8 b.toNat):=by simp[FX]
@[simp] theorem eY(a b:List UInt8):(a==b)=decide (a=b):=by by_cases h:a=b<;>simp[h]
@[simp] theorem ef(a b:Int):(a==b)=decide (a=b):=by by_cases h:a=b<;>simp[h]
@[simp] theorem ZY(a b:List UInt8):AJ .eql (.str a) (.str b)=some (.bool (decide (a=b))):=by simp[AJ,NW]
@[simp] theorem Zx(a b:List UInt8):AJ .neq (.str a) (.str b)=some (.bool (!decide (a=b))):=by simp[AJ,NW]
@[simp] theorem Z7(a b:List UInt8):AJ .lss (.str a) (.str b)=some (.bool (Op.bytesLess a b)):=rfl
@[simp] theorem Zv(a b:List UInt8):AJ .geq (.str a) (.str b)=some (.bool (!Op.bytesLess a b)):=rfl
theorem JU{a b:List UInt8}(h:a.length+b.length≤1000000000000):AJ .add (.str a) (.str b)=some (.str (a++b)):=by simp[AJ,NW,h]
theorem UD{α:Type}{l:List α}{i:Nat}(c:i < l.length):∃x,l[i]? =some x∧l.drop i=x::l.drop (i+1)∧(i:Int) < l.length∧x∈l:=
 ⟨l[i],by simp[c],List.drop_eq_getElem_cons c,by omega,List.getElem_mem c⟩
theorem VI(s:List UInt8)(k1 k2:IntKind)(a b:Int)(ha:0≤a)(hab:a≤b)(hb:b≤s.length):Cz (.str s) (some (.int k1 a)) (some (.int k2 b))=some (.str ((s.take b.toNat).drop a.toNat)):=by
 have h2:a≤(b.toNat:Int):=by omega
 simp[Cz,bnd,ha,hb,show 0≤b by omega]
 omega
@[simp] theorem cQ(s:List UInt8)(k1 k2:IntKind)(i k:Nat):Cz (.str s) (some (.int k1 i)) (some (.int k2 k))=if i≤k∧k≤s.length then some (.str ((s.take k).drop i)) else none:=by
 by_cases h1:k≤s.length
 ·by_cases h2:i≤k
  ·simp[Cz,bnd,h1,h2]
  ·simp[Cz,bnd,h1,h2]
 ·simp[Cz,bnd,h1]
@[simp] theorem Yg(s:List UInt8)(k1:IntKind)(i:Nat):Cz (.str s) (some (.int k1 i)) none=if i≤s.length then some (.str (s.drop i)) else none:=by
 by_cases h2:i≤s.length<;>simp[Cz,bnd,h2]
@[simp] theorem YI(s:List UInt8)(k2:IntKind)(k:Nat):Cz (.str s) none (some (.int k2 k))=if k≤s.length then some (.str (s.take k)) else none:=by
 by_cases h2:k≤s.length<;>simp[Cz,bnd,h2]
@[simp] theorem Zy(s:List UInt8)(k1:IntKind)(i:Nat):Cz (.str s) (some (.int k1 (no_index (OfNat.ofNat i)))) none=if i≤s.length then some (.str (s.drop i)) else none:=Yg s k1 i
@[simp] theorem ZX(s:List UInt8)(k1:IntKind)(i:Nat):Cz (.str s) none (some (.int k1 (no_index (OfNat.ofNat i))))=if i≤s.length then some (.str (s.take i)) else none:=YI s k1 i
@[simp] theorem Wa (ei : TI) (sz : Nat) (es : List (List AV)) (r : Rt) (k1 k2 : IntKind) (i k : Nat) :
  Dv ei (.vs sz es r) (some (.int k1 i)) (some (.int k2 k)) none=if sz=ei.size∧(i≤k∧k≤es.length)∧(r= .nil→es=[]) then some (.vs sz ((es.take k).drop i) (if k=es.length then r else .none)) else none:=by
 by_cases h0:sz=ei.size
 case neg=>simp[Dv,h0]
 by_cases h1:k≤es.length
 case neg=>simp[Dv,bnd,h0,h1]
 by_cases h2:i≤k
 case neg=>simp[Dv,bnd,h0,h1,h2]
 by_cases hr:r= .nil
 ·subst hr
  by_cases he:es=[]
  ·subst he;have:k=0:=by simpa using h1
   subst this;have:i=0:=by omega
   subst this;simp[Dv,bnd,h0]
  ·simp[Dv,bnd,h0,h1,h2,he]
 ·simp[Dv,bnd,h0,h1,h2,hr]
@[simp] theorem bS (ei : TI) (sz : Nat) (es : List (List AV)) (r : Rt) (k1 : IntKind) (i : Nat) :
  Dv ei (.vs sz es r) (some (.int k1 i)) none none=if sz=ei.size∧i≤es.length∧(r= .nil→es=[]) then some (.vs sz (es.drop i) r) else none:=by
 have h:=Wa ei sz es r k1 k1 i es.length;have e:Dv ei (.vs sz es r) (some (.int k1 i)) none none=Dv ei (.vs sz es r) (some (.int k1 i)) (some (.int k1 es.length)) none:=by simp[Dv,bnd]
 rw[e,h];simp
@[simp] theorem au (ei : TI) (sz : Nat) (es : List (List AV)) (r : Rt) (k1 : IntKind) (k : Nat) :
  Dv ei (.vs sz es r) none (some (.int k1 k)) none=if sz=ei.size∧k≤es.length∧(r= .nil→es=[]) then some (.vs sz (es.take k) (if k=es.length then r else .none)) else none:=by
 have h:=Wa ei sz es r k1 k1 0 k;have e:Dv ei (.vs sz es r) none (some (.int k1 k)) none=Dv ei (.vs sz es r) (some (.int k1 (0:Nat))) (some (.int k1 k)) none:=by simp[Dv,bnd]
 rw[e,h];simp
@[simp] theorem aj (ei : TI) (sz : Nat) (es : List (List AV)) (r : Rt) (k1 : IntKind) (i : Nat) :
  Dv ei (.vs sz es r) (some (.int k1 (no_index (OfNat.ofNat i)))) none none=if sz=ei.size∧i≤es.length∧(r= .nil→es=[]) then some (.vs sz (es.drop i) r) else none:=bS ei sz es r k1 i
@[simp] theorem cA (ei : TI) (sz : Nat) (es : List (List AV)) (r : Rt) (k1 : IntKind) (k : Nat) :
  Dv ei (.vs sz es r) none (some (.int k1 (no_index (OfNat.ofNat k)))) none=if sz=ei.size∧k≤es.length∧(r= .nil→es=[]) then some (.vs sz (es.take k) (if k=es.length then r else .none)) else none:=au ei sz es r k1 k
@[simp] theorem bk(s:List UInt8):AV.strip0 (.str s)= .str s:=rfl
@[simp] theorem ae(b:Bool):AV.strip0 (.bool b)= .bool b:=rfl
@[simp] theorem bV(i o:Nat):AV.strip0 (.ptr i o)= .ptr i o:=rfl
@[simp] theorem bz:AV.strip0 .nil= .nil:=rfl
@[simp] theorem bJ(m:Option Nat):AV.strip0 (.map m)= .map m:=rfl
@[simp] theorem cd(a b c d:Nat):AV.strip0 (.rs a b c d)= .rs a b c d:=rfl
@[simp] theorem Yx:AV.strip2 .nilifc= .nilifc:=rfl
@[simp] theorem aS:AV.flat .nilifc= .nilifc:=rfl
@[simp] theorem dY(m:Option Nat):AV.flat (.map m)= .map m:=rfl
@[simp] theorem eU(a b c d:Nat):AV.flat (.rs a b c d)= .rs a b c d:=rfl
@[simp] theorem eO(f:Nat)(a b:List AV):AV.flat (.fn f a b)= .fn f a b:=rfl
@[simp] theorem aI:AV.free .nilifc=true:=rfl
@[simp] theorem Zi:AV.free1 .nilifc=true:=rfl
@[simp] theorem cW:AV.free1 .nil=true:=rfl
@[simp] theorem dS(f:Nat)(a b:List AV):AV.free1 (.fn f a b)=true:=rfl
@[simp] theorem dk(a b c d:Nat):AV.free1 (.rs a b c d)=true:=rfl
@[simp] theorem ee(a b c d:Nat):AV.free (.rs a b c d)=true:=rfl
@[simp] theorem cH(t:Nat)(v:AV):AV.free1 (.ifc t v)=true:=rfl
@[simp] theorem Y0:AV.strip1 .nilifc= .nilifc:=rfl
@[simp] theorem cR(a b c d:Nat):AV.strip1 (.rs a b c d)= .rs a b c d:=rfl
@[simp] theorem ZW:AV.strip1 .nilfn= .nilfn:=rfl
@[simp] theorem aN:AV.free1 .nilfn=true:=rfl
@[simp] theorem cV:AV.cells .nil=[.nil]:=rfl
@[simp] theorem de(a b c d:Nat):AV.cells (.rs a b c d)=[.rs a b c d]:=rfl
@[simp] theorem dn(f:Nat)(a b:List AV):AV.cells (.fn f a b)=[.fn f a b]:=rfl
@[simp] theorem dE(t:Nat)(v:AV):AV.cells (.ifc t v)=[.ifc t v]:=rfl
@[simp] theorem ZR:AV.cells .nilifc=[.nilifc]:=rfl
@[simp] theorem eS(c:Bool)(A B Z:Prop):gK (.bool c) A B Z=ifK (.bool c) A B:=by cases c<;>rfl
@[simp] theorem W0(ei:TI)(sz id off len:Nat)(k:IntKind)(i:Nat):BB ei (.rs sz id off len) (.int k (i:Int))=if sz=ei.size∧i < len then some (.ptr id (off+i*sz)) else none:=by simp[BB]
@[simp] theorem ZH(ei:TI)(sz id off len:Nat)(k:IntKind)(i:Nat):BB ei (.rs sz id off len) (.int k (no_index (OfNat.ofNat i)))=if sz=ei.size∧i < len then some (.ptr id (off+i*sz)) else none:=W0 ei sz id off len k i
@[simp] theorem co(sz id off len:Nat):BU (.rs sz id off len)=some (.int .i64 len):=rfl
@[simp] theorem Y7{s:List UInt8}{k:IntKind}{i:Nat}:FX (.str s) (.int k (no_index (OfNat.ofNat i)))=(s[i]?).map (fun b=>.int .u8 b.toNat):=W4
@[simp] theorem dF(ei:TI)(sz id off len:Nat)(k:IntKind)(n:Nat):Dv ei (.rs sz id off len) none (some (.int k (n:Int))) none=if sz=ei.size∧n≤len then some (.rs sz id off n) else none:=by
 by_cases h0:sz=ei.size<;>by_cases h1:n≤len<;>simp[Dv,bnd,h0,h1]
end Go.Av
