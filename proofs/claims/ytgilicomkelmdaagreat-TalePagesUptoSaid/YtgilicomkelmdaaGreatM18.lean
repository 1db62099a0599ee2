/- Parts of the proofs of this seat: abstract values over the model, and what the functions of the program do. No condition. -/
import Derived.Test.YtgilicomkelmdaaGreatM14
import Derived.Test.YtgilicomkelmdaaGreatM7
import Derived.IntWalk
set_option linter.all false
namespace Go.Av
section
variable {α:Type}
@[simp] theorem A2{x:α}{k:α→Prop}:AA (some x) k=k x:=rfl
@[simp] theorem jh{k:α→Prop}:AA none k=False:=rfl
theorem AF{r:α}{b:α→Prop}:AN r b=b r:=rfl
@[simp] theorem KL{A B:Prop}:ifK (.bool true) A B=A:=rfl
@[simp] theorem HP{A B:Prop}:ifK (.bool false) A B=B:=rfl
theorem cH{b:Bool}{A B:Prop}(h1:b=true→A)(h2:b=false→B):ifK (.bool b) A B:=by
 cases b
 ·exact h2 rfl
 ·exact h1 rfl
@[simp] theorem mT{A B Z:Prop}:gK (.bool true) A B Z=A:=rfl
@[simp] theorem ly{A B Z:Prop}:gK (.bool false) A B Z=B:=rfl
@[simp] theorem mO{A B Z:Prop}:gK (.tup []) A B Z=Z:=rfl
end
@[simp] theorem Vi(k:IntKind)(n:Int):AV.strip (.int k n)= .int k n:=rfl
@[simp] theorem jn(b:Bool):AV.strip (.bool b)= .bool b:=rfl
@[simp] theorem kP(s:List UInt8):AV.strip (.str s)= .str s:=rfl
@[simp] theorem strip_nil:AV.strip .nil= .nil:=rfl
@[simp] theorem ke(i o:Nat):AV.strip (.ptr i o)= .ptr i o:=rfl
@[simp] theorem lG(c:List AV)(o:Nat):AV.strip (.ep c o)= .ep c o:=rfl
@[simp] theorem eM(z:Nat)(es:List (List AV))(r:Rt):AV.strip (.vs z es r)= .vs z es r.strip:=rfl
@[simp] theorem lQ(a b c d:Nat):AV.strip (.rs a b c d)= .rs a b c d:=rfl
@[simp] theorem kX(m:Option Nat):AV.strip (.map m)= .map m:=rfl
@[simp] theorem l6(f:Nat)(a b:List AV):AV.strip (.fn f a b)= .fn f a b:=rfl
@[simp] theorem iu:AV.strip .nilfn= .nilfn:=rfl
@[simp] theorem kI(t:Nat)(v:AV):AV.strip (.ifc t v)= .ifc t v:=rfl
@[simp] theorem gM:AV.strip .nilifc= .nilifc:=rfl
@[simp] theorem kQ(cs:List AV):AV.strip (.agg cs)= .agg (cs.map AV.strip1):=rfl
@[simp] theorem iq:AV.strip .undef= .undef:=rfl
@[simp] theorem kq(cs:List AV):AV.strip (.tup cs)= .tup (cs.map AV.strip2):=rfl
@[simp] theorem jU(k:IntKind)(n:Int):AV.strip1 (.int k n)= .int k n:=rfl
@[simp] theorem iT(b:Bool):AV.strip1 (.bool b)= .bool b:=rfl
@[simp] theorem jT(s:List UInt8):AV.strip1 (.str s)= .str s:=rfl
@[simp] theorem ky(z:Nat)(es:List (List AV))(r:Rt):AV.strip1 (.vs z es r)= .vs z es r.strip:=rfl
@[simp] theorem jW(m:Option Nat):AV.strip1 (.map m)= .map m:=rfl
@[simp] theorem jm(i o:Nat):AV.strip1 (.ptr i o)= .ptr i o:=rfl
@[simp] theorem i7:AV.strip1 .nil= .nil:=rfl
@[simp] theorem kE(f:Nat)(a b:List AV):AV.strip1 (.fn f a b)= .fn f a b:=rfl
@[simp] theorem jC(t:Nat)(v:AV):AV.strip1 (.ifc t v)= .ifc t v:=rfl
@[simp] theorem cS(z:Nat)(es:List (List AV))(r:Rt):AV.strip0 (.vs z es r)= .vs z es r:=rfl
@[simp] theorem ix(cs:List AV):AV.strip0 (.agg cs)= .agg (cs.map AV.strip1):=rfl
@[simp] theorem gV(t:Nat):Rt.strip (.own t)= .none:=rfl
@[simp] theorem iA:Rt.strip .nil= .nil:=rfl
@[simp] theorem fO:Rt.strip .full= .full:=rfl
@[simp] theorem fL:Rt.strip .none= .none:=rfl
theorem AO{i:TI}{S:St}{id off tg:Nat}{cs:List AV}(h:S[id]? =some (.cells cs tg)):AM i S (.ptr id off)=Iz i cs off:=by simp[AM,Cp,h]
@[simp] theorem lu{i:TI}{S:St}{off:Nat}{cs:List AV}:AM i S (.ep cs off)=Iz i cs off:=rfl
theorem Am{i:TI}{S:St}{id off tg:Nat}{cs:List AV}{x:AV}(h:S[id]? =some (.cells cs tg)):BC i S (.ptr id off) x=(Ej i cs off x).map fun cs'=>S.set id (.cells cs' tg):=by simp[BC,Cp,JF,h]
@[simp] theorem DP{S:St}{id off tg:Nat}{cs:List AV}(h:S[id]? =some (.cells cs tg)):stripMem S (.ptr id off)=S.set id (.cells (cs.modify off AV.strip1) tg):=by simp[stripMem,Cp,JF,h]
theorem wrap64{n:Int}(h1:-9223372036854775808≤n)(h2:n≤9223372036854775807):IntKind.i64.wrap n=n:=IntWalk.i64_in n ⟨h1,h2⟩
theorem Ab{S:St}{id:Nat}{o o':Obj}(h:S[id]? =some o):(S.set id o')[id]? =some o':=by
 have:=(List.getElem?_eq_some_iff.1 h).1;simp[this]
theorem An{S:St}{id j:Nat}{o':Obj}(h:id≠j):(S.set id o')[j]? =S[j]?:=by simp[h]
@[simp] theorem ZW(a:AV)(l:List AV):AQ (.tup (a::l)) 0= .tup (a.strip2::l):=rfl
@[simp] theorem Zz(a b:AV)(l:List AV):AQ (.tup (a::b::l)) 1= .tup (a::b.strip2::l):=rfl
@[simp] theorem jO(a b c:AV)(l:List AV):AQ (.tup (a::b::c::l)) 2= .tup (a::b::c.strip2::l):=rfl
@[simp] theorem jD(a b c d:AV)(l:List AV):AQ (.tup (a::b::c::d::l)) 3= .tup (a::b::c::d.strip2::l):=rfl
@[simp] theorem ZB(a:AV)(l:List AV):AP (.tup (a::l)) 0=some a:=rfl
@[simp] theorem aD(a b:AV)(l:List AV):AP (.tup (a::b::l)) 1=some b:=rfl
@[simp] theorem Za(a b c:AV)(l:List AV):AP (.tup (a::b::c::l)) 2=some c:=rfl
@[simp] theorem jP(a b c d:AV)(l:List AV):AP (.tup (a::b::c::d::l)) 3=some d:=rfl
@[simp] theorem js(k:IntKind)(n:Int):AV.strip2 (.int k n)= .int k n:=rfl
@[simp] theorem ik(b:Bool):AV.strip2 (.bool b)= .bool b:=rfl
@[simp] theorem jp(s:List UInt8):AV.strip2 (.str s)= .str s:=rfl
@[simp] theorem j9:AV.strip2 .nil= .nil:=rfl
@[simp] theorem jQ(i o:Nat):AV.strip2 (.ptr i o)= .ptr i o:=rfl
@[simp] theorem kH(z:Nat)(es:List (List AV))(r:Rt):AV.strip2 (.vs z es r)= .vs z es r.strip:=rfl
@[simp] theorem ja(m:Option Nat):AV.strip2 (.map m)= .map m:=rfl
@[simp] theorem jl(cs:List AV):AV.strip2 (.agg cs)= .agg (cs.map AV.strip1):=rfl
@[simp] theorem jN(k:IntKind)(n:Int):AV.strip0 (.int k n)= .int k n:=rfl
@[simp] theorem mA(k:IntKind)(n:Int):AV.flat (.int k n)= .int k n:=rfl
@[simp] theorem kp(b:Bool):AV.flat (.bool b)= .bool b:=rfl
@[simp] theorem lE(s:List UInt8):AV.flat (.str s)= .str s:=rfl
@[simp] theorem mZ(z:Nat)(es:List (List AV))(r:Rt):AV.flat (.vs z es r)= .vs z es r:=rfl
@[simp] theorem flat_agg(cs:List AV):AV.flat (.agg cs)= .agg cs:=rfl
@[simp] theorem mC(i o:Nat):AV.flat (.ptr i o)= .ptr i o:=rfl
@[simp] theorem l9:AV.flat .nil= .nil:=rfl
@[simp] theorem lm(i o:Nat):Pr (.ptr i o)=some (.ptr i o):=rfl
@[simp] theorem mM(c:List AV)(o:Nat):Pr (.ep c o)=some (.ep c o):=rfl
@[simp] theorem iS(i o d:Nat):Dg (.ptr i o) d=some (.ptr i (o+d)):=rfl
@[simp] theorem je(c:List AV)(o d:Nat):Dg (.ep c o) d=some (.ep c (o+d)):=rfl
@[simp] theorem iz(a b:AV):As (.bool true) a b=some a:=rfl
@[simp] theorem iR(a b:AV):As (.bool false) a b=some b:=rfl
@[simp] theorem mQ(b:Bool):unA .not (.bool b)=some (.bool (!b)):=rfl
@[simp] theorem fB(k:IntKind)(a b:Int):AG .add (.int k a) (.int k b)=some (.int k (k.wrap (a+b))):=by simp[AG,F2]
@[simp] theorem dq(k:IntKind)(a b:Int):AG .sub (.int k a) (.int k b)=some (.int k (k.wrap (a - b))):=by simp[AG,F2]
@[simp] theorem lY(k:IntKind)(a b:Int):AG .mul (.int k a) (.int k b)=some (.int k (k.wrap (a*b))):=by simp[AG,F2]
@[simp] theorem l8(k:IntKind)(a b:Int):AG .eql (.int k a) (.int k b)=some (.bool (decide (a=b))):=by simp[AG,F2];rfl
@[simp] theorem ea(k:IntKind)(a b:Int):AG .neq (.int k a) (.int k b)=some (.bool (decide (a≠b))):=by simp[AG,F2];by_cases h:a=b<;>simp[h]
@[simp] theorem dv(k:IntKind)(a b:Int):AG .lss (.int k a) (.int k b)=some (.bool (decide (a < b))):=by simp[AG,F2]
@[simp] theorem lD(k:IntKind)(a b:Int):AG .leq (.int k a) (.int k b)=some (.bool (decide (a≤b))):=by simp[AG,F2]
@[simp] theorem lJ(k:IntKind)(a b:Int):AG .gtr (.int k a) (.int k b)=some (.bool (decide (a > b))):=by simp[AG,F2]
@[simp] theorem mI(k:IntKind)(a b:Int):AG .geq (.int k a) (.int k b)=some (.bool (decide (a≥b))):=by simp[AG,F2]
@[simp] theorem fT(a b:Bool):HI .bool .eql (.bool a) (.bool b)=some (.bool (a==b)):=rfl
@[simp] theorem fQ(a b:Bool):HI .bool .neq (.bool a) (.bool b)=some (.bool (!(a==b))):=rfl
@[simp] theorem kC(z:Nat)(es:List (List AV))(r:Rt):Bb (.vs z es r)=some (.int .i64 es.length):=rfl
@[simp] theorem iG(s:List UInt8):Fh (.str s)=some (.int .i64 s.length):=rfl
@[simp] theorem ka{Ca:Nat→List AV→St→(AV→St→Prop)→Prop}{g:Nat}{xs:List AV}{S:St}{k:AV→St→Prop}:Ac Ca g xs S k=AA (D4 xs) fun xs=>Ca g xs S k:=rfl
@[simp] theorem mB(k:IntKind)(n:Int):AV.free (.int k n)=true:=rfl
@[simp] theorem ku(b:Bool):AV.free (.bool b)=true:=rfl
@[simp] theorem lh(s:List UInt8):AV.free (.str s)=true:=rfl
@[simp] theorem mK(z:Nat)(es:List (List AV))(r:Rt):AV.free (.vs z es r)=true:=rfl
@[simp] theorem ll(i o:Nat):AV.free (.ptr i o)=true:=rfl
@[simp] theorem lc:AV.free .nil=true:=rfl
@[simp] theorem la(m:Option Nat):AV.free (.map m)=true:=rfl
@[simp] theorem lF(cs:List AV):AV.free (.agg cs)=cs.all AV.free1:=rfl
@[simp] theorem mN(f:Nat)(a b:List AV):AV.free (.fn f a b)=true:=rfl
@[simp] theorem mG(t:Nat)(v:AV):AV.free (.ifc t v)=true:=rfl
@[simp] theorem kG(k:IntKind)(n:Int):AV.free1 (.int k n)=true:=rfl
@[simp] theorem jE(b:Bool):AV.free1 (.bool b)=true:=rfl
@[simp] theorem kV(s:List UInt8):AV.free1 (.str s)=true:=rfl
@[simp] theorem lH(z:Nat)(es:List (List AV))(r:Rt):AV.free1 (.vs z es r)=true:=rfl
@[simp] theorem kT(i o:Nat):AV.free1 (.ptr i o)=true:=rfl
@[simp] theorem kZ(m:Option Nat):AV.free1 (.map m)=true:=rfl
@[simp] theorem kF(k:IntKind)(n:Int):AV.cells (.int k n)=[.int k n]:=rfl
@[simp] theorem j7(b:Bool):AV.cells (.bool b)=[.bool b]:=rfl
@[simp] theorem km(s:List UInt8):AV.cells (.str s)=[.str s]:=rfl
@[simp] theorem lg(z:Nat)(es:List (List AV))(r:Rt):AV.cells (.vs z es r)=[.vs z es r]:=rfl
@[simp] theorem kY(i o:Nat):AV.cells (.ptr i o)=[.ptr i o]:=rfl
@[simp] theorem kw(m:Option Nat):AV.cells (.map m)=[.map m]:=rfl
@[simp] theorem kN(cs:List AV):AV.cells (.agg cs)=cs:=rfl
attribute [simp] Iz D4 Ej Dy AD AR DV Hz Yd B3 VD VV Cj Cd
theorem Tp{g:KK}{S:St}{id:Nat}{es:List (AV×AV)}{key x:AV}(h:S[id]? =some (.map es))(hk:KQ g key=true)(hx:x.free=true)(hf:FI key es 0=some none):
  Ep g S (.map (some id)) key x=some (S.set id (.map (es++[(key,x.strip)]))):=by simp[Ep,hk,hx,HH,h,hf]
theorem TG{g:KK}{S:St}{id i:Nat}{es:List (AV×AV)}{key x v:AV}(h:S[id]? =some (.map es))(hk:KQ g key=true)(hx:x.free=true)(hf:FI key es 0=some (some (i,v))):
  Ep g S (.map (some id)) key x=some (S.set id (.map (es.modify i fun p=>(p.1,x.strip)))):=by simp[Ep,hk,hx,HH,h,hf]
theorem Wl{g:KK}{S:St}{id i:Nat}{es:List (AV×AV)}{key v:AV}(h:S[id]? =some (.map es))(hk:KQ g key=true)(hf:FI key es 0=some (some (i,v))):
  Mn g S (.map (some id)) key=some (S.set id (.map (es.eraseIdx i))):=by simp[Mn,hk,HH,h,hf]
@[simp] theorem gf(k k':IntKind)(n:Int):EX k (.int k' n)=some (.int k (k.wrap n)):=rfl
theorem Xq(k:IntKind)(a b:Int)(hb:b≠0):AG .quo (.int k a) (.int k b)=some (.int k (k.wrap (a.tdiv b))):=by simp[AG,F2,hb]
@[simp] theorem mP {c : Bool} {k : AV → Prop} {B : (AV → Prop) → Prop} :
  AN (fun x=>AA (As (.bool c) (.bool true) x) k) (fun j=>ifK (.bool c) (j (.tup [])) (B j))=AN k (fun j=>ifK (.bool c) (j (.bool true)) (B j)):=by cases c<;>rfl
@[simp] theorem lC {c : Bool} {k : AV → Prop} {B : (AV → Prop) → Prop} :
  AN (fun x=>AA (As (.bool c) x (.bool false)) k) (fun j=>ifK (.bool c) (B j) (j (.tup [])))=AN k (fun j=>ifK (.bool c) (B j) (j (.bool false))):=by cases c<;>rfl
@[simp] theorem ls {c : Bool} {k : St → AV → Prop} {S : St} {B : (AV → St → Prop) → Prop} :
  AN (fun x S=>AA (As (.bool c) (.bool true) x) (k S)) (fun j=>ifK (.bool c) (j (.tup []) S) (B j))=AN (fun x S=>k S x) (fun j=>ifK (.bool c) (j (.bool true) S) (B j)):=by cases c<;>rfl
@[simp] theorem kn {c : Bool} {k : St → AV → Prop} {S : St} {B : (AV → St → Prop) → Prop} :
  AN (fun x S=>AA (As (.bool c) x (.bool false)) (k S)) (fun j=>ifK (.bool c) (B j) (j (.tup []) S))=AN (fun x S=>k S x) (fun j=>ifK (.bool c) (B j) (j (.bool false) S)):=by cases c<;>rfl
@[simp] theorem mV{c d:Bool}{k:AV→Prop}:AN k (fun j=>ifK (.bool c) (j (.bool true)) (j (.bool d)))=k (.bool (c||d)):=by cases c<;>rfl
@[simp] theorem lx{c d:Bool}{k:AV→Prop}:AN k (fun j=>ifK (.bool c) (j (.bool d)) (j (.bool false)))=k (.bool (c&&d)):=by cases c<;>rfl
@[simp] theorem join_one{α:Type}{k:α→Prop}{x:α}:AN k (fun j=>j x)=k x:=rfl
@[simp] theorem kO{α β:Type}{k:α→β→Prop}{x:α}{y:β}:AN k (fun j=>j x y)=k x y:=rfl
theorem Bm{α:Type}{r:α}{b:α→Prop}(J:α→Prop)(h1:J r)(h2:∀j,J j→b j):AN r b:=h2 r h1
theorem YR{c:Bool}{A B:Prop}(h1:c=true→A)(h2:c=false→B):ifK (.bool c) A B:=cH h1 h2
structure Nx{σ:Type}(e:σ→Lv)(Inv:Nat→σ→St→Prop)(n:Nat)(x:Lv)(S':St):Prop where
 ex:∃m s',m < n∧x=e s'∧Inv m s' S'
theorem CD{σ:Type}{x0:Lv}{pj:(Nat→AV)→(Nat→Option (List AV))→Lv}{body:(Lv→St→Prop)→(Nat→AV)→(Nat→Option (List AV))→St→Prop}{S:St}(e:σ→Lv)(Inv:Nat→σ→St→Prop)(n0:Nat)(s0:σ)
  (h0:x0=e s0) (hi:Inv n0 s0 S) (hb:∀n s S v b,Inv n s S→pj v b=e s→body (Nx e Inv n) v b S):CJ x0 pj body S:=by
 refine⟨fun n x S=>∃s,x=e s∧Inv n s S,⟨n0,s0,h0,hi⟩,?_⟩
 rintro n v b S ⟨s,hx,hI⟩;have:=hb n s S v b hI hx;have e2:Nx e Inv n=(fun x S'=>∃m,m < n∧∃s,x=e s∧Inv m s S'):=by
  funext x S';apply propext;constructor
  ·rintro⟨m,s',h1,h2,h3⟩;exact⟨m,h1,s',h2,h3⟩
  ·rintro⟨m,h1,s',h2,h3⟩;exact⟨m,s',h1,h2,h3⟩
 rw[←e2];exact this
structure Nl{σ:Type}(e:Nat→σ→Lv)(Inv:Nat→σ→St→Prop)(k i:Nat)(x:Lv)(S':St):Prop where
 ex:∃j s',i < j∧j≤k∧x=e j s'∧Inv j s' S'
theorem Nl.next{σ:Type}{e:Nat→σ→Lv}{Inv:Nat→σ→St→Prop}{k i:Nat}{x:Lv}{S':St}(h:i < k)(s':σ)(hx:x=e (i+1) s')(hi:Inv (i+1) s' S'):Nl e Inv k i x S':=⟨i+1,s',by omega,by omega,hx,hi⟩
theorem Bl{α σ:Type}{x0:Lv}{pj:(Nat→AV)→(Nat→Option (List AV))→Lv}{body:(Lv→St→Prop)→(Nat→AV)→(Nat→Option (List AV))→St→Prop}{S:St}(l:List α)(e:Nat→σ→Lv)(Inv:Nat→σ→St→Prop)(s0:σ)
  (h0:x0=e 0 s0) (hi:Inv 0 s0 S)
  (hs:∀i s S v b x,i < l.length→l[i]? =some x→l.drop i=x::l.drop (i+1)→(i:Int) < l.length→x∈l→Inv i s S→pj v b=e i s→body (Nl e Inv l.length i) v b S)
  (he:∀s S v b,Inv l.length s S→pj v b=e l.length s→∀N,body N v b S):CJ x0 pj body S:=by
 refine⟨fun n x S=>∃s,n≤l.length∧x=e (l.length - n) s∧Inv (l.length - n) s S,⟨l.length,s0,Nat.le_refl _,by rw[Nat.sub_self];exact h0,by rw[Nat.sub_self];exact hi⟩,?_⟩
 rintro n v b S ⟨s,hn,hx,hI⟩
 by_cases c:l.length - n < l.length
 ·have hh:=hs (l.length - n) s S v b l[l.length - n] c (by simp[c]) (List.drop_eq_getElem_cons c) (by omega) (List.getElem_mem c) hI hx
  have:(Nl e Inv l.length (l.length - n))=(fun x S'=>∃m,m < n∧∃s,m≤l.length∧x=e (l.length - m) s∧Inv (l.length - m) s S'):=by
   funext x S';apply propext;constructor
   ·rintro⟨j,s',h1,h2,h3,h4⟩;have:l.length - (l.length - j)=j:=by omega
    exact⟨l.length - j,by omega,s',by omega,by rw[this];exact h3,by rw[this];exact h4⟩
   ·rintro⟨m,h1,s',h2,h3,h4⟩;exact⟨l.length - m,s',by omega,by omega,h3,h4⟩
  rw[←this];exact hh
 ·have:l.length - n=l.length:=by omega
  rw[this] at hx hI;exact he s S v b hI hx _
@[simp] theorem eO(r:Rt):r.strip.strip=r.strip:=by cases r<;>rfl
@[simp] theorem lW(k:IntKind)(x y:Int):WE [.int k x,.int k y]=some (.int k (if y < x then y else x)):=by simp[WE]
@[simp] theorem lS(k:IntKind)(x y:Int):R0 [.int k x,.int k y]=some (.int k (if y > x then y else x)):=by simp[R0]
@[simp] theorem Vm(ei:TI)(es:List (List AV))(r:Rt)(k:IntKind)(i sz:Nat):AZ ei (.vs sz es r) (.int k (i:Int))=if sz=ei.size then (es[i]?).map (.ep · 0) else none:=by simp[AZ]
@[simp] theorem fI(ei:TI)(es:List (List AV))(r:Rt)(k:IntKind)(i sz:Nat):AZ ei (.vs sz es r) (.int k (no_index (OfNat.ofNat i)))=if sz=ei.size then (es[i]?).map (.ep · 0) else none:=Vm ei es r k i sz
@[simp] theorem bn{s:List UInt8}{k:IntKind}{i:Nat}:NM (.str s) (.int k (i:Int))=(s[i]?).map (fun b=>.int .u8 b.toNat):=by simp[NM]
@[simp] theorem mW(a b:List UInt8):(a==b)=decide (a=b):=by by_cases h:a=b<;>simp[h]
@[simp] theorem mY(a b:Int):(a==b)=decide (a=b):=by by_cases h:a=b<;>simp[h]
@[simp] theorem gQ(a b:List UInt8):AG .eql (.str a) (.str b)=some (.bool (decide (a=b))):=by simp[AG,QV]
@[simp] theorem fj(a b:List UInt8):AG .neq (.str a) (.str b)=some (.bool (!decide (a=b))):=by simp[AG,QV]
@[simp] theorem fc(a b:List UInt8):AG .lss (.str a) (.str b)=some (.bool (Op.bytesLess a b)):=rfl
@[simp] theorem gF(a b:List UInt8):AG .geq (.str a) (.str b)=some (.bool (!Op.bytesLess a b)):=rfl
theorem K6{a b:List UInt8}(h:a.length+b.length≤1000000000000):AG .add (.str a) (.str b)=some (.str (a++b)):=by simp[AG,QV,h]
theorem ii{α:Type}{l:List α}{i:Nat}(c:i < l.length):∃x,l[i]? =some x∧l.drop i=x::l.drop (i+1)∧(i:Int) < l.length∧x∈l:=
 ⟨l[i],by simp[c],List.drop_eq_getElem_cons c,by omega,List.getElem_mem c⟩
theorem Zp(s:List UInt8)(k1 k2:IntKind)(a b:Int)(ha:0≤a)(hab:a≤b)(hb:b≤s.length):DA (.str s) (some (.int k1 a)) (some (.int k2 b))=some (.str ((s.take b.toNat).drop a.toNat)):=by
 have h2:a≤(b.toNat:Int):=by omega
 simp[DA,bnd,ha,hb,show 0≤b by omega]
 omega
@[simp] theorem kA(s:List UInt8)(k1 k2:IntKind)(i k:Nat):DA (.str s) (some (.int k1 i)) (some (.int k2 k))=if i≤k∧k≤s.length then some (.str ((s.take k).drop i)) else none:=by
 by_cases h1:k≤s.length
 ·by_cases h2:i≤k
  ·simp[DA,bnd,h1,h2]
  ·simp[DA,bnd,h1,h2]
 ·simp[DA,bnd,h1]
@[simp] theorem df(s:List UInt8)(k1:IntKind)(i:Nat):DA (.str s) (some (.int k1 i)) none=if i≤s.length then some (.str (s.drop i)) else none:=by
 by_cases h2:i≤s.length<;>simp[DA,bnd,h2]
@[simp] theorem fA(s:List UInt8)(k2:IntKind)(k:Nat):DA (.str s) none (some (.int k2 k))=if k≤s.length then some (.str (s.take k)) else none:=by
 by_cases h2:k≤s.length<;>simp[DA,bnd,h2]
@[simp] theorem gX(s:List UInt8)(k1:IntKind)(i:Nat):DA (.str s) (some (.int k1 (no_index (OfNat.ofNat i)))) none=if i≤s.length then some (.str (s.drop i)) else none:=df s k1 i
@[simp] theorem ge(s:List UInt8)(k1:IntKind)(i:Nat):DA (.str s) none (some (.int k1 (no_index (OfNat.ofNat i))))=if i≤s.length then some (.str (s.take i)) else none:=fA s k1 i
@[simp] theorem XF (ei : TI) (sz : Nat) (es : List (List AV)) (r : Rt) (k1 k2 : IntKind) (i k : Nat) :
  Dm ei (.vs sz es r) (some (.int k1 i)) (some (.int k2 k)) none=if sz=ei.size∧(i≤k∧k≤es.length)∧(r= .nil→es=[]) then some (.vs sz ((es.take k).drop i) (if k=es.length then r else .none)) else none:=by
 by_cases h0:sz=ei.size
 case neg=>simp[Dm,h0]
 by_cases h1:k≤es.length
 case neg=>simp[Dm,bnd,h0,h1]
 by_cases h2:i≤k
 case neg=>simp[Dm,bnd,h0,h1,h2]
 by_cases hr:r= .nil
 ·subst hr
  by_cases he:es=[]
  ·subst he;have:k=0:=by simpa using h1
   subst this;have:i=0:=by omega
   subst this;simp[Dm,bnd,h0]
  ·simp[Dm,bnd,h0,h1,h2,he]
 ·simp[Dm,bnd,h0,h1,h2,hr]
@[simp] theorem eJ (ei : TI) (sz : Nat) (es : List (List AV)) (r : Rt) (k1 : IntKind) (i : Nat) :
  Dm ei (.vs sz es r) (some (.int k1 i)) none none=if sz=ei.size∧i≤es.length∧(r= .nil→es=[]) then some (.vs sz (es.drop i) r) else none:=by
 have h:=XF ei sz es r k1 k1 i es.length;have e:Dm ei (.vs sz es r) (some (.int k1 i)) none none=Dm ei (.vs sz es r) (some (.int k1 i)) (some (.int k1 es.length)) none:=by simp[Dm,bnd]
 rw[e,h];simp
@[simp] theorem jG (ei : TI) (sz : Nat) (es : List (List AV)) (r : Rt) (k1 : IntKind) (k : Nat) :
  Dm ei (.vs sz es r) none (some (.int k1 k)) none=if sz=ei.size∧k≤es.length∧(r= .nil→es=[]) then some (.vs sz (es.take k) (if k=es.length then r else .none)) else none:=by
 have h:=XF ei sz es r k1 k1 0 k;have e:Dm ei (.vs sz es r) none (some (.int k1 k)) none=Dm ei (.vs sz es r) (some (.int k1 (0:Nat))) (some (.int k1 k)) none:=by simp[Dm,bnd]
 rw[e,h];simp
@[simp] theorem jw (ei : TI) (sz : Nat) (es : List (List AV)) (r : Rt) (k1 : IntKind) (i : Nat) :
  Dm ei (.vs sz es r) (some (.int k1 (no_index (OfNat.ofNat i)))) none none=if sz=ei.size∧i≤es.length∧(r= .nil→es=[]) then some (.vs sz (es.drop i) r) else none:=eJ ei sz es r k1 i
@[simp] theorem jL (ei : TI) (sz : Nat) (es : List (List AV)) (r : Rt) (k1 : IntKind) (k : Nat) :
  Dm ei (.vs sz es r) none (some (.int k1 (no_index (OfNat.ofNat k)))) none=if sz=ei.size∧k≤es.length∧(r= .nil→es=[]) then some (.vs sz (es.take k) (if k=es.length then r else .none)) else none:=jG ei sz es r k1 k
@[simp] theorem jr(s:List UInt8):AV.strip0 (.str s)= .str s:=rfl
@[simp] theorem iZ(b:Bool):AV.strip0 (.bool b)= .bool b:=rfl
@[simp] theorem jJ(i o:Nat):AV.strip0 (.ptr i o)= .ptr i o:=rfl
@[simp] theorem ji:AV.strip0 .nil= .nil:=rfl
@[simp] theorem jM(m:Option Nat):AV.strip0 (.map m)= .map m:=rfl
@[simp] theorem kr(a b c d:Nat):AV.strip0 (.rs a b c d)= .rs a b c d:=rfl
@[simp] theorem fR:AV.strip2 .nilifc= .nilifc:=rfl
@[simp] theorem iI:AV.flat .nilifc= .nilifc:=rfl
@[simp] theorem lw(m:Option Nat):AV.flat (.map m)= .map m:=rfl
@[simp] theorem mS(a b c d:Nat):AV.flat (.rs a b c d)= .rs a b c d:=rfl
@[simp] theorem mR(f:Nat)(a b:List AV):AV.flat (.fn f a b)= .fn f a b:=rfl
@[simp] theorem iK:AV.free .nilifc=true:=rfl
@[simp] theorem fd:AV.free1 .nilifc=true:=rfl
@[simp] theorem ks:AV.free1 .nil=true:=rfl
@[simp] theorem lX(f:Nat)(a b:List AV):AV.free1 (.fn f a b)=true:=rfl
@[simp] theorem lM(a b c d:Nat):AV.free1 (.rs a b c d)=true:=rfl
@[simp] theorem mX(a b c d:Nat):AV.free (.rs a b c d)=true:=rfl
@[simp] theorem ko(t:Nat)(v:AV):AV.free1 (.ifc t v)=true:=rfl
@[simp] theorem fK:AV.strip1 .nilifc= .nilifc:=rfl
@[simp] theorem kR(a b c d:Nat):AV.strip1 (.rs a b c d)= .rs a b c d:=rfl
@[simp] theorem fq:AV.strip1 .nilfn= .nilfn:=rfl
@[simp] theorem iL:AV.free1 .nilfn=true:=rfl
@[simp] theorem kU:AV.cells .nil=[.nil]:=rfl
@[simp] theorem lz(a b c d:Nat):AV.cells (.rs a b c d)=[.rs a b c d]:=rfl
@[simp] theorem lN(f:Nat)(a b:List AV):AV.cells (.fn f a b)=[.fn f a b]:=rfl
@[simp] theorem kM(t:Nat)(v:AV):AV.cells (.ifc t v)=[.ifc t v]:=rfl
@[simp] theorem gE:AV.cells .nilifc=[.nilifc]:=rfl
@[simp] theorem mJ(c:Bool)(A B Z:Prop):gK (.bool c) A B Z=ifK (.bool c) A B:=by cases c<;>rfl
@[simp] theorem bP(ei:TI)(sz id off len:Nat)(k:IntKind)(i:Nat):AZ ei (.rs sz id off len) (.int k (i:Int))=if sz=ei.size∧i < len then some (.ptr id (off+i*sz)) else none:=by simp[AZ]
@[simp] theorem fU(ei:TI)(sz id off len:Nat)(k:IntKind)(i:Nat):AZ ei (.rs sz id off len) (.int k (no_index (OfNat.ofNat i)))=if sz=ei.size∧i < len then some (.ptr id (off+i*sz)) else none:=bP ei sz id off len k i
@[simp] theorem kh(sz id off len:Nat):Bb (.rs sz id off len)=some (.int .i64 len):=rfl
@[simp] theorem fH{s:List UInt8}{k:IntKind}{i:Nat}:NM (.str s) (.int k (no_index (OfNat.ofNat i)))=(s[i]?).map (fun b=>.int .u8 b.toNat):=bn
@[simp] theorem kv(ei:TI)(sz id off len:Nat)(k:IntKind)(n:Nat):Dm ei (.rs sz id off len) none (some (.int k (n:Int))) none=if sz=ei.size∧n≤len then some (.rs sz id off n) else none:=by
 by_cases h0:sz=ei.size<;>by_cases h1:n≤len<;>simp[Dm,bnd,h0,h1]
end Go.Av
