/- Parts of the proofs of this seat: abstract values over the model, and what the functions of the program do. No condition. -/
import Derived.Test.YtgilicomkelmdaaGreatDoorM14
import Derived.Test.YtgilicomkelmdaaGreatDoorM7
import Derived.IntWalk
set_option linter.all false
set_option maxRecDepth 100000
namespace Go.Av
section
variable {α:Type}
@[simp] theorem Ay{x:α}{k:α→Prop}:AA (some x) k=k x:=rfl
@[simp] theorem nC{k:α→Prop}:AA none k=False:=rfl
theorem AH{r:α}{b:α→Prop}:AL r b=b r:=rfl
@[simp] theorem FN{A B:Prop}:ifK (.bool true) A B=A:=rfl
@[simp] theorem EU{A B:Prop}:ifK (.bool false) A B=B:=rfl
theorem fK{b:Bool}{A B:Prop}(h1:b=true→A)(h2:b=false→B):ifK (.bool b) A B:=by
 cases b
 ·exact h2 rfl
 ·exact h1 rfl
@[simp] theorem pM{A B Z:Prop}:gK (.bool true) A B Z=A:=rfl
@[simp] theorem o6{A B Z:Prop}:gK (.bool false) A B Z=B:=rfl
@[simp] theorem pL{A B Z:Prop}:gK (.tup []) A B Z=Z:=rfl
end
@[simp] theorem Xm(k:IntKind)(n:Int):AV.strip (.int k n)= .int k n:=rfl
@[simp] theorem mz(b:Bool):AV.strip (.bool b)= .bool b:=rfl
@[simp] theorem nc(s:List UInt8):AV.strip (.str s)= .str s:=rfl
@[simp] theorem strip_nil:AV.strip .nil= .nil:=rfl
@[simp] theorem nz(i o:Nat):AV.strip (.ptr i o)= .ptr i o:=rfl
@[simp] theorem ow(c:List AV)(o:Nat):AV.strip (.ep c o)= .ep c o:=rfl
@[simp] theorem gn(z:Nat)(es:List (List AV))(r:Rt):AV.strip (.vs z es r)= .vs z es r.strip:=rfl
@[simp] theorem oo(a b c d:Nat):AV.strip (.rs a b c d)= .rs a b c d:=rfl
@[simp] theorem nu(m:Option Nat):AV.strip (.map m)= .map m:=rfl
@[simp] theorem oW(f:Nat)(a b:List AV):AV.strip (.fn f a b)= .fn f a b:=rfl
@[simp] theorem lT:AV.strip .nilfn= .nilfn:=rfl
@[simp] theorem nF(t:Nat)(v:AV):AV.strip (.ifc t v)= .ifc t v:=rfl
@[simp] theorem kT:AV.strip .nilifc= .nilifc:=rfl
@[simp] theorem n5(cs:List AV):AV.strip (.agg cs)= .agg (cs.map AV.strip1):=rfl
@[simp] theorem lY:AV.strip .undef= .undef:=rfl
@[simp] theorem np(cs:List AV):AV.strip (.tup cs)= .tup (cs.map AV.strip2):=rfl
@[simp] theorem ml(k:IntKind)(n:Int):AV.strip1 (.int k n)= .int k n:=rfl
@[simp] theorem lc(b:Bool):AV.strip1 (.bool b)= .bool b:=rfl
@[simp] theorem mH(s:List UInt8):AV.strip1 (.str s)= .str s:=rfl
@[simp] theorem nJ(z:Nat)(es:List (List AV))(r:Rt):AV.strip1 (.vs z es r)= .vs z es r.strip:=rfl
@[simp] theorem my(m:Option Nat):AV.strip1 (.map m)= .map m:=rfl
@[simp] theorem mR(i o:Nat):AV.strip1 (.ptr i o)= .ptr i o:=rfl
@[simp] theorem mJ:AV.strip1 .nil= .nil:=rfl
@[simp] theorem ni(f:Nat)(a b:List AV):AV.strip1 (.fn f a b)= .fn f a b:=rfl
@[simp] theorem m9(t:Nat)(v:AV):AV.strip1 (.ifc t v)= .ifc t v:=rfl
@[simp] theorem fe(z:Nat)(es:List (List AV))(r:Rt):AV.strip0 (.vs z es r)= .vs z es r:=rfl
@[simp] theorem mo(cs:List AV):AV.strip0 (.agg cs)= .agg (cs.map AV.strip1):=rfl
@[simp] theorem lO(t:Nat):Rt.strip (.own t)= .none:=rfl
@[simp] theorem kz:Rt.strip .nil= .nil:=rfl
@[simp] theorem jz:Rt.strip .full= .full:=rfl
@[simp] theorem ju:Rt.strip .none= .none:=rfl
theorem Aa{i:TI}{S:St}{id off tg:Nat}{cs:List AV}(h:S[id]? =some (.cells cs tg)):AP i S (.ptr id off)=Iy i cs off:=by simp[AP,C5,h]
@[simp] theorem oY{i:TI}{S:St}{off:Nat}{cs:List AV}:AP i S (.ep cs off)=Iy i cs off:=rfl
theorem Am{i:TI}{S:St}{id off tg:Nat}{cs:List AV}{x:AV}(h:S[id]? =some (.cells cs tg)):A8 i S (.ptr id off) x=(FL i cs off x).map fun cs'=>S.set id (.cells cs' tg):=by simp[A8,C5,JA,h]
@[simp] theorem DF{S:St}{id off tg:Nat}{cs:List AV}(h:S[id]? =some (.cells cs tg)):stripMem S (.ptr id off)=S.set id (.cells (cs.modify off AV.strip1) tg):=by simp[stripMem,C5,JA,h]
theorem wrap64{n:Int}(h1:-9223372036854775808≤n)(h2:n≤9223372036854775807):IntKind.i64.wrap n=n:=IntWalk.i64_in n ⟨h1,h2⟩
theorem Ai{S:St}{id:Nat}{o o':Obj}(h:S[id]? =some o):(S.set id o')[id]? =some o':=by
 have:=(List.getElem?_eq_some_iff.1 h).1;simp[this]
theorem Au{S:St}{id j:Nat}{o':Obj}(h:id≠j):(S.set id o')[j]? =S[j]?:=by simp[h]
@[simp] theorem cW(a:AV)(l:List AV):AW (.tup (a::l)) 0= .tup (a.strip2::l):=rfl
@[simp] theorem cL(a b:AV)(l:List AV):AW (.tup (a::b::l)) 1= .tup (a::b.strip2::l):=rfl
@[simp] theorem mc(a b c:AV)(l:List AV):AW (.tup (a::b::c::l)) 2= .tup (a::b::c.strip2::l):=rfl
@[simp] theorem mD(a b c d:AV)(l:List AV):AW (.tup (a::b::c::d::l)) 3= .tup (a::b::c::d.strip2::l):=rfl
@[simp] theorem cO(a:AV)(l:List AV):AS (.tup (a::l)) 0=some a:=rfl
@[simp] theorem dI(a b:AV)(l:List AV):AS (.tup (a::b::l)) 1=some b:=rfl
@[simp] theorem cz(a b c:AV)(l:List AV):AS (.tup (a::b::c::l)) 2=some c:=rfl
@[simp] theorem mP(a b c d:AV)(l:List AV):AS (.tup (a::b::c::d::l)) 3=some d:=rfl
@[simp] theorem mu(k:IntKind)(n:Int):AV.strip2 (.int k n)= .int k n:=rfl
@[simp] theorem lp(b:Bool):AV.strip2 (.bool b)= .bool b:=rfl
@[simp] theorem l6(s:List UInt8):AV.strip2 (.str s)= .str s:=rfl
@[simp] theorem nB:AV.strip2 .nil= .nil:=rfl
@[simp] theorem mZ(i o:Nat):AV.strip2 (.ptr i o)= .ptr i o:=rfl
@[simp] theorem nS(z:Nat)(es:List (List AV))(r:Rt):AV.strip2 (.vs z es r)= .vs z es r.strip:=rfl
@[simp] theorem mw(m:Option Nat):AV.strip2 (.map m)= .map m:=rfl
@[simp] theorem l7(cs:List AV):AV.strip2 (.agg cs)= .agg (cs.map AV.strip1):=rfl
@[simp] theorem mA(k:IntKind)(n:Int):AV.strip0 (.int k n)= .int k n:=rfl
@[simp] theorem oD(k:IntKind)(n:Int):AV.flat (.int k n)= .int k n:=rfl
@[simp] theorem nH(b:Bool):AV.flat (.bool b)= .bool b:=rfl
@[simp] theorem pC(s:List UInt8):AV.flat (.str s)= .str s:=rfl
@[simp] theorem pF(z:Nat)(es:List (List AV))(r:Rt):AV.flat (.vs z es r)= .vs z es r:=rfl
@[simp] theorem flat_agg(cs:List AV):AV.flat (.agg cs)= .agg cs:=rfl
@[simp] theorem oN(i o:Nat):AV.flat (.ptr i o)= .ptr i o:=rfl
@[simp] theorem o8:AV.flat .nil= .nil:=rfl
@[simp] theorem o7(i o:Nat):KF (.ptr i o)=some (.ptr i o):=rfl
@[simp] theorem pK(c:List AV)(o:Nat):KF (.ep c o)=some (.ep c o):=rfl
@[simp] theorem lg(i o d:Nat):A9 (.ptr i o) d=some (.ptr i (o+d)):=rfl
@[simp] theorem mX(c:List AV)(o d:Nat):A9 (.ep c o) d=some (.ep c (o+d)):=rfl
@[simp] theorem mj(a b:AV):AZ (.bool true) a b=some a:=rfl
@[simp] theorem ly(a b:AV):AZ (.bool false) a b=some b:=rfl
@[simp] theorem pH(b:Bool):unA .not (.bool b)=some (.bool (!b)):=rfl
@[simp] theorem iu(k:IntKind)(a b:Int):AI .add (.int k a) (.int k b)=some (.int k (k.wrap (a+b))):=by simp[AI,F6]
@[simp] theorem il(k:IntKind)(a b:Int):AI .sub (.int k a) (.int k b)=some (.int k (k.wrap (a - b))):=by simp[AI,F6]
@[simp] theorem oX(k:IntKind)(a b:Int):AI .mul (.int k a) (.int k b)=some (.int k (k.wrap (a*b))):=by simp[AI,F6]
@[simp] theorem oM(k:IntKind)(a b:Int):AI .eql (.int k a) (.int k b)=some (.bool (decide (a=b))):=by simp[AI,F6];rfl
@[simp] theorem iR(k:IntKind)(a b:Int):AI .neq (.int k a) (.int k b)=some (.bool (decide (a≠b))):=by simp[AI,F6];by_cases h:a=b<;>simp[h]
@[simp] theorem bc(k:IntKind)(a b:Int):AI .lss (.int k a) (.int k b)=some (.bool (decide (a < b))):=by simp[AI,F6]
@[simp] theorem oc(k:IntKind)(a b:Int):AI .leq (.int k a) (.int k b)=some (.bool (decide (a≤b))):=by simp[AI,F6]
@[simp] theorem of(k:IntKind)(a b:Int):AI .gtr (.int k a) (.int k b)=some (.bool (decide (a > b))):=by simp[AI,F6]
@[simp] theorem pB(k:IntKind)(a b:Int):AI .geq (.int k a) (.int k b)=some (.bool (decide (a≥b))):=by simp[AI,F6]
@[simp] theorem jq(a b:Bool):Hq .bool .eql (.bool a) (.bool b)=some (.bool (a==b)):=rfl
@[simp] theorem jy(a b:Bool):Hq .bool .neq (.bool a) (.bool b)=some (.bool (!(a==b))):=rfl
@[simp] theorem nX(z:Nat)(es:List (List AV))(r:Rt):Ap (.vs z es r)=some (.int .i64 es.length):=rfl
@[simp] theorem lu(s:List UInt8):Cb (.str s)=some (.int .i64 s.length):=rfl
@[simp] theorem nP{Ca:Nat→List AV→St→(AV→St→Prop)→Prop}{g:Nat}{xs:List AV}{S:St}{k:AV→St→Prop}:AY Ca g xs S k=AA (Dn xs) fun xs=>Ca g xs S k:=rfl
@[simp] theorem oJ(k:IntKind)(n:Int):AV.free (.int k n)=true:=rfl
@[simp] theorem nd(b:Bool):AV.free (.bool b)=true:=rfl
@[simp] theorem o9(s:List UInt8):AV.free (.str s)=true:=rfl
@[simp] theorem pV(z:Nat)(es:List (List AV))(r:Rt):AV.free (.vs z es r)=true:=rfl
@[simp] theorem oe(i o:Nat):AV.free (.ptr i o)=true:=rfl
@[simp] theorem oF:AV.free .nil=true:=rfl
@[simp] theorem oT(m:Option Nat):AV.free (.map m)=true:=rfl
@[simp] theorem og(cs:List AV):AV.free (.agg cs)=cs.all AV.free1:=rfl
@[simp] theorem pN(f:Nat)(a b:List AV):AV.free (.fn f a b)=true:=rfl
@[simp] theorem pA(t:Nat)(v:AV):AV.free (.ifc t v)=true:=rfl
@[simp] theorem nT(k:IntKind)(n:Int):AV.free1 (.int k n)=true:=rfl
@[simp] theorem mY(b:Bool):AV.free1 (.bool b)=true:=rfl
@[simp] theorem ny(s:List UInt8):AV.free1 (.str s)=true:=rfl
@[simp] theorem oR(z:Nat)(es:List (List AV))(r:Rt):AV.free1 (.vs z es r)=true:=rfl
@[simp] theorem nO(i o:Nat):AV.free1 (.ptr i o)=true:=rfl
@[simp] theorem nq(m:Option Nat):AV.free1 (.map m)=true:=rfl
@[simp] theorem nt(k:IntKind)(n:Int):AV.cells (.int k n)=[.int k n]:=rfl
@[simp] theorem mG(b:Bool):AV.cells (.bool b)=[.bool b]:=rfl
@[simp] theorem nY(s:List UInt8):AV.cells (.str s)=[.str s]:=rfl
@[simp] theorem oH(z:Nat)(es:List (List AV))(r:Rt):AV.cells (.vs z es r)=[.vs z es r]:=rfl
@[simp] theorem nL(i o:Nat):AV.cells (.ptr i o)=[.ptr i o]:=rfl
@[simp] theorem nf(m:Option Nat):AV.cells (.map m)=[.map m]:=rfl
@[simp] theorem nM(cs:List AV):AV.cells (.agg cs)=cs:=rfl
attribute [simp] Iy Dn FL EJ AB AK B9 H2 bR BJ Xl XN BE Be
theorem VX{g:KK}{S:St}{id:Nat}{es:List (AV×AV)}{key x:AV}(h:S[id]? =some (.map es))(hk:Ks g key=true)(hx:x.free=true)(hf:FB key es 0=some none):
  Eg g S (.map (some id)) key x=some (S.set id (.map (es++[(key,x.strip)]))):=by simp[Eg,hk,hx,G8,h,hf]
theorem Un{g:KK}{S:St}{id i:Nat}{es:List (AV×AV)}{key x v:AV}(h:S[id]? =some (.map es))(hk:Ks g key=true)(hx:x.free=true)(hf:FB key es 0=some (some (i,v))):
  Eg g S (.map (some id)) key x=some (S.set id (.map (es.modify i fun p=>(p.1,x.strip)))):=by simp[Eg,hk,hx,G8,h,hf]
theorem X7{g:KK}{S:St}{id i:Nat}{es:List (AV×AV)}{key v:AV}(h:S[id]? =some (.map es))(hk:Ks g key=true)(hf:FB key es 0=some (some (i,v))):
  Nj g S (.map (some id)) key=some (S.set id (.map (es.eraseIdx i))):=by simp[Nj,hk,G8,h,hf]
@[simp] theorem kS(k k':IntKind)(n:Int):Dy k (.int k' n)=some (.int k (k.wrap n)):=rfl
theorem Zc(k:IntKind)(a b:Int)(hb:b≠0):AI .quo (.int k a) (.int k b)=some (.int k (k.wrap (a.tdiv b))):=by simp[AI,F6,hb]
@[simp] theorem pT {c : Bool} {k : AV → Prop} {B : (AV → Prop) → Prop} :
  AL (fun x=>AA (AZ (.bool c) (.bool true) x) k) (fun j=>ifK (.bool c) (j (.tup [])) (B j))=AL k (fun j=>ifK (.bool c) (j (.bool true)) (B j)):=by cases c<;>rfl
@[simp] theorem o5 {c : Bool} {k : AV → Prop} {B : (AV → Prop) → Prop} :
  AL (fun x=>AA (AZ (.bool c) x (.bool false)) k) (fun j=>ifK (.bool c) (B j) (j (.tup [])))=AL k (fun j=>ifK (.bool c) (B j) (j (.bool false))):=by cases c<;>rfl
@[simp] theorem oU {c : Bool} {k : St → AV → Prop} {S : St} {B : (AV → St → Prop) → Prop} :
  AL (fun x S=>AA (AZ (.bool c) (.bool true) x) (k S)) (fun j=>ifK (.bool c) (j (.tup []) S) (B j))=AL (fun x S=>k S x) (fun j=>ifK (.bool c) (j (.bool true) S) (B j)):=by cases c<;>rfl
@[simp] theorem nj {c : Bool} {k : St → AV → Prop} {S : St} {B : (AV → St → Prop) → Prop} :
  AL (fun x S=>AA (AZ (.bool c) x (.bool false)) (k S)) (fun j=>ifK (.bool c) (B j) (j (.tup []) S))=AL (fun x S=>k S x) (fun j=>ifK (.bool c) (B j) (j (.bool false) S)):=by cases c<;>rfl
@[simp] theorem pQ{c d:Bool}{k:AV→Prop}:AL k (fun j=>ifK (.bool c) (j (.bool true)) (j (.bool d)))=k (.bool (c||d)):=by cases c<;>rfl
@[simp] theorem n8{c d:Bool}{k:AV→Prop}:AL k (fun j=>ifK (.bool c) (j (.bool d)) (j (.bool false)))=k (.bool (c&&d)):=by cases c<;>rfl
@[simp] theorem join_one{α:Type}{k:α→Prop}{x:α}:AL k (fun j=>j x)=k x:=rfl
@[simp] theorem n6{α β:Type}{k:α→β→Prop}{x:α}{y:β}:AL k (fun j=>j x y)=k x y:=rfl
theorem A7{α:Type}{r:α}{b:α→Prop}(J:α→Prop)(h1:J r)(h2:∀j,J j→b j):AL r b:=h2 r h1
theorem UM{c:Bool}{A B:Prop}(h1:c=true→A)(h2:c=false→B):ifK (.bool c) A B:=fK h1 h2
structure Nx{σ:Type}(e:σ→Lv)(Inv:Nat→σ→St→Prop)(n:Nat)(x:Lv)(S':St):Prop where
 ex:∃m s',m < n∧x=e s'∧Inv m s' S'
theorem BV{σ:Type}{x0:Lv}{pj:(Nat→AV)→(Nat→Option (List AV))→Lv}{body:(Lv→St→Prop)→(Nat→AV)→(Nat→Option (List AV))→St→Prop}{S:St}(e:σ→Lv)(Inv:Nat→σ→St→Prop)(n0:Nat)(s0:σ)
  (h0:x0=e s0) (hi:Inv n0 s0 S) (hb:∀n s S v b,Inv n s S→pj v b=e s→body (Nx e Inv n) v b S):A5 x0 pj body S:=by
 refine⟨fun n x S=>∃s,x=e s∧Inv n s S,⟨n0,s0,h0,hi⟩,?_⟩
 rintro n v b S ⟨s,hx,hI⟩;have:=hb n s S v b hI hx;have e2:Nx e Inv n=(fun x S'=>∃m,m < n∧∃s,x=e s∧Inv m s S'):=by
  funext x S';apply propext;constructor
  ·rintro⟨m,s',h1,h2,h3⟩;exact⟨m,h1,s',h2,h3⟩
  ·rintro⟨m,h1,s',h2,h3⟩;exact⟨m,s',h1,h2,h3⟩
 rw[←e2];exact this
structure Nl{σ:Type}(e:Nat→σ→Lv)(Inv:Nat→σ→St→Prop)(k i:Nat)(x:Lv)(S':St):Prop where
 ex:∃j s',i < j∧j≤k∧x=e j s'∧Inv j s' S'
theorem Nl.next{σ:Type}{e:Nat→σ→Lv}{Inv:Nat→σ→St→Prop}{k i:Nat}{x:Lv}{S':St}(h:i < k)(s':σ)(hx:x=e (i+1) s')(hi:Inv (i+1) s' S'):Nl e Inv k i x S':=⟨i+1,s',by omega,by omega,hx,hi⟩
theorem Ak{α σ:Type}{x0:Lv}{pj:(Nat→AV)→(Nat→Option (List AV))→Lv}{body:(Lv→St→Prop)→(Nat→AV)→(Nat→Option (List AV))→St→Prop}{S:St}(l:List α)(e:Nat→σ→Lv)(Inv:Nat→σ→St→Prop)(s0:σ)
  (h0:x0=e 0 s0) (hi:Inv 0 s0 S)
  (hs:∀i s S v b x,i < l.length→l[i]? =some x→l.drop i=x::l.drop (i+1)→(i:Int) < l.length→x∈l→Inv i s S→pj v b=e i s→body (Nl e Inv l.length i) v b S)
  (he:∀s S v b,Inv l.length s S→pj v b=e l.length s→∀N,body N v b S):A5 x0 pj body S:=by
 refine⟨fun n x S=>∃s,n≤l.length∧x=e (l.length - n) s∧Inv (l.length - n) s S,⟨l.length,s0,Nat.le_refl _,by rw[Nat.sub_self];exact h0,by rw[Nat.sub_self];exact hi⟩,?_⟩
 rintro n v b S ⟨s,hn,hx,hI⟩
 by_cases c:l.length - n < l.length
 ·have hh:=hs (l.length - n) s S v b l[l.length - n] c (by simp[c]) (List.drop_eq_getElem_cons c) (by omega) (List.getElem_mem c) hI hx
  have:(Nl e Inv l.length (l.length - n))=(fun x S'=>∃m,m < n∧∃s,m≤l.length∧x=e (l.length - m) s∧Inv (l.length - m) s S'):=by
   funext x S';apply propext;constructor
   ·rintro⟨j,s',h1,h2,h3,h4⟩;have:l.length - (l.length - j)=j:=by omega
    exact⟨l.length - j,by omega,s',by omega,by rw[this];exact h3,by rw[this];exact h4⟩
   ·rintro⟨m,h1,s',h2,h3,h4⟩;exact⟨l.length - m,s',by omega,by omega,h3,h4⟩
  rw[←this];exact hh
 ·have:l.length - n=l.length:=by omega
  rw[this] at hx hI;exact he s S v b hI hx _
@[simp] theorem jl(r:Rt):r.strip.strip=r.strip:=by cases r<;>rfl
@[simp] theorem oZ(k:IntKind)(x y:Int):Yx [.int k x,.int k y]=some (.int k (if y < x then y else x)):=by simp[Yx]
@[simp] theorem oP(k:IntKind)(x y:Int):TF [.int k x,.int k y]=some (.int k (if y > x then y else x)):=by simp[TF]
@[simp] theorem Xn(ei:TI)(es:List (List AV))(r:Rt)(k:IntKind)(i sz:Nat):AT ei (.vs sz es r) (.int k (i:Int))=if sz=ei.size then (es[i]?).map (.ep · 0) else none:=by simp[AT]
@[simp] theorem js(ei:TI)(es:List (List AV))(r:Rt)(k:IntKind)(i sz:Nat):AT ei (.vs sz es r) (.int k (no_index (OfNat.ofNat i)))=if sz=ei.size then (es[i]?).map (.ep · 0) else none:=Xn ei es r k i sz
@[simp] theorem fO{s:List UInt8}{k:IntKind}{i:Nat}:Es (.str s) (.int k (i:Int))=(s[i]?).map (fun b=>.int .u8 b.toNat):=by simp[Es]
@[simp] theorem pJ(a b:List UInt8):(a==b)=decide (a=b):=by by_cases h:a=b<;>simp[h]
@[simp] theorem pS(a b:Int):(a==b)=decide (a=b):=by by_cases h:a=b<;>simp[h]
@[simp] theorem kq(a b:List UInt8):AI .eql (.str a) (.str b)=some (.bool (decide (a=b))):=by simp[AI,Rf]
@[simp] theorem kD(a b:List UInt8):AI .neq (.str a) (.str b)=some (.bool (!decide (a=b))):=by simp[AI,Rf]
@[simp] theorem kj(a b:List UInt8):AI .lss (.str a) (.str b)=some (.bool (Op.bytesLess a b)):=rfl
@[simp] theorem kg(a b:List UInt8):AI .geq (.str a) (.str b)=some (.bool (!Op.bytesLess a b)):=rfl
theorem Ff{a b:List UInt8}(h:a.length+b.length≤1000000000000):AI .add (.str a) (.str b)=some (.str (a++b)):=by simp[AI,Rf,h]
theorem XK{α:Type}{l:List α}{i:Nat}(c:i < l.length):∃x,l[i]? =some x∧l.drop i=x::l.drop (i+1)∧(i:Int) < l.length∧x∈l:=
 ⟨l[i],by simp[c],List.drop_eq_getElem_cons c,by omega,List.getElem_mem c⟩
theorem PP(s:List UInt8)(k1 k2:IntKind)(a b:Int)(ha:0≤a)(hab:a≤b)(hb:b≤s.length):Bv (.str s) (some (.int k1 a)) (some (.int k2 b))=some (.str ((s.take b.toNat).drop a.toNat)):=by
 have h2:a≤(b.toNat:Int):=by omega
 simp[Bv,bnd,ha,hb,show 0≤b by omega]
 omega
@[simp] theorem nW(s:List UInt8)(k1 k2:IntKind)(i k:Nat):Bv (.str s) (some (.int k1 i)) (some (.int k2 k))=if i≤k∧k≤s.length then some (.str ((s.take k).drop i)) else none:=by
 by_cases h1:k≤s.length
 ·by_cases h2:i≤k
  ·simp[Bv,bnd,h1,h2]
  ·simp[Bv,bnd,h1,h2]
 ·simp[Bv,bnd,h1]
@[simp] theorem bW(s:List UInt8)(k1:IntKind)(i:Nat):Bv (.str s) (some (.int k1 i)) none=if i≤s.length then some (.str (s.drop i)) else none:=by
 by_cases h2:i≤s.length<;>simp[Bv,bnd,h2]
@[simp] theorem iD(s:List UInt8)(k2:IntKind)(k:Nat):Bv (.str s) none (some (.int k2 k))=if k≤s.length then some (.str (s.take k)) else none:=by
 by_cases h2:k≤s.length<;>simp[Bv,bnd,h2]
@[simp] theorem kP(s:List UInt8)(k1:IntKind)(i:Nat):Bv (.str s) (some (.int k1 (no_index (OfNat.ofNat i)))) none=if i≤s.length then some (.str (s.drop i)) else none:=bW s k1 i
@[simp] theorem kL(s:List UInt8)(k1:IntKind)(i:Nat):Bv (.str s) none (some (.int k1 (no_index (OfNat.ofNat i))))=if i≤s.length then some (.str (s.take i)) else none:=iD s k1 i
@[simp] theorem ZG (ei : TI) (sz : Nat) (es : List (List AV)) (r : Rt) (k1 k2 : IntKind) (i k : Nat) :
  CT ei (.vs sz es r) (some (.int k1 i)) (some (.int k2 k)) none=if sz=ei.size∧(i≤k∧k≤es.length)∧(r= .nil→es=[]) then some (.vs sz ((es.take k).drop i) (if k=es.length then r else .none)) else none:=by
 by_cases h0:sz=ei.size
 case neg=>simp[CT,h0]
 by_cases h1:k≤es.length
 case neg=>simp[CT,bnd,h0,h1]
 by_cases h2:i≤k
 case neg=>simp[CT,bnd,h0,h1,h2]
 by_cases hr:r= .nil
 ·subst hr
  by_cases he:es=[]
  ·subst he;have:k=0:=by simpa using h1
   subst this;have:i=0:=by omega
   subst this;simp[CT,bnd,h0]
  ·simp[CT,bnd,h0,h1,h2,he]
 ·simp[CT,bnd,h0,h1,h2,hr]
@[simp] theorem K7 (ei : TI) (sz : Nat) (es : List (List AV)) (r : Rt) (k1 : IntKind) (i : Nat) :
  CT ei (.vs sz es r) (some (.int k1 i)) none none=if sz=ei.size∧i≤es.length∧(r= .nil→es=[]) then some (.vs sz (es.drop i) r) else none:=by
 have h:=ZG ei sz es r k1 k1 i es.length;have e:CT ei (.vs sz es r) (some (.int k1 i)) none none=CT ei (.vs sz es r) (some (.int k1 i)) (some (.int k1 es.length)) none:=by simp[CT,bnd]
 rw[e,h];simp
@[simp] theorem VM (ei : TI) (sz : Nat) (es : List (List AV)) (r : Rt) (k1 : IntKind) (k : Nat) :
  CT ei (.vs sz es r) none (some (.int k1 k)) none=if sz=ei.size∧k≤es.length∧(r= .nil→es=[]) then some (.vs sz (es.take k) (if k=es.length then r else .none)) else none:=by
 have h:=ZG ei sz es r k1 k1 0 k;have e:CT ei (.vs sz es r) none (some (.int k1 k)) none=CT ei (.vs sz es r) (some (.int k1 (0:Nat))) (some (.int k1 k)) none:=by simp[CT,bnd]
 rw[e,h];simp
@[simp] theorem md (ei : TI) (sz : Nat) (es : List (List AV)) (r : Rt) (k1 : IntKind) (i : Nat) :
  CT ei (.vs sz es r) (some (.int k1 (no_index (OfNat.ofNat i)))) none none=if sz=ei.size∧i≤es.length∧(r= .nil→es=[]) then some (.vs sz (es.drop i) r) else none:=K7 ei sz es r k1 i
@[simp] theorem mE (ei : TI) (sz : Nat) (es : List (List AV)) (r : Rt) (k1 : IntKind) (k : Nat) :
  CT ei (.vs sz es r) none (some (.int k1 (no_index (OfNat.ofNat k)))) none=if sz=ei.size∧k≤es.length∧(r= .nil→es=[]) then some (.vs sz (es.take k) (if k=es.length then r else .none)) else none:=VM ei sz es r k1 k
@[simp] theorem mF(s:List UInt8):AV.strip0 (.str s)= .str s:=rfl
@[simp] theorem lm(b:Bool):AV.strip0 (.bool b)= .bool b:=rfl
@[simp] theorem me(i o:Nat):AV.strip0 (.ptr i o)= .ptr i o:=rfl
@[simp] theorem mg:AV.strip0 .nil= .nil:=rfl
@[simp] theorem mI(m:Option Nat):AV.strip0 (.map m)= .map m:=rfl
@[simp] theorem nw(a b c d:Nat):AV.strip0 (.rs a b c d)= .rs a b c d:=rfl
@[simp] theorem jo:AV.strip2 .nilifc= .nilifc:=rfl
@[simp] theorem l0:AV.flat .nilifc= .nilifc:=rfl
@[simp] theorem oQ(m:Option Nat):AV.flat (.map m)= .map m:=rfl
@[simp] theorem pO(a b c d:Nat):AV.flat (.rs a b c d)= .rs a b c d:=rfl
@[simp] theorem pR(f:Nat)(a b:List AV):AV.flat (.fn f a b)= .fn f a b:=rfl
@[simp] theorem lb:AV.free .nilifc=true:=rfl
@[simp] theorem lF:AV.free1 .nilifc=true:=rfl
@[simp] theorem nh:AV.free1 .nil=true:=rfl
@[simp] theorem oK(f:Nat)(a b:List AV):AV.free1 (.fn f a b)=true:=rfl
@[simp] theorem n7(a b c d:Nat):AV.free1 (.rs a b c d)=true:=rfl
@[simp] theorem pI(a b c d:Nat):AV.free (.rs a b c d)=true:=rfl
@[simp] theorem nQ(t:Nat)(v:AV):AV.free1 (.ifc t v)=true:=rfl
@[simp] theorem jm:AV.strip1 .nilifc= .nilifc:=rfl
@[simp] theorem no(a b c d:Nat):AV.strip1 (.rs a b c d)= .rs a b c d:=rfl
@[simp] theorem kO:AV.strip1 .nilfn= .nilfn:=rfl
@[simp] theorem lh:AV.free1 .nilfn=true:=rfl
@[simp] theorem nR:AV.cells .nil=[.nil]:=rfl
@[simp] theorem oj(a b c d:Nat):AV.cells (.rs a b c d)=[.rs a b c d]:=rfl
@[simp] theorem ot(f:Nat)(a b:List AV):AV.cells (.fn f a b)=[.fn f a b]:=rfl
@[simp] theorem nZ(t:Nat)(v:AV):AV.cells (.ifc t v)=[.ifc t v]:=rfl
@[simp] theorem ky:AV.cells .nilifc=[.nilifc]:=rfl
@[simp] theorem pG(c:Bool)(A B Z:Prop):gK (.bool c) A B Z=ifK (.bool c) A B:=by cases c<;>rfl
@[simp] theorem gM(ei:TI)(sz id off len:Nat)(k:IntKind)(i:Nat):AT ei (.rs sz id off len) (.int k (i:Int))=if sz=ei.size∧i < len then some (.ptr id (off+i*sz)) else none:=by simp[AT]
@[simp] theorem j7(ei:TI)(sz id off len:Nat)(k:IntKind)(i:Nat):AT ei (.rs sz id off len) (.int k (no_index (OfNat.ofNat i)))=if sz=ei.size∧i < len then some (.ptr id (off+i*sz)) else none:=gM ei sz id off len k i
@[simp] theorem nK(sz id off len:Nat):Ap (.rs sz id off len)=some (.int .i64 len):=rfl
@[simp] theorem jv{s:List UInt8}{k:IntKind}{i:Nat}:Es (.str s) (.int k (no_index (OfNat.ofNat i)))=(s[i]?).map (fun b=>.int .u8 b.toNat):=fO
@[simp] theorem na(ei:TI)(sz id off len:Nat)(k:IntKind)(n:Nat):CT ei (.rs sz id off len) none (some (.int k (n:Int))) none=if sz=ei.size∧n≤len then some (.rs sz id off n) else none:=by
 by_cases h0:sz=ei.size<;>by_cases h1:n≤len<;>simp[CT,bnd,h0,h1]
end Go.Av
