/- Parts of the proofs of this seat: abstract values over the model, and what the functions of the program do. No condition. -/
import Derived.Test.YtjkffbaienbmkaaGreatDoorM16
import Derived.Test.YtjkffbaienbmkaaGreatDoorM7
import Derived.IntWalk
set_option linter.all false
namespace Go.Av
section
variable {α:Type}
@[simp] theorem Cf{x:α}{k:α→Prop}:AA (some x) k=k x:=rfl
@[simp] theorem qa{k:α→Prop}:AA none k=False:=rfl
theorem AH{r:α}{b:α→Prop}:AL r b=b r:=rfl
@[simp] theorem M0{A B:Prop}:ifK (.bool true) A B=A:=rfl
@[simp] theorem KO{A B:Prop}:ifK (.bool false) A B=B:=rfl
theorem lH{b:Bool}{A B:Prop}(h1:b=true→A)(h2:b=false→B):ifK (.bool b) A B:=by
 cases b
 ·exact h2 rfl
 ·exact h1 rfl
@[simp] theorem tz{A B Z:Prop}:gK (.bool true) A B Z=A:=rfl
@[simp] theorem sO{A B Z:Prop}:gK (.bool false) A B Z=B:=rfl
@[simp] theorem tp{A B Z:Prop}:gK (.tup []) A B Z=Z:=rfl
end
@[simp] theorem kg(k:IntKind)(n:Int):AV.strip (.int k n)= .int k n:=rfl
@[simp] theorem rA(b:Bool):AV.strip (.bool b)= .bool b:=rfl
@[simp] theorem rT(s:List UInt8):AV.strip (.str s)= .str s:=rfl
@[simp] theorem strip_nil:AV.strip .nil= .nil:=rfl
@[simp] theorem rN(i o:Nat):AV.strip (.ptr i o)= .ptr i o:=rfl
@[simp] theorem tD(c:List AV)(o:Nat):AV.strip (.ep c o)= .ep c o:=rfl
@[simp] theorem my(z:Nat)(es:List (List AV))(r:Rt):AV.strip (.vs z es r)= .vs z es r.strip:=rfl
@[simp] theorem tM(a b c d:Nat):AV.strip (.rs a b c d)= .rs a b c d:=rfl
@[simp] theorem rI(m:Option Nat):AV.strip (.map m)= .map m:=rfl
@[simp] theorem sm(f:Nat)(a b:List AV):AV.strip (.fn f a b)= .fn f a b:=rfl
@[simp] theorem pm:AV.strip .nilfn= .nilfn:=rfl
@[simp] theorem rm(t:Nat)(v:AV):AV.strip (.ifc t v)= .ifc t v:=rfl
@[simp] theorem ow:AV.strip .nilifc= .nilifc:=rfl
@[simp] theorem rp(cs:List AV):AV.strip (.agg cs)= .agg (cs.map AV.strip1):=rfl
@[simp] theorem pv:AV.strip .undef= .undef:=rfl
@[simp] theorem rV(cs:List AV):AV.strip (.tup cs)= .tup (cs.map AV.strip2):=rfl
@[simp] theorem qT(k:IntKind)(n:Int):AV.strip1 (.int k n)= .int k n:=rfl
@[simp] theorem pz(b:Bool):AV.strip1 (.bool b)= .bool b:=rfl
@[simp] theorem qX(s:List UInt8):AV.strip1 (.str s)= .str s:=rfl
@[simp] theorem rO(z:Nat)(es:List (List AV))(r:Rt):AV.strip1 (.vs z es r)= .vs z es r.strip:=rfl
@[simp] theorem qf(m:Option Nat):AV.strip1 (.map m)= .map m:=rfl
@[simp] theorem qJ(i o:Nat):AV.strip1 (.ptr i o)= .ptr i o:=rfl
@[simp] theorem qC:AV.strip1 .nil= .nil:=rfl
@[simp] theorem rq(f:Nat)(a b:List AV):AV.strip1 (.fn f a b)= .fn f a b:=rfl
@[simp] theorem qK(t:Nat)(v:AV):AV.strip1 (.ifc t v)= .ifc t v:=rfl
@[simp] theorem kR(z:Nat)(es:List (List AV))(r:Rt):AV.strip0 (.vs z es r)= .vs z es r:=rfl
@[simp] theorem qU(cs:List AV):AV.strip0 (.agg cs)= .agg (cs.map AV.strip1):=rfl
@[simp] theorem oR(t:Nat):Rt.strip (.own t)= .none:=rfl
@[simp] theorem pC:Rt.strip .nil= .nil:=rfl
@[simp] theorem nZ:Rt.strip .full= .full:=rfl
@[simp] theorem no:Rt.strip .none= .none:=rfl
theorem AW{i:TI}{S:St}{id off tg:Nat}{cs:List AV}(h:S[id]? =some (.cells cs tg)):AO i S (.ptr id off)=LG i cs off:=by simp[AO,Dz,h]
@[simp] theorem se{i:TI}{S:St}{off:Nat}{cs:List AV}:AO i S (.ep cs off)=LG i cs off:=rfl
theorem Ak{i:TI}{S:St}{id off tg:Nat}{cs:List AV}{x:AV}(h:S[id]? =some (.cells cs tg)):Bx i S (.ptr id off) x=(GU i cs off x).map fun cs'=>S.set id (.cells cs' tg):=by simp[Bx,Dz,Kr,h]
@[simp] theorem D8{S:St}{id off tg:Nat}{cs:List AV}(h:S[id]? =some (.cells cs tg)):stripMem S (.ptr id off)=S.set id (.cells (cs.modify off AV.strip1) tg):=by simp[stripMem,Dz,Kr,h]
theorem wrap64{n:Int}(h1:-9223372036854775808≤n)(h2:n≤9223372036854775807):IntKind.i64.wrap n=n:=IntWalk.i64_in n ⟨h1,h2⟩
theorem Ah{S:St}{id:Nat}{o o':Obj}(h:S[id]? =some o):(S.set id o')[id]? =some o':=by
 have:=(List.getElem?_eq_some_iff.1 h).1;simp[this]
theorem BD{S:St}{id j:Nat}{o':Obj}(h:id≠j):(S.set id o')[j]? =S[j]?:=by simp[h]
@[simp] theorem gT(a:AV)(l:List AV):AS (.tup (a::l)) 0= .tup (a.strip2::l):=rfl
@[simp] theorem gQ(a b:AV)(l:List AV):AS (.tup (a::b::l)) 1= .tup (a::b.strip2::l):=rfl
@[simp] theorem qt(a b c:AV)(l:List AV):AS (.tup (a::b::c::l)) 2= .tup (a::b::c.strip2::l):=rfl
@[simp] theorem qG(a b c d:AV)(l:List AV):AS (.tup (a::b::c::d::l)) 3= .tup (a::b::c::d.strip2::l):=rfl
@[simp] theorem gN(a:AV)(l:List AV):AM (.tup (a::l)) 0=some a:=rfl
@[simp] theorem il(a b:AV)(l:List AV):AM (.tup (a::b::l)) 1=some b:=rfl
@[simp] theorem io(a b c:AV)(l:List AV):AM (.tup (a::b::c::l)) 2=some c:=rfl
@[simp] theorem qh(a b c d:AV)(l:List AV):AM (.tup (a::b::c::d::l)) 3=some d:=rfl
@[simp] theorem qo(k:IntKind)(n:Int):AV.strip2 (.int k n)= .int k n:=rfl
@[simp] theorem px(b:Bool):AV.strip2 (.bool b)= .bool b:=rfl
@[simp] theorem qA(s:List UInt8):AV.strip2 (.str s)= .str s:=rfl
@[simp] theorem qy:AV.strip2 .nil= .nil:=rfl
@[simp] theorem qM(i o:Nat):AV.strip2 (.ptr i o)= .ptr i o:=rfl
@[simp] theorem rn(z:Nat)(es:List (List AV))(r:Rt):AV.strip2 (.vs z es r)= .vs z es r.strip:=rfl
@[simp] theorem rC(m:Option Nat):AV.strip2 (.map m)= .map m:=rfl
@[simp] theorem qz(cs:List AV):AV.strip2 (.agg cs)= .agg (cs.map AV.strip1):=rfl
@[simp] theorem qB(k:IntKind)(n:Int):AV.strip0 (.int k n)= .int k n:=rfl
@[simp] theorem tH(k:IntKind)(n:Int):AV.flat (.int k n)= .int k n:=rfl
@[simp] theorem rX(b:Bool):AV.flat (.bool b)= .bool b:=rfl
@[simp] theorem sX(s:List UInt8):AV.flat (.str s)= .str s:=rfl
@[simp] theorem th(z:Nat)(es:List (List AV))(r:Rt):AV.flat (.vs z es r)= .vs z es r:=rfl
@[simp] theorem flat_agg(cs:List AV):AV.flat (.agg cs)= .agg cs:=rfl
@[simp] theorem tB(i o:Nat):AV.flat (.ptr i o)= .ptr i o:=rfl
@[simp] theorem tK:AV.flat .nil= .nil:=rfl
@[simp] theorem sR(i o:Nat):Hq (.ptr i o)=some (.ptr i o):=rfl
@[simp] theorem tq(c:List AV)(o:Nat):Hq (.ep c o)=some (.ep c o):=rfl
@[simp] theorem pf(i o d:Nat):BK (.ptr i o) d=some (.ptr i (o+d)):=rfl
@[simp] theorem qD(c:List AV)(o d:Nat):BK (.ep c o) d=some (.ep c (o+d)):=rfl
@[simp] theorem qv(a b:AV):AZ (.bool true) a b=some a:=rfl
@[simp] theorem pT(a b:AV):AZ (.bool false) a b=some b:=rfl
@[simp] theorem tZ(b:Bool):unA .not (.bool b)=some (.bool (!b)):=rfl
@[simp] theorem tL(k:IntKind)(a b:Int):AJ .add (.int k a) (.int k b)=some (.int k (k.wrap (a+b))):=by simp[AJ,Gb]
@[simp] theorem m6(k:IntKind)(a b:Int):AJ .sub (.int k a) (.int k b)=some (.int k (k.wrap (a - b))):=by simp[AJ,Gb]
@[simp] theorem sZ(k:IntKind)(a b:Int):AJ .mul (.int k a) (.int k b)=some (.int k (k.wrap (a*b))):=by simp[AJ,Gb]
@[simp] theorem sM(k:IntKind)(a b:Int):AJ .eql (.int k a) (.int k b)=some (.bool (decide (a=b))):=by simp[AJ,Gb];rfl
@[simp] theorem md(k:IntKind)(a b:Int):AJ .neq (.int k a) (.int k b)=some (.bool (decide (a≠b))):=by simp[AJ,Gb];by_cases h:a=b<;>simp[h]
@[simp] theorem tI(k:IntKind)(a b:Int):AJ .lss (.int k a) (.int k b)=some (.bool (decide (a < b))):=by simp[AJ,Gb]
@[simp] theorem sQ(k:IntKind)(a b:Int):AJ .leq (.int k a) (.int k b)=some (.bool (decide (a≤b))):=by simp[AJ,Gb]
@[simp] theorem tT(k:IntKind)(a b:Int):AJ .gtr (.int k a) (.int k b)=some (.bool (decide (a > b))):=by simp[AJ,Gb]
@[simp] theorem tP(k:IntKind)(a b:Int):AJ .geq (.int k a) (.int k b)=some (.bool (decide (a≥b))):=by simp[AJ,Gb]
@[simp] theorem nv(a b:Bool):Gw .bool .eql (.bool a) (.bool b)=some (.bool (a==b)):=rfl
@[simp] theorem nX(a b:Bool):Gw .bool .neq (.bool a) (.bool b)=some (.bool (!(a==b))):=rfl
@[simp] theorem sC(z:Nat)(es:List (List AV))(r:Rt):A9 (.vs z es r)=some (.int .i64 es.length):=rfl
@[simp] theorem pU(s:List UInt8):DN (.str s)=some (.int .i64 s.length):=rfl
@[simp] theorem rW{Ca:Nat→List AV→St→(AV→St→Prop)→Prop}{g:Nat}{xs:List AV}{S:St}{k:AV→St→Prop}:AU Ca g xs S k=AA (M5 xs) fun xs=>Ca g xs S k:=rfl
@[simp] theorem tG(k:IntKind)(n:Int):AV.free (.int k n)=true:=rfl
@[simp] theorem rQ(b:Bool):AV.free (.bool b)=true:=rfl
@[simp] theorem sg(s:List UInt8):AV.free (.str s)=true:=rfl
@[simp] theorem tu(z:Nat)(es:List (List AV))(r:Rt):AV.free (.vs z es r)=true:=rfl
@[simp] theorem sj(i o:Nat):AV.free (.ptr i o)=true:=rfl
@[simp] theorem tR:AV.free .nil=true:=rfl
@[simp] theorem sk(m:Option Nat):AV.free (.map m)=true:=rfl
@[simp] theorem sY(cs:List AV):AV.free (.agg cs)=cs.all AV.free1:=rfl
@[simp] theorem tf(f:Nat)(a b:List AV):AV.free (.fn f a b)=true:=rfl
@[simp] theorem sn(t:Nat)(v:AV):AV.free (.ifc t v)=true:=rfl
@[simp] theorem rU(k:IntKind)(n:Int):AV.free1 (.int k n)=true:=rfl
@[simp] theorem qr(b:Bool):AV.free1 (.bool b)=true:=rfl
@[simp] theorem sE(s:List UInt8):AV.free1 (.str s)=true:=rfl
@[simp] theorem sK(z:Nat)(es:List (List AV))(r:Rt):AV.free1 (.vs z es r)=true:=rfl
@[simp] theorem rg(i o:Nat):AV.free1 (.ptr i o)=true:=rfl
@[simp] theorem rH(m:Option Nat):AV.free1 (.map m)=true:=rfl
@[simp] theorem rz(k:IntKind)(n:Int):AV.cells (.int k n)=[.int k n]:=rfl
@[simp] theorem rB(b:Bool):AV.cells (.bool b)=[.bool b]:=rfl
@[simp] theorem sD(s:List UInt8):AV.cells (.str s)=[.str s]:=rfl
@[simp] theorem sd(z:Nat)(es:List (List AV))(r:Rt):AV.cells (.vs z es r)=[.vs z es r]:=rfl
@[simp] theorem sG(i o:Nat):AV.cells (.ptr i o)=[.ptr i o]:=rfl
@[simp] theorem rc(m:Option Nat):AV.cells (.map m)=[.map m]:=rfl
@[simp] theorem rJ(cs:List AV):AV.cells (.agg cs)=cs:=rfl
attribute [simp] LG M5 GU FF AD AI DT JY eO BV aj Z7 BY CJ
theorem YD{g:KK}{S:St}{id:Nat}{es:List (AV×AV)}{key x:AV}(h:S[id]? =some (.map es))(hk:M4 g key=true)(hx:x.free=true)(hf:GE key es 0=some none):
  Fm g S (.map (some id)) key x=some (S.set id (.map (es++[(key,x.strip)]))):=by simp[Fm,hk,hx,IA,h,hf]
theorem W4{g:KK}{S:St}{id i:Nat}{es:List (AV×AV)}{key x v:AV}(h:S[id]? =some (.map es))(hk:M4 g key=true)(hx:x.free=true)(hf:GE key es 0=some (some (i,v))):
  Fm g S (.map (some id)) key x=some (S.set id (.map (es.modify i fun p=>(p.1,x.strip)))):=by simp[Fm,hk,hx,IA,h,hf]
theorem cE{g:KK}{S:St}{id i:Nat}{es:List (AV×AV)}{key v:AV}(h:S[id]? =some (.map es))(hk:M4 g key=true)(hf:GE key es 0=some (some (i,v))):
  P1 g S (.map (some id)) key=some (S.set id (.map (es.eraseIdx i))):=by simp[P1,hk,IA,h,hf]
@[simp] theorem ol(k k':IntKind)(n:Int):Gz k (.int k' n)=some (.int k (k.wrap n)):=rfl
theorem eU(k:IntKind)(a b:Int)(hb:b≠0):AJ .quo (.int k a) (.int k b)=some (.int k (k.wrap (a.tdiv b))):=by simp[AJ,Gb,hb]
@[simp] theorem tm {c : Bool} {k : AV → Prop} {B : (AV → Prop) → Prop} :
  AL (fun x=>AA (AZ (.bool c) (.bool true) x) k) (fun j=>ifK (.bool c) (j (.tup [])) (B j))=AL k (fun j=>ifK (.bool c) (j (.bool true)) (B j)):=by cases c<;>rfl
@[simp] theorem sw {c : Bool} {k : AV → Prop} {B : (AV → Prop) → Prop} :
  AL (fun x=>AA (AZ (.bool c) x (.bool false)) k) (fun j=>ifK (.bool c) (B j) (j (.tup [])))=AL k (fun j=>ifK (.bool c) (B j) (j (.bool false))):=by cases c<;>rfl
@[simp] theorem tS {c : Bool} {k : St → AV → Prop} {S : St} {B : (AV → St → Prop) → Prop} :
  AL (fun x S=>AA (AZ (.bool c) (.bool true) x) (k S)) (fun j=>ifK (.bool c) (j (.tup []) S) (B j))=AL (fun x S=>k S x) (fun j=>ifK (.bool c) (j (.bool true) S) (B j)):=by cases c<;>rfl
@[simp] theorem sF {c : Bool} {k : St → AV → Prop} {S : St} {B : (AV → St → Prop) → Prop} :
  AL (fun x S=>AA (AZ (.bool c) x (.bool false)) (k S)) (fun j=>ifK (.bool c) (B j) (j (.tup []) S))=AL (fun x S=>k S x) (fun j=>ifK (.bool c) (B j) (j (.bool false) S)):=by cases c<;>rfl
@[simp] theorem tx{c d:Bool}{k:AV→Prop}:AL k (fun j=>ifK (.bool c) (j (.bool true)) (j (.bool d)))=k (.bool (c||d)):=by cases c<;>rfl
@[simp] theorem tE{c d:Bool}{k:AV→Prop}:AL k (fun j=>ifK (.bool c) (j (.bool d)) (j (.bool false)))=k (.bool (c&&d)):=by cases c<;>rfl
@[simp] theorem join_one{α:Type}{k:α→Prop}{x:α}:AL k (fun j=>j x)=k x:=rfl
@[simp] theorem ry{α β:Type}{k:α→β→Prop}{x:α}{y:β}:AL k (fun j=>j x y)=k x y:=rfl
theorem CN{α:Type}{r:α}{b:α→Prop}(J:α→Prop)(h1:J r)(h2:∀j,J j→b j):AL r b:=h2 r h1
theorem Xc{c:Bool}{A B:Prop}(h1:c=true→A)(h2:c=false→B):ifK (.bool c) A B:=lH h1 h2
structure Nx{σ:Type}(e:σ→Lv)(Inv:Nat→σ→St→Prop)(n:Nat)(x:Lv)(S':St):Prop where
 ex:∃m s',m < n∧x=e s'∧Inv m s' S'
theorem De{σ:Type}{x0:Lv}{pj:(Nat→AV)→(Nat→Option (List AV))→Lv}{body:(Lv→St→Prop)→(Nat→AV)→(Nat→Option (List AV))→St→Prop}{S:St}(e:σ→Lv)(Inv:Nat→σ→St→Prop)(n0:Nat)(s0:σ)
  (h0:x0=e s0) (hi:Inv n0 s0 S) (hb:∀n s S v b,Inv n s S→pj v b=e s→body (Nx e Inv n) v b S):Bo x0 pj body S:=by
 refine⟨fun n x S=>∃s,x=e s∧Inv n s S,⟨n0,s0,h0,hi⟩,?_⟩
 rintro n v b S ⟨s,hx,hI⟩;have:=hb n s S v b hI hx;have e2:Nx e Inv n=(fun x S'=>∃m,m < n∧∃s,x=e s∧Inv m s S'):=by
  funext x S';apply propext;constructor
  ·rintro⟨m,s',h1,h2,h3⟩;exact⟨m,h1,s',h2,h3⟩
  ·rintro⟨m,h1,s',h2,h3⟩;exact⟨m,s',h1,h2,h3⟩
 rw[←e2];exact this
structure Nl{σ:Type}(e:Nat→σ→Lv)(Inv:Nat→σ→St→Prop)(k i:Nat)(x:Lv)(S':St):Prop where
 ex:∃j s',i < j∧j≤k∧x=e j s'∧Inv j s' S'
theorem Nl.next{σ:Type}{e:Nat→σ→Lv}{Inv:Nat→σ→St→Prop}{k i:Nat}{x:Lv}{S':St}(h:i < k)(s':σ)(hx:x=e (i+1) s')(hi:Inv (i+1) s' S'):Nl e Inv k i x S':=⟨i+1,s',by omega,by omega,hx,hi⟩
theorem Al{α σ:Type}{x0:Lv}{pj:(Nat→AV)→(Nat→Option (List AV))→Lv}{body:(Lv→St→Prop)→(Nat→AV)→(Nat→Option (List AV))→St→Prop}{S:St}(l:List α)(e:Nat→σ→Lv)(Inv:Nat→σ→St→Prop)(s0:σ)
  (h0:x0=e 0 s0) (hi:Inv 0 s0 S)
  (hs:∀i s S v b x,i < l.length→l[i]? =some x→l.drop i=x::l.drop (i+1)→(i:Int) < l.length→x∈l→Inv i s S→pj v b=e i s→body (Nl e Inv l.length i) v b S)
  (he:∀s S v b,Inv l.length s S→pj v b=e l.length s→∀N,body N v b S):Bo x0 pj body S:=by
 refine⟨fun n x S=>∃s,n≤l.length∧x=e (l.length - n) s∧Inv (l.length - n) s S,⟨l.length,s0,Nat.le_refl _,by rw[Nat.sub_self];exact h0,by rw[Nat.sub_self];exact hi⟩,?_⟩
 rintro n v b S ⟨s,hn,hx,hI⟩
 by_cases c:l.length - n < l.length
 ·have hh:=hs (l.length - n) s S v b l[l.length - n] c (by simp[c]) (List.drop_eq_getElem_cons c) (by omega) (List.getElem_mem c) hI hx
  have:(Nl e Inv l.length (l.length - n))=(fun x S'=>∃m,m < n∧∃s,m≤l.length∧x=e (l.length - m) s∧Inv (l.length - m) s S'):=by
   funext x S';apply propext;constructor
   ·rintro⟨j,s',h1,h2,h3,h4⟩;have:l.length - (l.length - j)=j:=by omega
    exact⟨l.length - j,by omega,s',by omega,by rw[this];exact h3,by rw[this];exact h4⟩
   ·rintro⟨m,h1,s',h2,h3,h4⟩;exact⟨l.length - m,s',by omega,by omega,h3,h4⟩
  rw[←this];exact hh
 ·have:l.length - n=l.length:=by omega
  rw[this] at hx hI;exact he s S v b hI hx _
@[simp] theorem mN(r:Rt):r.strip.strip=r.strip:=by cases r<;>rfl
@[simp] theorem tA(k:IntKind)(x y:Int):bQ [.int k x,.int k y]=some (.int k (if y < x then y else x)):=by simp[bQ]
@[simp] theorem so(k:IntKind)(x y:Int):bt [.int k x,.int k y]=some (.int k (if y > x then y else x)):=by simp[bt]
@[simp] theorem kz(ei:TI)(es:List (List AV))(r:Rt)(k:IntKind)(i sz:Nat):Aa ei (.vs sz es r) (.int k (i:Int))=if sz=ei.size then (es[i]?).map (.ep · 0) else none:=by simp[Aa]
@[simp] theorem ny(ei:TI)(es:List (List AV))(r:Rt)(k:IntKind)(i sz:Nat):Aa ei (.vs sz es r) (.int k (no_index (OfNat.ofNat i)))=if sz=ei.size then (es[i]?).map (.ep · 0) else none:=kz ei es r k i sz
@[simp] theorem kA{s:List UInt8}{k:IntKind}{i:Nat}:Fd (.str s) (.int k (i:Int))=(s[i]?).map (fun b=>.int .u8 b.toNat):=by simp[Fd]
@[simp] theorem tj(a b:List UInt8):(a==b)=decide (a=b):=by by_cases h:a=b<;>simp[h]
@[simp] theorem tn(a b:Int):(a==b)=decide (a=b):=by by_cases h:a=b<;>simp[h]
@[simp] theorem ov(a b:List UInt8):AJ .eql (.str a) (.str b)=some (.bool (decide (a=b))):=by simp[AJ,U1]
@[simp] theorem pO(a b:List UInt8):AJ .neq (.str a) (.str b)=some (.bool (!decide (a=b))):=by simp[AJ,U1]
@[simp] theorem oM(a b:List UInt8):AJ .lss (.str a) (.str b)=some (.bool (Op.bytesLess a b)):=rfl
@[simp] theorem oj(a b:List UInt8):AJ .geq (.str a) (.str b)=some (.bool (!Op.bytesLess a b)):=rfl
theorem Gk{a b:List UInt8}(h:a.length+b.length≤1000000000000):AJ .add (.str a) (.str b)=some (.str (a++b)):=by simp[AJ,U1,h]
theorem Z0{α:Type}{l:List α}{i:Nat}(c:i < l.length):∃x,l[i]? =some x∧l.drop i=x::l.drop (i+1)∧(i:Int) < l.length∧x∈l:=
 ⟨l[i],by simp[c],List.drop_eq_getElem_cons c,by omega,List.getElem_mem c⟩
theorem R1(s:List UInt8)(k1 k2:IntKind)(a b:Int)(ha:0≤a)(hab:a≤b)(hb:b≤s.length):Cc (.str s) (some (.int k1 a)) (some (.int k2 b))=some (.str ((s.take b.toNat).drop a.toNat)):=by
 have h2:a≤(b.toNat:Int):=by omega
 simp[Cc,bnd,ha,hb,show 0≤b by omega]
 omega
@[simp] theorem rM(s:List UInt8)(k1 k2:IntKind)(i k:Nat):Cc (.str s) (some (.int k1 i)) (some (.int k2 k))=if i≤k∧k≤s.length then some (.str ((s.take k).drop i)) else none:=by
 by_cases h1:k≤s.length
 ·by_cases h2:i≤k
  ·simp[Cc,bnd,h1,h2]
  ·simp[Cc,bnd,h1,h2]
 ·simp[Cc,bnd,h1]
@[simp] theorem fS(s:List UInt8)(k1:IntKind)(i:Nat):Cc (.str s) (some (.int k1 i)) none=if i≤s.length then some (.str (s.drop i)) else none:=by
 by_cases h2:i≤s.length<;>simp[Cc,bnd,h2]
@[simp] theorem mT(s:List UInt8)(k2:IntKind)(k:Nat):Cc (.str s) none (some (.int k2 k))=if k≤s.length then some (.str (s.take k)) else none:=by
 by_cases h2:k≤s.length<;>simp[Cc,bnd,h2]
@[simp] theorem oN(s:List UInt8)(k1:IntKind)(i:Nat):Cc (.str s) (some (.int k1 (no_index (OfNat.ofNat i)))) none=if i≤s.length then some (.str (s.drop i)) else none:=fS s k1 i
@[simp] theorem o5(s:List UInt8)(k1:IntKind)(i:Nat):Cc (.str s) none (some (.int k1 (no_index (OfNat.ofNat i))))=if i≤s.length then some (.str (s.take i)) else none:=mT s k1 i
@[simp] theorem cN (ei : TI) (sz : Nat) (es : List (List AV)) (r : Rt) (k1 k2 : IntKind) (i k : Nat) :
  Dk ei (.vs sz es r) (some (.int k1 i)) (some (.int k2 k)) none=if sz=ei.size∧(i≤k∧k≤es.length)∧(r= .nil→es=[]) then some (.vs sz ((es.take k).drop i) (if k=es.length then r else .none)) else none:=by
 by_cases h0:sz=ei.size
 case neg=>simp[Dk,h0]
 by_cases h1:k≤es.length
 case neg=>simp[Dk,bnd,h0,h1]
 by_cases h2:i≤k
 case neg=>simp[Dk,bnd,h0,h1,h2]
 by_cases hr:r= .nil
 ·subst hr
  by_cases he:es=[]
  ·subst he;have:k=0:=by simpa using h1
   subst this;have:i=0:=by omega
   subst this;simp[Dk,bnd,h0]
  ·simp[Dk,bnd,h0,h1,h2,he]
 ·simp[Dk,bnd,h0,h1,h2,hr]
@[simp] theorem Uu (ei : TI) (sz : Nat) (es : List (List AV)) (r : Rt) (k1 : IntKind) (i : Nat) :
  Dk ei (.vs sz es r) (some (.int k1 i)) none none=if sz=ei.size∧i≤es.length∧(r= .nil→es=[]) then some (.vs sz (es.drop i) r) else none:=by
 have h:=cN ei sz es r k1 k1 i es.length;have e:Dk ei (.vs sz es r) (some (.int k1 i)) none none=Dk ei (.vs sz es r) (some (.int k1 i)) (some (.int k1 es.length)) none:=by simp[Dk,bnd]
 rw[e,h];simp
@[simp] theorem gR (ei : TI) (sz : Nat) (es : List (List AV)) (r : Rt) (k1 : IntKind) (k : Nat) :
  Dk ei (.vs sz es r) none (some (.int k1 k)) none=if sz=ei.size∧k≤es.length∧(r= .nil→es=[]) then some (.vs sz (es.take k) (if k=es.length then r else .none)) else none:=by
 have h:=cN ei sz es r k1 k1 0 k;have e:Dk ei (.vs sz es r) none (some (.int k1 k)) none=Dk ei (.vs sz es r) (some (.int k1 (0:Nat))) (some (.int k1 k)) none:=by simp[Dk,bnd]
 rw[e,h];simp
@[simp] theorem qi (ei : TI) (sz : Nat) (es : List (List AV)) (r : Rt) (k1 : IntKind) (i : Nat) :
  Dk ei (.vs sz es r) (some (.int k1 (no_index (OfNat.ofNat i)))) none none=if sz=ei.size∧i≤es.length∧(r= .nil→es=[]) then some (.vs sz (es.drop i) r) else none:=Uu ei sz es r k1 i
@[simp] theorem qQ (ei : TI) (sz : Nat) (es : List (List AV)) (r : Rt) (k1 : IntKind) (k : Nat) :
  Dk ei (.vs sz es r) none (some (.int k1 (no_index (OfNat.ofNat k)))) none=if sz=ei.size∧k≤es.length∧(r= .nil→es=[]) then some (.vs sz (es.take k) (if k=es.length then r else .none)) else none:=gR ei sz es r k1 k
@[simp] theorem qu(s:List UInt8):AV.strip0 (.str s)= .str s:=rfl
@[simp] theorem py(b:Bool):AV.strip0 (.bool b)= .bool b:=rfl
@[simp] theorem qb(i o:Nat):AV.strip0 (.ptr i o)= .ptr i o:=rfl
@[simp] theorem qn:AV.strip0 .nil= .nil:=rfl
@[simp] theorem p7(m:Option Nat):AV.strip0 (.map m)= .map m:=rfl
@[simp] theorem rv(a b c d:Nat):AV.strip0 (.rs a b c d)= .rs a b c d:=rfl
@[simp] theorem nw:AV.strip2 .nilifc= .nilifc:=rfl
@[simp] theorem pR:AV.flat .nilifc= .nilifc:=rfl
@[simp] theorem sU(m:Option Nat):AV.flat (.map m)= .map m:=rfl
@[simp] theorem ta(a b c d:Nat):AV.flat (.rs a b c d)= .rs a b c d:=rfl
@[simp] theorem tc(f:Nat)(a b:List AV):AV.flat (.fn f a b)= .fn f a b:=rfl
@[simp] theorem pP:AV.free .nilifc=true:=rfl
@[simp] theorem om:AV.free1 .nilifc=true:=rfl
@[simp] theorem rF:AV.free1 .nil=true:=rfl
@[simp] theorem tN(f:Nat)(a b:List AV):AV.free1 (.fn f a b)=true:=rfl
@[simp] theorem sq(a b c d:Nat):AV.free1 (.rs a b c d)=true:=rfl
@[simp] theorem tw(a b c d:Nat):AV.free (.rs a b c d)=true:=rfl
@[simp] theorem sA(t:Nat)(v:AV):AV.free1 (.ifc t v)=true:=rfl
@[simp] theorem nd:AV.strip1 .nilifc= .nilifc:=rfl
@[simp] theorem rR(a b c d:Nat):AV.strip1 (.rs a b c d)= .rs a b c d:=rfl
@[simp] theorem pD:AV.strip1 .nilfn= .nilfn:=rfl
@[simp] theorem pQ:AV.free1 .nilfn=true:=rfl
@[simp] theorem re:AV.cells .nil=[.nil]:=rfl
@[simp] theorem sh(a b c d:Nat):AV.cells (.rs a b c d)=[.rs a b c d]:=rfl
@[simp] theorem tO(f:Nat)(a b:List AV):AV.cells (.fn f a b)=[.fn f a b]:=rfl
@[simp] theorem rh(t:Nat)(v:AV):AV.cells (.ifc t v)=[.ifc t v]:=rfl
@[simp] theorem pE:AV.cells .nilifc=[.nilifc]:=rfl
@[simp] theorem tY(c:Bool)(A B Z:Prop):gK (.bool c) A B Z=ifK (.bool c) A B:=by cases c<;>rfl
@[simp] theorem kS(ei:TI)(sz id off len:Nat)(k:IntKind)(i:Nat):Aa ei (.rs sz id off len) (.int k (i:Int))=if sz=ei.size∧i < len then some (.ptr id (off+i*sz)) else none:=by simp[Aa]
@[simp] theorem n6(ei:TI)(sz id off len:Nat)(k:IntKind)(i:Nat):Aa ei (.rs sz id off len) (.int k (no_index (OfNat.ofNat i)))=if sz=ei.size∧i < len then some (.ptr id (off+i*sz)) else none:=kS ei sz id off len k i
@[simp] theorem ru(sz id off len:Nat):A9 (.rs sz id off len)=some (.int .i64 len):=rfl
@[simp] theorem nf{s:List UInt8}{k:IntKind}{i:Nat}:Fd (.str s) (.int k (no_index (OfNat.ofNat i)))=(s[i]?).map (fun b=>.int .u8 b.toNat):=kA
@[simp] theorem rk(ei:TI)(sz id off len:Nat)(k:IntKind)(n:Nat):Dk ei (.rs sz id off len) none (some (.int k (n:Int))) none=if sz=ei.size∧n≤len then some (.rs sz id off n) else none:=by
 by_cases h0:sz=ei.size<;>by_cases h1:n≤len<;>simp[Dk,bnd,h0,h1]
end Go.Av
