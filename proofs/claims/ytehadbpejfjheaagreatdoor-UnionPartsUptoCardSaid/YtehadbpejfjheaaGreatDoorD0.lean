/- Parts of the proofs of this seat: abstract values over the model, and what the functions of the program do. No condition. -/
import Derived.Test.YtehadbpejfjheaaGreatDoorM16
import Derived.Test.YtehadbpejfjheaaGreatDoorM11
import Derived.Test.YtehadbpejfjheaaGreatDoorM8
set_option linter.all false
set_option maxRecDepth 100000
namespace Go.Av
abbrev Str:=List UInt8
structure Ext where
 off:Int
 data:Str
 deriving DecidableEq
@[simp] def Ext.c(x:Ext):List AV:=[.int .i64 x.off,.str x.data]
def Sx(S S':St):Prop:=∀j,j < S.length→S'[j]? =S[j]?
theorem Sx.refl(S:St):Sx S S:=fun _ _=>rfl
theorem Sx.le{S S':St}(h:Sx S S'):S.length≤S'.length:=by
 by_cases c:S.length≤S'.length
 ·exact c
 ·have:=h S'.length (by omega)
  have h2:S'[S'.length]? =none:=by simp
  rw[h2] at this;have h3:S[S'.length]? =some (S[S'.length]'(by omega)):=by simp
  rw[h3] at this;cases this
theorem Sx.trans{A B D:St}(h:Sx A B)(k:Sx B D):Sx A D:=fun j hj=>(k j (Nat.lt_of_lt_of_le hj h.le)).trans (h j hj)
theorem Sx.app(S T:St):Sx S (S++T):=fun j hj=>by rw[List.getElem?_append_left hj]
theorem Sx.get{S S':St}(h:Sx S S'){j:Nat}{o:Obj}(e:S[j]? =some o):S'[j]? =some o:=(h j (List.getElem?_eq_some_iff.1 e).1).trans e
open Go.Proofs
abbrev TT(t:TypeId)(cs:List AV):=Ty Tryz.prog 1048576 t cs
abbrev TV(t:TypeId)(x:AV):=TyV Tryz.prog 1048576 t x
theorem bB{n:Int}(h:(Lit.int .i64 n).wf=true):-9223372036854775808≤n∧n≤9223372036854775807:=by
 simp[Lit.wf,IntKind.min,IntKind.max,IntKind.signed,IntKind.bits] at h;omega
theorem ID{cs:List AV}{t:TypeId}(h:TT t cs)(hu:Tryz.prog.underlying t=some (.int .i64)):∃n:Int,cs=[.int .i64 n]∧-9223372036854775808≤n∧n≤9223372036854775807:=by
 obtain⟨n,rfl,hw⟩:=h.int_inv hu;exact⟨n,rfl,bB hw⟩
theorem bP{cs:List AV}{t:TypeId}(h:TT t cs)(hu:Tryz.prog.underlying t=some (.int .u8)):∃n:Nat,cs=[.int .u8 n]∧n < 256:=by
 obtain⟨n,rfl,hw⟩:=h.int_inv hu;obtain⟨k,rfl,hk⟩:=bY hw;exact⟨k,rfl,hk⟩
theorem Kq{cs:List AV}{t:TypeId}(h:TT t cs)(hu:Tryz.prog.underlying t=some .string):∃s:Str,cs=[.str s]∧s.length≤1048576:=h.str_inv hu
theorem UT{cs:List AV}{t:TypeId}(h:TT t cs)(hu:Tryz.prog.underlying t=some .bool):∃b:Bool,cs=[.bool b]:=h.bool_inv hu
def inR(r:Rt){α:Type}(l:List α):Prop:=(r= .nil∧l=[])∨r= .none
theorem Nf{α:Type}{t e:TypeId}{cs:List AV}{enc:α→List AV}{ok:α→Prop}{sz:Nat}(h:TT t cs)(hu:Tryz.prog.underlying t=some (.slice e))(hs:Tryz.prog.cellsOf e=sz)(hd:∀ys,TT e ys→∃a,ys=enc a∧ok a):
  ∃(l:List α) (r:Rt),cs=[.vs sz (l.map enc) r]∧inR r l∧l.length≤1048576∧∀a∈l,ok a:=by
 obtain⟨es,r,rfl,hr,hl,he⟩:=h.slice_inv hu;have:∃l:List α,es=l.map enc∧∀a∈l,ok a:=by
  clear hl hr h
  induction es with
  |nil=>exact⟨[],rfl,by simp⟩
  |cons y es ih=>
   obtain⟨l,e1,e2⟩:=ih fun z hz=>he z (by simp[hz])
   obtain⟨a,e3,e4⟩:=hd y (he y (by simp))
   exact⟨a::l,by simp[e1,e3],by simpa[e4] using e2⟩
 obtain⟨l,rfl,ha⟩:=this;refine⟨l,r,by rw[hs],?_,by simpa using hl,ha⟩
 rcases hr with ⟨rfl,h2⟩|rfl
 ·exact .inl ⟨rfl,by simpa using h2⟩
 ·exact .inr rfl
theorem TyV.int{t:TypeId}{x:AV}(h:TV t x)(hu:Tryz.prog.underlying t=some (.int .i64)):∃n:Int,x= .int .i64 n∧-9223372036854775808≤n∧n≤9223372036854775807:=by
 obtain⟨n,e,hn⟩:=ID (h.one (by simp[isAgg,hu])) hu
 exact⟨n,by simpa using e,hn⟩
theorem TyV.u8{t:TypeId}{x:AV}(h:TV t x)(hu:Tryz.prog.underlying t=some (.int .u8)):∃n:Nat,x= .int .u8 n∧n < 256:=by
 obtain⟨n,e,hn⟩:=bP (h.one (by simp[isAgg,hu])) hu
 exact⟨n,by simpa using e,hn⟩
theorem TyV.str{t:TypeId}{x:AV}(h:TV t x)(hu:Tryz.prog.underlying t=some .string):∃s:Str,x= .str s∧s.length≤1048576:=by
 obtain⟨n,e,hn⟩:=Kq (h.one (by simp[isAgg,hu])) hu
 exact⟨n,by simpa using e,hn⟩
theorem TyV.bool{t:TypeId}{x:AV}(h:TV t x)(hu:Tryz.prog.underlying t=some .bool):∃b:Bool,x= .bool b:=by
 obtain⟨n,e⟩:=UT (h.one (by simp[isAgg,hu])) hu
 exact⟨n,by simpa using e⟩
theorem TyV.slice{α:Type}{t e:TypeId}{x:AV}{enc:α→List AV}{ok:α→Prop}{sz:Nat}(h:TV t x)(hu:Tryz.prog.underlying t=some (.slice e))(hs:Tryz.prog.cellsOf e=sz)(hd:∀ys,TT e ys→∃a,ys=enc a∧ok a):
  ∃(l:List α) (r:Rt),x= .vs sz (l.map enc) r∧inR r l∧l.length≤1048576∧∀a∈l,ok a:=by
 obtain⟨l,r,e,h2⟩:=Nf (h.one (by simp[isAgg,hu])) hu hs hd
 exact⟨l,r,by simpa using e,h2⟩
open Go.Proofs
@[simp] def EH(s:Str):List AV:=[.str s]
structure Ss where
 l:List Str
 r:Rt
 deriving DecidableEq
@[simp] def Ss.v(x:Ss):AV:=.vs 1 (x.l.map EH) x.r.strip
@[simp] def Ss.c(x:Ss):List AV:=[x.v]
def Ss.ok(x:Ss):Prop:=(x.r= .nil→x.l=[])∧x.l.length≤1048576∧∀s∈x.l,s.length≤1048576
theorem Zz(cs:List AV)(h:TT C3 cs):∃x:Str,cs=EH x∧x.length≤1048576:=Kq h Iz
theorem ba(cs:List AV)(h:TT P3 cs):∃x:Ss,cs=x.c∧x.ok:=by
 obtain⟨l,r,rfl,hr,hl,hx⟩:=Nf (enc:=EH) (ok:=fun s=>s.length≤1048576) h UR Wo Zz
 exact⟨⟨l,r⟩,by rcases hr with ⟨h,_⟩|h<;>rw[h]<;>rfl,⟨fun e=>by
  rcases hr with ⟨_,h⟩|h
  ·exact h
  ·simp only at e;rw[h] at e;exact Rt.noConfusion e,hl,hx⟩⟩
abbrev slt(a b:Str):Bool:=Op.bytesLess a b
theorem KH(x y:UInt8)(a b:Str):slt (x::a) (y::b)=(decide (x < y)||(decide (x=y)&&slt a b)):=by
 simp only[slt,Op.bytesLess]
 by_cases h:x < y
 ·simp[h]
 ·by_cases h2:x=y
  ·subst h2;simp
  ·simp[h,h2]
theorem Hb:∀a:Str,slt a a=false
 |[]=>rfl
 |x::a=>by rw[KH,Hb a];simp
theorem Il:∀{a b c:Str},slt a b=true→slt b c=true→slt a c=true
 |[],[],_,h,_=>by simp[slt,Op.bytesLess] at h
 |[],_::_,[],_,h=>by simp[slt,Op.bytesLess] at h
 |[],_::_,_::_,_,_=>rfl
 |_::_,[],_,h,_=>by simp[slt,Op.bytesLess] at h
 |_::_,_::_,[],_,h=>by simp[slt,Op.bytesLess] at h
 |x::a,y::b,z::c,h,k=>by
  rw[KH] at h k ⊢;simp at h k ⊢;rcases h with h|⟨rfl,h⟩
  ·rcases k with k|⟨rfl,k⟩
   ·exact .inl (UInt8.lt_trans h k)
   ·exact .inl h
  ·rcases k with k|⟨rfl,k⟩
   ·exact .inl k
   ·exact .inr ⟨rfl,Il h k⟩
theorem WH:∀(a b:Str),slt a b=true∨a=b∨slt b a=true
 |[],[]=>.inr (.inl rfl)
 |[],_::_=>.inl rfl
 |_::_,[]=>.inr (.inr rfl)
 |x::a,y::b=>by
  rw[KH,KH]
  by_cases h:x < y
  ·simp[h]
  ·by_cases h2:x=y
   ·subst h2;rcases WH a b with h|h|h
    ·simp[h]
    ·simp[h]
    ·simp[h]
   ·have:y < x:=by
     rcases UInt8.lt_or_lt_of_ne h2 with h3|h3
     ·exact(h h3).elim
     ·exact h3
    simp[this]
end Go.Av
