/- Parts of the proofs of this seat: abstract values over the model, and what the functions of the program do. No condition. -/
import Derived.Test.YtehadbpejfjheaaGreatDoorM8
import Derived.Test.YtehadbpejfjheaaGreatDoorD0
import Derived.Test.YtehadbpejfjheaaGreatDoorM12
set_option linter.all false
set_option maxRecDepth 100000
namespace Go.Av
open Go.Proofs
abbrev TT(t:TypeId)(cs:List AV):=Ty Tryz.prog 1048576 t cs
abbrev TV(t:TypeId)(x:AV):=TyV Tryz.prog 1048576 t x
theorem mh{n:Int}(h:(Lit.int .i64 n).wf=true):-9223372036854775808≤n∧n≤9223372036854775807:=by
 simp[Lit.wf,IntKind.min,IntKind.max,IntKind.signed,IntKind.bits] at h;omega
theorem U5{cs:List AV}{t:TypeId}(h:TT t cs)(hu:Tryz.prog.underlying t=some (.int .i64)):∃n:Int,cs=[.int .i64 n]∧-9223372036854775808≤n∧n≤9223372036854775807:=by
 obtain⟨n,rfl,hw⟩:=h.int_inv hu;exact⟨n,rfl,mh hw⟩
theorem cT{cs:List AV}{t:TypeId}(h:TT t cs)(hu:Tryz.prog.underlying t=some (.int .u8)):∃n:Nat,cs=[.int .u8 n]∧n < 256:=by
 obtain⟨n,rfl,hw⟩:=h.int_inv hu;obtain⟨k,rfl,hk⟩:=mt hw;exact⟨k,rfl,hk⟩
theorem Rl{cs:List AV}{t:TypeId}(h:TT t cs)(hu:Tryz.prog.underlying t=some .string):∃s:Str,cs=[.str s]∧s.length≤1048576:=h.str_inv hu
theorem OO{cs:List AV}{t:TypeId}(h:TT t cs)(hu:Tryz.prog.underlying t=some .bool):∃b:Bool,cs=[.bool b]:=h.bool_inv hu
def inR(r:Rt){α:Type}(l:List α):Prop:=(r= .nil∧l=[])∨r= .none
theorem Te{α:Type}{t e:TypeId}{cs:List AV}{enc:α→List AV}{ok:α→Prop}{sz:Nat}(h:TT t cs)(hu:Tryz.prog.underlying t=some (.slice e))(hs:Tryz.prog.cellsOf e=sz)(hd:∀ys,TT e ys→∃a,ys=enc a∧ok a):
  ∃(l:List α) (r:Rt),cs=[.vs sz (l.map enc) r]∧inR r l∧l.length≤1048576∧∀a∈l,ok a:=by
 obtain⟨es,r,rfl,hr,hl,he⟩:=h.slice_inv hu;have:∃l:List α,es=l.map enc∧∀a∈l,ok a:=by
  clear hl hr h
  induction es with
  |nil=>exact⟨[],rfl,by simp⟩
  |cons y es ih=>
   obtain⟨l,e1,e2⟩:=ih fun z hz=>he z (by simp[hz])
   obtain⟨a,e3,e4⟩:=hd y (he y (by simp))
   exact⟨a::l,by simp[e1,e3],by simpa[e4] using e2⟩
 obtain⟨l,rfl,ha⟩:=this;refine⟨l,r,by rw[hs],?_,by simpa using hl,ha⟩
 rcases hr with ⟨rfl,h2⟩|rfl
 ·exact .inl ⟨rfl,by simpa using h2⟩
 ·exact .inr rfl
theorem TyV.int{t:TypeId}{x:AV}(h:TV t x)(hu:Tryz.prog.underlying t=some (.int .i64)):∃n:Int,x= .int .i64 n∧-9223372036854775808≤n∧n≤9223372036854775807:=by
 obtain⟨n,e,hn⟩:=U5 (h.one (by simp[isAgg,hu])) hu
 exact⟨n,by simpa using e,hn⟩
theorem TyV.u8{t:TypeId}{x:AV}(h:TV t x)(hu:Tryz.prog.underlying t=some (.int .u8)):∃n:Nat,x= .int .u8 n∧n < 256:=by
 obtain⟨n,e,hn⟩:=cT (h.one (by simp[isAgg,hu])) hu
 exact⟨n,by simpa using e,hn⟩
theorem TyV.str{t:TypeId}{x:AV}(h:TV t x)(hu:Tryz.prog.underlying t=some .string):∃s:Str,x= .str s∧s.length≤1048576:=by
 obtain⟨n,e,hn⟩:=Rl (h.one (by simp[isAgg,hu])) hu
 exact⟨n,by simpa using e,hn⟩
theorem TyV.bool{t:TypeId}{x:AV}(h:TV t x)(hu:Tryz.prog.underlying t=some .bool):∃b:Bool,x= .bool b:=by
 obtain⟨n,e⟩:=OO (h.one (by simp[isAgg,hu])) hu
 exact⟨n,by simpa using e⟩
theorem TyV.slice{α:Type}{t e:TypeId}{x:AV}{enc:α→List AV}{ok:α→Prop}{sz:Nat}(h:TV t x)(hu:Tryz.prog.underlying t=some (.slice e))(hs:Tryz.prog.cellsOf e=sz)(hd:∀ys,TT e ys→∃a,ys=enc a∧ok a):
  ∃(l:List α) (r:Rt),x= .vs sz (l.map enc) r∧inR r l∧l.length≤1048576∧∀a∈l,ok a:=by
 obtain⟨l,r,e,h2⟩:=Te (h.one (by simp[isAgg,hu])) hu hs hd
 exact⟨l,r,by simpa using e,h2⟩
open Go.Proofs
@[simp] def Cw(s:Str):List AV:=[.str s]
structure Ss where
 l:List Str
 r:Rt
 deriving DecidableEq
@[simp] def Ss.v(x:Ss):AV:=.vs 1 (x.l.map Cw) x.r.strip
@[simp] def Ss.c(x:Ss):List AV:=[x.v]
def Ss.ok(x:Ss):Prop:=(x.r= .nil→x.l=[])∧x.l.length≤1048576∧∀s∈x.l,s.length≤1048576
theorem kT(cs:List AV)(h:TT Ct cs):∃x:Str,cs=Cw x∧x.length≤1048576:=Rl h PQ
theorem mi(cs:List AV)(h:TT Mm cs):∃x:Ss,cs=x.c∧x.ok:=by
 obtain⟨l,r,rfl,hr,hl,hx⟩:=Te (enc:=Cw) (ok:=fun s=>s.length≤1048576) h bz gN kT
 exact⟨⟨l,r⟩,by rcases hr with ⟨h,_⟩|h<;>rw[h]<;>rfl,⟨fun e=>by
  rcases hr with ⟨_,h⟩|h
  ·exact h
  ·simp only at e;rw[h] at e;exact Rt.noConfusion e,hl,hx⟩⟩
abbrev slt(a b:Str):Bool:=Op.bytesLess a b
theorem Oj(x y:UInt8)(a b:Str):slt (x::a) (y::b)=(decide (x < y)||(decide (x=y)&&slt a b)):=by
 simp only[slt,Op.bytesLess]
 by_cases h:x < y
 ·simp[h]
 ·by_cases h2:x=y
  ·subst h2;simp
  ·simp[h,h2]
theorem DH:∀a:Str,slt a a=false
 |[]=>rfl
 |x::a=>by rw[Oj,DH a];simp
theorem Fd:∀{a b c:Str},slt a b=true→slt b c=true→slt a c=true
 |[],[],_,h,_=>by simp[slt,Op.bytesLess] at h
 |[],_::_,[],_,h=>by simp[slt,Op.bytesLess] at h
 |[],_::_,_::_,_,_=>rfl
 |_::_,[],_,h,_=>by simp[slt,Op.bytesLess] at h
 |_::_,_::_,[],_,h=>by simp[slt,Op.bytesLess] at h
 |x::a,y::b,z::c,h,k=>by
  rw[Oj] at h k ⊢;simp at h k ⊢;rcases h with h|⟨rfl,h⟩
  ·rcases k with k|⟨rfl,k⟩
   ·exact .inl (UInt8.lt_trans h k)
   ·exact .inl h
  ·rcases k with k|⟨rfl,k⟩
   ·exact .inl k
   ·exact .inr ⟨rfl,Fd h k⟩
theorem Mz:∀(a b:Str),slt a b=true∨a=b∨slt b a=true
 |[],[]=>.inr (.inl rfl)
 |[],_::_=>.inl rfl
 |_::_,[]=>.inr (.inr rfl)
 |x::a,y::b=>by
  rw[Oj,Oj]
  by_cases h:x < y
  ·simp[h]
  ·by_cases h2:x=y
   ·subst h2;rcases Mz a b with h|h|h
    ·simp[h]
    ·simp[h]
    ·simp[h]
   ·have:y < x:=by
     rcases UInt8.lt_or_lt_of_ne h2 with h3|h3
     ·exact(h h3).elim
     ·exact h3
    simp[this]
theorem TD{a b:Str}(h:slt a b=true):slt b a=false:=by
 cases k:slt b a with
 |false=>rfl
 |true=>have:=Fd h k;rw[DH] at this;cases this
end Go.Av
