/- Parts of the proofs of this seat: abstract values over the model, and what the functions of the program do. No condition. -/
import Derived.Test.YtehadbpejfjheaaGreatDoorDRow
import Derived.Test.YtehadbpejfjheaaGreatDoorD0
import Derived.Test.YtehadbpejfjheaaGreatDoorM8
import Derived.Test.YtehadbpejfjheaaGreatDoorXLess
set_option linter.all false
set_option maxRecDepth 100000
namespace Go.Av
structure Hd where
 name:Str
 row:Int
 rest:Ss
 deriving DecidableEq
@[simp] def Hd.c(x:Hd):List AV:=[.str x.name,.int .i64 x.row,x.rest.v]
instance:Inhabited Hd:=⟨⟨[],0,⟨[],.none⟩⟩⟩
def Hd.lt(a b:Hd):Bool:=if a.name=b.name then decide (a.row < b.row) else slt a.name b.name
def hat(hs:List Hd)(i:Nat):Hd:=hs.getD i default
theorem getD_some{hs:List Hd}{i:Nat}(h:i < hs.length):hs[i]? =some (hat hs i):=by simp[hat,List.getD_eq_getElem?_getD,h]
def Hd.le(a b:Hd):Prop:=b.lt a=false
theorem Hd.lt_trans{a b c:Hd}(h:a.lt b=true)(k:b.lt c=true):a.lt c=true:=by
 unfold Hd.lt at*
 by_cases e1:a.name=b.name
 ·by_cases e2:b.name=c.name
  ·simp[e1,e2] at h k ⊢;omega
  ·simp only[e1,e2,if_true,if_false] at h k ⊢;exact k
 ·by_cases e2:b.name=c.name
  ·simp only[e1,←e2,if_true,if_false] at h k ⊢;exact h
  ·simp only[e1,e2,if_false] at h k;have h3:=Il h k;have:a.name≠c.name:=fun e=>by rw[e] at h3;rw[Hb] at h3;cases h3
   simp only[this,if_false];exact h3
theorem Hd.lt_irrefl(a:Hd):a.lt a=false:=by simp[Hd.lt]
theorem Hd.lt_tri(a b:Hd):a.lt b=true∨(a.name=b.name∧a.row=b.row)∨b.lt a=true:=by
 unfold Hd.lt
 by_cases e:a.name=b.name
 ·simp[e];omega
 ·simp only[e,Ne.symm e,if_false];rcases WH a.name b.name with h|h|h
  ·exact .inl h
  ·exact(e h).elim
  ·exact .inr (.inr h)
theorem Hd.lt_key{a b a' b':Hd}(h1:a.name=a'.name)(h2:a.row=a'.row)(h3:b.name=b'.name)(h4:b.row=b'.row):a.lt b=a'.lt b':=by simp[Hd.lt,h1,h2,h3,h4]
theorem Hd.le_trans{a b c:Hd}(h:a.le b)(k:b.le c):a.le c:=by
 unfold Hd.le at*;cases h3:c.lt a with
 |false=>rfl
 |true=>
  rcases Hd.lt_tri a b with h4|⟨h4,h5⟩|h4
  ·have:=Hd.lt_trans h3 h4;rw[k] at this;cases this
  ·rw[Hd.lt_key rfl rfl h4 h5] at h3;rw[k] at h3;cases h3
  ·rw[h] at h4;cases h4
theorem Hd.le_refl(a:Hd):a.le a:=Hd.lt_irrefl a
structure Item where
 name:Str
 row:Int
 deriving DecidableEq
@[simp] def Item.c(x:Item):List AV:=[.str x.name,.int .i64 x.row]
def hds:Nat→List Ss→List Hd
 |_,[]=>[]
 |i,x::xs=>(match x.l with|[]=>[]|s::t=>[⟨s,i,⟨t,x.r⟩⟩])++hds (i+1) xs
def RY:Nat→Option (Nat×Str)→List Ss→Option (Nat×Str)
 |_,b,[]=>b
 |i,b,x::xs=>match x.l with
  |[]=>RY (i+1) b xs
  |s::_=>match b with
   |none=>RY (i+1) (some (i,s)) xs
   |some (j,t)=>if slt s t=true then RY (i+1) (some (i,s)) xs else RY (i+1) (some (j,t)) xs
def aY(rs:List Ss)(j:Nat):List Ss:=match rs[j]? with|some r=>rs.set j ⟨r.l.tail,r.r⟩|none=>rs
def Pl:Nat→List Ss→List Item
 |0,_=>[]
 |f+1,rs=>match RY 0 none rs with
  |none=>[]
  |some (j,t)=>⟨t,j⟩::Pl f (aY rs j)
open Go.Proofs
def Yf(rs:List Ss):Nat:=(rs.map fun x=>x.l.length).sum
open Go.Proofs
def Nw:Option Str→List Item→List Item
 |_,[]=>[]
 |p,x::l=>if p=some x.name then Nw (some x.name) l else x::Nw (some x.name) l
theorem P1:∀(p:Option Str) (l:List Item),(Nw p l).length≤l.length
 |_,[]=>by simp[Nw]
 |p,x::l=>by
  have:=P1 (some x.name) l;simp only[Nw];split<;>simp<;>omega
@[simp] def wNt(k:Nat):List AV:=[.int .i64 k]
def O3(rs:List Ss):List Str:=(Nw none (Pl (Yf rs) rs)).map (·.name)
end Go.Av
