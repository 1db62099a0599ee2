/- Parts of the proofs of this seat: abstract values over the model, and what the functions of the program do. No condition. -/
import Derived.Test.YtehadbpejfjheaaGreatDoorM0
import Derived.Lib.Split
import Derived.Lib.Join
set_option linter.all false
set_option maxRecDepth 100000
namespace Go.Av
def BI:List UInt8→List (List UInt8)
 |[]=>[[]]
 |c::l=>if c=47 then []::BI l else match BI l with
  |h::t=>(c::h)::t
  |[]=>[[c]]
theorem RN:∀s:List UInt8,Lib.splitK [47] 0 (Lib.count s [47]) s=BI s
 |[]=>rfl
 |c::l=>by
  have ih:=RN l;have hne:([47]:List UInt8)≠[]:=by simp
  by_cases hc:c=47
  ·subst hc;have h0:Lib.index (47::l) [47]=(0:Nat):=by simp[Lib.index,List.isPrefixOf]
   rw[Lib.count_hit hne h0];rw[Nat.add_comm 1];rw[Lib.splitK,h0];simp only[BI,if_true];rw[←ih];rfl
  ·have hp:([47]:List UInt8).isPrefixOf (c::l)=false:=by
    simp[List.isPrefixOf];exact fun h=>hc h.symm
   have hi:Lib.index (c::l) [47]=if Lib.index l [47]== -1 then -1 else Lib.index l [47]+1:=by
    conv=>lhs;unfold Lib.index
    rw[hp];rfl
   have hs:BI (c::l)=match BI l with
    |h::t=>(c::h)::t
    |[]=>[[c]]:=by
    conv=>lhs;unfold BI
    rw[if_neg hc]
   rw[hs,←ih]
   by_cases hm:Lib.index l [47]= -1
   ·have h1:Lib.index (c::l) [47]= -1:=by rw[hi,hm];rfl
    rw[Lib.count_miss h1,Lib.count_miss hm];rfl
   ·obtain⟨i,hii⟩:∃i:Nat,Lib.index l [47]=i:=⟨(Lib.index l [47]).toNat,by have:=Lib.index_ge l [47];omega⟩
    have h1:Lib.index (c::l) [47]=((i+1:Nat):Int):=by
     rw[hi,hii,if_neg (by simp)];omega
    rw[Lib.count_hit hne h1,Lib.count_hit hne hii,Nat.add_comm 1,Nat.add_comm 1];rw[Lib.splitK,h1,Lib.splitK,hii];rw[if_neg (by simp<;>omega),if_neg (by simp)]
    simp only[Int.toNat_natCast,List.length_singleton,Nat.add_zero]
    show (c::l.take i)::_=_
    rfl
def DW(s:List UInt8):Bool:=s != []&&(s != [46]&&(s != [46,46]&&(decide (s.length≤64)&&!(s.any fun b=>b==47||b==0))))
def Bj:List (List UInt8)→Option (List (List UInt8))
 |[]=>some []
 |s::l=>if s=[]∨s=[46] then Bj l else if s=[46,46]∨DW s=true then (Bj l).map (s::·) else none
def Cv(s:List UInt8):Option (List (List UInt8)):=if s=[]∨1024 < s.length then none else Bj (BI s)
theorem Io(s:List UInt8):BI s≠[]:=by
 cases s with
 |nil=>simp[BI]
 |cons c l=>
  unfold BI;split
  ·simp
  ·split<;>simp
theorem PK:∀(s:List UInt8),(BI s).length≤s.length+1∧∀p∈BI s,p.length≤s.length
 |[]=>by simp[BI]
 |c::l=>by
  have ⟨h1,h2⟩:=PK l;unfold BI;split
  ·refine⟨by simp;omega,fun p hp=>?_⟩
   rcases List.mem_cons.1 hp with rfl|hp
   ·simp
   ·have:=h2 p hp;simp;omega
  ·cases hs:BI l with
   |nil=>exact absurd hs (Io l)
   |cons h t=>
    rw[hs] at h1 h2;refine⟨by simp at h1 ⊢;omega,fun p hp=>?_⟩
    simp only[List.mem_cons] at hp;rcases hp with rfl|hp
    ·have:=h2 h (by simp);simp;omega
    ·have:=h2 p (by simp[hp]);simp;omega
def pathOf(l:List (List UInt8)):List UInt8:=47::Lib.join l [47]
theorem Gc{s:List UInt8}(h:DW s=true):s≠[]∧s≠[46]∧s≠[46,46]∧s.length≤64∧47 ∉ s:=by
 simp[DW,bne] at h;obtain⟨h1,h2,h3,h4,h5⟩:=h;exact⟨h1,h2,h3,h4,fun hm=>(h5 47 hm).1 rfl⟩
theorem OY(l:List (List UInt8))(x:List UInt8):pathOf (l++[x])=if l=[] then 47::x else pathOf l++47::x:=by
 cases l with
 |nil=>simp[pathOf,Lib.join_one]
 |cons y r=>
  simp only[pathOf,List.cons_append,Lib.join_cons,if_neg (List.cons_ne_nil _ _)];simp[Lib.joinTail]
theorem Lq:∀{l p:List (List UInt8)},Bj l=some p→∀x∈p,x=[46,46]∨DW x=true
 |[],p,h,x,hx=>by cases h;cases hx
 |s::l,p,h,x,hx=>by
  rw[Bj] at h;split at h
  ·exact Lq h x hx
  ·split at h
   ·rename_i hs;obtain⟨q,hq,rfl⟩:=Option.map_eq_some_iff.1 h;rcases List.mem_cons.1 hx with rfl|hx
    ·exact hs
    ·exact Lq hq x hx
   ·cases h
theorem WG:∀{l:List (List UInt8)},(∀s∈l,s.length≤64)→Lib.lens l≤64*l.length
 |[],_=>by simp[Lib.lens]
 |x::l,h=>by
  have:=WG (l:=l) (fun s hs=>h s (List.mem_cons_of_mem _ hs))
  have h2:=h x (by simp)
  simp[Lib.lens] at this ⊢;omega
theorem Vm{l:List (List UInt8)}(hl:l.length≤15)(h:∀s∈l,DW s=true):(pathOf l).length≤1000:=by
 cases l with
 |nil=>simp[pathOf,Lib.join_nil]
 |cons x r=>
  have h1:=Lib.join_length x r [47];have h2:=WG (l:=x::r) (fun s hs=>(Gc (h s hs)).2.2.2.1)
  simp only[pathOf,List.length_cons,h1,List.length_nil] at h2 hl ⊢;omega
end Go.Av
