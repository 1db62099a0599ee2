/- Parts of the proofs of this seat: abstract values over the model, and what the functions of the program do. No condition. -/
import Derived.Test.YtehadbpejfjheaaGreatDoorM11
set_option linter.all false
set_option maxRecDepth 100000
namespace Go.Av
open Go.RowKit
variable {E:Env} {G:Gh} {w w':World} {S:St}
def Gh.freeze(G:Gh)(b:Nat)(m:Nat→Option Value):Gh:=
 {G with imm:=fun x o=>if x=b then m o else G.imm x o,role:=fun x=>if x=b then .ext else G.role x}
theorem Rel.freezeRow(h:Rel E G w S){id b:Nat}(hrole:G.role b= .obj id){arr arr':Array Value}{e:TypeId}(hb:w.heap[b]? =some (.cells arr e (0,0)))(hsz:arr'.size=arr.size)(m:Nat→Option Value)(hm:∀k v,m k=some v→arr'[k]? =some v):
  Rel E (G.freeze b m) (w.setRow b arr') (S.set id .dead)∧Chg (·= .obj id) G w (G.freeze b m) (w.setRow b arr'):=by
 have hold:∀k,k≠b→(w.setRow b arr').heap[k]? =w.heap[k]?:=fun k hk=>setRow_other w b k arr' hk
 have hni:∀o,G.imm b o=none:=h.noimm b (.inl ⟨id,hrole⟩);have hnew:(w.setRow b arr').heap[b]? =some (.cells arr' e (0,0)):=setRow_heap w b arr arr' e _ hb;have hc:Chg (·= .obj id) G w (G.freeze b m) (w.setRow b arr'):=by
  refine⟨⟨fun k o v hv=>?_,fun _ _ e=>e,fun _=>Nat.le_refl _⟩,by simp,fun k hk hr=>?_⟩
  ·have hkb:k≠b:=by rintro rfl;rw[hni o] at hv;cases hv
   simpa[Gh.freeze,hkb] using hv
  ·have hkb:k≠b:=by rintro rfl;exact hr hrole
   exact⟨hold k hkb,by simp[Gh.freeze,hkb],fun j=>by simp[Gh.freeze,hkb]⟩
 refine⟨⟨h.os,h.tape,h.output,by simpa using h.size,fun k hk=>?_,fun k o v hv=>?_,fun k hk=>?_,fun k hk o=>?_,fun i k hk=>?_,fun k hk=>?_,fun i o hi=>?_⟩,hc⟩
 ·have hkb:k≠b:=by rintro rfl;have:=(h.old k hk).2;rw[hrole] at this;cases this
  exact⟨(hold k hkb).trans (h.old k hk).1,by simp[Gh.freeze,hkb,(h.old k hk).2]⟩
 ·by_cases hkb:k=b
  ·subst hkb;simp only[Gh.freeze,if_true] at hv;simp only[World.cell?,hnew];exact hm o v hv
  ·simp only[Gh.freeze,hkb,if_false] at hv;rw[←h.imm k o v hv];simp only[World.cell?,hold k hkb]
 ·by_cases hkb:k=b
  ·simp[Gh.freeze,hkb]
  ·simp only[Gh.freeze,hkb,if_false];exact h.role k (by simpa using hk)
 ·have hkb:k≠b:=by rintro rfl;simp[Gh.freeze] at hk
  simp only[Gh.freeze,hkb,if_false] at hk ⊢;exact h.noimm k hk o
 ·have:=h.rho i k hk;exact⟨by simpa using this.1,by simpa using this.2⟩
 ·obtain⟨arr2,e2,fz2,h1,h2⟩:=h.len k hk
  by_cases hkb:k=b
  ·subst hkb;rw[hb] at h1;cases h1;exact⟨arr',e,_,hnew,by rw[hsz];exact h2⟩
  ·exact⟨arr2,e2,fz2,(hold k hkb).trans h1,h2⟩
 ·rw[List.getElem?_set] at hi
  by_cases e1:id=i
  ·subst e1;simp only[if_true] at hi;split at hi
   ·cases hi;trivial
   ·cases hi
  ·simp only[e1,if_false] at hi;exact(h.obj i o hi).chg hc (by simpa using Ne.symm e1) (by simp)
def Gh.row(G:Gh)(g id k:Nat):Gh:=
 {G with role:=fun x=>if x=g then .obj id else G.role x,len:=fun x=>if x=g then k else G.len x}
end Go.Av
