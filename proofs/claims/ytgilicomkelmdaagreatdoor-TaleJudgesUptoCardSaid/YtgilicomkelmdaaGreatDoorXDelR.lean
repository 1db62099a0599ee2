/- Parts of the proofs of this seat: abstract values over the model, and what the functions of the program do. No condition. -/
import Derived.Test.YtgilicomkelmdaaGreatDoorM12
set_option linter.all false
set_option maxRecDepth 100000
namespace Go.Av
open Go.RowKit
variable {E:Env} {G:Gh} {w w':World} {S:St}
theorem Um{P:Program}{t:TypeId}{i:TypeInfo}{n:Nat}(h:P.info? t=some i)(hn:i.size=n)(w:World):(Go.sizeOf t).run P w= .ok n w:=by
 subst hn;simp[Go.sizeOf,typeInfo,h]
theorem WD{P:Program}{t:TypeId}{i:TypeInfo}{z:Value}(h:P.info? t=some i)(hz:i.zero=some z)(w:World):(zeroValue t).run P w= .ok z w:=by
 simp[zeroValue,typeInfo,h,hz]
def Gh.freeze(G:Gh)(b:Nat)(m:Nat→Option Value):Gh:=
 {G with imm:=fun x o=>if x=b then m o else G.imm x o,role:=fun x=>if x=b then .ext else G.role x}
theorem Rel.freezeRow(h:Rel E G w S){id b:Nat}(hrole:G.role b= .obj id){arr arr':Array Value}{e:TypeId}(hb:w.heap[b]? =some (.cells arr e (0,0)))(hsz:arr'.size=arr.size)(m:Nat→Option Value)(hm:∀k v,m k=some v→arr'[k]? =some v):
  Rel E (G.freeze b m) (w.setRow b arr') (S.set id .dead)∧Chg (·= .obj id) G w (G.freeze b m) (w.setRow b arr'):=by
 have hold:∀k,k≠b→(w.setRow b arr').heap[k]? =w.heap[k]?:=fun k hk=>setRow_other w b k arr' hk
 have hni:∀o,G.imm b o=none:=h.noimm b (.inl ⟨id,hrole⟩);have hnew:(w.setRow b arr').heap[b]? =some (.cells arr' e (0,0)):=setRow_heap w b arr arr' e _ hb;have hc:Chg (·= .obj id) G w (G.freeze b m) (w.setRow b arr'):=by
  refine⟨⟨fun k o v hv=>?_,fun _ _ e=>e,fun _=>Nat.le_refl _⟩,by simp,fun k hk hr=>?_⟩
  ·have hkb:k≠b:=by rintro rfl;rw[hni o] at hv;cases hv
   simpa[Gh.freeze,hkb] using hv
  ·have hkb:k≠b:=by rintro rfl;exact hr hrole
   exact⟨hold k hkb,by simp[Gh.freeze,hkb],fun j=>by simp[Gh.freeze,hkb]⟩
 refine⟨⟨h.os,h.tape,h.output,by simpa using h.size,fun k hk=>?_,fun k o v hv=>?_,fun k hk=>?_,fun k hk o=>?_,fun i k hk=>?_,fun k hk=>?_,fun i o hi=>?_⟩,hc⟩
 ·have hkb:k≠b:=by rintro rfl;have:=(h.old k hk).2;rw[hrole] at this;cases this
  exact⟨(hold k hkb).trans (h.old k hk).1,by simp[Gh.freeze,hkb,(h.old k hk).2]⟩
 ·by_cases hkb:k=b
  ·subst hkb;simp only[Gh.freeze,if_true] at hv;simp only[World.cell?,hnew];exact hm o v hv
  ·simp only[Gh.freeze,hkb,if_false] at hv;rw[←h.imm k o v hv];simp only[World.cell?,hold k hkb]
 ·by_cases hkb:k=b
  ·simp[Gh.freeze,hkb]
  ·simp only[Gh.freeze,hkb,if_false];exact h.role k (by simpa using hk)
 ·have hkb:k≠b:=by rintro rfl;simp[Gh.freeze] at hk
  simp only[Gh.freeze,hkb,if_false] at hk ⊢;exact h.noimm k hk o
 ·have:=h.rho i k hk;exact⟨by simpa using this.1,by simpa using this.2⟩
 ·obtain⟨arr2,e2,fz2,h1,h2⟩:=h.len k hk
  by_cases hkb:k=b
  ·subst hkb;rw[hb] at h1;cases h1;exact⟨arr',e,_,hnew,by rw[hsz];exact h2⟩
  ·exact⟨arr2,e2,fz2,(hold k hkb).trans h1,h2⟩
 ·rw[List.getElem?_set] at hi
  by_cases e1:id=i
  ·subst e1;simp only[if_true] at hi;split at hi
   ·cases hi;trivial
   ·cases hi
  ·simp only[e1,if_false] at hi;exact(h.obj i o hi).chg hc (by simpa using Ne.symm e1) (by simp)
def Gh.row(G:Gh)(g id k:Nat):Gh:=
 {G with role:=fun x=>if x=g then .obj id else G.role x,len:=fun x=>if x=g then k else G.len x}
theorem Rel.ownRow(h:Rel E G w S)(hbl:Below w.heap.size w w'){g:Nat}{e:TypeId}{cur:Array Value}(hg:w.heap.size≤g)(hh:w'.heap[g]? =some (.cells cur e (0,0))){cs:List AV}(hlen:cs.length≤cur.size)
  (hcs:∀(j:Nat) (x:AV) (v:Value),cs[j]? =some x→cur[j]? =some v→VR G v x∧x.cell1=true):
  Rel E ((G.row g S.length cur.size).obj S.length g) w' (S++[.cells cs 0])∧Chg (fun _=>False) G w ((G.row g S.length cur.size).obj S.length g) w':=by
 have h1:=h.below hbl;have hglt:g < w'.heap.size:=(Array.getElem?_eq_some_iff.1 hh).1;have hni:∀o,G.imm g o=none:=fun o=>h.imm_none hg o
 have hle:G.Le (G.row g S.length cur.size):=⟨fun _ _ _ e=>e,fun _ _ e=>e,fun b=>by
  simp only[Gh.row];split
  ·rename_i e0;subst e0;rcases Nat.eq_zero_or_pos (G.len b) with e1|e1
   ·omega
   ·obtain⟨a2,e2,f2,q1,q2⟩:=h1.len b (by omega)
    rw[hh] at q1;cases q1;exact q2
  ·exact Nat.le_refl _⟩
 have hc:Chg (·= .ext) G w' (G.row g S.length cur.size) w':=⟨hle,Nat.le_refl _,fun k hk hr=>by
  have hkb:k≠g:=by rintro rfl;exact hr (h.role k hg)
  exact⟨rfl,by simp[Gh.row,hkb],fun j=>rfl⟩⟩
 have h2:Rel E (G.row g S.length cur.size) w' S:=by
  refine⟨h1.os,h1.tape,h1.output,h1.size,fun k hk=>?_,h1.imm,fun k hk=>?_,fun k hk o=>?_,h1.rho,fun k hk=>?_,fun i o hi=>(h1.obj i o hi).chg hc (by simp) (by simp)⟩
  ·have hkb:k≠g:=by have:=h.size;omega
   exact⟨(h1.old k hk).1,by simp[Gh.row,hkb,(h1.old k hk).2]⟩
  ·have hkb:k≠g:=by omega
   simp only[Gh.row,hkb,if_false];exact h1.role k hk
  ·by_cases hkb:k=g
   ·subst hkb;exact hni o
   ·simp only[Gh.row,hkb,if_false] at hk ⊢;exact h1.noimm k hk o
  ·by_cases hkb:k=g
   ·subst hkb;exact⟨cur,e,_,hh,by simp[Gh.row]⟩
   ·simp only[Gh.row,hkb,if_false] at hk ⊢;exact h1.len k hk
 have hle2:(G.row g S.length cur.size).Le ((G.row g S.length cur.size).obj S.length g):=⟨fun _ _ _ e=>e,fun id b' e=>by
  have:=(h2.rho id b' e).1;simp[Gh.obj,Nat.ne_of_lt this,e],fun _=>Nat.le_refl _⟩
 refine⟨(h2.addObj hglt (.cells cs 0) ⟨g,cur,e,by simp[Gh.obj],by simp[Gh.obj,Gh.row],hh,⟨hlen,fun j x v hx hv=>?_⟩,fun e0=>(e0 rfl).elim⟩).1,⟨hle.trans hle2,hbl.size,fun k hk _=>?_⟩⟩
 ·obtain⟨q1,q2⟩:=hcs j x v hx hv;exact⟨(q1.mono hle).mono hle2,AV.cell1.free1 q2,.of_not (AV.cell1.own q2)⟩
 ·have hkb:k≠g:=by omega
  exact⟨hbl.block k hk,by simp[Gh.obj,Gh.row,hkb],fun j=>rfl⟩
end Go.Av
