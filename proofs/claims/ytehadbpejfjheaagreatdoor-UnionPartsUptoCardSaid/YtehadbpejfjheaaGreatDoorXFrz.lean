/- Parts of the proofs of this seat: abstract values over the model, and what the functions of the program do. No condition. -/
import Derived.Test.YtehadbpejfjheaaGreatDoorXDelR
import Derived.Test.YtehadbpejfjheaaGreatDoorD0
set_option linter.all false
set_option maxRecDepth 100000
namespace Go.Av
theorem UM{w:World}{b:Nat}{arr:Array Value}{e:TypeId}{fz:Nat×Nat}(h:w.heap[b]? =some (.cells arr e fz)):w.setRow b arr=w:=by
 have hh:(w.setRow b arr).heap=w.heap:=by
  apply Array.ext_getElem?;intro k
  by_cases c:k=b
  ·subst c;rw[setRow_heap w k arr arr e fz h,h]
  ·rw[setRow_other w b k arr c]
 show ({w with heap:=(w.setRow b arr).heap}:World)=w
 rw[hh]
theorem AN.freeze{E:Env}{f:Nat}{pre post:List AV}{S:St}{Q:AV→St→Prop}{id t sz n:Nat}{es:List (List AV)}(hS:S[id]? =some (.cells es.flatten t))(hes:∀e∈es,e.length=sz∧∀x∈e,x.free1=true)(hn:es.length=n)
  (h:AN E f (pre++ .vs sz (es.map (·.map AV.strip1)) .none::post) (S.set id .dead) Q):AN E f (pre++ .rs sz id 0 n::post) S Q:=by
 refine⟨h.1,fun G w hrel hrole args' hl ha=>?_⟩
 have hlen:(pre++AV.vs sz (es.map (·.map AV.strip1)) .none::post).length=(pre++AV.rs sz id 0 n::post).length:=by simp
 have hp:pre.length < args'.size:=by rw[hl];simp
 have hx:(pre++AV.rs sz id 0 n::post)[pre.length]? =some (.rs sz id 0 n):=by simp
 have h0':=(ha pre.length _ _ hx (Array.getElem?_eq_getElem hp)).1;generalize hv:args'[pre.length]=v at h0';cases h0' with
 |rs b _ _ _ cap _ hrho hcap hlenb=>
  obtain⟨b',arr,e,k1,k2,k3,k4,k5⟩:=hrel.obj id _ hS;rw[hrho] at k1;cases k1;obtain⟨fl1,fl2⟩:=H9 (ys:=es) (sz:=sz) fun e he=>(hes e he).1
  have hsz:=k4.1;obtain⟨q1,q2⟩:=hrel.freezeRow k2 (arr:=arr) (arr':=arr) (e:=e) k3 rfl (fun k=>if k < n*sz then arr[k]? else none) (fun k v hv=>by
   split at hv
   ·exact hv
   ·cases hv)
  rw[UM k3] at q1 q2;have hr2:∀b2,(∃id,(G.freeze b fun k=>if k < n*sz then arr[k]? else none).role b2= .obj id)∨(∃id j,(G.freeze b fun k=>if k < n*sz then arr[k]? else none).role b2= .ocell id j)∨(G.freeze b fun k=>if k < n*sz then arr[k]? else none).role b2= .ext:=fun b2=>by
   by_cases hb:b2=b
   ·subst hb;right;right;simp[Gh.freeze]
   ·have:(G.freeze b fun k=>if k < n*sz then arr[k]? else none).role b2=G.role b2:=by simp[Gh.freeze,hb]
    rw[this];exact hrole b2
  have hvs:VR (G.freeze b fun k=>if k < n*sz then arr[k]? else none) (.slice (some ⟨b,0,none⟩) n cap) (.vs sz (es.map (·.map AV.strip1)) .none):=by
   have hcell:∀(p:Nat) (e:List AV) (q:Nat) (x:AV),es[p]? =some e→e[q]? =some x→p*sz+q < n*sz∧es.flatten[p*sz+q]? =some x∧p*sz+q < arr.size:=fun p e q x hp hq=>by
    have h1:p < n:=by rw[←hn];exact(List.getElem?_eq_some_iff.1 hp).1
    have h2:=(hes e (List.mem_of_getElem? hp)).1;have h3:=(List.getElem?_eq_some_iff.1 hq).1;have h4:(p+1)*sz≤n*sz:=Nat.mul_le_mul_right _ h1;rw[Nat.add_mul,Nat.one_mul] at h4;refine⟨by omega,(fl2 p e q hp (by omega)).trans hq,?_⟩
    rw[fl1,hn] at hsz;omega
   have hinv:∀(p:Nat) (e':List AV) (q:Nat) (x':AV),(es.map (·.map AV.strip1))[p]? =some e'→e'[q]? =some x'→∃e x,es[p]? =some e∧e[q]? =some x∧x'=x.strip1:=fun p e' q x' hp hq=>by
    rw[List.getElem?_map,Option.map_eq_some_iff] at hp;obtain⟨e,h1,rfl⟩:=hp;rw[List.getElem?_map,Option.map_eq_some_iff] at hq;obtain⟨x,h2,rfl⟩:=hq;exact⟨e,x,h1,h2,rfl⟩
   have:=VR.vs (G:=G.freeze b fun k=>if k < n*sz then arr[k]? else none) b 0 cap sz (es.map (·.map AV.strip1)) .none (fun p q=>(arr[p*sz+q]?).getD undef) (by simp) (by rw[List.length_map,hn];exact hcap) (by simp)
    (fun e' he'=>by
     obtain⟨e,he,rfl⟩:=List.mem_map.1 he';refine⟨by rw[List.length_map];exact(hes e he).1,fun x' hx'=>?_⟩
     obtain⟨x,hx,rfl⟩:=List.mem_map.1 hx';exact AV.cell1_strip1 ((hes e he).2 x hx))
    (fun p e' q x' hp hq=>by
     obtain⟨e,x,hp2,hq2,rfl⟩:=hinv p e' q x' hp hq;obtain⟨h1,h2,h3⟩:=hcell p e q x hp2 hq2;simp only[Gh.freeze,if_true,Nat.zero_add];rw[if_pos h1,Array.getElem?_eq_getElem h3];rfl)
    (fun p e' q x' hp hq=>by
     obtain⟨e,x,hp2,hq2,rfl⟩:=hinv p e' q x' hp hq;obtain⟨h1,h2,h3⟩:=hcell p e q x hp2 hq2;refine VR.mono q2.le ?_;rw[Array.getElem?_eq_getElem h3];exact(k4.2 _ x _ h2 (Array.getElem?_eq_getElem h3)).vr.strip1)
   rw[List.length_map] at this;rw[hn] at this;exact this
  refine(h.2 _ w q1 hr2 args' (by rw[hl,hlen]) (fun i x u hxi hui=>?_)).mono ?_
  ·by_cases ei:i=pre.length
   ·subst ei;simp at hxi;subst hxi;rw[Array.getElem?_eq_getElem hp,hv] at hui;cases hui;exact⟨hvs,rfl,rfl⟩
   ·have hxi':(pre++AV.rs sz id 0 n::post)[i]? =some x:=by
     by_cases c:i < pre.length
     ·rw[List.getElem?_append_left c] at hxi ⊢;exact hxi
     ·rw[List.getElem?_append_right (by omega)] at hxi ⊢
      obtain⟨m,hm⟩:∃m,i - pre.length=m+1:=⟨i - pre.length - 1,by omega⟩
      rw[hm] at hxi ⊢;exact hxi
    obtain⟨g1,g2,g3⟩:=ha i x u hxi' hui;exact⟨g1.mono q2.le,g2,g3⟩
  ·rintro ex w' ⟨v',r,S',G',g1,g2,g3,g4,g5,g6⟩;exact⟨v',r,S',G',g1,g2,g3,g4,(q2.weaken (by rintro κ rfl;simp)).trans g5,g6⟩
end Go.Av
