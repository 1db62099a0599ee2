/- Parts of the proofs of this seat: abstract values over the model, and what the functions of the program do. No condition. -/
import Derived.Test.YtjkffbaienbmkaaGreatDoorM12
set_option linter.all false
namespace Go.Av
open Go.RowKit
theorem AP.of_strsC{E:Env}{f:Nat}{fn:Func}(hfn:E.P.funcs[f]? =some fn)(hb:fn.body.isNone=false)(hn:(fn.name== "runtime.NumGoroutine")=false) {args:List AV} {S:St} {Q:AV→St→Prop}
  (h:∀(G:Gh) (w:World) (args':Array Value),Rel E G w S→args'.size=args.length→(∀(i:Nat) (x:AV) (v:Value),args[i]? =some x→args'[i]? =some v→VR G v x)→
   Calls E.P f args' w fun e w'=>∃(l:List (List UInt8)) (rest:List Value) (cap:Nat) (t:TypeId),l.length≤cap∧e= .returned (.slice (some ⟨w.heap.size,0,none⟩) l.length cap)∧w'=w.alloc (.cells ((l.map fun s=>Value.string ⟨s.toArray⟩)++rest).toArray t)∧
    Q (.vs 1 (l.map fun s=>[.str s]) .none) S):AP E f args S Q:=by
 refine⟨⟨fn,hfn,hb,hn⟩,fun G w hrel hrole args' hl ha=>(h G w args' hrel hl fun i x v hx hv=>(ha i x v hx hv).1).mono ?_⟩
 rintro e w' ⟨l,rest,cap,t,hcap,rfl,rfl,hq⟩;have hm:∀j v,(((l.map fun s=>Value.string ⟨s.toArray⟩)++rest).toArray[j]?)=some v→(w.alloc (.cells ((l.map fun s=>Value.string ⟨s.toArray⟩)++rest).toArray t)).cell? ⟨w.heap.size,j,none⟩=some v:=fun j v hj=>by
  unfold World.cell?;rw[World.alloc_new];exact hj
 have hr:=hrel.alloc (.cells ((l.map fun s=>Value.string ⟨s.toArray⟩)++rest).toArray t) (fun j=>((l.map fun s=>Value.string ⟨s.toArray⟩)++rest).toArray[j]?) .ext hm (by rintro (⟨id,h⟩|⟨t,h⟩)<;>cases h)
 refine⟨_,_,S,_,rfl,hq,hr,.of_cell1 ?_ rfl,Chg.new hrel _ _ _ _,fun b=>?_⟩
 ·have hlen:(l.map fun s=>[AV.str s]).length=l.length:=List.length_map ..
  have:=VR.vs (G:=G.new w.heap.size (fun j=>((l.map fun s=>Value.string ⟨s.toArray⟩)++rest).toArray[j]?) .ext) w.heap.size 0 cap 1 (l.map fun s=>[AV.str s]) .none (fun i _=>.string ⟨(l.getD i []).toArray⟩) (by simp) (by simpa using hcap) (by simp)
   (fun e he=>by
    obtain⟨s,_,rfl⟩:=List.mem_map.1 he;exact⟨rfl,by intro x hx;rw[List.mem_singleton] at hx;subst hx;rfl⟩)
   (fun i e j x hi hj=>by
    rw[List.getElem?_map,Option.map_eq_some_iff] at hi;obtain⟨s,hs,rfl⟩:=hi;have hj0:j=0:=by have:=(List.getElem?_eq_some_iff.1 hj).1;simp at this;exact this
    subst hj0;have hlt:=(List.getElem?_eq_some_iff.1 hs).1;simp[Gh.new,hs,List.getD,List.getElem?_append_left,hlt])
   (fun i e j x hi hj=>by
    rw[List.getElem?_map,Option.map_eq_some_iff] at hi;obtain⟨s,hs,rfl⟩:=hi;have hj0:j=0:=by have:=(List.getElem?_eq_some_iff.1 hj).1;simp at this;exact this
    subst hj0;simp at hj;subst hj;simp only[List.getD,hs,Option.getD_some];exact .str s)
  rw[hlen] at this;exact this
 ·by_cases hbw:b=w.heap.size
  ·subst hbw;right;right;left;simp[Gh.new]
  ·have:(G.new w.heap.size (fun j=>((l.map fun s=>Value.string ⟨s.toArray⟩)++rest).toArray[j]?) .ext).role b=G.role b:=by simp[Gh.new,hbw]
   rw[this];rcases hrole b with h|h|h
   ·exact .inl h
   ·exact .inr (.inl h)
   ·exact .inr (.inr (.inl h))
end Go.Av
