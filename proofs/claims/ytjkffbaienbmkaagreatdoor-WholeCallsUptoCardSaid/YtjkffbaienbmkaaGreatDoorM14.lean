/- Parts of the proofs of this seat: abstract values over the model, and what the functions of the program do. No condition. -/
import Derived.Test.YtjkffbaienbmkaaGreatDoorM12
set_option linter.all false
namespace Go.Av
open Go.RowKit
theorem Ct.of_tup{G:Gh}{w:World}{κ:Key}{κc:Nat→Key}{cs:List AV}{vs:Array Value}(h:VR G (.tuple vs) (.tup cs))(hc:∀x∈cs,x.cell1=true):Ct G w κ κc (.tuple vs) (.tup cs):=by
 refine⟨h,.of_not rfl,by simp,?_,?_⟩
 ·rintro cs' vs' ⟨⟩ ⟨⟩ i x u hx hu;exact .of_not (AV.cell1.own (hc x (List.mem_of_getElem? hx)))
 ·rintro cs' ⟨⟩ x hx;have:=AV.cell1.free1 (hc x hx);exact⟨fun ds e=>by subst e;simp[AV.free1] at this,fun ds e=>by subst e;simp[AV.free1] at this⟩
theorem AP.of_below_tup{E:Env}{f:Nat}{fn:Func}(hfn:E.P.funcs[f]? =some fn)(hb:fn.body.isNone=false)(hn:(fn.name== "runtime.NumGoroutine")=false) {args:List AV} {S:St} {Q:AV→St→Prop}
  (h:∀(G:Gh) (w:World) (args':Array Value),Rel E G w S→args'.size=args.length→(∀(i:Nat) (x:AV) (v:Value),args[i]? =some x→args'[i]? =some v→VR G v x)→
   Calls E.P f args' w fun e w'=>∃vs cs,e= .returned (.tuple vs)∧Below w.heap.size w w'∧VR G (.tuple vs) (.tup cs)∧(∀x∈cs,x.cell1=true)∧Q (.tup cs) S):AP E f args S Q:=by
 refine⟨⟨fn,hfn,hb,hn⟩,fun G w hrel hrole args' hl ha=>(h G w args' hrel hl fun i x v hx hv=>(ha i x v hx hv).1).mono ?_⟩
 rintro e w' ⟨vs,cs,rfl,hbl,hv,hc,hq⟩;refine⟨_,_,S,G,rfl,hq,hrel.below hbl,.of_tup hv hc,Chg.below hbl,fun b=>?_⟩
 rcases hrole b with h|h|h
 ·exact .inl h
 ·exact .inr (.inl h)
 ·exact .inr (.inr (.inl h))
end Go.Av
