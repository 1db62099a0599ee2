/- Parts of the proofs of this seat: abstract values over the model, and what the functions of the program do. No condition. -/
import Derived.Test.YtehadbpejfjheaaGreatDoorM10
import Derived.Carry
import Derived.OpenShut
import Derived.ProofKit
import Derived.RowKit
set_option linter.all false
set_option maxRecDepth 100000
namespace Go.Av
open Go.RowKit Go.ChangeShapes Go.WideShapes Go.ChangeAt
section
variable {H:Type} {enc:TypeId×Value→H}
theorem Lc{P:Program}{W W':World}(hl:laidOutB P=true)(hb:Below W.heap.size W W'):∀(ts:List TypeId) (vs:List Value) (ds:List (DataW H)) (ps:List MemPlace),
  (∀t∈ts,P.readableRec t=true∧t < P.types.size)→DataW.TrodAll enc P W 0 (fun _=>true) true ts vs ds ps→(∀x∈ps,x.block < W.heap.size)→
  DataW.TrodAll enc P W' 0 (fun b=>decide (b < W.heap.size)) true ts vs ds ps
 |[],[],[],_,_,h,_=>h
 |t::ts,v::vs,d::ds,_,hT,⟨p,q,h1,h2,e⟩,hlt=>
  ⟨p,q,Below.trod hl (hT t List.mem_cons_self).1 (hT t List.mem_cons_self).2 h1 hb (fun x hx=>hlt x (e ▸ List.mem_append_left _ hx)),
   Lc hl hb ts vs ds q (fun t ht=>hT t (List.mem_cons_of_mem _ ht)) h2 (fun x hx=>hlt x (e ▸ List.mem_append_right _ hx)),e⟩
theorem SI{B:Nat}{bd:DataW H→Prop}(hB:Bdd B bd){E:Env}{f:FuncId}{fn:Func}{s:ChangeSpec}{base:Nat}{args:Array Value}{ds gs:List (DataW H)}{before:List MemPlace}{L:List TypeId}{tb:TypeId}
  (hl:laidOutB E.P=true) (hL:L.all (Ko E.P L)=true) (hT:(fn.params.toList.all fun t=>L.contains t&&E.P.readableRec t&&decide (t < E.P.types.size))=true)
  (hres:fn.resultTypes=#[tb]) (htb:E.P.underlying tb=some .bool) (hvars:s.vars=[])
  (hfn:∀ds:List (DataW H),ds.length=fn.params.size→(s.fn H ds).results=[.lit (.bool true)]∧(s.fn H ds).args=ds∧(s.fn H ds).vars=[])
  (hlaw:∀xs:List AV,xs.length=fn.params.size→(∀(j:Nat) (t:TypeId) (x:AV),fn.params[j]? =some t→xs[j]? =some x→TyV E.P B t x)→AN E f xs [] fun r _=>r= .bool true)
  (hval:∀(j:Nat) t v,fn.params[j]? =some t→args[j]? =some v→Value.okWide E.P E.w0 .any base t v)
  (hW:DataW.Whole enc E.P fn.params.toList s.vars false E.w0 args.toList ds gs before) (hbd:∀d∈ds,bd d):
  Calls E.P f args E.w0 fun e W'=>∃v,e= .returned v∧s.post enc E.P fn false true false false E.w0 args v W':=by
 have hW':=hW;have hlt:=fun x hx=>hW'.lt x hx
 obtain⟨p,q,hA,hV,rfl,_,_⟩:=hW;rw[hvars] at hV;obtain⟨rfl,rfl⟩:=trodVars_none hV;simp only[List.append_nil] at hlt;have hT':∀t∈fn.params.toList,t∈L∧E.P.readableRec t=true∧t < E.P.types.size:=fun t ht=>by
  have:=List.all_eq_true.1 hT t ht;simp only[Bool.and_eq_true,List.contains_iff_mem,decide_eq_true_eq] at this;exact⟨this.1.1,this.1.2,this.2⟩
 obtain⟨xs,e1,e2,e3,e4,e5⟩:=WZ hB hL fn.params.toList args.toList ds p (fun t ht=>(hT' t ht).1) hA hbd (fun j t v h h'=>hval j t v (by simpa using h) (by simpa using h'))
 have hn:args.toList.length=fn.params.size:=by rw[←e2];simp
 refine(W7 (hlaw xs (by omega) (fun j t x h h'=>e4 j t x (by simpa using h) h')) (args':=args) (by rw[e1];simp) (fun i x v hx hv=>e5 i x v hx (by simpa using hv))).mono ?_
 rintro e W' ⟨rfl,bel⟩;obtain⟨h1,h2,h3⟩:=hfn ds (by omega)
 refine⟨_,rfl,ds,[],_,[],p,[],hW',?_,?_,?_,bel.frame _,fun h=>by cases h⟩
 ·rw[List.append_nil,h1,hres];exact trodAll_mk1 (shut_bool htb _)
 ·rw[List.append_nil,h2];exact Lc hl bel _ _ _ _ (fun t ht=>(hT' t ht).2) hA hlt
 ·rw[List.append_nil,h3,hvars];rfl
end
open Go.RowKit
theorem Chg.below{K:Key→Prop}{G:Gh}{w w':World}(h:Below w.heap.size w w'):Chg K G w G w':=⟨.refl G,h.size,fun b hb _=>⟨h.block b hb,rfl,fun _=>rfl⟩⟩
theorem Rel.below{E:Env}{G:Gh}{w w':World}{S:St}(h:Rel E G w S)(hb:Below w.heap.size w w'):Rel E G w' S:=by
 have hs:=hb.size;refine⟨hb.os.trans h.os,hb.tape.trans h.tape,hb.output.trans h.output,Nat.le_trans h.size hs,fun b hlt=>⟨(hb.block b (by have:=h.size;omega)).trans (h.old b hlt).1,(h.old b hlt).2⟩,fun b o v hv=>?_,
  fun b hle=>h.role b (by omega),h.noimm,fun i b hi=>⟨(h.rho i b hi).1,by have:=(h.rho i b hi).2;omega⟩,fun b hl=>?_,fun i o ho=>(h.obj i o ho).chg (K:=fun _=>False) (Chg.below hb) _root_.id (fun _=>_root_.id)⟩
 ·have hc:=h.imm b o v hv;have hlt:b < w.heap.size:=by
   unfold World.cell? at hc;split at hc
   ·rename_i c e fz hh;exact(Array.getElem?_eq_some_iff.1 hh).1
   ·cases hc
  rw[←hc];exact World.cell?_of_block (w:=w) (hb.block b hlt)
 ·obtain⟨arr,e,fz,h1,h2⟩:=h.len b hl;exact⟨arr,e,fz,(hb.block b (Array.getElem?_eq_some_iff.1 h1).1).trans h1,h2⟩
theorem AN.of_below{E:Env}{f:Nat}{fn:Func}(hfn:E.P.funcs[f]? =some fn)(hb:fn.body.isNone=false)(hn:(fn.name== "runtime.NumGoroutine")=false) {args:List AV} {S:St} {Q:AV→St→Prop}
  (h:∀(G:Gh) (w:World) (args':Array Value),args'.size=args.length→(∀(i:Nat) (x:AV) (v:Value),args[i]? =some x→args'[i]? =some v→VR G v x)→
   Calls E.P f args' w fun e w'=>∃v r,e= .returned v∧Below w.heap.size w w'∧VR G v r∧r.cell1=true∧Q r S):AN E f args S Q:=by
 refine⟨⟨fn,hfn,hb,hn⟩,fun G w hrel hrole args' hl ha=>(h G w args' hl fun i x v hx hv=>(ha i x v hx hv).1).mono ?_⟩
 rintro e w' ⟨v,r,rfl,hbl,hv,hc,hq⟩;refine⟨v,r,S,G,rfl,hq,hrel.below hbl,.of_cell1 hv hc,Chg.below hbl,fun b=>?_⟩
 rcases hrole b with h|h|h
 ·exact .inl h
 ·exact .inr (.inl h)
 ·exact .inr (.inr (.inl h))
open Go.RowKit
open Go.RowKit
theorem AN.of_strs{E:Env}{f:Nat}{fn:Func}(hfn:E.P.funcs[f]? =some fn)(hb:fn.body.isNone=false)(hn:(fn.name== "runtime.NumGoroutine")=false) {args:List AV} {S:St} {Q:AV→St→Prop}
  (h:∀(G:Gh) (w:World) (args':Array Value),Rel E G w S→args'.size=args.length→(∀(i:Nat) (x:AV) (v:Value),args[i]? =some x→args'[i]? =some v→VR G v x)→
   Calls E.P f args' w fun e w'=>∃(l:List (List UInt8)) (t:TypeId),e= .returned (.slice (some ⟨w.heap.size,0,none⟩) l.length l.length)∧w'=w.alloc (.cells (l.map fun s=>Value.string ⟨s.toArray⟩).toArray t)∧
    Q (.vs 1 (l.map fun s=>[.str s]) .full) S):AN E f args S Q:=by
 refine⟨⟨fn,hfn,hb,hn⟩,fun G w hrel hrole args' hl ha=>(h G w args' hrel hl fun i x v hx hv=>(ha i x v hx hv).1).mono ?_⟩
 rintro e w' ⟨l,t,rfl,rfl,hq⟩;have hm:∀j v,((l.map fun s=>Value.string ⟨s.toArray⟩).toArray[j]?)=some v→(w.alloc (.cells (l.map fun s=>Value.string ⟨s.toArray⟩).toArray t)).cell? ⟨w.heap.size,j,none⟩=some v:=fun j v hj=>by
  unfold World.cell?;rw[World.alloc_new];exact hj
 have hr:=hrel.alloc (.cells (l.map fun s=>Value.string ⟨s.toArray⟩).toArray t) (fun j=>(l.map fun s=>Value.string ⟨s.toArray⟩).toArray[j]?) .ext hm (by rintro (⟨id,h⟩|⟨t,h⟩)<;>cases h)
 refine⟨_,_,S,_,rfl,hq,hr,.of_cell1 ?_ rfl,Chg.new hrel _ _ _ _,fun b=>?_⟩
 ·have hlen:(l.map fun s=>[AV.str s]).length=l.length:=List.length_map ..
  have:=VR.vs (G:=G.new w.heap.size (fun j=>(l.map fun s=>Value.string ⟨s.toArray⟩).toArray[j]?) .ext) w.heap.size 0 l.length 1 (l.map fun s=>[AV.str s]) .full (fun i _=>.string ⟨(l.getD i []).toArray⟩) (by simp) (by simp) (by simp)
   (fun e he=>by
    obtain⟨s,_,rfl⟩:=List.mem_map.1 he;exact⟨rfl,by intro x hx;rw[List.mem_singleton] at hx;subst hx;rfl⟩)
   (fun i e j x hi hj=>by
    rw[List.getElem?_map,Option.map_eq_some_iff] at hi;obtain⟨s,hs,rfl⟩:=hi;have hj0:j=0:=by have:=(List.getElem?_eq_some_iff.1 hj).1;simp at this;exact this
    subst hj0;simp[Gh.new,hs,List.getD])
   (fun i e j x hi hj=>by
    rw[List.getElem?_map,Option.map_eq_some_iff] at hi;obtain⟨s,hs,rfl⟩:=hi;have hj0:j=0:=by have:=(List.getElem?_eq_some_iff.1 hj).1;simp at this;exact this
    subst hj0;simp at hj;subst hj;simp only[List.getD,hs,Option.getD_some];exact .str s)
  rw[hlen] at this;exact this
 ·by_cases hbw:b=w.heap.size
  ·subst hbw;right;right;left;simp[Gh.new]
  ·have:(G.new w.heap.size (fun j=>(l.map fun s=>Value.string ⟨s.toArray⟩).toArray[j]?) .ext).role b=G.role b:=by simp[Gh.new,hbw]
   rw[this];rcases hrole b with h|h|h
   ·exact .inl h
   ·exact .inr (.inl h)
   ·exact .inr (.inr (.inl h))
end Go.Av
