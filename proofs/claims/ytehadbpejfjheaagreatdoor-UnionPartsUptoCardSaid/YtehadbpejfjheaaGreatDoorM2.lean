/- Parts of the proofs of this seat: abstract values over the model, and what the functions of the program do. No condition. -/
import Derived.Test.YtehadbpejfjheaaGreatDoorM0
import Derived.ArgAppend
import Derived.WalkKit
set_option linter.all false
set_option maxRecDepth 100000
namespace Go.Av
def AV.own:AV→Bool| .vs _ _ (.own _)=>true|_=>false
def AV.cell1(a:AV):Bool:=a.free1&&!a.own
def AV.plain:AV→Prop| .agg cs=>∀c∈cs,c.cell1=true| .tup _=>False|a=>a.own=false
inductive Key where
 |ext
 |obj (id:Nat)
 |ocell (id j:Nat)
 |lbox (t:Nat)
 |bcell (t j:Nat)
 |slot (t:Nat)
 |slotc (t i:Nat)
 |ret
 |retc (i:Nat)
 deriving DecidableEq
structure Gh where
 imm:Nat→Nat→Option Value
 rho:Nat→Option Nat
 role:Nat→Key
 len:Nat→Nat
inductive VR(G:Gh):Value→AV→Prop where
 |undef (v:Value):VR G v .undef
 |int (k:IntKind) (n:Int):VR G (.int k n) (.int k n)
 |bool (b:Bool):VR G (.bool b) (.bool b)
 |str (l:List UInt8):VR G (.string ⟨l.toArray⟩) (.str l)
 |nil:VR G (.pointer none) .nil
 |ptr (id off b:Nat) (h:G.rho id=some b):VR G (.pointer (some ⟨b,off,none⟩)) (.ptr id off)
 | ep (cs : List AV) (b o off : Nat) (f : Nat → Value) (hc : ∀ x ∈ cs, x.cell1 = true)
   (h:∀(j:Nat) (x:AV),(cs[j]? =some x)→G.imm b (o+j)=some (f j)) (h2:∀(j:Nat) (x:AV),(cs[j]? =some x)→VR G (f j) x):
   VR G (.pointer (some ⟨b,o+off,none⟩)) (.ep cs off)
 |vsnil (sz:Nat):VR G (.slice none 0 0) (.vs sz [] .nil)
 | vs (b o cap sz : Nat) (es : List (List AV)) (r : Rt) (f : Nat → Nat → Value) (hr : r ≠ .nil) (hc : es.length ≤ cap) (hf : r = .full → cap = es.length)
   (hs:∀e∈es,e.length=sz∧∀x∈e,x.cell1=true)
   (h:∀(i:Nat) (e:List AV) (j:Nat) (x:AV),(es[i]? =some e)→(e[j]? =some x)→G.imm b (o+i*sz+j)=some (f i j))
   (h2:∀(i:Nat) (e:List AV) (j:Nat) (x:AV),(es[i]? =some e)→(e[j]? =some x)→VR G (f i j) x):
   VR G (.slice (some ⟨b,o,none⟩) es.length cap) (.vs sz es r)
 |vse (a:Addr) (sz:Nat) (r:Rt) (hr:r= .none∨r= .full):VR G (.slice (some a) 0 0) (.vs sz [] r)
 |rs (b id off len cap sz:Nat) (h:G.rho id=some b) (hc:len≤cap) (hl:off+cap*sz≤G.len b):VR G (.slice (some ⟨b,off,none⟩) len cap) (.rs sz id off len)
 |mapnil:VR G (.map none) (.map none)
 |map (id b:Nat) (h:G.rho id=some b):VR G (.map (some b)) (.map (some id))
 | fn (g : Nat) (first cap : List AV) (first' cap' : Array Value) (h1 : first'.size = first.length) (h2 : cap'.size = cap.length)
   (h:∀(i:Nat) (x:AV) (v:Value),(first[i]? =some x)→(first'[i]? =some v)→VR G v x)
   (h':∀(i:Nat) (x:AV) (v:Value),(cap[i]? =some x)→(cap'[i]? =some v)→VR G v x):
   VR G (.func (.func g) first' cap') (.fn g first cap)
 |nilfn:VR G .nilFunc .nilfn
 |ifc (t:Nat) (v:Value) (a:AV) (h:VR G v a):VR G (.iface t v) (.ifc t a)
 |nilifc:VR G .nilIface .nilifc
 |agg (cs:List AV) (vs:Array Value) (hl:vs.size=cs.length) (h:∀(i:Nat) (x:AV) (v:Value),(cs[i]? =some x)→(vs[i]? =some v)→VR G v x):VR G (.agg vs) (.agg cs)
 |tup (cs:List AV) (vs:Array Value) (hl:vs.size=cs.length) (h:∀(i:Nat) (x:AV) (v:Value),(cs[i]? =some x)→(vs[i]? =some v)→VR G v x):VR G (.tuple vs) (.tup cs)
structure Gh.Le(G G':Gh):Prop where
 imm:∀b o v,G.imm b o=some v→G'.imm b o=some v
 rho:∀id b,G.rho id=some b→G'.rho id=some b
 len:∀b,G.len b≤G'.len b
theorem Gh.Le.refl(G:Gh):G.Le G:=⟨fun _ _ _ h=>h,fun _ _ h=>h,fun _=>Nat.le_refl _⟩
theorem Gh.Le.trans{A B D:Gh}(h:A.Le B)(k:B.Le D):A.Le D:=⟨fun b o v e=>k.imm b o v (h.imm b o v e),fun i b e=>k.rho i b (h.rho i b e),fun b=>Nat.le_trans (h.len b) (k.len b)⟩
theorem VR.mono{G G':Gh}(hl:G.Le G'){v:Value}{a:AV}(h:VR G v a):VR G' v a:=by
 induction h with
 |undef v=>exact .undef v
 |int k n=>exact .int k n
 |bool b=>exact .bool b
 |str l=>exact .str l
 |nil=>exact .nil
 |ptr id off b h=>exact .ptr id off b (hl.rho _ _ h)
 |ep cs b o off f hc h _ ih=>exact .ep cs b o off f hc (fun j x e=>hl.imm _ _ _ (h j x e)) ih
 |vsnil sz=>exact .vsnil sz
 |vs b o cap sz es r f hr hc hf hs h _ ih=>exact .vs b o cap sz es r f hr hc hf hs (fun i e j x a b=>hl.imm _ _ _ (h i e j x a b)) ih
 |vse a sz r hr=>exact .vse a sz r hr
 |rs b id off len cap sz h hc hk=>exact .rs b id off len cap sz (hl.rho _ _ h) hc (Nat.le_trans hk (hl.len b))
 |mapnil=>exact .mapnil
 |map id b h=>exact .map id b (hl.rho _ _ h)
 |fn g first cap first' cap' h1 h2 _ _ ih ih'=>exact .fn g first cap first' cap' h1 h2 ih ih'
 |nilfn=>exact .nilfn
 |ifc t v a _ ih=>exact .ifc t v a ih
 |nilifc=>exact .nilifc
 |agg cs vs hl' _ ih=>exact .agg cs vs hl' ih
 |tup cs vs hl' _ ih=>exact .tup cs vs hl' ih
theorem VR.strip1{G:Gh}{v:Value}{a:AV}(h:VR G v a):VR G v a.strip1:=by
 cases h with
 |vsnil sz=>exact .vsnil sz
 |vs b o cap sz es r f hr hc hf hs h h2=>
  refine .vs b o cap sz es r.strip f ?_ hc ?_ hs h h2
  ·cases r<;>simp_all [Rt.strip]
  ·cases r<;>simp_all [Rt.strip]
 |undef v=>exact .undef v
 |int k n=>exact .int k n
 |bool b=>exact .bool b
 |str l=>exact .str l
 |nil=>exact .nil
 |ptr id off b h=>exact .ptr id off b h
 |ep cs b o off f hc h h2=>exact .ep cs b o off f hc h h2
 |vse a sz r hr=>exact .vse a sz r.strip (by rcases hr with rfl|rfl<;>simp[Rt.strip])
 |rs b id off len cap sz h hc hk=>exact .rs b id off len cap sz h hc hk
 |mapnil=>exact .mapnil
 |map id b h=>exact .map id b h
 |fn g first cap first' cap' h1 h2 h3 h4=>exact .fn g first cap first' cap' h1 h2 h3 h4
 |nilfn=>exact .nilfn
 |ifc t v a h=>exact .ifc t v a h
 |nilifc=>exact .nilifc
 |agg cs vs hl' h=>exact .agg cs vs hl' h
 |tup cs vs hl' h=>exact .tup cs vs hl' h
theorem VR.strip0{G:Gh}{v:Value}{a:AV}(h:VR G v a):VR G v a.strip0:=by
 cases a with
 |agg cs=>
  cases h with
  |agg _ vs hl h=>
   refine .agg _ vs (by simpa using hl) fun i x v hx hv=>?_
   simp only[List.getElem?_map,Option.map_eq_some_iff] at hx;obtain⟨y,hy,rfl⟩:=hx;exact(h i y v hy hv).strip1
 |_=>exact h
theorem VR.strip2{G:Gh}{v:Value}{a:AV}(h:VR G v a):VR G v a.strip2:=by
 cases a with
 |agg cs=>exact h.strip0
 |_=>exact h.strip1
theorem VR.strip{G:Gh}{v:Value}{a:AV}(h:VR G v a):VR G v a.strip:=by
 cases a with
 |tup cs=>
  cases h with
  |tup _ vs hl h=>
   refine .tup _ vs (by simpa using hl) fun i x v hx hv=>?_
   simp only[List.getElem?_map,Option.map_eq_some_iff] at hx;obtain⟨y,hy,rfl⟩:=hx;exact(h i y v hy hv).strip2
 |_=>exact h.strip2
theorem AV.own_strip1(a:AV):a.strip1.own=false:=by
 cases a<;>simp only[AV.strip1,AV.own]
 rename_i sz es r;cases r<;>simp[Rt.strip]
theorem AV.free1_strip1(a:AV):a.strip1.free1=a.free1:=by cases a<;>rfl
theorem AV.cell1_strip1{a:AV}(h:a.free1=true):a.strip1.cell1=true:=by
 simp[AV.cell1,AV.own_strip1,AV.free1_strip1,h]
theorem AV.strip_of_free1{a:AV}(h:a.free1=true):a.strip=a.strip1:=by cases a<;>first|rfl|(simp[AV.free1] at h)
theorem AV.cells_of_free1{a:AV}(h:a.free1=true):a.cells=[a]:=by cases a<;>first|rfl|(simp[AV.free1] at h)
theorem AV.free_of_free1{a:AV}(h:a.free1=true):a.free=true:=by cases a<;>first|rfl|(simp[AV.free1] at h)
theorem AV.cell1.free1{a:AV}(h:a.cell1=true):a.free1=true:=by simp[AV.cell1] at h;exact h.1
theorem AV.cell1.own{a:AV}(h:a.cell1=true):a.own=false:=by simp[AV.cell1] at h;exact h.2
theorem AV.free_cases{a:AV}(h:a.free=true):(a.free1=true∧a.cells=[a])∨∃cs,a= .agg cs∧∀c∈cs,c.free1=true:=by
 cases a<;>first|(left;exact⟨h,rfl⟩)|(right;exact⟨_,rfl,by simpa[AV.free] using h⟩)
theorem AV.cells_strip_cell1{a:AV}(h:a.free=true):∀c∈a.strip.cells,c.cell1=true:=by
 rcases AV.free_cases h with ⟨h1,h2⟩|⟨cs,rfl,h1⟩
 ·rw[AV.strip_of_free1 h1];have:a.strip1.free1=true:=by rw[AV.free1_strip1];exact h1
  rw[AV.cells_of_free1 this];simpa using AV.cell1_strip1 h1
 ·simp only[AV.strip,AV.strip2,AV.cells,List.mem_map];rintro c ⟨x,hx,rfl⟩;exact AV.cell1_strip1 (h1 x hx)
theorem AV.length_cells_strip{a:AV}(h:a.free=true):a.strip.cells.length=a.cells.length:=by
 rcases AV.free_cases h with ⟨h1,h2⟩|⟨cs,rfl,h1⟩
 ·have:a.strip1.free1=true:=by rw[AV.free1_strip1];exact h1
  rw[AV.strip_of_free1 h1,AV.cells_of_free1 this,h2];rfl
 ·simp[AV.strip,AV.strip2,AV.cells]
theorem VR.oneCell{G:Gh}{v:Value}{a:AV}(h:VR G v a)(hf:a.free1=true):v.oneCell'=true:=by
 cases h<;>first|rfl|(simp[AV.free1] at hf)
theorem VR.cells_size{G:Gh}{v:Value}{a:AV}(h:VR G v a)(hf:a.free=true):v.cells.size=a.cells.length:=by
 rcases AV.free_cases hf with ⟨h1,h2⟩|⟨cs,rfl,h1⟩
 ·rw[h2];cases h<;>first|rfl|(simp[AV.free1] at h1)
 ·cases h with
  |agg _ vs hl h=>simpa[Value.cells,AV.cells] using hl
theorem VR.cells{G:Gh}{v:Value}{a:AV}(h:VR G v a)(hf:a.free=true)(i:Nat)(x:AV)(u:Value)(hx:a.cells[i]? =some x)(hu:v.cells[i]? =some u):VR G u x:=by
 rcases AV.free_cases hf with ⟨h1,h2⟩|⟨cs,rfl,h1⟩
 ·rw[h2] at hx;have hv:v.cells=#[v]:=by
   have:=h.oneCell h1;cases v<;>first|rfl|(simp[Value.oneCell'] at this)
  rw[hv] at hu;cases i with
  |zero=>simp at hx hu;subst hx hu;exact h
  |succ i=>simp at hx
 ·cases h with
  |agg _ vs hl h=>exact h i x u hx hu
def Tail(G:Gh)(w:World)(κ:Key)(v:Value)(a:AV):Prop:=
 a.own=true→∃b o len cap,v= .slice (some ⟨b,o,none⟩) len cap∧∃sz es t,a= .vs sz es (.own t)∧es.length=len∧
  G.role b=κ∧(∃arr e,w.heap[b]? =some (.cells arr e (0,0))∧o+cap*sz≤arr.size∧(t≠0→e=t))∧(cap=len∨∀j,o+len*sz≤j→G.imm b j=none)
theorem Tail.of_not{G:Gh}{w:World}{κ:Key}{v:Value}{a:AV}(h:a.own=false):Tail G w κ v a:=fun e=>by rw[h] at e;cases e
structure H5(G:Gh)(w:World)(κ:Key)(v:Value)(a:AV):Prop where
 vr:VR G v a
 free:a.free1=true
 tail:Tail G w κ v a
def D4(G:Gh)(w:World)(κ:Nat→Key)(arr:Array Value)(cs:List AV):Prop:=
 cs.length≤arr.size∧∀(j:Nat) (x:AV) (v:Value),cs[j]? =some x→arr[j]? =some v→H5 G w (κ j) v x
structure Bw(G:Gh)(w:World)(κ:Key)(κc:Nat→Key)(v:Value)(a:AV):Prop where
 vr:VR G v a
 tail:Tail G w κ v a
 agg:∀cs,a= .agg cs→∀c∈cs,c.own=false
 comp:∀cs vs,a= .tup cs→v= .tuple vs→∀(i:Nat) (x:AV) (u:Value),cs[i]? =some x→vs[i]? =some u→Tail G w (κc i) u x
 comp2:∀cs,a= .tup cs→∀x∈cs,(∀ds,x= .agg ds→∀c∈ds,c.own=false)∧∀ds,x≠ .tup ds
def GE(G:Gh)(e:MapEntry)(p:AV×AV):Prop:=VR G e.key p.1∧(∃g,OJ g p.1=true)∧VR G e.val p.2∧p.2.free=true∧∀c∈p.2.cells,c.own=false
structure Env where
 P:Program
 C:Ctx
 w0:World
def Tagged(t:Nat)(e:TypeId)(arr:Array Value)(n:Nat):Prop:=t≠0→e=t∧arr.size=n
def Sz(G:Gh)(w:World)(id T e:Nat)(l:List UInt8):Prop:=
 ∃b p v,G.rho id=some b∧G.role b= .obj id∧w.heap[b]? =some (.cells #[p,v] T (0,0))∧(p= .pointer none∨p= .pointer (some ⟨b,0,none⟩))∧
  ((v= .slice none 0 0∧l=[])∨∃g cap cur fz,v= .slice (some ⟨g,0,none⟩) l.length cap∧G.role g= .ocell id 1∧(∀j,G.imm g j=none)∧w.heap[g]? =some (.cells cur e fz)∧fz.2≤l.length∧
   l.length≤cap∧cap≤maxLen∧cur.size=cap∧∀(j:Nat) (x:UInt8),l[j]? =some x→cur[j]? =some (.int .u8 x.toNat))
theorem Sz.keep{G G':Gh}{w w':World}{id T e:Nat}{l:List UInt8}(hr:∀b,G.rho id=some b→G'.rho id=some b)
  (hk:∀b,(G.role b= .obj id∨G.role b= .ocell id 1)→b < w.heap.size→G'.role b=G.role b∧w'.heap[b]? =w.heap[b]?∧∀j,G'.imm b j=G.imm b j) (h:Sz G w id T e l):Sz G' w' id T e l:=by
 obtain⟨b,p,v,h1,h2,h3,h4,h5⟩:=h;obtain⟨k1,k2,k3⟩:=hk b (.inl h2) (Array.getElem?_eq_some_iff.1 h3).1;refine⟨b,p,v,hr b h1,k1.trans h2,k2.trans h3,h4,h5.imp _root_.id ?_⟩;rintro⟨g,cap,cur,fz,q1,q2,q3,q4,q5⟩;obtain⟨k1,k2,k3⟩:=hk g (.inr q2) (Array.getElem?_eq_some_iff.1 q4).1;exact⟨g,cap,cur,fz,q1,k1.trans q2,fun j=>(k3 j).trans (q3 j),k2.trans q4,q5⟩
def T4(G:Gh)(w:World)(id:Nat):Obj→Prop
 | .cells cs t=>∃b arr e,G.rho id=some b∧G.role b= .obj id∧w.heap[b]? =some (.cells arr e (0,0))∧D4 G w (.ocell id) arr cs∧Tagged t e arr cs.length
 | .map m=>∃b es clk,G.rho id=some b∧G.role b= .obj id∧w.heap[b]? =some (.map es clk)∧es.size=m.length∧∀(i:Nat) (e:MapEntry) (p:AV×AV),es[i]? =some e→m[i]? =some p→GE G e p
 | .bld T e l=>Sz G w id T e l
 | .dead=>True
structure Rel(E:Env)(G:Gh)(w:World)(S:St):Prop where
 os:w.os=E.w0.os
 tape:w.tape=E.w0.tape
 output:w.output=E.w0.output
 size:E.w0.heap.size≤w.heap.size
 old:∀b,b < E.w0.heap.size→w.heap[b]? =E.w0.heap[b]?∧G.role b= .ext
 imm:∀b o v,G.imm b o=some v→w.cell? ⟨b,o,none⟩=some v
 role:∀b,w.heap.size≤b→G.role b= .ext
 noimm:∀b,((∃id,G.role b= .obj id)∨∃t,G.role b= .lbox t)→∀o,G.imm b o=none
 rho:∀id b,G.rho id=some b→id < S.length∧b < w.heap.size
 len:∀b,G.len b≠0→∃arr e fz,w.heap[b]? =some (.cells arr e fz)∧G.len b≤arr.size
 obj:∀id o,S[id]? =some o→T4 G w id o
structure Chg(K:Key→Prop)(G:Gh)(w:World)(G':Gh)(w':World):Prop where
 le:G.Le G'
 size:w.heap.size≤w'.heap.size
 keep:∀b,b < w.heap.size→¬K (G.role b)→w'.heap[b]? =w.heap[b]?∧G'.role b=G.role b∧∀j,G'.imm b j=G.imm b j
theorem Chg.refl(K:Key→Prop)(G:Gh)(w:World):Chg K G w G w:=⟨.refl G,Nat.le_refl _,fun _ _ _=>⟨rfl,rfl,fun _=>rfl⟩⟩
theorem Chg.trans{K:Key→Prop}{G1 G2 G3:Gh}{w1 w2 w3:World}(h:Chg K G1 w1 G2 w2)(k:Chg K G2 w2 G3 w3):Chg K G1 w1 G3 w3:=
 ⟨h.le.trans k.le,Nat.le_trans h.size k.size,fun b hb hr=>by
  obtain⟨h1,h2,h3⟩:=h.keep b hb hr;obtain⟨k1,k2,k3⟩:=k.keep b (Nat.lt_of_lt_of_le hb h.size) (by rw[h2];exact hr)
  exact⟨k1.trans h1,k2.trans h2,fun j=>(k3 j).trans (h3 j)⟩⟩
theorem Chg.weaken{K K':Key→Prop}{G G':Gh}{w w':World}(h:Chg K G w G' w')(hk:∀κ,K κ→K' κ):Chg K' G w G' w':=
 ⟨h.le,h.size,fun b hb hr=>h.keep b hb fun k=>hr (hk _ k)⟩
abbrev Kept:=Chg (fun κ=>κ≠ .ext)
theorem Tail.chg{K:Key→Prop}{G G':Gh}{w w':World}(c:Chg K G w G' w'){κ:Key}{v:Value}{a:AV}(hk:¬K κ)(h:Tail G w κ v a):Tail G' w' κ v a:=by
 intro ho;obtain⟨b,o,len,cap,hv,sz,es,t,ha,hl,hr,⟨arr,e,hb,hs⟩,hi⟩:=h ho;have hlt:b < w.heap.size:=(Array.getElem?_eq_some_iff.1 hb).1;obtain⟨k1,k2,k3⟩:=c.keep b hlt (by rw[hr];exact hk)
 exact⟨b,o,len,cap,hv,sz,es,t,ha,hl,k2.trans hr,⟨arr,e,k1.trans hb,hs⟩,hi.imp _root_.id fun hi j hj=>(k3 j).trans (hi j hj)⟩
theorem H5.chg{K:Key→Prop}{G G':Gh}{w w':World}(c:Chg K G w G' w'){κ:Key}{v:Value}{a:AV}(hk:¬K κ)(h:H5 G w κ v a):H5 G' w' κ v a:=
 ⟨h.vr.mono c.le,h.free,h.tail.chg c hk⟩
theorem D4.chg{K:Key→Prop}{G G':Gh}{w w':World}(c:Chg K G w G' w'){κ:Nat→Key}{arr:Array Value}{cs:List AV}(hk:∀j,¬K (κ j))(h:D4 G w κ arr cs):D4 G' w' κ arr cs:=
 ⟨h.1,fun j x v hx hv=>(h.2 j x v hx hv).chg c (hk j)⟩
theorem Bw.chg{K:Key→Prop}{G G':Gh}{w w':World}(c:Chg K G w G' w'){κ:Key}{κc:Nat→Key}{v:Value}{a:AV}(hk:¬K κ)(hc:∀i,¬K (κc i))(h:Bw G w κ κc v a):Bw G' w' κ κc v a:=
 ⟨h.vr.mono c.le,h.tail.chg c hk,h.agg,fun cs vs e1 e2 i x u hx hu=>(h.comp cs vs e1 e2 i x u hx hu).chg c (hc i),h.comp2⟩
theorem GE.mono{G G':Gh}(hl:G.Le G'){e:MapEntry}{p:AV×AV}(h:GE G e p):GE G' e p:=
 ⟨h.1.mono hl,h.2.1,h.2.2.1.mono hl,h.2.2.2⟩
theorem T4.chg{K:Key→Prop}{G G':Gh}{w w':World}(c:Chg K G w G' w'){id:Nat}{o:Obj}(hk:¬K (.obj id))(hc:∀j,¬K (.ocell id j))(h:T4 G w id o):T4 G' w' id o:=by
 cases o with
 |cells cs t=>
  obtain⟨b,arr,e,hr,ho,hb,hrow,htg⟩:=h;obtain⟨k1,k2,k3⟩:=c.keep b (Array.getElem?_eq_some_iff.1 hb).1 (by rw[ho];exact hk)
  exact⟨b,arr,e,c.le.rho _ _ hr,k2.trans ho,k1.trans hb,hrow.chg c hc,htg⟩
 |map m=>
  obtain⟨b,es,clk,hr,ho,hb,hs,he⟩:=h;obtain⟨k1,k2,k3⟩:=c.keep b (Array.getElem?_eq_some_iff.1 hb).1 (by rw[ho];exact hk)
  exact⟨b,es,clk,c.le.rho _ _ hr,k2.trans ho,k1.trans hb,hs,fun i e p h1 h2=>(he i e p h1 h2).mono c.le⟩
 |bld T e l=>
  refine Sz.keep (fun b hb=>c.le.rho _ _ hb) (fun b hb hlt=>?_) h
  obtain⟨k1,k2,k3⟩:=c.keep b hlt (by rcases hb with hb|hb<;>rw[hb];exact hk;exact hc 1)
  exact⟨k2,k1,k3⟩
 |dead=>trivial
def Gh.relabel(G:Gh)(f:Key→Key):Gh:={G with role:=fun b=>f (G.role b)}
theorem VR.relabel{G:Gh}{f:Key→Key}{v:Value}{a:AV}(h:VR G v a):VR (G.relabel f) v a:=
 VR.mono (G:=G) (G':=G.relabel f) ⟨fun _ _ _ h=>h,fun _ _ h=>h,fun _=>Nat.le_refl _⟩ h
theorem Tail.relabel{G:Gh}{w:World}{f:Key→Key}{κ:Key}{v:Value}{a:AV}(h:Tail G w κ v a):Tail (G.relabel f) w (f κ) v a:=by
 intro ho;obtain⟨b,o,len,cap,hv,sz,es,t,ha,hl,h⟩:=h ho;obtain⟨hr,hs,hi⟩:=h;exact⟨b,o,len,cap,hv,sz,es,t,ha,hl,congrArg f hr,hs,hi⟩
theorem H5.relabel{G:Gh}{w:World}{f:Key→Key}{κ:Key}{v:Value}{a:AV}(h:H5 G w κ v a):H5 (G.relabel f) w (f κ) v a:=
 ⟨h.vr.relabel,h.free,h.tail.relabel⟩
theorem D4.relabel{G:Gh}{w:World}{f:Key→Key}{κ:Nat→Key}{arr:Array Value}{cs:List AV}(h:D4 G w κ arr cs):D4 (G.relabel f) w (fun j=>f (κ j)) arr cs:=
 ⟨h.1,fun j x v hx hv=>(h.2 j x v hx hv).relabel⟩
theorem Bw.relabel{G:Gh}{w:World}{f:Key→Key}{κ:Key}{κc:Nat→Key}{v:Value}{a:AV}(h:Bw G w κ κc v a):Bw (G.relabel f) w (f κ) (fun i=>f (κc i)) v a:=
 ⟨h.vr.relabel,h.tail.relabel,h.agg,fun cs vs e1 e2 i x u hx hu=>(h.comp cs vs e1 e2 i x u hx hu).relabel,h.comp2⟩
theorem Bw.rekey{G:Gh}{w:World}{κ κ':Key}{κc κc':Nat→Key}{v:Value}{a:AV}(h:Bw G w κ κc v a)(e1:κ=κ')(e2:∀i,κc i=κc' i):Bw G w κ' κc' v a:=by
 subst e1;obtain rfl:κc=κc':=funext e2;exact h
theorem D4.rekey{G:Gh}{w:World}{κ κ':Nat→Key}{arr:Array Value}{cs:List AV}(h:D4 G w κ arr cs)(e2:∀i,κ i=κ' i):D4 G w κ' arr cs:=by
 obtain rfl:κ=κ':=funext e2;exact h
theorem Bw.of_free{G:Gh}{w:World}{κ:Key}{κc:Nat→Key}{v:Value}{a:AV}(h:VR G v a)(ht:∀cs,a≠ .tup cs)(ho:a.own=false)(hg:∀cs,a= .agg cs→∀c∈cs,c.own=false):Bw G w κ κc v a:=
 ⟨h,.of_not ho,hg,fun cs _ e=>(ht cs e).elim,fun cs e=>(ht cs e).elim⟩
theorem Bw.undef{G:Gh}{w:World}{κ:Key}{κc:Nat→Key}(v:Value):Bw G w κ κc v .undef:=
 .of_free (.undef v) (by simp) rfl (by simp)
theorem Bw.of_cell1{G:Gh}{w:World}{κ:Key}{κc:Nat→Key}{v:Value}{a:AV}(h:VR G v a)(hc:a.cell1=true):Bw G w κ κc v a:=
 .of_free h (by rintro cs rfl;simp[AV.cell1,AV.free1] at hc) (AV.cell1.own hc) (by rintro cs rfl;simp[AV.cell1,AV.free1] at hc)
theorem Bw.of_agg{G:Gh}{w:World}{κ:Key}{κc:Nat→Key}{v:Value}{cs:List AV}(h:VR G v (.agg cs))(hc:∀c∈cs,c.own=false):Bw G w κ κc v (.agg cs):=
 .of_free h (by simp) rfl (by rintro _ ⟨⟩;exact hc)
theorem Bw.mkstrip{G:Gh}{w:World}{κ:Key}{κc:Nat→Key}{v:Value}{a:AV}(h:VR G v a)
  (h2:∀cs,a= .tup cs→∀x∈cs,∀ds,x≠ .tup ds):Bw G w κ κc v a.strip:=by
 refine⟨h.strip,?_,?_,?_,?_⟩
 ·refine .of_not ?_;cases a with
  |vs sz es r=>exact AV.own_strip1 (.vs sz es r)
  |_=>rfl
 ·intro cs hcs c hc;cases a with
  |agg ds=>
   simp only[AV.strip,AV.strip2,AV.agg.injEq] at hcs;subst hcs;simp only[List.mem_map] at hc;obtain⟨x,_,rfl⟩:=hc;exact AV.own_strip1 x
  |_=>simp[AV.strip,AV.strip2,AV.strip1] at hcs
 ·intro cs vs hcs hv i x u hx hu;cases a with
  |tup ds=>
   simp only[AV.strip,AV.tup.injEq] at hcs;subst hcs;simp only[List.getElem?_map,Option.map_eq_some_iff] at hx;obtain⟨y,hy,rfl⟩:=hx;refine .of_not ?_;cases y with
   |vs sz es r=>exact AV.own_strip1 (.vs sz es r)
   |_=>rfl
  |_=>simp[AV.strip,AV.strip2,AV.strip1] at hcs
 ·intro cs hcs x hx;cases a with
  |tup ds=>
   simp only[AV.strip,AV.tup.injEq] at hcs;subst hcs;simp only[List.mem_map] at hx;obtain⟨y,hy,rfl⟩:=hx;have hn:=h2 ds rfl y hy;cases y with
   |tup _=>exact(hn _ rfl).elim
   |agg es=>
    refine⟨?_,by simp[AV.strip2]⟩
    intro fs hfs c hc;simp only[AV.strip2,AV.agg.injEq] at hfs;subst hfs;simp only[List.mem_map] at hc;obtain⟨z,_,rfl⟩:=hc;exact AV.own_strip1 z
   |_=>exact⟨by simp[AV.strip2,AV.strip1],by simp[AV.strip2,AV.strip1]⟩
  |_=>simp[AV.strip,AV.strip2,AV.strip1] at hcs
theorem Bw.strip{G:Gh}{w:World}{κ κ':Key}{κc κc':Nat→Key}{v:Value}{a:AV}(h:Bw G w κ κc v a):Bw G w κ' κc' v a.strip:=
 .mkstrip h.vr fun cs e x hx=>(h.comp2 cs e x hx).2
def AN(E:Env)(f:Nat)(args:List AV)(S:St)(Q:AV→St→Prop):Prop:=
 (∃fn,E.P.funcs[f]? =some fn∧fn.body.isNone=false∧(fn.name== "runtime.NumGoroutine")=false)∧
 ∀G w,Rel E G w S→(∀b,(∃id,G.role b= .obj id)∨(∃id j,G.role b= .ocell id j)∨G.role b= .ext)→∀args':Array Value,args'.size=args.length→
  (∀(i:Nat) (x:AV) (v:Value),args[i]? =some x→args'[i]? =some v→VR G v x∧x.free=true∧x.strip=x)→
  Calls E.P f args' w fun e w'=>∃v r S' G',e= .returned v∧Q r S'∧Rel E G' w' S'∧Bw G' w' .ret .retc v r∧Kept G w G' w'∧
   ∀b,(∃id,G'.role b= .obj id)∨(∃id j,G'.role b= .ocell id j)∨G'.role b= .ext∨G'.role b= .ret∨∃i,G'.role b= .retc i
def aq:Value→AV→Bool
 | .int k n,.int k' m=>decide (k=k')&&decide (n=m)
 | .bool a,.bool b=>a==b
 | .string s,.str []=>s.data.toList.isEmpty
 | .pointer none,.nil=>true
 | .slice none 0 0,.vs _ [] .nil=>true
 | .map none,.map none=>true
 | .nilFunc,.nilfn=>true
 | .nilIface,.nilifc=>true
 |_,_=>false
def zOk:List Value→List AV→Bool
 |[],[]=>true
 |v::l,a::m=>aq v a&&zOk l m
 |_,_=>false
def Ea(P:Program):List Field→List (Nat×Nat×Nat)→Bool
 |[],[]=>true
 |f::l,p::m=>f.offset==p.1&&f.type==p.2.1&&(match P.info? f.type with|some i=>i.size==p.2.2|none=>false)&&Ea P l m
 |_,_=>false
def kindOk(P:Program):TypeDesc→TK→Bool
 | .struct fs,.struct gs=>Ea P fs.toList gs
 | .slice e,.slice e'=>e==e'
 | .array n e,.array n' e'=>n==n'&&e==e'
 | .map k e,.map k' e'=>k==k'&&e==e'
 | .string,.str=>true
 | .int k,.int k'=>decide (k=k')
 | .bool,.bool=>true
 | .pointer e,.ptr e'=>e==e'
 | .interface _,.iface=>true
 | .func ..,.func=>true
 |_,_=>false
def OZ:TypeDesc→Bool| .struct _| .array _ _=>true|_=>false
def O4(P:Program)(t:Nat)(ti:TI):Bool:=
 match P.info? t,P.underlying t with
 |some i,some d=>i.size==ti.size&&i.bytes==ti.bytes&&Nat.ble ti.bytes 1400&&Nat.ble ti.size 1400&&kindOk P d ti.kind&&ti.agg==OZ d&&(ti.id==0||ti.id==t)&&
  match i.zero with
  |some (.agg cs)=>OZ d&&cs.size==ti.size&&zOk cs.toList ti.zero
  |some v=>!OZ d&&ti.size==1&&zOk [v] ti.zero
  |none=>false
 |_,_=>false
theorem Z3{G:Gh}{v:Value}{a:AV}(h:aq v a=true):VR G v a∧a.cell1=true:=by
 unfold aq at h;split at h<;>(try (simp at h;done))<;>(try (simp at h))
 ·obtain⟨rfl,rfl⟩:=h;exact⟨.int _ _,rfl⟩
 ·subst h;exact⟨.bool _,rfl⟩
 ·rename_i s;refine⟨?_,rfl⟩;have:s=⟨([]:List UInt8).toArray⟩:=by
   cases s with
   |mk d=>simp at h;subst h;rfl
  rw[this];exact .str []
 ·exact⟨.nil,rfl⟩
 ·exact⟨.vsnil _,rfl⟩
 ·exact⟨.mapnil,rfl⟩
 ·exact⟨.nilfn,rfl⟩
 ·exact⟨.nilifc,rfl⟩
theorem KT:∀{l:List Value} {m:List AV},zOk l m=true→l.length=m.length∧∀(G:Gh) (i:Nat) (v:Value) (a:AV),l[i]? =some v→m[i]? =some a→VR G v a∧a.cell1=true
 |[],[],_=>⟨rfl,fun _ _ _ _ h=>by simp at h⟩
 |v::l,a::m,h=>by
  simp only[zOk,Bool.and_eq_true] at h;obtain⟨h1,h2⟩:=KT h.2;refine⟨by simp[h1],fun G i u b hu hb=>?_⟩
  cases i with
  |zero=>simp at hu hb;subst hu hb;exact Z3 h.1
  |succ i=>exact h2 G i u b (by simpa using hu) (by simpa using hb)
 |[],_::_,h=>by simp[zOk] at h
 |_::_,[],h=>by simp[zOk] at h
structure Jl(P:Program)(t:Nat)(ti:TI):Prop where
 ex:∃i z d,P.info? t=some i∧i.size=ti.size∧i.bytes=ti.bytes∧i.zero=some z∧P.underlying t=some d∧kindOk P d ti.kind=true∧ti.agg=OZ d∧z.cells.size=ti.size∧zOk z.cells.toList ti.zero=true∧
  (∀G,VR G z (Jg ti))
 bytes:ti.bytes≤1400
 id:ti.id≠0→ti.id=t
 cells:ti.size≤1400
 len:ti.zero.length=ti.size
 cell:∀a∈ti.zero,a.cell1=true
theorem Sq{P:Program}{t:Nat}{ti:TI}(h:O4 P t ti=true):Jl P t ti:=by
 unfold O4 at h;split at h
 case h_2=>cases h
 rename_i i d hi hd;simp only[Bool.and_eq_true,beq_iff_eq] at h;obtain⟨⟨⟨⟨⟨⟨⟨h1,h2⟩,h3⟩,h3'⟩,h4⟩,h5⟩,h7⟩,h6⟩:=h;have hid:ti.id≠0→ti.id=t:=fun e=>by
  simp only[Bool.or_eq_true,beq_iff_eq] at h7;exact h7.resolve_left e
 have key:∃z,i.zero=some z∧z.cells.size=ti.size∧zOk z.cells.toList ti.zero=true∧∀G,VR G z (Jg ti):=by
  split at h6
  ·rename_i cs hz;simp only[Bool.and_eq_true,beq_iff_eq] at h6;refine⟨_,hz,h6.1.2,h6.2,fun G=>?_⟩
   have:=KT h6.2;simp only[Jg,h5,h6.1.1,if_true];refine .agg _ _ (by simpa using this.1) fun i x v hx hv=>(this.2 G i v x (by simpa using hv) hx).1
  ·rename_i v hn hz;simp only[Bool.and_eq_true,Bool.not_eq_true',beq_iff_eq] at h6;have hc:v.cells=#[v]:=by cases v<;>first|rfl|(rename_i cs;exact(hn cs rfl).elim)
   refine⟨v,hz,by rw[hc];simp[h6.1.2],by rw[hc];exact h6.2,fun G=>?_⟩
   have:=KT h6.2;simp only[Jg,h5,h6.1.1];cases hzz:ti.zero with
   |nil=>rw[hzz] at this;simp at this
   |cons a l=>
    rw[hzz] at this;exact(this.2 G 0 v a rfl rfl).1
  ·cases h6
 obtain⟨z,hz,k1,k2,k3⟩:=key;have k:=KT k2;refine⟨⟨i,z,d,hi,h1,h2,hz,hd,h4,h5,k1,k2,k3⟩,Nat.le_of_ble_eq_true h3,hid,Nat.le_of_ble_eq_true h3',by rw[←k.1];simpa using k1,fun a ha=>?_⟩
 obtain⟨j,hj⟩:=List.getElem?_of_mem ha;have hlt:j < z.cells.toList.length:=by rw[k.1];exact(List.getElem?_eq_some_iff.1 hj).1
 exact(k.2 ⟨fun _ _=>none,fun _=>none,fun _=>.ext,fun _=>0⟩ j _ a (List.getElem?_eq_getElem hlt) hj).2
structure Agree(E:Env):Prop where
 ty:∀t,E.C.has t=true→Jl E.P t (E.C.ty t)
 eq:∀t,E.C.eqk t=true→∀G v u xs ys b,VR G v (.agg xs)→VR G u (.agg ys)→Aw (E.C.ty t).zero xs=true→BZ xs ys=some b→∀w,(Op.equal t v u).run E.P w= .ok b w
 eqg:∀t,E.C.eqk t=true→∀op x y v u w,(eqGuard op t x y (.agg v) (.agg u)).run E.P w= .ok () w
 key:∀t,E.C.eqk t=true→∀G v xs,VR G v (.agg xs)→Aw (E.C.ty t).zero xs=true→∀e w,(Instr.checkKey e 10000 t v).run E.P w= .ok () w
 meth:∀t m g,E.C.meth t m=some g→∀v w,(method (E.P.types.size+Made.depth) t v m).run E.P w= .ok (g,v) w
theorem JF{P:Program}:∀{l:List Field} {m:List (Nat×Nat×Nat)},Ea P l m=true→l.length=m.length∧∀(i:Nat) (p:Nat×Nat×Nat),m[i]? =some p→
  ∃f inf,l[i]? =some f∧f.offset=p.1∧f.type=p.2.1∧P.info? f.type=some inf∧inf.size=p.2.2
 |[],[],_=>⟨rfl,fun _ _ h=>by simp at h⟩
 |f::l,p::m,h=>by
  simp only[Ea,Bool.and_eq_true,beq_iff_eq] at h;obtain⟨⟨⟨h1,h2⟩,h3⟩,h4⟩:=h;obtain⟨k1,k2⟩:=JF h4;refine⟨by simp[k1],fun i q hq=>?_⟩
  cases i with
  |zero=>
   simp at hq;subst hq;split at h3
   ·rename_i inf hinf;exact⟨f,inf,rfl,h1,h2,hinf,by simpa using h3⟩
   ·cases h3
  |succ i=>simpa using k2 i q (by simpa using hq)
 |[],_::_,h=>by simp[Ea] at h
 |_::_,[],h=>by simp[Ea] at h
theorem Cs{C:Ctx}{f:Nat}:∀{l:List Oper} {x b off:Nat},AD C f x l=some (b,off)→C.loc f b=true
 |[],x,b,off,h=>by
  simp only[AD] at h;split at h
  ·rename_i hl;cases h;exact hl
  ·cases h
 |o::l,x,b,off,h=>by
  simp only[AD] at h;split at h
  ·rename_i hl;cases h;exact hl
  ·split at h
   ·unfold BF at h;split at h
    ·split at h
     ·rename_i h1 h2;cases h;exact Cs h1
     ·cases h
    ·split at h
     ·split at h
      ·rename_i h1 h2 _ _;cases h;exact Cs h1
      ·cases h
     ·cases h
    ·exact Cs h
    ·exact Cs h
    ·cases h
   ·split at h
    ·rename_i h1;split at h
     ·cases h
     ·cases h;exact Cs h1
    ·cases h
abbrev Act.at(a:Act)(t:Nat):Value:=a.tmps.getD t undef
structure FrR(E:Env)(f n:Nat)(G:Gh)(w:World)(a:Act)(fr:Fr):Prop where
 defers:a.defers=[]
 size:n≤a.tmps.size
 slot:∀t,Bw G w (.slot t) (.slotc t) (Act.at a t) (fr.v t)
 box:∀t cs,fr.b t=some cs→E.C.loc f t=true∧∃b arr e,Act.at a t= .pointer (some ⟨b,0,none⟩)∧G.role b= .lbox t∧w.heap[b]? =some (.cells arr e (0,0))∧D4 G w (.bcell t) arr cs
def E4(a:Act)(fr:Fr)(b off:Nat)(v:Value):Prop:=
 ∀cs,fr.b b=some cs→∃blk,Act.at a b= .pointer (some ⟨blk,0,none⟩)∧v= .pointer (some ⟨blk,off,none⟩)
def PR(C:Ctx)(f:Nat)(before:List Oper)(a:Act)(fr:Fr):Prop:=
 ∀x b off,AD C f x before=some (b,off)→E4 a fr b off (Act.at a x)
structure RF(E:Env)(f n:Nat)(Gs:Gh)(ws:World)(G:Gh)(w:World)(S:St)(a:Act)(fr:Fr)(before:List Oper):Prop where
 rel:Rel E G w S
 frr:FrR E f n G w a fr
 kept:Kept Gs ws G w
 pr:PR E.C f before a fr
theorem Act.at_put{a:Act}{n:Nat}(hs:n≤a.tmps.size){dst:Option Nat}{v:Value}(hd:∀d,dst=some d→d < n)(t:Nat):
  Act.at (a.put dst v) t=if dst=some t then v else Act.at a t:=by
 cases dst with
 |none=>simp[Act.put,Act.at]
 |some d=>
  have h1:=hd d rfl;simp only[Act.put,Act.at,Option.some.injEq]
  by_cases h:d=t
  ·subst h;have hlt:d < a.tmps.size:=Nat.lt_of_lt_of_le h1 hs;simp[hlt]
  ·simp[h]
theorem Act.size_put{a:Act}{dst:Option Nat}{v:Value}:(a.put dst v).tmps.size=a.tmps.size:=by
 cases dst<;>simp[Act.put]
theorem Act.defers_put{a:Act}{dst:Option Nat}{v:Value}:(a.put dst v).defers=a.defers:=by
 cases dst<;>simp[Act.put]
theorem Fr.v_put{fr:Fr}{dst:Option Nat}{x:AV}(t:Nat):(fr.put dst x).v t=if dst=some t then x else fr.v t:=by
 cases dst with
 |none=>simp[Fr.put]
 |some d=>simp only[Fr.put,Fr.set,Option.some.injEq];by_cases h:t=d<;>simp[h,eq_comm]
theorem Fr.b_put{fr:Fr}{dst:Option Nat}{x:AV}(t:Nat):(fr.put dst x).b t=fr.b t:=by cases dst<;>rfl
theorem Ej{o:Oper}{x:Nat}:C6 o x=true↔o.dst=some x:=by
 unfold C6;cases o.dst<;>simp
section
variable {E:Env} {f n:Nat} {Gs G:Gh} {ws w:World} {S:St} {a:Act} {fr:Fr} {before:List Oper}
theorem FrR.put(h:FrR E f n G w a fr){dst:Option Nat}{v:Value}{x:AV}(hd:∀d,dst=some d→d < n∧E.C.loc f d=false)
  (hv:∀d,dst=some d→Bw G w (.slot d) (.slotc d) v x):FrR E f n G w (a.put dst v) (fr.put dst x):=by
 have hat:=fun t=>Act.at_put h.size (v:=v) (fun d e=>(hd d e).1) t
 refine⟨by rw[Act.defers_put];exact h.defers,by rw[Act.size_put];exact h.size,fun t=>?_,fun t cs hb=>?_⟩
 ·rw[hat,Fr.v_put]
  by_cases e:dst=some t
  ·simp only[e,if_true];exact hv t e
  ·simp only[e,if_false];exact h.slot t
 ·rw[Fr.b_put] at hb;obtain⟨h1,h2⟩:=h.box t cs hb;refine⟨h1,?_⟩;have:dst≠some t:=fun e=>by have:=(hd t e).2;rw[h1] at this;cases this
  rw[hat];simp only[this,if_false];exact h2
theorem PR.put(hs:n≤a.tmps.size)(h:PR E.C f before a fr)(hbox:∀t cs,fr.b t=some cs→∃b,Act.at a t= .pointer (some ⟨b,0,none⟩)){o:Oper}{v:Value}{x:AV}(hd:∀d,o.dst=some d→d < n∧E.C.loc f d=false)
  (hp:∀d,o.dst=some d→∀b off,BF E.C (fun y=>AD E.C f y before) o.op=some (b,off)→E4 a fr b off v):
  PR E.C f (o::before) (a.put o.dst v) (fr.put o.dst x):=by
 intro x' b off hr;have hat:=fun t=>Act.at_put hs (v:=v) (fun d e=>(hd d e).1) t
 have hloc:=Cs hr;have hbd:o.dst≠some b:=fun e=>by have:=(hd b e).2;rw[hloc] at this;cases this
 intro cs hcs;rw[Fr.b_put] at hcs;rw[hat b,hat x'];simp only[hbd,if_false];simp only[AD] at hr;split at hr
 ·cases hr;obtain⟨blk,hb⟩:=hbox _ _ hcs;simp only[hbd,if_false];exact⟨blk,hb,hb⟩
 ·split at hr
  ·rename_i hde;rw[Ej] at hde;simp only[hde,if_true];exact hp x' hde b off hr cs hcs
  ·rename_i hde;have hne:o.dst≠some x':=fun e=>by rw[Ej.2 e] at hde;cases hde
   simp only[hne,if_false];split at hr
   ·rename_i h1;split at hr
    ·cases hr
    ·cases hr;exact h _ _ _ h1 cs hcs
   ·cases hr
theorem RF.hbox(h:RF E f n Gs ws G w S a fr before):∀t cs,fr.b t=some cs→∃b,Act.at a t= .pointer (some ⟨b,0,none⟩):=fun t cs e=>by
 obtain⟨_,b,_,_,hb,_⟩:=h.frr.box t cs e;exact⟨b,hb⟩
theorem RF.put(h:RF E f n Gs ws G w S a fr before){o:Oper}{v:Value}{x:AV}(hd:∀d,o.dst=some d→d < n∧E.C.loc f d=false)
  (hv:∀d,o.dst=some d→Bw G w (.slot d) (.slotc d) v x)
  (hp:∀d,o.dst=some d→∀b off,BF E.C (fun y=>AD E.C f y before) o.op=some (b,off)→E4 a fr b off v):
  RF E f n Gs ws G w S (a.put o.dst v) (fr.put o.dst x) (o::before):=
 ⟨h.rel,h.frr.put hd hv,h.kept,h.pr.put h.frr.size h.hbox hd hp⟩
structure Moves(x:Nat)(g:Key→Key):Prop where
 fix:∀κ,κ≠ .slot x→(∀i,κ≠ .slotc x i)→g κ=κ
 obj:∀κ id,g κ= .obj id→κ= .obj id
 lbox:∀κ t,g κ= .lbox t→κ= .lbox t
theorem Rel.relabel{g:Key→Key}(h:Rel E G w S)(h1:g .ext= .ext)(h2:∀κ id,g κ= .obj id→κ= .obj id)(h3:∀κ t,g κ= .lbox t→κ= .lbox t)(h4:∀id,g (.obj id)= .obj id)
    (h5:∀id j,g (.ocell id j)= .ocell id j):Rel E (G.relabel g) w S:=
  ⟨h.os,h.tape,h.output,h.size,fun b hb=>⟨(h.old b hb).1,by simp only[Gh.relabel,(h.old b hb).2,h1]⟩,h.imm,fun b hb=>by simp only[Gh.relabel,h.role b hb,h1],
   fun b hb o=>h.noimm b (hb.imp (fun⟨id,e⟩=>⟨id,h2 _ _ e⟩) (fun⟨t,e⟩=>⟨t,h3 _ _ e⟩)) o,h.rho,h.len,fun id o ho=>by
    have:=h.obj id o ho;cases o with
    | cells cs t =>
      obtain⟨b,arr,e,hr,hb,hh,hrow,htg⟩:=this;exact⟨b,arr,e,hr,by simp only[Gh.relabel,hb,h4],hh,hrow.relabel.rekey fun j=>h5 id j,htg⟩
    | map m =>
      obtain⟨b,es,clk,hr,hb,hh,hs,he⟩:=this;exact⟨b,es,clk,hr,by simp only[Gh.relabel,hb,h4],hh,hs,fun i e p e1 e2=>GE.mono (G:=G) (G':=G.relabel g) ⟨fun _ _ _ h=>h,fun _ _ h=>h,fun _=>Nat.le_refl _⟩ (he i e p e1 e2)⟩
    | bld T e l =>
      refine Sz.keep (G:=G) (w:=w) (fun b hb=>hb) (fun b hb hlt=>⟨?_,rfl,fun _=>rfl⟩) this
      rcases hb with hb|hb
      · simp only[Gh.relabel,hb,h4]
      · simp only[Gh.relabel,hb,h5]
    |dead=>trivial⟩
theorem Kept.relabel{g:Key→Key}(h:Kept Gs ws G w)(h1:g .ext= .ext):Kept Gs ws (G.relabel g) w:=
 ⟨⟨fun b o v e=>h.le.imm b o v e,fun i b e=>h.le.rho i b e,fun b=>h.le.len b⟩,h.size,fun b hb hr=>by
  obtain⟨k1,k2,k3⟩:=h.keep b hb hr;have:Gs.role b= .ext:=by simpa using hr
  exact⟨k1,by simp only[Gh.relabel,k2,this,h1],k3⟩⟩
theorem Moves.id(x:Nat):Moves x id:=⟨fun _ _ _=>rfl,fun _ _ h=>h,fun _ _ h=>h⟩
theorem RF.stripAt(h:RF E f n Gs ws G w S a fr before){x:Nat}{g:Key→Key}(hg:Moves x g):
  RF E f n Gs ws (G.relabel g) w S a (fr.set x (fr.v x).strip) before∧Bw (G.relabel g) w (g (.slot x)) (fun i=>g (.slotc x i)) (Act.at a x) (fr.v x):=by
 have fx:∀κ,κ≠ .slot x→(∀i,κ≠ .slotc x i)→g κ=κ:=hg.fix;refine⟨⟨h.rel.relabel (fx _ (by simp) (by simp)) hg.obj hg.lbox (fun _=>fx _ (by simp) (by simp)) (fun _ _=>fx _ (by simp) (by simp)),⟨h.frr.defers,h.frr.size,fun t=>?_,fun t cs hb=>?_⟩,
  h.kept.relabel (fx _ (by simp) (by simp)),fun y b off hr cs hb=>h.pr y b off hr cs hb⟩,(h.frr.slot x).relabel⟩
 ·simp only[Fr.set]
  by_cases e:t=x
  ·subst e;simp only[if_true];exact((h.frr.slot t).relabel (f:=g)).strip
  ·simp only[e,if_false];exact((h.frr.slot t).relabel (f:=g)).rekey (fx _ (by simpa using e) (by simp)) (fun i=>fx _ (by simp) (by simp[e]))
 ·obtain⟨h1,b,arr,e,h2,h3,h4,h5⟩:=h.frr.box t cs hb;exact⟨h1,b,arr,e,h2,by simp only[Gh.relabel,h3];exact fx _ (by simp) (by simp),h4,h5.relabel.rekey fun j=>fx _ (by simp) (by simp)⟩
def mvSlot(x d:Nat):Key→Key
 | .slot t=>if t=x then .slot d else .slot t
 | .slotc t i=>if t=x then .slotc d i else .slotc t i
 |κ=>κ
theorem Moves.mvSlot(x d:Nat):Moves x (mvSlot x d):=by
 refine⟨fun κ h1 h2=>?_,fun κ id h=>?_,fun κ t h=>?_⟩
 ·cases κ<;>simp_all [Av.mvSlot]
 ·cases κ<;>simp_all [Av.mvSlot]<;>(split at h<;>cases h)
 ·cases κ<;>simp_all [Av.mvSlot]<;>(split at h<;>cases h)
def mvKey(x:Nat)(κ:Key):Key→Key
 | .slot t=>if t=x then κ else .slot t
 |κ=>κ
theorem Moves.mvKey(x:Nat){κ:Key}(h1:∀id,κ≠ .obj id)(h2:∀t,κ≠ .lbox t):Moves x (mvKey x κ):=by
 refine⟨fun κ' a b=>?_,fun κ' id h=>?_,fun κ' t h=>?_⟩
 ·cases κ'<;>simp_all [Av.mvKey]
 ·cases κ'<;>simp_all [Av.mvKey]<;>(split at h<;>simp_all)
 ·cases κ'<;>simp_all [Av.mvKey]<;>(split at h<;>simp_all)
theorem V4(C:Ctx)(G:Gh)(t:Nat)(v:Value):VR G v (ofConst C t v)∧(ofConst C t v= .undef∨(ofConst C t v).cell1=true):=by
 cases v with
 |int k m=>exact⟨.int k m,.inr rfl⟩
 |bool b=>exact⟨.bool b,.inr rfl⟩
 |string s=>exact⟨.str s.data.toList,.inr rfl⟩
 |pointer p=>cases p with|none=>exact⟨.nil,.inr rfl⟩|some p=>exact⟨.undef _,.inl rfl⟩
 |slice p l c=>
  unfold ofConst;split<;>(try exact⟨.undef _,.inl rfl⟩)
  all_goals (try (rename_i h;cases h))
  split
  ·exact⟨.vsnil _,.inr rfl⟩
  ·exact⟨.undef _,.inl rfl⟩
 |map p=>cases p with|none=>exact⟨.mapnil,.inr rfl⟩|some p=>exact⟨.undef _,.inl rfl⟩
 |nilFunc=>exact⟨.nilfn,.inr rfl⟩
 |nilIface=>exact⟨.nilifc,.inr rfl⟩
 |_=>exact⟨.undef _,.inl rfl⟩
theorem Bw.ofConst(C:Ctx){G:Gh}{w:World}{κ:Key}{κc:Nat→Key}(t:Nat)(v:Value):Bw G w κ κc v (ofConst C t v):=by
 obtain⟨h1,h2|h2⟩:=V4 C G t v
 ·rw[h2];exact .undef _
 ·exact .of_cell1 h1 h2
theorem Bw.func{G:Gh}{w:World}{κ:Key}{κc:Nat→Key}(g:Nat):Bw G w κ κc (.func (.func g) #[] #[]) (.fn g [] []):=
 .of_cell1 (.fn g [] [] #[] #[] rfl rfl (by simp) (by simp)) rfl
theorem RF.takeTo(h:RF E f n Gs ws G w S a fr before)(x:Operand)(t d:Nat):
  ∃G',RF E f n Gs ws G' w S a (fr.stripAt x) before∧G.Le G'∧Bw G' w (.slot d) (.slotc d) (a.eval x) (opd E.C fr t x):=by
 cases x with
 |tmp x=>
  obtain⟨h1,h2⟩:=h.stripAt (Moves.mvSlot x d);exact⟨_,h1,⟨fun _ _ _ h=>h,fun _ _ h=>h,fun _=>Nat.le_refl _⟩,h2.rekey (by simp[mvSlot]) (fun i=>by simp[mvSlot])⟩
 |const v=>exact⟨G,h,.refl G,.ofConst _ t v⟩
 |func g=>exact⟨G,h,.refl G,.func g⟩
 |global g=>exact⟨G,h,.refl G,.undef _⟩
theorem FrR.opd(h:FrR E f n G w a fr)(t:Nat)(x:Operand):∃κ κc,Bw G w κ κc (a.eval x) (Av.opd E.C fr t x):=by
 cases x with
 |tmp x=>exact⟨_,_,h.slot x⟩
 |const v=>exact⟨.ext,fun _=>.ext,.ofConst _ t v⟩
 |func g=>exact⟨.ext,fun _=>.ext,.func g⟩
 |global g=>exact⟨.ext,fun _=>.ext,.undef _⟩
theorem FrR.opdV(h:FrR E f n G w a fr)(t:Nat)(x:Operand):VR G (a.eval x) (Av.opd E.C fr t x):=by
 obtain⟨_,_,k⟩:=h.opd t x;exact k.vr
theorem FrR.opdStrip(h:FrR E f n G w a fr)(t:Nat)(x:Operand){κ:Key}{κc:Nat→Key}:Bw G w κ κc (a.eval x) (Av.opd E.C fr t x).strip:=by
 obtain⟨_,_,k⟩:=h.opd t x;exact k.strip
end
variable {E:Env} {f n:Nat} {Gs G:Gh} {ws w:World} {S:St} {a:Act} {fr:Fr} {before:List Oper}
theorem KC{w:World}{b j:Nat}{arr:Array Value}{e:TypeId}{fz:Nat×Nat}(h:w.heap[b]? =some (.cells arr e fz)):w.cell? ⟨b,j,none⟩=arr[j]?:=cell_of_row w b j arr e fz h
theorem D4.get{κ:Nat→Key}{arr:Array Value}{cs:List AV}(h:D4 G w κ arr cs){j:Nat}{x:AV}(hx:cs[j]? =some x):∃v,arr[j]? =some v∧H5 G w (κ j) v x:=by
 have hj:j < cs.length:=(List.getElem?_eq_some_iff.1 hx).1;have hj':j < arr.size:=Nat.lt_of_lt_of_le hj h.1;exact⟨arr[j],by simp[hj'],h.2 j x _ hx (by simp[hj'])⟩
theorem R4(A:Agree E){t:Nat}(ht:E.C.has t=true)(w:World):(isAgg t).run E.P w= .ok (E.C.ty t).agg w:=by
 obtain⟨i,z,d,h1,h2,h3,h4,h5,h6,h7,_⟩:=(A.ty t ht).ex;unfold isAgg;rw[Sem.run_bind,run_underlying h5 w,h7];cases d<;>rfl
theorem run_sizeOf(A:Agree E){t:Nat}(ht:E.C.has t=true)(w:World):(sizeOf t).run E.P w= .ok (E.C.ty t).size w:=by
 obtain⟨i,z,d,h1,h2,_⟩:=(A.ty t ht).ex;simp[sizeOf,typeInfo,h1,h2]
theorem PU(A:Agree E){t:Nat}(ht:E.C.has t=true){cs:List AV}{b o:Nat}{g:Nat→Value}
  (hc:∀(j:Nat) (x:AV),cs[j]? =some x→w.cell? ⟨b,o+j,none⟩=some (g j)∧VR G (g j) x) {off:Nat} {x:AV} (h:IE (E.C.ty t) cs off=some x):
  ∃v,(loadVar t ⟨b,o+off,none⟩).run E.P w= .ok v w∧VR G v x∧((cs[off]? =some x∧v=g off)∨∃ds,x= .agg ds∧ds.length=(E.C.ty t).size∧∀c∈ds,c∈cs):=by
 unfold IE at h;have hagg:=R4 A ht w;unfold loadVar;rw[Sem.run_bind,hagg];cases hk:(E.C.ty t).agg with
 |false=>
  simp only[hk,Bool.false_eq_true,if_false] at h;obtain⟨h1,h2⟩:=hc off x h;exact⟨g off,by simp[Result.andThen,h1],h2,.inl ⟨h,rfl⟩⟩
 |true=>
  simp only[hk,if_true] at h;split at h
  ·rename_i hle;simp only[Option.some.injEq] at h;subst h;have hcell:∀j,j < (E.C.ty t).size→w.cell? ((⟨b,o+off,none⟩:Addr).add j)=some (g (off+j)):=fun j hj=>by
    have hlt:off+j < cs.length:=by omega
    rw[Addr.add_lit,Nat.add_assoc];exact(hc (off+j) cs[off+j] (List.getElem?_eq_getElem hlt)).1
   have hl:=run_loadCells (P:=E.P) w ⟨b,o+off,none⟩ (E.C.ty t).size (fun j=>g (off+j)) hcell
   refine⟨.agg ((List.range (E.C.ty t).size).map fun j=>g (off+j)).toArray,?_,?_,.inr ⟨_,rfl,?_,?_⟩⟩
   ·simp only[Result.andThen_ok,if_true,Sem.run_bind,run_sizeOf A ht,hl];rfl
   ·refine .agg _ _ (by simp;omega) fun i y v hy hv=>?_
    simp only[List.getElem?_take,List.getElem?_drop] at hy;split at hy
    ·rename_i hi;have:v=g (off+i):=by simpa[hi] using hv.symm
     rw[this];exact(hc _ _ hy).2
    ·cases hy
   ·simp;omega
   ·intro c hcm;exact List.mem_of_mem_drop (List.mem_of_mem_take hcm)
  ·cases h
theorem Rel.cells(h:Rel E G w S){id:Nat}{cs:List AV}(hs:Co S id=some cs):∃b arr e,S[id]? =some (.cells cs (Hr S id))∧G.rho id=some b∧G.role b= .obj id∧w.heap[b]? =some (.cells arr e (0,0))∧D4 G w (.ocell id) arr cs∧Tagged (Hr S id) e arr cs.length:=by
 unfold Co at hs;split at hs
 ·rename_i cs' t hcs;simp only[Option.some.injEq] at hs;subst hs;obtain⟨b,arr,e,h1,h2,h3,h4,h5⟩:=h.obj id _ hcs;have ht:Hr S id=t:=by simp[Hr,hcs]
  rw[ht];exact⟨b,arr,e,hcs,h1,h2,h3,h4,h5⟩
 ·cases hs
theorem D4.reads{κ:Nat→Key}{arr:Array Value}{cs:List AV}(h:D4 G w κ arr cs){b:Nat}{e:TypeId}{fz:Nat×Nat}(hb:w.heap[b]? =some (.cells arr e fz)):
  ∀(j:Nat) (x:AV),cs[j]? =some x→w.cell? ⟨b,0+j,none⟩=some (arr.getD j undef)∧VR G (arr.getD j undef) x:=by
 intro j x hx;obtain⟨v,hv,hr⟩:=h.get hx;rw[Nat.zero_add,KC hb,hv];have:arr.getD j undef=v:=by simp[Array.getD_eq_getD_getElem?,hv]
 rw[this];exact⟨rfl,hr.vr⟩
theorem XY(A:Agree E)(h:Rel E G w S){t:Nat}(ht:E.C.has t=true){p:Value}{pa x:AV}(hp:VR G p pa)(hl:Ap (E.C.ty t) S pa=some x):
  ∃v,(Instr.loadAt t p).run E.P w= .ok v w∧VR G v x∧((∃ds,x= .agg ds)∨(x.cell1=true)∨
   ∃id off cs b arr e,pa= .ptr id off∧S[id]? =some (.cells cs (Hr S id))∧cs[off]? =some x∧G.rho id=some b∧G.role b= .obj id∧w.heap[b]? =some (.cells arr e (0,0))∧D4 G w (.ocell id) arr cs∧arr[off]? =some v):=by
 cases hp with
 |ptr id off b hr=>
  simp only[Ap,Option.bind_eq_some_iff] at hl;obtain⟨cs,hcs,hrd⟩:=hl;obtain⟨b',arr,e,k1,k2,k3,k4,k5,_⟩:=h.cells hcs;rw[hr] at k2;cases k2;obtain⟨v,h1,h2,h3⟩:=PU A ht (k5.reads k4) hrd;refine⟨v,by simpa[Instr.loadAt,Instr.sureAddr] using h1,h2,?_⟩
  rcases h3 with ⟨h3,h4⟩|⟨ds,h3,_⟩
  ·obtain⟨u,hu,_⟩:=k5.get h3;refine .inr (.inr ⟨id,off,cs,b,arr,e,rfl,k1,h3,hr,k3,k4,k5,?_⟩);rw[hu,h4];simp[Array.getD_eq_getD_getElem?,hu]
  ·exact .inl ⟨ds,h3⟩
 |ep cs b o off g hc hi h2=>
  simp only[Ap] at hl;have hcs:∀(j:Nat) (x:AV),cs[j]? =some x→w.cell? ⟨b,o+j,none⟩=some (g j)∧VR G (g j) x:=fun j x hx=>⟨h.imm _ _ _ (hi j x hx),h2 j x hx⟩
  obtain⟨v,h1,h2,h3⟩:=PU A ht hcs hl;refine⟨v,by simpa[Instr.loadAt,Instr.sureAddr] using h1,h2,?_⟩
  rcases h3 with ⟨h3,h4⟩|⟨ds,h3,_⟩
  ·exact .inr (.inl (hc x (List.mem_of_getElem? h3)))
  ·exact .inl ⟨ds,h3⟩
 |_=>simp[Ap] at hl
theorem Bw.loaded{κ:Key}{κc:Nat→Key}{v:Value}{x:AV}(h:VR G v x)(hf:x.free1=true∨∃ds,x= .agg ds):Bw G w κ κc v x.strip:=by
 refine .mkstrip h ?_;rintro cs rfl;rcases hf with hf|⟨ds,hf⟩
 ·simp[AV.free1] at hf
 ·cases hf
theorem J5{cs xs:List AV}{off:Nat}(h:off+xs.length≤cs.length):(De cs off xs).length=cs.length:=by
 simp[De];omega
theorem Dg{α:Type}(l xs:List α)(off j:Nat)(h:off+xs.length≤l.length):
  (l.take off++xs++l.drop (off+xs.length))[j]? =if off≤j∧j < off+xs.length then xs[j - off]? else l[j]?:=by
 have hto:(l.take off).length=off:=by simp;omega
 by_cases h1:j < off
 ·rw[List.append_assoc,List.getElem?_append_left (by rw[hto];exact h1),List.getElem?_take,if_pos h1,if_neg (by omega)]
 ·by_cases h2:j < off+xs.length
  ·rw[List.getElem?_append_left (by rw[List.length_append,hto];exact h2),List.getElem?_append_right (by rw[hto];omega),hto,if_pos ⟨by omega,h2⟩]
  ·rw[List.getElem?_append_right (by rw[List.length_append,hto];omega),List.length_append,hto,List.getElem?_drop,if_neg (by omega)]
   congr 1;omega
theorem D4.write{κ:Nat→Key}{arr:Array Value}{cs:List AV}(h:D4 G w κ arr cs){off:Nat}{vs:List Value}{xs:List AV}(hl:vs.length=xs.length)(hb:off+xs.length≤cs.length)
  (hx:∀(j:Nat) (x:AV) (v:Value),xs[j]? =some x→vs[j]? =some v→H5 G w (κ (off+j)) v x):
  D4 G w κ (arr.toList.take off++vs++arr.toList.drop (off+vs.length)).toArray (De cs off xs):=by
 have hba:off+vs.length≤arr.toList.length:=by have:=h.1;simp;omega
 refine⟨?_,fun j x v hj hv=>?_⟩
 ·rw[J5 hb];have:=h.1;simp only[List.size_toArray,List.length_append,List.length_take,List.length_drop,Array.length_toList] at*;omega
 ·rw[List.getElem?_toArray,Dg _ _ _ _ hba] at hv;rw[De,Dg _ _ _ _ hb] at hj;rw[hl] at hv
  by_cases e:off≤j∧j < off+xs.length
  ·rw[if_pos e] at hj hv;have:=hx (j - off) x v hj hv
   rwa [show off+(j - off)=j by omega] at this
  ·rw[if_neg e] at hj hv;exact h.2 j x v hj (by simpa using hv)
theorem D4.strip{κ κ':Nat→Key}{arr:Array Value}{cs:List AV}(h:D4 G w κ arr cs)(off:Nat)(hk:∀j,j≠off→κ j=κ' j):D4 G w κ' arr (cs.modify off AV.strip1):=by
 refine⟨by simpa using h.1,fun j x v hj hv=>?_⟩
 rw[List.getElem?_modify] at hj
 by_cases e:off=j
 ·subst e;simp only[if_true] at hj;cases hc:cs[off]? with
  |none=>rw[hc] at hj;cases hj
  |some y=>
   rw[hc] at hj;simp at hj;subst hj;have:=h.2 off y v hc hv;exact⟨this.vr.strip1,by rw[AV.free1_strip1];exact this.free,.of_not (AV.own_strip1 y)⟩
 ·simp only[e,if_false] at hj;have:(fun a=>a) <$> cs[j]? =cs[j]?:=by cases cs[j]?<;>rfl
  rw[this] at hj;rw[←hk j (fun e'=>e e'.symm)]
  exact h.2 j x v hj hv
theorem Chg.setRow{b:Nat}{κ:Key}(hr:G.role b=κ)(arr:Array Value):Chg (·=κ) G w G (w.setRow b arr):=
 ⟨.refl G,by simp,fun k _ hk=>⟨setRow_other w b k arr (fun e=>hk (by rw[e];exact hr)),rfl,fun _=>rfl⟩⟩
theorem Rel.setRow(h:Rel E G w S){b:Nat}{κ:Key}(hr:G.role b=κ)(hκ:(∃id,κ= .obj id)∨∃t,κ= .lbox t){arr0 arr:Array Value}{e:TypeId}{fz:Nat×Nat}(hb:w.heap[b]? =some (.cells arr0 e fz))(hsz:arr.size=arr0.size)
  (S':St) (hl:S'.length=S.length) (ho:∀id o,S'[id]? =some o→S[id]? =some o∧κ≠ .obj id∨T4 G (w.setRow b arr) id o):Rel E G (w.setRow b arr) S':=by
 have hne:κ≠ .ext:=by rcases hκ with ⟨id,rfl⟩|⟨t,rfl⟩<;>simp
 have hold:∀k,k≠b→(w.setRow b arr).heap[k]? =w.heap[k]?:=fun k hk=>setRow_other w b k arr hk
 have hni:∀o,G.imm b o=none:=h.noimm b (by rcases hκ with ⟨id,rfl⟩|⟨t,rfl⟩;exact .inl ⟨id,hr⟩;exact .inr ⟨t,hr⟩)
 refine⟨h.os,h.tape,h.output,by simpa using h.size,fun k hk=>⟨?_,(h.old k hk).2⟩,fun k o v hv=>?_,fun k hk=>h.role k (by simpa using hk),h.noimm,fun id k hk=>?_,fun k hk=>?_,fun id o hi=>?_⟩
 ·rw[hold k (fun e=>hne (by rw[←hr,←e];exact(h.old k hk).2))];exact(h.old k hk).1
 ·have hkb:k≠b:=by rintro rfl;rw[hni o] at hv;cases hv
  rw[←h.imm k o v hv];simp only[World.cell?,hold k hkb]
 ·have:=h.rho id k hk;exact⟨by rw[hl];exact this.1,by simpa using this.2⟩
 ·obtain⟨arr',e',fz',h1,h2⟩:=h.len k hk
  by_cases e1:k=b
  ·subst e1;rw[hb] at h1;cases h1;exact⟨arr,e,_,setRow_heap w k arr0 arr e _ hb,by rw[hsz];exact h2⟩
  ·exact⟨arr',e',fz',by rw[hold k e1];exact h1,h2⟩
 ·rcases ho id o hi with ⟨h1,h2⟩|h1
  ·exact(h.obj id o h1).chg (Chg.setRow hr arr) (fun e=>h2 e.symm) (fun j e=>by rcases hκ with ⟨id,rfl⟩|⟨t,rfl⟩<;>cases e)
  ·exact h1
theorem D1{arr:Array Value}{vs:List Value}{off:Nat}(h:off+vs.length≤arr.size):(arr.toList.take off++vs++arr.toList.drop (off+vs.length)).toArray.size=arr.size:=by
 simp;omega
theorem FrR.chg{K:Key→Prop}{G':Gh}{w':World}(c:Chg K G w G' w')(hk1:∀t,¬K (.slot t))(hk2:∀t i,¬K (.slotc t i))(hk3:∀t,¬K (.lbox t))(hk4:∀t j,¬K (.bcell t j))
  (h:FrR E f n G w a fr):FrR E f n G' w' a fr:=by
 refine⟨h.defers,h.size,fun t=>(h.slot t).chg c (hk1 t) (hk2 t),fun t cs hb=>?_⟩
 obtain⟨h1,b,arr,e,h2,h3,h4,h5⟩:=h.box t cs hb;obtain⟨k1,k2,k3⟩:=c.keep b (Array.getElem?_eq_some_iff.1 h4).1 (by rw[h3];exact hk3 t)
 exact⟨h1,b,arr,e,h2,k2.trans h3,k1.trans h4,h5.chg c (hk4 t)⟩
theorem Kept.chg{K:Key→Prop}{G':Gh}{w':World}(h:Kept Gs ws G w)(c:Chg K G w G' w')(hk:¬K .ext):Kept Gs ws G' w':=
 h.trans (c.weaken fun κ k e=>hk (e ▸ k))
theorem Bw.cellsR{κ:Key}{κc:Nat→Key}{v:Value}{x:AV}(h:Bw G w κ κc v x)(hf:x.free=true):
  ∀(j:Nat) (c:AV) (u:Value),x.cells[j]? =some c→v.cells[j]? =some u→∀κ',(j=0→κ'=κ)→H5 G w κ' u c:=by
 intro j c u hc hu κ' hκ;have hv:=h.vr.cells hf j c u hc hu;rcases AV.free_cases hf with ⟨h1,h2⟩|⟨cs,rfl,h1⟩
 ·rw[h2] at hc;cases j with
  |zero=>
   simp at hc;subst hc;have:v.cells=#[v]:=by
    have:=h.vr.oneCell h1;cases v<;>first|rfl|(simp[Value.oneCell'] at this)
   rw[this] at hu;simp at hu;subst hu;rw[hκ rfl];exact⟨hv,h1,h.tail⟩
  |succ j=>simp at hc
 ·simp only[AV.cells] at hc;have hm:=List.mem_of_getElem? hc;exact⟨hv,h1 c hm,.of_not (h.agg cs rfl c hm)⟩
theorem H5.oneCell{κ:Key}{v:Value}{x:AV}(h:H5 G w κ v x):v.oneCell'=true:=h.vr.oneCell h.free
theorem AV.free_cells1{x:AV}(hf:x.free=true):∀c∈x.cells,c.free1=true:=by
 rcases AV.free_cases hf with ⟨h1,h2⟩|⟨cs,rfl,h1⟩
 ·rw[h2];simpa using h1
 ·exact h1
theorem M9(A:Agree E){t:Nat}(ht:E.C.has t=true){b:Nat}{arr:Array Value}{e:TypeId}(hb:w.heap[b]? =some (.cells arr e (0,0))){v:Value}{x:AV}(hv:VR G v x)(hf:x.free=true)
  (hl:x.cells.length=(E.C.ty t).size) {off:Nat} (hle:off+(E.C.ty t).size≤arr.size):
  (Instr.storeAt t (.pointer (some ⟨b,off,none⟩)) v).run E.P w= .ok () (w.setRow b (arr.toList.take off++v.cells.toList++arr.toList.drop (off+v.cells.toList.length)).toArray):=by
 have hs:v.cells.size=(E.C.ty t).size:=by rw[hv.cells_size hf,hl]
 have h1:∀u∈v.cells.toList,u.oneCell'=true:=by
  intro u hu;obtain⟨j,hj⟩:=List.getElem?_of_mem hu;have hj':v.cells[j]? =some u:=by simpa using hj
  have hlt:j < x.cells.length:=by
   have:j < v.cells.size:=(Array.getElem?_eq_some_iff.1 hj').1;rw[hl,←hs];exact this
  have hx:=hv.cells hf j x.cells[j] u (List.getElem?_eq_getElem hlt) hj';exact hx.oneCell (AV.free_cells1 hf _ (List.getElem_mem hlt))
 have hst:=run_storeCells_at E.P b off e v.cells.toList 0 arr w hb (by simp[hs];omega) h1
 simp only[Nat.add_zero] at hst;simp[Instr.storeAt,Instr.sureAddr,storeVar,run_sizeOf A ht,hs,hst]
theorem RF.giveTo(h:RF E f n Gs ws G w S a fr before)(x:Operand)(t:Nat){κ:Key}(h1:∀id,κ≠ .obj id)(h2:∀t,κ≠ .lbox t):
  ∃G' κc,RF E f n Gs ws G' w S a (fr.stripAt x) before∧G.Le G'∧Bw G' w κ κc (a.eval x) (opd E.C fr t x)∧(∀b,G.role b= .ext→G'.role b= .ext):=by
 cases x with
 |tmp x=>
  obtain⟨k1,k2⟩:=h.stripAt (Moves.mvKey x h1 h2);refine⟨_,_,k1,⟨fun _ _ _ h=>h,fun _ _ h=>h,fun _=>Nat.le_refl _⟩,k2.rekey (by simp[mvKey]) (fun i=>rfl),fun b e=>by simp[Gh.relabel,e,mvKey]⟩
 |const v=>exact⟨G,fun _=>.ext,h,.refl G,.ofConst _ t v,fun _ e=>e⟩
 |func g=>exact⟨G,fun _=>.ext,h,.refl G,.func g,fun _ e=>e⟩
 |global g=>exact⟨G,fun _=>.ext,h,.refl G,.undef _,fun _ e=>e⟩
theorem FrR.stripAt_b(x:Operand):(fr.stripAt x).b=fr.b:=by cases x<;>rfl
theorem RF.storeObj(A:Agree E)(h:RF E f n Gs ws G w S a fr before){t:Nat}(ht:E.C.has t=true){p:Value}{pa:AV}(hp:VR G p pa)(y:Operand){S':St}(hs:CU (E.C.ty t) S pa (opd E.C fr t y)=some S'):
  ∃G' w',(Instr.storeAt t p (a.eval y)).run E.P w= .ok () w'∧RF E f n Gs ws G' w' S' a (fr.stripAt y) before:=by
 cases hp with
 |ptr id off b hr=>
  simp only[CU,Option.bind_eq_some_iff,Option.map_eq_some_iff] at hs;obtain⟨cs,hcs,cs',hst,rfl⟩:=hs;unfold Ei at hst;split at hst
  case isFalse=>cases hst
  rename_i hc;obtain⟨hf,hl,hle⟩:=hc;simp only[Option.some.injEq] at hst;subst hst;obtain⟨G',κc,k1,k2,k3,_⟩:=h.giveTo y t (κ:=.ocell id off) (by simp) (by simp)
  obtain⟨b',arr,e,j1,j2,j3,j4,j5,j6⟩:=k1.rel.cells hcs;rw[k2.rho _ _ hr] at j2;cases j2;have hrun:=M9 A ht j4 k3.vr hf hl (Nat.le_trans hle j5.1);have hsz1:off+(a.eval y).cells.toList.length≤arr.size:=by have:=k3.vr.cells_size hf;have:=j5.1;simp;omega
  refine⟨G',_,hrun,?_⟩;have hc:=Chg.setRow (w:=w) j3 (arr.toList.take off++(a.eval y).cells.toList++arr.toList.drop (off+(a.eval y).cells.toList.length)).toArray;refine⟨k1.rel.setRow j3 (.inl ⟨id,rfl⟩) j4 (D1 hsz1) _ (by simp) fun id' o ho=>?_,k1.frr.chg hc (by simp) (by simp) (by simp) (by simp),k1.kept.chg hc (by simp),k1.pr⟩
  rw[List.getElem?_set] at ho
  by_cases e':id=id'
  ·subst e';have hlt:id < S.length:=(List.getElem?_eq_some_iff.1 j1).1;simp only[if_true,hlt,Option.some.injEq] at ho;subst ho;refine .inr ⟨b,_,e,k2.rho _ _ hr,j3,setRow_heap w b arr _ e _ j4,?_,fun ht0=>⟨(j6 ht0).1,(D1 hsz1).trans ((j6 ht0).2.trans ?_)⟩⟩
   case refine_2=>simp only[De,List.length_append,List.length_take,List.length_drop];omega
   refine(j5.write (off:=off) (vs:=(a.eval y).cells.toList) (xs:=(opd E.C fr t y).cells) ?_ (by rw[hl];exact hle) ?_).chg hc (by simp)
   ·simpa using k3.vr.cells_size hf
   ·intro j x v hx hv;exact k3.cellsR hf j x v hx (by simpa using hv) _ (by rintro rfl;rfl)
  ·simp only[e',if_false] at ho;exact .inl ⟨ho,by simpa using e'⟩
 |_=>simp[CU] at hs
theorem FrR.chgBox{c:Nat}{G':Gh}{w':World}(k:Chg (·= .lbox c) G w G' w'){fr':Fr}(hv:fr'.v=fr.v)(hb':∀t,t≠c→fr'.b t=fr.b t)
  (hnew:∀cs,fr'.b c=some cs→E.C.loc f c=true∧∃b arr e,Act.at a c= .pointer (some ⟨b,0,none⟩)∧G'.role b= .lbox c∧w'.heap[b]? =some (.cells arr e (0,0))∧D4 G' w' (.bcell c) arr cs)
  (h:FrR E f n G w a fr):FrR E f n G' w' a fr':=by
 refine⟨h.defers,h.size,fun t=>by rw[hv];exact(h.slot t).chg k (by simp) (by simp),fun t cs hb=>?_⟩
 by_cases e:t=c
 ·subst e;exact hnew cs hb
 ·rw[hb' t e] at hb;obtain⟨h1,b,arr,e',h2,h3,h4,h5⟩:=h.box t cs hb;obtain⟨k1,k2,k3⟩:=k.keep b (Array.getElem?_eq_some_iff.1 h4).1 (by rw[h3];simpa using e)
  exact⟨h1,b,arr,e',h2,k2.trans h3,k1.trans h4,h5.chg k (by simp)⟩
theorem E4.of_isSome{fr':Fr}{b off:Nat}{v:Value}(h:E4 a fr b off v)(hs:∀cs',fr'.b b=some cs'→∃cs,fr.b b=some cs):E4 a fr' b off v:=fun cs' e=>by
 obtain⟨cs,hc⟩:=hs cs' e;exact h cs hc
theorem RF.storeBox(A:Agree E)(h:RF E f n Gs ws G w S a fr before){t:Nat}(ht:E.C.has t=true){p:Value}{b off:Nat}(hp:E4 a fr b off p)(y:Operand){cs':List AV}
  (hs:Ai (E.C.ty t) (fr.b b) off (opd E.C fr t y)=some cs'):
  ∃G' w',(Instr.storeAt t p (a.eval y)).run E.P w= .ok () w'∧RF E f n Gs ws G' w' S a ((fr.stripAt y).setB b (some cs')) before:=by
 simp only[Ai,Option.bind_eq_some_iff] at hs;obtain⟨cs,hcs,hst⟩:=hs;obtain⟨blk,hblk,rfl⟩:=hp cs hcs;unfold Ei at hst;split at hst
 case isFalse=>cases hst
 rename_i hc;obtain⟨hf,hl,hle⟩:=hc;simp only[Option.some.injEq] at hst;subst hst;obtain⟨G',κc,k1,k2,k3,_⟩:=h.giveTo y t (κ:=.bcell b off) (by simp) (by simp)
 have hcs':(fr.stripAt y).b b=some cs:=by rw[FrR.stripAt_b];exact hcs
 obtain⟨hloc,blk',arr,e,j2,j3,j4,j5⟩:=k1.frr.box b cs hcs';rw[hblk] at j2;cases j2;have hrun:=M9 A ht j4 k3.vr hf hl (Nat.le_trans hle j5.1);have hsz1:off+(a.eval y).cells.toList.length≤arr.size:=by have:=k3.vr.cells_size hf;have:=j5.1;simp;omega
 refine⟨G',_,hrun,?_⟩;have hc:=Chg.setRow (w:=w) j3 (arr.toList.take off++(a.eval y).cells.toList++arr.toList.drop (off+(a.eval y).cells.toList.length)).toArray;refine⟨k1.rel.setRow j3 (.inr ⟨b,rfl⟩) j4 (D1 hsz1) _ rfl fun id' o ho=>.inl ⟨ho,by simp⟩,FrR.chgBox (fr:=fr.stripAt y) hc rfl (fun t ht=>by simp[Fr.setB,ht]) (fun ds hds=>?_) k1.frr,k1.kept.chg hc (by simp),fun x b' off' hr=>(k1.pr x b' off' hr).of_isSome fun ds hds=>?_⟩
 ·simp only[Fr.setB,if_true,Option.some.injEq] at hds;subst hds;refine⟨hloc,blk,_,e,hblk,j3,setRow_heap w blk arr _ e _ j4,?_⟩;refine(j5.write (off:=off) (vs:=(a.eval y).cells.toList) (xs:=(opd E.C fr t y).cells) ?_ (by rw[hl];exact hle) ?_).chg hc (by simp)
  ·simpa using k3.vr.cells_size hf
  ·intro j x v hx hv;exact k3.cellsR hf j x v hx (by simpa using hv) _ (by rintro rfl;rfl)
 ·by_cases e':b'=b
  ·subst e';exact⟨cs,hcs'⟩
  ·simp only[Fr.setB,e',if_false] at hds;exact⟨ds,hds⟩
def BT(κ0:Key)(d:Nat):Key→Key:=fun κ=>if κ=κ0 then .slot d else κ
theorem Bw.strip0_of{κ:Key}{κc:Nat→Key}{v:Value}{x:AV}(h:VR G v x)(hx:(∃ds,x= .agg ds)∨x.cell1=true):Bw G w κ κc v x.strip0:=by
 rcases hx with ⟨ds,rfl⟩|hx
 ·refine .of_agg h.strip0 ?_;intro c hc;simp only[List.mem_map] at hc;obtain⟨y,_,rfl⟩:=hc;exact AV.own_strip1 y
 ·have:x.strip0=x:=by cases x<;>first|rfl|(simp[AV.cell1,AV.free1] at hx)
  rw[this];exact .of_cell1 h hx
theorem H5.valR{κ:Key}{κc:Nat→Key}{v:Value}{x:AV}(h:H5 G w κ v x):Bw G w κ κc v x.strip0:=by
 have hf:=h.free;have:x.strip0=x:=by cases x<;>first|rfl|(simp[AV.free1] at hf)
 rw[this];refine⟨h.vr,h.tail,?_,?_,?_⟩
 ·rintro cs rfl;simp[AV.free1] at hf
 ·rintro cs vs rfl;simp[AV.free1] at hf
 ·rintro cs rfl;simp[AV.free1] at hf
theorem RF.takeObj(h:RF E f n Gs ws G w S a fr before){id off b:Nat}{cs:List AV}{arr:Array Value}{e:TypeId}{x:AV}{v:Value}(d:Nat){tg:Nat}(k1:S[id]? =some (.cells cs tg))(k2:cs[off]? =some x)(k3:G.rho id=some b)(k4:G.role b= .obj id)
  (k5:w.heap[b]? =some (.cells arr e (0,0))) (k6:D4 G w (.ocell id) arr cs) (k7:arr[off]? =some v):
  ∃G',RF E f n Gs ws G' w (stripMem S (.ptr id off)) a fr before∧Bw G' w (.slot d) (.slotc d) v x.strip0:=by
 have hval:=(k6.2 off x v k2 k7).relabel (f:=BT (.ocell id off) d);obtain⟨b1,arr1,e1,q1,_,q3,_,q5⟩:=h.rel.obj id _ k1;rw[k3] at q1;cases q1;rw[k5] at q3;cases q3;refine⟨G.relabel (BT (.ocell id off) d),⟨?_,?_,h.kept.relabel (by simp[BT]),h.pr⟩,?_⟩
 ·have hS:stripMem S (.ptr id off)=S.set id (.cells (cs.modify off AV.strip1) tg):=by simp[stripMem,Co,Hr,k1]
  rw[hS];refine⟨h.rel.os,h.rel.tape,h.rel.output,h.rel.size,fun b hb=>⟨(h.rel.old b hb).1,by simp[Gh.relabel,(h.rel.old b hb).2,BT]⟩,h.rel.imm,fun b hb=>by simp[Gh.relabel,h.rel.role b hb,BT],fun b hb=>?_,fun id b hb=>by simpa using h.rel.rho id b hb,h.rel.len,fun id' o ho=>?_⟩
  ·refine h.rel.noimm b (hb.imp ?_ ?_)
   ·rintro⟨i,hi⟩;refine⟨i,?_⟩;simp only[Gh.relabel,BT] at hi;split at hi<;>simp_all
   ·rintro⟨i,hi⟩;refine⟨i,?_⟩;simp only[Gh.relabel,BT] at hi;split at hi<;>simp_all
  ·rw[List.getElem?_set] at ho
   by_cases e':id=id'
   ·subst e';have hlt:id < S.length:=(List.getElem?_eq_some_iff.1 k1).1;simp only[if_true,hlt,Option.some.injEq] at ho;subst ho;refine⟨b,arr,e,k3,by simp[Gh.relabel,k4,BT],k5,(k6.relabel (f:=BT (.ocell id off) d)).strip off fun j hj=>by simp[BT,hj],fun ht0=>⟨(q5 ht0).1,by rw[(q5 ht0).2];simp⟩⟩
   ·simp only[e',if_false] at ho;have:=h.rel.obj id' o ho;cases o with
    |cells cs' tg'=>
     obtain⟨b',arr',e'',hr,hb,hh,hrow,htg⟩:=this;exact⟨b',arr',e'',hr,by simp[Gh.relabel,hb,BT],hh,(hrow.relabel (f:=BT (.ocell id off) d)).rekey fun j=>by simp[BT];intro e1;exact(e' e1.symm).elim,htg⟩
    |map m=>
     obtain⟨b',es,clk,hr,hb,hh,hs,he⟩:=this;exact⟨b',es,clk,hr,by simp[Gh.relabel,hb,BT],hh,hs,fun i e p e1 e2=>GE.mono (G:=G) (G':=G.relabel (BT (.ocell id off) d)) ⟨fun _ _ _ h=>h,fun _ _ h=>h,fun _=>Nat.le_refl _⟩ (he i e p e1 e2)⟩
    |bld T e l=>
     refine Sz.keep (G:=G) (w:=w) (fun b hb=>hb) (fun b hb hlt=>⟨?_,rfl,fun _=>rfl⟩) this
     rcases hb with hb|hb
     ·simp[Gh.relabel,hb,BT]
     ·simp[Gh.relabel,hb,BT];intro e1;exact(e' e1.symm).elim
    |dead=>trivial
 ·refine⟨h.frr.defers,h.frr.size,fun t=>((h.frr.slot t).relabel (f:=BT (.ocell id off) d)).rekey (by simp[BT]) (fun i=>by simp[BT]),fun t cs hb=>?_⟩
  obtain⟨h1,b',arr',e',h2,h3,h4,h5⟩:=h.frr.box t cs hb;exact⟨h1,b',arr',e',h2,by simp[Gh.relabel,h3,BT],h4,(h5.relabel (f:=BT (.ocell id off) d)).rekey fun j=>by simp[BT]⟩
 ·have e1:BT (.ocell id off) d (.ocell id off)= .slot d:=by simp[BT]
  rw[e1] at hval;exact hval.valR
theorem RF.takeBox(h:RF E f n Gs ws G w S a fr before){b off:Nat}{cs:List AV}{x:AV}{blk:Nat}{arr:Array Value}{e:TypeId}{v:Value}(d:Nat)(k1:fr.b b=some cs)(k2:cs[off]? =some x)(k3:Act.at a b= .pointer (some ⟨blk,0,none⟩))
  (k5:w.heap[blk]? =some (.cells arr e (0,0))) (k7:arr[off]? =some v):
  ∃G',RF E f n Gs ws G' w S a (fr.setB b (C7 (fr.b b) off)) before∧Bw G' w (.slot d) (.slotc d) v x.strip0:=by
 obtain⟨hloc,blk',arr',e',j2,j3,j4,j5⟩:=h.frr.box b cs k1;rw[k3] at j2;cases j2;rw[k5] at j4;cases j4;have hval:=(j5.2 off x v k2 k7).relabel (f:=BT (.bcell b off) d);have g1:∀id,BT (.bcell b off) d (.obj id)= .obj id:=by simp[BT]
 refine⟨G.relabel (BT (.bcell b off) d),⟨h.rel.relabel (by simp[BT]) ?_ ?_ (by simp[BT]) (by simp[BT]),?_,h.kept.relabel (by simp[BT]),fun x b' off' hr=>(h.pr x b' off' hr).of_isSome fun ds hds=>?_⟩,?_⟩
 ·intro κ id hi;simp only[BT] at hi;split at hi<;>simp_all
 ·intro κ id hi;simp only[BT] at hi;split at hi<;>simp_all
 ·refine⟨h.frr.defers,h.frr.size,fun t=>((h.frr.slot t).relabel (f:=BT (.bcell b off) d)).rekey (by simp[BT]) (fun i=>by simp[BT]),fun t cs' hb=>?_⟩
  by_cases e1:t=b
  ·subst e1;simp only[Fr.setB,if_true,C7,k1,Option.map_some,Option.some.injEq] at hb;subst hb;refine⟨hloc,blk,arr,e,k3,by simp[Gh.relabel,j3,BT],k5,(j5.relabel (f:=BT (.bcell t off) d)).strip off fun j hj=>by simp[BT,hj]⟩
  ·simp only[Fr.setB,e1,if_false] at hb;obtain⟨h1,b',arr',e',h2,h3,h4,h5⟩:=h.frr.box t cs' hb;exact⟨h1,b',arr',e',h2,by simp[Gh.relabel,h3,BT],h4,(h5.relabel (f:=BT (.bcell b off) d)).rekey fun j=>by simp[BT];intro e2;exact(e1 e2).elim⟩
 ·by_cases e1:b'=b
  ·subst e1;exact⟨cs,k1⟩
  ·simp only[Fr.setB,e1,if_false] at hds;exact⟨ds,hds⟩
 ·have e1:BT (.bcell b off) d (.bcell b off)= .slot d:=by simp[BT]
  rw[e1] at hval;exact hval.valR
theorem RF.loadBox(A:Agree E)(h:RF E f n Gs ws G w S a fr before){t:Nat}(ht:E.C.has t=true){p:Value}{b off:Nat}(hp:E4 a fr b off p){x:AV}(hl:AB (E.C.ty t) (fr.b b) off=some x):
  ∃v,(Instr.loadAt t p).run E.P w= .ok v w∧VR G v x∧((∃ds,x= .agg ds)∨(x.free1=true∧
   ∃cs blk arr e,fr.b b=some cs∧cs[off]? =some x∧Act.at a b= .pointer (some ⟨blk,0,none⟩)∧w.heap[blk]? =some (.cells arr e (0,0))∧arr[off]? =some v)):=by
 simp only[AB,Option.bind_eq_some_iff] at hl;obtain⟨cs,hcs,hrd⟩:=hl;obtain⟨blk,hblk,rfl⟩:=hp cs hcs;obtain⟨hloc,blk',arr,e,j2,j3,j4,j5⟩:=h.frr.box b cs hcs;rw[hblk] at j2;cases j2;obtain⟨v,h1,h2,h3⟩:=PU A ht (j5.reads j4) hrd;refine⟨v,by simpa[Instr.loadAt,Instr.sureAddr] using h1,h2,?_⟩
 rcases h3 with ⟨h3,h4⟩|⟨ds,h3,_⟩
 ·obtain⟨u,hu,hcell⟩:=j5.get h3;refine .inr ⟨hcell.free,cs,blk,arr,e,hcs,h3,hblk,j4,?_⟩;rw[hu,h4];simp[Array.getD_eq_getD_getElem?,hu]
 ·exact .inl ⟨ds,h3⟩
theorem World.alloc_old(w:World)(o:Go.Obj){b:Nat}(hb:b < w.heap.size):(w.alloc o).heap[b]? =w.heap[b]?:=by
 show (w.heap.push o)[b]? =_
 rw[Array.getElem?_push,if_neg (Nat.ne_of_lt hb)]
theorem World.alloc_new(w:World)(o:Go.Obj):(w.alloc o).heap[w.heap.size]? =some o:=by
 show (w.heap.push o)[w.heap.size]? =_
 simp
def Gh.new(G:Gh)(nb:Nat)(m:Nat→Option Value)(κ:Key):Gh:=
 {G with imm:=fun b o=>if b=nb then m o else G.imm b o,role:=fun b=>if b=nb then κ else G.role b}
theorem Rel.imm_none(h:Rel E G w S){b:Nat}(hb:w.heap.size≤b)(o:Nat):G.imm b o=none:=by
 cases hi:G.imm b o with
 |none=>rfl
 |some v=>
  have:=World.block_lt_of_cell? w _ (h.imm b o v hi);simp at this;omega
theorem Chg.new(h:Rel E G w S)(o:Go.Obj)(m:Nat→Option Value)(κ:Key)(K:Key→Prop):Chg K G w (G.new w.heap.size m κ) (w.alloc o):=
 ⟨⟨fun b j v hv => by
   by_cases e:b=w.heap.size
   ·subst e;rw[h.imm_none (Nat.le_refl _)] at hv;cases hv
   ·simpa[Gh.new,e] using hv,fun _ _ e=>e,fun _=>Nat.le_refl _⟩,by simp,fun b hb _=>⟨World.alloc_old w o hb,by simp[Gh.new,Nat.ne_of_lt hb],fun j=>by simp[Gh.new,Nat.ne_of_lt hb]⟩⟩
theorem Rel.alloc(h:Rel E G w S)(o:Go.Obj)(m:Nat→Option Value)(κ:Key)(hm:∀j v,m j=some v→(w.alloc o).cell? ⟨w.heap.size,j,none⟩=some v)
  (hκ:((∃id,κ= .obj id)∨∃t,κ= .lbox t)→∀j,m j=none):Rel E (G.new w.heap.size m κ) (w.alloc o) S:=by
 have hc:=Chg.new h o m κ (fun _=>False)
 refine⟨h.os,h.tape,h.output,Nat.le_trans h.size hc.size,fun b hb=>?_,fun b j v hv=>?_,fun b hb=>?_,fun b hb j=>?_,fun id b hb=>?_,fun b hb=>?_,fun id o ho=>(h.obj id o ho).chg hc (fun e=>e) (fun _ e=>e)⟩
 ·have hlt:=Nat.lt_of_lt_of_le hb h.size;obtain⟨k1,k2,_⟩:=hc.keep b hlt (by simp)
  exact⟨k1.trans (h.old b hb).1,k2.trans (h.old b hb).2⟩
 ·by_cases e:b=w.heap.size
  ·subst e;simp only[Gh.new,if_true] at hv;exact hm j v hv
  ·simp only[Gh.new,e,if_false] at hv;have:=h.imm b j v hv;rw[World.cell?_alloc_old w o _ (by exact e)];exact this
 ·simp at hb;have:b≠w.heap.size:=by omega
  simp only[Gh.new,this,if_false];exact h.role b (by omega)
 ·by_cases e:b=w.heap.size
  ·subst e;simp only[Gh.new,if_true] at hb ⊢;exact hκ hb j
  ·simp only[Gh.new,e,if_false] at hb ⊢;exact h.noimm b hb j
 ·have:=h.rho id b hb;exact⟨this.1,Nat.lt_of_lt_of_le this.2 hc.size⟩
 ·obtain⟨arr',e',fz',h1,h2⟩:=h.len b hb;exact⟨arr',e',fz',(World.alloc_old w o (Array.getElem?_eq_some_iff.1 h1).1).trans h1,h2⟩
theorem Rel.drew(h:Rel E G w S):Rel E G w.drew S:=
 ⟨h.os,h.tape,h.output,h.size,h.old,h.imm,h.role,h.noimm,h.rho,h.len,fun id o ho=>T4.chg (K:=fun _=>False) (G:=G) (w:=w) (G':=G) (w':=w.drew) ⟨.refl G,Nat.le_refl _,fun _ _ _=>⟨rfl,rfl,fun _=>rfl⟩⟩ (fun e=>e) (fun _ e=>e) (h.obj id o ho)⟩
theorem RF.drew(h:RF E f n Gs ws G w S a fr before):RF E f n Gs ws G w.drew S a fr before:=
 have c:Chg (fun _=>False) G w G w.drew:=⟨.refl G,Nat.le_refl _,fun _ _ _=>⟨rfl,rfl,fun _=>rfl⟩⟩
 ⟨h.rel.drew,h.frr.chg c (fun _=>id) (fun _ _=>id) (fun _=>id) (fun _ _=>id),h.kept.chg c id,h.pr⟩
theorem RF.alloc(h:RF E f n Gs ws G w S a fr before)(o:Go.Obj)(m:Nat→Option Value)(κ:Key)(hm:∀j v,m j=some v→(w.alloc o).cell? ⟨w.heap.size,j,none⟩=some v)
  (hκ:((∃id,κ= .obj id)∨∃t,κ= .lbox t)→∀j,m j=none):RF E f n Gs ws (G.new w.heap.size m κ) (w.alloc o) S a fr before:=
 have c:=Chg.new h.rel o m κ (fun _=>False)
 ⟨h.rel.alloc o m κ hm hκ,h.frr.chg c (fun _=>id) (fun _ _=>id) (fun _=>id) (fun _ _=>id),h.kept.chg c id,h.pr⟩
def Gh.obj(G:Gh)(id b:Nat):Gh:={G with rho:=fun i=>if i=id then some b else G.rho i}
theorem Rel.addObj(h:Rel E G w S){b:Nat}(hb:b < w.heap.size)(o:Obj)(ho:T4 (G.obj S.length b) w S.length o):Rel E (G.obj S.length b) w (S++[o])∧G.Le (G.obj S.length b):=by
 have hle:G.Le (G.obj S.length b):=⟨fun _ _ _ e=>e,fun id b' e=>by
  have:=(h.rho id b' e).1;simp[Gh.obj,Nat.ne_of_lt this,e],fun _=>Nat.le_refl _⟩
 refine⟨⟨h.os,h.tape,h.output,h.size,h.old,h.imm,h.role,h.noimm,fun id b' e=>?_,h.len,fun id o' e=>?_⟩,hle⟩
 ·simp only[Gh.obj] at e;split at e
  ·cases e;subst_vars;exact⟨by simp,hb⟩
  ·have:=h.rho id b' e;exact⟨by simp;omega,this.2⟩
 ·by_cases hid:id < S.length
  ·rw[List.getElem?_append_left hid] at e;refine(h.obj id o' e).chg (K:=fun _=>False) (G':=G.obj S.length b) (w':=w) ⟨hle,Nat.le_refl _,fun _ _ _=>⟨rfl,rfl,fun _=>rfl⟩⟩ _root_.id (fun _=>_root_.id)
  ·have hid':id=S.length:=by
    have:=(List.getElem?_eq_some_iff.1 e).1;simp at this;omega
   subst hid';simp at e;subst e;exact ho
theorem RF.addObj(h:RF E f n Gs ws G w S a fr before){b:Nat}(hb:b < w.heap.size)(o:Obj)(ho:T4 (G.obj S.length b) w S.length o):RF E f n Gs ws (G.obj S.length b) w (S++[o]) a fr before:=by
 obtain⟨h1,h2⟩:=h.rel.addObj hb o ho;have c:Chg (fun _=>False) G w (G.obj S.length b) w:=⟨h2,Nat.le_refl _,fun _ _ _=>⟨rfl,rfl,fun _=>rfl⟩⟩
 exact⟨h1,h.frr.chg c (fun _=>id) (fun _ _=>id) (fun _=>id) (fun _ _=>id),h.kept.chg c id,h.pr⟩
variable {E:Env} {G:Gh} {w:World} {S:St}
theorem Jl.under{P:Program}{t:Nat}{ti:TI}(h:Jl P t ti):∃d,P.underlying t=some d∧kindOk P d ti.kind=true∧ti.agg=OZ d:=by
 obtain⟨i,z,d,h1,h2,h3,h4,h5,h6,h7,_⟩:=h.ex;exact⟨d,h5,h6,h7⟩
theorem Jl.slice{P:Program}{t:Nat}{ti:TI}(h:Jl P t ti){e:Nat}(hk:ti.kind= .slice e):P.underlying t=some (.slice e):=by
 obtain⟨d,h1,h2,_⟩:=h.under;rw[hk] at h2;cases d<;>simp[kindOk] at h2
 subst h2;exact h1
theorem Jl.array{P:Program}{t:Nat}{ti:TI}(h:Jl P t ti){n e:Nat}(hk:ti.kind= .array n e):P.underlying t=some (.array n e):=by
 obtain⟨d,h1,h2,_⟩:=h.under;rw[hk] at h2;cases d<;>simp[kindOk] at h2
 obtain⟨rfl,rfl⟩:=h2;exact h1
theorem Jl.map{P:Program}{t:Nat}{ti:TI}(h:Jl P t ti){k e:Nat}(hk:ti.kind= .map k e):P.underlying t=some (.map k e):=by
 obtain⟨d,h1,h2,_⟩:=h.under;rw[hk] at h2;cases d<;>simp[kindOk] at h2
 obtain⟨rfl,rfl⟩:=h2;exact h1
theorem Jl.str{P:Program}{t:Nat}{ti:TI}(h:Jl P t ti)(hk:ti.kind= .str):P.underlying t=some .string:=by
 obtain⟨d,h1,h2,_⟩:=h.under;rw[hk] at h2;cases d<;>simp[kindOk] at h2
 exact h1
theorem Jl.int{P:Program}{t:Nat}{ti:TI}(h:Jl P t ti){k:IntKind}(hk:ti.kind= .int k):P.underlying t=some (.int k):=by
 obtain⟨d,h1,h2,_⟩:=h.under;rw[hk] at h2;cases d<;>simp[kindOk] at h2
 subst h2;exact h1
theorem Jl.struct{P:Program}{t:Nat}{ti:TI}(h:Jl P t ti){fs:List (Nat×Nat×Nat)}(hk:ti.kind= .struct fs):∃fl,P.underlying t=some (.struct fl)∧Ea P fl.toList fs=true:=by
 obtain⟨d,h1,h2,_⟩:=h.under;rw[hk] at h2;cases d<;>simp[kindOk] at h2
 exact⟨_,h1,h2⟩
theorem OL(A:Agree E){t:Nat}(ht:E.C.has t=true){i fo:Nat}(h:KB E.C t i=some fo)(b o:Nat):
  (Instr.fieldAt t (.pointer (some ⟨b,o,none⟩)) i).run E.P w= .ok (.pointer (some ⟨b,o+fo,none⟩)) w:=by
 unfold KB at h;split at h
 ·rename_i fs hk;split at h
  ·rename_i fo' ty sz hfi;split at h
   ·cases h
   ·rename_i hsz;cases h;obtain⟨fl,h1,h2⟩:=(A.ty t ht).struct hk;obtain⟨f,inf,h3,h4,h5,h6,h7⟩:=(JF h2).2 i _ hfi;have h3':fl[i]? =some f:=by simpa using h3
    have h8:inf.size≠0:=by rw[h7];exact hsz
    simp at h4;simp[Instr.fieldAt,run_underlying h1,h3',Instr.sureAddr,fieldPlace,sizeOf,typeInfo,h6,h8,Addr.add_lit,h4]
  ·cases h
 ·cases h
theorem Mk{v:Value}{x y:AV}{d:Nat}(h:VR G v x)(hm:D2 x d=some y):∃b o,v= .pointer (some ⟨b,o,none⟩)∧VR G (.pointer (some ⟨b,o+d,none⟩)) y∧y.cell1=true:=by
 cases h with
 |ptr id off b hr=>cases hm;exact⟨b,off,rfl,.ptr id (off+d) b hr,rfl⟩
 |ep cs b o off f hc hi h2=>cases hm;exact⟨b,o+off,rfl,by rw[Nat.add_assoc];exact .ep cs b o (off+d) f hc hi h2,rfl⟩
 |_=>cases hm
theorem Lm(A:Agree E){t e:Nat}(ht:E.C.has t=true)(he:E.C.has e=true)(hk:(E.C.ty t).kind= .slice e){v u:Value}{x i y:AV}(hv:VR G v x)(hu:VR G u i)(hi:BB (E.C.ty e) x i=some y):
  ∃r,(Instr.indexAt t v u).run E.P w= .ok r w∧VR G r y∧y.cell1=true:=by
 have hul:=(A.ty t ht).slice hk;cases hu with
 |int k n=>
  cases hv with
  |vsnil sz=>
   simp only[BB] at hi;split at hi
   ·simp at hi
   ·cases hi
  |vs b o cap sz es r f hr hc hf hs h h2=>
   simp only[BB] at hi;split at hi
   ·rename_i hcond;obtain⟨hsz,hn⟩:=hcond;rw[Option.map_eq_some_iff] at hi;obtain⟨el,hel,rfl⟩:=hi;have hlt:n.toNat < es.length:=(List.getElem?_eq_some_iff.1 hel).1;refine⟨.pointer (some ⟨b,o+n.toNat*sz,none⟩),?_,?_,rfl⟩
    ·have:0≤n∧n < (es.length:Int):=⟨hn,by omega⟩
     simp[Instr.indexAt,run_underlying hul,asIntOf,this,run_sizeOf A he,Addr.add_lit,hsz]
    ·have:=VR.ep (G:=G) el b (o+n.toNat*sz) 0 (fun j=>f n.toNat j) (hs el (List.mem_of_getElem? hel)).2 (fun j x hx=>h _ _ _ _ hel hx) (fun j x hx=>h2 _ _ _ _ hel hx)
     simpa using this
   ·cases hi
  |rs b id off len cap sz hr hc=>
   simp only[BB] at hi;split at hi
   ·rename_i hcond;obtain⟨hsz,hn,hlt⟩:=hcond;cases hi;refine⟨.pointer (some ⟨b,off+n.toNat*sz,none⟩),?_,.ptr id _ b hr,rfl⟩;simp[Instr.indexAt,run_underlying hul,asIntOf,hn,hlt,run_sizeOf A he,Addr.add_lit,hsz]
   ·cases hi
  |_=>simp[BB] at hi
 |_=>simp[BB] at hi
theorem Hm(A:Agree E){t e n:Nat}(ht:E.C.has t=true)(he:E.C.has e=true)(hk:(E.C.ty t).kind= .array n e){b o:Nat}{k:IntKind}{i:Int}(hi:0≤i∧i < n):
  (Instr.indexAt t (.pointer (some ⟨b,o,none⟩)) (.int k i)).run E.P w= .ok (.pointer (some ⟨b,o+i.toNat*(E.C.ty e).size,none⟩)) w:=by
 have hul:=(A.ty t ht).array hk;simp[Instr.indexAt,run_underlying hul,asIntOf,hi,run_sizeOf A he,Addr.add_lit,Instr.sureAddr]
theorem T1(A:Agree E){t:Nat}(ht:E.C.has t=true){cs:List AV}{vs:Array Value}(h:VR G (.agg vs) (.agg cs)){off:Nat}{x:AV}(hx:IE (E.C.ty t) cs off=some x):
  ∃v,(part t vs off).run E.P w= .ok v w∧VR G v x∧((cs[off]? =some x)∨∃ds,x= .agg ds∧∀c∈ds,c∈cs):=by
 cases h with
 |agg _ _ hl h=>
  unfold IE at hx;unfold part;rw[Sem.run_bind,R4 A ht];cases hk:(E.C.ty t).agg with
  |false=>
   simp only[hk,Bool.false_eq_true,if_false] at hx;have hlt:off < vs.size:=by rw[hl];exact(List.getElem?_eq_some_iff.1 hx).1
   have hv:vs[off]? =some vs[off]:=by simp[hlt]
   exact⟨vs[off],by simp[hlt],h off x _ hx hv,.inl hx⟩
  |true=>
   simp only[hk,if_true] at hx;split at hx
   ·rename_i hle;simp only[Option.some.injEq] at hx;subst hx;refine⟨.agg (vs.extract off (off+(E.C.ty t).size)),by simp[run_sizeOf A ht],?_,.inr ⟨_,rfl,fun c hc=>List.mem_of_mem_drop (List.mem_of_mem_take hc)⟩⟩
    refine .agg _ _ (by simp;omega) fun i y v hy hv=>?_
    simp only[List.getElem?_take,List.getElem?_drop] at hy;split at hy
    ·rename_i hi;rw[Array.getElem?_extract] at hv;split at hv
     ·exact h _ _ _ hy hv
     ·cases hv
    ·cases hy
   ·cases hx
theorem QR{x y:AV}(h:Tj x=some y):x=y∧∀cs,y≠ .tup cs:=by
 unfold Tj at h;split at h
 ·cases h
 ·rename_i hn;simp only[Option.some.injEq] at h;subst h;exact⟨rfl,fun cs e=>hn cs e⟩
theorem XM(A:Agree E){t i:Nat}(ht:E.C.has t=true){fs:List (Nat×Nat×Nat)}(hk:(E.C.ty t).kind= .struct fs){p:Nat×Nat×Nat}(hp:fs[i]? =some p)(hty:E.C.has p.2.1=true)
  {v:Value} {x y:AV} (hv:VR G v x) (hy:He (E.C.ty p.2.1) x p.1=some y):
  ∃r,(Instr.field t v i).run E.P w= .ok r w∧VR G r y∧∀cs,y≠ .tup cs:=by
 obtain⟨fl,h1,h2⟩:=(A.ty t ht).struct hk;obtain⟨f,inf,h3,h4,h5,h6,h7⟩:=(JF h2).2 i _ hp;have h3':fl[i]? =some f:=by simpa using h3
 cases x with
 |agg cs=>
  cases hv with
  |agg _ vs hl h=>
   simp only[He,Option.bind_eq_some_iff] at hy;obtain⟨y',hy',hnt⟩:=hy;obtain⟨rfl,hnt⟩:=QR hnt;obtain⟨r,k1,k2,k3⟩:=T1 (w:=w) A hty (.agg _ vs hl h) hy';refine⟨r,?_,k2,hnt⟩;simp[Instr.field,run_underlying h1,h3',asAgg,h4,h5,k1]
 |_=>simp[He] at hy
theorem Qh(A:Agree E){t:Nat}(ht:E.C.has t=true)(hk:(E.C.ty t).kind= .str){v u:Value}{x i y:AV}(hv:VR G v x)(hu:VR G u i)(hy:FX x i=some y):
  ∃r,(Instr.index t v u).run E.P w= .ok r w∧VR G r y∧y.cell1=true:=by
 have hul:=(A.ty t ht).str hk;cases x with
 |str s=>
  cases i with
  |int k n=>
   cases hv;cases hu;simp only[FX] at hy;split at hy
   ·rename_i hn;rw[Option.map_eq_some_iff] at hy;obtain⟨c,hc,rfl⟩:=hy;have hlt:n.toNat < s.length:=(List.getElem?_eq_some_iff.1 hc).1;have hc2:s[n.toNat]=c:=(List.getElem?_eq_some_iff.1 hc).2;refine⟨.int .u8 c.toNat,?_,.int _ _,rfl⟩;have hget:(⟨s.toArray⟩:ByteArray)[n.toNat]? =some c:=by
     have:n.toNat < (⟨s.toArray⟩:ByteArray).size:=by simpa[ByteArray.size] using hlt
     rw[getElem?_pos (⟨s.toArray⟩:ByteArray) n.toNat this];simp[ByteArray.getElem_eq_getElem_data,hc2]
    simp[Instr.index,run_underlying hul,asIntOf,hn,hget]
   ·cases hy
  |_=>simp[FX] at hy
 |_=>simp[FX] at hy
theorem Oq(A:Agree E){t n e:Nat}(ht:E.C.has t=true)(he:E.C.has e=true)(hk:(E.C.ty t).kind= .array n e){v u:Value}{x i y:AV}(hv:VR G v x)(hu:VR G u i)(hy:Uf n (E.C.ty e) x i=some y):
  ∃r,(Instr.index t v u).run E.P w= .ok r w∧VR G r y∧∀cs,y≠ .tup cs:=by
 have hul:=(A.ty t ht).array hk;cases x with
 |agg cs=>
  cases i with
  |int k m=>
   cases hv with
   |agg _ vs hl h=>
    cases hu;simp only[Uf] at hy;split at hy
    ·rename_i hm;simp only[Option.bind_eq_some_iff] at hy;obtain⟨y',hy',hnt⟩:=hy;obtain⟨rfl,hnt⟩:=QR hnt;obtain⟨r,k1,k2,k3⟩:=T1 (w:=w) A he (.agg _ vs hl h) hy';refine⟨r,?_,k2,hnt⟩;simp[Instr.index,run_underlying hul,asIntOf,hm,run_sizeOf A he,k1]
    ·cases hy
  |_=>simp[Uf] at hy
 |_=>simp[Uf] at hy
def Mr(G:Gh):Option Value→Option AV→Prop
 |none,none=>True
 |some v,some x=>VR G v x
 |_,_=>False
theorem Is{v:Value}{x:AV}{hi d m y:Nat}{code:BoundsCode}(hv:VR G v x)(h:bnd 0 hi (some x) d=some m)(hy:hi≤y):(Instr.sliceBound v y code).run E.P w= .ok m w∧m≤hi:=by
 cases hv with
 |int k n=>
  simp only[bnd] at h;split at h
  ·rename_i hn;cases h;have:(0:Int)≤n∧n≤y:=⟨by simpa using hn.1,by omega⟩
   exact⟨by simp[Instr.sliceBound,asIntOf,this],by omega⟩
  ·cases h
 |_=>simp[bnd] at h
theorem NO{lo hi d m:Nat}(h:bnd lo hi none d=some m):m=d:=by simpa[bnd] using h.symm
theorem Dk{s:Bool}{len:Nat}{lo hi:Option Value}{lo' hi':Option AV}(hlo:Mr G lo lo')(hhi:Mr G hi hi'){top l h:Nat}(ht:len≤top)
  (h1:bnd 0 len hi' len=some h) (h2:bnd 0 h lo' 0=some l):(Instr.sliceBounds s len top lo hi none).run E.P w= .ok (l,h,top) w∧l≤h∧h≤len:=by
 cases hi with
 |none=>
  cases hi' with
  |some _=>exact hhi.elim
  |none=>
   obtain rfl:=NO h1;cases lo with
   |none=>
    cases lo' with
    |some _=>exact hlo.elim
    |none=>obtain rfl:=NO h2;exact⟨by simp[Instr.sliceBounds],Nat.zero_le _,Nat.le_refl _⟩
   |some v=>
    cases lo' with
    |none=>exact hlo.elim
    |some x=>
     obtain⟨k1,k2⟩:=Is (E:=E) (w:=w) (code:=.sliceB) hlo h2 (Nat.le_refl _);exact⟨by simp[Instr.sliceBounds,k1],k2,Nat.le_refl _⟩
 |some u=>
  cases hi' with
  |none=>exact hhi.elim
  |some y=>
   obtain⟨q1,q2⟩:=Is (E:=E) (w:=w) (code:=if s then .sliceAcap else .sliceAlen) hhi h1 ht
   cases lo with
   |none=>
    cases lo' with
    |some _=>exact hlo.elim
    |none=>obtain rfl:=NO h2;exact⟨by simp[Instr.sliceBounds,q1],Nat.zero_le _,q2⟩
   |some v=>
    cases lo' with
    |none=>exact hlo.elim
    |some x=>
     obtain⟨k1,k2⟩:=Is (E:=E) (w:=w) (code:=.sliceB) hlo h2 (Nat.le_refl _);exact⟨by simp[Instr.sliceBounds,q1,k1],k2,q2⟩
theorem GD{s:Bool}{len cap:Nat}{lo:Option Value}{hi mx:Value}{lo':Option AV}{hi' mx':AV}(hlo:Mr G lo lo')(hhi:VR G hi hi')(hmx:VR G mx mx'){l h m d d':Nat}(ht:len≤cap)
  (h0:bnd 0 len (some mx') d=some m) (h1:bnd 0 m (some hi') d'=some h) (h2:bnd 0 h lo' 0=some l):(Instr.sliceBounds s len cap lo (some hi) (some mx)).run E.P w= .ok (l,h,m) w∧l≤h∧h≤m∧m≤len:=by
 obtain⟨k1,k2⟩:=Is (E:=E) (w:=w) (code:=if s then .slice3Acap else .slice3Alen) hmx h0 ht
 obtain⟨k3,k4⟩:=Is (E:=E) (w:=w) (code:=.slice3B) hhi h1 (Nat.le_refl _);cases lo with
 |none=>
  cases lo' with
  |some _=>exact hlo.elim
  |none=>obtain rfl:=NO h2;exact⟨by simp[Instr.sliceBounds,k1,k3],Nat.zero_le _,k4,k2⟩
 |some v=>
  cases lo' with
  |none=>exact hlo.elim
  |some x=>
   obtain⟨q1,q2⟩:=Is (E:=E) (w:=w) (code:=.slice3C) hlo h2 (Nat.le_refl _);exact⟨by simp[Instr.sliceBounds,k1,k3,q1],q2,k4,k2⟩
theorem V5(A:Agree E){t:Nat}(ht:E.C.has t=true)(hk:(E.C.ty t).kind= .str){v:Value}{x y:AV}{lo hi:Option Value}{lo' hi':Option AV}(hv:VR G v x)(hlo:Mr G lo lo')(hhi:Mr G hi hi')
  (hy:Cz x lo' hi'=some y):∃r,(Instr.sliceAt t v lo hi none).run E.P w= .ok r w∧VR G r y∧y.cell1=true:=by
 have hul:=(A.ty t ht).str hk;cases hv with
 |str s=>
  simp only[Cz,Option.bind_eq_some_iff,Option.map_eq_some_iff] at hy;obtain⟨h,hh,l,hl,rfl⟩:=hy;have hsz:(⟨s.toArray⟩:ByteArray).size=s.length:=by simp[ByteArray.size]
  obtain⟨k1,k2,k3⟩:=Dk (E:=E) (w:=w) (s:=false) hlo hhi (Nat.le_refl s.length) hh hl;refine⟨.string ((⟨s.toArray⟩:ByteArray).extract l h),?_,?_,rfl⟩
  ·simp[Instr.sliceAt,run_underlying hul,Instr.slice,hsz,k1]
  ·have:(⟨s.toArray⟩:ByteArray).extract l h=⟨((s.take h).drop l).toArray⟩:=by
    apply ByteArray.ext;simp[ByteArray.extract,ByteArray.copySlice];rw[List.drop_take]
   rw[this];exact .str _
 |_=>simp[Cz] at hy
theorem XF{ei:TI}{x y m:AV}{lo hi:Option AV}(h:Dv ei x lo hi (some m)=some y):x.strip1.cell1=true∧Dv ei x.strip1 lo hi (some m)=some y∧y.cell1=true:=by
 cases x with
 |vs sz es r=>
  refine⟨AV.cell1_strip1 rfl,?_,?_⟩
  ·rw[←h];simp only[Dv,AV.strip1];cases r<;>rfl
  ·simp only[Dv] at h;split at h
   ·simp only[Option.bind_eq_some_iff] at h;obtain⟨a,_,b,_,c,_,h⟩:=h;split at h
    ·split at h
     ·cases h;rename_i e _;rw[e];rfl
     ·cases h
    ·cases h;simp only[Option.isSome_some,if_true];split<;>rfl
   ·cases h
 |rs sz id off len=>
  simp[Dv] at h
 |_=>simp[Dv] at h
theorem WU(A:Agree E){t e:Nat}(ht:E.C.has t=true)(he:E.C.has e=true)(hk:(E.C.ty t).kind= .slice e){κ:Key}{κc:Nat→Key}{v:Value}{x y:AV}{lo hi mx:Option Value}{lo' hi' mx':Option AV}
  (hv:Bw G w κ κc v x) (hlo:Mr G lo lo') (hhi:Mr G hi hi') (hmx:Mr G mx mx') (hy:Dv (E.C.ty e) x lo' hi' mx'=some y):
  ∃r,(Instr.sliceAt t v lo hi mx).run E.P w= .ok r w∧Bw G w κ κc r y:=by
 have hul:=(A.ty t ht).slice hk;have hvr:=hv.vr;cases hvr with
 |vsnil sz=>
  simp only[Dv] at hy;split at hy
  case isFalse=>cases hy
  rename_i hc;obtain⟨hsz,hmh⟩:=hc;simp only[Option.bind_eq_some_iff,if_true,List.length_nil] at hy;obtain⟨m,hm,h,hh,l,hl,hy⟩:=hy;split at hy
  case isFalse=>cases hy
  cases hy
  subst_vars
  refine⟨.slice none 0 0,?_,hv⟩;cases mx with
  |none=>
   cases mx' with
   |some _=>exact hmx.elim
   |none=>
    obtain⟨k1,k2,k3⟩:=Dk (E:=E) (w:=w) (s:=true) hlo hhi (Nat.le_refl 0) hh hl;have:h=0∧l=0:=by omega
    obtain⟨rfl,rfl⟩:=this;simp[Instr.sliceAt,run_underlying hul,Instr.slice,k1,run_sizeOf A he]
  |some mv=>
   cases mx' with
   |none=>exact hmx.elim
   |some ma=>
    cases hi' with
    |none=>simp at hmh
    |some ha=>
     cases hi with
     |none=>exact hhi.elim
     |some hv'=>
      obtain⟨k1,k2,k3,k4⟩:=GD (E:=E) (w:=w) (s:=true) hlo hhi hmx (Nat.le_refl 0) hm hh hl;have:h=0∧l=0:=by omega
      obtain⟨rfl,rfl⟩:=this;simp[Instr.sliceAt,run_underlying hul,Instr.slice,k1,run_sizeOf A he]
 |vse a sz r hr'=>
  have hr:r≠ .nil:=by rcases hr' with rfl|rfl<;>simp
  simp only[Dv] at hy;split at hy
  case isFalse=>cases hy
  rename_i hcnd;obtain⟨hsz,hmh⟩:=hcnd;simp only[Option.bind_eq_some_iff,hr,if_false,List.length_nil] at hy;obtain⟨m,hm,h,hh,l,hl,hy⟩:=hy;simp only[Option.some.injEq] at hy;have key:(Instr.sliceBounds true 0 0 lo hi mx).run E.P w= .ok (0,0,0) w∧m=0∧h=0∧l=0:=by
   cases mx with
   |none=>
    cases mx' with
    |some _=>exact hmx.elim
    |none=>
     simp only[bnd,Option.some.injEq] at hm;subst hm;obtain⟨k1,k2,k3⟩:=Dk (E:=E) (w:=w) (s:=true) hlo hhi (Nat.le_refl 0) hh hl;have:h=0∧l=0:=by omega
     obtain⟨rfl,rfl⟩:=this;exact⟨k1,rfl,rfl,rfl⟩
   |some mv=>
    cases mx' with
    |none=>exact hmx.elim
    |some ma=>
     cases hi' with
     |none=>simp at hmh
     |some ha=>
      cases hi with
      |none=>exact hhi.elim
      |some hv'=>
       obtain⟨k1,k2,k3,k4⟩:=GD (E:=E) (w:=w) (s:=true) hlo hhi hmx (Nat.le_refl 0) hm hh hl;have:m=0∧h=0∧l=0:=by omega
       obtain⟨rfl,rfl,rfl⟩:=this;exact⟨k1,rfl,rfl,rfl⟩
  obtain⟨k1,rfl,rfl,rfl⟩:=key;refine⟨.slice (some a) 0 0,?_,?_⟩
  ·simp[Instr.sliceAt,run_underlying hul,Instr.slice,k1,run_sizeOf A he]
  ·subst hy;have hr2:∀q:Rt,(q= .none∨q= .full)→Bw G w κ κc (.slice (some a) 0 0) (.vs sz [] q):=fun q hq=>.of_cell1 (.vse a sz q hq) (by rcases hq with rfl|rfl<;>rfl)
   simp only[List.take_nil,List.drop_nil,if_true];split
   ·exact hr2 _ (.inr rfl)
   ·exact hr2 _ hr'
 |vs b o cap sz es r g hr hc hf hs h1 h2=>
  simp only[Dv] at hy;split at hy
  case isFalse=>cases hy
  rename_i hcnd;obtain⟨hsz,hmh⟩:=hcnd;simp only[Option.bind_eq_some_iff,hr,if_false] at hy;obtain⟨m,hm,h,hh,l,hl,hy⟩:=hy;simp only[Option.some.injEq] at hy;have key:∃top,(Instr.sliceBounds true es.length cap lo hi mx).run E.P w= .ok (l,h,top) w∧l≤h∧h≤es.length∧h≤top∧(mx'=none→top=cap)∧(mx'.isSome=true→top=m):=by
   cases mx with
   |none=>
    cases mx' with
    |some _=>exact hmx.elim
    |none=>
     simp only[bnd,Option.some.injEq] at hm;subst hm;obtain⟨k1,k2,k3⟩:=Dk (E:=E) (w:=w) (s:=true) hlo hhi hc hh hl;exact⟨cap,k1,k2,k3,Nat.le_trans k3 hc,fun _=>rfl,by simp⟩
   |some mv=>
    cases mx' with
    |none=>exact hmx.elim
    |some ma=>
     cases hi' with
     |none=>simp at hmh
     |some ha=>
      cases hi with
      |none=>exact hhi.elim
      |some hv'=>
       obtain⟨k1,k2,k3,k4⟩:=GD (E:=E) (w:=w) (s:=true) hlo hhi hmx hc hm hh hl;exact⟨m,k1,k2,Nat.le_trans k3 k4,k3,by simp,fun _=>rfl⟩
  obtain⟨top,k1,k2,k3,k4,k5,k6⟩:=key;have hlen:((es.take h).drop l).length=h - l:=by simp;omega
  refine⟨.slice (some ⟨b,if top=l then o else o+l*sz,none⟩) (h - l) (top - l),?_,?_⟩
  ·simp only[Instr.sliceAt,Sem.run_bind,run_underlying hul,Result.andThen_ok,Instr.slice,k1,run_sizeOf A he,Sem.run_pure]
   by_cases e1:top=l
   ·simp[e1]
   ·simp[e1,Addr.add_lit,hsz]
  ·have hget:∀i e,((es.take h).drop l)[i]? =some e→es[l+i]? =some e∧top≠l:=by
    intro i e hi;have hlt:i < h - l:=by rw[←hlen];exact(List.getElem?_eq_some_iff.1 hi).1
    rw[List.getElem?_drop,List.getElem?_take,if_pos (by omega)] at hi
    exact⟨hi,by omega⟩
   have hvr':∀r',r'≠ .nil→(r'= .full→top - l=h - l)→VR G (.slice (some ⟨b,if top=l then o else o+l*sz,none⟩) (h - l) (top - l)) (.vs sz ((es.take h).drop l) r'):=by
    intro r' hr' hf';have:=VR.vs (G:=G) b (if top=l then o else o+l*sz) (top - l) sz ((es.take h).drop l) r' (fun i j=>g (l+i) j) hr' (by rw[hlen];omega) (by rw[hlen];exact hf')
     (fun e he=>hs e (List.mem_of_mem_take (List.mem_of_mem_drop he)))
     (fun i e j x hi hj=>by
      obtain⟨q1,q2⟩:=hget i e hi;rw[if_neg q2];have:=h1 (l+i) e j x q1 hj
      rwa [show o+l*sz+i*sz+j=o+(l+i)*sz+j by rw[Nat.add_mul];omega])
     (fun i e j x hi hj=>h2 (l+i) e j x (hget i e hi).1 hj)
    rwa [hlen] at this
   subst hy;refine⟨?_,?_,by simp,by simp,by simp⟩
   ·cases hmx':mx' with
    |none=>
     simp only[Option.isSome_none,Bool.false_eq_true,if_false]
     by_cases e2:h=es.length
     ·simp only[e2,if_true];rw[←e2];refine hvr' r hr fun e3=>?_
      have:=hf e3;have:=k5 hmx';omega
     ·simp only[e2,if_false];exact hvr' _ (by simp) (by simp)
    |some ma=>
     simp only[Option.isSome_some,if_true];have:=k6 (by simp[hmx'])
     by_cases e2:m=h
     ·simp only[e2,if_true];exact hvr' _ (by simp) (fun _=>by omega)
     ·simp only[e2,if_false];exact hvr' _ (by simp) (by simp)
   ·intro hown;cases hmx':mx' with
    |some ma=>
     rw[hmx'] at hown;simp only[Option.isSome_some,if_true] at hown;split at hown<;>simp[AV.own] at hown
    |none=>
     rw[hmx'] at hown;simp only[Option.isSome_none,Bool.false_eq_true,if_false] at hown ⊢
     by_cases e2:h=es.length
     ·simp only[e2,if_true] at hown ⊢;cases r<;>simp[AV.own] at hown
      obtain⟨b',o',len,cap',e3,sz',es',tt,e4,e5,htail⟩:=hv.tail rfl;cases e3;cases e4;have htop:=k5 hmx';refine⟨b,_,_,_,rfl,sz,_,_,rfl,?_,?_⟩
      ·rw[←e2];exact hlen
      ·obtain⟨t1,⟨arr,e,t2,t3,t5⟩,t4⟩:=htail;refine⟨t1,⟨arr,e,t2,?_,t5⟩,?_⟩
       ·by_cases e6:top=l
        ·simp only[e6,if_true,Nat.sub_self,Nat.zero_mul];omega
        ·simp only[e6,if_false];have:l*sz+(top - l)*sz=cap*sz:=by rw[←Nat.add_mul];congr 1;omega
         omega
       ·by_cases e6:top=l
        ·left;omega
        ·rcases t4 with t4|t4
         ·left;omega
         ·refine .inr fun j hj=>t4 j ?_
          simp only[e6,if_false] at hj;have:l*sz+(es.length - l)*sz=es.length*sz:=by rw[←Nat.add_mul];congr 1;omega
          omega
     ·simp only[e2,if_false] at hown;simp[AV.own] at hown
 |rs b id off len cap sz hr hc hcl=>
  simp only[Dv] at hy;split at hy
  case isFalse=>cases hy
  rename_i hcnd;obtain⟨hsz,hmn⟩:=hcnd;cases mx' with
  |some _=>simp at hmn
  |none=>
   cases mx with
   |some _=>exact hmx.elim
   |none=>
    simp only[Option.bind_eq_some_iff] at hy;obtain⟨h,hh,l,hl,hy⟩:=hy;obtain⟨k1,k2,k3⟩:=Dk (E:=E) (w:=w) (s:=true) hlo hhi hc hh hl;have hmul:l*sz+(cap - l)*sz=cap*sz:=by rw[←Nat.add_mul];congr 1;omega
    split at hy
    case isFalse=>
     rename_i hlt;cases hy;have hhl:h - l=0:=by omega
     have hv0:∀o:Nat,VR G (.slice (some ⟨b,o,none⟩) 0 (cap - l)) (.vs sz [] .none):=fun o=>
      .vs b o (cap - l) sz [] .none (fun _ _=>.nilFunc) (by simp) (by simp) (by simp) (by simp) (by simp) (by simp)
     by_cases e1:cap=l
     ·subst e1;refine⟨.slice (some ⟨b,off,none⟩) (h - cap) (cap - cap),?_,.of_cell1 (by rw[hhl];exact hv0 _) rfl⟩
      simp[Instr.sliceAt,run_underlying hul,Instr.slice,k1,run_sizeOf A he,Addr.add_lit,hsz]
     ·refine⟨.slice (some ⟨b,off+l*sz,none⟩) (h - l) (cap - l),?_,.of_cell1 (by rw[hhl];exact hv0 _) rfl⟩
      simp[Instr.sliceAt,run_underlying hul,Instr.slice,k1,run_sizeOf A he,e1,Addr.add_lit,hsz]
    rename_i hlt;cases hy;refine⟨.slice (some ⟨b,off+l*sz,none⟩) (h - l) (cap - l),?_,.of_cell1 (.rs b id _ _ _ sz hr (by omega) (by omega)) rfl⟩
    by_cases e0:l=0
    ·subst e0;simp[Instr.sliceAt,run_underlying hul,Instr.slice,k1,run_sizeOf A he,Addr.add_lit]
    ·have:cap≠l:=by omega
     simp[Instr.sliceAt,run_underlying hul,Instr.slice,k1,run_sizeOf A he,this,Addr.add_lit,hsz]
 |_=>simp[Dv] at hy
end Go.Av
