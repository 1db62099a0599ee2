/- Parts of the proofs of this seat: abstract values over the model, and what the functions of the program do. No condition. -/
import Derived.Test.YtehadbpejfjheaaGreatDoorM2
import Derived.Laws.BytesString
set_option linter.all false
set_option maxRecDepth 100000
namespace Go.Av
variable {E:Env} {G:Gh} {w:World} {S:St}
theorem VR.int_inv{v:Value}{k:IntKind}{n:Int}(h:VR G v (.int k n)):v= .int k n:=by cases h;rfl
theorem VR.bool_inv{v:Value}{b:Bool}(h:VR G v (.bool b)):v= .bool b:=by cases h;rfl
theorem VR.str_inv{v:Value}{l:List UInt8}(h:VR G v (.str l)):v= .string ⟨l.toArray⟩:=by cases h;rfl
theorem Vz{t:Nat}{x' y':Operand}{op:BinOp}{k:IntKind}{a b:Int}{r:AV}(h:Gw op k a b=some r):
    ∃v,(do eqGuard op t x' y' (.int k a) (.int k b);binOp op t (.int k a) (.int k b):Sem Value).run E.P w= .ok v w∧VR G v r∧r.cell1=true:=by
  rw[eqGuard_at_int];cases op<;>simp only[Gw] at h<;>first
    |(cases h;done)
    |(simp only[Option.some.injEq] at h;subst h;refine⟨_,?_,.int _ _,rfl⟩;simp[binOp,Op.intArith,Op.intBits];done)
    |(simp only[Option.some.injEq] at h;subst h;refine⟨_,?_,.int _ _,rfl⟩;simp[binOp,Op.intArith,Op.intBits]<;>rfl)
    |(simp only[Option.some.injEq] at h;subst h;refine⟨_,?_,.bool _,rfl⟩;simp[binOp,Op.intCmp];done)
    | (split at h
       · cases h
       · rename_i hb;simp only[Option.some.injEq] at h;subst h;exact⟨_,by simp[binOp,Op.intDiv,hb],.int _ _,rfl⟩)
theorem toList_mk(l:List UInt8):(⟨l.toArray⟩:ByteArray).toList=l:=ByteArray.toList_mk l
theorem VY{t:Nat}{x' y':Operand}{op:BinOp}{a b:List UInt8}{r:AV}(h:NW op a b=some r):
    ∃v,(do eqGuard op t x' y' (.string ⟨a.toArray⟩) (.string ⟨b.toArray⟩);binOp op t (.string ⟨a.toArray⟩) (.string ⟨b.toArray⟩):Sem Value).run E.P w= .ok v w∧VR G v r∧r.cell1=true:=by
  rw[eqGuard_at_string];cases op<;>simp only[NW] at h<;>first
    |(cases h;done)
    |(simp only[Option.some.injEq] at h;subst h;refine⟨_,?_,.bool _,rfl⟩;simp[binOp,Op.stringOp,toList_mk]<;>rfl)
    | (split at h
       · rename_i hle
         simp only[Option.some.injEq] at h;subst h;refine⟨.string (⟨a.toArray⟩++⟨b.toArray⟩),?_,?_,rfl⟩
         · have h1:(⟨a.toArray⟩:ByteArray).size=a.length:=by simp[ByteArray.size]
           have h2:(⟨b.toArray⟩:ByteArray).size=b.length:=by simp[ByteArray.size]
           have:¬(9223372036854775807 < (a.length:Int)+(b.length:Int)):=by omega
           simp[binOp,Op.stringOp,h1,h2,this]
         · have:(⟨a.toArray⟩++⟨b.toArray⟩:ByteArray)=⟨(a++b).toArray⟩:=by
             apply ByteArray.ext;simp
           rw[this];exact .str _
       · cases h)
theorem YU{t:Nat}{x' y':Operand}{op:BinOp}{u v:Value}{a b r:AV}(hu:VR G u a)(hv:VR G v b)(h:AJ op a b=some r):
  ∃z,(do eqGuard op t x' y' u v;binOp op t u v:Sem Value).run E.P w= .ok z w∧VR G z r∧r.cell1=true:=by
 unfold AJ at h;split at h
 ·rename_i k x k' y;obtain rfl:=hu.int_inv;obtain rfl:=hv.int_inv;split at h
  ·split at h
   ·cases h
   ·rename_i hy;cases h;refine⟨_,?_,.int _ _,rfl⟩;rw[eqGuard_at_int];simp[binOp,Op.shift,hy]
  ·split at h
   ·cases h
   ·rename_i hy;cases h;refine⟨_,?_,.int _ _,rfl⟩;rw[eqGuard_at_int];simp[binOp,Op.shift,hy]
  ·split at h
   ·rename_i e;subst e;exact Vz h
   ·cases h
 ·obtain rfl:=hu.str_inv;obtain rfl:=hv.str_inv;exact VY h
 ·cases h
theorem ZS{op:UnOp}{u:Value}{a r:AV}(hu:VR G u a)(h:unA op a=some r):∃z,(Op.unary op u).run E.P w= .ok z w∧VR G z r∧r.cell1=true:=by
 unfold unA at h;split at h
 ·obtain rfl:=hu.bool_inv;cases h;exact⟨_,rfl,.bool _,rfl⟩
 ·obtain rfl:=hu.int_inv;cases h;exact⟨_,rfl,.int _ _,rfl⟩
 ·cases h
theorem UE(A:Agree E){src dst:Nat}(hs:E.C.has src=true)(hd:E.C.has dst=true){k:IntKind}(hk:(E.C.ty dst).kind= .int k){u:Value}{a r:AV}(hu:VR G u a)(h:Ij k a=some r):
  ∃z,(convert src dst u).run E.P w= .ok z w∧VR G z r∧r.cell1=true:=by
 unfold Ij at h;split at h
 ·obtain rfl:=hu.int_inv;cases h;obtain⟨d,h1,_⟩:=(A.ty src hs).under;have h2:=(A.ty dst hd).int hk;exact⟨_,by simp[convert,run_underlying h1,run_underlying h2,Conv.intToInt],.int _ _,rfl⟩
 ·cases h
theorem UH(A:Agree E){src dst:Nat}(hs:E.C.has src=true)(hd:E.C.has dst=true)(hk:(E.C.ty dst).kind= .str)(hk':(E.C.ty src).kind= .str){u:Value}{a r:AV}(hu:VR G u a)(h:PJ a=some r):
  ∃z,(convert src dst u).run E.P w= .ok z w∧VR G z r∧r.cell1=true:=by
 unfold PJ at h;split at h
 ·obtain rfl:=hu.str_inv;cases h;have h1:=(A.ty src hs).str hk';have h2:=(A.ty dst hd).str hk;exact⟨_,by simp[convert,run_underlying h1,run_underlying h2],.str _,rfl⟩
 ·cases h
theorem JM:∀{es:List (List AV)} {l:List UInt8},bytesOf es=some l→l.length=es.length∧∀(i:Nat) (e:List AV),es[i]? =some e→∃n:Int,e=[.int .u8 n]∧l[i]? =some (UInt8.ofNat n.toNat)
 |[],l,h=>by simp only[bytesOf,Option.some.injEq] at h;subst h;exact⟨rfl,fun i e hi=>by simp at hi⟩
 |[.int .u8 n]::es,l,h=>by
  simp only[bytesOf] at h;split at h
  ·rename_i r hr;cases h;obtain⟨h1,h2⟩:=JM hr;refine⟨by simp[h1],fun i e hi=>?_⟩
   cases i with
   |zero=>simp at hi;subst hi;exact⟨n,rfl,rfl⟩
   |succ i=>simpa using h2 i e (by simpa using hi)
  ·cases h
 |[]::es,l,h=>by simp[bytesOf] at h
 |(a::b::r)::es,l,h=>by simp[bytesOf] at h
 |[.undef]::es,l,h=>by simp[bytesOf] at h
 |[.bool _]::es,l,h=>by simp[bytesOf] at h
 |[.str _]::es,l,h=>by simp[bytesOf] at h
 |[.nil]::es,l,h=>by simp[bytesOf] at h
 |[.ptr _ _]::es,l,h=>by simp[bytesOf] at h
 |[.ep _ _]::es,l,h=>by simp[bytesOf] at h
 |[.vs _ _ _]::es,l,h=>by simp[bytesOf] at h
 |[.rs _ _ _ _]::es,l,h=>by simp[bytesOf] at h
 |[.map _]::es,l,h=>by simp[bytesOf] at h
 |[.fn _ _ _]::es,l,h=>by simp[bytesOf] at h
 |[.nilfn]::es,l,h=>by simp[bytesOf] at h
 |[.ifc _ _]::es,l,h=>by simp[bytesOf] at h
 |[.nilifc]::es,l,h=>by simp[bytesOf] at h
 |[.agg _]::es,l,h=>by simp[bytesOf] at h
 |[.tup _]::es,l,h=>by simp[bytesOf] at h
 |[.int .i8 _]::es,l,h=>by simp[bytesOf] at h
 |[.int .i16 _]::es,l,h=>by simp[bytesOf] at h
 |[.int .i32 _]::es,l,h=>by simp[bytesOf] at h
 |[.int .i64 _]::es,l,h=>by simp[bytesOf] at h
 |[.int .u16 _]::es,l,h=>by simp[bytesOf] at h
 |[.int .u32 _]::es,l,h=>by simp[bytesOf] at h
 |[.int .u64 _]::es,l,h=>by simp[bytesOf] at h
theorem Rx(ns:List Int):∀acc:ByteArray,ns.foldl (fun r n=>r.push (UInt8.ofNat n.toNat)) acc=⟨acc.data++(ns.map fun n=>UInt8.ofNat n.toNat).toArray⟩:=by
 induction ns with
 |nil=>intro acc;apply ByteArray.ext;simp
 |cons n ns ih=>
  intro acc;rw[List.foldl_cons,ih];apply ByteArray.ext;simp[ByteArray.push]
theorem Qi(A:Agree E)(hr:Rel E G w S){src dst e:Nat}(hs:E.C.has src=true)(hd:E.C.has dst=true)(he:E.C.has e=true)(hk:(E.C.ty dst).kind= .str)(hk':(E.C.ty src).kind= .slice e)(hk2:(E.C.ty e).kind= .int .u8)
  {u:Value} {a r:AV} (hu:VR G u a) (h:SN a=some r):∃z,(convert src dst u).run E.P w= .ok z w∧VR G z r∧r.cell1=true:=by
 have h1:=(A.ty src hs).slice hk';have h2:=(A.ty dst hd).str hk;have h3:=(A.ty e he).int hk2;unfold SN at h;split at h
 case h_2=>cases h
 rename_i sz es rt;rw[Option.map_eq_some_iff] at h;obtain⟨l,hl,rfl⟩:=h;obtain⟨k1,k2⟩:=JM hl;cases hu with
 |vsnil=>
  have:l=[]:=by simpa using k1
  subst this;exact⟨.string .empty,by simp[convert,run_underlying h1,run_underlying h2,run_underlying h3,Conv.bytesToString],.str [],rfl⟩
 |vse a _=>
  have:l=[]:=by simpa using k1
  subst this;have hload:(loadCells a 0).run E.P w= .ok #[] w:=run_loadCells w a 0 (fun _=>undef) (fun i hi=>by omega)
  exact⟨.string .empty,by simp[convert,run_underlying h1,run_underlying h2,run_underlying h3,Conv.bytesToString,hload],.str [],rfl⟩
 |vs b o cap _ _ _ f hr' hc hf hsz him h22=>
  let ns:List Int:=(List.range es.length).map fun i=>match f i 0 with| .int _ n=>n|_=>0
  have hcell:∀i,i < es.length→∃n:Int,es[i]? =some [.int .u8 n]∧f i 0= .int .u8 n∧w.cell? ((⟨b,o,none⟩:Addr).add i)=some (.int .u8 n):=by
   intro i hi;have hei:es[i]? =some es[i]:=List.getElem?_eq_getElem hi;obtain⟨n,hn,_⟩:=k2 i _ hei;have hsz':=(hsz _ (List.getElem_mem hi)).1;rw[hn] at hsz' hei;simp at hsz';have hv:=h22 i _ 0 _ hei rfl;have hi':=him i _ 0 _ hei rfl;have hfv:=hv.int_inv;refine⟨n,hei,hfv,?_⟩;rw[Addr.add_lit];have:=hr.imm _ _ _ hi';rw[hfv] at this;rw[←hsz'] at this;simpa using this
  have hload:(loadCells ⟨b,o,none⟩ es.length).run E.P w= .ok ((List.range es.length).map fun i=>f i 0).toArray w:=
   run_loadCells w _ _ (fun i=>f i 0) fun i hi=>by obtain⟨n,_,q1,q2⟩:=hcell i hi;rw[q1];exact q2
  have hmap:(List.range es.length).map (fun i=>f i 0)=ns.map fun n=>Value.int .u8 n:=by
   simp only[ns,List.map_map];apply List.map_congr_left;intro i hi;obtain⟨n,_,q1,_⟩:=hcell i (by simpa using hi)
   simp[q1]
  have hlist:(ns.map fun n=>UInt8.ofNat n.toNat)=l:=by
   apply List.ext_getElem?;intro i
   by_cases hi:i < es.length
   ·obtain⟨n,q0,q1,_⟩:=hcell i hi;obtain⟨n',q2,q3⟩:=k2 i _ q0;simp at q2;subst q2;rw[q3];simp[ns,hi,q1]
   ·rw[List.getElem?_eq_none (by simp[ns];omega),List.getElem?_eq_none (by omega)]
  refine⟨.string ⟨l.toArray⟩,?_,.str l,rfl⟩;rw[run_convert_bytes_string w src dst e _ _ _ h1 h3 h2,run_bytesToString w ⟨b,o,none⟩ es.length cap ns (by rw[hload,hmap]),Rx,hlist]
  congr 2;apply ByteArray.ext;simp
theorem VP(A:Agree E){t ty:Nat}(ht:E.C.has t=true)(hk:(E.C.ty t).kind= .str){u:Value}{a r:AV}(hu:VR G u a)(h:DE a=some r):∃z,(Builtin.len_ #[t] ty #[u]).run E.P w= .ok z w∧VR G z r∧r.cell1=true:=by
 unfold DE at h;split at h
 ·obtain rfl:=hu.str_inv;cases h;rename_i s;refine⟨.int .i64 s.length,?_,.int _ _,rfl⟩;have hs:(⟨s.toArray⟩:ByteArray).size=s.length:=by simp[ByteArray.size]
  simp only[Builtin.len_,List.getElem?_toArray,List.getElem?_cons_zero,Sem.run_bind,run_underlying ((A.ty t ht).str hk),Result.andThen_ok,hs];rfl
 ·cases h
theorem XI(A:Agree E){t e ty:Nat}(ht:E.C.has t=true)(hk:(E.C.ty t).kind= .slice e){u:Value}{a r:AV}(hu:VR G u a)(h:BU a=some r):∃z,(Builtin.len_ #[t] ty #[u]).run E.P w= .ok z w∧VR G z r∧r.cell1=true:=by
 have h1:=(A.ty t ht).slice hk;unfold BU at h;split at h
 ·cases h;cases hu with
  |vsnil=>exact⟨_,by simp[Builtin.len_,run_underlying h1,goInt],.int _ _,rfl⟩
  |vse=>exact⟨_,by simp[Builtin.len_,run_underlying h1,goInt],.int _ _,rfl⟩
  |vs=>exact⟨_,by simp[Builtin.len_,run_underlying h1,goInt],.int _ _,rfl⟩
 ·cases h;cases hu;exact⟨_,by simp[Builtin.len_,run_underlying h1,goInt],.int _ _,rfl⟩
 ·cases h
theorem Rel.mapOf(h:Rel E G w S){id:Nat}{m:List (AV×AV)}(hs:Nn S id=some m):∃b es clk,S[id]? =some (.map m)∧G.rho id=some b∧G.role b= .obj id∧w.heap[b]? =some (.map es clk)∧es.size=m.length∧∀(i:Nat) (e:MapEntry) (p:AV×AV),es[i]? =some e→m[i]? =some p→GE G e p:=by
 unfold Nn at hs;split at hs
 ·rename_i m' hm;simp only[Option.some.injEq] at hs;subst hs;obtain⟨b,es,clk,h1,h2,h3,h4,h5⟩:=h.obj id _ hm;exact⟨b,es,clk,hm,h1,h2,h3,h4,h5⟩
 ·cases hs
theorem run_getObj_map{P:Program}{w:World}{b:Nat}{es:Array MapEntry}{clk:Nat}(h:w.heap[b]? =some (.map es clk)):(getObj b).run P w= .ok (.map es clk) w:=by
 simp[getObj,Sem.run,h]
theorem VZ(A:Agree E)(hr:Rel E G w S){t k e ty:Nat}(ht:E.C.has t=true)(hk:(E.C.ty t).kind= .map k e){u:Value}{a r:AV}(hu:VR G u a)(h:Sf S a=some r):∃z,(Builtin.len_ #[t] ty #[u]).run E.P w= .ok z w∧VR G z r∧r.cell1=true:=by
 have h1:=(A.ty t ht).map hk;unfold Sf at h;split at h
 ·cases h;cases hu;exact⟨_,by simp[Builtin.len_,run_underlying h1,goInt],.int _ _,rfl⟩
 ·rw[Option.map_eq_some_iff] at h;obtain⟨m,hm,rfl⟩:=h;cases hu with
  |map _ b hb=>
   obtain⟨b',es,clk,q1,q2,q3,q4,q5,_⟩:=hr.mapOf hm;rw[hb] at q2;cases q2;refine⟨.int .i64 m.length,by simp[Builtin.len_,run_underlying h1,run_getObj_map q4,goInt,q5],.int _ _,rfl⟩
 ·cases h
theorem Zk{ats:Array TypeId}{ty:Nat}{u v:Value}{a b r:AV}(hu:VR G u a)(hv:VR G v b)(h:XX [a,b]=some r):
  ∃z,(Builtin.min_ ats ty #[u,v]).run E.P w= .ok z w∧VR G z r∧r.cell1=true:=by
 unfold XX at h;split at h
 ·rename_i k x k' y e;simp only[List.cons.injEq,and_true] at e;obtain⟨rfl,rfl⟩:=e;obtain rfl:=hu.int_inv;obtain rfl:=hv.int_inv;split at h
  ·rename_i e;subst e;cases h;exact⟨_,by simp[Builtin.min_,Builtin.min2],.int _ _,rfl⟩
  ·cases h
 ·cases h
theorem ZP{ats:Array TypeId}{ty:Nat}{u v:Value}{a b r:AV}(hu:VR G u a)(hv:VR G v b)(h:TE [a,b]=some r):
  ∃z,(Builtin.max_ ats ty #[u,v]).run E.P w= .ok z w∧VR G z r∧r.cell1=true:=by
 unfold TE at h;split at h
 ·rename_i k x k' y e;simp only[List.cons.injEq,and_true] at e;obtain⟨rfl,rfl⟩:=e;obtain rfl:=hu.int_inv;obtain rfl:=hv.int_inv;split at h
  ·rename_i e;subst e;cases h;exact⟨_,by simp[Builtin.max_,Builtin.max2],.int _ _,rfl⟩
  ·cases h
 ·rename_i e;simp at e
 ·cases h
theorem YX{ats:Array TypeId}{ty:Nat}{u v x:Value}{a b c r:AV}(hu:VR G u a)(hv:VR G v b)(hx:VR G x c)(h:TE [a,b,c]=some r):
  ∃z,(Builtin.max_ ats ty #[u,v,x]).run E.P w= .ok z w∧VR G z r∧r.cell1=true:=by
 unfold TE at h;split at h
 ·rename_i e;simp at e
 ·rename_i k x k' y k2 z e;simp only[List.cons.injEq,and_true] at e;obtain⟨rfl,rfl,rfl⟩:=e;obtain rfl:=hu.int_inv;obtain rfl:=hv.int_inv;obtain rfl:=hx.int_inv;split at h
  ·rename_i e;obtain⟨rfl,rfl⟩:=e;cases h;exact⟨_,by simp[Builtin.max_,Builtin.max2],.int _ _,rfl⟩
  ·cases h
 ·cases h
variable {E:Env} {G:Gh} {w:World} {S:St}
theorem Xv(h:Rel E G w S){i j b b':Nat}{cs cs':List AV}(hi:Co S i=some cs)(hj:Co S j=some cs')(hne:i≠j)(hb:G.rho i=some b)(hb':G.rho j=some b'):
  b≠b'∧(∃arr e,w.heap[b]? =some (.cells arr e (0,0)))∧∃arr e,w.heap[b']? =some (.cells arr e (0,0)):=by
 obtain⟨b1,arr1,e1,_,h2,h3,h4,_⟩:=h.cells hi;obtain⟨b2,arr2,e2,_,k2,k3,k4,_⟩:=h.cells hj;rw[hb] at h2;cases h2;rw[hb'] at k2;cases k2;refine⟨?_,⟨_,_,h4⟩,_,_,k4⟩;rintro rfl;rw[h3] at k3;simp at k3;exact hne k3
theorem TC{P:Program}{w:World}{a b:Addr}(hne:a.block≠b.block)(ha:∃arr e,w.heap[a.block]? =some (.cells arr e (0,0)))(hb:∃arr e,w.heap[b.block]? =some (.cells arr e (0,0))):
  (sameAddr a b).run P w= .ok false w:=by
 obtain⟨arr,e,ha⟩:=ha;obtain⟨arr',e',hb⟩:=hb;have fa:∀o s,w.frozen? ⟨a.block,o,s⟩=false:=fun o s=>by simp[World.frozen?,ha]
 have fb:∀o s,w.frozen? ⟨b.block,o,s⟩=false:=fun o s=>by simp[World.frozen?,hb]
 have fa':w.frozen? a=false:=fa a.off a.spot;have fb':w.frozen? b=false:=fb b.off b.spot;have sa:w.shape? a.block=some (e,arr.size):=by simp[World.shape?,ha]
 have sb:w.shape? b.block=some (e',arr'.size):=by simp[World.shape?,hb]
 simp[sameAddr,hne,fa',fb',noView,viewAt,sa,sb,mayBeOne,stringish,fa,fb]
theorem OU(C:Ctx){t:Nat}{lit:Bool}:match JR C t lit with
  | .bool=>(C.ty t).kind= .bool
  | .ptr=>∃e,(C.ty t).kind= .ptr e
  | .ptr2=>∃e,(C.ty t).kind= .ptr e∧C.has e=true∧(C.ty e).size≠0
  | .slice=>∃e,(C.ty t).kind= .slice e
  | .map=>∃k e,(C.ty t).kind= .map k e
  | .ifc=>(C.ty t).kind= .iface∧lit=true
  | .fn=>(C.ty t).kind= .func
  | .agg z=>C.eqk t=true∧z=(C.ty t).zero
  |_=>True:=by
 unfold JR;cases hk:(C.ty t).kind<;>simp only<;>(try trivial)<;>(try exact⟨_,rfl⟩)<;>(try exact⟨_,_,rfl⟩)<;>(try rfl)
 ·cases hq:C.eqk t<;>simp[hq]
 ·rename_i e;cases lit with
  |true=>exact⟨_,rfl⟩
  |false=>
   cases h1:C.has e&&!(Nat.beq (C.ty e).size 0) with
   |false=>simp[h1]
   |true=>
    simp only[Bool.and_eq_true,Bool.not_eq_true'] at h1;simp only[h1.1,h1.2,Bool.not_false,Bool.and_self];refine⟨e,rfl,h1.1,fun e0=>?_⟩
    rw[e0] at h1;simp at h1
 ·cases lit<;>simp
theorem Jl.kindU{P:Program}{t:Nat}{ti:TI}(h:Jl P t ti):∃d,P.underlying t=some d∧kindOk P d ti.kind=true:=by
 obtain⟨d,h1,h2,_⟩:=h.under;exact⟨d,h1,h2⟩
theorem C8{P:Program}{w:World}{t:Nat}{u v:Value}{r:Bool}(h:∀d,(Op.equalIn (d+1) t u v).run P w= .ok r w):(Op.equal t u v).run P w= .ok r w:=h 9999
def Nj(E:Env)(w:World)(t:Nat)(x' y':Operand)(u v:Value)(r:Bool):Prop:=
 (∀op,(eqGuard op t x' y' u v).run E.P w= .ok () w)∧(Op.equal t u v).run E.P w= .ok r w∧
  (binOp .eql t u v).run E.P w=((Op.equal t u v).run E.P w).andThen (fun b w=>.ok (.bool b) w)∧(binOp .neq t u v).run E.P w=((Op.equal t u v).run E.P w).andThen (fun b w=>.ok (.bool (!b)) w)
theorem Nj.mk'{t:Nat}{x' y':Operand}{u v:Value}{r:Bool}(h1:∀op,(eqGuard op t x' y' u v).run E.P w= .ok () w)(h2:(Op.equal t u v).run E.P w= .ok r w)
  (h3:binOp .eql t u v=(Op.equal t u v >>= fun b=>pure (.bool b))) (h4:binOp .neq t u v=(Op.equal t u v >>= fun b=>pure (.bool (!b)))):Nj E w t x' y' u v r:=
 ⟨h1,h2,by rw[h3,Sem.run_bind];rfl,by rw[h4,Sem.run_bind];rfl⟩
theorem Nj.finish{t:Nat}{x' y':Operand}{u v:Value}{r:Bool}(h:Nj E w t x' y' u v r){op:BinOp}{z:AV}(hz:(match op with| .eql=>some (AV.bool r)| .neq=>some (.bool (!r))|_=>none)=some z):
  ∃q,(do eqGuard op t x' y' u v;binOp op t u v:Sem Value).run E.P w= .ok q w∧VR G q z∧z.cell1=true:=by
 obtain⟨h1,h2,h3,h4⟩:=h;cases op<;>simp at hz
 ·subst hz;exact⟨.bool r,by rw[Sem.run_bind,h1,Result.andThen_ok,h3,h2];rfl,.bool _,rfl⟩
 ·subst hz;exact⟨.bool (!r),by rw[Sem.run_bind,h1,Result.andThen_ok,h4,h2];rfl,.bool _,rfl⟩
theorem WA(A:Agree E){t:Nat}(ht:E.C.has t=true){x' y':Operand}{k:EK}(hk:JR E.C t (isLit x'||isLit y')=k){u v:Value}{a b:AV}{r:Bool}(hu:VR G u a)(hv:VR G v b)(h:eqA k a b=some r):
  Nj E w t x' y' u v r:=by
 have hs:=OU E.C (t:=t) (lit:=isLit x'||isLit y');rw[hk] at hs;obtain⟨d,hd,hkd⟩:=(A.ty t ht).kindU;unfold eqA at h;split at h<;>(try simp only[Option.some.injEq,reduceCtorEq] at h)<;>(try simp only at hs)
 case h_1=>
  obtain rfl:=hu.bool_inv;obtain rfl:=hv.bool_inv;rw[hs] at hkd;cases d<;>simp[kindOk] at hkd
  exact .mk' (fun op=>by rw[eqGuard_at_bool];rfl) (C8 fun d=>by rw[Op.equalIn];simp[run_underlying hd,h]) rfl rfl
 case h_2=>
  cases hu;cases hv;subst h;obtain⟨e,hs⟩:=hs;rw[hs] at hkd;cases d<;>simp[kindOk] at hkd
  exact .mk' (fun op=>by rw[eqGuard_at_pointer];rfl) (C8 fun d=>by rw[Op.equalIn];simp[run_underlying hd]) rfl rfl
 case h_3=>
  cases hu;cases hv;subst h;obtain⟨e,hs⟩:=hs;rw[hs] at hkd;cases d<;>simp[kindOk] at hkd
  exact .mk' (fun op=>by rw[eqGuard_at_pointer];rfl) (C8 fun d=>by rw[Op.equalIn];simp[run_underlying hd]) rfl rfl
 case h_4=>
  cases hu;cases hv;subst h;obtain⟨e,hs⟩:=hs;rw[hs] at hkd;cases d<;>simp[kindOk] at hkd
  exact .mk' (fun op=>by rw[eqGuard_at_pointer];rfl) (C8 fun d=>by rw[Op.equalIn];simp[run_underlying hd]) rfl rfl
 case h_5=>
  cases hu;cases hv;subst h;obtain⟨e,hs⟩:=hs;rw[hs] at hkd;cases d<;>simp[kindOk] at hkd
  exact .mk' (fun op=>by rw[eqGuard_at_pointer];rfl) (C8 fun d=>by rw[Op.equalIn];simp[run_underlying hd]) rfl rfl
 case h_6=>
  cases hu;cases hv;subst h;obtain⟨e,hs⟩:=hs;rw[hs] at hkd;cases d<;>simp[kindOk] at hkd
  exact .mk' (fun op=>by rw[eqGuard_at_pointer];rfl) (C8 fun d=>by rw[Op.equalIn];simp[run_underlying hd]) rfl rfl
 case h_7=>
  obtain⟨e,hs⟩:=hs;rw[hs] at hkd;cases d<;>simp[kindOk] at hkd
  cases hv with
  |vse _ _ _ hr=>simp at hr
  |vs _ _ _ _ _ _ _ hr=>exact(hr rfl).elim
  |vsnil=>
   cases hu with
   |vsnil=>exact .mk' (fun op=>by rw[eqGuard_at_slice];rfl) (C8 fun d=>by rw[Op.equalIn];simp[run_underlying hd,←h]) rfl rfl
   |vse _ _ _ hr=>
    have hn:r=false:=by
     rw[←h];exact beq_eq_false_iff_ne.2 (by rcases hr with rfl|rfl<;>simp)
    subst hn;exact .mk' (fun op=>by rw[eqGuard_at_slice];rfl) (C8 fun d=>by rw[Op.equalIn];simp[run_underlying hd]) rfl rfl
   |vs b o cap _ _ _ f hr=>
    have hn:r=false:=by
     rw[←h];exact beq_eq_false_iff_ne.2 hr
    subst hn;exact .mk' (fun op=>by rw[eqGuard_at_slice];rfl) (C8 fun d=>by rw[Op.equalIn];simp[run_underlying hd]) rfl rfl
 case h_8=>
  obtain⟨e,hs⟩:=hs;rw[hs] at hkd;cases d<;>simp[kindOk] at hkd
  subst h;cases hv with
  |vse _ _ _ hr=>simp at hr
  |vs _ _ _ _ _ _ _ hr=>exact(hr rfl).elim
  |vsnil=>
   cases hu;exact .mk' (fun op=>by rw[eqGuard_at_slice];rfl) (C8 fun d=>by rw[Op.equalIn];simp[run_underlying hd]) rfl rfl
 case h_9=>
  obtain⟨k',e,hs⟩:=hs;rw[hs] at hkd;cases d<;>simp[kindOk] at hkd
  subst h;cases hv;cases hu<;>exact .mk' (fun op=>by rw[eqGuard_at_map];rfl) (C8 fun d=>by rw[Op.equalIn];simp[run_underlying hd]) rfl rfl
 case h_10=>
  obtain⟨hs,hlit⟩:=hs;rw[hs] at hkd;cases d<;>simp[kindOk] at hkd
  subst h;cases hv;cases hu;refine .mk' (fun op=>?_) (C8 fun d=>by rw[Op.equalIn];simp[run_underlying hd]) rfl rfl
  cases x'<;>cases y'<;>simp[isLit] at hlit<;>simp[eqGuard_nil_constR,eqGuard_nil_constL]
 case h_11=>
  obtain⟨hs,hlit⟩:=hs;rw[hs] at hkd;cases d<;>simp[kindOk] at hkd
  subst h;cases hv;cases hu;exact .mk' (fun op=>by rw[eqGuard_at_iface];rfl) (C8 fun d=>by rw[Op.equalIn];simp[run_underlying hd]) rfl rfl
 case h_12=>
  rw[hs] at hkd;cases d<;>simp[kindOk] at hkd
  subst h;cases hv;cases hu;exact .mk' (fun op=>by rw[eqGuard_at_nilFunc];rfl) (C8 fun d=>by rw[Op.equalIn];simp[run_underlying hd]) rfl rfl
 case h_13=>
  rw[hs] at hkd;cases d<;>simp[kindOk] at hkd
  subst h;cases hv;cases hu;exact .mk' (fun op=>by rw[eqGuard_at_func];rfl) (C8 fun d=>by rw[Op.equalIn];simp[run_underlying hd]) rfl rfl
 case h_14=>
  obtain⟨hs,rfl⟩:=hs;split at h
  case isFalse=>cases h
  rename_i hty;have hu':=hu;have hv':=hv;cases hu;cases hv;exact .mk' (fun op=>A.eqg t hs _ _ _ _ _ _) (A.eq t hs _ _ _ _ _ _ hu' hv' hty h w) rfl rfl
theorem YE(A:Agree E){t:Nat}(ht:E.C.has t=true){x' y':Operand}{k:EK}(hk:JR E.C t (isLit x'||isLit y')=k){op:BinOp}{u v:Value}{a b r:AV}(hu:VR G u a)(hv:VR G v b)(h:GC k op a b=some r):
  ∃z,(do eqGuard op t x' y' u v;binOp op t u v:Sem Value).run E.P w= .ok z w∧VR G z r∧r.cell1=true:=by
 unfold GC at h;split at h
 ·rw[Option.map_eq_some_iff] at h;obtain⟨q,h1,rfl⟩:=h;exact(WA A ht hk hu hv h1).finish rfl
 ·rw[Option.map_eq_some_iff] at h;obtain⟨q,h1,rfl⟩:=h;exact(WA A ht hk hu hv h1).finish rfl
 ·cases h
theorem JZ{P:Program}{w:World}(d:Nat){t e:Nat}{s:Nat}(h1:P.underlying t=some (.pointer e))(h2:(sizeOf e).run P w= .ok s w)(h3:s≠0)(a b:Addr):
  (Op.equalIn (d+1) t (.pointer (some a)) (.pointer (some b))).run P w=(sameAddr a b).run P w:=by
 rw[Op.equalIn];simp only[Sem.run_bind,run_underlying h1,Result.andThen_ok,h2,h3,ne_eq,not_false_eq_true,if_true]
theorem MK{P:Program}{w:World}{a b:Addr}(h:a.block=b.block):(sameAddr a b).run P w= .ok (a==b) w:=by
 unfold sameAddr;simp[h]
theorem Rr(A:Agree E)(hr:Rel E G w S){t:Nat}(ht:E.C.has t=true){x' y':Operand}(hk:JR E.C t (isLit x'||isLit y')= .ptr2){u v:Value}{a b:AV}{r:Bool}(hu:VR G u a)(hv:VR G v b)(h:R8 S a b=some r):
  Nj E w t x' y' u v r:=by
 have hs:=OU E.C (t:=t) (lit:=isLit x'||isLit y');rw[hk] at hs;obtain⟨e,h1,h2,h3⟩:=hs;obtain⟨d,hd,hkd⟩:=(A.ty t ht).kindU;rw[h1] at hkd;cases d<;>simp[kindOk] at hkd
 subst hkd;unfold R8 at h;split at h
 ·rename_i i a j b;cases hu with
  |ptr _ _ bi hbi=>
   cases hv with
   |ptr _ _ bj hbj=>
    split at h
    ·rename_i hij;subst hij;rw[hbi] at hbj;cases hbj;cases h;refine .mk' (fun op=>by rw[eqGuard_at_pointer];rfl) ?_ rfl rfl
     have:((⟨bi,a,none⟩:Addr)==⟨bi,b,none⟩)=(a==b):=by
      by_cases e:a=b
      ·subst e;simp only[BEq.rfl]
      ·have:(⟨bi,a,none⟩:Addr)≠⟨bi,b,none⟩:=by simp[e]
       simp only[beq_eq_false_iff_ne.2 this,beq_eq_false_iff_ne.2 e]
     rw[Op.equal,Op.maxDepth,JZ 9999 hd (run_sizeOf A h2 w) h3,MK (a:=⟨bi,a,none⟩) (b:=⟨bi,b,none⟩) rfl,this]
    ·rename_i hij;split at h
     ·rename_i hc;cases h;obtain⟨cs,hcs⟩:=Option.isSome_iff_exists.1 hc.1;obtain⟨cs',hcs'⟩:=Option.isSome_iff_exists.1 hc.2;obtain⟨k1,k2,k3⟩:=Xv hr hcs hcs' hij hbi hbj;refine .mk' (fun op=>by rw[eqGuard_at_pointer];rfl) ?_ rfl rfl
      have:=TC (P:=E.P) (w:=w) (a:=⟨bi,a,none⟩) (b:=⟨bj,b,none⟩) k1 k2 k3;rw[Op.equal,Op.maxDepth,JZ 9999 hd (run_sizeOf A h2 w) h3,this]
     ·cases h
 ·unfold eqA at h;split at h<;>(try simp only[Option.some.injEq,reduceCtorEq] at h)
  all_goals (try contradiction)
  all_goals
   cases hu;cases hv;subst h;exact .mk' (fun op=>by rw[eqGuard_at_pointer];rfl) (C8 fun d=>by rw[Op.equalIn];simp[run_underlying hd]) rfl rfl
theorem YK(A:Agree E)(hr:Rel E G w S){t:Nat}(ht:E.C.has t=true){x' y':Operand}(hk:JR E.C t (isLit x'||isLit y')= .ptr2){op:BinOp}{u v:Value}{a b r:AV}(hu:VR G u a)(hv:VR G v b)(h:Zt S op a b=some r):
  ∃z,(do eqGuard op t x' y' u v;binOp op t u v:Sem Value).run E.P w= .ok z w∧VR G z r∧r.cell1=true:=by
 unfold Zt at h;split at h
 ·rw[Option.map_eq_some_iff] at h;obtain⟨q,h1,rfl⟩:=h;exact(Rr A hr ht hk hu hv h1).finish rfl
 ·rw[Option.map_eq_some_iff] at h;obtain⟨q,h1,rfl⟩:=h;exact(Rr A hr ht hk hu hv h1).finish rfl
 ·cases h
end Go.Av
