/- Parts of the proofs of this seat: abstract values over the model, and what the functions of the program do. No condition. -/
import GoSem.Dispatch
import Derived.Control
import Derived.Calls
import Derived.Orders
set_option linter.all false
set_option maxRecDepth 100000
namespace Go.Av
inductive Rt|nil|own(t:Nat)|full|none
 deriving DecidableEq,Repr,Inhabited
def Rt.strip:Rt→Rt| .own _=>.none|r=>r
inductive AV where
 |undef
 |int (k:IntKind) (n:Int)
 |bool (b:Bool)
 |str (s:List UInt8)
 |nil
 |ptr (id off:Nat)
 |ep (cs:List AV) (off:Nat)
 |vs (sz:Nat) (es:List (List AV)) (r:Rt)
 |rs (sz id off len:Nat)
 |map (id:Option Nat)
 |fn (f:Nat) (first cap:List AV)
 |nilfn
 |ifc (t:Nat) (v:AV)
 |nilifc
 |agg (cs:List AV)
 |tup (vs:List AV)
 deriving Inhabited
def AV.strip1:AV→AV
 | .vs sz es r=>.vs sz es r.strip
 |a=>a
def AV.strip2:AV→AV
 | .agg cs=>.agg (cs.map AV.strip1)
 |a=>a.strip1
def AV.strip:AV→AV
 | .tup cs=>.tup (cs.map AV.strip2)
 |a=>a.strip2
def AV.strip0:AV→AV
 | .agg cs=>.agg (cs.map AV.strip1)
 |a=>a
def AV.flat:AV→AV
 | .tup _=>.undef
 |a=>a
def AV.cells:AV→List AV
 | .agg cs=>cs
 |a=>[a]
def AV.free1:AV→Bool
 | .undef| .agg _| .tup _=>false
 |_=>true
def AV.free:AV→Bool
 | .agg cs=>cs.all AV.free1
 |a=>a.free1
inductive Obj where
 |cells (cs:List AV) (e:Nat)
 |map (m:List (AV×AV))
 |bld (T e:Nat) (l:List UInt8)
 |dead
 deriving Inhabited
abbrev St:=List Obj
structure Fr where
 v:Nat→AV
 b:Nat→Option (List AV)
def Fr.set(fr:Fr)(t:Nat)(a:AV):Fr:={fr with v:=fun j=>if j=t then a else fr.v j}
def Fr.put(fr:Fr)(t:Option Nat)(a:AV):Fr:=match t with|some t=>fr.set t a|none=>fr
def Fr.setB(fr:Fr)(t:Nat)(cs:Option (List AV)):Fr:={fr with b:=fun j=>if j=t then cs else fr.b j}
def C7(b:Option (List AV))(off:Nat):Option (List AV):=b.map fun cs=>cs.modify off AV.strip1
inductive TK where
 |struct (fs:List (Nat×Nat×Nat))
 |slice (e:Nat)
 |array (n e:Nat)
 |map (k e:Nat)
 |str
 |int (k:IntKind)
 |bool
 |ptr (e:Nat)
 |iface
 |func
 |tuple
 |other
structure TI where
 size:Nat
 bytes:Nat
 agg:Bool
 zero:List AV
 kind:TK
 id:Nat:=0
structure Ctx where
 ty:Nat→TI
 has:Nat→Bool
 eqk:Nat→Bool
 loc:Nat→Nat→Bool
 byref:Nat→Bool
 meth:Nat→String→Option Nat
 live:Nat→Nat→List Nat×List Nat
 tk:Nat→Nat→Bool:=fun _ _=>false
def AA{α:Type}(o:Option α)(k:α→Prop):Prop:=match o with|some x=>k x|none=>False
section ops
variable (C:Ctx)
def ofConst(t:Nat):Value→AV
 | .int k n=>.int k n
 | .bool b=>.bool b
 | .string s=>.str s.data.toList
 | .pointer none=>.nil
 | .slice none 0 0=>match (C.ty t).kind with| .slice e=>.vs (C.ty e).size [] .nil|_=>.undef
 | .map none=>.map none
 | .nilFunc=>.nilfn
 | .nilIface=>.nilifc
 |_=>.undef
def opd(fr:Fr)(t:Nat):Operand→AV
 | .tmp x=>fr.v x
 | .const v=>ofConst C t v
 | .func f=>.fn f [] []
 | .global _=>.undef
def Fr.stripAt(fr:Fr):Operand→Fr
 | .tmp x=>fr.set x (fr.v x).strip
 |_=>fr
def Co(S:St)(id:Nat):Option (List AV):=
 match S[id]? with|some (.cells cs _)=>some cs|_=>none
def Hr(S:St)(id:Nat):Nat:=
 match S[id]? with|some (.cells _ e)=>e|_=>0
def Nn(S:St)(id:Nat):Option (List (AV×AV)):=
 match S[id]? with|some (.map m)=>some m|_=>none
def IE(i:TI)(cs:List AV)(off:Nat):Option AV:=
 if i.agg then (if off+i.size≤cs.length then some (.agg ((cs.drop off).take i.size)) else none)
 else cs[off]?
def De(cs:List AV)(off:Nat)(xs:List AV):List AV:=cs.take off++xs++cs.drop (off+xs.length)
def Ap(i:TI)(S:St)(a:AV):Option AV:=
 match a with
 | .ptr id off=>(Co S id).bind fun cs=>IE i cs off
 | .ep cs off=>IE i cs off
 |_=>none
def AB(i:TI)(b:Option (List AV))(off:Nat):Option AV:=b.bind fun cs=>IE i cs off
def Ei(i:TI)(cs:List AV)(off:Nat)(x:AV):Option (List AV):=
 if x.free=true∧x.cells.length=i.size∧off+i.size≤cs.length then some (De cs off x.cells) else none
def CU(i:TI)(S:St)(a x:AV):Option St:=
 match a with
 | .ptr id off=>(Co S id).bind fun cs=>(Ei i cs off x).map fun cs'=>S.set id (.cells cs' (Hr S id))
 |_=>none
def Ai(i:TI)(b:Option (List AV))(off:Nat)(x:AV):Option (List AV):=b.bind fun cs=>Ei i cs off x
def stripMem(S:St)(a:AV):St:=
 match a with
 | .ptr id off=>match Co S id with
  |some cs=>S.set id (.cells (cs.modify off AV.strip1) (Hr S id))
  |none=>S
 |_=>S
def KB(t i:Nat):Option Nat:=
 match (C.ty t).kind with
 | .struct fs=>match fs[i]? with|some (fo,_,sz)=>if sz=0 then none else some fo|none=>none
 |_=>none
def D2(a:AV)(d:Nat):Option AV:=
 match a with
 | .ptr id off=>some (.ptr id (off+d))
 | .ep cs off=>some (.ep cs (off+d))
 |_=>none
def BB(ei:TI)(a x:AV):Option AV:=
 match x with
 | .int _ i=>match a with
  | .vs sz es _=>if sz=ei.size∧0≤i then (es[i.toNat]?).map (.ep · 0) else none
  | .rs sz id off len=>if sz=ei.size∧0≤i∧i < len then some (.ptr id (off+i.toNat*sz)) else none
  |_=>none
 |_=>none
def X5(n:Nat)(ei:TI)(a x:AV):Option AV:=
 match x with
 | .int _ i=>if 0≤i∧i < n then D2 a (i.toNat*ei.size) else none
 |_=>none
def FX(a x:AV):Option AV:=
 match a,x with
 | .str s,.int _ i=>if 0≤i then (s[i.toNat]?).map (fun b=>.int .u8 b.toNat) else none
 |_,_=>none
def Tj:AV→Option AV
 | .tup _=>none
 |a=>some a
def Uf(n:Nat)(ei:TI)(a x:AV):Option AV:=
 match a,x with
 | .agg cs,.int _ i=>if 0≤i∧i < n then (IE ei cs (i.toNat*ei.size)).bind Tj else none
 |_,_=>none
def He(fi:TI)(a:AV)(fo:Nat):Option AV:=
 match a with
 | .agg cs=>(IE fi cs fo).bind Tj
 |_=>none
def bnd(lo hi:Nat):Option AV→Nat→Option Nat
 |some (.int _ n),_=>if (lo:Int)≤n∧n≤hi then some n.toNat else none
 |some _,_=>none
 |none,d=>some d
def Cz(x:AV)(lo hi:Option AV):Option AV:=
 match x with
 | .str s=>(bnd 0 s.length hi s.length).bind fun h=>(bnd 0 h lo 0).map fun l=>.str ((s.take h).drop l)
 |_=>none
def Dv(ei:TI)(x:AV)(lo hi mx:Option AV):Option AV:=
 match x with
 | .vs sz es r=>
  if sz=ei.size∧(mx.isSome&&hi.isNone)=false then
   (bnd 0 es.length mx es.length).bind fun m=>(bnd 0 m hi es.length).bind fun h=>(bnd 0 h lo 0).bind fun l=>
    if r= .nil then (if m=0 then some x else none) else
     some (.vs sz ((es.take h).drop l) (if mx.isSome then (if m=h then .full else .none) else if h=es.length then r else .none))
  else none
 | .rs sz id off len => if sz = ei.size ∧ mx.isNone then
   (bnd 0 len hi len).bind fun h=>(bnd 0 h lo 0).bind fun l=>if l < h∨l=0 then some (.rs sz id (off+l*sz) (h - l)) else some (.vs sz [] .none)
  else none
 |_=>none
def RM(fs:List (Nat×Nat×Nat)):List (Nat×AV)→List AV→Option (List AV)
 |[],cs=>some cs
 |(i,a)::l,cs=>match fs[i]? with
  |some (fo,_,sz)=>if a.free&&a.cells.length==sz&&fo+sz≤cs.length then RM fs l (De cs fo a.strip.cells) else none
  |none=>none
def Rg(sz:Nat):List (Nat×AV)→List AV→Option (List AV)
 |[],cs=>some cs
 |(i,a)::l,cs=>if a.free&&a.cells.length==sz&&i*sz+sz≤cs.length then Rg sz l (De cs (i*sz) a.strip.cells) else none
def Gw(op:BinOp)(k:IntKind)(a b:Int):Option AV:=
 match op with
 | .add=>some (.int k (k.wrap (a+b)))
 | .sub=>some (.int k (k.wrap (a - b)))
 | .mul=>some (.int k (k.wrap (a*b)))
 | .quo=>if b=0 then none else some (.int k (k.wrap (a.tdiv b)))
 | .rem=>if b=0 then none else some (.int k (a.tmod b))
 | .and=>some (.int k (k.wrap ((BitVec.ofInt k.bits a&&&BitVec.ofInt k.bits b).toNat)))
 | .or=>some (.int k (k.wrap ((BitVec.ofInt k.bits a|||BitVec.ofInt k.bits b).toNat)))
 | .xor=>some (.int k (k.wrap ((BitVec.ofInt k.bits a ^^^ BitVec.ofInt k.bits b).toNat)))
 | .eql=>some (.bool (a==b))
 | .neq=>some (.bool (a != b))
 | .lss=>some (.bool (decide (a < b)))
 | .leq=>some (.bool (decide (a≤b)))
 | .gtr=>some (.bool (decide (a > b)))
 | .geq=>some (.bool (decide (a≥b)))
 |_=>none
def NW(op:BinOp)(a b:List UInt8):Option AV:=
 match op with
 | .add=>if a.length+b.length≤1000000000000 then some (.str (a++b)) else none
 | .eql=>some (.bool (a==b))
 | .neq=>some (.bool (!(a==b)))
 | .lss=>some (.bool (Op.bytesLess a b))
 | .leq=>some (.bool (Op.bytesLess a b||a==b))
 | .gtr=>some (.bool (!(Op.bytesLess a b||a==b)))
 | .geq=>some (.bool (!(Op.bytesLess a b)))
 |_=>none
def El:AV→AV→Option Bool
 | .int k a,.int k' b=>if k=k' then some (a==b) else none
 | .bool a,.bool b=>some (a==b)
 | .str a,.str b=>some (a==b)
 |_,_=>none
def BZ:List AV→List AV→Option Bool
 |[],[]=>some true
 |a::l,b::m=>match El a b with
  |some true=>BZ l m
  |some false=>match BZ l m with|some _=>some false|none=>none
  |none=>none
 |_,_=>none
inductive EK|plain|bool|ptr|ptr2|slice|map|ifc|fn|agg(z:List AV)|other
def Aw:List AV→List AV→Bool
 |[],[]=>true
 | .int k _::l,.int k' _::m=>decide (k=k')&&Aw l m
 | .bool _::l,.bool _::m=>Aw l m
 | .str _::l,.str _::m=>Aw l m
 |_,_=>false
def eqA:EK→AV→AV→Option Bool
 | .bool,.bool a,.bool b=>some (a==b)
 | .ptr,.nil,.nil=>some true
 | .ptr,.nil,.ptr _ _| .ptr,.ptr _ _,.nil| .ptr,.nil,.ep _ _| .ptr,.ep _ _,.nil=>some false
 | .slice,.vs _ _ r,.vs _ [] .nil=>some (r== .nil)
 | .slice,.rs _ _ _ _,.vs _ [] .nil=>some false
 | .map,.map a,.map none=>some a.isNone
 | .ifc,.nilifc,.nilifc=>some true
 | .ifc,.ifc _ _,.nilifc=>some false
 | .fn,.nilfn,.nilfn=>some true
 | .fn,.fn _ _ _,.nilfn=>some false
 | .agg z,.agg xs,.agg ys=>if Aw z xs then BZ xs ys else none
 |_,_,_=>none
def R8(S:St)(a b:AV):Option Bool:=
 match a,b with
 | .ptr i a,.ptr j b=>if i=j then some (a==b) else if (Co S i).isSome=true∧(Co S j).isSome=true then some false else none
 |a,b=>eqA .ptr a b
def Zt(S:St)(op:BinOp)(a b:AV):Option AV:=
 match op with
 | .eql=>(R8 S a b).map .bool
 | .neq=>(R8 S a b).map (fun b=>.bool (!b))
 |_=>none
def AJ(op:BinOp)(a b:AV):Option AV:=
 match a,b with
 | .int k x,.int k' y=>match op with
  | .shl=>if y < 0 then none else some (.int k (k.wrap (x*2 ^ (min y.toNat k.bits))))
  | .shr=>if y < 0 then none else some (.int k (x.fdiv (2 ^ (min y.toNat k.bits))))
  |op=>if k=k' then Gw op k x y else none
 | .str x,.str y=>NW op x y
 |_,_=>none
def GC(k:EK)(op:BinOp)(a b:AV):Option AV:=
 match op with
 | .eql=>(eqA k a b).map .bool
 | .neq=>(eqA k a b).map (fun b=>.bool (!b))
 |_=>none
def unA(op:UnOp)(a:AV):Option AV:=
 match op,a with
 | .not,.bool b=>some (.bool (!b))
 | .neg,.int k n=>some (.int k (k.wrap (0 - n)))
 |_,_=>none
def bytesOf:List (List AV)→Option (List UInt8)
 |[]=>some []
 |[.int .u8 n]::l=>match bytesOf l with|some r=>some (UInt8.ofNat n.toNat::r)|none=>none
 |_=>none
def Ij(k:IntKind)(a:AV):Option AV:=match a with| .int _ n=>some (.int k (k.wrap n))|_=>none
def PJ(a:AV):Option AV:=match a with| .str x=>some (.str x)|_=>none
def SN(a:AV):Option AV:=match a with| .vs _ es _=>(bytesOf es).map .str|_=>none
def DE(a:AV):Option AV:=match a with| .str s=>some (.int .i64 s.length)|_=>none
def BU(a:AV):Option AV:=
 match a with
 | .vs _ es _=>some (.int .i64 es.length)
 | .rs _ _ _ n=>some (.int .i64 n)
 |_=>none
def Sf(S:St)(a:AV):Option AV:=
 match a with
 | .map none=>some (.int .i64 0)
 | .map (some id)=>(Nn S id).map fun m=>.int .i64 m.length
 |_=>none
def lim:Nat:=100000000000
def chunks(sz:Nat):Nat→List AV→List (List AV)
 |0,_=>[]
 |n+1,l=>(l.take sz).map AV.strip1::chunks sz n (l.drop sz)
def CH(S:St)(sz:Nat)(x:AV):Option (List (List AV)):=
 match x with
 | .vs sy ys _=>if ys=[]∨sy=sz then some ys else none
 | .str b=>if sz=1 then some (b.map fun c=>[.int .u8 c.toNat]) else none
 | .rs sy id off n=>if sy=sz then (Co S id).bind fun cs=>if off+n*sz≤cs.length then some (chunks sz n (cs.drop off)) else none else none
 |_=>none
def Lz(S:St)(a:AV):Option AV:=
 match a with
 | .rs sz id off n=>(CH S 1 (.rs sz id off n)).bind fun es=>(bytesOf es).map .str
 |a=>SN a
def FB(ei:TI):Rt→Nat| .own t=>if t=ei.id then t else 0|_=>ei.id
def BN(ei:TI)(S:St)(s x:AV):Option AV:=
 match s with
 | .vs sz es r=>(CH S ei.size x).bind fun ys=>
  if ys=[] then some s
  else if r≠ .none∧(r= .nil∨sz=ei.size)∧es.length+ys.length≤lim then some (.vs ei.size (es++ys) (.own (FB ei r))) else none
 |_=>none
inductive KK|int|str|agg(z:List AV)
def OJ:KK→AV→Bool
 | .int,.int ..=>true
 | .str,.str _=>true
 | .agg z,.agg cs=>Aw z cs
 |_,_=>false
def Ms(a b:AV):Option Bool:=
 match a,b with
 | .agg xs,.agg ys=>BZ xs ys
 |a,b=>El a b
def F2(k:AV):List (AV×AV)→Nat→Option (Option (Nat×AV))
 |[],_=>some none
 |(k',v)::m,i=>match Ms k k' with
  |some true=>some (some (i,v))
  |some false=>F2 k m (i+1)
  |none=>none
def Qe(k:Nat):Option KK:=
 match (C.ty k).kind with
 | .int _=>some .int
 | .str=>some .str
 | .struct _=>match C.eqk k with|true=>some (.agg (C.ty k).zero)|false=>none
 |_=>none
def isLit:Operand→Bool| .const _=>true|_=>false
def JR(t:Nat)(lit:Bool):EK:=
 match (C.ty t).kind with
 | .int _=>.plain
 | .str=>.plain
 | .bool=>.bool
 | .ptr e=>match lit with|true=>.ptr|false=>match C.has e&&!(Nat.beq (C.ty e).size 0) with|true=>.ptr2|false=>.other
 | .slice _=>.slice
 | .map _ _=>.map
 | .iface=>match lit with|true=>.ifc|false=>.other
 | .func=>.fn
 | .struct _=>match C.eqk t with|true=>.agg (C.ty t).zero|false=>.other
 |_=>.other
def Cu(sz:Nat):List AV→Option (List (List AV))
 |[]=>some []
 |a::l=>if a.free=true∧a.cells.length=sz then (Cu sz l).map (a.strip.cells::·) else none
def Ck(i:TI)(esz:Nat)(ps:List (Nat×AV)):Option AV:=
 match i.kind with
 | .struct fs=>(RM fs ps i.zero).map .agg
 | .array _ _=>(Rg esz ps i.zero).map .agg
 |_=>none
def TM(t i:Nat):Nat:=
 match (C.ty t).kind with
 | .struct fs=>((fs[i]?).map (·.2.1)).getD 0
 | .array _ e=>e
 | .slice e=>e
 |_=>0
def Du(i:TI)(a:AV):Option (List AV):=if a.free=true∧a.cells.length=i.size then some a.cells else none
def Lr(a:AV):Option AV:=
 match a with
 | .ptr id off=>some (.ptr id off)
 | .ep cs off=>some (.ep cs off)
 |_=>none
def UZ:TK→Bool| .iface=>false|_=>true
def YY(i:TI)(t:Nat)(a:AV):Option AV:=if UZ i.kind=true∧a.free=true then some (.ifc t a.strip) else none
def aP(g:Nat)(xs ys:List AV):Option AV:=if xs.all AV.free=true∧ys.all AV.free=true then some (.fn g (xs.map AV.strip) (ys.map AV.strip)) else none
def JK(ei:TI)(byref:Bool)(S:St)(l c:AV):Option (AV×St):=
 match l,c with
 | .int _ ln,.int _ cn=>
  if 0≤cn∧cn≤lim∧0≤ln∧ln≤cn then
   if ln=0∧byref=false then some (.vs ei.size [] (.own ei.id),S)
   else some (.rs ei.size S.length 0 ln.toNat,S++[.cells (List.replicate ln.toNat ei.zero).flatten 0])
  else none
 |_,_=>none
def Jg(i:TI):AV:=if i.agg then .agg i.zero else i.zero.headD .undef
def NC(g:KK)(ei:TI)(S:St)(m key:AV):Option (AV×Bool):=
 if OJ g key then match m with
  | .map none=>some (Jg ei,false)
  | .map (some id)=>(Nn S id).bind fun es=>(F2 key es 0).map fun r=>match r with|some (_,v)=>(v,true)|none=>(Jg ei,false)
  |_=>none
 else none
def ML(g:KK)(S:St)(m key x:AV):Option St:=
 if OJ g key=true∧x.free=true then match m with
  | .map (some id)=>(Nn S id).bind fun es=>(F2 key es 0).map fun r=>match r with
   |some (i,_)=>S.set id (.map (es.modify i (fun p=>(p.1,x.strip))))
   |none=>S.set id (.map (es++[(key,x.strip)]))
  |_=>none
 else none
def Sj(g:KK)(S:St)(m key:AV):Option St:=
 if OJ g key then match m with
  | .map none=>some S
  | .map (some id)=>(Nn S id).bind fun es=>(F2 key es 0).map fun r=>match r with
   |some (i,_)=>S.set id (.map (es.eraseIdx i))
   |none=>S
  |_=>none
 else none
def XX:List AV→Option AV
 |[.int k x,.int k' y]=>if k=k' then some (.int k (if y < x then y else x)) else none
 |_=>none
def TE:List AV→Option AV
 |[.int k x,.int k' y]=>if k=k' then some (.int k (if y > x then y else x)) else none
 |[.int k x,.int k' y,.int k2 z]=>if k=k'∧k=k2 then some (.int k (if z > (if y > x then y else x) then z else (if y > x then y else x))) else none
 |_=>none
def appendR(ei:TI)(S:St)(s x:AV):Option (AV×St):=
 (CH S ei.size x).bind fun ys=>
  if ys=[] then (match s with| .vs ..| .rs ..=>some (s,S)|_=>none)
  else match s with
   | .vs _ [] r=>if (r= .nil∨r= .full)∧ys.length≤lim then some (.rs ei.size S.length 0 ys.length,S++[.cells ys.flatten 0]) else none
   | .rs sz id 0 n=>(Co S id).bind fun cs=>
    if sz=ei.size∧n*sz≤cs.length∧n+ys.length≤lim then some (.rs sz S.length 0 (n+ys.length),S.set id .dead++[.cells (cs.take (n*sz)++ys.flatten) 0]) else none
   |_=>none
def Yq(ei:TI)(S:St)(d s:AV):Option (AV×St):=
 (CH S ei.size s).bind fun ys=>match d with
  | .vs _ [] _=>some (.int .i64 0,S)
  | .rs sz id off n=>(Co S id).bind fun cs=>
   if sz=ei.size∧off+n*sz≤cs.length then
    some (.int .i64 ↑(min ys.length n),S.set id (.cells (De cs off (ys.take (min ys.length n)).flatten) (Hr S id)))
   else none
  |_=>none
def AS(c a b:AV):Option AV:=match c with| .bool true=>some a| .bool false=>some b|_=>none
def Ah(t:AV)(i:Nat):Option AV:=match t with| .tup vs=>vs[i]?|_=>none
def AQ(t:AV)(i:Nat):AV:=match t with| .tup vs=>.tup (vs.modify i AV.strip2)|a=>a
def OV(as:List AV):Option (List AV):=if as.all AV.free=true then some (as.map AV.strip) else none
def Wc(g:AV)(as:List AV):Option (Nat×List AV):=
 match g with
 | .fn g first cap=>(OV (first++as++cap)).map fun as=>(g,as)
 |_=>none
def WK(r:AV)(m:String)(as:List AV):Option (Nat×List AV):=
 match r with
 | .ifc t v=>(C.meth t m).bind fun g=>(OV (v::as)).map fun as=>(g,as)
 |_=>none
def feeds(ops:List Oper)(d:Option Nat):Bool:=
 match d with
 |none=>false
 |some d=>ops.any fun o=>match o.op with
  | .call {callee:=.builtin .append,args:=as,..}=>(match as.toList with| .tmp x::_=>Nat.beq x d|_=>false)
  | .slice _ (.tmp x) _ _ none=>Nat.beq x d
  |_=>false
def Ek(f:Nat)(ops:List Oper)(d:Option Nat):Bool:=
 match (match d with|some d=>C.tk f d|none=>false) with
 |true=>true
 |false=>feeds ops d
def C6(o:Oper)(x:Nat):Bool:=match o.dst with|some d=>Nat.beq d x|none=>false
def BF(r:Nat→Option (Nat×Nat)):Op→Option (Nat×Nat)
 | .fieldAddr t (.tmp y) i=>match r y,KB C t i with
  |some (b,off),some fo=>some (b,off+fo)
  |_,_=>none
 | .indexAddr t (.tmp y) (.const (.int _ i))=>match r y,(C.ty t).kind with
  |some (b,off),.array n e=>match decide (0≤i∧i < n) with|true=>some (b,off+i.toNat*(C.ty e).size)|false=>none
  |_,_=>none
 | .nilCheck (.tmp y)=>r y
 | .move (.tmp y)=>r y
 |_=>none
def AD(f:Nat)(x:Nat):List Oper→Option (Nat×Nat)
 |[]=>match C.loc f x with|true=>some (x,0)|false=>none
 |o::l=>
  match C.loc f x with
  |true=>some (x,0)
  |false=>
   match C6 o x with
   |true=>BF C (fun y=>AD f y l) o.op
   |false=>match AD f x l with
    |some (b,off)=>match C6 o b with|true=>none|false=>some (b,off)
    |none=>none
def resolve(f:Nat)(before:List Oper):Operand→Option (Nat×Nat)
 | .tmp x=>AD C f x before
 |_=>none
def sroot(f:Nat)(all:List Oper):Nat→Nat→Option Nat
 |0,x=>match C.loc f x with|true=>some x|false=>none
 |n+1,x=>match C.loc f x with
  |true=>some x
  |false=>match all.find? (fun o=>C6 o x) with
   |some o=>(match o.op with
    | .fieldAddr _ (.tmp y) _| .indexAddr _ (.tmp y) _| .nilCheck (.tmp y)| .move (.tmp y)=>sroot f all n y
    |_=>none)
   |none=>none
def F9(f:Nat)(all:List Oper):Operand→Option Nat
 | .tmp x=>sroot C f all all.length x
 |_=>none
def N0(f:Nat)(all:List Oper)(o:Oper):List Nat:=
 o.dst.toList++match o.op with
  | .store _ x _| .load _ x=>(F9 C f all x).toList
  |_=>[]
def CN(ops:Array Oper)(fr:Fr)(j:Nat):AV:=
 match (ops[j]?).bind (·.dst) with
 |some d=>fr.v d
 |none=>.undef
end ops
inductive Ex|normal|exit(id:Nat)|ret
 deriving DecidableEq
section W
variable (C:Ctx) (Ca:Nat→List AV→St→(AV→St→Prop)→Prop) (f:Nat)
def ifK(c:AV)(A B:Prop):Prop:=match c with| .bool true=>A| .bool false=>B|_=>False
def A1(g:Nat)(as:List AV)(S:St)(k:AV→St→Prop):Prop:=AA (OV as) fun as=>Ca g as S k
def AK{α:Type}(r:α)(b:α→Prop):Prop:=b r
def SD(t:Nat):Bool:=match (C.ty t).kind with| .tuple=>true|_=>false
def FQ(c:Call)(t:Nat)(dst:Option Nat)(fr:Fr)(S:St)(K:Fr→St→Prop):Prop:=
 let all:List AV:=(c.argTypes.toList.zip c.args.toList).map fun p=>opd C fr p.1 p.2
 match c.callee with
 | .value (.func g)=>match Nat.beq c.argTypes.size c.args.size with
  |true=>A1 Ca g all S fun r S'=>K (fr.put dst r) S'
  |false=>False
 | .value g=>match Nat.beq c.argTypes.size c.args.size with
  |true=>AA (Wc (opd C fr 0 g) all) fun p=>Ca p.1 p.2 S fun r S'=>K (fr.put dst r) S'
  |false=>False
 | .invoke r m=>match Nat.beq c.argTypes.size c.args.size with
  |true=>AA (WK C (opd C fr 0 r) m all) fun p=>Ca p.1 p.2 S fun r S'=>K (fr.put dst r) S'
  |false=>False
 | .builtin b=>match c.argTypes.toList,c.args.toList with
  |[t],[x]=>match b with
   | .len=>match (C.ty t).kind with
    | .str=>AA (DE (opd C fr t x)) fun v=>K (fr.put dst v) S
    | .slice _=>AA (BU (opd C fr t x)) fun v=>K (fr.put dst v) S
    | .map _ _=>AA (Sf S (opd C fr t x)) fun v=>K (fr.put dst v) S
    |_=>False
   |_=>False
  |[t,u],[x,y]=>match b with
   | .min=>AA (XX [opd C fr t x,opd C fr u y]) fun v=>K (fr.put dst v) S
   | .max=>AA (TE [opd C fr t x,opd C fr u y]) fun v=>K (fr.put dst v) S
   | .append=>match (C.ty t).kind,(match (C.ty u).kind with| .slice _=>true| .str=>true|_=>false) with
    | .slice e,true=>match C.byref e with
     |true=>AA (appendR (C.ty e) S (opd C fr t x) (opd C fr u y)) fun p=>K ((fr.stripAt x).put dst p.1) p.2
     |false=>AA (BN (C.ty e) S (opd C fr t x) (opd C fr u y)) fun v=>K ((fr.stripAt x).put dst v) S
    |_,_=>False
   | .copy=>match (C.ty t).kind with
    | .slice e=>AA (Yq (C.ty e) S (opd C fr t x) (opd C fr u y)) fun p=>K (fr.put dst p.1) p.2
    |_=>False
   | .delete=>match (C.ty t).kind with
    | .map k _=>match Qe C k with
     |some g=>AA (Sj g S (opd C fr t x) (opd C fr u y)) fun S'=>K (fr.put dst .undef) S'
     |none=>False
    |_=>False
   |_=>False
  |[t,u,_],[x,y,z]=>match b with
   | .max=>AA (TE [opd C fr t x,opd C fr u y,opd C fr t z]) fun v=>K (fr.put dst v) S
   |_=>False
  |_,_=>False
def opW(before:List Oper)(tk:Bool)(o:Oper)(fr:Fr)(S:St)(K:Fr→St→Prop):Prop:=
 match o.op with
 | .move x=>match resolve C f before x with
  |some _=>K (fr.put o.dst .undef) S
  |none=>match tk||SD C o.type with
   |true=>K ((fr.stripAt x).put o.dst (opd C fr o.type x)) S
   |false=>K (fr.put o.dst (opd C fr o.type x).strip) S
 | .assign x=>match resolve C f before x with
  |some _=>False
  |none=>K ((fr.stripAt x).put o.dst (opd C fr o.type x)) S
 | .pick c a b=>AA (AS (opd C fr 4 c) (opd C fr o.type a) (opd C fr o.type b)) fun v=>K (fr.put o.dst v.strip) S
 | .alloc e=>match o.dst with
  |some d=>match C.loc f d with
   |true=>K ((fr.setB d (some (C.ty e).zero)).set d .undef) S
   |false=>K (fr.set d (.ptr S.length 0)) (S++[.cells (C.ty e).zero e])
  |none=>False
 | .box e x=>AA (Du (C.ty e) (opd C fr e x)) fun cs=>match o.dst with
  |some d=>match C.loc f d with
   |true=>K (((fr.stripAt x).setB d (some cs)).set d .undef) S
   |false=>K ((fr.stripAt x).set d (.ptr S.length 0)) (S++[.cells cs e])
  |none=>False
 | .build t parts=>AA (Ck (C.ty t) (C.ty (match (C.ty t).kind with| .array _ e=>e|_=>0)).size (parts.toList.map fun p=>(p.1,opd C fr (TM C t p.1) p.2))) fun v=>K (fr.put o.dst v) S
 | .buildSlice t n parts=>match (C.ty t).kind,decide (parts.toList.map (·.1)=List.range n),decide (n≤1000) with
  | .slice e,true,true=>AA (Cu (C.ty e).size (parts.toList.map fun p=>opd C fr e p.2)) fun es=>K (fr.put o.dst (.vs (C.ty e).size es .full)) S
  |_,_,_=>False
 | .load t x=>match resolve C f before x with
  |some (b,off)=>AA (AB (C.ty t) (fr.b b) off) fun v=>match tk with
   |true=>K ((fr.setB b (C7 (fr.b b) off)).put o.dst v.strip0) S
   |false=>K (fr.put o.dst v.strip) S
  |none=>AA (Ap (C.ty t) S (opd C fr 0 x)) fun v=>match tk with
   |true=>K (fr.put o.dst v.strip0) (stripMem S (opd C fr 0 x))
   |false=>K (fr.put o.dst v.strip) S
 | .store t x y=>match resolve C f before x with
  |some (b,off)=>AA (Ai (C.ty t) (fr.b b) off (opd C fr t y)) fun cs=>K (((fr.stripAt y).setB b (some cs)).put o.dst .undef) S
  |none=>AA (CU (C.ty t) S (opd C fr 0 x) (opd C fr t y)) fun S'=>K ((fr.stripAt y).put o.dst .undef) S'
 | .nilCheck x=>match resolve C f before x with
  |some p=>AA (fr.b p.1) fun _=>K (fr.put o.dst .undef) S
  |none=>AA (Lr (opd C fr 0 x)) fun v=>K (fr.put o.dst v) S
 | .binOp op t x y u=>match JR C t (isLit x||isLit y) with
  | .plain=>AA (AJ op (opd C fr t x) (opd C fr u y)) fun v=>K (fr.put o.dst v) S
  | .other=>False
  | .ptr2=>AA (Zt S op (opd C fr t x) (opd C fr u y)) fun v=>K (fr.put o.dst v) S
  |k=>AA (GC k op (opd C fr t x) (opd C fr u y)) fun v=>K (fr.put o.dst v) S
 | .unOp op t x=>AA (unA op (opd C fr t x)) fun v=>K (fr.put o.dst v) S
 | .convert src dst x=>match (C.ty dst).kind with
  | .int k=>AA (Ij k (opd C fr src x)) fun v=>K (fr.put o.dst v) S
  | .str=>match (C.ty src).kind with
   | .str=>AA (PJ (opd C fr src x)) fun v=>K (fr.put o.dst v) S
   | .slice e=>match (C.ty e).kind with
    | .int .u8=>AA (Lz S (opd C fr src x)) fun v=>K (fr.put o.dst v) S
    |_=>False
   |_=>False
  |_=>False
 | .makeInterface t x=>AA (YY (C.ty t) t (opd C fr t x)) fun v=>K (fr.put o.dst v) S
 | .makeFunc (.func g) first cap=>AA (aP g (first.toList.map (opd C fr 0)) (cap.toList.map (opd C fr 0))) fun v=>K (fr.put o.dst v) S
 | .makeMap _ none=>K (fr.put o.dst (.map (some S.length))) (S++[.map []])
 | .makeSlice t l c=>match (C.ty t).kind with
  | .slice e=>AA (JK (C.ty e) (C.byref e) S (opd C fr 3 l) (opd C fr 3 c)) fun p=>K (fr.put o.dst p.1) p.2
  |_=>False
 | .slice t x lo hi mx=>match (C.ty t).kind with
  | .str=>match mx with
   |none=>AA (Cz (opd C fr t x) (lo.map (opd C fr 3)) (hi.map (opd C fr 3))) fun v=>K (fr.put o.dst v) S
   |some _=>False
  | .slice e=>AA (Dv (C.ty e) (opd C fr t x) (lo.map (opd C fr 3)) (hi.map (opd C fr 3)) (mx.map (opd C fr 3))) fun v=>match mx with
   |none=>K ((fr.stripAt x).put o.dst v) S
   |some _=>K (fr.put o.dst v) S
  |_=>False
 | .fieldAddr t x i=>match KB C t i with
  |none=>False
  |some fo=>match resolve C f before x with
   |some p=>AA (fr.b p.1) fun _=>K (fr.put o.dst .undef) S
   |none=>AA (D2 (opd C fr 0 x) fo) fun v=>K (fr.put o.dst v) S
 | .field t x i=>match (C.ty t).kind with
  | .struct fs=>match fs[i]? with
   |some p=>AA (He (C.ty p.2.1) (opd C fr t x) p.1) fun v=>K (fr.put o.dst v.strip) S
   |none=>False
  |_=>False
 | .indexAddr t x i=>match (C.ty t).kind with
  | .slice e=>AA (BB (C.ty e) (opd C fr t x) (opd C fr 3 i)) fun v=>K (fr.put o.dst v) S
  | .array n e=>match resolve C f before x with
   |some p=>match i with
    | .const (.int _ m)=>match decide (0≤m∧m < n) with|true=>AA (fr.b p.1) fun _=>K (fr.put o.dst .undef) S|false=>False
    |_=>False
   |none=>AA (X5 n (C.ty e) (opd C fr t x) (opd C fr 3 i)) fun v=>K (fr.put o.dst v) S
  |_=>False
 | .index t x i=>match (C.ty t).kind with
  | .str=>AA (FX (opd C fr t x) (opd C fr 3 i)) fun v=>K (fr.put o.dst v) S
  | .array n e=>AA (Uf n (C.ty e) (opd C fr t x) (opd C fr 3 i)) fun v=>K (fr.put o.dst v.strip) S
  |_=>False
 | .lookup t x i ok=>match (C.ty t).kind with
  | .map k e=>match Qe C k with
   |some g=>AA (NC g (C.ty e) S (opd C fr t x) (opd C fr k i)) fun p=>match ok with
    |true=>K (fr.put o.dst (.tup [p.1,.bool p.2])) S
    |false=>K (fr.put o.dst p.1) S
   |none=>False
  |_=>False
 | .mapUpdate t m k x=>match (C.ty t).kind with
  | .map kt et=>match Qe C kt with
   |some g=>AA (ML g S (opd C fr t m) (opd C fr kt k) (opd C fr et x)) fun S'=>K (fr.put o.dst .undef) S'
   |none=>False
  |_=>False
 | .extract (.tmp t) i=>AA (Ah (fr.v t) i) fun v=>K ((fr.set t (AQ (fr.v t) i)).put o.dst v) S
 | .call c=>FQ C Ca c o.type o.dst fr S K
 |_=>False
def Mf(o:Oper):Bool:=
 match o.op,o.dst with
 | .alloc _,_| .box _ _,_=>true
 |_,some d=>match C.loc f d with|true=>false|false=>true
 |_,none=>true
def Fr.skip(fr:Fr)(d:Option Nat):Fr:=
 match d with
 |some d=>match C.loc f d with|true=>(fr.setB d none).set d (.tup [])|false=>fr.set d (.tup [])
 |none=>fr
def aW(o:Oper)(x:Option Nat):Bool:=match o.dst,x with|some d,some e=>Nat.beq d e|_,_=>false
def gK(c:AV)(A B Z:Prop):Prop:=match c with| .bool true=>A| .bool false=>B| .tup []=>Z|_=>False
def gG(g:Option (Nat×Bool))(c:AV)(A B Z:Prop):Prop:=match g with|none=>ifK c A B|some _=>gK c A B Z
def GU(ops:Array Oper)(o:Oper)(dec:List (Nat×Option Bool)):List (Nat×Option Bool):=dec.filter fun p=>!(aW o ((ops[p.1]?).bind (·.dst)))
def decided(j:Nat):List (Nat×Option Bool)→Option (Option Bool)
 |[]=>none
 |p::l=>match Nat.beq p.1 j with|true=>some p.2|false=>decided j l
def Jy(ops:Array Oper)(all:List Oper)(K:Fr→St→Prop):List (Nat×Option Bool)→List Oper→List Oper→Fr→St→Prop
 |_,_,[],fr,S=>K fr S
 |dec,before,o::l,fr,S=>
  let run (dec:List (Nat×Option Bool)):Prop:=match Mf C f o with
   |true=>opW C Ca f before (Ek C f all o.dst) o fr S (Jy ops all K (GU ops o dec) (o::before) l)
   |false=>False
  let skip (dec:List (Nat×Option Bool)):Prop:=Jy ops all K (GU ops o dec) ({o with op:=.ready 0}::before) l (fr.skip C f o.dst) S
  match o.guard with
  |none=>run dec
  |some (j,want)=>match decided j dec with
   |some (some b)=>match b,want with
    |true,true|false,false=>run dec
    |_,_=>skip dec
   |some none=>skip dec
   |none=>match want with
    |true=>gG ((ops[j]?).bind (·.guard)) (CN ops fr j) (run ((j,some true)::dec)) (skip ((j,some false)::dec)) (skip ((j,none)::dec))
    |false=>gG ((ops[j]?).bind (·.guard)) (CN ops fr j) (skip ((j,some true)::dec)) (run ((j,some false)::dec)) (skip ((j,none)::dec))
variable (Dr:Array Oper→(Fr→St→Prop)→Fr→St→Prop)
def dO(N:Fr→St→Prop)(K:Ex→Fr→St→Prop):Ex→Fr→St→Prop
 | .normal,fr,S=>N fr S
 | .exit id,fr,S=>K (.exit id) fr S
 | .ret,fr,S=>K .ret fr S
def TA(id:Nat)(K:Ex→Fr→St→Prop):Ex→Fr→St→Prop
 | .exit j,fr,S=>match Nat.beq j id with|true=>K .normal fr S|false=>K (.exit j) fr S
 | .normal,fr,S=>K .normal fr S
 | .ret,fr,S=>K .ret fr S
def BL:Operand→List Nat| .tmp x=>[x]|_=>[]
def Al(tk:Bool)(o:Oper):List Nat:=
 o.dst.toList++match o.op with
 | .move x=>(match tk||SD C o.type with|true=>BL x|false=>[])
 | .assign x| .box _ x| .store _ _ x| .slice _ x _ _ none| .extract x _=>BL x
 | .call {callee:=.builtin .append,args:=as,..}=>BL (as.toList.headD (.func 0))
 |_=>[]
def DB(before:List Oper)(o:Oper):List Nat:=
 match o.op with
 | .alloc _| .box _ _=>o.dst.toList
 | .store _ x _| .load _ x=>o.dst.toList.filter (C.loc f)++(match resolve C f before x with|some (b,_)=>[b]|none=>[])
 |_=>o.dst.toList.filter (C.loc f)
def KL:List Oper→List Oper→List Nat
 |_,[]=>[]
 |before,o::l=>DB C f before o++KL (o::before) l
def Fb:Code→List Nat
 | .region _ ops _=>ops.toList.flatMap fun o=>Al C (Ek C f ops.toList o.dst) o
 | .seq a b| .cond _ a b=>Fb a++Fb b
 | .block _ b| .loop b=>Fb b
 |_=>[]
def Hj:Code→List Nat
 | .region _ ops false=>KL C f [] ops.toList
 | .region _ ops true=>ops.toList.flatMap (N0 C f ops.toList)
 | .seq a b| .cond _ a b=>Hj a++Hj b
 | .block _ b| .loop b=>Hj b
 |_=>[]
abbrev Lv:=List AV×List (Option (List AV))
def proj(p:List Nat×List Nat)(fr:Fr):Lv:=(p.1.map fr.v,p.2.map fr.b)
def M0(ws bs:List Nat)(fr:Fr)(v:Nat→AV)(b:Nat→Option (List AV)):Fr:=
 {v:=fun j=>match ws.elem j with|true=>v j|false=>fr.v j,b:=fun j=>match bs.elem j with|true=>b j|false=>fr.b j}
def aT(pr:List Nat×List Nat)(next:Lv→St→Prop)(K:Ex→Fr→St→Prop):Ex→Fr→St→Prop
 | .normal,fr,S=>next (proj pr fr) S
 | .exit id,fr,S=>K (.exit id) fr S
 | .ret,fr,S=>K .ret fr S
def DK(x0:Lv)(pj:(Nat→AV)→(Nat→Option (List AV))→Lv)(body:(Lv→St→Prop)→(Nat→AV)→(Nat→Option (List AV))→St→Prop)(S:St):Prop:=
 ∃J:Nat→Lv→St→Prop,(∃n,J n x0 S)∧∀n v b S,J n (pj v b) S→body (fun x S'=>∃m,m < n∧J m x S') v b S
def Dy:Code→Nat
 | .region id _ _=>id
 | .seq a _=>Dy a
 | .block _ b=>Dy b
 | .loop b=>Dy b
 |_=>0
def W:Code→(Ex→Fr→St→Prop)→Fr→St→Prop
 | .skip,K,fr,S=>K .normal fr S
 | .region _ ops false,K,fr,S=>Jy C Ca f ops ops.toList (K .normal) [] [] ops.toList fr S
 | .region _ ops true,K,fr,S=>Dr ops (K .normal) fr S
 | .seq a b,K,fr,S=>W a (dO (W b K) K) fr S
 | .cond c a b,K,fr,S=>ifK (opd C fr 4 c) (W a K fr S) (W b K fr S)
 | .block id b,K,fr,S=>W b (TA id K) fr S
 | .loop c, K, fr, S => DK (proj (C.live f (Dy c)) fr) (fun v b => proj (C.live f (Dy c)) (M0 (Fb C f c) (Hj C f c) fr v b))
   (fun next v b S=>W c (aT (C.live f (Dy c)) next K) (M0 (Fb C f c) (Hj C f c) fr v b) S) S
 | .exit id,K,fr,S=>K (.exit id) fr S
 | .ret,K,fr,S=>K .ret fr S
 |_,_,_,_=>False
def Mh(fr:Fr):ResultVar→Option AV
 | .tmp t=>some (fr.v t)
 | .cell b t=>(AB (C.ty t) (fr.b b) 0).map AV.strip
def Xu(rs:List ResultVar)(fr:Fr)(Q:AV→Prop):Prop:=
 match rs with
 |[r]=>AA (Mh C fr r) Q
 |[]=>Q (.tup [])
 |[r,r2]=>AA (Mh C fr r) fun a=>AA (Mh C fr r2) fun b=>Q (.tup [a.flat,b.flat])
 |[r,r2,r3]=>AA (Mh C fr r) fun a=>AA (Mh C fr r2) fun b=>AA (Mh C fr r3) fun c=>Q (.tup [a.flat,b.flat,c.flat])
 |[r,r2,r3,r4]=>AA (Mh C fr r) fun a=>AA (Mh C fr r2) fun b=>AA (Mh C fr r3) fun c=>AA (Mh C fr r4) fun d=>Q (.tup [a.flat,b.flat,c.flat,d.flat])
 |_=>False
def dJ(rs:List ResultVar)(Q:AV→St→Prop):Ex→Fr→St→Prop
 | .exit _,_,_=>False
 | .normal,fr,S=>Xu C rs fr fun r=>Q r S
 | .ret,fr,S=>Xu C rs fr fun r=>Q r S
def fr0(args:List AV):Fr:={v:=fun j=>args.getD j .undef,b:=fun _=>none}
def RR:Code→List Nat
 | .region _ ops _=>ops.toList.flatMap fun o=>o.dst.toList
 | .seq a b| .cond _ a b=>RR a++RR b
 | .block _ b| .loop b=>RR b
 |_=>[]
def Ct(t:Nat):List Nat:=
 t::match (C.ty t).kind with
  | .slice e| .array _ e=>[e]
  | .map k e=>[k,e]
  | .struct fs=>fs.map (·.2.1)
  |_=>[]
def CL(o:Oper):List Nat:=
 match o.op with
 | .alloc t| .build t _| .buildSlice t _ _| .load t _| .store t _ _| .convert _ t _| .makeInterface t _| .makeMap t _| .makeSlice t _ _| .slice t _ _ _ _
 | .fieldAddr t _ _| .field t _ _| .indexAddr t _ _| .index t _ _| .lookup t _ _ _| .mapUpdate t _ _ _=>Ct C t++(match o.op with| .convert s _ _=>Ct C s|_=>[])
 | .binOp .eql t ..| .binOp .neq t ..=>Ct C t
 | .call {callee:=.builtin _,argTypes:=ts,..}=>ts.toList.flatMap (Ct C)
 |_=>[]
def N2:Code→List Nat
 | .region _ ops _=>ops.toList.flatMap (CL C)
 | .seq a b| .cond _ a b=>N2 a++N2 b
 | .block _ b| .loop b=>N2 b
 |_=>[]
def US(rs:List ResultVar):List Nat:=rs.flatMap fun| .cell _ t=>[t]| .tmp _=>[]
def Kl(rs:List ResultVar):List Nat:=rs.flatMap fun| .cell _ _=>[]| .tmp t=>[t]
def nodupB:List Nat→Bool
 |[]=>true
 |x::l=>!l.elem x&&nodupB l
def WF(fn:Func)(args:List AV)(S:St)(Q:AV→St→Prop):Prop:=
 match fn.body with
 |some c=>match (RR c).all (fun d=>Nat.blt d fn.ntmps)&&(N2 C c).all C.has&&(US fn.results.toList).all C.has&&nodupB (Kl fn.results.toList) with
  |true=>W C Ca f Dr c (dJ C fn.results.toList Q) (fr0 args) S
  |false=>False
 |none=>False
end W
end Go.Av
