/- Parts of the proofs of this seat: abstract values over the model, and what the functions of the program do. No condition. -/
import GoSem.Dispatch
import Derived.Control
import Derived.Calls
import Derived.Orders
set_option linter.all false
set_option maxRecDepth 100000
namespace Go.Av
inductive Rt|nil|own(t:Nat)|full|none
 deriving DecidableEq,Repr,Inhabited
def Rt.strip:Rt→Rt| .own _=>.none|r=>r
inductive AV where
 |undef
 |int (k:IntKind) (n:Int)
 |bool (b:Bool)
 |str (s:List UInt8)
 |nil
 |ptr (id off:Nat)
 |ep (cs:List AV) (off:Nat)
 |vs (sz:Nat) (es:List (List AV)) (r:Rt)
 |rs (sz id off len:Nat)
 |map (id:Option Nat)
 |fn (f:Nat) (first cap:List AV)
 |nilfn
 |ifc (t:Nat) (v:AV)
 |nilifc
 |agg (cs:List AV)
 |tup (vs:List AV)
 deriving Inhabited
def AV.strip1:AV→AV
 | .vs sz es r=>.vs sz es r.strip
 |a=>a
def AV.strip2:AV→AV
 | .agg cs=>.agg (cs.map AV.strip1)
 |a=>a.strip1
def AV.strip:AV→AV
 | .tup cs=>.tup (cs.map AV.strip2)
 |a=>a.strip2
def AV.strip0:AV→AV
 | .agg cs=>.agg (cs.map AV.strip1)
 |a=>a
def AV.flat:AV→AV
 | .tup _=>.undef
 |a=>a
def AV.cells:AV→List AV
 | .agg cs=>cs
 |a=>[a]
def AV.free1:AV→Bool
 | .undef| .agg _| .tup _=>false
 |_=>true
def AV.free:AV→Bool
 | .agg cs=>cs.all AV.free1
 |a=>a.free1
inductive Obj where
 |cells (cs:List AV) (e:Nat)
 |map (m:List (AV×AV))
 |bld (T e:Nat) (l:List UInt8)
 |dead
 deriving Inhabited
abbrev St:=List Obj
structure Fr where
 v:Nat→AV
 b:Nat→Option (List AV)
def Fr.set(fr:Fr)(t:Nat)(a:AV):Fr:={fr with v:=fun j=>if j=t then a else fr.v j}
def Fr.put(fr:Fr)(t:Option Nat)(a:AV):Fr:=match t with|some t=>fr.set t a|none=>fr
def Fr.setB(fr:Fr)(t:Nat)(cs:Option (List AV)):Fr:={fr with b:=fun j=>if j=t then cs else fr.b j}
def Fx(b:Option (List AV))(off:Nat):Option (List AV):=b.map fun cs=>cs.modify off AV.strip1
inductive TK where
 |struct (fs:List (Nat×Nat×Nat))
 |slice (e:Nat)
 |array (n e:Nat)
 |map (k e:Nat)
 |str
 |int (k:IntKind)
 |bool
 |ptr (e:Nat)
 |iface
 |func
 |tuple
 |other
structure TI where
 size:Nat
 bytes:Nat
 agg:Bool
 zero:List AV
 kind:TK
 id:Nat:=0
structure Ctx where
 ty:Nat→TI
 has:Nat→Bool
 eqk:Nat→Bool
 loc:Nat→Nat→Bool
 byref:Nat→Bool
 meth:Nat→String→Option Nat
 live:Nat→Nat→List Nat×List Nat
 tk:Nat→Nat→Bool:=fun _ _=>false
def AA{α:Type}(o:Option α)(k:α→Prop):Prop:=match o with|some x=>k x|none=>False
section ops
variable (C:Ctx)
def ofConst(t:Nat):Value→AV
 | .int k n=>.int k n
 | .bool b=>.bool b
 | .string s=>.str s.data.toList
 | .pointer none=>.nil
 | .slice none 0 0=>match (C.ty t).kind with| .slice e=>.vs (C.ty e).size [] .nil|_=>.undef
 | .map none=>.map none
 | .nilFunc=>.nilfn
 | .nilIface=>.nilifc
 |_=>.undef
def opd(fr:Fr)(t:Nat):Operand→AV
 | .tmp x=>fr.v x
 | .const v=>ofConst C t v
 | .func f=>.fn f [] []
 | .global _=>.undef
def Fr.stripAt(fr:Fr):Operand→Fr
 | .tmp x=>fr.set x (fr.v x).strip
 |_=>fr
def DG(S:St)(id:Nat):Option (List AV):=
 match S[id]? with|some (.cells cs _)=>some cs|_=>none
def Jy(S:St)(id:Nat):Nat:=
 match S[id]? with|some (.cells _ e)=>e|_=>0
def Jx(S:St)(id:Nat):Option (List (AV×AV)):=
 match S[id]? with|some (.map m)=>some m|_=>none
def Dv(i:TI)(cs:List AV)(off:Nat):Option AV:=
 if i.agg then (if off+i.size≤cs.length then some (.agg ((cs.drop off).take i.size)) else none)
 else cs[off]?
def A9(cs:List AV)(off:Nat)(xs:List AV):List AV:=cs.take off++xs++cs.drop (off+xs.length)
def AI(i:TI)(S:St)(a:AV):Option AV:=
 match a with
 | .ptr id off=>(DG S id).bind fun cs=>Dv i cs off
 | .ep cs off=>Dv i cs off
 |_=>none
def AB(i:TI)(b:Option (List AV))(off:Nat):Option AV:=b.bind fun cs=>Dv i cs off
def BS(i:TI)(cs:List AV)(off:Nat)(x:AV):Option (List AV):=
 if x.free=true∧x.cells.length=i.size∧off+i.size≤cs.length then some (A9 cs off x.cells) else none
def Bn(i:TI)(S:St)(a x:AV):Option St:=
 match a with
 | .ptr id off=>(DG S id).bind fun cs=>(BS i cs off x).map fun cs'=>S.set id (.cells cs' (Jy S id))
 |_=>none
def AZ(i:TI)(b:Option (List AV))(off:Nat)(x:AV):Option (List AV):=b.bind fun cs=>BS i cs off x
def stripMem(S:St)(a:AV):St:=
 match a with
 | .ptr id off=>match DG S id with
  |some cs=>S.set id (.cells (cs.modify off AV.strip1) (Jy S id))
  |none=>S
 |_=>S
def Ob(t i:Nat):Option Nat:=
 match (C.ty t).kind with
 | .struct fs=>match fs[i]? with|some (fo,_,sz)=>if sz=0 then none else some fo|none=>none
 |_=>none
def Bd(a:AV)(d:Nat):Option AV:=
 match a with
 | .ptr id off=>some (.ptr id (off+d))
 | .ep cs off=>some (.ep cs (off+d))
 |_=>none
def Ae(ei:TI)(a x:AV):Option AV:=
 match x with
 | .int _ i=>match a with
  | .vs sz es _=>if sz=ei.size∧0≤i then (es[i.toNat]?).map (.ep · 0) else none
  | .rs sz id off len=>if sz=ei.size∧0≤i∧i < len then some (.ptr id (off+i.toNat*sz)) else none
  |_=>none
 |_=>none
def jL(n:Nat)(ei:TI)(a x:AV):Option AV:=
 match x with
 | .int _ i=>if 0≤i∧i < n then Bd a (i.toNat*ei.size) else none
 |_=>none
def Gg(a x:AV):Option AV:=
 match a,x with
 | .str s,.int _ i=>if 0≤i then (s[i.toNat]?).map (fun b=>.int .u8 b.toNat) else none
 |_,_=>none
def bO:AV→Option AV
 | .tup _=>none
 |a=>some a
def bv(n:Nat)(ei:TI)(a x:AV):Option AV:=
 match a,x with
 | .agg cs,.int _ i=>if 0≤i∧i < n then (Dv ei cs (i.toNat*ei.size)).bind bO else none
 |_,_=>none
def Il(fi:TI)(a:AV)(fo:Nat):Option AV:=
 match a with
 | .agg cs=>(Dv fi cs fo).bind bO
 |_=>none
def bnd(lo hi:Nat):Option AV→Nat→Option Nat
 |some (.int _ n),_=>if (lo:Int)≤n∧n≤hi then some n.toNat else none
 |some _,_=>none
 |none,d=>some d
def FM(x:AV)(lo hi:Option AV):Option AV:=
 match x with
 | .str s=>(bnd 0 s.length hi s.length).bind fun h=>(bnd 0 h lo 0).map fun l=>.str ((s.take h).drop l)
 |_=>none
def Dt(ei:TI)(x:AV)(lo hi mx:Option AV):Option AV:=
 match x with
 | .vs sz es r=>
  if sz=ei.size∧(mx.isSome&&hi.isNone)=false then
   (bnd 0 es.length mx es.length).bind fun m=>(bnd 0 m hi es.length).bind fun h=>(bnd 0 h lo 0).bind fun l=>
    if r= .nil then (if m=0 then some x else none) else
     some (.vs sz ((es.take h).drop l) (if mx.isSome then (if m=h then .full else .none) else if h=es.length then r else .none))
  else none
 | .rs sz id off len => if sz = ei.size ∧ mx.isNone then
   (bnd 0 len hi len).bind fun h=>(bnd 0 h lo 0).bind fun l=>if l < h∨l=0 then some (.rs sz id (off+l*sz) (h - l)) else some (.vs sz [] .none)
  else none
 |_=>none
def Md(fs:List (Nat×Nat×Nat)):List (Nat×AV)→List AV→Option (List AV)
 |[],cs=>some cs
 |(i,a)::l,cs=>match fs[i]? with
  |some (fo,_,sz)=>if a.free&&a.cells.length==sz&&fo+sz≤cs.length then Md fs l (A9 cs fo a.strip.cells) else none
  |none=>none
def Ye(sz:Nat):List (Nat×AV)→List AV→Option (List AV)
 |[],cs=>some cs
 |(i,a)::l,cs=>if a.free&&a.cells.length==sz&&i*sz+sz≤cs.length then Ye sz l (A9 cs (i*sz) a.strip.cells) else none
def GN(op:BinOp)(k:IntKind)(a b:Int):Option AV:=
 match op with
 | .add=>some (.int k (k.wrap (a+b)))
 | .sub=>some (.int k (k.wrap (a - b)))
 | .mul=>some (.int k (k.wrap (a*b)))
 | .quo=>if b=0 then none else some (.int k (k.wrap (a.tdiv b)))
 | .rem=>if b=0 then none else some (.int k (a.tmod b))
 | .and=>some (.int k (k.wrap ((BitVec.ofInt k.bits a&&&BitVec.ofInt k.bits b).toNat)))
 | .or=>some (.int k (k.wrap ((BitVec.ofInt k.bits a|||BitVec.ofInt k.bits b).toNat)))
 | .xor=>some (.int k (k.wrap ((BitVec.ofInt k.bits a ^^^ BitVec.ofInt k.bits b).toNat)))
 | .eql=>some (.bool (a==b))
 | .neq=>some (.bool (a != b))
 | .lss=>some (.bool (decide (a < b)))
 | .leq=>some (.bool (decide (a≤b)))
 | .gtr=>some (.bool (decide (a > b)))
 | .geq=>some (.bool (decide (a≥b)))
 |_=>none
def TM(op:BinOp)(a b:List UInt8):Option AV:=
 match op with
 | .add=>if a.length+b.length≤1000000000000 then some (.str (a++b)) else none
 | .eql=>some (.bool (a==b))
 | .neq=>some (.bool (!(a==b)))
 | .lss=>some (.bool (Op.bytesLess a b))
 | .leq=>some (.bool (Op.bytesLess a b||a==b))
 | .gtr=>some (.bool (!(Op.bytesLess a b||a==b)))
 | .geq=>some (.bool (!(Op.bytesLess a b)))
 |_=>none
def GT:AV→AV→Option Bool
 | .int k a,.int k' b=>if k=k' then some (a==b) else none
 | .bool a,.bool b=>some (a==b)
 | .str a,.str b=>some (a==b)
 |_,_=>none
def CM:List AV→List AV→Option Bool
 |[],[]=>some true
 |a::l,b::m=>match GT a b with
  |some true=>CM l m
  |some false=>match CM l m with|some _=>some false|none=>none
  |none=>none
 |_,_=>none
inductive EK|plain|bool|ptr|ptr2|slice|map|ifc|fn|agg(z:List AV)|other
def BM:List AV→List AV→Bool
 |[],[]=>true
 | .int k _::l,.int k' _::m=>decide (k=k')&&BM l m
 | .bool _::l,.bool _::m=>BM l m
 | .str _::l,.str _::m=>BM l m
 |_,_=>false
def eqA:EK→AV→AV→Option Bool
 | .bool,.bool a,.bool b=>some (a==b)
 | .ptr,.nil,.nil=>some true
 | .ptr,.nil,.ptr _ _| .ptr,.ptr _ _,.nil| .ptr,.nil,.ep _ _| .ptr,.ep _ _,.nil=>some false
 | .slice,.vs _ _ r,.vs _ [] .nil=>some (r== .nil)
 | .slice,.rs _ _ _ _,.vs _ [] .nil=>some false
 | .map,.map a,.map none=>some a.isNone
 | .ifc,.nilifc,.nilifc=>some true
 | .ifc,.ifc _ _,.nilifc=>some false
 | .fn,.nilfn,.nilfn=>some true
 | .fn,.fn _ _ _,.nilfn=>some false
 | .agg z,.agg xs,.agg ys=>if BM z xs then CM xs ys else none
 |_,_,_=>none
def ZW(S:St)(a b:AV):Option Bool:=
 match a,b with
 | .ptr i a,.ptr j b=>if i=j then some (a==b) else if (DG S i).isSome=true∧(DG S j).isSome=true then some false else none
 |a,b=>eqA .ptr a b
def kK(S:St)(op:BinOp)(a b:AV):Option AV:=
 match op with
 | .eql=>(ZW S a b).map .bool
 | .neq=>(ZW S a b).map (fun b=>.bool (!b))
 |_=>none
def AP(op:BinOp)(a b:AV):Option AV:=
 match a,b with
 | .int k x,.int k' y=>match op with
  | .shl=>if y < 0 then none else some (.int k (k.wrap (x*2 ^ (min y.toNat k.bits))))
  | .shr=>if y < 0 then none else some (.int k (x.fdiv (2 ^ (min y.toNat k.bits))))
  |op=>if k=k' then GN op k x y else none
 | .str x,.str y=>TM op x y
 |_,_=>none
def Ic(k:EK)(op:BinOp)(a b:AV):Option AV:=
 match op with
 | .eql=>(eqA k a b).map .bool
 | .neq=>(eqA k a b).map (fun b=>.bool (!b))
 |_=>none
def unA(op:UnOp)(a:AV):Option AV:=
 match op,a with
 | .not,.bool b=>some (.bool (!b))
 | .neg,.int k n=>some (.int k (k.wrap (0 - n)))
 |_,_=>none
def bytesOf:List (List AV)→Option (List UInt8)
 |[]=>some []
 |[.int .u8 n]::l=>match bytesOf l with|some r=>some (UInt8.ofNat n.toNat::r)|none=>none
 |_=>none
def Cq(k:IntKind)(a:AV):Option AV:=match a with| .int _ n=>some (.int k (k.wrap n))|_=>none
def Vc(a:AV):Option AV:=match a with| .str x=>some (.str x)|_=>none
def ZJ(a:AV):Option AV:=match a with| .vs _ es _=>(bytesOf es).map .str|_=>none
def FJ(a:AV):Option AV:=match a with| .str s=>some (.int .i64 s.length)|_=>none
def A6(a:AV):Option AV:=
 match a with
 | .vs _ es _=>some (.int .i64 es.length)
 | .rs _ _ _ n=>some (.int .i64 n)
 |_=>none
def LW(S:St)(a:AV):Option AV:=
 match a with
 | .map none=>some (.int .i64 0)
 | .map (some id)=>(Jx S id).map fun m=>.int .i64 m.length
 |_=>none
def lim:Nat:=100000000000
def chunks(sz:Nat):Nat→List AV→List (List AV)
 |0,_=>[]
 |n+1,l=>(l.take sz).map AV.strip1::chunks sz n (l.drop sz)
def BO(S:St)(sz:Nat)(x:AV):Option (List (List AV)):=
 match x with
 | .vs sy ys _=>if ys=[]∨sy=sz then some ys else none
 | .str b=>if sz=1 then some (b.map fun c=>[.int .u8 c.toNat]) else none
 | .rs sy id off n=>if sy=sz then (DG S id).bind fun cs=>if off+n*sz≤cs.length then some (chunks sz n (cs.drop off)) else none else none
 |_=>none
def Qb(S:St)(a:AV):Option AV:=
 match a with
 | .rs sz id off n=>(BO S 1 (.rs sz id off n)).bind fun es=>(bytesOf es).map .str
 |a=>ZJ a
def C4(ei:TI):Rt→Nat| .own t=>if t=ei.id then t else 0|_=>ei.id
def Aj(ei:TI)(S:St)(s x:AV):Option AV:=
 match s with
 | .vs sz es r=>(BO S ei.size x).bind fun ys=>
  if ys=[] then some s
  else if r≠ .none∧(r= .nil∨sz=ei.size)∧es.length+ys.length≤lim then some (.vs ei.size (es++ys) (.own (C4 ei r))) else none
 |_=>none
inductive KK|int|str|agg(z:List AV)
def LT:KK→AV→Bool
 | .int,.int ..=>true
 | .str,.str _=>true
 | .agg z,.agg cs=>BM z cs
 |_,_=>false
def Or(a b:AV):Option Bool:=
 match a,b with
 | .agg xs,.agg ys=>CM xs ys
 |a,b=>GT a b
def Gf(k:AV):List (AV×AV)→Nat→Option (Option (Nat×AV))
 |[],_=>some none
 |(k',v)::m,i=>match Or k k' with
  |some true=>some (some (i,v))
  |some false=>Gf k m (i+1)
  |none=>none
def Wt(k:Nat):Option KK:=
 match (C.ty k).kind with
 | .int _=>some .int
 | .str=>some .str
 | .struct _=>match C.eqk k with|true=>some (.agg (C.ty k).zero)|false=>none
 |_=>none
def isLit:Operand→Bool| .const _=>true|_=>false
def Mt(t:Nat)(lit:Bool):EK:=
 match (C.ty t).kind with
 | .int _=>.plain
 | .str=>.plain
 | .bool=>.bool
 | .ptr e=>match lit with|true=>.ptr|false=>match C.has e&&!(Nat.beq (C.ty e).size 0) with|true=>.ptr2|false=>.other
 | .slice _=>.slice
 | .map _ _=>.map
 | .iface=>match lit with|true=>.ifc|false=>.other
 | .func=>.fn
 | .struct _=>match C.eqk t with|true=>.agg (C.ty t).zero|false=>.other
 |_=>.other
def CE(sz:Nat):List AV→Option (List (List AV))
 |[]=>some []
 |a::l=>if a.free=true∧a.cells.length=sz then (CE sz l).map (a.strip.cells::·) else none
def By(i:TI)(esz:Nat)(ps:List (Nat×AV)):Option AV:=
 match i.kind with
 | .struct fs=>(Md fs ps i.zero).map .agg
 | .array _ _=>(Ye esz ps i.zero).map .agg
 |_=>none
def Y8(t i:Nat):Nat:=
 match (C.ty t).kind with
 | .struct fs=>((fs[i]?).map (·.2.1)).getD 0
 | .array _ e=>e
 | .slice e=>e
 |_=>0
def CC(i:TI)(a:AV):Option (List AV):=if a.free=true∧a.cells.length=i.size then some a.cells else none
def Ig(a:AV):Option AV:=
 match a with
 | .ptr id off=>some (.ptr id off)
 | .ep cs off=>some (.ep cs off)
 |_=>none
def WS:TK→Bool| .iface=>false|_=>true
def Q3(i:TI)(t:Nat)(a:AV):Option AV:=if WS i.kind=true∧a.free=true then some (.ifc t a.strip) else none
def au(g:Nat)(xs ys:List AV):Option AV:=if xs.all AV.free=true∧ys.all AV.free=true then some (.fn g (xs.map AV.strip) (ys.map AV.strip)) else none
def FB(ei:TI)(byref:Bool)(S:St)(l c:AV):Option (AV×St):=
 match l,c with
 | .int _ ln,.int _ cn=>
  if 0≤cn∧cn≤lim∧0≤ln∧ln≤cn then
   if ln=0∧byref=false then some (.vs ei.size [] (.own ei.id),S)
   else some (.rs ei.size S.length 0 ln.toNat,S++[.cells (List.replicate ln.toNat ei.zero).flatten 0])
  else none
 |_,_=>none
def MJ(i:TI):AV:=if i.agg then .agg i.zero else i.zero.headD .undef
def IJ(g:KK)(ei:TI)(S:St)(m key:AV):Option (AV×Bool):=
 if LT g key then match m with
  | .map none=>some (MJ ei,false)
  | .map (some id)=>(Jx S id).bind fun es=>(Gf key es 0).map fun r=>match r with|some (_,v)=>(v,true)|none=>(MJ ei,false)
  |_=>none
 else none
def HW(g:KK)(S:St)(m key x:AV):Option St:=
 if LT g key=true∧x.free=true then match m with
  | .map (some id)=>(Jx S id).bind fun es=>(Gf key es 0).map fun r=>match r with
   |some (i,_)=>S.set id (.map (es.modify i (fun p=>(p.1,x.strip))))
   |none=>S.set id (.map (es++[(key,x.strip)]))
  |_=>none
 else none
def M7(g:KK)(S:St)(m key:AV):Option St:=
 if LT g key then match m with
  | .map none=>some S
  | .map (some id)=>(Jx S id).bind fun es=>(Gf key es 0).map fun r=>match r with
   |some (i,_)=>S.set id (.map (es.eraseIdx i))
   |none=>S
  |_=>none
 else none
def jK:List AV→Option AV
 |[.int k x,.int k' y]=>if k=k' then some (.int k (if y < x then y else x)) else none
 |_=>none
def SU:List AV→Option AV
 |[.int k x,.int k' y]=>if k=k' then some (.int k (if y > x then y else x)) else none
 |[.int k x,.int k' y,.int k2 z]=>if k=k'∧k=k2 then some (.int k (if z > (if y > x then y else x) then z else (if y > x then y else x))) else none
 |_=>none
def appendR(ei:TI)(S:St)(s x:AV):Option (AV×St):=
 (BO S ei.size x).bind fun ys=>
  if ys=[] then (match s with| .vs ..| .rs ..=>some (s,S)|_=>none)
  else match s with
   | .vs _ [] r=>if (r= .nil∨r= .full)∧ys.length≤lim then some (.rs ei.size S.length 0 ys.length,S++[.cells ys.flatten 0]) else none
   | .rs sz id 0 n=>(DG S id).bind fun cs=>
    if sz=ei.size∧n*sz≤cs.length∧n+ys.length≤lim then some (.rs sz S.length 0 (n+ys.length),S.set id .dead++[.cells (cs.take (n*sz)++ys.flatten) 0]) else none
   |_=>none
def UM(ei:TI)(S:St)(d s:AV):Option (AV×St):=
 (BO S ei.size s).bind fun ys=>match d with
  | .vs _ [] _=>some (.int .i64 0,S)
  | .rs sz id off n=>(DG S id).bind fun cs=>
   if sz=ei.size∧off+n*sz≤cs.length then
    some (.int .i64 ↑(min ys.length n),S.set id (.cells (A9 cs off (ys.take (min ys.length n)).flatten) (Jy S id)))
   else none
  |_=>none
def Aq(c a b:AV):Option AV:=match c with| .bool true=>some a| .bool false=>some b|_=>none
def AK(t:AV)(i:Nat):Option AV:=match t with| .tup vs=>vs[i]?|_=>none
def AQ(t:AV)(i:Nat):AV:=match t with| .tup vs=>.tup (vs.modify i AV.strip2)|a=>a
def CD(as:List AV):Option (List AV):=if as.all AV.free=true then some (as.map AV.strip) else none
def Lj(g:AV)(as:List AV):Option (Nat×List AV):=
 match g with
 | .fn g first cap=>(CD (first++as++cap)).map fun as=>(g,as)
 |_=>none
def FK(r:AV)(m:String)(as:List AV):Option (Nat×List AV):=
 match r with
 | .ifc t v=>(C.meth t m).bind fun g=>(CD (v::as)).map fun as=>(g,as)
 |_=>none
def feeds(ops:List Oper)(d:Option Nat):Bool:=
 match d with
 |none=>false
 |some d=>ops.any fun o=>match o.op with
  | .call {callee:=.builtin .append,args:=as,..}=>(match as.toList with| .tmp x::_=>Nat.beq x d|_=>false)
  | .slice _ (.tmp x) _ _ none=>Nat.beq x d
  |_=>false
def Gy(f:Nat)(ops:List Oper)(d:Option Nat):Bool:=
 match (match d with|some d=>C.tk f d|none=>false) with
 |true=>true
 |false=>feeds ops d
def Ea(o:Oper)(x:Nat):Bool:=match o.dst with|some d=>Nat.beq d x|none=>false
def B6(r:Nat→Option (Nat×Nat)):Op→Option (Nat×Nat)
 | .fieldAddr t (.tmp y) i=>match r y,Ob C t i with
  |some (b,off),some fo=>some (b,off+fo)
  |_,_=>none
 | .indexAddr t (.tmp y) (.const (.int _ i))=>match r y,(C.ty t).kind with
  |some (b,off),.array n e=>match decide (0≤i∧i < n) with|true=>some (b,off+i.toNat*(C.ty e).size)|false=>none
  |_,_=>none
 | .nilCheck (.tmp y)=>r y
 | .move (.tmp y)=>r y
 |_=>none
def AR(f:Nat)(x:Nat):List Oper→Option (Nat×Nat)
 |[]=>match C.loc f x with|true=>some (x,0)|false=>none
 |o::l=>
  match C.loc f x with
  |true=>some (x,0)
  |false=>
   match Ea o x with
   |true=>B6 C (fun y=>AR f y l) o.op
   |false=>match AR f x l with
    |some (b,off)=>match Ea o b with|true=>none|false=>some (b,off)
    |none=>none
def resolve(f:Nat)(before:List Oper):Operand→Option (Nat×Nat)
 | .tmp x=>AR C f x before
 |_=>none
def sroot(f:Nat)(all:List Oper):Nat→Nat→Option Nat
 |0,x=>match C.loc f x with|true=>some x|false=>none
 |n+1,x=>match C.loc f x with
  |true=>some x
  |false=>match all.find? (fun o=>Ea o x) with
   |some o=>(match o.op with
    | .fieldAddr _ (.tmp y) _| .indexAddr _ (.tmp y) _| .nilCheck (.tmp y)| .move (.tmp y)=>sroot f all n y
    |_=>none)
   |none=>none
def Ix(f:Nat)(all:List Oper):Operand→Option Nat
 | .tmp x=>sroot C f all all.length x
 |_=>none
def Tf(f:Nat)(all:List Oper)(o:Oper):List Nat:=
 o.dst.toList++match o.op with
  | .store _ x _| .load _ x=>(Ix C f all x).toList
  |_=>[]
def DT(ops:Array Oper)(fr:Fr)(j:Nat):AV:=
 match (ops[j]?).bind (·.dst) with
 |some d=>fr.v d
 |none=>.undef
end ops
inductive Ex|normal|exit(id:Nat)|ret
 deriving DecidableEq
section W
variable (C:Ctx) (Ca:Nat→List AV→St→(AV→St→Prop)→Prop) (f:Nat)
def ifK(c:AV)(A B:Prop):Prop:=match c with| .bool true=>A| .bool false=>B|_=>False
def AX(g:Nat)(as:List AV)(S:St)(k:AV→St→Prop):Prop:=AA (CD as) fun as=>Ca g as S k
def AY{α:Type}(r:α)(b:α→Prop):Prop:=b r
def Y3(t:Nat):Bool:=match (C.ty t).kind with| .tuple=>true|_=>false
def H2(c:Call)(t:Nat)(dst:Option Nat)(fr:Fr)(S:St)(K:Fr→St→Prop):Prop:=
 let all:List AV:=(c.argTypes.toList.zip c.args.toList).map fun p=>opd C fr p.1 p.2
 match c.callee with
 | .value (.func g)=>match Nat.beq c.argTypes.size c.args.size with
  |true=>AX Ca g all S fun r S'=>K (fr.put dst r) S'
  |false=>False
 | .value g=>match Nat.beq c.argTypes.size c.args.size with
  |true=>AA (Lj (opd C fr 0 g) all) fun p=>Ca p.1 p.2 S fun r S'=>K (fr.put dst r) S'
  |false=>False
 | .invoke r m=>match Nat.beq c.argTypes.size c.args.size with
  |true=>AA (FK C (opd C fr 0 r) m all) fun p=>Ca p.1 p.2 S fun r S'=>K (fr.put dst r) S'
  |false=>False
 | .builtin b=>match c.argTypes.toList,c.args.toList with
  |[t],[x]=>match b with
   | .len=>match (C.ty t).kind with
    | .str=>AA (FJ (opd C fr t x)) fun v=>K (fr.put dst v) S
    | .slice _=>AA (A6 (opd C fr t x)) fun v=>K (fr.put dst v) S
    | .map _ _=>AA (LW S (opd C fr t x)) fun v=>K (fr.put dst v) S
    |_=>False
   |_=>False
  |[t,u],[x,y]=>match b with
   | .min=>AA (jK [opd C fr t x,opd C fr u y]) fun v=>K (fr.put dst v) S
   | .max=>AA (SU [opd C fr t x,opd C fr u y]) fun v=>K (fr.put dst v) S
   | .append=>match (C.ty t).kind,(match (C.ty u).kind with| .slice _=>true| .str=>true|_=>false) with
    | .slice e,true=>match C.byref e with
     |true=>AA (appendR (C.ty e) S (opd C fr t x) (opd C fr u y)) fun p=>K ((fr.stripAt x).put dst p.1) p.2
     |false=>AA (Aj (C.ty e) S (opd C fr t x) (opd C fr u y)) fun v=>K ((fr.stripAt x).put dst v) S
    |_,_=>False
   | .copy=>match (C.ty t).kind with
    | .slice e=>AA (UM (C.ty e) S (opd C fr t x) (opd C fr u y)) fun p=>K (fr.put dst p.1) p.2
    |_=>False
   | .delete=>match (C.ty t).kind with
    | .map k _=>match Wt C k with
     |some g=>AA (M7 g S (opd C fr t x) (opd C fr u y)) fun S'=>K (fr.put dst .undef) S'
     |none=>False
    |_=>False
   |_=>False
  |[t,u,_],[x,y,z]=>match b with
   | .max=>AA (SU [opd C fr t x,opd C fr u y,opd C fr t z]) fun v=>K (fr.put dst v) S
   |_=>False
  |_,_=>False
def opW(before:List Oper)(tk:Bool)(o:Oper)(fr:Fr)(S:St)(K:Fr→St→Prop):Prop:=
 match o.op with
 | .move x=>match resolve C f before x with
  |some _=>K (fr.put o.dst .undef) S
  |none=>match tk||Y3 C o.type with
   |true=>K ((fr.stripAt x).put o.dst (opd C fr o.type x)) S
   |false=>K (fr.put o.dst (opd C fr o.type x).strip) S
 | .assign x=>match resolve C f before x with
  |some _=>False
  |none=>K ((fr.stripAt x).put o.dst (opd C fr o.type x)) S
 | .pick c a b=>AA (Aq (opd C fr 4 c) (opd C fr o.type a) (opd C fr o.type b)) fun v=>K (fr.put o.dst v.strip) S
 | .alloc e=>match o.dst with
  |some d=>match C.loc f d with
   |true=>K ((fr.setB d (some (C.ty e).zero)).set d .undef) S
   |false=>K (fr.set d (.ptr S.length 0)) (S++[.cells (C.ty e).zero e])
  |none=>False
 | .box e x=>AA (CC (C.ty e) (opd C fr e x)) fun cs=>match o.dst with
  |some d=>match C.loc f d with
   |true=>K (((fr.stripAt x).setB d (some cs)).set d .undef) S
   |false=>K ((fr.stripAt x).set d (.ptr S.length 0)) (S++[.cells cs e])
  |none=>False
 | .build t parts=>AA (By (C.ty t) (C.ty (match (C.ty t).kind with| .array _ e=>e|_=>0)).size (parts.toList.map fun p=>(p.1,opd C fr (Y8 C t p.1) p.2))) fun v=>K (fr.put o.dst v) S
 | .buildSlice t n parts=>match (C.ty t).kind,decide (parts.toList.map (·.1)=List.range n),decide (n≤1000) with
  | .slice e,true,true=>AA (CE (C.ty e).size (parts.toList.map fun p=>opd C fr e p.2)) fun es=>K (fr.put o.dst (.vs (C.ty e).size es .full)) S
  |_,_,_=>False
 | .load t x=>match resolve C f before x with
  |some (b,off)=>AA (AB (C.ty t) (fr.b b) off) fun v=>match tk with
   |true=>K ((fr.setB b (Fx (fr.b b) off)).put o.dst v.strip0) S
   |false=>K (fr.put o.dst v.strip) S
  |none=>AA (AI (C.ty t) S (opd C fr 0 x)) fun v=>match tk with
   |true=>K (fr.put o.dst v.strip0) (stripMem S (opd C fr 0 x))
   |false=>K (fr.put o.dst v.strip) S
 | .store t x y=>match resolve C f before x with
  |some (b,off)=>AA (AZ (C.ty t) (fr.b b) off (opd C fr t y)) fun cs=>K (((fr.stripAt y).setB b (some cs)).put o.dst .undef) S
  |none=>AA (Bn (C.ty t) S (opd C fr 0 x) (opd C fr t y)) fun S'=>K ((fr.stripAt y).put o.dst .undef) S'
 | .nilCheck x=>match resolve C f before x with
  |some p=>AA (fr.b p.1) fun _=>K (fr.put o.dst .undef) S
  |none=>AA (Ig (opd C fr 0 x)) fun v=>K (fr.put o.dst v) S
 | .binOp op t x y u=>match Mt C t (isLit x||isLit y) with
  | .plain=>AA (AP op (opd C fr t x) (opd C fr u y)) fun v=>K (fr.put o.dst v) S
  | .other=>False
  | .ptr2=>AA (kK S op (opd C fr t x) (opd C fr u y)) fun v=>K (fr.put o.dst v) S
  |k=>AA (Ic k op (opd C fr t x) (opd C fr u y)) fun v=>K (fr.put o.dst v) S
 | .unOp op t x=>AA (unA op (opd C fr t x)) fun v=>K (fr.put o.dst v) S
 | .convert src dst x=>match (C.ty dst).kind with
  | .int k=>AA (Cq k (opd C fr src x)) fun v=>K (fr.put o.dst v) S
  | .str=>match (C.ty src).kind with
   | .str=>AA (Vc (opd C fr src x)) fun v=>K (fr.put o.dst v) S
   | .slice e=>match (C.ty e).kind with
    | .int .u8=>AA (Qb S (opd C fr src x)) fun v=>K (fr.put o.dst v) S
    |_=>False
   |_=>False
  |_=>False
 | .makeInterface t x=>AA (Q3 (C.ty t) t (opd C fr t x)) fun v=>K (fr.put o.dst v) S
 | .makeFunc (.func g) first cap=>AA (au g (first.toList.map (opd C fr 0)) (cap.toList.map (opd C fr 0))) fun v=>K (fr.put o.dst v) S
 | .makeMap _ none=>K (fr.put o.dst (.map (some S.length))) (S++[.map []])
 | .makeSlice t l c=>match (C.ty t).kind with
  | .slice e=>AA (FB (C.ty e) (C.byref e) S (opd C fr 3 l) (opd C fr 3 c)) fun p=>K (fr.put o.dst p.1) p.2
  |_=>False
 | .slice t x lo hi mx=>match (C.ty t).kind with
  | .str=>match mx with
   |none=>AA (FM (opd C fr t x) (lo.map (opd C fr 3)) (hi.map (opd C fr 3))) fun v=>K (fr.put o.dst v) S
   |some _=>False
  | .slice e=>AA (Dt (C.ty e) (opd C fr t x) (lo.map (opd C fr 3)) (hi.map (opd C fr 3)) (mx.map (opd C fr 3))) fun v=>match mx with
   |none=>K ((fr.stripAt x).put o.dst v) S
   |some _=>K (fr.put o.dst v) S
  |_=>False
 | .fieldAddr t x i=>match Ob C t i with
  |none=>False
  |some fo=>match resolve C f before x with
   |some p=>AA (fr.b p.1) fun _=>K (fr.put o.dst .undef) S
   |none=>AA (Bd (opd C fr 0 x) fo) fun v=>K (fr.put o.dst v) S
 | .field t x i=>match (C.ty t).kind with
  | .struct fs=>match fs[i]? with
   |some p=>AA (Il (C.ty p.2.1) (opd C fr t x) p.1) fun v=>K (fr.put o.dst v.strip) S
   |none=>False
  |_=>False
 | .indexAddr t x i=>match (C.ty t).kind with
  | .slice e=>AA (Ae (C.ty e) (opd C fr t x) (opd C fr 3 i)) fun v=>K (fr.put o.dst v) S
  | .array n e=>match resolve C f before x with
   |some p=>match i with
    | .const (.int _ m)=>match decide (0≤m∧m < n) with|true=>AA (fr.b p.1) fun _=>K (fr.put o.dst .undef) S|false=>False
    |_=>False
   |none=>AA (jL n (C.ty e) (opd C fr t x) (opd C fr 3 i)) fun v=>K (fr.put o.dst v) S
  |_=>False
 | .index t x i=>match (C.ty t).kind with
  | .str=>AA (Gg (opd C fr t x) (opd C fr 3 i)) fun v=>K (fr.put o.dst v) S
  | .array n e=>AA (bv n (C.ty e) (opd C fr t x) (opd C fr 3 i)) fun v=>K (fr.put o.dst v.strip) S
  |_=>False
 | .lookup t x i ok=>match (C.ty t).kind with
  | .map k e=>match Wt C k with
   |some g=>AA (IJ g (C.ty e) S (opd C fr t x) (opd C fr k i)) fun p=>match ok with
    |true=>K (fr.put o.dst (.tup [p.1,.bool p.2])) S
    |false=>K (fr.put o.dst p.1) S
   |none=>False
  |_=>False
 | .mapUpdate t m k x=>match (C.ty t).kind with
  | .map kt et=>match Wt C kt with
   |some g=>AA (HW g S (opd C fr t m) (opd C fr kt k) (opd C fr et x)) fun S'=>K (fr.put o.dst .undef) S'
   |none=>False
  |_=>False
 | .extract (.tmp t) i=>AA (AK (fr.v t) i) fun v=>K ((fr.set t (AQ (fr.v t) i)).put o.dst v) S
 | .call c=>H2 C Ca c o.type o.dst fr S K
 |_=>False
def R9(o:Oper):Bool:=
 match o.op,o.dst with
 | .alloc _,_| .box _ _,_=>true
 |_,some d=>match C.loc f d with|true=>false|false=>true
 |_,none=>true
def Fr.skip(fr:Fr)(d:Option Nat):Fr:=
 match d with
 |some d=>match C.loc f d with|true=>(fr.setB d none).set d (.tup [])|false=>fr.set d (.tup [])
 |none=>fr
def lQ(o:Oper)(x:Option Nat):Bool:=match o.dst,x with|some d,some e=>Nat.beq d e|_,_=>false
def gK(c:AV)(A B Z:Prop):Prop:=match c with| .bool true=>A| .bool false=>B| .tup []=>Z|_=>False
def gG(g:Option (Nat×Bool))(c:AV)(A B Z:Prop):Prop:=match g with|none=>ifK c A B|some _=>gK c A B Z
def JI(ops:Array Oper)(o:Oper)(dec:List (Nat×Option Bool)):List (Nat×Option Bool):=dec.filter fun p=>!(lQ o ((ops[p.1]?).bind (·.dst)))
def decided(j:Nat):List (Nat×Option Bool)→Option (Option Bool)
 |[]=>none
 |p::l=>match Nat.beq p.1 j with|true=>some p.2|false=>decided j l
def R5(ops:Array Oper)(all:List Oper)(K:Fr→St→Prop):List (Nat×Option Bool)→List Oper→List Oper→Fr→St→Prop
 |_,_,[],fr,S=>K fr S
 |dec,before,o::l,fr,S=>
  let run (dec:List (Nat×Option Bool)):Prop:=match R9 C f o with
   |true=>opW C Ca f before (Gy C f all o.dst) o fr S (R5 ops all K (JI ops o dec) (o::before) l)
   |false=>False
  let skip (dec:List (Nat×Option Bool)):Prop:=R5 ops all K (JI ops o dec) ({o with op:=.ready 0}::before) l (fr.skip C f o.dst) S
  match o.guard with
  |none=>run dec
  |some (j,want)=>match decided j dec with
   |some (some b)=>match b,want with
    |true,true|false,false=>run dec
    |_,_=>skip dec
   |some none=>skip dec
   |none=>match want with
    |true=>gG ((ops[j]?).bind (·.guard)) (DT ops fr j) (run ((j,some true)::dec)) (skip ((j,some false)::dec)) (skip ((j,none)::dec))
    |false=>gG ((ops[j]?).bind (·.guard)) (DT ops fr j) (skip ((j,some true)::dec)) (run ((j,some false)::dec)) (skip ((j,none)::dec))
variable (Dr:Array Oper→(Fr→St→Prop)→Fr→St→Prop)
def pX(N:Fr→St→Prop)(K:Ex→Fr→St→Prop):Ex→Fr→St→Prop
 | .normal,fr,S=>N fr S
 | .exit id,fr,S=>K (.exit id) fr S
 | .ret,fr,S=>K .ret fr S
def cj(id:Nat)(K:Ex→Fr→St→Prop):Ex→Fr→St→Prop
 | .exit j,fr,S=>match Nat.beq j id with|true=>K .normal fr S|false=>K (.exit j) fr S
 | .normal,fr,S=>K .normal fr S
 | .ret,fr,S=>K .ret fr S
def CF:Operand→List Nat| .tmp x=>[x]|_=>[]
def BA(tk:Bool)(o:Oper):List Nat:=
 o.dst.toList++match o.op with
 | .move x=>(match tk||Y3 C o.type with|true=>CF x|false=>[])
 | .assign x| .box _ x| .store _ _ x| .slice _ x _ _ none| .extract x _=>CF x
 | .call {callee:=.builtin .append,args:=as,..}=>CF (as.toList.headD (.func 0))
 |_=>[]
def Ed(before:List Oper)(o:Oper):List Nat:=
 match o.op with
 | .alloc _| .box _ _=>o.dst.toList
 | .store _ x _| .load _ x=>o.dst.toList.filter (C.loc f)++(match resolve C f before x with|some (b,_)=>[b]|none=>[])
 |_=>o.dst.toList.filter (C.loc f)
def PD:List Oper→List Oper→List Nat
 |_,[]=>[]
 |before,o::l=>Ed C f before o++PD (o::before) l
def KL:Code→List Nat
 | .region _ ops _=>ops.toList.flatMap fun o=>BA C (Gy C f ops.toList o.dst) o
 | .seq a b| .cond _ a b=>KL a++KL b
 | .block _ b| .loop b=>KL b
 |_=>[]
def NV:Code→List Nat
 | .region _ ops false=>PD C f [] ops.toList
 | .region _ ops true=>ops.toList.flatMap (Tf C f ops.toList)
 | .seq a b| .cond _ a b=>NV a++NV b
 | .block _ b| .loop b=>NV b
 |_=>[]
abbrev Lv:=List AV×List (Option (List AV))
def proj(p:List Nat×List Nat)(fr:Fr):Lv:=(p.1.map fr.v,p.2.map fr.b)
def YZ(ws bs:List Nat)(fr:Fr)(v:Nat→AV)(b:Nat→Option (List AV)):Fr:=
 {v:=fun j=>match ws.elem j with|true=>v j|false=>fr.v j,b:=fun j=>match bs.elem j with|true=>b j|false=>fr.b j}
def lW(pr:List Nat×List Nat)(next:Lv→St→Prop)(K:Ex→Fr→St→Prop):Ex→Fr→St→Prop
 | .normal,fr,S=>next (proj pr fr) S
 | .exit id,fr,S=>K (.exit id) fr S
 | .ret,fr,S=>K .ret fr S
def Cb(x0:Lv)(pj:(Nat→AV)→(Nat→Option (List AV))→Lv)(body:(Lv→St→Prop)→(Nat→AV)→(Nat→Option (List AV))→St→Prop)(S:St):Prop:=
 ∃J:Nat→Lv→St→Prop,(∃n,J n x0 S)∧∀n v b S,J n (pj v b) S→body (fun x S'=>∃m,m < n∧J m x S') v b S
def Fh:Code→Nat
 | .region id _ _=>id
 | .seq a _=>Fh a
 | .block _ b=>Fh b
 | .loop b=>Fh b
 |_=>0
def W:Code→(Ex→Fr→St→Prop)→Fr→St→Prop
 | .skip,K,fr,S=>K .normal fr S
 | .region _ ops false,K,fr,S=>R5 C Ca f ops ops.toList (K .normal) [] [] ops.toList fr S
 | .region _ ops true,K,fr,S=>Dr ops (K .normal) fr S
 | .seq a b,K,fr,S=>W a (pX (W b K) K) fr S
 | .cond c a b,K,fr,S=>ifK (opd C fr 4 c) (W a K fr S) (W b K fr S)
 | .block id b,K,fr,S=>W b (cj id K) fr S
 | .loop c, K, fr, S => Cb (proj (C.live f (Fh c)) fr) (fun v b => proj (C.live f (Fh c)) (YZ (KL C f c) (NV C f c) fr v b))
   (fun next v b S=>W c (lW (C.live f (Fh c)) next K) (YZ (KL C f c) (NV C f c) fr v b) S) S
 | .exit id,K,fr,S=>K (.exit id) fr S
 | .ret,K,fr,S=>K .ret fr S
 |_,_,_,_=>False
def SI(fr:Fr):ResultVar→Option AV
 | .tmp t=>some (fr.v t)
 | .cell b t=>(AB (C.ty t) (fr.b b) 0).map AV.strip
def iR(rs:List ResultVar)(fr:Fr)(Q:AV→Prop):Prop:=
 match rs with
 |[r]=>AA (SI C fr r) Q
 |[]=>Q (.tup [])
 |[r,r2]=>AA (SI C fr r) fun a=>AA (SI C fr r2) fun b=>Q (.tup [a.flat,b.flat])
 |[r,r2,r3]=>AA (SI C fr r) fun a=>AA (SI C fr r2) fun b=>AA (SI C fr r3) fun c=>Q (.tup [a.flat,b.flat,c.flat])
 |[r,r2,r3,r4]=>AA (SI C fr r) fun a=>AA (SI C fr r2) fun b=>AA (SI C fr r3) fun c=>AA (SI C fr r4) fun d=>Q (.tup [a.flat,b.flat,c.flat,d.flat])
 |_=>False
def pQ(rs:List ResultVar)(Q:AV→St→Prop):Ex→Fr→St→Prop
 | .exit _,_,_=>False
 | .normal,fr,S=>iR C rs fr fun r=>Q r S
 | .ret,fr,S=>iR C rs fr fun r=>Q r S
def fr0(args:List AV):Fr:={v:=fun j=>args.getD j .undef,b:=fun _=>none}
def aH:Code→List Nat
 | .region _ ops _=>ops.toList.flatMap fun o=>o.dst.toList
 | .seq a b| .cond _ a b=>aH a++aH b
 | .block _ b| .loop b=>aH b
 |_=>[]
def EG(t:Nat):List Nat:=
 t::match (C.ty t).kind with
  | .slice e| .array _ e=>[e]
  | .map k e=>[k,e]
  | .struct fs=>fs.map (·.2.1)
  |_=>[]
def DR(o:Oper):List Nat:=
 match o.op with
 | .alloc t| .build t _| .buildSlice t _ _| .load t _| .store t _ _| .convert _ t _| .makeInterface t _| .makeMap t _| .makeSlice t _ _| .slice t _ _ _ _
 | .fieldAddr t _ _| .field t _ _| .indexAddr t _ _| .index t _ _| .lookup t _ _ _| .mapUpdate t _ _ _=>EG C t++(match o.op with| .convert s _ _=>EG C s|_=>[])
 | .binOp .eql t ..| .binOp .neq t ..=>EG C t
 | .call {callee:=.builtin _,argTypes:=ts,..}=>ts.toList.flatMap (EG C)
 |_=>[]
def VT:Code→List Nat
 | .region _ ops _=>ops.toList.flatMap (DR C)
 | .seq a b| .cond _ a b=>VT a++VT b
 | .block _ b| .loop b=>VT b
 |_=>[]
def jQ(rs:List ResultVar):List Nat:=rs.flatMap fun| .cell _ t=>[t]| .tmp _=>[]
def Sq(rs:List ResultVar):List Nat:=rs.flatMap fun| .cell _ _=>[]| .tmp t=>[t]
def nodupB:List Nat→Bool
 |[]=>true
 |x::l=>!l.elem x&&nodupB l
def WF(fn:Func)(args:List AV)(S:St)(Q:AV→St→Prop):Prop:=
 match fn.body with
 |some c=>match (aH c).all (fun d=>Nat.blt d fn.ntmps)&&(VT C c).all C.has&&(jQ fn.results.toList).all C.has&&nodupB (Sq fn.results.toList) with
  |true=>W C Ca f Dr c (pQ C fn.results.toList Q) (fr0 args) S
  |false=>False
 |none=>False
end W
end Go.Av
