/- Parts of the proofs of this seat: abstract values over the model, and what the functions of the program do. No condition. -/
import Derived.Test.YtehadbpejfjheaaGreatDoorX07L
import Derived.Test.YtehadbpejfjheaaGreatDoorY10
import Derived.Test.YtehadbpejfjheaaGreatDoorXLruL
import Derived.Test.YtehadbpejfjheaaGreatDoorM12
import Derived.Test.YtehadbpejfjheaaGreatDoorXSplit
import Derived.Test.YtehadbpejfjheaaGreatDoorCards
import Derived.Test.YtehadbpejfjheaaGreatDoorTie
import Derived.WalkKit
import Derived.ProofKit
import Derived.OpenShut
import Derived.Below
import Derived.JoinedCond
import Derived.Deep.DeepHandedRow
import Derived.Deep.DeepWitnessRowRef
import Derived.Lib.LaidTab
set_option linter.all false
set_option maxRecDepth 100000
namespace Go.Av
open Go.Proofs
abbrev CuX:=VP×Rt
def CuX.c(x:CuX):List AV:=[.int .i64 x.1.id,.int .i64 x.1.epoch,.vs 1 (x.1.names.map Cw) x.2,.int .i64 x.1.at_]
@[simp] theorem CuX.len(x:CuX):(CuX.c x).length=4:=rfl
def iC(n:Int):List AV:=[.int .i64 n]
structure SpX where
 rd:Rt
 ri:Rt
 ro:Rt
 ox:List CuX
def SpX.c(X:SpX)(σ:SpN):List AV:=[.vs 7 (σ.D.map Node.c) X.rd,.vs 1 (σ.ids.map iC) X.ri,.int .i64 σ.next,.int .i64 σ.epoch,.int .i64 σ.room,.vs 4 (X.ox.map CuX.c) X.ro,.int .i64 σ.made]
structure SpX.ok(X:SpX)(σ:SpN):Prop where
 rd:X.rd.strip=X.rd∧okR X.rd σ.D
 ri:X.ri.strip=X.ri∧okR X.ri σ.ids
 ro:X.ro.strip=X.ro∧okR X.ro X.ox
 ox:X.ox.map (·.1)=σ.opens
 rx:∀x∈X.ox,x.2.strip=x.2
@[simp] theorem SpX.len(X:SpX)(σ:SpN):(X.c σ).length=7:=rfl
theorem strip_strip(r:Rt):r.strip.strip=r.strip:=by cases r<;>rfl
theorem SpX.map(X:SpX)(σ:SpN)(h:X.ok σ):(X.c σ).map AV.strip1=X.c σ:=by
 simp[SpX.c,AV.strip1,h.rd.1,h.ri.1,h.ro.1]
@[simp] theorem SpX.free1(X:SpX)(σ:SpN):(∀x∈X.c σ,x.free1=true)↔True:=by simp[SpX.c,AV.free1]
theorem okR.nil{α:Type}{r:Rt}{l:List α}(h:okR r l):r= .nil→l=[]:=fun e=>h (by rw[e];rfl)
open Go.Proofs
theorem Xq{w0:World}{S SL:St}{s:Stk}{D:List Node}{dr:Rt}{path:Str}(hL:Leads SL s D)(hD:Docs D)(hp:path.length≤1048576){Q:AV→St→Prop}
  (hq:∀r r2:Rt,Q (.tup [.vs 1 ((if FO (DV D path true)=0 then (DV D path true).names else []).map Cw) r.strip,.vs 2 ((GA D path).map Ent.c) r2,.int .i64 (FO (DV D path true))]) S):AC w0 KP [.vs 7 (D.map Node.c) dr,.str path] S Q:=by
 unfold GA at hq;refine ZS hL hD hp (fun he=>?_) (fun he r r2=>?_)
 ·have:=hq .nil .nil;rw[if_neg he,if_neg he] at this;exact this
 ·have:=hq r r2;rw[if_pos he,if_pos he,he] at this;exact this
open Go.Proofs
theorem jU{α:Type}{j:Nat}(hj:j < 3)(x:α):Ub ((List.replicate 3 ([]:List α)).set j [x])=1:=by
 match j,hj with
 |0,_=>rfl
 |1,_=>rfl
 |2,_=>rfl
def Mg(n:Nat)(dir:Str)(L:List Ent)(r:Rt):List (List (Str×BX)):=(List.replicate n ([]:List (Str×BX))).set (ofK n dir) [(dir,⟨0,L,r⟩)]
theorem Tn{n:Nat}{dir:Str}{L:List Ent}{r:Rt}:(Mg n dir L r).length=n:=by simp[Mg]
theorem XP{w0:World}{S:St}{sv:Nat}{ot fD fL:List Nat}{σ:SpN}{s:Stk}{hits misses made roomD roomL:Int}{shD:List (List (Str×Ap))}{shL:List (List (Str×BX))}{held:List ((Bool×Int)×Int)}{Q:AV→St→Prop}
  (hmx:L2 w0) (h:FH S sv ot fD fL σ s hits misses made roomD roomL shD shL held) (hep:σ.epoch=0) (hroom:1≤roomL) (hm:0≤made∧made≤1000000000) {D:List Node} (hL:Leads S s D) (hF:Fine D) {dir:Str} (hp:dir.length≤1048576) {n:Nat} (hn:1≤n) {first:Bool}
  (hc:if first=true then shL=List.replicate n [] else ∃r,shL=Mg n dir (GA D dir) r)
  (hq:∀S' fL' r q,Cg fL S S'→(∀j∈fL',j∈fL∨S.length≤j)→FH S' sv ot fD fL' σ s hits misses (if first=true then made+1 else made) roomD roomL shD (Mg n dir (GA D dir) r) held→Q (.vs 2 ((GA D dir).map Ent.c) q) S'):
  AC w0 ED [.ptr sv 0,.str dir] S Q:=by
 have hlist:=hF.list dir;cases first with
 |true=>
  simp only[if_true] at hc hq;subst hc;refine Lu hmx h hroom (fun l hl=>by have:=(List.mem_replicate.1 hl).2;subst this;simp) hm hL hF hp
   (fun S7 fL7 l x q hsl hg _ _ _ _=>by have:=Ra hsl;subst this;rw[Kg] at hg;cases hg) (fun S7 fL7 l l2 q hsl hne hk hC7 hfr7 hA7=>?_)
  have:=Ra hsl;subst this;obtain⟨r,hl2⟩:=gY hroom hk;subst hl2;rw[List.length_replicate,hep] at hA7;exact hq S7 fL7 r q hC7 hfr7 hA7
 |false=>
  simp only[Bool.false_eq_true,if_false] at hc hq;obtain⟨r,rfl⟩:=hc;have hgs:(Mg n dir (GA D dir) r)[ofK n dir]? =some [(dir,⟨0,GA D dir,r⟩)]:=by
   unfold Mg;rw[List.getElem?_set_self (by simpa using Gr hn dir)]
  refine Lu hmx h hroom (fun l hl=>?_) hm hL hF hp (fun S7 fL7 l x q hsl hg _ hC7 hfr7 hA7=>?_) (fun S7 fL7 l l2 q hsl hne _ _ _ _=>?_)
  ·unfold Mg at hl;rcases List.mem_or_eq_of_mem_set hl with hl|rfl
   ·have:=(List.mem_replicate.1 hl).2;subst this;simp
   ·simp;omega
  ·rw[Tn,hgs] at hsl;cases hsl;rw[Og] at hg;cases hg;rw[Tn,Og] at hA7;have e:(Mg n dir (GA D dir) r).set (ofK n dir) [(dir,⟨0,GA D dir,r⟩)]=Mg n dir (GA D dir) r:=by
    unfold Mg;rw[List.set_set]
   rw[e] at hA7;exact hq S7 fL7 r q hC7 hfr7 hA7
  ·exfalso;rw[Tn,hgs] at hsl;cases hsl;rw[Og] at hne;exact hne _ rfl (by simp[hep])
theorem Pm(w0:World)(hm:L2 w0)(x0 x1:AV)(h0:TV HR x0)(h1:TV FE x1):AC w0 J6 [x0,x1] [] fun r _=>r= .bool true:=by
 refine jD fun Q hq=>?_
 obtain⟨c,rfl,hlok,hll,hpl,htr⟩:=ce h0;obtain⟨room,rfl,hroom⟩:=h1.int VL;apply OM;unfold KA;simp;refine Oy hm (fun S _=>?_)
 simp;refine ag hlok (fun S2 hS2=>?_)
 cases hmay:X0 c.trees with
 |false=>simp[AO,hq]
 |true=>
 simp
 by_cases hp:200 < c.path.length
 ·have:(200:Int) < c.path.length:=by omega
  simp[AO,this,hq]
 have hpi:¬(200:Int) < c.path.length:=by omega
 obtain⟨h8,hall⟩:=ar.1 hmay;have hright:∀n∈c.trees,D5 n=true:=fun n hn=>(hall n hn).2
 simp[hpi,AO];refine Xv hm hlok hmay (fun S3 s hS3 hs=>?_)
 have hL:Leads S3 s c.trees.reverse:=Leads.of hs hlok hright (by omega)
 have hD:Docs c.trees.reverse:=Docs.of hlok hright (by omega)
 have hF:=hL.fine;simp;refine Ue hm hL (by omega) (fun S4 hS4=>⟨fun he=>?_,fun he t r hE=>?_⟩)
 ·simp[he,hq,Fnd.c,Fnd.none]
 ·simp[Fnd.c]
  by_cases hk:t.kind=2
  case neg=>simp[hk,hq]
  simp[hk];have hL4:=hL.mono hS4;have hM:=(hs.newS 0).sx hS4;refine NX (many:=3) (room:=room) (curs:=0) hM (by rw[FL]) (by rw[FL]) (by rw[FL]) (by rw[FL]) (fun S5 sv ot fD fL hS5 hge hA=>?_)
  have hep:(newS c.trees 0).epoch=0:=by rw[FL]
  have hnm:=(hF.names c.path he);generalize hw:DV c.trees.reverse c.path true=want at hE he hnm;generalize newS c.trees 0=σ at hA hep;have hmn:Eh 3=3:=rfl;rw[hmn] at hA;have hrp:=gE room;have hpath:(pathOf want.names).length≤1000:=Vy hnm.1 hnm.2;simp;refine W8 (by omega) (fun r3=>?_)
  simp;rw[←List.map_reverse];refine Xq hL hD (by omega) (fun r1 r2=>?_)
  obtain⟨L,hLL⟩:∃L,L=GA c.trees.reverse (pathOf want.names):=⟨_,rfl⟩;have hLlen:L.length≤6400000:=by rw[hLL];exact hF.list _
  rw[←hLL];simp;refine Fw (fun i:Nat=>([.int .i64 i],[some [.str (pathOf want.names),.int .i64 2,.int .i64 t.sp.fst,.int .i64 t.sp.snd,.vs 2 (t.dirs.map spC) r.strip]])) (fun n i S'=>n=2 - i∧i≤2∧∃fL' shL,FH S' sv ot fD fL' σ s 0 0 (if i=0 then 0 else 1) (Fg room) (Fg room) (List.replicate 3 []) shL []∧Leads S' s c.trees.reverse∧(if i=0 then shL=List.replicate 3 [] else ∃r,shL=Mg 3 (pathOf want.names) L r)) 2 0 (by simp) ⟨rfl,by omega,fL,List.replicate 3 [],by simpa using hA,hL4.mono hS5,by simp⟩ ?_
  rintro n i S6 v b ⟨rfl,hi,fL',shL,hA6,hL6,hcase⟩ hv;simp only[Prod.mk.injEq,List.cons.injEq,and_true] at hv;obtain⟨hv1,hv2⟩:=hv
  by_cases hi2:i < 2
  ·have hi2':(i:Int) < 2:=by omega
   simp[hv1,hv2,hi2'];have hc2:if decide (i=0)=true then shL=List.replicate 3 [] else ∃r,shL=Mg 3 (pathOf want.names) (GA c.trees.reverse (pathOf want.names)) r:=by
    rw[←hLL]
    by_cases h:i=0<;>simpa[h] using hcase
   refine XP hm hA6 hep hrp (by split<;>omega) hL6 hF (dir:=pathOf want.names) (by omega) (by omega) (first:=decide (i=0)) hc2 (fun S7 fL7 r7 q hC7 hfr7 hA7=>?_)
   rw[←hLL] at hA7 ⊢;have hL7:Leads S7 s c.trees.reverse:=hL6.chg hC7 (fun j hj=>hA6.apart.2 j (.inr (.inl hj)))
   have hmd:(if decide (i=0)=true then (if i=0 then (0:Int) else 1)+1 else (if i=0 then 0 else 1))=1:=by by_cases h:i=0<;>simp[h]
   rw[hmd] at hA7;simp[A6];refine BN L (fun k (_:Unit)=>([.int .i64 k],[])) (fun k _ S8=>S8=S7) () (by simp) rfl ?_ ?_
   ·rintro k _ S8 v2 b2 x ck hxi hd hc hmem rfl hv2;simp only[Prod.mk.injEq,List.cons.injEq,and_true] at hv2;have hgx:(L.map Ent.c)[k]? =some x.c:=by rw[List.getElem?_map,hxi];rfl
    simp[hv2,hc,hxi,hgx,Ent.c]
    try simp (disch:=omega) only[wrap64]
    exact .next ck () (by simp) rfl
   ·rintro _ S8 v2 b2 rfl hv2 N;simp only[Prod.mk.injEq,List.cons.injEq,and_true] at hv2;simp[hv2]
    try simp (disch:=omega) only[wrap64]
    refine⟨2 - (i+1),i+1,by omega,by simp,rfl,by omega,fL7,_,by simpa using hA7,hL7,by simp;exact⟨r7,rfl⟩⟩
  ·have hi3:i=2:=by omega
   subst hi3;simp at hA6 hcase;obtain⟨r8,rfl⟩:=hcase;have hmo:Ub (Mg 3 (pathOf want.names) L r8)=1:=jU (Gr (by omega) _) _
   simp[hv1,hv2];refine Pq hA6 ?_;simp;refine Xt hA6 ?_;simp[hmo];refine H9 hA6 (by simp) ?_
   have h3:=Gr (n:=3) (by omega) (Dx [47] [97])
   have h3':((ofK 3 (Dx [47] [97]):Nat):Int) < 3:=by omega
   simp[h3'];refine Sc hA6 (by simp) ?_
   simp;refine H9 hA6 (by simp) ?_
   simp;exact hq _
end Go.Av
namespace Go.Proofs.YtehadbpejfjheaaGreatDoor.serverLists
open Go.ChangeShapes Go.WideShapes Go.ChangeAt Go.RowKit Go.Av
theorem own:ownKnob Tryz.prog.godebug=none:=by kernel_rfl
theorem GK{H:Type}:∀(l:List (DataW H)),l.length≤Rows.uptoBulkAll l∧∀d∈l,Rows.uptoBulk d≤Rows.uptoBulkAll l
 |[]=>⟨Nat.zero_le _,by simp⟩
 |d::l=>by
  obtain⟨h1,h2⟩:=GK l;have h3:1≤Rows.uptoBulk d:=by
   cases d with
   |lit l=>cases l<;>simp[Rows.uptoBulk]
   |_=>simp[Rows.uptoBulk]
  refine⟨by simp only[Rows.uptoBulkAll,List.length_cons];omega,fun e he=>?_⟩
  simp only[Rows.uptoBulkAll];rcases List.mem_cons.1 he with rfl|he
  ·omega
  ·have:=h2 e he;omega
theorem bdd{H:Type}:Bdd 1048576 (fun d:DataW H=>Rows.uptoBulk d≤1048576) where
 str l h:=by simp only[Rows.uptoBulk] at h;omega
 sl e s h:=by
  simp only[Rows.uptoBulk] at h;obtain⟨h1,h2⟩:=GK e;obtain⟨h3,h4⟩:=GK s;exact⟨by omega,fun d hd=>by have:=h2 d hd;omega,fun d hd=>by have:=h4 d hd;omega⟩
 agg ps h d hd:=by
  simp only[Rows.uptoBulk] at h;have:=(GK ps).2 d hd;omega
theorem law(w0:World)(hm:L2 w0)(xs:List AV)(hl:xs.length=Tryz.f5.params.size)(hx:∀(j:Nat) (t:TypeId) (x:AV),Tryz.f5.params[j]? =some t→xs[j]? =some x→TyV Tryz.prog 1048576 t x):
  AT (En w0) 5 xs [] fun r _=>r= .bool true:=by
 rw[Tryz.params5] at hl hx
 match xs,(show xs.length=2 from hl) with
 |[x0,x1],_=>exact Pm w0 hm x0 x1 (hx 0 62 x0 rfl rfl) (hx 1 3 x1 rfl rfl)
def put(h:Array Go.Obj)(g:Nat)(cs:List Value):Array Go.Obj:=h.modify g fun
 | .cells _ t fz=>.cells cs.toArray t fz
 |o=>o
noncomputable def Iy(os:Os):World:={World.holding Tryz.prog os ⟨#[],#[],[]⟩ with heap:=(put (put (World.holding Tryz.prog os ⟨#[],#[],[]⟩).heap 2 ([128,191,160,191,128,159,144,191,128,143,0,0,0,0,0,0,0,0,0,0,0,0,0,0,0,0,0,0,0,0,0,0].map fun n:Nat=>Value.int .u8 (n:Int))) 1 (Go.Pinned.utf8FirstZ.map fun n:Nat=>Value.int .u8 (n:Int)))}
theorem WH(os:Os):laidMet Tryz.prog Rows.serverListsUptoRow.laid ((Iy os).forCall (fun _ _=>0) ⟨#[],#[.agg #[.slice none 0 0,.string .empty,.bool false],.int .i64 0],[]⟩).memory:=
 laidMet_of_run' 8 (by kernel_rfl) (by kernel_rfl)
theorem reads(os:Os){H:Type}(enc:TypeId×Value→H):∃places,DataW.whole enc Tryz.prog ((Iy os).forCall (fun _ _=>0) ⟨#[],#[.agg #[.slice none 0 0,.string .empty,.bool false],.int .i64 0],[]⟩).memory Tryz.f5.params.toList Rows.serverListsSpec.vars false #[.agg #[.slice none 0 0,.string .empty,.bool false],.int .i64 0].toList 8=some ([.agg [.nil,.lit (.string []),.lit (.bool false)],.lit (.int .i64 0)],[],places):=
 ⟨[],by kernel_rfl⟩
theorem lifted(os:Os)(started:os.Started)(H:Type)(enc:TypeId×Value→H)(F:Stop.Interp):
  ReturnsInHanded {} Tryz.checked os 5 .any ((Rows.OpenSpec.upto Rows.serverListsSpec).preRow enc Tryz.prog Tryz.f5 Rows.serverListsUptoRow.domain false Rows.serverListsUptoRow.laid) (((Rows.OpenSpec.upto Rows.serverListsSpec).at F).post enc Tryz.prog Tryz.f5 false true false false):=by
 obtain⟨places,hx⟩:=reads os enc;refine returnsInHanded_of_row (C:=Tryz.checked) (s:=Rows.OpenSpec.upto Rows.serverListsSpec) own started (by kernel_rfl) Tryz.func5
  (witness_row_atRef (enc:=enc) (C:=Tryz.checked) false (Iy os) #[.agg #[.slice none 0 0,.string .empty,.bool false],.int .i64 0] rfl (by kernel_rfl) (by kernel_rfl) (by kernel_rfl)
   (OpenSpec.preRow_of_cond 8 hx (by kernel_rfl) (fun k hk=>by cases hk;kernel_rfl) (by kernel_rfl) (WH os))) ?_
 intro W base args ds gs before hval hW _ hk _ _ hsh _;have hk2:Rows.uptoBulkAll (ds++gs)≤1048576:=of_decide_eq_true (hk _ rfl);exact SE bdd (E:=En W) (fn:=Tryz.f5) (L:=[62,40,91,3,4,42,9,89,210]) (tb:=4) (by kernel_rfl) (by kernel_rfl) (by kernel_rfl) rfl Tryz.underlying4 rfl
  (fun ds hd=>by
   match ds,hd with
   |[d0,d1],_=>exact⟨rfl,rfl,rfl⟩) (law W (T0 hsh)) hval hW (fun d hd=>Nat.le_trans ((GK (ds++gs)).2 d (List.mem_append_left _ hd)) hk2)
end Go.Proofs.YtehadbpejfjheaaGreatDoor.serverLists
