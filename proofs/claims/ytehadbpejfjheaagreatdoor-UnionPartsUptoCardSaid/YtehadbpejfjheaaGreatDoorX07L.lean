/- Parts of the proofs of this seat: abstract values over the model, and what the functions of the program do. No condition. -/
import Derived.Test.YtehadbpejfjheaaGreatDoorX04L
import Derived.Test.YtehadbpejfjheaaGreatDoorM8
import Derived.Test.YtehadbpejfjheaaGreatDoorD0
import Derived.Test.YtehadbpejfjheaaGreatDoorM5
import Derived.Test.YtehadbpejfjheaaGreatDoorXDelR
import Derived.Test.YtehadbpejfjheaaGreatDoorY19
import Derived.Test.YtehadbpejfjheaaGreatDoorDOp
import Derived.Test.YtehadbpejfjheaaGreatDoorX10d
import Derived.Test.YtehadbpejfjheaaGreatDoorXUp0
import Derived.Test.YtehadbpejfjheaaGreatDoorM11
import Derived.Test.YtehadbpejfjheaaGreatDoorXSplit
import Derived.Shelf.SlLaysE0
import Derived.Shelf.RegionOpenPlain
import Derived.WalkKit
import Derived.Deep.LoopGhost
import Derived.Deep.RegionLaw
import Derived.Lib.Walk
import Derived.Sort.WalkB12
import Derived.Lib.SliceRun
import Derived.Shelf.Lay
import Derived.Shelf.LaySoft
import Derived.Shelf.SlGeneric
import Derived.Ground.SlgnProg
import Derived.Shelf.SlicesE.Clone
import Derived.Test.YtehadbpejfjheaaGreatDoorCards
import Derived.Test.YtehadbpejfjheaaGreatDoorTie
import Derived.ProofKit
import Derived.OpenShut
import Derived.Below
import Derived.JoinedCond
import Derived.Deep.DeepHandedRow
import Derived.Deep.DeepWitnessRowRef
import Derived.Lib.LaidTab
set_option linter.all false
set_option maxRecDepth 100000
namespace Go.Av
open Go.Proofs
theorem KM.get{S0 S:St}{l:List Node}{s:Stk}(h:KM S0 S l s){k:Nat}(hk:k < l.length):∃m n,s.l[k]? =some m∧l[l.length - 1 - k]? =some n∧m.num=l.length - 1 - k∧m.tab=n.tab 0∧m∈s.l:=by
 have h1:k < s.l.length:=by rw[h.len];exact hk
 have hm:s.l[k]? =some s.l[k]:=List.getElem?_eq_getElem h1;have hn:l[l.length - 1 - k]? =some (l[l.length - 1 - k]'(by omega)):=List.getElem?_eq_getElem (by omega)
 refine⟨_,_,hm,hn,?_,?_,List.getElem_mem h1⟩
 ·have:=congrArg (fun x=>x[k]?) h.nums
  simp only[List.getElem?_map,hm,Option.map_some] at this;rw[List.getElem?_reverse (by simpa using hk),List.length_range,List.getElem?_range (by omega)] at this
  exact Option.some.inj this
 ·have:=congrArg (fun x=>x[k]?) h.tabs
  simp only[List.getElem?_map,hm,Option.map_some] at this;rw[List.getElem?_reverse hk,hn] at this;exact Option.some.inj this
open Go.Proofs
theorem Sb.of{S0 S:St}{l:List Node}{s:Stk}(hs:KM S0 S l s)(hok:∀n∈l,n.ok)(hall:∀n∈l,C2 n=true)(hl:l.length≤64):Sb S s l.reverse (fun k=>((((List.range l.length).map fun i:Nat=>((l.length - 1 - i:Nat):Int))[k]?).getD 0)):=by
 refine⟨Leads.of hs hok hall hl,M5 hs,fun k m hm=>?_⟩
 have hk:k < l.length:=by have:=(List.getElem?_eq_some_iff.1 hm).1;rw[hs.len] at this;exact this
 obtain⟨m',n,h1,h2,h3,h4,h5⟩:=hs.get hk;rw[h1] at hm;cases hm;simp[hk,h3]
theorem ZM:ofE 0 [120,121,122]=[⟨0,[120,121,122]⟩]:=by
 rw[ofE];simp[ofE]
theorem QO{w0:World}(hm:LA w0){S:St}{Q:AV→St→Prop}(hq:∀S',Sx S S'→Q (.bool true) S'):AC w0 Hn [] S Q:=by
 apply Ot;unfold J4;refine T5 (by simp) (fun r1 hr1=>?_)
 refine QD (l:=[]) (items:=[]) SZ SZ (by simp) (by simp) (fun q1 q2 k1 k2=>?_)
 simp;refine QD (l:=[[97],[100]]) (items:=[Hw [120,121,122] r1,Gf false [] q1 [] q2]) PM PM (by simp) (by simp) (fun q3 q4 k3 k4=>?_)
 have hx:=YZ (s:=[120,121,122]) (by simp) hr1
 have hok0:=O9 (o:=false) (l:=[]) (items:=[]) (by simp) (by simp) k1 k2
 have hok1:=O9 (o:=false) (l:=[[97],[100]]) (items:=[Hw [120,121,122] r1,Gf false [] q1 [] q2]) (by simp) (by simp[hx,hok0]) k3 k4
 have a1:Jq (Hw [120,121,122] r1)=true:=T0 (by simp)
 have a2:(Hw [120,121,122] r1).allB=true:=by rw[Node.all_eq,a1];rfl
 have hr:C2 (Gf false [[97],[100]] q3 [Hw [120,121,122] r1,Gf false [] q1 [] q2] q4)=true:=by
  have a3:Jq (Gf false [[97],[100]] q3 [Hw [120,121,122] r1,Gf false [] q1 [] q2] q4)=true:=by rfl
  have a5:(Gf false [] q1 [] q2).allB=true:=by rfl
  have a4:(Gf false [[97],[100]] q3 [Hw [120,121,122] r1,Gf false [] q1 [] q2] q4).allB=true:=by
   rw[Node.all_eq,a3]
   show (Node.allsB [_,_]&&true)=true
   rw[Node.allsB,a2,Node.allsB,a5];rfl
  rw[C2,a4];rfl
 have e1:∀ids,(doR [Gf false [[97],[100]] q3 [Hw [120,121,122] r1,Gf false [] q1 [] q2] q4] ids ⟨4,[97],1,9,0,[]⟩).text=[121,122]:=fun ids=>by
  show P6 3 (ofE 0 [120,121,122]) 1 9=[121,122]
  rw[ZM]
  decide
 have e2:∀ids,(doR [Gf false [[97],[100]] q3 [Hw [120,121,122] r1,Gf false [] q1 [] q2] q4] ids ⟨4,[100],0,0,0,[]⟩).err=5:=fun ids=>by rfl
 have e3:∀ids,(doR [Gf false [[97],[100]] q3 [Hw [120,121,122] r1,Gf false [] q1 [] q2] q4] ids ⟨3,[97],0,0,0,[]⟩).err=1:=fun ids=>by rfl
 generalize Gf false [[97],[100]] q3 [Hw [120,121,122] r1,Gf false [] q1 [] q2] q4=d1 at hok1 hr e1 e2 e3 ⊢;have h0:=Kr [d1] 0 (by simp[hr]) (by simp)
 simp;refine Pg (l:=[d1]) hm (by simp[hok1]) (by simp) (fun S1 h1=>⟨fun _ s hs=>?_,fun h=>absurd h0 h⟩)
 have hL:=Sb.of hs (by simp[hok1]) (by simp[hr]) (by simp)
 simp;rw[AG];refine Ka ?_;rw[hs.len];simp;refine Hf (o:=⟨4,[97],1,9,0,[]⟩) hm hL (by simp) (fun S2 hS2=>?_)
 simp[Da.c];refine Hf (o:=⟨4,[100],0,0,0,[]⟩) hm (hL.mono hS2) (by simp) (fun S3 hS3=>?_)
 simp[Da.c];refine Hf (o:=⟨3,[97],0,0,0,[]⟩) hm ((hL.mono hS2).mono hS3) (by simp) (fun S4 hS4=>?_)
 have e1':=e1 (fun k=>((((List.range [d1].length).map fun i:Nat=>(([d1].length - 1 - i:Nat):Int))[k]?).getD 0))
 have e2':=e2 (fun k=>((((List.range [d1].length).map fun i:Nat=>(([d1].length - 1 - i:Nat):Int))[k]?).getD 0))
 have e3':=e3 (fun k=>((((List.range [d1].length).map fun i:Nat=>(([d1].length - 1 - i:Nat):Int))[k]?).getD 0))
 simp at e1' e2' e3';simp[Da.c,e1',e2',e3',AG];exact hq _ (((h1.trans hS2).trans hS3).trans hS4)
open Go.Proofs
theorem HS.listed{L:List (List Bk)}{D:List Node}{ds:List Drx}{names:List Str}(hw:HS L D ds names):(X8 (DQ D names)).length≤6400000:=by
 obtain⟨d,_,_,hd⟩:=hw.last;have:=Wx (DQ D names) 100000 (fun n hn=>by
  obtain⟨q1,q2,q3,q4,q5⟩:=hd.good n hn;rw[R2 q2];have:=(GG (l:=n.items)).1;rw[Node.count_eq] at q5;omega)
 have:=hd.few;omega
open Go.Proofs
theorem Lw(w0:World)(hm:LA w0)(x0 x1:AV)(h0:TV JH x0)(h1:TV NJ x1):AC w0 DN [x0,x1] [] fun r _=>r= .bool true:=by
 refine bo fun Q hq=>?_
 obtain⟨l,lr,e1,hlr,hll,hlok⟩:=(SH (h0.one (by simp[isAgg,DI]))).2 rfl
 have e1':x0= .vs 7 (l.map Node.c) lr:=by simpa using e1
 subst e1';obtain⟨o,rfl,hok,hpl,hil⟩:=h1.opN;have ho:o.c=[.int .i64 o.kind,.str o.path,.int .i64 o.off,.int .i64 o.n,.int .i64 o.id,.str o.image]:=rfl;rw[ho];apply bN;unfold upG;simp;rw[←ho];refine QO hm (fun S _=>?_)
 simp;have c0:AB AR (some o.c) 0=some (.int .i64 o.kind):=rfl;have c1:AB AM (some o.c) 1=some (.str o.path):=rfl;have c2:AB AR (some o.c) 2=some (.int .i64 o.off):=rfl;have c3:AB AR (some o.c) 3=some (.int .i64 o.n):=rfl;have call:AB Cw (some o.c) 0=some (.agg o.c):=by simp[AB,IE,OpN.c]
 have hcs:(AV.agg o.c).strip= .agg o.c:=by simp[OpN.c]
 have g0:o.c[0]? =some (.int .i64 o.kind):=rfl;have g2:o.c[2]? =some (.int .i64 o.off):=rfl;have g3:o.c[3]? =some (.int .i64 o.n):=rfl;have g1:o.c[1]? =some (.str o.path):=rfl;have gt:o.c.take 6=o.c:=rfl;have gl:(6≤o.c.length)=True:=by simp[OpN.c]
 have gm:List.map AV.strip1 o.c=o.c:=rfl;have gm2:List.map (AV.strip1 ∘AV.strip1) o.c=o.c:=rfl;have gf:(∀x∈o.c,x.free1=true)=True:=by simp[OpN.c]
 refine⟨fun lv S'=>∃b:Bool,lv=([.bool b],[some o.c])∧(b=false→PB l=true∧(o.path.length:Int)≤1100∧o.n≤3000),?_,?_⟩
 ·refine Tk hlok (fun S2 hS2=>?_)
  cases hmay:PB l with
  |false=>simp[AG]
  |true=>
  simp[AG,c1,c3]
  by_cases hp:(1100:Int) < o.path.length
  ·simp[hp]
  ·by_cases hn:3000 < o.n
   ·simp[hp,hn]
   ·simp[hp,hn];omega
 ·rintro v bx S2 ⟨b,hb,hb2⟩;simp at hb;obtain⟨hb0,hb1⟩:=hb;rw[hb0,hb1];cases b with
  |true=>simp[hq]
  |false=>
  obtain⟨hmay,hp,hn⟩:=hb2 rfl;obtain⟨h8,hall⟩:=Tr.1 hmay;have hright:∀n∈l,C2 n=true:=fun n hn=>(hall n hn).2
  simp;refine Qw hm hlok hmay (fun S3 s hS3 hs=>?_)
  have hL:=Sb.of hs hlok hright (by omega)
  generalize (fun k:Nat=>((List.range l.length).map fun i:Nat=>((l.length - 1 - i:Nat):Int))[k]?.getD 0)=ids at hL
  simp;refine⟨fun lv S'=>lv=([.bool (Ml o)],[some o.c])∧S'=S3,?_,?_⟩
  ·unfold Ml;simp only[g0,g2,g3]
   by_cases h4:o.kind=4
   ·have h6:¬o.kind=6:=by omega
    by_cases ho:o.off < 0
    ·simp[AG,h4,ho]
    ·by_cases hn0:o.n < 0
     ·simp[AG,h4,ho,hn0]
     ·simp[AG,h4,ho,hn0]
   ·by_cases h6:o.kind=6
    ·by_cases hn0:o.n < 1
     ·simp[AG,h4,h6,hn0]
     ·simp[AG,h4,h6,hn0]
    ·simp[AG,h4,h6]
  ·rintro v2 bx2 S4 ⟨hb,rfl⟩;simp at hb;obtain⟨hb0,hb1⟩:=hb;rw[hb0,hb1];refine⟨fun lv S'=>lv=([.bool false],[some o.c])∧S'=S4,?_,?_⟩
   ·simp[g0];refine JQ ?_;have hk:o.kind≤0∨o.kind=1∨o.kind=2∨o.kind=3∨o.kind=4∨o.kind=5∨6≤o.kind:=by omega
    unfold isK;rcases hk with hk|hk|hk|hk|hk|hk|hk
    all_goals (
     first|simp[AG,hk]|simp[AG,show ¬(1≤o.kind) by omega,show ¬o.kind=2 by omega,show ¬o.kind=4 by omega,show ¬o.kind=5 by omega]|simp[AG,show (1≤o.kind) by omega,show ¬(o.kind≤4) by omega,show ¬o.kind=2 by omega,show ¬o.kind=4 by omega,show ¬o.kind=5 by omega])
    all_goals refine G6 ?_
    all_goals unfold Fk
    all_goals (first|simp[show ¬o.kind=2 by omega,show ¬o.kind=4 by omega,show ¬o.kind=5 by omega,gm,gm2,gt,gf]|simp[hk,gm,gm2,gt,gf])
    all_goals refine IW ?_
    all_goals cases hbad:Ml o
    all_goals simp
    all_goals (refine IW ?_;simp[hbad])
   ·rintro v3 bx3 S5 ⟨hb,rfl⟩;simp at hb;obtain⟨hb0,hb1⟩:=hb;rw[hb0,hb1];simp[g0,g1,gm,gm2,gt,gf,gl];refine G6 ?_;simp;have ea:∀a:Da,a.c .nil=[.int .i64 a.err,.int .i64 a.kind,.int .i64 a.size,.int .i64 a.where_,.int .i64 a.id,.str a.text,.vs 1 (a.names.map EH) .nil,.bool a.end_]:=fun a=>rfl
    refine OE hm hL.leads hpl (fun S6 hS6=>⟨fun he=>?_,fun he t r hE=>?_⟩)
    ·simp[Fnd.none,Fnd.c];refine Hf hm (hL.mono hS6) hpl (fun S7 hS7=>?_)
     simp[ea];refine JQ ?_;unfold doR;cases hk:isK o.kind with
     |false=>simp[AG,CP,hq]
     |true=>
     cases hbad:Ml o with
     |true=>simp[AG,CP,hq]
     |false=>simp[AG,CP,hq,he]
    ·simp[Fnd.c];refine Hf hm (hL.mono hS6) hpl (fun S7 hS7=>?_)
     simp[ea];refine JQ ?_;unfold doR;cases hk:isK o.kind with
     |false=>simp[AG,CP,hq]
     |true=>
     cases hbad:Ml o with
     |true=>simp[AG,CP,hq]
     |false=>
     simp[AG,hq,he,-List.getElem?_map];refine J6 (p:=pathOf (Hg l.reverse o.path (Fk o.kind)).names) (rt:=r.strip) ((hL.mono hS6).mono hS7) hE (fun S8 hS8=>?_)
     have hnm:(Kv l.reverse ids o (Hg l.reverse o.path (Fk o.kind))).names=[]:=by
      unfold Kv
      repeat' split
      all_goals rfl
     generalize Kv l.reverse ids o (Hg l.reverse o.path (Fk o.kind))=a at hnm ⊢;simp[ea];rw[←ea];exact SG (a:=a) (by rw[hnm];simp) (hq _)
end Go.Av
namespace Go.Proofs.YtehadbpejfjheaaGreatDoor.unionParts
open Go.ChangeShapes Go.WideShapes Go.ChangeAt Go.RowKit Go.Av
theorem own:ownKnob Tryz.prog.godebug=none:=by kernel_rfl
theorem Kb{H:Type}:∀(l:List (DataW H)),l.length≤Rows.uptoBulkAll l∧∀d∈l,Rows.uptoBulk d≤Rows.uptoBulkAll l
 |[]=>⟨Nat.zero_le _,by simp⟩
 |d::l=>by
  obtain⟨h1,h2⟩:=Kb l;have h3:1≤Rows.uptoBulk d:=by
   cases d with
   |lit l=>cases l<;>simp[Rows.uptoBulk]
   |_=>simp[Rows.uptoBulk]
  refine⟨by simp only[Rows.uptoBulkAll,List.length_cons];omega,fun e he=>?_⟩
  simp only[Rows.uptoBulkAll];rcases List.mem_cons.1 he with rfl|he
  ·omega
  ·have:=h2 e he;omega
theorem bdd{H:Type}:Bdd 1048576 (fun d:DataW H=>Rows.uptoBulk d≤1048576) where
 str l h:=by simp only[Rows.uptoBulk] at h;omega
 sl e s h:=by
  simp only[Rows.uptoBulk] at h;obtain⟨h1,h2⟩:=Kb e;obtain⟨h3,h4⟩:=Kb s;exact⟨by omega,fun d hd=>by have:=h2 d hd;omega,fun d hd=>by have:=h4 d hd;omega⟩
 agg ps h d hd:=by
  simp only[Rows.uptoBulk] at h;have:=(Kb ps).2 d hd;omega
theorem law(w0:World)(hm:LA w0)(xs:List AV)(hl:xs.length=Tryz.f6.params.size)(hx:∀(j:Nat) (t:TypeId) (x:AV),Tryz.f6.params[j]? =some t→xs[j]? =some x→TyV Tryz.prog 1048576 t x):
  AN (En w0) 6 xs [] fun r _=>r= .bool true:=by
 rw[Tryz.params6] at hl hx
 match xs,(show xs.length=2 from hl) with
 |[x0,x1],_=>exact Lw w0 hm x0 x1 (hx 0 40 x0 rfl rfl) (hx 1 78 x1 rfl rfl)
def put(h:Array Go.Obj)(g:Nat)(cs:List Value):Array Go.Obj:=h.modify g fun
 | .cells _ t fz=>.cells cs.toArray t fz
 |o=>o
noncomputable def Nb(os:Os):World:={World.holding Tryz.prog os ⟨#[],#[],[]⟩ with heap:=(put (put (World.holding Tryz.prog os ⟨#[],#[],[]⟩).heap 2 ([128,191,160,191,128,159,144,191,128,143,0,0,0,0,0,0,0,0,0,0,0,0,0,0,0,0,0,0,0,0,0,0].map fun n:Nat=>Value.int .u8 (n:Int))) 1 (Go.Pinned.utf8FirstZ.map fun n:Nat=>Value.int .u8 (n:Int)))}
theorem X6(os:Os):laidMet Tryz.prog Rows.unionPartsUptoRow.laid ((Nb os).forCall (fun _ _=>0) ⟨#[],#[.slice none 0 0,.agg #[.int .i64 0,.string .empty,.int .i64 0,.int .i64 0,.int .i64 0,.string .empty]],[]⟩).memory:=
 laidMet_of_run' 8 (by kernel_rfl) (by kernel_rfl)
theorem reads(os:Os){H:Type}(enc:TypeId×Value→H):∃places,DataW.whole enc Tryz.prog ((Nb os).forCall (fun _ _=>0) ⟨#[],#[.slice none 0 0,.agg #[.int .i64 0,.string .empty,.int .i64 0,.int .i64 0,.int .i64 0,.string .empty]],[]⟩).memory Tryz.f6.params.toList Rows.unionPartsSpec.vars false #[.slice none 0 0,.agg #[.int .i64 0,.string .empty,.int .i64 0,.int .i64 0,.int .i64 0,.string .empty]].toList 8=some ([.nil,.agg [.lit (.int .i64 0),.lit (.string []),.lit (.int .i64 0),.lit (.int .i64 0),.lit (.int .i64 0),.lit (.string [])]],[],places):=
 ⟨[],by kernel_rfl⟩
theorem lifted(os:Os)(started:os.Started)(H:Type)(enc:TypeId×Value→H)(F:Stop.Interp):
  ReturnsInHanded {} Tryz.checked os 6 .any ((Rows.OpenSpec.upto Rows.unionPartsSpec).preRow enc Tryz.prog Tryz.f6 Rows.unionPartsUptoRow.domain false Rows.unionPartsUptoRow.laid) (((Rows.OpenSpec.upto Rows.unionPartsSpec).at F).post enc Tryz.prog Tryz.f6 false true false false):=by
 obtain⟨places,hx⟩:=reads os enc;refine returnsInHanded_of_row (C:=Tryz.checked) (s:=Rows.OpenSpec.upto Rows.unionPartsSpec) own started (by kernel_rfl) Tryz.func6
  (witness_row_atRef (enc:=enc) (C:=Tryz.checked) false (Nb os) #[.slice none 0 0,.agg #[.int .i64 0,.string .empty,.int .i64 0,.int .i64 0,.int .i64 0,.string .empty]] rfl (by kernel_rfl) (by kernel_rfl) (by kernel_rfl)
   (OpenSpec.preRow_of_cond 8 hx (by kernel_rfl) (fun k hk=>by cases hk;kernel_rfl) (by kernel_rfl) (X6 os))) ?_
 intro W base args ds gs before hval hW _ hk _ _ hsh _;have hk2:Rows.uptoBulkAll (ds++gs)≤1048576:=of_decide_eq_true (hk _ rfl);exact SI bdd (E:=En W) (fn:=Tryz.f6) (L:=[40,91,3,4,42,9,89,210,78]) (tb:=4) (by kernel_rfl) (by kernel_rfl) (by kernel_rfl) rfl Tryz.underlying4 rfl
  (fun ds hd=>by
   match ds,hd with
   |[d0,d1],_=>exact⟨rfl,rfl,rfl⟩) (law W (Up hsh)) hval hW (fun d hd=>Nat.le_trans ((Kb (ds++gs)).2 d (List.mem_append_left _ hd)) hk2)
end Go.Proofs.YtehadbpejfjheaaGreatDoor.unionParts
