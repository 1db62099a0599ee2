/- Parts of the proofs of this seat: abstract values over the model, and what the functions of the program do. No condition. -/
import Derived.Test.YtgilicomkelmdaaGreatDoorXDel
import Derived.Test.YtgilicomkelmdaaGreatDoorXSp4
import Derived.Test.YtgilicomkelmdaaGreatDoorM12
import Derived.Test.YtgilicomkelmdaaGreatDoorXSplit
import Derived.Test.YtgilicomkelmdaaGreatDoorCards
import Derived.Test.YtgilicomkelmdaaGreatDoorTie
import Derived.WalkKit
import Derived.ProofKit
import Derived.OpenShut
import Derived.Below
import Derived.JoinedCond
import Derived.Deep.DeepHandedRow
import Derived.Deep.DeepWitnessRowRef
import Derived.Lib.LaidTab
set_option linter.all false
set_option maxRecDepth 100000
namespace Go.Av
theorem Xb:∀(P:List (List Bm)) (nums:List Nat),nums.length=P.length→∃(S:St) (l:List Mnt),(∀m∈l,Br S m.id m.tab)∧l.map Mnt.tab=P∧l.map Mnt.num=nums
 |[],nums,h=>⟨[],[],by simp,rfl,by simpa using (List.length_eq_zero_iff.1 h).symm⟩
 |p::P,[],h=>by simp at h
 |p::P,k::nums,h=>by
  obtain⟨S,l,h1,h2,h3⟩:=Xb P nums (by simpa using h)
  let T:List Ino:=p.map fun q=>⟨q,.none,.none,.none⟩
  refine⟨S++[.cells [.rs 8 (S.length+1) 0 T.length] B4,.cells (BN Ino.c T) 0],⟨k,S.length,p⟩::l,?_,by simp[h2],by simp[h3]⟩
  intro m hm;rcases List.mem_cons.1 hm with rfl|hm
  ·refine⟨S.length+1,T,by simp,by simp,by simp,?_⟩
   show T.map Ino.p=p
   simp only[T,List.map_map];exact List.map_id' p
  ·exact(h1 m hm).mono (Sx.app S _)
theorem nA{σ:SpN}{k:Nat}(h:σ.ok k)(hk:k≤1000000):∃(S:St) (s:Stk),H7 S s σ:=by
 have hids:∃nums:List Nat,σ.ids=nums.map (fun n:Nat=>(n:Int))∧∀n∈nums,n < σ.next:=by
  have:=h.next.2;generalize σ.ids=ids at this
  induction ids with
  |nil=>exact⟨[],rfl,by simp⟩
  |cons i ids ih=>
   obtain⟨ns,e,h2⟩:=ih fun x hx=>this x (by simp[hx])
   obtain⟨j,rfl,hj⟩:=this i (by simp)
   exact⟨j::ns,by simp[e],by simpa[hj] using h2⟩
 obtain⟨nums,e,hn⟩:=hids;have hlen:nums.length=(σ.D.map fun n=>n.tab 0).length:=by
  have:=h.ids;rw[e] at this;simpa using this
 obtain⟨S,l,h1,h2,h3⟩:=Xb (σ.D.map fun n=>n.tab 0) nums hlen
 have hll:l.length=σ.D.length:=by
  have:=congrArg List.length h2;simpa using this
 have hnx:=h.next.1;have hfew:=h.few;refine⟨S,⟨l,.none,σ.next⟩,⟨⟨(fun e=>by cases e),(by show l.length≤64;omega),(by show σ.next≤_;omega),fun m hm=>?_⟩,h1,h2,?_,rfl⟩⟩
 ·have:m.num∈nums:=by rw[←h3];exact List.mem_map_of_mem hm
  have:=hn _ this;omega
 ·rw[e,←h3,List.map_map];rfl
open Go.Proofs
theorem PG(w0:World)(hm:KD w0)(x0 x1 x2:AV)(h0:TV LD x0)(h1:TV Da x1)(h2:TV Rg x2):AC w0 I3 [x0,x1,x2] [] fun r _=>r= .bool true:=by
 refine mK fun Q hq=>?_
 obtain⟨l,lr,e1,hlr,hll,hlok⟩:=(Y0 (h0.one (by simp[isAgg,Dq]))).2 rfl
 have e1':x0= .vs 7 (l.map Node.c) lr:=by simpa using e1
 subst e1';obtain⟨room,rfl,hroom⟩:=h1.int E6;obtain⟨rs,r2,rfl,hr2,hol,hok2⟩:=h2.slice (enc:=Ac.c) (ok:=fun x=>x.op.ok) Q4 TY kE
 have hr2':r2.strip=r2∧(r2= .nil→rs=[]):=by
  rcases hr2 with ⟨rfl,h⟩|rfl
  ·exact⟨rfl,fun _=>h⟩
  ·exact⟨rfl,fun e=>by cases e⟩
 apply N6;unfold JO;refine U7 hm (fun S _=>?_)
 simp;refine ay hlok (fun S2 hS2=>?_)
 cases hmay:Wp l with
 |false=>simp[AH,hq]
 |true=>
 simp;rw[AH];refine lI ?_
 by_cases hmr:ZM rs=true
 case neg=>simp[hmr,hq]
 obtain⟨h60,hx⟩:=Qc.1 hmr;obtain⟨h8,hall⟩:=Zx.1 hmay;have hright:∀n∈l,Bi n=true:=fun n hn=>(hall n hn).2
 simp[hmr];refine Wv hm hlok hmay (fun S3 s hS3 hs=>?_)
 have hM:=hs.newM room;have hok:=eP (trees:=l) room (fun n hn=>⟨hlok n hn,hright n hn⟩) (by omega)
 simp;have hokr:okR r2.strip rs:=fun e=>hr2'.2 (by rw[←hr2'.1];simpa using e)
 refine Yt hokr (by omega) (fun x h=>Ls.m (hx x h)) (fun S4 r4 hS4 _=>?_)
 refine cg h60 (fun r5=>?_)
 refine aP (by omega) (fun n hn=>⟨hlok n hn,hright n hn⟩) (fun Y hY=>?_)
 have hYm:=SpX.map Y _ hY;simp;have hsrt:∀x∈BZ Ac.mark rs,Ls x=true∧x.op.ok:=fun x h=>⟨hx x ((GH rs).1 h),hok2 x ((GH rs).1 h)⟩
 have hlen:=Cj (f:=Ac.mark) rs;refine A7 (fun j=>j (.int .i64 (Ft (Kz l room) 0 0 (BZ Ac.mark rs))) S4) ?_ (fun j hj=>?_)
 ·simp;refine Yd hm (r:=r2.strip) (hM.sx hS4) (by rw[Ee]) (by rw[Ee]) (by rw[Ee]) (by rw[Ee]) hok hokr h60 hx (fun S5 _=>?_)
  simp;exact hq _
 ·generalize hW:Ft (Kz l room) 0 0 (BZ Ac.mark rs)=W at hj;generalize BZ Ac.mark rs=L at hsrt hlen hW ⊢;refine Ak L (fun i (q:Int×Int×SpN×SpX)=>([.int .i64 q.1,.int .i64 q.2.1,.int .i64 i],[some (q.2.2.2.c q.2.2.1)])) (fun i q S'=>S'=S4∧q.2.2.1.ok i∧q.2.2.2.ok q.2.2.1∧((q.2.1= -1∧Ft q.2.2.1 q.1 i (L.drop i)=W)∨(0≤q.2.1∧q.2.1=W))) (0,-1,Kz l room,Y) (by simp) ⟨rfl,hok,hY,.inl ⟨rfl,by simpa using hW⟩⟩ ?_ ?_
  ·rintro i ⟨last,wr,σ,X⟩ S' v b x hi hxi hdr hcc hmem ⟨rfl,hokx,hX,hwr⟩ hv;simp at hv hokx hX hwr;obtain⟨⟨hv1,hv2,hv3⟩,hb⟩:=hv;obtain⟨ok1,ok2⟩:=hsrt x hmem;obtain⟨g1,g2,g3,g4,g5,g6,g7,g8⟩:=M8.1 ok1;obtain⟨f1,f2,f3⟩:=VW.1 g1;have hf:=Ac.allf x;have hXm:=SpX.map X σ hX;have hgx:(L.map Ac.c)[i]? =some x.c:=by rw[List.getElem?_map,hxi];rfl
   obtain⟨SL,sL,hML⟩:=nA hokx (by omega)
   have hF:=(hML.leads hokx).fine;have x17:(x.c)[17]? =some (.int .i64 x.mark):=rfl;have x16:(x.c)[16]? =some (.int .i64 x.call):=rfl;have x18:(x.c)[18]? =some (.int .i64 x.ret):=rfl;simp[hv1,hv2,hv3,hb,hcc,hxi,hgx,hXm,hf];rw[if_pos hf,Ay];have gX:(X.c σ).take 7=X.c σ:=rfl;have gX7:(X.c σ).drop 7=[]:=rfl;have hfX:∀y∈X.c σ,y.free1=true:=by
    intro y hy;simp[SpX.c] at hy;rcases hy with rfl|rfl|rfl|rfl|rfl|rfl|rfl<;>rfl
   have hfo:∀y∈x.op.c,y.free1=true:=by
    intro y hy;simp[OpN.c] at hy;rcases hy with rfl|rfl|rfl|rfl|rfl|rfl<;>rfl
   have hop:(x.c.drop 2).take 6=x.op.c:=rfl;have hre:(x.c.drop 8).take 8=x.res.c x.rt.strip:=rfl;have hom:x.op.c.map AV.strip1=x.op.c:=rfl;simp[hf,gX,gX7,hfX,hop,hre,x17,x16,x18,hXm,hfo,hom];refine gf (by omega) ?_
   simp;refine cw hX hokx (by omega) hML (by omega) (by omega) ok2.off.2 (by omega) (fun Y2 rt2 hY2=>?_)
   have hYm2:=SpX.map Y2 _ hY2;have hok3:=jO hokx hF (o:=x.op) (by omega)
   have hnm:=W8 σ x.op;have hra:∀(a:A6) (r:Rt),a.c r=[.int .i64 a.err,.int .i64 a.kind,.int .i64 a.size,.int .i64 a.where_,.int .i64 a.id,.str a.text,.vs 1 (a.names.map BO) r,.bool a.end_]:=fun _ _=>rfl
   have gY:(Y2.c (doS σ x.op).1).take 7=Y2.c (doS σ x.op).1:=rfl;have gY7:(Y2.c (doS σ x.op).1).drop 7=[]:=rfl;have hfY:∀y∈Y2.c (doS σ x.op).1,y.free1=true:=by
    intro y hy;simp[SpX.c] at hy;rcases hy with rfl|rfl|rfl|rfl|rfl|rfl|rfl<;>rfl
   simp[hra,hYm2,gY,gY7,hfY,x17,x16,x18];rw[hdr] at hwr;refine A7 (fun j=>∀w:Int,((w= -1∧Ft (doS σ x.op).1 x.mark ((i:Int)+1) (L.drop (i+1))=W)∨(0≤w∧w=W))→j (.int .i64 w) S') (fun w hw=>?_) (fun j hj2=>?_)
   ·try simp (disch:=omega) only[wrap64]
    exact .next hi (x.mark,w,(doS σ x.op).1,Y2) (by simp[gX7]) ⟨rfl,hok3,hY2,by simpa using hw⟩
   ·rcases hwr with ⟨rfl,hw⟩|⟨hw0,hw⟩
    ·rw[Ft] at hw;have eb:(decide (x.mark≤last)||decide (x.mark < x.call)||decide (x.ret < x.mark))=Qn last x:=by simp[Qn,Bool.or_assoc]
     rw[eb];simp only[←hra];cases hbd:Qn last x with
     |true=>
      rw[if_pos (.inl hbd)] at hw;simp[AH];exact hj2 i (.inr ⟨by omega,hw⟩)
     |false=>
      simp[AH];refine Q3 (a:=(doS σ x.op).2) (b:=x.res) (by omega) ?_
      cases hs2:Jr (doS σ x.op).2 x.res with
      |true=>
       rw[if_neg (by simp[hbd,hs2])] at hw
       simp;exact hj2 (-1) (.inl ⟨rfl,hw⟩)
      |false=>
       rw[if_pos (.inr hs2)] at hw;simp;exact hj2 i (.inr ⟨by omega,hw⟩)
    ·have hn:¬wr < 0:=by omega
     simp[hn,AH];exact hj2 wr (.inr ⟨hw0,hw⟩)
  ·rintro⟨last,wr,σ,X⟩ S' v b ⟨rfl,hokx,hX,hwr⟩ hv N;simp at hv hokx hX hwr;obtain⟨⟨hv1,hv2,hv3⟩,hb⟩:=hv;simp[hv1,hv2,hv3];rcases hwr with ⟨rfl,hw⟩|⟨_,rfl⟩
   ·simp[Ft] at hw;rw[←hw] at hj;exact hj
   ·exact hj
end Go.Av
namespace Go.Proofs.YtgilicomkelmdaaGreatDoor.taleJudges
open Go.ChangeShapes Go.WideShapes Go.ChangeAt Go.RowKit Go.Av
theorem own:ownKnob Tryz.prog.godebug=none:=by kernel_rfl
theorem ND{H:Type}:∀(l:List (DataW H)),l.length≤Rows.uptoBulkAll l∧∀d∈l,Rows.uptoBulk d≤Rows.uptoBulkAll l
 |[]=>⟨Nat.zero_le _,by simp⟩
 |d::l=>by
  obtain⟨h1,h2⟩:=ND l;have h3:1≤Rows.uptoBulk d:=by
   cases d with
   |lit l=>cases l<;>simp[Rows.uptoBulk]
   |_=>simp[Rows.uptoBulk]
  refine⟨by simp only[Rows.uptoBulkAll,List.length_cons];omega,fun e he=>?_⟩
  simp only[Rows.uptoBulkAll];rcases List.mem_cons.1 he with rfl|he
  ·omega
  ·have:=h2 e he;omega
theorem bdd{H:Type}:Bdd 1048576 (fun d:DataW H=>Rows.uptoBulk d≤1048576) where
 str l h:=by simp only[Rows.uptoBulk] at h;omega
 sl e s h:=by
  simp only[Rows.uptoBulk] at h;obtain⟨h1,h2⟩:=ND e;obtain⟨h3,h4⟩:=ND s;exact⟨by omega,fun d hd=>by have:=h2 d hd;omega,fun d hd=>by have:=h4 d hd;omega⟩
 agg ps h d hd:=by
  simp only[Rows.uptoBulk] at h;have:=(ND ps).2 d hd;omega
theorem law(w0:World)(hm:KD w0)(xs:List AV)(hl:xs.length=Tryz.f3.params.size)(hx:∀(j:Nat) (t:TypeId) (x:AV),Tryz.f3.params[j]? =some t→xs[j]? =some x→TyV Tryz.prog 1048576 t x):
  AO (En w0) 3 xs [] fun r _=>r= .bool true:=by
 rw[Tryz.params3] at hl hx
 match xs,(show xs.length=3 from hl) with
 |[x0,x1,x2],_=>exact PG w0 hm x0 x1 x2 (hx 0 22 x0 rfl rfl) (hx 1 3 x1 rfl rfl) (hx 2 23 x2 rfl rfl)
def put(h:Array Go.Obj)(g:Nat)(cs:List Value):Array Go.Obj:=h.modify g fun
 | .cells _ t fz=>.cells cs.toArray t fz
 |o=>o
noncomputable def Ro(os:Os):World:={World.holding Tryz.prog os ⟨#[],#[],[]⟩ with heap:=(put (put (World.holding Tryz.prog os ⟨#[],#[],[]⟩).heap 2 ([128,191,160,191,128,159,144,191,128,143,0,0,0,0,0,0,0,0,0,0,0,0,0,0,0,0,0,0,0,0,0,0].map fun n:Nat=>Value.int .u8 (n:Int))) 1 (Go.Pinned.utf8FirstZ.map fun n:Nat=>Value.int .u8 (n:Int)))}
theorem gp(os:Os):laidMet Tryz.prog Rows.taleJudgesUptoRow.laid ((Ro os).forCall (fun _ _=>0) ⟨#[],#[.slice none 0 0,.int .i64 0,.slice none 0 0],[]⟩).memory:=
 laidMet_of_run' 8 (by kernel_rfl) (by kernel_rfl)
theorem reads(os:Os){H:Type}(enc:TypeId×Value→H):∃places,DataW.whole enc Tryz.prog ((Ro os).forCall (fun _ _=>0) ⟨#[],#[.slice none 0 0,.int .i64 0,.slice none 0 0],[]⟩).memory Tryz.f3.params.toList Rows.taleJudgesSpec.vars false #[.slice none 0 0,.int .i64 0,.slice none 0 0].toList 8=some ([.nil,.lit (.int .i64 0),.nil],[],places):=
 ⟨[],by kernel_rfl⟩
theorem lifted(os:Os)(started:os.Started)(H:Type)(enc:TypeId×Value→H)(F:Stop.Interp):
  ReturnsInHanded {} Tryz.checked os 3 .any ((Rows.OpenSpec.upto Rows.taleJudgesSpec).preRow enc Tryz.prog Tryz.f3 Rows.taleJudgesUptoRow.domain false Rows.taleJudgesUptoRow.laid) (((Rows.OpenSpec.upto Rows.taleJudgesSpec).at F).post enc Tryz.prog Tryz.f3 false true false false):=by
 obtain⟨places,hx⟩:=reads os enc;refine returnsInHanded_of_row (C:=Tryz.checked) (s:=Rows.OpenSpec.upto Rows.taleJudgesSpec) own started (by kernel_rfl) Tryz.func3
  (witness_row_atRef (enc:=enc) (C:=Tryz.checked) false (Ro os) #[.slice none 0 0,.int .i64 0,.slice none 0 0] rfl (by kernel_rfl) (by kernel_rfl) (by kernel_rfl)
   (OpenSpec.preRow_of_cond 8 hx (by kernel_rfl) (fun k hk=>by cases hk;kernel_rfl) (by kernel_rfl) (gp os))) ?_
 intro W base args ds gs before hval hW _ hk _ _ hsh _;have hk2:Rows.uptoBulkAll (ds++gs)≤1048576:=of_decide_eq_true (hk _ rfl);exact Y9 bdd (E:=En W) (fn:=Tryz.f3) (L:=[22,54,3,4,41,9,52,107,23,45,39,43,40]) (tb:=4) (by kernel_rfl) (by kernel_rfl) (by kernel_rfl) rfl Tryz.underlying4 rfl
  (fun ds hd=>by
   match ds,hd with
   |[d0,d1,d2],_=>exact⟨rfl,rfl,rfl⟩) (law W (Zg hsh)) hval hW (fun d hd=>Nat.le_trans ((ND (ds++gs)).2 d (List.mem_append_left _ hd)) hk2)
end Go.Proofs.YtgilicomkelmdaaGreatDoor.taleJudges
