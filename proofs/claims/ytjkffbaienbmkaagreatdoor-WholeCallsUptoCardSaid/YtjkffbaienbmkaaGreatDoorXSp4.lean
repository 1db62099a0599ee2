/- Parts of the proofs of this seat: abstract values over the model, and what the functions of the program do. No condition. -/
import Derived.Test.YtjkffbaienbmkaaGreatDoorXDel
import Derived.Test.YtjkffbaienbmkaaGreatDoorY05f
import Derived.Test.YtjkffbaienbmkaaGreatDoorXFew
import Derived.Test.YtjkffbaienbmkaaGreatDoorXNum
import Derived.Test.YtjkffbaienbmkaaGreatDoorM12
import Derived.Test.YtjkffbaienbmkaaGreatDoorXLaid
import Derived.Test.YtjkffbaienbmkaaGreatDoorXSplit
import Derived.Test.YtjkffbaienbmkaaGreatDoorCards
import Derived.Test.YtjkffbaienbmkaaGreatDoorTie
import Derived.WalkKit
import Derived.ProofKit
import Derived.OpenShut
import Derived.Below
import Derived.JoinedCond
import Derived.Deep.DeepHandedRow
import Derived.Deep.DeepWitnessRowRef
import Derived.Lib.LaidTab
set_option linter.all false
namespace Go.Av
open Go.Proofs
abbrev CuX:=FA×Rt
def CuX.c(x:CuX):List AV:=[.int .i64 x.1.id,.int .i64 x.1.epoch,.vs 1 (x.1.names.map Bz) x.2,.int .i64 x.1.at_]
@[simp] theorem CuX.len(x:CuX):(CuX.c x).length=4:=rfl
def iC(n:Int):List AV:=[.int .i64 n]
structure SpX where
 rd:Rt
 ri:Rt
 ro:Rt
 ox:List CuX
def SpX.c(X:SpX)(σ:SpN):List AV:=[.vs 7 (σ.D.map Node.c) X.rd,.vs 1 (σ.ids.map iC) X.ri,.int .i64 σ.next,.int .i64 σ.epoch,.int .i64 σ.room,.vs 4 (X.ox.map CuX.c) X.ro,.int .i64 σ.made]
structure SpX.ok(X:SpX)(σ:SpN):Prop where
 rd:X.rd.strip=X.rd∧okR X.rd σ.D
 ri:X.ri.strip=X.ri∧okR X.ri σ.ids
 ro:X.ro.strip=X.ro∧okR X.ro X.ox
 ox:X.ox.map (·.1)=σ.opens
 rx:∀x∈X.ox,x.2.strip=x.2
@[simp] theorem SpX.len(X:SpX)(σ:SpN):(X.c σ).length=7:=rfl
theorem strip_strip(r:Rt):r.strip.strip=r.strip:=by cases r<;>rfl
theorem SpX.map(X:SpX)(σ:SpN)(h:X.ok σ):(X.c σ).map AV.strip1=X.c σ:=by
 simp[SpX.c,AV.strip1,h.rd.1,h.ri.1,h.ro.1]
@[simp] theorem SpX.free1(X:SpX)(σ:SpN):(∀x∈X.c σ,x.free1=true)↔True:=by simp[SpX.c,AV.free1]
theorem okR.nil{α:Type}{r:Rt}{l:List α}(h:okR r l):r= .nil→l=[]:=fun e=>h (by rw[e];rfl)
set_option maxRecDepth 100000
open Go.Proofs
theorem Mj.newM{S0 S:St}{l:List Node}{s:Stk}(hs:Mj S0 S l s)(room:Int):LO S s (ZU l room):=by
 rw[Db];refine⟨hs.ok,hs.on,hs.tabs,?_,hs.next⟩;have h1:(s.l.map fun x=>(x.num:Int))=(s.l.map Mnt.num).map fun n:Nat=>(n:Int):=by rw[List.map_map];rfl
 rw[h1,hs.nums,List.map_reverse]
set_option maxRecDepth 100000
open Go.Proofs
theorem alongS_err'{D:List Node}{f:Bool}{next:List Str→List Str→AtN}(hn:∀a b,0≤(next a b).err∧(next a b).err≤4):∀(a b:List Str),0≤(Ez D f next a b).err∧(Ez D f next a b).err≤4:=by
 intro a
 induction a with
 |nil=>intro b;unfold Ez;simp
 |cons s rest ih=>
  intro b;unfold Ez;split
  ·exact ih _
  ·split
   ·simp
   ·split
    ·exact ih _
    ·split
     ·exact hn _ _
     ·split<;>simp
theorem alongN_err'{D:List Node}{f:Bool}:∀(h:Nat) (a b:List Str),0≤(HM D f h a b).err∧(HM D f h a b).err≤4
 |0,a,b=>by rw[HM];exact alongS_err' (fun _ _=>by simp) a b
 |h+1,a,b=>by rw[HM];exact alongS_err' (alongN_err' h) a b
theorem walkN_err'{D:List Node}{path:Str}{f:Bool}:0≤(BP D path f).err∧(BP D path f).err≤4:=by
 unfold BP;split
 ·simp
 ·exact alongN_err' _ _ _
theorem listErr_le'{D:List Node}{path:Str}:0≤CT (BP D path true)∧CT (BP D path true)≤4:=by
 unfold CT;split
 ·exact walkN_err'
 ·split
  ·split<;>simp
  ·simp
theorem read_len{y:Node}(hok:y.ok)(ha:y.allB=true){off n:Int}(hn:n≤1048576):(Tt y.size y.exts off n).length≤1048576:=by
 have h2:=ha;rw[Node.all_eq] at h2;simp only[Bool.and_eq_true] at h2;obtain⟨hz,hk⟩:=F0 h2.2
 by_cases k:y.kind=1
 ·have he:ES y.size y.exts=true:=by simpa[Dq,k] using hk
  rw[dx he];unfold W7;split
  ·simp
  ·simp only[List.length_map,List.length_range];omega
 ·simp[Dt,k] at hz;have h1:y.size=0:=hz.1.2.1;unfold Tt;rw[h1,if_pos (by omega)]
  simp
structure Told(a:Bb):Prop where
 ok:a.ok
 text:a.text.length≤1048576
 few:a.names.length≤100000
 short:∀s∈a.names,s.length≤200
theorem told_mk{e k z w i:Int}{t:Str}(h1:od e)(h2:od k)(h3:od z)(h4:od w)(h5:od i)(h6:t.length≤1048576)(b:Bool):Told ⟨e,k,z,w,i,t,[],b⟩:=⟨⟨h1,h2,h3,h4,h5⟩,h6,by simp,by simp⟩
theorem i64s{n:Int}(h:-1000000000≤n∧n≤1000000000):od n:=⟨by omega,by omega⟩
theorem told_fault{e:Int}(h:0≤e∧e≤100):Told (Ai e):=told_mk (i64s (by omega)) (i64s (by omega)) (i64s (by omega)) (i64s (by omega)) (i64s (by omega)) (by simp) _
theorem told_finish{S:St}{s:Stk}{σ:SpN}{k:Nat}(hok:σ.ok k)(hk:k≤1000000)(hL:Leads S s σ.D){o:OpN}(hn:o.n≤1048576){w:AtN}{t:Fnd}{L:List (List CU)}(hE:Ends L σ.D w t):Told (Pt σ.D σ.idf o w):=by
 have z0:od 0:=i64s (by omega)
 have hid:∀j,od (σ.idf j):=fun j=>by
  unfold SpN.idf;cases h:σ.ids[j]? with
  |none=>exact z0
  |some x=>
   obtain⟨q,e,hq⟩:=hok.next.2 x (List.mem_of_getElem? h);have:=hok.next.1;simp;exact i64s (by omega)
 have hf:=hE.facts;unfold Pt;cases hw:w.nodes with
 |nil=>
  simp only;split
  ·exact told_mk z0 (i64s (by omega)) z0 (i64s (by omega)) z0 (by simp) _
  ·split
   ·exact told_mk z0 (i64s (by omega)) z0 z0 z0 (by simp) _
   ·split
    ·exact told_fault (by omega)
    ·split
     ·exact told_fault (by omega)
     ·exact told_fault (by omega)
 |cons y l=>
  rw[hw] at hf;obtain⟨f1,f2,f3,f4,f5⟩:=hf;obtain⟨y1,y2,y3,y4,y5,y6,y7⟩:=(Node.ok_iff y).1 f3;have hkind:od y.kind:=y1;have hsize:od y.size:=y5;simp only;split
  ·refine told_mk z0 hkind z0 ?_ z0 (by simp) _
   split
   ·exact hid _
   ·exact i64s (by omega)
  ·split
   ·split
    ·exact told_mk z0 hkind z0 z0 z0 (by simp) _
    ·exact told_mk z0 hkind hsize z0 z0 (by simp) _
   ·split
    ·split
     ·exact told_mk z0 z0 z0 z0 z0 (by omega) _
     ·exact told_fault (by omega)
    ·split
     ·split
      ·exact told_fault (by omega)
      ·exact told_mk z0 z0 z0 z0 z0 (read_len f3 f4 hn) _
     ·exact told_fault (by omega)
theorem told_do{S:St}{s:Stk}{σ:SpN}{k:Nat}(hok:σ.ok k)(hk:k≤1000000)(hL:Leads S s σ.D){o:OpN}(hn:o.n≤100000):Told (doS σ o).2:=by
 have z0:od 0:=i64s (by omega)
 have hle:=listErr_le' (D:=σ.D) (path:=o.path);unfold doS;split
 ·split
  ·exact told_fault (by omega)
  ·unfold Im;split
   ·exact told_fault (by omega)
   ·have:=hok.made.1;exact told_mk z0 z0 z0 z0 (i64s (by omega)) (by simp) _
 ·split
  ·split
   ·exact told_fault (by omega)
   ·unfold HX;cases hs:Eo σ o.id with
    |inr e=>
     have he:e=8∨e=9:=by
      unfold Eo at hs;split at hs
      ·cases hs;simp
      ·split at hs
       ·cases hs;simp
       ·split at hs
        ·cases hs;simp
        ·cases hs
     exact told_fault (by omega)
    |inl x=>
     obtain⟨j,c⟩:=x;simp only;refine⟨⟨z0,z0,z0,z0,z0⟩,by simp,?_,fun t ht=>?_⟩
     ·simp only[List.length_map,List.length_take];omega
     ·simp only[List.mem_map] at ht;obtain⟨x,hx,rfl⟩:=ht;have hx2:x∈Fs σ.D (pathOf c.names):=List.mem_of_mem_drop (List.mem_of_mem_take hx);unfold Fs at hx2;split at hx2
      ·rename_i he;obtain⟨t,hE⟩:=hL.ends (path:=pathOf c.names) (fl:=true) (H2 he).1;obtain⟨ds,hw,hh⟩:=hE.way (H2 he).2;rw[hh] at hx2;have:=(GO (hw.entry hx2).1).2.2.2.1;omega
      ·cases hx2
  ·split
   ·unfold U4;split
    ·exact told_fault (by omega)
    ·exact told_mk z0 z0 z0 z0 z0 (by simp) _
   ·split
    ·split
     ·exact told_fault (by omega)
     ·unfold ZI;split
      ·exact told_fault (by omega)
      ·have:=hok.next.1;exact told_mk z0 z0 z0 z0 (i64s (by omega)) (by simp) _
    ·split
     ·unfold IC;split
      ·exact told_fault (by omega)
      ·exact told_mk z0 z0 z0 z0 z0 (by simp) _
     ·unfold doR;split
      ·exact told_fault (by omega)
      ·split
       ·exact told_fault (by omega)
       ·split
        ·have:=walkN_err' (D:=σ.D) (path:=o.path) (f:=Gr o.kind);exact told_fault (by omega)
        ·rename_i he;simp only[ne_eq,Classical.not_not] at he;obtain⟨t,hE⟩:=hL.ends (path:=o.path) (fl:=Gr o.kind) he;exact told_finish hok hk hL (by omega) hE
set_option maxRecDepth 100000 in
theorem top10_one_A{w0:World}(hm:KI w0){S:St}{Q:AV→St→Prop}(hq:∀S',Sx S S'→Q (.bool true) S'):AC w0 F_top_one [] S Q:=by
 apply top_one_ok;unfold G_top_one;refine fT (by simp) (fun r1 hr1=>?_)
 simp;refine gn (l:=[[97]]) (items:=[Kc [120] r1]) Wo Wo (by simp) (by simp) (fun q3 q4 k3 k4=>?_)
 have hx:=mD (s:=[120]) (by simp) hr1
 have hok1:=bY (o:=false) (l:=[[97]]) (items:=[Kc [120] r1]) (by simp) (by simp[hx]) k3 k4
 have a1:ME (Kc [120] r1)=true:=d7 (by simp)
 have a2:(Kc [120] r1).allB=true:=by rw[Node.all_eq,a1];rfl
 have hr:Bs (QM false [[97]] q3 [Kc [120] r1] q4)=true:=by
  have a3:ME (QM false [[97]] q3 [Kc [120] r1] q4)=true:=by rfl
  have a4:(QM false [[97]] q3 [Kc [120] r1] q4).allB=true:=by
   rw[Node.all_eq,a3]
   show (Node.allsB [_]&&true)=true
   rw[Node.allsB,a2];rfl
  rw[Bs,a4];rfl
 generalize QM false [[97]] q3 [Kc [120] r1] q4=d1 at hok1 hr ⊢;have h0:=Pv [d1] 0 (by simp[hr]) (by simp)
 simp;refine W0 (l:=[d1]) hm (by simp[hok1]) (by simp) (fun S1 h1=>⟨fun _ s hs=>?_,fun h=>absurd h0 h⟩)
 simp;rw[AH];refine Lj ?_;rw[hs.len];simp;exact hq _ h1
set_option maxRecDepth 100000 in
theorem top_WholeCalls_L(w0:World)(hm:KI w0)(ht:TabL w0)(he:AtL w0)(x0 x1:AV)(h0:TV H6 x0)(h1:TV Rk x1):AC w0 F_top_WholeCalls [x0,x1] [] fun r _=>r= .bool true:=by
 refine law_ofC fun Q hq=>?_
 obtain⟨l,lr,e1,hlr,hll,hlok⟩:=(J4 (h0.one (by simp[isAgg,Dd]))).2 rfl
 have e1':x0= .vs 7 (l.map Node.c) lr:=by simpa using e1
 subst e1';obtain⟨ops,r2,rfl,hr2,hol,hok2⟩:=h1.slice (enc:=OpN.c) (ok:=fun o=>o.ok∧o.path.length≤1048576∧o.image.length≤1048576) VD aD jG
 apply top_WholeCalls_ok;unfold G_top_WholeCalls;refine top10_one_A hm (fun S _=>?_)
 simp;rw[AH];refine call_Hex_A (s:=[97]) (by simp) (fun S1 hS1=>?_)
 have hx:hexS [97]=[54,49]:=by rfl
 rw[hx];simp;refine Pg hlok (fun S2 hS2=>?_)
 cases hmay:WG l with
 |false=>simp[AH,hq]
 |true=>
 simp;rw[AH];refine VS (by omega) ?_
 by_cases hfew:ev ops 40=true
 case neg=>simp[hfew,hq]
 obtain⟨hf1,hf2⟩:=Pi.1 hfew;obtain⟨h8,hall⟩:=T6.1 hmay;have hright:∀n∈l,Bs n=true:=fun n hn=>(hall n hn).2
 simp[hfew];refine MK hm hlok hmay (fun S3 s hS3 hs=>?_)
 have hM:=hs.newM 3;have hok:=WY (trees:=l) 3 (fun n hn=>⟨hlok n hn,hright n hn⟩) (by omega)
 simp;refine Kb hM (by rw[Db]) (by rw[Db]) (by rw[Db]) (by rw[Db]) (fun S4 hS4 p t m hp htt hmm hA=>?_)
 refine Kb (hM.sx hS4) (by rw[Db]) (by rw[Db]) (by rw[Db]) (by rw[Db]) (fun S5 hS5 p2 t2 m2 hp2 ht2 hmm2 hA2=>?_)
 have hlt:p < S4.length∧t < S4.length∧m < S4.length:=⟨(List.getElem?_eq_some_iff.1 hA.obj).1,(List.getElem?_eq_some_iff.1 hA.tab.tab).1,(List.getElem?_eq_some_iff.1 hA.tab.map).1⟩;have hn1:p ∉ [p2,t2,m2]:=by simp;omega
 have hn2:t ∉ [p2,t2,m2]:=by simp;omega
 have hn3:m ∉ [p2,t2,m2]:=by simp;omega
 have hk1:p2 ∉ [p,t,m]:=by simp;omega
 have hk2:t2 ∉ [p,t,m]:=by simp;omega
 have hk3:m2 ∉ [p,t,m]:=by simp;omega
 rw[AH];refine Al ops (fun i (σ:SpN)=>([.int .i64 i],[])) (fun i σ S'=>(∃s,Fa S' p t m σ s)∧(∃s,Fa S' p2 t2 m2 σ s)∧σ.ok i) (ZU l 3) (by simp) ⟨⟨s,hA.sx hS5⟩,⟨s,hA2⟩,hok⟩ ?_ ?_
 ·rintro i σ S' v b o hi hxi hdr hcc hmem ⟨⟨s3,hA3⟩,⟨s4,hA4⟩,hok2'⟩ hv;simp at hv;obtain⟨o1,o2,o3⟩:=hok2 o hmem;obtain⟨w1,w2,w3⟩:=XG.1 (hf2 o hmem);have hoc:o.c=[.int .i64 o.kind,.str o.path,.int .i64 o.off,.int .i64 o.n,.int .i64 o.id,.str o.image]:=rfl;have hL:=hA3.stk.leads hok2';have hF:=hL.fine;simp[hv,hcc,hxi,hoc];rw[←hoc];refine ref19_Only_A o2 ?_;cases hon:onlyP o with
  |false=>simp[hq]
  |true=>
  simp;refine call_Text_A ht o1 o2 o3 (fun S6 hS6=>?_)
  simp;have htl:=textP_len o1;refine call_Parse_A hm ht he (by omega) ?_
  unfold parseA;rw[parse_text hon o1];simp[hoc];simp only[←hoc];have hA5:=hA3.sx hS6;have hA6:=hA4.sx hS6;refine Ek hm hA5 hok2' (by omega) o2 (by omega) (fun S7 s7 rt7 hS7 hA7=>?_)
  have hA8:=hA6.chg hS7 hk1 hk2 hk3 hA5.notBr;refine Ek hm hA8 hok2' (by omega) o2 (by omega) (fun S9 s9 rt9 hS9 hA9=>?_)
  have hA10:=hA7.chg hS9 hn1 hn2 hn3 hA8.notBr;have htold:=told_do hok2' (by omega) hL (o:=o) (by omega)
  have hok3:=K7 hok2' hF (o:=o) (by omega)
  generalize hd:doS σ o=d at hA9 hA10 htold hok3 ⊢;obtain⟨τ,a⟩:=d;simp only at hA9 hA10 htold hok3;have hra:∀r:Rt,a.c r=[.int .i64 a.err,.int .i64 a.kind,.int .i64 a.size,.int .i64 a.where_,.int .i64 a.id,.str a.text,.vs 1 (a.names.map Bz) r,.bool a.end_]:=fun _=>rfl
  simp[hra];rw[AH];have hfw:=htold.few;simp only[←hra];refine NU (a:=a) (by omega) ?_
  simp;rw[AH];refine call_Show_A ht htold.ok htold.text hfw htold.short (fun S11 hS11=>?_)
  simp[hra];simp only[←hra];refine ref19_Show_A htold.ok htold.text hfw htold.short ?_;simp
  try simp (disch:=omega) only[wrap64]
  exact .next hi τ (by simp) ⟨⟨s7,hA10.sx hS11⟩,⟨s9,hA9.sx hS11⟩,hok3⟩
 ·rintro σ S' v b ⟨_,_,_⟩ hv N;simp at hv;simp[hv,hq]
end Go.Av
namespace Go.Proofs.YtjkffbaienbmkaaGreatDoor.wholeCalls
open Go.ChangeShapes Go.WideShapes Go.ChangeAt Go.RowKit Go.Av
theorem own:ownKnob Tryz.prog.godebug=none:=by kernel_rfl
theorem EH{H:Type}:∀(l:List (DataW H)),l.length≤Rows.uptoBulkAll l∧∀d∈l,Rows.uptoBulk d≤Rows.uptoBulkAll l
 |[]=>⟨Nat.zero_le _,by simp⟩
 |d::l=>by
  obtain⟨h1,h2⟩:=EH l;have h3:1≤Rows.uptoBulk d:=by
   cases d with
   |lit l=>cases l<;>simp[Rows.uptoBulk]
   |_=>simp[Rows.uptoBulk]
  refine⟨by simp only[Rows.uptoBulkAll,List.length_cons];omega,fun e he=>?_⟩
  simp only[Rows.uptoBulkAll];rcases List.mem_cons.1 he with rfl|he
  ·omega
  ·have:=h2 e he;omega
theorem bdd{H:Type}:Bdd 1048576 (fun d:DataW H=>Rows.uptoBulk d≤1048576) where
 str l h:=by simp only[Rows.uptoBulk] at h;omega
 sl e s h:=by
  simp only[Rows.uptoBulk] at h;obtain⟨h1,h2⟩:=EH e;obtain⟨h3,h4⟩:=EH s;exact⟨by omega,fun d hd=>by have:=h2 d hd;omega,fun d hd=>by have:=h4 d hd;omega⟩
 agg ps h d hd:=by
  simp only[Rows.uptoBulk] at h;have:=(EH ps).2 d hd;omega
set_option maxRecDepth 100000 in
theorem law(w0:World)(hm:KI w0)(ht:TabL w0)(he:AtL w0)(xs:List AV)(hl:xs.length=Tryz.f10.params.size)(hx:∀(j:Nat) (t:TypeId) (x:AV),Tryz.f10.params[j]? =some t→xs[j]? =some x→TyV Tryz.prog 1048576 t x):
  AP (En w0) 10 xs [] fun r _=>r= .bool true:=by
 rw[Tryz.params10] at hl hx
 match xs,(show xs.length=2 from hl) with
 |[x0,x1],_=>exact top_WholeCalls_L w0 hm ht he x0 x1 (hx 0 40 x0 rfl rfl) (hx 1 77 x1 rfl rfl)
def put(h:Array Go.Obj)(g:Nat)(cs:List Value):Array Go.Obj:=h.modify g fun
 | .cells _ t fz=>.cells cs.toArray t fz
 |o=>o
noncomputable def base(os:Os):Array Go.Obj:=(put (put (put (put (put (World.holding Tryz.prog os ⟨#[],#[],[]⟩).heap 6 ([0,1,28,2,29,14,24,3,30,22,20,15,25,17,4,8,31,27,13,23,21,19,16,7,26,12,18,6,11,5,10,9].map fun n:Nat=>Value.int .u8 (n:Int))) 7 ([0,1,56,2,57,49,28,3,61,58,42,50,38,29,17,4,62,47,59,36,45,43,51,22,53,39,33,30,24,18,12,5,63,55,48,27,60,41,37,16,46,35,44,21,52,32,23,11,54,26,40,15,34,20,31,10,25,14,19,9,13,8,7,6].map fun n:Nat=>Value.int .u8 (n:Int))) 3 ([1,10,100,1000,10000,100000,1000000,10000000,100000000,1000000000,10000000000,100000000000,1000000000000,10000000000000,100000000000000,1000000000000000,10000000000000000,100000000000000000,1000000000000000000,10000000000000000000].map fun n:Nat=>Value.int .u64 (n:Int))) 5 ([128,191,160,191,128,159,144,191,128,143,0,0,0,0,0,0,0,0,0,0,0,0,0,0,0,0,0,0,0,0,0,0].map fun n:Nat=>Value.int .u8 (n:Int))) 4 (Go.Pinned.utf8FirstZ.map fun n:Nat=>Value.int .u8 (n:Int)))
noncomputable def FU(os:Os):World:={World.holding Tryz.prog os ⟨#[],#[],[]⟩ with heap:=(((put (put (base os) 2 [.iface 411 (.pointer (some ⟨(base os).size+0,0,none⟩))]) 1 [.iface 411 (.pointer (some ⟨(base os).size+1,0,none⟩))]).push (.cells #[.string ⟨#[118,97,108,117,101,32,111,117,116,32,111,102,32,114,97,110,103,101]⟩] 413 (0,0))).push (.cells #[.string ⟨#[105,110,118,97,108,105,100,32,115,121,110,116,97,120]⟩] 413 (0,0)))}
theorem Oo(os:Os):laidMet Tryz.prog Rows.wholeCallsUptoRow.laid ((FU os).forCall (fun _ _=>0) ⟨#[],#[.slice none 0 0,.slice none 0 0],[]⟩).memory:=
 laidMet_of_run' 8 (by kernel_rfl) (by kernel_rfl)
theorem reads(os:Os){H:Type}(enc:TypeId×Value→H):∃places,DataW.whole enc Tryz.prog ((FU os).forCall (fun _ _=>0) ⟨#[],#[.slice none 0 0,.slice none 0 0],[]⟩).memory Tryz.f10.params.toList Rows.wholeCallsSpec.vars false #[.slice none 0 0,.slice none 0 0].toList 8=some ([.nil,.nil],[],places):=
 ⟨[],by kernel_rfl⟩
set_option maxRecDepth 100000 in
theorem lifted(os:Os)(started:os.Started)(H:Type)(enc:TypeId×Value→H)(F:Stop.Interp):
  ReturnsInHanded {} Tryz.checked os 10 .any ((Rows.OpenSpec.upto Rows.wholeCallsSpec).preRow enc Tryz.prog Tryz.f10 Rows.wholeCallsUptoRow.domain false Rows.wholeCallsUptoRow.laid) (((Rows.OpenSpec.upto Rows.wholeCallsSpec).at F).post enc Tryz.prog Tryz.f10 false true false false):=by
 obtain⟨places,hx⟩:=reads os enc;refine returnsInHanded_of_row (C:=Tryz.checked) (s:=Rows.OpenSpec.upto Rows.wholeCallsSpec) own started (by kernel_rfl) Tryz.func10
  (witness_row_atRef (enc:=enc) (C:=Tryz.checked) false (FU os) #[.slice none 0 0,.slice none 0 0] rfl (by kernel_rfl) (by kernel_rfl) (by kernel_rfl)
   (OpenSpec.preRow_of_cond 8 hx (by kernel_rfl) (fun k hk=>by cases hk;kernel_rfl) (by kernel_rfl) (Oo os))) ?_
 intro W base args ds gs before hval hW _ hk _ hlaid hsh _;have hl:laidMet Tryz.prog Rows.wholeCallsUptoRow.laid W:=hlaid;have hk2:Rows.uptoBulkAll (ds++gs)≤1048576:=of_decide_eq_true (hk _ rfl);exact NR bdd (E:=En W) (fn:=Tryz.f10) (L:=[40,127,3,4,42,9,125,303,77,87]) (tb:=4) (by kernel_rfl) (by kernel_rfl) (by kernel_rfl) rfl Tryz.underlying4 rfl
  (fun ds hd=>by
   match ds,hd with
   |[d0,d1],_=>exact⟨rfl,rfl,rfl⟩) (law W (PG hsh) (tab_of_laid hl (n:= "internal/strconv.uint64pow10") (g:=3) (k:=.u64) (zs:=Lib.pow10Tab) (List.mem_of_getElem? (i:=2) (by kernel_rfl)) (by kernel_rfl) (by kernel_rfl) Tryz.underlying397 Tryz.underlying367 (by kernel_rfl) (by kernel_rfl)) ⟨err_of_laid hl (n:= "strconv.ErrSyntax") (g:=1) (d:=Rows.laid_strconv_ErrSyntax) (List.mem_of_getElem? (i:=5) (by kernel_rfl)) (by kernel_rfl) (by kernel_rfl) Tryz.underlying199,err_of_laid hl (n:= "strconv.ErrRange") (g:=2) (d:=Rows.laid_strconv_ErrRange) (List.mem_of_getElem? (i:=4) (by kernel_rfl)) (by kernel_rfl) (by kernel_rfl) Tryz.underlying199⟩) hval hW (fun d hd=>Nat.le_trans ((EH (ds++gs)).2 d (List.mem_append_left _ hd)) hk2)
end Go.Proofs.YtjkffbaienbmkaaGreatDoor.wholeCalls
