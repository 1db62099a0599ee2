/- Parts of the proofs of this seat: abstract values over the model, and what the functions of the program do. No condition. -/
import Derived.Test.YtehadbpejfjheaaGreatDoorX04L
import Derived.Test.YtehadbpejfjheaaGreatDoorM8
import Derived.Test.YtehadbpejfjheaaGreatDoorM9
import Derived.Test.YtehadbpejfjheaaGreatDoorD0
import Derived.Test.YtehadbpejfjheaaGreatDoorM5
import Derived.Test.YtehadbpejfjheaaGreatDoorXDelR
import Derived.Test.YtehadbpejfjheaaGreatDoorY19
import Derived.Test.YtehadbpejfjheaaGreatDoorD1
import Derived.Test.YtehadbpejfjheaaGreatDoorY10
import Derived.Test.YtehadbpejfjheaaGreatDoorY06
import Derived.Test.YtehadbpejfjheaaGreatDoorX05M
import Derived.Test.YtehadbpejfjheaaGreatDoorX03
import Derived.Test.YtehadbpejfjheaaGreatDoorXBld
import Derived.Test.YtehadbpejfjheaaGreatDoorY05
import Derived.Shelf.SlLaysE0
import Derived.Shelf.RegionOpenPlain
import Derived.WalkKit
import Derived.Deep.LoopGhost
import Derived.Deep.RegionLaw
import Derived.Lib.Walk
import Derived.Sort.WalkB12
import Derived.Lib.SliceRun
import Derived.Shelf.Lay
import Derived.Shelf.LaySoft
import Derived.Shelf.SlGeneric
import Derived.Ground.SlgnProg
import Derived.Shelf.SlicesE.Clone
set_option linter.all false
set_option maxRecDepth 100000
namespace Go.Av
open Go.Proofs
theorem Me.get{S0 S:St}{l:List Node}{s:Stk}(h:Me S0 S l s){k:Nat}(hk:k < l.length):∃m n,s.l[k]? =some m∧l[l.length - 1 - k]? =some n∧m.num=l.length - 1 - k∧m.tab=n.tab 0∧m∈s.l:=by
 have h1:k < s.l.length:=by rw[h.len];exact hk
 have hm:s.l[k]? =some s.l[k]:=List.getElem?_eq_getElem h1;have hn:l[l.length - 1 - k]? =some (l[l.length - 1 - k]'(by omega)):=List.getElem?_eq_getElem (by omega)
 refine⟨_,_,hm,hn,?_,?_,List.getElem_mem h1⟩
 ·have:=congrArg (fun x=>x[k]?) h.nums
  simp only[List.getElem?_map,hm,Option.map_some] at this;rw[List.getElem?_reverse (by simpa using hk),List.length_range,List.getElem?_range (by omega)] at this
  exact Option.some.inj this
 ·have:=congrArg (fun x=>x[k]?) h.tabs
  simp only[List.getElem?_map,hm,Option.map_some] at this;rw[List.getElem?_reverse hk,hn] at this;exact Option.some.inj this
open Go.Proofs
theorem io.of{S0 S:St}{l:List Node}{s:Stk}(hs:Me S0 S l s)(hok:∀n∈l,n.ok)(hall:∀n∈l,D5 n=true)(hl:l.length≤64):io S s l.reverse (fun k=>((((List.range l.length).map fun i:Nat=>((l.length - 1 - i:Nat):Int))[k]?).getD 0)):=by
 refine⟨Leads.of hs hok hall hl,Sb hs,fun k m hm=>?_⟩
 have hk:k < l.length:=by have:=(List.getElem?_eq_some_iff.1 hm).1;rw[hs.len] at this;exact this
 obtain⟨m',n,h1,h2,h3,h4,h5⟩:=hs.get hk;rw[h1] at hm;cases hm;simp[hk,h3]
open Go.Proofs
def FO(w:AtN):Int:=if w.err≠0 then w.err else match w.nodes with|y::_=>if y.kind=2 then 0 else 3|[]=>0
theorem Zu{w0:World}(hm:L2 w0){S:St}{s:Stk}{D:List Node}{path:Str}(hL:Leads S s D)(hp:path.length≤1048576){Q:AV→St→Prop}
  (hq:∀S',Sx S S'→(FO (DV D path true)≠0→Q (.tup [.str [],.vs 2 [] .nil,.int .i64 (FO (DV D path true))]) S')∧
   (FO (DV D path true)=0→(∃t,Ends s.tabs D (DV D path true) t)→∀r:Rt,okR r (J5 (DV D path true).nodes)→Q (.tup [.str (pathOf (DV D path true).names),.vs 2 ((J5 (DV D path true).nodes).map Ent.c) r,.int .i64 0]) S')):AC w0 M5 [.agg s.c,.str path] S Q:=by
 have hc:s.c=[.vs 2 (s.l.map Mnt.c) s.r.strip,.int .i64 s.next]:=rfl;rw[hc];apply W2;unfold Sv;simp[←hc];refine Ue hm hL hp (fun S2 hS2=>⟨fun he=>?_,fun he t r hE=>?_⟩)
 ·have e:FO (DV D path true)=(DV D path true).err:=by rw[FO,if_pos he]
  have h0:=(hq S2 hS2).1 (by rw[e];exact he)
  rw[e] at h0;simp[Fnd.c,Fnd.none,he];exact h0
 ·have e:FO (DV D path true)=match (DV D path true).nodes with|y::_=>if y.kind=2 then 0 else 3|[]=>0:=by rw[FO,if_neg (by rw[he];simp)]
  have hq1:=(hq S2 hS2).1;have hq3:=fun S3 (hS3:Sx S2 S3) h=>(hq S3 (hS2.trans hS3)).2 h ⟨t,hE⟩
  rw[e] at hq1 hq3;generalize DV D path true=want at hq1 hq3 hE;have hf:=hE.facts;have hLn:=hL.mono hS2;cases hn:want.nodes with
  |nil=>
   rw[hn] at hf hq3;obtain⟨rfl,h2⟩:=hf;simp[Fnd.c];refine SJ (p:=[]) (dirs:=[]) hLn.ok hLn.on hLn.good trivial (by simp) (by simp) (fun S3 r3 hS3 hr3=>?_)
   have:=hq3 S3 hS3 rfl r3 hr3;simpa using this
  |cons y l=>
   rw[hn] at hf hq3 hq1;obtain⟨h1,h2,h3,h4,h5⟩:=hf
   by_cases k2:y.kind=2
   ·rw[if_pos k2] at h5;obtain⟨h51,h52,h53⟩:=h5;have hpl:t.dirs.length≤64:=by
     rw[h51.len];obtain⟨ds,hw,hh⟩:=hE.way (fun y' l' e'=>by rw[hn] at e';cases e';exact k2)
     obtain⟨d,_,_,hd⟩:=hw.last;have:=hd.few;rw[←hh,hn] at this;exact this
    simp[Fnd.c,h1,k2];refine SJ hLn.ok hLn.on hLn.good h51 (fun n hn=>?_) hpl (fun S3 r3 hS3 hr3=>?_)
    ·obtain⟨g1,g2,g3,g4⟩:=h53 n hn;refine⟨g1,g2,?_⟩;rw[Iw g2];have:=(GE (l:=n.items)).1;rw[Node.count_eq] at g4;omega
    ·have:=hq3 S3 hS3 (by simp[k2]) r3 hr3
     simpa using this
   ·simp only[if_neg k2] at hq1;simp[Fnd.c,h1,k2];exact hq1 (by simp)
open Go.Proofs
theorem SO{w:AtN}(h:FO w=0):w.err=0∧∀y l,w.nodes=y::l→y.kind=2:=by
 unfold FO at h
 by_cases he:w.err=0
 ·rw[if_neg (by simp[he])] at h
  refine⟨he,fun y l e=>?_⟩
  rw[e] at h;simp only at h
  by_cases k:y.kind=2
  ·exact k
  ·rw[if_neg k] at h;cases h
 ·rw[if_pos he] at h;exact absurd h he
theorem LG.listed{L:List (List Cn)}{D:List Node}{ds:List Drx}{names:List Str}(hw:LG L D ds names):(J5 (Dw D names)).length≤6400000:=by
 obtain⟨d,_,_,hd⟩:=hw.last;have:=e8 (Dw D names) 100000 (fun n hn=>by
  obtain⟨q1,q2,q3,q4,q5⟩:=hd.good n hn;rw[Iw q2];have:=(GE (l:=n.items)).1;rw[Node.count_eq] at q5;omega)
 have:=hd.few;omega
structure VP where
 id:Int
 epoch:Int
 names:List Str
 at_:Nat
structure SpN where
 D:List Node
 ids:List Int
 next:Nat
 epoch:Nat
 room:Nat
 opens:List VP
 made:Nat
def GA(D:List Node)(path:Str):List Ent:=if FO (DV D path true)=0 then J5 (DV D path true).nodes else []
def LJ(σ:SpN)(n:Node):SpN:={σ with D:=n::σ.D,ids:=(σ.next:Int)::σ.ids,next:=σ.next+1,epoch:=σ.epoch+1}
def oj(σ:SpN)(n:Node):SpN×gT:=
 if 64≤σ.D.length then (σ,me 6) else (LJ σ n,{id:=σ.next})
def NE(room:Int):Nat:=if room < 1 then 1 else if 1024 < room then 1024 else room.toNat
def newS(trees:List Node)(room:Int):SpN:={trees.foldl LJ ⟨[],[],0,0,NE room,[],0⟩ with epoch:=0}
structure SpN.ok(σ:SpN)(k:Nat):Prop where
 trees:∀n∈σ.D,n.ok∧D5 n=true
 few:σ.D.length≤64
 ids:σ.ids.length=σ.D.length
 next:σ.next≤64+k∧∀i∈σ.ids,∃j:Nat,i=(j:Int)∧j < σ.next
 epoch:σ.epoch≤k
 room:1≤σ.room∧σ.room≤1024
 opens:σ.opens.length≤σ.room
 made:σ.made≤k∧∀c∈σ.opens,∃j:Nat,c.id=(j:Int)∧1≤j∧j≤σ.made
 nodup:(σ.opens.map (·.id)).Nodup
 cur:∀c∈σ.opens,c.epoch≤σ.epoch∧c.names.length≤15∧(∀s∈c.names,Es s=true)∧(c.epoch=σ.epoch→c.at_≤(GA σ.D (pathOf c.names)).length)∧c.at_≤10000000
structure Fine(D:List Node):Prop where
 list:∀path,(GA D path).length≤6400000
 names:∀path,(DV D path true).err=0→(DV D path true).names.length≤15∧∀s∈(DV D path true).names,Es s=true
theorem SpN.ok.keep{σ:SpN}{k:Nat}(h:σ.ok k):σ.ok (k+1):=
 ⟨h.trees,h.few,h.ids,⟨by have:=h.next.1;omega,h.next.2⟩,by have:=h.epoch;omega,h.room,h.opens,⟨by have:=h.made.1;omega,h.made.2⟩,h.nodup,h.cur⟩
theorem SpN.ok.add{σ:SpN}{k:Nat}(h:σ.ok k){n:Node}(hn:n.ok)(hr:D5 n=true):(oj σ n).1.ok (k+1):=by
 unfold oj;split
 ·exact h.keep
 ·rename_i hd;have hnx:=h.next.1;have hep:=h.epoch;unfold LJ;refine⟨fun x hx=>?_,by simp;omega,by simp[h.ids],⟨by simp;omega,fun i hi=>?_⟩,by simp;omega,h.room,h.opens,⟨by have:=h.made.1;simp only;omega,h.made.2⟩,h.nodup,fun c hc=>?_⟩
  ·rcases List.mem_cons.1 hx with rfl|hx
   ·exact⟨hn,hr⟩
   ·exact h.trees x hx
  ·simp only[List.mem_cons] at hi;rcases hi with rfl|hi
   ·exact⟨σ.next,rfl,by simp⟩
   ·obtain⟨j,e,hj⟩:=h.next.2 i hi;exact⟨j,e,by simp only;omega⟩
  ·obtain⟨c1,c2,c3,c4,c5⟩:=h.cur c hc;exact⟨by simp only;omega,c2,c3,fun e=>by simp only at e;omega,c5⟩
theorem YS:∀(trees:List Node) (σ:SpN),(trees.foldl LJ σ).D=trees.reverse++σ.D∧(trees.foldl LJ σ).ids=((List.range trees.length).map fun i:Nat=>((σ.next+i:Nat):Int)).reverse++σ.ids∧(trees.foldl LJ σ).next=σ.next+trees.length∧(trees.foldl LJ σ).room=σ.room∧(trees.foldl LJ σ).opens=σ.opens∧(trees.foldl LJ σ).made=σ.made
 |[],σ=>by simp
 |n::l,σ=>by
  obtain⟨h1,h2,h3,h4,h5,h6⟩:=YS l (LJ σ n);rw[List.foldl_cons];refine⟨by rw[h1];simp[LJ],?_,by rw[h3];simp[LJ];omega,h4,h5,h6⟩
  rw[h2];simp only[LJ,List.length_cons,List.range_succ_eq_map,List.map_cons,List.map_map,List.reverse_cons,List.append_assoc];congr 1;congr 1;refine List.map_congr_left fun i _=>?_
  simp;omega
theorem FL(trees:List Node)(room:Int):newS trees room=⟨trees.reverse,((List.range trees.length).map fun i:Nat=>(i:Int)).reverse,trees.length,0,NE room,[],0⟩:=by
 obtain⟨h1,h2,h3,h4,h5,h6⟩:=YS trees ⟨[],[],0,0,NE room,[],0⟩;unfold newS;generalize trees.foldl LJ ⟨[],[],0,0,NE room,[],0⟩=t at*;obtain⟨a,b,c,d,e,f,g⟩:=t;simp only at*;subst h1 h2 h3 h4 h5 h6;simp
open Go.Proofs
def Cg(ids:List Nat)(S S':St):Prop:=S.length≤S'.length∧∀j,j < S.length→j ∉ ids→S'[j]? =S[j]?
theorem Cg.refl(ids:List Nat)(S:St):Cg ids S S:=⟨Nat.le_refl _,fun _ _ _=>rfl⟩
theorem Cg.trans{ids:List Nat}{A B D:St}(h:Cg ids A B)(k:Cg ids B D):Cg ids A D:=⟨Nat.le_trans h.1 k.1,fun j hj hn=>(k.2 j (Nat.lt_of_lt_of_le hj h.1) hn).trans (h.2 j hj hn)⟩
theorem Sx.chg{S S':St}(h:Sx S S')(ids:List Nat):Cg ids S S':=⟨h.le,fun j hj _=>h j hj⟩
theorem Cg.get{ids:List Nat}{S S':St}(h:Cg ids S S'){j:Nat}{o:Obj}(e:S[j]? =some o)(hn:j ∉ ids):S'[j]? =some o:=(h.2 j (List.getElem?_eq_some_iff.1 e).1 hn).trans e
theorem Cg.set{ids:List Nat}{S:St}{i:Nat}{o:Obj}(h:i∈ids):Cg ids S (S.set i o):=⟨by simp,fun j _ hn=>by rw[List.getElem?_set_ne];rintro rfl;exact hn h⟩
theorem Cg.sub{ids ids':List Nat}{S S':St}(h:Cg ids S S')(k:∀i∈ids,i∈ids'):Cg ids' S S':=⟨h.1,fun j hj hn=>h.2 j hj fun hi=>hn (k j hi)⟩
def VP.v(c:VP):List AV:=[.int .i64 c.epoch,.str (pathOf c.names),.int .i64 c.at_]
def VP.e(c:VP):AV×AV:=(.int .i64 c.id,.agg c.v)
structure TabAt(S:St)(t m:Nat)(room made:Nat)(l:List VP):Prop where
 tab:S[t]? =some (.cells [.int .i64 room,.int .i64 made,.map (some m)] Kj)
 map:S[m]? =some (.map (l.map VP.e))
theorem TabAt.ne{S:St}{t m room made:Nat}{l:List VP}(h:TabAt S t m room made l):t≠m:=fun e=>by
 have h1:=h.tab;rw[e,h.map] at h1;cases h1
theorem TabAt.chg{S S':St}{t m room made:Nat}{l:List VP}{ids:List Nat}(h:TabAt S t m room made l)(k:Cg ids S S')(h1:t ∉ ids)(h2:m ∉ ids):TabAt S' t m room made l:=⟨k.get h.tab h1,k.get h.map h2⟩
theorem TabAt.sx{S S':St}{t m room made:Nat}{l:List VP}(h:TabAt S t m room made l)(k:Sx S S'):TabAt S' t m room made l:=h.chg (k.chg []) (by simp) (by simp)
theorem Zl{w0:World}{S:St}{room:Int}{Q:AV→St→Prop}(hq:∀S',Sx S S'→∀t m,S.length≤t→S.length≤m→TabAt S' t m (NE room) 0 []→Q (.ptr t 0) S'):AC w0 ND [.int .i64 room] S Q:=by
 apply W6;unfold Sf;have e:(if 1024 < (if 1 > room then 1 else room) then (1024:Int) else (if 1 > room then 1 else room))=((NE room:Nat):Int):=by
  unfold NE
  by_cases h1:room < 1
  ·rw[if_pos (show (1:Int) > room from h1),if_pos h1];rfl
  ·rw[if_neg (show ¬(1:Int) > room from h1),if_neg h1]
   split
   ·rfl
   ·omega
 rw[e];simp;refine hq _ ?_ (S.length+1) S.length (by omega) (Nat.le_refl _) ⟨by simp,by simp⟩
 exact Sx.app S _
open Go.Proofs
def Ni:Obj→Prop
 | .cells cs tg=>tg≠DL∧¬∃T:List Ino,cs=Ab Ino.c T
 |_=>True
theorem Br.chg{S S':St}{ids:List Nat}{id:Nat}{P:List Cn}(h:Br S id P)(k:Cg ids S S')(hx:∀j∈ids,∀o,S[j]? =some o→Ni o):Br S' id P:=by
 obtain⟨t,T,h1,h2,h3,h4⟩:=h;refine⟨t,T,h1,k.get h2 (fun hi=>?_),k.get h3 (fun hi=>?_),h4⟩
 ·exact(hx _ hi _ h2).1 rfl
 ·exact(hx _ hi _ h3).2 ⟨T,rfl⟩
theorem Gd{cs:List AV}{tg:Nat}(h:tg≠DL)(hl:cs.length % 8≠0):Ni (.cells cs tg):=by
 refine⟨h,?_⟩;rintro⟨T,rfl⟩;rw[C6 (fun x=>x.c_len)] at hl
 omega
structure Ns(S:St)(s:Stk)(σ:SpN):Prop where
 ok:s.ok
 on:s.on S
 tabs:s.tabs=σ.D.map fun n=>n.tab 0
 nums:(s.l.map fun x=>(x.num:Int))=σ.ids
 next:s.next=σ.next
theorem Ns.len{S:St}{s:Stk}{σ:SpN}(h:Ns S s σ):s.l.length=σ.D.length:=by
 have:=congrArg List.length h.tabs;simpa[Stk.tabs] using this
theorem Ns.sx{S S':St}{s:Stk}{σ:SpN}(h:Ns S s σ)(k:Sx S S'):Ns S' s σ:=⟨h.ok,h.on.mono k,h.tabs,h.nums,h.next⟩
theorem Ns.chg{S S':St}{s:Stk}{σ:SpN}{ids:List Nat}(h:Ns S s σ)(k:Cg ids S S')(hx:∀j∈ids,∀o,S[j]? =some o→Ni o):Ns S' s σ:=⟨h.ok,fun m hm=>(h.on m hm).chg k hx,h.tabs,h.nums,h.next⟩
theorem Ns.same{S:St}{s:Stk}{σ τ:SpN}(h:Ns S s σ)(h1:τ.D=σ.D)(h2:τ.ids=σ.ids)(h3:τ.next=σ.next):Ns S s τ:=⟨h.ok,h.on,by rw[h1];exact h.tabs,by rw[h2];exact h.nums,by rw[h3];exact h.next⟩
theorem fk{S:St}{s:Stk}{D:List Node}(hok:s.ok)(hon:s.on S)(ht:s.tabs=D.map fun n=>n.tab 0)(hD:∀n∈D,n.ok∧D5 n=true)(hl:D.length≤64):Leads S s D:=by
 have hroot:=VA D s.tabs 0 (by rw[ht];rfl)
 rw[←ht] at hroot;have hd:(EY D).length≤64:=by
  have:=hroot.len;have h2:=Tq s.tabs 0;have h3:s.tabs.length=D.length:=by rw[ht];simp
  omega
 refine⟨hok,hon,fun P hP i=>?_,hroot,fun n hn=>?_,hd⟩
 ·rw[ht] at hP;obtain⟨n,hn,rfl⟩:=List.mem_map.1 hP;exact V1 (hD n hn).1 (hD n hn).2 i
 ·have hn2:=Ke hn;obtain⟨q1,q2,q3,q4⟩:=Kz (hD n hn2).2;exact⟨(hD n hn2).1,q2,q1,q4,by omega⟩
theorem Ns.leads{S:St}{s:Stk}{σ:SpN}{k:Nat}(h:Ns S s σ)(hok:σ.ok k):Leads S s σ.D:=fk h.ok h.on h.tabs hok.trees hok.few
theorem Leads.fine{S:St}{s:Stk}{D:List Node}(hL:Leads S s D):Fine D:=by
 refine⟨fun path=>?_,fun path he=>?_⟩
 ·unfold GA;split
  ·rename_i he;obtain⟨t,hE⟩:=hL.ends (path:=path) (fl:=true) (SO he).1;obtain⟨ds,hw,hh⟩:=hE.way (SO he).2;rw[hh];exact hw.listed
  ·simp
 ·obtain⟨t,hE⟩:=hL.ends (path:=path) (fl:=true) he;exact hE.short
structure Sm(S:St)(p t m:Nat)(σ:SpN)(s:Stk):Prop where
 obj:S[p]? =some (.cells [.vs 2 (s.l.map Mnt.c) s.r.strip,.int .i64 s.next,.int .i64 σ.epoch,.ptr t 0] H0)
 tab:TabAt S t m σ.room σ.made σ.opens
 stk:Ns S s σ
theorem Sm.notBr{S:St}{p t m:Nat}{σ:SpN}{s:Stk}(h:Sm S p t m σ s):∀j∈[p,t,m],∀o,S[j]? =some o→Ni o:=by
 intro j hj o ho;simp at hj;rcases hj with rfl|rfl|rfl
 ·rw[h.obj] at ho;cases ho;exact Gd (by decide) (by simp)
 ·rw[h.tab.tab] at ho;cases ho;exact Gd (by decide) (by simp)
 ·rw[h.tab.map] at ho;cases ho;trivial
theorem Sm.sx{S S':St}{p t m:Nat}{σ:SpN}{s:Stk}(h:Sm S p t m σ s)(k:Sx S S'):Sm S' p t m σ s:=⟨k.get h.obj,h.tab.sx k,h.stk.sx k⟩
theorem Sm.chg{S S':St}{p t m:Nat}{σ:SpN}{s:Stk}{ids:List Nat}(h:Sm S p t m σ s)(k:Cg ids S S')(h1:p ∉ ids)(h2:t ∉ ids)(h3:m ∉ ids)(hx:∀j∈ids,∀o,S[j]? =some o→Ni o):Sm S' p t m σ s:=⟨k.get h.obj h1,h.tab.chg k h2 h3,h.stk.chg k hx⟩
theorem Wb{w0:World}{S:St}{s:Stk}{σ:SpN}{room:Int}(h:Ns S s σ)(h0:σ.epoch=0)(h1:σ.opens=[])(h2:σ.made=0)(h3:σ.room=NE room){Q:AV→St→Prop}
  (hq:∀S',Sx S S'→∀p t m,S.length≤p→S.length≤t→S.length≤m→Sm S' p t m σ s→Q (.ptr p 0) S'):AC w0 M6 [.agg s.c,.int .i64 room] S Q:=by
 have hc:s.c=[.vs 2 (s.l.map Mnt.c) s.r.strip,.int .i64 s.next]:=rfl;rw[hc];apply aL;unfold Vq;simp;refine Zl (fun S1 hS1 t m ht hm hT=>?_)
 simp;have hsx:Sx S1 (S1++[Obj.cells [.vs 2 (s.l.map Mnt.c) s.r.strip,.int .i64 s.next,.int .i64 0,.ptr t 0] H0]):=Sx.app S1 _;refine hq _ (hS1.trans hsx) S1.length t m hS1.le ht hm ⟨by simp[h0],?_,(h.sx hS1).sx hsx⟩
 rw[h1,h2,h3];exact hT.sx hsx
def bQ(h:Int)(b:UInt8):Int:=IntKind.u32.wrap (IntKind.u32.wrap ((BitVec.ofInt IntKind.u32.bits h ^^^ BitVec.ofInt IntKind.u32.bits (IntKind.u32.wrap (b.toNat:Int))).toNat:Int)*16777619)
def ZO(s:Str):Int:=s.foldl bQ 2166136261
theorem Vt(n:Int):0≤IntKind.u32.wrap n∧IntKind.u32.wrap n < 4294967296:=by
 simp only[IntKind.wrap,IntKind.signed,IntKind.bits];simp;omega
theorem i6{n:Int}(h0:0≤n)(h:n < 4294967296):IntKind.u32.wrap n=n:=by
 simp only[IntKind.wrap,IntKind.signed,IntKind.bits];simp;omega
theorem WZ(s:Str):0≤ZO s∧ZO s < 4294967296:=by
 unfold ZO;rcases List.eq_nil_or_concat s with rfl|⟨t,b,rfl⟩
 ·simp
 ·rw[List.concat_eq_append,List.foldl_append];exact Vt _
theorem Uc{w0:World}{S:St}{s:Str}(hs:s.length≤1000000000){Q:AV→St→Prop}(hq:Q (.int .u32 (ZO s)) S):AC w0 LO [.str s] S Q:=by
 apply Yv;unfold UT;rw[AO];refine BN s (fun i (h:Int)=>([.int .u32 h,.int .i64 i],[])) (fun i h S'=>S'=S∧h=(s.take i).foldl bQ 2166136261) 2166136261 (by simp) ⟨rfl,by simp⟩ ?_ ?_
 ·rintro i h S' v bx b c hxi hd hc hmem ⟨rfl,rfl⟩ hv;simp only[Prod.mk.injEq,List.cons.injEq,and_true] at hv;obtain⟨hv0,hv1⟩:=hv;have hch:Gg (.str s) (.int .i64 (i:Int))=some (.int .u8 b.toNat):=by simp[Gg,hxi]
  have hcv:Cq .u32 (.int .u8 (b.toNat:Int))=some (.int .u32 (IntKind.u32.wrap (b.toNat:Int))):=rfl;have hxo:∀a c:Int,AP .xor (.int .u32 a) (.int .u32 c)=some (.int .u32 (IntKind.u32.wrap ((BitVec.ofInt IntKind.u32.bits a ^^^ BitVec.ofInt IntKind.u32.bits c).toNat:Int))):=fun a c=>by simp[AP,GN]
  have hmu:∀a c:Int,AP .mul (.int .u32 a) (.int .u32 c)=some (.int .u32 (IntKind.u32.wrap (a*c))):=fun a c=>by simp[AP,GN]
  have w1:IntKind.i64.wrap ((i:Int)+1)=(i:Int)+1:=wrap64 (by omega) (by omega)
  have had:AP .add (.int .i64 (i:Int)) (.int .i64 1)=some (.int .i64 ((i:Int)+1)):=by simp[w1]
  simp only[hv0,hv1,GL,AF,hc,decide_true,Cf,CG,hch,hcv,hxo,hmu,had];refine .next c (bQ ((s.take i).foldl bQ 2166136261) b) (by simp[bQ]) ⟨rfl,?_⟩
  rw[List.take_succ,hxi,List.foldl_append];rfl
 ·rintro h S' v bx ⟨rfl,rfl⟩ hv N;simp only[Prod.mk.injEq,List.cons.injEq,and_true] at hv;obtain⟨hv0,hv1⟩:=hv;rw[List.take_length] at hv0;simp[hv0,hv1];exact hq
def ofK(n:Nat)(key:Str):Nat:=(ZO key).toNat % n
theorem Gr{n:Nat}(h:1≤n)(key:Str):ofK n key < n:=Nat.mod_lt _ (by omega)
def Eh(m:Int):Nat:=(if 256 < (if 1 > m then 1 else m) then 256 else (if 1 > m then 1 else m):Int).toNat
theorem Yg(m:Int):1≤Eh m∧Eh m≤256∧((Eh m:Nat):Int)=(if 256 < (if 1 > m then 1 else m) then 256 else (if 1 > m then 1 else m):Int):=by
 unfold Eh;split<;>split<;>omega
def Ub{α:Type}(sh:List (List α)):Nat:=sh.foldl (fun n l=>max n l.length) 0
theorem mostN_le{α:Type}{sh:List (List α)}{b:Nat}:∀{a:Nat},a≤b→(∀l∈sh,l.length≤b)→sh.foldl (fun n l=>max n l.length) a≤b:=by
 induction sh with
 |nil=>intro a h _;exact h
 |cons l sh ih=>intro a h k;exact ih (Nat.max_le.2 ⟨h,k l (by simp)⟩) fun x hx=>k x (by simp[hx])
theorem H4{S:St}{i:Nat}{a b:List AV}{s t:Nat}(h1:S[i]? =some (.cells a s))(h2:S[i]? =some (.cells b t))(hn:s≠t):False:=by
 rw[h1] at h2;injection h2 with h2
 injection h2 with _ h2
 exact hn h2
end Go.Av
