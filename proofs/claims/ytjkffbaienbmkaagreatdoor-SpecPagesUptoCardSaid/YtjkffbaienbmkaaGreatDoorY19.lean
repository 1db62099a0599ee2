/- Parts of the proofs of this seat: abstract values over the model, and what the functions of the program do. No condition. -/
import Derived.Test.YtjkffbaienbmkaaGreatDoorD0
import Derived.Test.YtjkffbaienbmkaaGreatDoorX05e
import Derived.Test.YtjkffbaienbmkaaGreatDoorY05e
import Derived.Test.YtjkffbaienbmkaaGreatDoorX08d
import Derived.Test.YtjkffbaienbmkaaGreatDoorY10
import Derived.Lib.ItoaNum
import Derived.Lib.AtoiAllCases
set_option linter.all false
namespace Go.Av
abbrev od(n:Int):Prop:=-9223372036854775808≤n∧n≤9223372036854775807
structure OpN where
 kind:Int
 path:Str
 off:Int
 n:Int
 id:Int
 image:Str
 deriving DecidableEq
def OpN.zero:OpN:=⟨0,[],0,0,0,[]⟩
structure OpN.ok(o:OpN):Prop where
 kind:od o.kind
 off:od o.off
 n:od o.n
 id:od o.id
structure Bb where
 err:Int:=0
 kind:Int:=0
 size:Int:=0
 where_:Int:=0
 id:Int:=0
 text:Str:=[]
 names:List Str:=[]
 end_:Bool:=false
def Bb.c(x:Bb)(r:Rt):List AV:=[.int .i64 x.err,.int .i64 x.kind,.int .i64 x.size,.int .i64 x.where_,.int .i64 x.id,.str x.text,.vs 1 (x.names.map Bz) r,.bool x.end_]
@[simp] theorem Bb.c_len(x:Bb)(r:Rt):(x.c r).length=8:=rfl
def Ai(e:Int):Bb:={err:=e}
def OpN.c(o:OpN):List AV:=[.int .i64 o.kind,.str o.path,.int .i64 o.off,.int .i64 o.n,.int .i64 o.id,.str o.image]
@[simp] theorem OpN.c_len(o:OpN):o.c.length=6:=rfl
def isK(k:Int):Bool:=decide (1≤k)&&decide (k≤4)
def Gr(k:Int):Bool:=decide (k=2)||(decide (k=4)||decide (k=5))
def Oj(o:OpN):Bool:=(decide (o.kind=4)&&(decide (o.off < 0)||decide (o.n < 0)))||(decide (o.kind=6)&&decide (o.n < 1))
def Pt(D:List Node)(ids:Nat→Int)(o:OpN)(w:AtN):Bb:=
 match w.nodes with
 |[]=>
  if o.kind=1 then {kind:=2,where_:=-1}
  else if o.kind=2 then {kind:=2}
  else if o.kind=3 then Ai 1
  else if o.kind=4 then Ai 5
  else Ai 1
 |y::_=>
  if o.kind=1 then {kind:=y.kind,where_:=match MF D w.names with|some k=>ids k|none=>-1}
  else if o.kind=2 then (if y.kind=2 then {kind:=y.kind} else {kind:=y.kind,size:=y.size})
  else if o.kind=3 then (if y.kind=3 then {text:=y.target} else Ai 1)
  else if o.kind=4 then (if y.kind=2 then Ai 5 else {text:=Tt y.size y.exts o.off o.n})
  else Ai 1
def doR(D:List Node)(ids:Nat→Int)(o:OpN):Bb:=
 if isK o.kind=false then Ai 1
 else if Oj o=true then Ai 1
 else if (BP D o.path (Gr o.kind)).err≠0 then Ai (BP D o.path (Gr o.kind)).err
 else Pt D ids o (BP D o.path (Gr o.kind))
open Go.Proofs
theorem iI{w0:World}{S:St}{k:Int}{Q:AV→St→Prop}(hq:Q (.bool (isK k)) S):AC w0 Rc [.int .i64 k] S Q:=by
 apply eX;unfold Xd;have e:isK k=(decide (k≥1)&&decide (k≤4)):=rfl;rw[e] at hq
 by_cases h:k≥1
 ·simp[AH,h] at hq ⊢;exact hq
 ·simp[AH,h] at hq ⊢;exact hq
theorem WT{w0:World}{S:St}{k:Int}{Q:AV→St→Prop}(hq:Q (.bool (Gr k)) S):AC w0 Jg [.int .i64 k] S Q:=by
 apply U0;unfold OK;unfold Gr at hq
 by_cases h:k=2
 ·subst h;simp[AH];simpa using hq
 ·by_cases h4:k=4
  ·subst h4;simp[AH];simpa using hq
  ·have b2:(k==2)=false:=by simpa using h
   have b4:(k==4)=false:=by simpa using h4
   have b5:(k==5)=decide (k=5):=rfl;simp[AH,b2,b4,b5];simp[h,h4] at hq;exact hq
theorem D9{w0:World}{S:St}{e:Int}{Q:AV→St→Prop}(hq:Q (.agg ((Ai e).c .nil)) S):AC w0 E9 [.int .i64 e] S Q:=by
 apply YR;unfold QS;exact hq
theorem Qd{w0:World}{S:St}{o:OpN}{Q:AV→St→Prop}(hq:Q (.int .i64 (if Oj o=true then 1 else 0)) S):AC w0 JE [.agg o.c] S Q:=by
 unfold OpN.c;apply X6;unfold Qt;unfold Oj at hq;simp
 by_cases h4:o.kind=4
 ·have h6:¬o.kind=6:=by omega
  simp[h4,h6] at hq ⊢
  by_cases h:o.off < 0
  ·simp[AH,h] at hq ⊢;exact hq
  ·by_cases h2:o.n < 0
   ·simp[AH,h,h2] at hq ⊢;exact hq
   ·simp[AH,h,h2] at hq ⊢;exact hq
 ·by_cases h6:o.kind=6
  ·simp[h4,h6] at hq ⊢
   by_cases h:o.n < 1
   ·simp[AH,h] at hq ⊢;exact hq
   ·simp[AH,h] at hq ⊢;exact hq
  ·simp[AH,h4,h6] at hq ⊢;exact hq
theorem Ends.empty{L:List (List CU)}{D:List Node}{want:AtN}{t:Fnd}(h:Ends L D want t)(hn:want.nodes=[]):D=[]:=by
 have hf:=h.facts;rw[hn] at hf;obtain⟨he,ds,names,hw,hc⟩:=h;rcases hc with ⟨h1,h2,h3⟩|⟨s,y,l,hs,h1,h2,h3,h4,h5⟩
 ·have h0:=hf.2;rw[h1] at h0;rw[hn,h0] at h2;cases D with
  |nil=>rfl
  |cons n l=>simp[Dc,Dm] at h2
 ·rw[hn] at h4;cases h4
structure di(S:St)(s:Stk)(D:List Node)(ids:Nat→Int):Prop where
 leads:Leads S s D
 tabs:s.tabs=D.map fun n=>n.tab 0
 ids:∀k m,s.l[k]? =some m→ids k=(m.num:Int)
theorem di.mono{S S':St}{s:Stk}{D:List Node}{ids:Nat→Int}(h:di S s D ids)(k:Sx S S'):di S' s D ids:=⟨h.leads.mono k,h.tabs,h.ids⟩
set_option maxRecDepth 100000 in
theorem X1{w0:World}{S:St}{s:Stk}{D:List Node}{ids:Nat→Int}{want:AtN}{t:Fnd}{rt:Rt}{o:OpN}{p:Str}(hL:di S s D ids)(hE:Ends s.tabs D want t){Q:AV→St→Prop}
  (hq:∀S',Sx S S'→Q (.agg ((Pt D ids o want).c .nil)) S'):AC w0 Ks [.agg s.c,.agg o.c,.agg (.str p::t.c rt)] S Q:=by
 have hc:s.c=[.vs 2 (s.l.map Mnt.c) s.r.strip,.int .i64 s.next]:=rfl;have hf:=hE.facts;have hlv:=hE;rw[hL.tabs] at hlv;rw[hc];unfold OpN.c;apply WD;unfold Oe;simp[←hc];unfold Pt at hq;cases hn:want.nodes with
 |nil=>
  rw[hn] at hf hq;obtain⟨rfl,h2⟩:=hf;have hD:=hE.empty hn;have hsl:s.l=[]:=by
   have:=hL.tabs;rw[hD] at this;unfold Stk.tabs at this;simpa using this
  have hat:s.at_ ((0:Nat):Int)=none:=by simp[Stk.at_,hsl]
  refine HL ?_;rw[hat];simp only at hq
  by_cases k1:o.kind=1
  ·simp[k1,AH] at hq ⊢;simpa[Bb.c] using hq S (Sx.refl _)
  by_cases k2:o.kind=2
  ·simp[k2,AH] at hq ⊢;simpa[Bb.c] using hq S (Sx.refl _)
  by_cases k3:o.kind=3
  ·simp[k3,AH] at hq ⊢;refine D9 ?_;simp[Bb.c,Ai];simpa[Bb.c,Ai] using hq S (Sx.refl _)
  by_cases k4:o.kind=4
  ·simp[k4,AH] at hq ⊢;refine D9 ?_;simp[Bb.c,Ai];simpa[Bb.c,Ai] using hq S (Sx.refl _)
  ·simp[k1,k2,k3,k4,AH] at hq ⊢;refine D9 ?_;simp[Bb.c,Ai];simpa[Bb.c,Ai] using hq S (Sx.refl _)
 |cons y l=>
  have hlev:=hlv.level (by rw[hn];simp)
  rw[hn] at hf hq;obtain⟨h1,h2,h3,h4,h5⟩:=hf;obtain⟨m,a1,a2,a3,a4⟩:=h2.at_;have hB:=hL.leads.on m a2;have hsz:(Bq m.tab (t.sp.2:Int)).size=y.size:=by rw[a3];rfl
  have htg:(Bq m.tab (t.sp.2:Int)).target=y.target:=by rw[a3];rfl
  have hex:(Bq m.tab (t.sp.2:Int)).exts=y.exts:=by rw[a3];rfl
  have hfit:q8 (Bq m.tab (t.sp.2:Int)):=by rw[a3];exact dK h3 h4 _
  have hid:ids t.sp.1=(m.num:Int):=by
   refine hL.ids t.sp.1 m ?_;have:=a1;unfold Stk.at_ at this;rw[if_neg (by omega)] at this
   simpa using this
  simp only[hlev,hid] at hq;refine HL ?_;rw[a1];simp[h1]
  by_cases k1:o.kind=1
  ·simp[k1,AH] at hq ⊢;refine gC ?_;rw[a1];simp;simpa[Bb.c] using hq S (Sx.refl _)
  by_cases k2:o.kind=2
  ·by_cases y2:y.kind=2
   ·simp[k2,y2,AH] at hq ⊢;simpa[Bb.c] using hq S (Sx.refl _)
   ·simp[k2,y2,AH] at hq ⊢;refine Yn hB ?_;rw[hsz];simp;simpa[Bb.c] using hq S (Sx.refl _)
  by_cases k3:o.kind=3
  ·by_cases y3:y.kind=3
   ·simp[k3,y3,AH] at hq ⊢;refine OI hB ?_;rw[htg];simp;simpa[Bb.c] using hq S (Sx.refl _)
   ·simp[k3,y3,AH] at hq ⊢;refine D9 ?_;simp[Bb.c,Ai];simpa[Bb.c,Ai] using hq S (Sx.refl _)
  by_cases k4:o.kind=4
  ·by_cases y2:y.kind=2
   ·simp[k4,y2,AH] at hq ⊢;refine D9 ?_;simp[Bb.c,Ai];simpa[Bb.c,Ai] using hq S (Sx.refl _)
   ·simp[k4,y2,AH] at hq ⊢;refine Y1 hB hfit (fun S2 hS2=>?_)
    rw[hsz,hex];simp;simpa[Bb.c] using hq S2 hS2
  ·simp[k1,k2,k3,k4,AH] at hq ⊢;refine D9 ?_;simp[Bb.c,Ai];simpa[Bb.c,Ai] using hq S (Sx.refl _)
set_option maxRecDepth 100000 in
theorem iU{w0:World}(hm:KI w0){S:St}{s:Stk}{D:List Node}{ids:Nat→Int}{o:OpN}(hL:di S s D ids)(hp:o.path.length≤1048576){Q:AV→St→Prop}
  (hq:∀S',Sx S S'→Q (.agg ((doR D ids o).c .nil)) S'):AC w0 RD [.agg s.c,.agg o.c] S Q:=by
 have hc:s.c=[.vs 2 (s.l.map Mnt.c) s.r.strip,.int .i64 s.next]:=rfl;have ho:o.c=[.int .i64 o.kind,.str o.path,.int .i64 o.off,.int .i64 o.n,.int .i64 o.id,.str o.image]:=rfl;rw[hc,ho];apply dq;unfold XH;unfold doR at hq;simp[←hc,←ho];refine iI ?_
 by_cases h1:isK o.kind=false
 ·rw[if_pos h1] at hq;rw[h1];simp;refine D9 ?_;simp[Bb.c,Ai];simpa[Bb.c,Ai] using hq S (Sx.refl _)
 ·rw[if_neg h1] at hq;have h1':isK o.kind=true:=by simpa using h1
  rw[h1'];simp;refine Qd ?_
  by_cases h2:Oj o=true
  ·rw[if_pos h2] at hq ⊢;simp;refine D9 ?_;simp[Bb.c,Ai];simpa[Bb.c,Ai] using hq S (Sx.refl _)
  ·rw[if_neg h2] at hq ⊢;simp;refine WT ?_;simp;refine Vv hm hL.leads hp (fun S2 hS2=>⟨fun he=>?_,fun he t r hE=>?_⟩)
   ·rw[if_pos he] at hq;simp[Fnd.c,Fnd.none,he];refine D9 ?_;simp[Bb.c,Ai];simpa[Bb.c,Ai] using hq S2 hS2
   ·rw[if_neg (by rw[he];simp)] at hq
    simp[Fnd.c];refine X1 (t:=t) (rt:=r.strip) (hL.mono hS2) hE (fun S3 hS3=>?_)
    simp[Bb.c];simpa[Bb.c] using hq S3 (hS2.trans hS3)
open Go.Proofs
theorem Going.ends{L:List (List CU)}{D:List Node}{want:AtN}:∀(n:Nat) {w:Wk} {h:Nat} {names:List Str},Going L D want w h names→w.todo.length+129*h≤n→want.err=0→∃t,Ends L D want t:=by
 intro n
 induction n with
 |zero=>
  intro w h names g hn he;have:w.todo=[]:=List.eq_nil_of_length_eq_zero (by omega)
  obtain⟨d,_,_,h3⟩:=g.end this;exact⟨_,h3⟩
 |succ n ih=>
  intro w h names g hn he;obtain⟨names',g'⟩:=g.pop;have hhd:w.pop.todo.head?≠some dd:=RG _ _;have hpl:w.pop.todo.length≤w.todo.length:=UZ _ _;generalize w.pop=w1 at g' hhd hpl;cases ht:w1.todo with
  |nil=>
   obtain⟨d,_,_,h3⟩:=g'.end ht;exact⟨_,h3⟩
  |cons s rest=>
   have hnd:s≠dd:=fun e=>hhd (by rw[ht,e];rfl)
   have hll:w1.todo.length=rest.length+1:=by rw[ht];rfl
   obtain⟨d,k1,k2,k3,k4,k5⟩:=g'.step (fr:=.none) (target:=match Dn (Dc D names') s with|y::_=>y.target|[]=>[]) ht hnd rfl (fun _ y l e=>by rw[e])
   generalize w1.tell (pathOf names') s rest (D7 L s (Er L names') Fnd.none) .none (decide ((D7 L s (Er L names') Fnd.none).kind≠0)) _=te at k5;obtain⟨w2,e⟩:=te;simp only at k5;obtain⟨k6,k7⟩:=k5
   by_cases e0:e=0
   ·rcases k7 e0 with ⟨h',nm2,g2,hc⟩|⟨gg,c1,c2,c3,c4⟩
    ·refine ih g2 ?_ he;rcases hc with ⟨c1,c2⟩|⟨c1,pp,c2,c3⟩
     ·rw[c1,c2];omega
     ·rw[c3,List.length_append];omega
    ·exact⟨gg,c2⟩
   ·exact absurd he (by rw[k6 e0];exact e0)
theorem Leads.ends{S:St}{s:Stk}{D:List Node}(hL:Leads S s D){path:Str}{fl:Bool}(he:(BP D path fl).err=0):∃t,Ends s.tabs D (BP D path fl) t:=by
 unfold BP at he ⊢;cases hsp:DP path with
 |none=>rw[hsp] at he;cases he
 |some l=>
  rw[hsp] at he;exact Going.ends (l.length+129*40) (w:=⟨l,[⟨[47],IZ s.tabs 0,.none⟩],fl,0,none⟩) (h:=40) (names:=[]) ⟨hL.start _,rfl,fun x hx=>Ry hsp x hx,rfl,rfl⟩ (Nat.le_refl _) he
open Go.Proofs
theorem kX{L:List (List CU)}{D:List Node}{ds:List Drx}{names:List Str}(hw:Je L D ds names){path:Str}(hp:DP path=some names)(fl:Bool):BP D path fl=⟨names,Dc D names,0⟩:=by
 unfold BP;rw[hp];simp only;rw[FV];have:=NJ (follow:=fl) (next:=XW D fl 40) [] names [] (ds:=ds) (by simpa using hw)
 rw[List.nil_append,List.append_nil] at this;rw[this,Ez]
theorem Ends.way{L:List (List CU)}{D:List Node}{want:AtN}{t:Fnd}(h:Ends L D want t)(hk:∀y l,want.nodes=y::l→y.kind=2):∃ds,Je L D ds want.names∧want.nodes=Dc D want.names:=by
 obtain⟨he,ds,names,hw,hc⟩:=h;rcases hc with ⟨h1,h2,h3⟩|⟨s,y,l,hs,h1,h2,h3,h4,h5⟩
 ·exact⟨ds,by rw[h1];exact hw,by rw[h1];exact h2⟩
 ·exact absurd (hk y l h4) h3
end Go.Av
