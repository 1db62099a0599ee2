/- Parts of the proofs of this seat: abstract values over the model, and what the functions of the program do. No condition. -/
import Derived.Test.YtehadbpejfjheaaGreatDoorD0
import Derived.Test.YtehadbpejfjheaaGreatDoorD1
import Derived.Test.YtehadbpejfjheaaGreatDoorX08d
import Derived.Test.YtehadbpejfjheaaGreatDoorY10
import Derived.Test.YtehadbpejfjheaaGreatDoorX04L
import Derived.Test.YtehadbpejfjheaaGreatDoorY06
import Derived.Test.YtehadbpejfjheaaGreatDoorX05M
import Derived.Test.YtehadbpejfjheaaGreatDoorX03
import Derived.Test.YtehadbpejfjheaaGreatDoorXBld
import Derived.Lib.ItoaNum
import Derived.Lib.AtoiAllCases
set_option linter.all false
set_option maxRecDepth 100000
namespace Go.Av
abbrev kL(n:Int):Prop:=-9223372036854775808≤n∧n≤9223372036854775807
structure OpN where
 kind:Int
 path:Str
 off:Int
 n:Int
 id:Int
 image:Str
 deriving DecidableEq
def OpN.zero:OpN:=⟨0,[],0,0,0,[]⟩
structure OpN.ok(o:OpN):Prop where
 kind:kL o.kind
 off:kL o.off
 n:kL o.n
 id:kL o.id
structure gT where
 err:Int:=0
 kind:Int:=0
 size:Int:=0
 where_:Int:=0
 id:Int:=0
 text:Str:=[]
 names:List Str:=[]
 end_:Bool:=false
def gT.c(x:gT)(r:Rt):List AV:=[.int .i64 x.err,.int .i64 x.kind,.int .i64 x.size,.int .i64 x.where_,.int .i64 x.id,.str x.text,.vs 1 (x.names.map Cw) r,.bool x.end_]
@[simp] theorem gT.c_len(x:gT)(r:Rt):(x.c r).length=8:=rfl
def me(e:Int):gT:={err:=e}
def OpN.c(o:OpN):List AV:=[.int .i64 o.kind,.str o.path,.int .i64 o.off,.int .i64 o.n,.int .i64 o.id,.str o.image]
@[simp] theorem OpN.c_len(o:OpN):o.c.length=6:=rfl
open Go.Proofs
theorem Ends.empty{L:List (List Cn)}{D:List Node}{want:AtN}{t:Fnd}(h:Ends L D want t)(hn:want.nodes=[]):D=[]:=by
 have hf:=h.facts;rw[hn] at hf;obtain⟨he,ds,names,hw,hc⟩:=h;rcases hc with ⟨h1,h2,h3⟩|⟨s,y,l,hs,h1,h2,h3,h4,h5⟩
 ·have h0:=hf.2;rw[h1] at h0;rw[hn,h0] at h2;cases D with
  |nil=>rfl
  |cons n l=>simp[Dw,EY] at h2
 ·rw[hn] at h4;cases h4
structure io(S:St)(s:Stk)(D:List Node)(ids:Nat→Int):Prop where
 leads:Leads S s D
 tabs:s.tabs=D.map fun n=>n.tab 0
 ids:∀k m,s.l[k]? =some m→ids k=(m.num:Int)
theorem io.mono{S S':St}{s:Stk}{D:List Node}{ids:Nat→Int}(h:io S s D ids)(k:Sx S S'):io S' s D ids:=⟨h.leads.mono k,h.tabs,h.ids⟩
open Go.Proofs
theorem Going.ends{L:List (List Cn)}{D:List Node}{want:AtN}:∀(n:Nat) {w:Wk} {h:Nat} {names:List Str},Going L D want w h names→w.todo.length+129*h≤n→want.err=0→∃t,Ends L D want t:=by
 intro n
 induction n with
 |zero=>
  intro w h names g hn he;have:w.todo=[]:=List.eq_nil_of_length_eq_zero (by omega)
  obtain⟨d,_,_,h3⟩:=g.end this;exact⟨_,h3⟩
 |succ n ih=>
  intro w h names g hn he;obtain⟨names',g'⟩:=g.pop;have hhd:w.pop.todo.head?≠some dd:=QW _ _;have hpl:w.pop.todo.length≤w.todo.length:=Tb _ _;generalize w.pop=w1 at g' hhd hpl;cases ht:w1.todo with
  |nil=>
   obtain⟨d,_,_,h3⟩:=g'.end ht;exact⟨_,h3⟩
  |cons s rest=>
   have hnd:s≠dd:=fun e=>hhd (by rw[ht,e];rfl)
   have hll:w1.todo.length=rest.length+1:=by rw[ht];rfl
   obtain⟨d,k1,k2,k3,k4,k5⟩:=g'.step (fr:=.none) (target:=match Do (Dw D names') s with|y::_=>y.target|[]=>[]) ht hnd rfl (fun _ y l e=>by rw[e])
   generalize w1.tell (pathOf names') s rest (Ej L s (FR L names') Fnd.none) .none (decide ((Ej L s (FR L names') Fnd.none).kind≠0)) _=te at k5;obtain⟨w2,e⟩:=te;simp only at k5;obtain⟨k6,k7⟩:=k5
   by_cases e0:e=0
   ·rcases k7 e0 with ⟨h',nm2,g2,hc⟩|⟨gg,c1,c2,c3,c4⟩
    ·refine ih g2 ?_ he;rcases hc with ⟨c1,c2⟩|⟨c1,pp,c2,c3⟩
     ·rw[c1,c2];omega
     ·rw[c3,List.length_append];omega
    ·exact⟨gg,c2⟩
   ·exact absurd he (by rw[k6 e0];exact e0)
theorem Leads.ends{S:St}{s:Stk}{D:List Node}(hL:Leads S s D){path:Str}{fl:Bool}(he:(DV D path fl).err=0):∃t,Ends s.tabs D (DV D path fl) t:=by
 unfold DV at he ⊢;cases hsp:D4 path with
 |none=>rw[hsp] at he;cases he
 |some l=>
  rw[hsp] at he;exact Going.ends (l.length+129*40) (w:=⟨l,[⟨[47],Ii s.tabs 0,.none⟩],fl,0,none⟩) (h:=40) (names:=[]) ⟨hL.start _,rfl,fun x hx=>RG hsp x hx,rfl,rfl⟩ (Nat.le_refl _) he
open Go.Proofs
theorem Ends.way{L:List (List Cn)}{D:List Node}{want:AtN}{t:Fnd}(h:Ends L D want t)(hk:∀y l,want.nodes=y::l→y.kind=2):∃ds,LG L D ds want.names∧want.nodes=Dw D want.names:=by
 obtain⟨he,ds,names,hw,hc⟩:=h;rcases hc with ⟨h1,h2,h3⟩|⟨s,y,l,hs,h1,h2,h3,h4,h5⟩
 ·exact⟨ds,by rw[h1];exact hw,by rw[h1];exact h2⟩
 ·exact absurd (hk y l h4) h3
end Go.Av
