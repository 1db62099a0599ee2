/- Parts of the proofs of this seat: abstract values over the model, and what the functions of the program do. No condition. -/
import Derived.Test.YtgilicomkelmdaaGreatDoorY05e
set_option linter.all false
set_option maxRecDepth 100000
namespace Go.Av
mutual
def Node.canB:Node→Bool
 | .mk _ _ ns its ir _ es er _=>decide (ns.r=cr ns.l)&&(decide (ir=cr its)&&(decide (er=cr es)&&Node.cansB its))
def Node.cansB:List Node→Bool
 |[]=>true
 |n::l=>n.canB&&Node.cansB l
end
theorem Node.can_eq(n:Node):n.canB=(decide (n.names.r=cr n.names.l)&&(decide (n.ir=cr n.items)&&(decide (n.er=cr n.exts)&&Node.cansB n.items))):=by
 cases n;rw[Node.canB];rfl
@[simp] theorem Node.cans_nil:Node.cansB []=true:=by rw[Node.cansB]
@[simp] theorem Node.cans_cons(n:Node)(l:List Node):Node.cansB (n::l)=(n.canB&&Node.cansB l):=by rw[Node.cansB]
theorem jZ(a:Node):∀b:Node,a.canB=true→b.canB=true→a.sameB b=true→a=b:=by
 induction a using Node.ind with
 |h a ih=>
  intro b ha hb h;rw[Node.can_eq] at ha hb;rw[Node.same_eq] at h;simp only[Bool.and_eq_true,decide_eq_true_eq] at ha hb h;obtain⟨a1,a2,a3,a4⟩:=ha;obtain⟨b1,b2,b3,b4⟩:=hb;obtain⟨h1,h2,h3,h4,h5,h6,h7⟩:=h;have hl:∀l m:List Node,(∀x∈l,∀b:Node,x.canB=true→b.canB=true→x.sameB b=true→x=b)→Node.cansB l=true→Node.cansB m=true→Node.samesB l m=true→l=m:=by
   intro l
   induction l with
   |nil=>intro m _ _ _ hs;simp at hs;exact hs.symm
   |cons x l ihl=>
    intro m hx hc hd hs;cases m with
    |nil=>simp at hs
    |cons y m=>
     simp only[Node.cans_cons,Node.sames_cons,Bool.and_eq_true] at hc hd hs;rw[hx x (by simp) y hc.1 hd.1 hs.1,ihl m (fun z hz=>hx z (by simp[hz])) hc.2 hd.2 hs.2]
  have hit:=hl a.items b.items ih a4 b4 h7;obtain⟨k,o,ns,its,ir,sz,es,er,t⟩:=a;obtain⟨k',o',ns',its',ir',sz',es',er',t'⟩:=b;obtain⟨nl,nr⟩:=ns;obtain⟨nl',nr'⟩:=ns';simp only[Node.kind_mk,Node.opq_mk,Node.names_mk,Node.items_mk,Node.ir_mk,Node.size_mk,Node.exts_mk,Node.er_mk,Node.target_mk] at*;subst h1 h2 h3 h4 h5 h6 hit;subst a1 a2 a3 b1 b2 b3;rfl
theorem RS.items_can{rd:RS→Node×RS}(hrd:∀st,(rd st).1.canB=true):∀(c:Nat) (st:RS),Node.cansB (RS.items rd c st).2.1=true
 |0,st=>by rw[RS.items];simp
 |c+1,st=>by
  rw[RS.items];split
  ·simp
  ·simp[hrd,RS.items_can hrd c]
theorem RS.node_can:∀(f:Nat) (st:RS),(RS.node f st).1.canB=true
 |0,st=>by rw[RS.node];rfl
 |f+1,st=>by
  rw[RS.node];split
  ·rfl
  ·dsimp only;split
   ·simp[Node.can_eq,cr]
   ·split
    ·simp[Node.can_eq,cr,RS.items_can (RS.node_can f)]
    ·split
     ·simp[Node.can_eq,cr]
     ·simp[Node.can_eq,cr]
theorem aG{rd:Str→Option (Node×Str)}(hrd:∀s n r,rd s=some (n,r)→n.canB=true):∀{c:Nat} {s r:Str} {ss:List Str} {l:List Node},J6 rd c s=some (ss,l,r)→Node.cansB l=true
 |0,s,r,ss,l,h=>by rw[J6] at h;cases h;simp
 |c+1,s,r,ss,l,h=>by
  rw[J6] at h;obtain⟨⟨a,s1⟩,h1,h⟩:=Option.bind_eq_some_iff.1 h;obtain⟨⟨b,s2⟩,h2,h⟩:=Option.bind_eq_some_iff.1 h;obtain⟨⟨ss',l',s3⟩,h3,h⟩:=Option.bind_eq_some_iff.1 h;cases h;simp[hrd _ _ _ h2,aG hrd h3]
theorem aM:∀(f:Nat) (s:Str) (n:Node) (r:Str),Fy f s=some (n,r)→n.canB=true
 |0,s,n,r,h=>by rw[Fy] at h;cases h
 |f+1,s,n,r,h=>by
  rw[Fy] at h;obtain⟨⟨k,s1⟩,h1,h⟩:=Option.bind_eq_some_iff.1 h;simp only at h;split at h
  ·obtain⟨⟨b,s2⟩,h2,h⟩:=Option.bind_eq_some_iff.1 h;obtain⟨⟨c,s3⟩,h3,h⟩:=Option.bind_eq_some_iff.1 h;obtain⟨⟨e,s4⟩,h4,h⟩:=Option.bind_eq_some_iff.1 h;cases h;simp[Node.can_eq,cr]
  ·split at h
   ·obtain⟨⟨b,s2⟩,h2,h⟩:=Option.bind_eq_some_iff.1 h;obtain⟨⟨c,s3⟩,h3,h⟩:=Option.bind_eq_some_iff.1 h;simp only at h;split at h
    ·cases h
    obtain⟨⟨ss,l,s4⟩,h4,h⟩:=Option.bind_eq_some_iff.1 h;cases h;simp[Node.can_eq,cr,aG (aM f) h4]
   ·split at h
    ·obtain⟨⟨b,s2⟩,h2,h⟩:=Option.bind_eq_some_iff.1 h;cases h;simp[Node.can_eq,cr]
    ·split at h
     ·cases h;simp[Node.can_eq,cr]
     ·cases h
theorem iw{s:Str}{n:Node}(h:IE s=some n):n.canB=true:=by
 unfold IE at h;split at h
 ·cases h
 ·simp only at h;split at h
  ·cases h;exact RS.node_can _ _
  ·cases h
theorem ji{s:Str}{n:Node}(h:Lc s=some n):n.canB=true:=by
 unfold Lc at h;split at h
 ·cases h
 ·split at h
  ·rename_i hg;split at h
   ·cases h;exact aM _ _ _ _ hg
   ·cases h
  ·cases h
theorem eD{s:Str}{n:Node}(hs:s.length≤1048575)(h:IE s=some n):n.ok:=by
 unfold IE at h;split at h
 ·cases h
 ·simp only at h;split at h
  ·cases h;exact(RS.node_ok 16 ⟨s.drop 7,false,4096⟩ (by simp;omega) (by simp)).ok
  ·cases h
theorem kQ{s:Str}{n:Node}(hs:s.length≤1048575)(h:Lc s=some n):n.ok:=by
 unfold Lc at h;split at h
 ·cases h
 ·split at h
  ·rename_i hg;split at h
   ·cases h;exact(d9 _ _ _ _ (by simp;omega) hg).1
   ·cases h
  ·cases h
theorem mC{s:Str}(hs:s.length≤1048575):Lc s=IE s:=by
 cases h:IE s with
 |some n=>
  obtain⟨h1,h2,h3⟩:=Ru h;obtain⟨n',e1,e2⟩:=jR (eD hs h) h2 (by have:=congrArg List.length h1;simp[Is] at this;omega)
  rw[←h1] at e1;rw[e1,jZ _ _ (ji e1) (iw h) e2]
 |none=>
  cases k:Lc s with
  |none=>rfl
  |some n=>
   obtain⟨h1,h2,h3⟩:=eo k;obtain⟨n',e1,e2⟩:=jH (kQ hs k) h2 (by have:=congrArg List.length h1;simp[Is] at this;omega)
   rw[←h1,h] at e1;cases e1
end Go.Av
