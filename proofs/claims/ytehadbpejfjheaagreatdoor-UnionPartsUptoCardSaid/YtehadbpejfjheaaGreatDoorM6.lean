/- Parts of the proofs of this seat: abstract values over the model, and what the functions of the program do. No condition. -/
import Derived.Test.YtehadbpejfjheaaGreatDoorM5
import Derived.Laws.StructEq
set_option linter.all false
set_option maxRecDepth 100000
namespace Go.Av
def Em(o:Oper):Oper:={o with op:=.ready 0}
section defs
variable (C:Ctx) (Ca:Nat→List AV→St→(AV→St→Prop)→Prop) (f:Nat) (ops:Array Oper)
def dK(C:Ctx):List Nat→Bool
 |t::_=>(match (C.ty t).kind with| .slice e=>(match (C.ty e).kind with| .ptr _=>C.byref e|_=>false)|_=>false)
 |[]=>false
def JI(d:Option Nat):Bool:=
 match (match d with|some d=>C.tk f d|none=>false) with
 |true=>true
 |false=>match d with
  |none=>false
  |some d=>ops.toList.any fun o=>match o.op with
   | .call {callee:=.builtin .append,args:=as,argTypes:=ts,..}=>(match as.toList with| .tmp x::_=>(match dK C ts.toList with|true=>false|false=>Nat.beq x d)|_=>false)
   |_=>false
def L9(B:List Oper)(o:Oper):Bool:=
 match addrOf o.op with
 |some x=>(resolve C f B x).isSome==(F9 C f ops.toList x).isSome
 |none=>true
def FU(B:List Oper)(o:Oper)(K:List Oper→Fr→St→Prop)(fr:Fr)(S:St):Prop:=
 match Mf C f o&&L9 C f ops B o with
 |true=>opW C Ca f B (JI C f ops o.dst) o fr S (K (o::B))
 |false=>False
def Di(B:List Oper)(o:Oper)(K:List Oper→Fr→St→Prop)(fr:Fr)(S:St):Prop:=K ({o with op:=.ready 0}::B) (fr.skip C f o.dst) S
def C9(B:List Oper)(o:Oper)(K:List Oper→Fr→St→Prop)(fr:Fr)(S:St):Prop:=
 match o.guard with
 |none=>FU C Ca f ops B o K fr S
 |some (j,want)=>match want with
  |true=>gG ((ops[j]?).bind (·.guard)) (CN ops fr j) (FU C Ca f ops B o K fr S) (Di C f B o K fr S) (Di C f B o K fr S)
  |false=>gG ((ops[j]?).bind (·.guard)) (CN ops fr j) (Di C f B o K fr S) (FU C Ca f ops B o K fr S) (Di C f B o K fr S)
def VD(K:Fr→St→Prop):Nat→Array Bool→List Oper→Fr→St→Prop
 |0,listed,B,fr,S=>Region.ready .any ops listed=[]∧K fr S
 |n+1,listed,B,fr,S=>(Region.ready .any ops listed=[]→K fr S)∧
  ∀i∈Region.ready .any ops listed,∀o,ops[i]? =some o→C9 C Ca f ops B o (VD K n (listed.setIfInBounds i true)) fr S
def stable(o:Oper)(B:List Oper)(fr:Fr)(S:St):Prop:=C9 C Ca f ops B o (fun _ fr' S'=>fr'=fr∧S'=S) fr S
def SW(o:Oper):List Nat:=Al C (JI C f ops o.dst) o
def SB(o:Oper):List Nat:=o.dst.toList++match o.op with
 | .store _ x _=>(F9 C f ops.toList x).toList
 | .load _ x=>(match JI C f ops o.dst with|true=>(F9 C f ops.toList x).toList|false=>[])
 |_=>[]
def RV(o:Oper):List Nat:=o.op.operands.toList.flatMap BL++match o.guard with|some (j,_)=>((ops[j]?).bind (·.dst)).toList|none=>[]
def RB(o:Oper):List Nat:=o.op.operands.toList.filterMap (F9 C f ops.toList)
def disj(a b:List Nat):Bool:=a.all fun t=>!b.elem t
def dD(o:Oper):Bool:=isD C f ops.toList (JI C f ops o.dst) o
def rS(o:Oper):Bool:=Hc C f ops.toList o
def apart(x i:Oper):Bool:=
 disj (SW C f ops x) (RV ops i)&&disj (SW C f ops x) (SW C f ops i)&&disj (SB C f ops x) (RB C f ops i)&&disj (SB C f ops x) (SB C f ops i)&&disj (SW C f ops i) (RV ops x)&&disj (SB C f ops i) (RB C f ops x)
def quiet(x y:Oper):Bool:=disj (SW C f ops x) (RV ops y)&&disj (SW C f ops x) y.dst.toList&&disj (SB C f ops x) (RB C f ops y)&&disj (SB C f ops x) y.dst.toList
def SJ(x i:Oper):Bool:=
 match x.guard,i.guard,x.op,i.op,x.dst,i.dst with
 |none,none,.extract (.tmp t) a,.extract (.tmp u) b,some d,some e=>Nat.beq t u&&!(Nat.beq a b)&&!(Nat.beq d e)&&!(Nat.beq d t)&&!(Nat.beq e t)&&!(C.loc f d)&&!(C.loc f e)
 |_,_,_,_,_,_=>false
def watchable(x:Oper):Bool:=
 (match x.op with
 | .load _ _=>!(JI C f ops x.dst)
 | .lookup _ _ _ _| .binOp _ _ _ _ _=>true
 | .convert _ _ _=>true
 | .call {callee:=.builtin .len,..}=>true
 |_=>false)&&disj x.dst.toList (RV ops x)&&disj (SB C f ops x) (RB C f ops x)&&(x.dst.toList.all fun d=>!(C.loc f d))&&x.dst.isSome
def II(x i:Oper):Bool:=dD C f ops x&&((apart C f ops x i&&(!(rS C f ops x&&!(dD C f ops i))||watchable C f ops x))||SJ C f x i)
def H6(T:List Nat):List Edge→Nat
 |[]=>0
 |e::es=>(match Region.binds .any e with|true=>(1 <<< e.on)|||T.getD e.on 0|false=>0)|||H6 T es
def mkT:List Oper→List Nat→List Nat
 |[],T=>T
 |o::l,T=>mkT l (T++[H6 T o.after.toList])
def aV(x:Oper)(i:Nat):Bool:=x.after.toList.any fun e=>Region.binds .any e&&Nat.beq e.on i
def need(T:List Nat)(y i:Nat):Bool:=
 match ops[y]?,ops[i]? with
 |some oy,some oi=>rS C f ops oy&&!(dD C f ops oi)&&!(Nat.testBit (T.getD i 0) y)
 |_,_=>false
def MO(T:List Nat)(x i:Nat):Bool:=
 match ops[x]?,ops[i]? with
 |some ox,some oi=>(Nat.testBit (T.getD i 0) x||II C f ops ox oi)&&!(aV ox i)
 |_,_=>false
def Kt(T:List Nat)(y:Nat):List Nat→Bool
 |[]=>true
 |x::l=>(match ops[x]?,ops[y]? with
  |some ox,some oy=>!(dD C f ops ox)||!(l.any (need C f ops T y))||quiet C f ops ox oy
  |_,_=>false)&&Kt T y l
def NF(T:List Nat):List Nat→Bool
 |[]=>true
 |y::l=>l.all (MO C f ops T y)&&Kt C f ops T y l&&NF T l
def Lo(B:List Oper)(fr:Fr)(S:St)(P:Prop):List Oper→Prop
 |[]=>P
 |y::l=>stable C Ca f ops y B fr S∧Lo B fr S P l
def pick(l:List Nat):List Oper:=l.filterMap fun i=>ops[i]?
def DT(o:Oper)(i:Nat)(seen:List Nat):List Nat:=match rS C f ops o with|true=>i::seen|false=>seen
def EE(T:List Nat)(K:Fr→St→Prop):List Nat→List Nat→List Oper→Fr→St→Prop
 |_,[],_,fr,S=>K fr S
 |seen,i::l,B,fr,S=>match ops[i]? with
  |some o=>C9 C Ca f ops B o (fun B' fr' S'=>Lo C Ca f ops B' fr' S' (EE T K (DT C f ops o i seen) l B' fr' S') (pick ops (seen.filter fun y=>need C f ops T y i))) fr S
  |none=>False
end defs
section res
variable {C:Ctx} {f:Nat}
theorem KI{r r':Nat→Option (Nat×Nat)}{op:Op}(h:∀y,(Operand.tmp y)∈op.operands.toList→r y=r' y):BF C r op=BF C r' op:=by
 unfold BF;split
 ·rename_i t y i;rw[h y (by simp[Op.operands])]
 ·rename_i t y k i;rw[h y (by simp[Op.operands])]
 ·rename_i y;exact h y (by simp[Op.operands])
 ·rename_i y;exact h y (by simp[Op.operands])
 ·rfl
def filt(n:Oper)(r:Option (Nat×Nat)):Option (Nat×Nat):=match r with
 |some (b,off)=>match C6 n b with|true=>none|false=>some (b,off)
 |none=>none
theorem QJ(n:Oper){r:Nat→Option (Nat×Nat)}{op:Op}:BF C (fun y=>filt n (r y)) op=filt n (BF C r op):=by
 unfold BF;split
 ·rename_i t y i;cases hr:r y with
  |none=>simp[filt,hr]
  |some p=>
   obtain⟨b,off⟩:=p;cases hd:C6 n b<;>cases hf:KB C t i<;>simp[filt,hr,hd]
 ·rename_i t y k k';cases hr:r y with
  |none=>simp[filt,hr]
  |some p=>
   obtain⟨b,off⟩:=p;cases hk:(C.ty t).kind with
   |array n' e'=>
    simp only[filt,hr];cases hd:C6 n b<;>simp only[hd]
    all_goals generalize decide (0≤k'∧k' < (n':Int))=q
    all_goals cases q<;>simp[hd]
   |_=>cases hd:C6 n b<;>simp[filt,hr,hd]
 ·rfl
 ·rfl
 ·rfl
theorem CG{o:Oper}{l:List Oper}{x:Nat}(hx:C.loc f x=false):AD C f x (o::l)=match C6 o x with|true=>BF C (fun y=>AD C f y l) o.op|false=>filt o (AD C f x l):=by
 simp only[AD,hx];cases C6 o x with
 |true=>rfl
 |false=>
  cases AD C f x l with
  |none=>rfl
  |some p=>rfl
theorem CJ{l:List Oper}{x:Nat}(hx:C.loc f x=true):AD C f x l=some (x,0):=by
 cases l<;>simp[AD,hx]
theorem Gy{n:Oper}{l:List Oper}{x:Nat}(hx:C6 n x=false):AD C f x (n::l)=filt n (AD C f x l):=by
 cases hl:C.loc f x with
 |true=>rw[CJ hl,CJ hl];simp[filt,hx]
 |false=>rw[CG hl,hx]
theorem GZ{o:Oper}{x:Nat}:C6 o x=false↔o.dst≠some x:=by
 unfold C6;cases hd:o.dst with
 |none=>simp
 |some d=>
  cases hb:Nat.beq d x with
  |true=>simp[Nat.eq_of_beq_eq_true hb]
  |false=>simp[hb,Nat.ne_of_beq_eq_false hb]
theorem Oz{m n:Oper}{l:List Oper}(h1:∀d,m.dst=some d→n.dst≠some d)(h2:∀y,(Operand.tmp y)∈m.op.operands.toList→n.dst≠some y)(h3:∀y,(Operand.tmp y)∈n.op.operands.toList→m.dst≠some y)(x:Nat):
  AD C f x (m::n::l)=AD C f x (n::m::l):=by
 cases hl:C.loc f x with
 |true=>rw[CJ hl,CJ hl]
 |false=>
  have k1:∀y,(Operand.tmp y)∈m.op.operands.toList→AD C f y (n::l)=filt n (AD C f y l):=fun y hy=>Gy (GZ.2 (h2 y hy))
  have k2:∀y,(Operand.tmp y)∈n.op.operands.toList→AD C f y (m::l)=filt m (AD C f y l):=fun y hy=>Gy (GZ.2 (h3 y hy))
  rw[CG hl,CG hl,CG hl,CG hl];cases hm:C6 m x with
  |true=>
   have hm':=(Ej.1 hm);have hn:C6 n x=false:=GZ.2 (h1 x hm');simp only[hn];rw[KI (r':=fun y=>filt n (AD C f y l)) k1,QJ]
  |false=>
   cases hn:C6 n x with
   |true=>
    simp only;rw[KI (op:=n.op) (r':=fun y=>filt m (AD C f y l)) k2,QJ]
   |false=>
    simp only;cases AD C f x l with
    |none=>rfl
    |some p=>
     obtain⟨b,off⟩:=p;simp only[filt];cases hmb:C6 m b<;>cases hnb:C6 n b<;>simp[hmb,hnb]
theorem Ov{o:Oper}{l l':List Oper}(h:∀y,AD C f y l=AD C f y l')(x:Nat):AD C f x (o::l)=AD C f x (o::l'):=by
 cases hl:C.loc f x with
 |true=>rw[CJ hl,CJ hl]
 |false=>rw[CG hl,CG hl,h x,KI fun y _=>h y]
theorem Nr{m m':Oper}{l:List Oper}(hd:m.dst=m'.dst)(h1:∀r,BF C r m.op=none)(h2:∀r,BF C r m'.op=none)(x:Nat):AD C f x (m::l)=AD C f x (m'::l):=by
 have hde:∀y,C6 m y=C6 m' y:=fun y=>by unfold C6;rw[hd]
 cases hl:C.loc f x with
 |true=>rw[CJ hl,CJ hl]
 |false=>
  rw[CG hl,CG hl,hde,h1,h2];cases C6 m' x with
  |true=>rfl
  |false=>simp only[filt,hde]
structure In(all B:List Oper):Prop where
 mem:∀m∈B,∃o∈all,m=o∨m=Em o
 len:B.length≤all.length
def ssa(all:List Oper):Prop:=∀o∈all,∀o'∈all,∀d,o.dst=some d→o'.dst=some d→o=o'
theorem Ip{all:List Oper}(hs:ssa all):∀{B:List Oper} {n x b off:Nat},(∀m∈B,∃o∈all,m=o∨m=Em o)→B.length≤n→AD C f x B=some (b,off)→sroot C f all n x=some b
 |[],n,x,b,off,_,_,h=>by
  simp only[AD] at h;split at h
  ·rename_i hl;cases h;cases n<;>simp[sroot,hl]
  ·cases h
 |m::B,n,x,b,off,hB,hn,h=>by
  obtain⟨n,rfl⟩:∃k,n=k+1:=⟨n - 1,by simp at hn;omega⟩
  have hB':=fun m' h'=>hB m' (List.mem_cons_of_mem _ h')
  have hn':B.length≤n:=by simp at hn;omega
  cases hl:C.loc f x with
  |true=>rw[CJ hl] at h;cases h;simp[sroot,hl]
  |false=>
   rw[CG hl] at h;cases hd:C6 m x with
   |true=>
    rw[hd] at h;simp only at h;obtain⟨o,ho,hm⟩:=hB m (by simp)
    have hod:o.dst=some x:=by
     have:=Ej.1 hd;rcases hm with rfl|rfl
     ·exact this
     ·exact this
    have hmo:m=o:=by
     rcases hm with hm|hm
     ·exact hm
     ·rw[hm] at h;simp[Em,BF] at h
    subst hmo;have hf:all.find? (fun o=>C6 o x)=some m:=by
     cases hf:all.find? (fun o=>C6 o x) with
     |none=>
      have:=List.find?_eq_none.1 hf m ho;rw[hd] at this;simp at this
     |some o'=>
      have h1:=List.find?_some hf;have h2:=List.mem_of_find?_eq_some hf;rw[hs m ho o' h2 x hod (Ej.1 h1)]
    simp only[sroot,hl,hf];unfold BF at h;split at h
    ·rename_i t y i hop;split at h
     ·rename_i b' off' fo h1 h2;cases h;rw[hop];exact Ip hs hB' hn' h1
     ·cases h
    ·rename_i t y k i hop;split at h
     ·rename_i b' off' n' e h1 h2;rw[hop];split at h
      ·cases h;exact Ip hs hB' hn' h1
      ·cases h
     ·cases h
    ·rename_i y hop;rw[hop];exact Ip hs hB' hn' h
    ·rename_i y hop;rw[hop];exact Ip hs hB' hn' h
    ·cases h
   |false=>
    rw[hd] at h;simp only[filt] at h;cases hr:AD C f x B with
    |none=>rw[hr] at h;cases h
    |some p=>
     rw[hr] at h;obtain⟨b',off'⟩:=p;simp only at h;split at h
     ·cases h
     ·cases h;exact Ip hs hB' (by omega) hr
theorem GK{all B:List Oper}(hs:ssa all)(hB:In all B){x:Operand}{b off:Nat}(h:resolve C f B x=some (b,off)):F9 C f all x=some b:=by
 cases x with
 |tmp y=>exact Ip hs hB.mem hB.len h
 |_=>simp[resolve] at h
end res
section one
variable {C:Ctx} {Ca:Nat→List AV→St→(AV→St→Prop)→Prop} {f:Nat} {ops:Array Oper} {fr g:Fr} {S:St} {U UB:List Nat} {K K':List Oper→Fr→St→Prop} {B B2:List Oper} {o:Oper}
theorem Mn(h:∀x∈o.op.operands.toList,resolve C f B2 x=resolve C f B x):L9 C f ops B2 o=L9 C f ops B o:=by
 unfold L9 addrOf;split
 ·rename_i x hx;split at hx
  ·rename_i ho;cases hx;rw[h x (by rw[ho];simp[Op.operands])]
  ·rename_i ho;cases hx;rw[h x (by rw[ho];simp[Op.operands])]
  ·cases hx
 ·rfl
theorem U5{d:Option Nat}(h:∀t,d=some t→t ∉ U∧t ∉ UB):(graft U UB g fr).skip C f d=graft U UB g (fr.skip C f d):=by
 unfold Fr.skip;cases d with
 |none=>rfl
 |some t=>
  obtain⟨h1,h2⟩:=h t rfl;simp only;split
  ·rw[Hq h2,F5 h1]
  ·rw[F5 h1]
theorem QX(hR:∀t∈RV ops o,t ∉ U)(hB:∀x∈o.op.operands.toList,∀b off,resolve C f B x=some (b,off)→b ∉ UB)(hd:∀d,o.dst=some d→d ∉ U∧d ∉ UB)
  (hres:∀x∈o.op.operands.toList,resolve C f B2 x=resolve C f B x)
  (h:C9 C Ca f ops B o (fun B' fr' S'=>∀m,B'=m::B→K (m::B2) (graft U UB g fr') S') fr S):C9 C Ca f ops B2 o K (graft U UB g fr) S:=by
 have hR1:∀x∈o.op.operands.toList,∀t∈BL x,t ∉ U:=fun x hx t ht=>hR t (by unfold RV;exact List.mem_append_left _ (List.mem_flatMap.2 ⟨x,hx,ht⟩))
 have run:FU C Ca f ops B o (fun B' fr' S'=>∀m,B'=m::B→K (m::B2) (graft U UB g fr') S') fr S→FU C Ca f ops B2 o K (graft U UB g fr) S:=by
  intro h;unfold FU at h ⊢;rw[Mn hres];split at h
  ·exact Wv hR1 hB hd hres (by
    have:(fun (fr':Fr) (S':St)=>∀m,o::B=m::B→K (m::B2) (graft U UB g fr') S')=fun fr' S'=>K (o::B2) (graft U UB g fr') S':=by
     funext fr' S';exact propext ⟨fun hh=>hh o rfl,fun hh m e=>by cases e;exact hh⟩
    have h':opW C Ca f B (JI C f ops o.dst) o fr S (fun (fr':Fr) (S':St)=>∀m,o::B=m::B→K (m::B2) (graft U UB g fr') S'):=h
    rw[this] at h';exact h')
  ·exact h
 have skip:Di C f B o (fun B' fr' S'=>∀m,B'=m::B→K (m::B2) (graft U UB g fr') S') fr S→Di C f B2 o K (graft U UB g fr) S:=by
  intro h;unfold Di at h ⊢;rw[U5 hd];exact h _ rfl
 unfold C9 at h ⊢;cases hg:o.guard with
 |none=>rw[hg] at h;exact run h
 |some p=>
  obtain⟨j,want⟩:=p;rw[hg] at h;have hy:CN ops (graft U UB g fr) j=CN ops fr j:=by
   unfold CN;cases hq:(ops[j]?).bind (·.dst) with
   |none=>rfl
   |some d=>exact Fi (hR d (by unfold RV;rw[hg];simp[hq]))
  simp only[hy];cases want with
  |true=>exact H7 h run skip skip
  |false=>exact H7 h skip run skip
theorem Rz{g fr:Fr}:graft [] [] g fr=fr:=by cases fr;simp[graft]
end one
theorem Mb{a b:List Nat}:disj a b=true↔∀t∈a,t ∉ b:=by
 unfold disj;simp[List.all_eq_true]
section
variable {C:Ctx} {Ca:Nat→List AV→St→(AV→St→Prop)→Prop} {f:Nat} {ops:Array Oper} {fr g:Fr} {S:St} {K K':List Oper→Fr→St→Prop} {B B2:List Oper} {o:Oper}
def Mark(o m:Oper):Prop:=m=o∨m=Em o
theorem Mark.dst{o m:Oper}(h:Mark o m):m.dst=o.dst:=by rcases h with rfl|rfl<;>rfl
theorem Mark.operands{o m:Oper}(h:Mark o m):∀x∈m.op.operands.toList,x∈o.op.operands.toList:=by
 rcases h with rfl|rfl
 ·exact fun x h=>h
 ·intro x h;simp[Em,Op.operands] at h
theorem ZQ(hs:ssa ops.toList)(hB:In ops.toList B){b:Nat}(h:bu C f (JI C f ops o.dst) o B b):b∈SB C f ops o:=by
 unfold SB;rcases h with ⟨h1,h2⟩|h
 ·rw[h1];simp
 ·refine List.mem_append_right _ ?_;split at h
  ·rename_i t x y ho;obtain⟨off,h⟩:=h;rw[ho];simp[GK hs hB h]
  ·rename_i t x ho;obtain⟨h0,off,h⟩:=h;rw[ho];simp[h0,GK hs hB h]
  ·exact h.elim
theorem YW{tk:Bool}{b:Nat}(h:bu C f tk o B b):C.loc f b=true:=by
 rcases h with ⟨h1,h2⟩|h
 ·exact h2
 ·split at h
  ·rename_i t x y ho;obtain⟨off,h⟩:=h;cases x with
   |tmp z=>exact Cs h
   |_=>simp[resolve] at h
  ·rename_i t x ho;obtain⟨h0,off,h⟩:=h;cases x with
   |tmp z=>exact Cs h
   |_=>simp[resolve] at h
  ·exact h.elim
theorem Vd(hs:ssa ops.toList)(hB:In ops.toList B)(hn:dD C f ops o=false)(ha:L9 C f ops B o=true){b:Nat}(h:b∈DB C f B o):b∈SB C f ops o:=by
 unfold DB at h;unfold SB;split at h
 ·exact List.mem_append_left _ h
 ·exact List.mem_append_left _ h
 ·rename_i t x y ho;rcases List.mem_append.1 h with h|h
  ·exact List.mem_append_left _ (List.mem_filter.1 h).1
  ·refine List.mem_append_right _ ?_;split at h
   ·rename_i b' off hr;rw[ho];simpa[GK hs hB hr] using h
   ·cases h
 ·rename_i t x ho;rcases List.mem_append.1 h with h|h
  ·exact List.mem_append_left _ (List.mem_filter.1 h).1
  ·refine List.mem_append_right _ ?_;split at h
   ·rename_i b' off hr;unfold dD isD at hn;rw[ho] at hn;simp[GK hs hB hr] at hn
   ·cases h
 ·exact List.mem_append_left _ (List.mem_filter.1 h).1
theorem Kf(hs:ssa ops.toList)(hB:In ops.toList B)(hD:dD C f ops o=true)(h:C9 C Ca f ops B o K fr S):
  ∃m L LB,Mark o m∧(∀p∈L,p.1∈SW C f ops o)∧(∀d,o.dst=some d→d∈L.map (·.1))∧(∀p∈LB,p.1∈SB C f ops o∧C.loc f p.1=true)∧K (m::B) (upd L LB fr) S∧
   ∀B2 fr2 S2 K2,(∀t∈RV ops o,fr2.v t=fr.v t)→(∀b∈RB C f ops o,fr2.b b=fr.b b)→(∀x∈o.op.operands.toList,resolve C f B2 x=resolve C f B x)→(rS C f ops o=true→S2=S)→
    K2 (m::B2) (upd L LB fr2) S2→C9 C Ca f ops B2 o K2 fr2 S2:=by
 have hRV:∀{fr2:Fr},(∀t∈RV ops o,fr2.v t=fr.v t)→∀x∈o.op.operands.toList,∀t∈BL x,fr2.v t=fr.v t:=fun hh x hx t ht=>
  hh t (by unfold RV;exact List.mem_append_left _ (List.mem_flatMap.2 ⟨x,hx,ht⟩))
 have hRB:∀{fr2:Fr},(∀b∈RB C f ops o,fr2.b b=fr.b b)→∀x∈o.op.operands.toList,∀b off,resolve C f B x=some (b,off)→fr2.b b=fr.b b:=fun hh x hx b off hr=>
  hh b (by unfold RB;exact List.mem_filterMap.2 ⟨x,hx,GK hs hB hr⟩)
 have run:FU C Ca f ops B o K fr S→∃L LB,(∀p∈L,p.1∈SW C f ops o)∧(∀d,o.dst=some d→d∈L.map (·.1))∧(∀p∈LB,p.1∈SB C f ops o∧C.loc f p.1=true)∧K (o::B) (upd L LB fr) S∧
   ∀B2 fr2 S2 K2,(∀t∈RV ops o,fr2.v t=fr.v t)→(∀b∈RB C f ops o,fr2.b b=fr.b b)→(∀x∈o.op.operands.toList,resolve C f B2 x=resolve C f B x)→(rS C f ops o=true→S2=S)→
    K2 (o::B2) (upd L LB fr2) S2→FU C Ca f ops B2 o K2 fr2 S2:=by
  intro h;unfold FU at h;split at h
  ·rename_i hok;have hok':=hok;simp only[Bool.and_eq_true] at hok';have hag:∀x,addrOf o.op=some x→(resolve C f B x).isSome=(F9 C f ops.toList x).isSome:=fun x hx=>by
    have:=hok'.2;unfold L9 at this;rw[hx] at this;simpa using this
   obtain⟨L,LB,q1,qd,q2,q3,q4⟩:=Z6 hD hag h;refine⟨L,LB,q1,qd,fun p hp=>⟨ZQ hs hB (q2 p hp),YW (q2 p hp)⟩,q3,fun B2 fr2 S2 K2 h1 h2 h3 h4 h5=>?_⟩
   unfold FU;rw[Mn h3,hok];exact q4 B2 fr2 S2 (K2 (o::B2)) (hRV h1) (hRB h2) h3 h4 h5
  ·exact h.elim
 have skip:Di C f B o K fr S→∃L LB,(∀p∈L,p.1∈SW C f ops o)∧(∀d,o.dst=some d→d∈L.map (·.1))∧(∀p∈LB,p.1∈SB C f ops o∧C.loc f p.1=true)∧K (Em o::B) (upd L LB fr) S∧
   ∀B2 fr2 S2 K2,K2 (Em o::B2) (upd L LB fr2) S2→Di C f B2 o K2 fr2 S2:=by
  intro h;have h:K (Em o::B) (fr.skip C f o.dst) S:=h;have fin:∀L LB,(∀fr:Fr,fr.skip C f o.dst=upd L LB fr)→K (Em o::B) (upd L LB fr) S∧
    ∀B2 fr2 S2 K2,K2 (Em o::B2) (upd L LB fr2) S2→Di C f B2 o K2 fr2 S2:=fun L LB e1=>by
   refine⟨by rw[←e1];exact h,fun B2 fr2 S2 K2 h5=>?_⟩
   show K2 (Em o::B2) (fr2.skip C f o.dst) S2
   rw[e1];exact h5
  cases hd:o.dst with
  |none=>exact⟨[],[],by simp,by simp,by simp,fin [] [] fun fr=>by unfold Fr.skip;rw[hd];rfl⟩
  |some d=>
   have hW:d∈SW C f ops o:=by unfold SW Al;rw[hd];simp
   have hSB:d∈SB C f ops o:=by unfold SB;rw[hd];simp
   cases hl:C.loc f d with
   |true=>exact⟨[(d,.tup [])],[(d,none)],by simpa using hW,fun d' e=>by cases e;simp,by simpa[hl] using hSB,fin _ _ fun fr=>by unfold Fr.skip;rw[hd];simp only[hl];rfl⟩
   |false=>exact⟨[(d,.tup [])],[],by simpa using hW,fun d' e=>by cases e;simp,by simp,fin _ _ fun fr=>by unfold Fr.skip;rw[hd];simp only[hl];rfl⟩
 unfold C9 at h;cases hg:o.guard with
 |none=>
  rw[hg] at h;obtain⟨L,LB,q1,qd,q2,q3,q4⟩:=run h;refine⟨o,L,LB,.inl rfl,q1,qd,q2,q3,fun B2 fr2 S2 K2 h1 h2 h3 h4 h5=>?_⟩
  unfold C9;rw[hg];exact q4 B2 fr2 S2 K2 h1 h2 h3 h4 h5
 |some p=>
  obtain⟨j,want⟩:=p;rw[hg] at h;have hy:∀{fr2:Fr},(∀t∈RV ops o,fr2.v t=fr.v t)→CN ops fr2 j=CN ops fr j:=fun {fr2} hh=>by
   unfold CN;cases hq:(ops[j]?).bind (·.dst) with
   |none=>rfl
   |some d=>exact hh d (by unfold RV;rw[hg];simp[hq])
  have mkrun:CN ops fr j= .bool want→FU C Ca f ops B o K fr S→∃m L LB,Mark o m∧(∀p∈L,p.1∈SW C f ops o)∧(∀d,o.dst=some d→d∈L.map (·.1))∧(∀p∈LB,p.1∈SB C f ops o∧C.loc f p.1=true)∧K (m::B) (upd L LB fr) S∧
   ∀B2 fr2 S2 K2,(∀t∈RV ops o,fr2.v t=fr.v t)→(∀b∈RB C f ops o,fr2.b b=fr.b b)→(∀x∈o.op.operands.toList,resolve C f B2 x=resolve C f B x)→(rS C f ops o=true→S2=S)→
    K2 (m::B2) (upd L LB fr2) S2→C9 C Ca f ops B2 o K2 fr2 S2:=by
   intro hb h;obtain⟨L,LB,q1,qd,q2,q3,q4⟩:=run h;refine⟨o,L,LB,.inl rfl,q1,qd,q2,q3,fun B2 fr2 S2 K2 h1 h2 h3 h4 h5=>?_⟩
   unfold C9;rw[hg];have:=q4 B2 fr2 S2 K2 h1 h2 h3 h4 h5;cases want<;>simp only[hy h1,hb]<;>first|exact O7 this|exact NH this
  have mkskip:(CN ops fr j= .bool (!want)∨CN ops fr j= .tup []∧((ops[j]?).bind (·.guard)).isSome=true)→Di C f B o K fr S→∃m L LB,Mark o m∧(∀p∈L,p.1∈SW C f ops o)∧(∀d,o.dst=some d→d∈L.map (·.1))∧(∀p∈LB,p.1∈SB C f ops o∧C.loc f p.1=true)∧K (m::B) (upd L LB fr) S∧
   ∀B2 fr2 S2 K2,(∀t∈RV ops o,fr2.v t=fr.v t)→(∀b∈RB C f ops o,fr2.b b=fr.b b)→(∀x∈o.op.operands.toList,resolve C f B2 x=resolve C f B x)→(rS C f ops o=true→S2=S)→
    K2 (m::B2) (upd L LB fr2) S2→C9 C Ca f ops B2 o K2 fr2 S2:=by
   intro hb h;obtain⟨L,LB,q1,qd,q2,q3,q4⟩:=skip h;refine⟨Em o,L,LB,.inr rfl,q1,qd,q2,q3,fun B2 fr2 S2 K2 h1 h2 h3 h4 h5=>?_⟩
   unfold C9;rw[hg];have:=q4 B2 fr2 S2 K2 h5;rcases hb with hb|⟨hb,hgs⟩<;>cases want<;>simp only[hy h1,hb]<;>first|exact Yu hgs this|exact O7 this|exact NH this
  cases want with
  |true=>
   rcases Gk h with ⟨hb,h⟩|⟨hb,h⟩|⟨hb,hgs,h⟩
   ·exact mkrun hb h
   ·exact mkskip (.inl hb) h
   ·exact mkskip (.inr ⟨hb,hgs⟩) h
  |false=>
   rcases Gk h with ⟨hb,h⟩|⟨hb,h⟩|⟨hb,hgs,h⟩
   ·exact mkskip (.inl hb) h
   ·exact mkrun hb h
   ·exact mkskip (.inr ⟨hb,hgs⟩) h
theorem Ku(hCa:CX Ca)(hs:ssa ops.toList)(hB:In ops.toList B)
  (hK:∀m fr' S',Mark o m→(∀t,t ∉ SW C f ops o→fr'.v t=fr.v t)→(∀t,t ∉ SB C f ops o→fr'.b t=fr.b t)→(dD C f ops o=true→S'=S)→K (m::B) fr' S'→K' (m::B) fr' S') (h:C9 C Ca f ops B o K fr S):C9 C Ca f ops B o K' fr S:=by
 cases hD:dD C f ops o with
 |true=>
  obtain⟨m,L,LB,hm,q1,qd,q2,q3,q4⟩:=Kf hs hB hD h;refine q4 B fr S K' (fun _ _=>rfl) (fun _ _=>rfl) (fun _ _=>rfl) (fun _=>rfl) (hK m _ S hm (fun t ht=>F7 fun hh=>?_) (fun t ht=>FE fun hh=>?_) (fun _=>rfl) q3)
  ·obtain⟨p,hp,rfl⟩:=List.mem_map.1 hh;exact ht (q1 p hp)
  ·obtain⟨p,hp,rfl⟩:=List.mem_map.1 hh;exact ht (q2 p hp).1
 |false=>
  have run:FU C Ca f ops B o K fr S→FU C Ca f ops B o K' fr S:=by
   intro h;unfold FU at h ⊢;split at h
   ·rename_i hok;have hok':=hok;simp only[Bool.and_eq_true] at hok';exact UW hCa (fun fr' S' ha hk=>hK o fr' S' (.inl rfl) ha.1 (fun t ht=>ha.2 t fun hh=>ht (Vd hs hB hD hok'.2 hh)) (fun e=>by rw[hD] at e;cases e) hk) h
   ·exact h
  have skip:Di C f B o K fr S→Di C f B o K' fr S:=by
   intro h;unfold Di at h ⊢;refine hK (Em o) _ S (.inr rfl) (fun t ht=>?_) (fun t ht=>?_) (fun _=>rfl) h
   ·unfold Fr.skip;cases hd:o.dst with
    |none=>rfl
    |some d=>
     have hne:t≠d:=fun e=>ht (by unfold SW Al;rw[hd,e];simp)
     simp only;split<;>simp[Fr.set,Fr.setB,hne]
   ·unfold Fr.skip;cases hd:o.dst with
    |none=>rfl
    |some d=>
     have hne:t≠d:=fun e=>ht (by unfold SB;rw[hd,e];simp)
     simp only;split<;>simp[Fr.set,Fr.setB,hne]
  unfold C9 at h ⊢;cases hg:o.guard with
  |none=>rw[hg] at h;exact run h
  |some p=>
   obtain⟨j,want⟩:=p;rw[hg] at h;cases want with
   |true=>exact H7 h run skip skip
   |false=>exact H7 h skip run skip
theorem Eg(hCa:CX Ca)(hs:ssa ops.toList)(hB:In ops.toList B)(hK:∀m fr' S',Mark o m→K (m::B) fr' S'→K' (m::B) fr' S')(h:C9 C Ca f ops B o K fr S):C9 C Ca f ops B o K' fr S:=
 Ku hCa hs hB (fun m fr' S' hm _ _ _=>hK m fr' S' hm) h
def Same(C:Ctx)(f:Nat)(B B2:List Oper):Prop:=∀y,AD C f y B2=AD C f y B
theorem Same.res(h:Same C f B B2)(x:Operand):resolve C f B2 x=resolve C f B x:=by
 cases x with
 |tmp y=>exact h y
 |_=>rfl
theorem Same.cons(h:Same C f B B2)(m:Oper):Same C f (m::B) (m::B2):=Ov h
theorem Same.symm(h:Same C f B B2):Same C f B2 B:=fun y=>(h y).symm
theorem RZ(hCa:CX Ca)(hs:ssa ops.toList)(hB:In ops.toList B)(hsm:Same C f B B2)(hK:∀m fr' S',Mark o m→K (m::B) fr' S'→K' (m::B2) fr' S')(h:C9 C Ca f ops B o K fr S):C9 C Ca f ops B2 o K' fr S:=by
 have:=QX (C:=C) (Ca:=Ca) (f:=f) (ops:=ops) (U:=[]) (UB:=[]) (g:=fr) (fr:=fr) (S:=S) (K:=K') (B:=B) (B2:=B2) (o:=o) (by simp) (by simp) (by simp) (fun x _=>hsm.res x)
  (Eg hCa hs hB (fun m fr' S' hm hk m' e=>by rw[Rz];cases e;exact hK m fr' S' hm hk) h)
 rw[Rz] at this;exact this
theorem Tc(hCa:CX Ca)(hs:ssa ops.toList)(hB:In ops.toList B)(hsm:Same C f B B2)(h:stable C Ca f ops o B fr S):stable C Ca f ops o B2 fr S:=
 RZ hCa hs hB hsm (fun _ _ _ _ hk=>hk) h
theorem In.cons{all:List Oper}(h:In all B)(ho:o∈all){m:Oper}(hm:Mark o m)(hl:B.length < all.length):In all (m::B):=
 ⟨fun m' hm'=>by
  rcases List.mem_cons.1 hm' with rfl|hm'
  ·exact⟨o,ho,hm⟩
  ·exact h.mem m' hm',by simp;omega⟩
theorem E3(hs:ssa ops.toList)(hB:In ops.toList B){m:Oper}{x:Operand}(h1:∀d,m.dst=some d→∀t∈BL x,t≠d)(h2:∀d,m.dst=some d→F9 C f ops.toList x≠some d):resolve C f (m::B) x=resolve C f B x:=by
 cases x with
 |tmp y=>
  have hy:C6 m y=false:=GZ.2 fun e=>h1 y e y (by simp[BL]) rfl
  show AD C f y (m::B)=AD C f y B
  rw[Gy hy];cases hr:AD C f y B with
  |none=>rfl
  |some p=>
   obtain⟨b,off⟩:=p;have:C6 m b=false:=GZ.2 fun e=>h2 b e (GK hs hB (x:=.tmp y) hr)
   simp[filt,this]
 |_=>rfl
theorem M1(hCa:CX Ca)(hs:ssa ops.toList){x y:Oper}(hq:quiet C f ops x y=true){m:Oper}(hm:Mark x m){n:Oper}(hBn:In ops.toList (n::B))(hBnm:In ops.toList (n::m::B)){fr0 fr2:Fr}
  (hsm:Same C f (n::m::B) (m::n::B)) (hyD:dD C f ops y=true) (hySW:∀t∈SW C f ops y,t∈y.dst.toList) (hySB:∀t∈SB C f ops y,t∈y.dst.toList)
  (h:stable C Ca f ops y (n::m::B) fr2 S):stable C Ca f ops y (n::B) (graft (SW C f ops x) (SB C f ops x) fr0 fr2) S:=by
 unfold quiet at hq;simp only[Bool.and_eq_true,Mb] at hq;obtain⟨⟨⟨q1,q2⟩,q3⟩,q4⟩:=hq;obtain⟨m',L,LB,k1,k2,kd,k3,k4,k5⟩:=Kf hs hBnm hyD h;have hxd:∀d,m.dst=some d→d∈SW C f ops x∧d∈SB C f ops x:=fun d e=>by
  rw[hm.dst] at e;refine⟨?_,?_⟩
  ·unfold SW Al;rw[e];simp
  ·unfold SB;rw[e];simp
 refine k5 (n::B) _ S _ (fun t ht=>Fi fun e=>q1 t e ht) (fun b hb=>E2 fun e=>q3 b e hb) (fun z hz=>?_) (fun _=>rfl) ⟨?_,rfl⟩
 ·rw[←hsm.res z];refine(E3 hs hBn (fun d e t ht=>?_) (fun d e=>?_)).symm
  ·rintro rfl;exact q1 t (hxd _ e).1 (by unfold RV;exact List.mem_append_left _ (List.mem_flatMap.2 ⟨z,hz,ht⟩))
  ·intro e';exact q3 d (hxd _ e).2 (by unfold RB;exact List.mem_filterMap.2 ⟨z,hz,e'⟩)
 ·have hk:upd L LB fr2=fr2:=k4.1;refine Fr.ext' (fun t=>?_) (fun t=>?_)
  ·by_cases e:t∈L.map (·.1)
   ·obtain⟨p,hp,rfl⟩:=List.mem_map.1 e;have hyd:=hySW _ (k2 p hp);rw[Lt (fr2:=fr2) (.inl e),hk];exact(Fi fun e2=>q2 _ e2 hyd).symm
   ·rw[F7 e]
  ·by_cases e:t∈LB.map (·.1)
   ·obtain⟨p,hp,rfl⟩:=List.mem_map.1 e;have hyd:=hySB _ (k3 p hp).1;rw[Ly (fr2:=fr2) (.inl e),hk];exact(E2 fun e2=>q4 _ e2 hyd).symm
   ·rw[FE e]
end
section
variable {C:Ctx} {Ca:Nat→List AV→St→(AV→St→Prop)→Prop} {f:Nat} {ops:Array Oper} {fr g:Fr} {S:St} {K K':List Oper→Fr→St→Prop} {B B2:List Oper} {o x i y:Oper}
theorem IC(h:watchable C f ops y=true):dD C f ops y=true∧(∀t∈SW C f ops y,t∈y.dst.toList)∧(∀t∈SB C f ops y,t∈y.dst.toList)∧(∀r,BF C r y.op=none):=by
 unfold watchable at h;simp only[Bool.and_eq_true] at h;have h:=h.1.1.1.1;unfold dD isD SW Al SB;split at h
 ·rename_i t z hop;simp only[Bool.not_eq_true'] at h;rw[hop,h];simp[BF]
 ·rename_i hop;rw[hop];simp[BF]
 ·rename_i hop;rw[hop];simp[BF]
 ·rename_i hop;rw[hop];simp[BF]
 ·rename_i hop;rw[hop];simp[BF]
 ·cases h
theorem QU{d:Nat}(h:o.dst=some d):d∈SW C f ops o:=by unfold SW Al;rw[h];simp
theorem R9{d:Nat}(h:o.dst=some d):d∈SB C f ops o:=by unfold SB;rw[h];simp
theorem Ub{z:Operand}(hz:z∈o.op.operands.toList){t:Nat}(ht:t∈BL z):t∈RV ops o:=by unfold RV;exact List.mem_append_left _ (List.mem_flatMap.2 ⟨z,hz,ht⟩)
theorem WQ{z:Operand}(hz:z∈o.op.operands.toList){b:Nat}(hb:F9 C f ops.toList z=some b):b∈RB C f ops o:=by unfold RB;exact List.mem_filterMap.2 ⟨z,hz,hb⟩
theorem RU{m n:Oper}(hm:Mark x m)(hn:Mark i n)(h1:∀d,x.dst=some d→i.dst≠some d)(h2:∀d,x.dst=some d→d ∉ RV ops i)(h3:∀d,i.dst=some d→d ∉ RV ops x):Same C f (n::m::B) (m::n::B):=
 fun y=>Oz (fun d e e2=>h1 d (by rw[←hm.dst];exact e) (by rw[←hn.dst];exact e2)) (fun z hz e=>h3 z (by rw[←hn.dst];exact e) (Ub (hm.operands _ hz) (by simp[BL])))
  (fun z hz e=>h2 z (by rw[←hm.dst];exact e) (Ub (hn.operands _ hz) (by simp[BL]))) y
theorem Vt(hCa:CX Ca)(hs:ssa ops.toList)(hB:In ops.toList B)(hx:x∈ops.toList)(hi:i∈ops.toList)(hlen:B.length+2≤ops.size)(hxi:∀d,x.dst=some d→i.dst≠some d)
  (hD:dD C f ops x=true) (hap:apart C f ops x i=true) (ws:List Oper) (hwx:rS C f ops x=true→dD C f ops i=false→x∈ws∧watchable C f ops x=true)
  (hws:∀y∈ws,y≠x→quiet C f ops x y=true∧watchable C f ops y=true) (hK:∀B1 B2 fr S,Same C f B1 B2→K B1 fr S→K B2 fr S)
  (h:C9 C Ca f ops B x (fun B1 fr1 S1=>C9 C Ca f ops B1 i (fun B2 fr2 S2=>(∀y∈ws,stable C Ca f ops y B2 fr2 S2)∧K B2 fr2 S2) fr1 S1) fr S):
  C9 C Ca f ops B i (fun B1 fr1 S1=>(∀y∈ws,y≠x→stable C Ca f ops y B1 fr1 S1)∧C9 C Ca f ops B1 x K fr1 S1) fr S:=by
 have hap':=hap;unfold apart at hap;simp only[Bool.and_eq_true,Mb] at hap;obtain⟨⟨⟨⟨⟨a1,a2⟩,a3⟩,a4⟩,a5⟩,a6⟩:=hap;obtain⟨m,L,LB,hm,q1,qd,q2,h,q4⟩:=Kf hs hB hD h;have hL:∀t,t ∉ SW C f ops x→t ∉ L.map (·.1):=fun t ht hh=>by obtain⟨p,hp,rfl⟩:=List.mem_map.1 hh;exact ht (q1 p hp)
 have hLB:∀t,t ∉ SB C f ops x→t ∉ LB.map (·.1):=fun t ht hh=>by obtain⟨p,hp,rfl⟩:=List.mem_map.1 hh;exact ht (q2 p hp).1
 have hBm:In ops.toList (m::B):=hB.cons hx hm (by simp;omega)
 have hback:graft (SW C f ops x) (SB C f ops x) fr (upd L LB fr)=fr:=by
  refine Fr.ext' (fun t=>?_) (fun t=>?_)
  ·by_cases e:t∈SW C f ops x
   ·simp[graft,e]
   ·rw[Fi e,F7 (hL t e)]
  ·by_cases e:t∈SB C f ops x
   ·simp[graft,e]
   ·rw[E2 e,FE (hLB t e)]
 rw[←hback];refine QX (B:=m::B) (fun t ht e=>a1 t e ht) (fun z hz b off hr e=>a3 b e (WQ hz (GK hs hBm hr))) (fun d e=>⟨fun e2=>a2 d e2 (QU e),fun e2=>a4 d e2 (R9 e)⟩)
  (fun z hz=>(E3 hs hB (fun d e t ht=>?_) (fun d e=>?_)).symm) ?_
 ·rintro rfl;rw[hm.dst] at e;exact a1 t (QU e) (Ub hz ht)
 ·rw[hm.dst] at e;intro e2;exact a3 d (R9 e) (WQ hz e2)
 ·refine Ku hCa hs hBm (fun n fr2 S2 hn g1 g2 g3 hk n' en=>?_) h
  simp only[List.cons.injEq,and_true] at en;subst en;obtain⟨hst,hk⟩:=hk;have hsm:Same C f (n::m::B) (m::n::B):=RU (ops:=ops) hm hn hxi (fun d e=>a1 d (QU e)) (fun d e=>a5 d (QU e))
  have hBn:In ops.toList (n::B):=hB.cons hi hn (by simp;omega)
  have hBnm:In ops.toList (n::m::B):=hBm.cons hi hn (by simp;omega)
  have hfin:∀{L' LB'},(∀t,t∈SW C f ops x→t∈L'.map (·.1)∨fr2.v t=fr.v t)→(∀t,t∈SB C f ops x→t∈LB'.map (·.1)∨fr2.b t=fr.b t)→(∀t,t∈L'.map (·.1)→(upd L' LB' fr2).v t=fr2.v t)→(∀t,t∈LB'.map (·.1)→(upd L' LB' fr2).b t=fr2.b t)→
    upd L' LB' (graft (SW C f ops x) (SB C f ops x) fr fr2)=fr2:=by
   intro L' LB' c1 c2 c3 c4;refine Fr.ext' (fun t=>?_) (fun t=>?_)
   ·by_cases e:t∈L'.map (·.1)
    ·rw[Lt (fr2:=fr2) (.inl e),c3 t e]
    ·rw[F7 e]
     by_cases e2:t∈SW C f ops x
     ·simp only[graft,e2,if_true];exact((c1 t e2).resolve_left e).symm
     ·exact Fi e2
   ·by_cases e:t∈LB'.map (·.1)
    ·rw[Ly (fr2:=fr2) (.inl e),c4 t e]
    ·rw[FE e]
     by_cases e2:t∈SB C f ops x
     ·simp only[graft,e2,if_true];exact((c2 t e2).resolve_left e).symm
     ·exact E2 e2
  have hxw:∀t,t∈SW C f ops x→fr2.v t=(upd L LB fr).v t:=fun t ht=>g1 t (a2 t ht)
  have hxb:∀t,t∈SB C f ops x→fr2.b t=(upd L LB fr).b t:=fun t ht=>g2 t (a4 t ht)
  refine⟨fun y hy hne=>?_,?_⟩
  ·obtain⟨w1,w2⟩:=hws y hy hne;obtain⟨d1,d2,d3,_⟩:=IC w2;exact M1 hCa hs w1 hm hBn hBnm hsm d1 d2 d3 (hst y hy)
  ·by_cases hcase:rS C f ops x=true∧dD C f ops i=false
   ·
    obtain⟨w0,w1⟩:=hwx hcase.1 hcase.2;obtain⟨d1,d2,d3,d4⟩:=IC w1;unfold watchable at w1;simp only[Bool.and_eq_true,Mb] at w1;obtain⟨⟨⟨⟨_,s1⟩,s2⟩,s3⟩,_⟩:=w1;have hsx:=hst x w0;obtain⟨m',L',LB',hm',p1,pd,p2,pk,p4⟩:=Kf hs hBnm hD hsx;have pk1:upd L' LB' fr2=fr2:=pk.1;refine p4 (n::B) _ S2 K (fun t ht=>Fi fun e=>s1 t (d2 t e) ht) (fun b hb=>E2 fun e=>s2 b e hb) (fun z hz=>?_) (fun _=>rfl) ?_
    ·rw[←hsm.res z];refine(E3 hs hBn (fun d e t ht=>?_) (fun d e=>?_)).symm
     ·rintro rfl;rw[hm.dst] at e;exact s1 t (by rw[e];simp) (Ub hz ht)
     ·rw[hm.dst] at e;intro e2;exact s2 d (R9 e) (WQ hz e2)
    ·rw[hfin (fun t ht=>.inl ?_) (fun t ht=>?_) (fun t _=>by rw[pk1]) (fun t _=>by rw[pk1])]
     ·refine hK (n::m::B) _ fr2 S2 (fun z=>?_) hk
      rw[←hsm z];have hin:∀r,BF C r m.op=none:=by
       rcases hm with rfl|rfl
       ·exact d4
       ·intro r;rfl
      have hin':∀r,BF C r m'.op=none:=by
       rcases hm' with rfl|rfl
       ·exact d4
       ·intro r;rfl
      exact Nr (by rw[hm.dst,hm'.dst]) hin' hin z
     ·have:=d2 t ht;cases hxd:x.dst with
      |none=>rw[hxd] at this;simp at this
      |some d=>rw[hxd] at this;simp at this;subst this;exact pd t hxd
     ·right;have hdx:=d3 t ht;rw[hxb t ht];refine FE fun e=>?_
      obtain⟨p,hp,rfl⟩:=List.mem_map.1 e;have hl:=(q2 p hp).2;have:=List.all_eq_true.1 s3 _ hdx;rw[hl] at this;cases this
   ·have hSS:rS C f ops x=true→S2=S:=fun e=>g3 (by
     cases hdi:dD C f ops i with
     |true=>rfl
     |false=>exact(hcase ⟨e,hdi⟩).elim)
    refine q4 (n::B) _ S2 K (fun t ht=>?_) (fun b hb=>?_) (fun z hz=>?_) hSS ?_
    ·by_cases e:t∈SW C f ops x
     ·simp[graft,e]
     ·rw[Fi e,g1 t (fun e2=>a5 t e2 ht),F7 (hL t e)]
    ·by_cases e:b∈SB C f ops x
     ·simp[graft,e]
     ·rw[E2 e,g2 b (fun e2=>a6 b e2 hb),FE (hLB b e)]
    ·refine E3 hs hB (fun d e t ht=>?_) (fun d e=>?_)
     ·rintro rfl;rw[hn.dst] at e;exact a5 t (QU e) (Ub hz ht)
     ·rw[hn.dst] at e;intro e2;exact a6 d (R9 e) (WQ hz e2)
    ·rw[hfin (fun t ht=>?_) (fun t ht=>?_) (fun t ht=>?_) (fun t ht=>?_)]
     ·exact hK _ _ _ _ hsm hk
     ·by_cases e:t∈L.map (·.1)
      ·exact .inl e
      ·right;rw[hxw t ht,F7 e]
     ·by_cases e:t∈LB.map (·.1)
      ·exact .inl e
      ·right;rw[hxb t ht,FE e]
     ·obtain⟨p,hp,rfl⟩:=List.mem_map.1 ht;rw[Lt (fr2:=fr) (.inl ht),hxw _ (q1 p hp)]
     ·obtain⟨p,hp,rfl⟩:=List.mem_map.1 ht;rw[Ly (fr2:=fr) (.inl ht),hxb _ (q2 p hp).1]
theorem Sv{tv v u:AV}{a b:Nat}(hab:a≠b)(h1:Ah tv a=some v)(h2:Ah (AQ tv a) b=some u):Ah tv b=some u∧Ah (AQ tv b) a=some v∧AQ (AQ tv a) b=AQ (AQ tv b) a:=by
 cases tv<;>simp only[Ah,AQ] at h1 h2 ⊢<;>try (cases h1;done)
 rename_i vs;rw[List.getElem?_modify] at h2;simp only[hab,if_false] at h2;refine⟨by simpa using h2,by rw[List.getElem?_modify];simp[Ne.symm hab,h1],?_⟩
 congr 1;apply List.ext_getElem?;intro j;simp only[List.getElem?_modify]
 by_cases e1:a=j<;>by_cases e2:b=j<;>simp[e1,e2]
 all_goals (try (exact(hab (e1.trans e2.symm)).elim))
theorem PQ(h:SJ C f x i=true):∃t a b d e,x.guard=none∧i.guard=none∧x.op= .extract (.tmp t) a∧i.op= .extract (.tmp t) b∧x.dst=some d∧i.dst=some e∧
  a≠b∧d≠e∧d≠t∧e≠t∧C.loc f d=false∧C.loc f e=false:=by
 unfold SJ at h;split at h
 ·rename_i t a u b d e g1 g2 o1 o2 d1 d2;simp only[Bool.and_eq_true,Bool.not_eq_true'] at h;obtain⟨⟨⟨⟨⟨⟨c1,c2⟩,c3⟩,c4⟩,c5⟩,c6⟩,c7⟩:=h;have c1:=Nat.eq_of_beq_eq_true c1;subst c1;exact⟨t,a,b,d,e,g1,g2,o1,o2,d1,d2,Nat.ne_of_beq_eq_false c2,Nat.ne_of_beq_eq_false c3,Nat.ne_of_beq_eq_false c4,Nat.ne_of_beq_eq_false c5,c6,c7⟩
 ·cases h
theorem Zh(hCa:CX Ca)(hs:ssa ops.toList)(hB:In ops.toList B)(hx:x∈ops.toList)(hi:i∈ops.toList)(hlen:B.length+2≤ops.size)(hex:SJ C f x i=true)(ws:List Oper)
  (hws:∀y∈ws,y≠x→quiet C f ops x y=true∧watchable C f ops y=true) (hK:∀B1 B2 fr S,Same C f B1 B2→K B1 fr S→K B2 fr S)
  (h:C9 C Ca f ops B x (fun B1 fr1 S1=>C9 C Ca f ops B1 i (fun B2 fr2 S2=>(∀y∈ws,stable C Ca f ops y B2 fr2 S2)∧K B2 fr2 S2) fr1 S1) fr S):
  C9 C Ca f ops B i (fun B1 fr1 S1=>(∀y∈ws,y≠x→stable C Ca f ops y B1 fr1 S1)∧C9 C Ca f ops B1 x K fr1 S1) fr S:=by
 obtain⟨t,a,b,d,e,g1,g2,o1,o2,d1,d2,c2,c3,c4,c5,c6,c7⟩:=PQ hex;obtain⟨xd,xop,xt,xp,xa,xg⟩:=x;obtain⟨id,iop,it,ip,ia,ig⟩:=i;simp only at g1 g2 o1 o2 d1 d2;subst g1 g2 o1 o2 d1 d2;have step:∀(d a:Nat) (ty:TypeId) (p:String) (af:Array Edge) (B:List Oper) (K:List Oper→Fr→St→Prop) (fr:Fr) (S:St),C.loc f d=false→
   (C9 C Ca f ops B ⟨some d,.extract (.tmp t) a,ty,p,af,none⟩ K fr S↔AA (Ah (fr.v t) a) fun v=>K (⟨some d,.extract (.tmp t) a,ty,p,af,none⟩::B) ((fr.set t (AQ (fr.v t) a)).set d v) S):=by
  intro d a ty p af B K fr S hl;unfold C9 FU;simp[Mf,hl,L9,addrOf,opW,Fr.put]
 rw[step d a xt xp xa B _ fr S c6] at h;obtain⟨v,hv,h⟩:=AF h;rw[step e b it ip ia _ _ _ S c7] at h;obtain⟨w,hw,h⟩:=AF h;have ht1:((fr.set t (AQ (fr.v t) a)).set d v).v t=AQ (fr.v t) a:=by simp[Fr.set,Ne.symm c4]
 rw[ht1] at hw h;obtain⟨k1,k2,k3⟩:=Sv c2 hv hw;rw[step e b it ip ia B _ fr S c7,k1]
 show _∧C9 C Ca f ops _ _ K _ S
 have ht2:((fr.set t (AQ (fr.v t) b)).set e w).v t=AQ (fr.v t) b:=by simp[Fr.set,Ne.symm c5]
 have hfr:((((fr.set t (AQ (fr.v t) b)).set e w).set t (AQ (AQ (fr.v t) b) a)).set d v)=((((fr.set t (AQ (fr.v t) a)).set d v).set t (AQ (AQ (fr.v t) a) b)).set e w):=by
  refine Fr.ext' (fun j=>?_) (fun j=>rfl)
  simp only[Fr.set,k3]
  by_cases j1:j=t
  ·subst j1;simp[Ne.symm c4,Ne.symm c5]
  ·by_cases j2:j=d
   ·subst j2;simp[j1,c3]
   ·by_cases j3:j=e
    ·subst j3;simp[j1,j2]
    ·simp[j1,j2,j3]
 have hm:Mark (⟨some d,.extract (.tmp t) a,xt,xp,xa,none⟩:Oper) ⟨some d,.extract (.tmp t) a,xt,xp,xa,none⟩:=.inl rfl;have hn:Mark (⟨some e,.extract (.tmp t) b,it,ip,ia,none⟩:Oper) ⟨some e,.extract (.tmp t) b,it,ip,ia,none⟩:=.inl rfl;have hsm:Same C f (⟨some e,.extract (.tmp t) b,it,ip,ia,none⟩::⟨some d,.extract (.tmp t) a,xt,xp,xa,none⟩::B) (⟨some d,.extract (.tmp t) a,xt,xp,xa,none⟩::⟨some e,.extract (.tmp t) b,it,ip,ia,none⟩::B):=
  RU (ops:=ops) hm hn (fun d' e1 e2=>by cases e1;exact c3 (by cases e2;rfl)) (fun d' e1 e2=>by cases e1;simp[RV,Op.operands,BL] at e2;exact c4 e2) (fun d' e1 e2=>by cases e1;simp[RV,Op.operands,BL] at e2;exact c5 e2)
 refine⟨fun y hy hne=>?_,?_⟩
 ·obtain⟨w1,w2⟩:=hws y hy hne;obtain⟨d1,d2,d3,_⟩:=IC w2;have hBn:=hB.cons hi hn (by simp;omega)
  have hBnm:=(hB.cons hx hm (by simp;omega)).cons hi hn (by simp;omega)
  have:=M1 (fr0:=(fr.set t (AQ (fr.v t) b)).set e w) hCa hs w1 hm hBn hBnm hsm d1 d2 d3 (h.1 y hy);refine(?_:graft _ _ _ _=(fr.set t (AQ (fr.v t) b)).set e w) ▸ this;refine Fr.ext' (fun j=>?_) (fun j=>?_)
  ·by_cases hj:j∈SW C f ops (⟨some d,.extract (.tmp t) a,xt,xp,xa,none⟩:Oper)
   ·simp[graft,hj]
   ·rw[Fi hj];simp[SW,Al,BL] at hj;simp[Fr.set,hj.1,hj.2]
  ·by_cases hj:j∈SB C f ops (⟨some d,.extract (.tmp t) a,xt,xp,xa,none⟩:Oper)
   ·simp[graft,hj]
   ·rw[E2 hj];rfl
 ·rw[step d a xt xp xa _ _ _ S c6,ht2,k2]
  show K _ _ S
  rw[hfr];exact hK _ _ _ _ hsm h.2
theorem swap(hCa:CX Ca)(hs:ssa ops.toList)(hB:In ops.toList B)(hx:x∈ops.toList)(hi:i∈ops.toList)(hlen:B.length+2≤ops.size)(hxi:∀d,x.dst=some d→i.dst≠some d)
  (hp:II C f ops x i=true) (ws:List Oper) (hwx:rS C f ops x=true→dD C f ops i=false→x∈ws)
  (hws:∀y∈ws,y≠x→quiet C f ops x y=true∧watchable C f ops y=true) (hK:∀B1 B2 fr S,Same C f B1 B2→K B1 fr S→K B2 fr S)
  (h:C9 C Ca f ops B x (fun B1 fr1 S1=>C9 C Ca f ops B1 i (fun B2 fr2 S2=>(∀y∈ws,stable C Ca f ops y B2 fr2 S2)∧K B2 fr2 S2) fr1 S1) fr S):
  C9 C Ca f ops B i (fun B1 fr1 S1=>(∀y∈ws,y≠x→stable C Ca f ops y B1 fr1 S1)∧C9 C Ca f ops B1 x K fr1 S1) fr S:=by
 unfold II at hp;simp only[Bool.and_eq_true,Bool.or_eq_true,Bool.not_eq_true'] at hp;obtain⟨hD,hp⟩:=hp;rcases hp with ⟨hp,hq⟩|hp
 ·refine Vt hCa hs hB hx hi hlen hxi hD hp ws (fun e1 e2=>⟨hwx e1 e2,?_⟩) hws hK h
  rcases hq with hq|hq
  ·simp[e1,e2] at hq
  ·exact hq
 ·exact Zh hCa hs hB hx hi hlen hp ws hws hK h
end
section
variable {C:Ctx} {Ca:Nat→List AV→St→(AV→St→Prop)→Prop} {f:Nat} {ops:Array Oper} {fr g:Fr} {S:St} {K:Fr→St→Prop} {B B2:List Oper} {T:List Nat}
theorem GL{P:Prop}:∀{l:List Oper},Lo C Ca f ops B fr S P l↔(∀y∈l,stable C Ca f ops y B fr S)∧P
 |[]=>by simp[Lo]
 |y::l=>by
  simp only[Lo,GL (l:=l),List.mem_cons,forall_eq_or_imp];exact⟨fun h=>⟨⟨h.1,h.2.1⟩,h.2.2⟩,fun h=>⟨h.1.1,h.1.2,h.2⟩⟩
theorem Hp{y:Oper}{l:List Nat}:y∈pick ops l↔∃i∈l,ops[i]? =some y:=by simp[pick,List.mem_filterMap]
theorem EL{i:Nat}{o:Oper}(h:ops[i]? =some o):o∈ops.toList:=List.mem_of_getElem? (by simpa using h)
theorem Oc(hCa:CX Ca)(hs:ssa ops.toList):∀{l seen:List Nat} {B B2:List Oper} {fr:Fr} {S:St},In ops.toList B→B.length+l.length≤ops.size→Same C f B B2→EE C Ca f ops T K seen l B fr S→EE C Ca f ops T K seen l B2 fr S
 |[],seen,B,B2,fr,S,_,_,_,h=>h
 |i::l,seen,B,B2,fr,S,hB,hl,hsm,h=>by
  simp only[EE] at h ⊢;cases hi:ops[i]? with
  |none=>rw[hi] at h;exact h
  |some o=>
   rw[hi] at h;simp only at h ⊢;simp only[List.length_cons] at hl;refine RZ hCa hs hB hsm (fun m fr' S' hm hk=>?_) h
   rw[GL] at hk ⊢;have hBm:In ops.toList (m::B):=hB.cons (EL hi) hm (by simp;omega)
   exact⟨fun y hy=>Tc hCa hs hBm (hsm.cons m) (hk.1 y hy),Oc hCa hs hBm (by simp;omega) (hsm.cons m) hk.2⟩
theorem OI(hCa:CX Ca)(hs:ssa ops.toList):∀{l seen seen':List Nat} {B:List Oper} {fr:Fr} {S:St},In ops.toList B→B.length+l.length≤ops.size→(∀y∈seen',y∈seen)→EE C Ca f ops T K seen l B fr S→EE C Ca f ops T K seen' l B fr S
 |[],seen,seen',B,fr,S,_,_,_,h=>h
 |i::l,seen,seen',B,fr,S,hB,hl,hsub,h=>by
  simp only[EE] at h ⊢;cases hi:ops[i]? with
  |none=>rw[hi] at h;exact h
  |some o=>
   rw[hi] at h;simp only at h ⊢;simp only[List.length_cons] at hl;refine Eg hCa hs hB (fun m fr' S' hm hk=>?_) h
   rw[GL] at hk ⊢;have hBm:In ops.toList (m::B):=hB.cons (EL hi) hm (by simp;omega)
   refine⟨fun y hy=>hk.1 y ?_,OI hCa hs hBm (by simp;omega) (fun y hy=>?_) hk.2⟩
   ·obtain⟨j,hj,e⟩:=Hp.1 hy;rw[List.mem_filter] at hj;exact Hp.2 ⟨j,List.mem_filter.2 ⟨hsub j hj.1,hj.2⟩,e⟩
   ·unfold DT at hy ⊢;cases hr:rS C f ops o with
    |true=>
     rw[hr] at hy;simp only[List.mem_cons] at hy ⊢;exact hy.imp id (hsub y)
    |false=>rw[hr] at hy;exact hsub y hy
def uniq(ops:Array Oper):Prop:=∀(i j:Nat) (o o':Oper) (d:Nat),ops[i]? =some o→ops[j]? =some o'→o.dst=some d→o'.dst=some d→i=j
theorem uniq.ssa(h:uniq ops):ssa ops.toList:=by
 intro o ho o' ho' d e e';obtain⟨i,hi⟩:=List.getElem?_of_mem ho;obtain⟨j,hj⟩:=List.getElem?_of_mem ho';have:=h i j o o' d (by simpa using hi) (by simpa using hj) e e'
 subst this;rw[hi] at hj;exact Option.some.inj hj
theorem bubble(hCa:CX Ca)(hu:uniq ops){i:Nat}{oi:Oper}(hi:ops[i]? =some oi){l2:List Nat}:∀{l1 seen:List Nat} {B:List Oper} {fr:Fr} {S:St},In ops.toList B→B.length+(l1++i::l2).length≤ops.size→
  (∀x∈l1,∃ox,ops[x]? =some ox∧II C f ops ox oi=true∧x≠i∧Nat.testBit (T.getD i 0) x=false)→
  (∀y∈seen,∀x∈l1,∀ox oy,ops[x]? =some ox→ops[y]? =some oy→need C f ops T y i=true→x≠y∧quiet C f ops ox oy=true)→
  (∀y x,[y,x].Sublist l1→∀ox oy,ops[x]? =some ox→ops[y]? =some oy→need C f ops T y i=true→x≠y∧quiet C f ops ox oy=true)→
  (∀y,y∈seen∨y∈l1→∀oy,ops[y]? =some oy→need C f ops T y i=true→watchable C f ops oy=true)→
  EE C Ca f ops T K seen (l1++i::l2) B fr S→
  C9 C Ca f ops B oi (fun B' fr' S'=>(∀y∈pick ops (seen.filter fun y=>need C f ops T y i),stable C Ca f ops y B' fr' S')∧EE C Ca f ops T K seen (l1++l2) B' fr' S') fr S
 |[],seen,B,fr,S,hB,hl,_,_,_,_,h=>by
  have hs:=hu.ssa;simp only[List.nil_append,EE,hi] at h;simp only[List.nil_append,List.length_cons] at hl;refine Eg hCa hs hB (fun m fr' S' hm hk=>?_) h
  rw[GL] at hk;have hBm:In ops.toList (m::B):=hB.cons (EL hi) hm (by simp;omega)
  refine⟨hk.1,OI hCa hs hBm (by simp;omega) (fun y hy=>?_) hk.2⟩
  unfold DT;split
  ·exact List.mem_cons_of_mem _ hy
  ·exact hy
 |x::l1,seen,B,fr,S,hB,hl,hp,hq,ht,hw,h=>by
  have hs:=hu.ssa;obtain⟨ox,hx,hcp,hne,htb⟩:=hp x (by simp)
  have hD:dD C f ops ox=true:=by
   unfold II at hcp;simp only[Bool.and_eq_true] at hcp;exact hcp.1
  have hnil:∀l:List Nat,l.filter (fun y=>need C f ops T y x)=[]:=fun l=>by
   rw[List.filter_eq_nil_iff];intro y _;unfold need;rw[hx];split
   ·rename_i e;cases e;simp[hD]
   ·simp
  simp only[List.cons_append,EE,hx] at h;simp only[List.cons_append,List.length_cons,List.length_append] at hl;generalize hseen:DT C f ops ox x seen=seen' at h;have hsub:∀y∈seen,y∈seen':=fun y hy=>by
   rw[←hseen];unfold DT;split
   ·exact List.mem_cons_of_mem _ hy
   ·exact hy
  have hsub':∀y∈seen',y=x∨y∈seen:=fun y hy=>by
   rw[←hseen] at hy;unfold DT at hy;split at hy
   ·simpa using hy
   ·exact .inr hy
  let KK:List Oper→Fr→St→Prop:=fun B fr S=>∃B0,In ops.toList B0∧B0.length+(l1++l2).length≤ops.size∧Same C f B0 B∧EE C Ca f ops T K seen' (l1++l2) B0 fr S
  have hstep:C9 C Ca f ops B ox (fun B1 fr1 S1=>C9 C Ca f ops B1 oi (fun B2 fr2 S2=>(∀y∈pick ops (seen'.filter fun y=>need C f ops T y i),stable C Ca f ops y B2 fr2 S2)∧KK B2 fr2 S2) fr1 S1) fr S:=by
   refine Eg hCa hs hB (fun m fr1 S1 hm hk=>?_) h
   rw[GL] at hk;have hBm:In ops.toList (m::B):=hB.cons (EL hx) hm (by simp;omega)
   have:=bubble hCa hu hi (l1:=l1) (seen:=seen') hBm (by simp;omega) (fun x' hx'=>hp x' (List.mem_cons_of_mem _ hx')) (fun y hy x' hx' ox' oy e1 e2 e3=>?_)
    (fun y x' hsl=>ht y x' (hsl.trans (List.sublist_cons_self _ _))) (fun y hy=>hw y ?_) hk.2
   ·refine Eg hCa hs hBm (fun n fr2 S2 hn hk2=>⟨hk2.1,?_⟩) this
    exact⟨n::m::B,hBm.cons (EL hi) hn (by simp;omega),by simp;omega,fun y=>rfl,hk2.2⟩
   ·rcases hsub' y hy with rfl|hy
    ·exact ht y x' (by simpa using hx') ox' oy e1 e2 e3
    ·exact hq y hy x' (List.mem_cons_of_mem _ hx') ox' oy e1 e2 e3
   ·rcases hy with hy|hy
    ·rcases hsub' y hy with rfl|hy
     ·exact .inr (by simp)
     ·exact .inl hy
    ·exact .inr (List.mem_cons_of_mem _ hy)
  have hws:∀y∈pick ops (seen'.filter fun y=>need C f ops T y i),y≠ox→quiet C f ops ox y=true∧watchable C f ops y=true:=by
   intro oy hy hyx;obtain⟨y,hy1,hy2⟩:=Hp.1 hy;rw[List.mem_filter] at hy1;rcases hsub' y hy1.1 with rfl|hys
   ·rw[hx] at hy2;exact(hyx (Option.some.inj hy2).symm).elim
   ·exact⟨(hq y hys x (by simp) ox oy hx hy2 hy1.2).2,hw y (.inl hys) oy hy2 hy1.2⟩
  have hsw:=swap (K:=KK) hCa hs hB (EL hx) (EL hi) (by omega) (fun d e1 e2=>hne (hu x i ox oi d hx hi e1 e2)) hcp _ (fun e1 e2=>Hp.2 ⟨x,List.mem_filter.2 ⟨by rw[←hseen];unfold DT;rw[e1];simp,by
    unfold need;rw[hx,hi];simp only[e1,e2,htb];rfl⟩,hx⟩) hws (fun B1 B2 fr S hsm ⟨B0,k1,k2,k3,k4⟩=>⟨B0,k1,k2,fun y=>(hsm y).trans (k3 y),k4⟩) hstep
  refine Eg hCa hs hB (fun m fr1 S1 hm hk=>⟨fun oy hy=>?_,?_⟩) hsw
  ·obtain⟨y,hy1,hy2⟩:=Hp.1 hy;rw[List.mem_filter] at hy1;refine hk.1 oy (Hp.2 ⟨y,List.mem_filter.2 ⟨hsub y hy1.1,hy1.2⟩,hy2⟩) fun e=>?_
   have hne':=(hq y hy1.1 x (by simp) ox oy hx hy2 hy1.2).1
   have hwt:=hw y (.inl hy1.1) oy hy2 hy1.2;unfold watchable at hwt;simp only[Bool.and_eq_true] at hwt;obtain⟨d,hd⟩:=Option.isSome_iff_exists.1 hwt.2;exact hne' (hu x y ox oy d hx hy2 (e ▸ hd) hd)
  ·have hBm:In ops.toList (m::B):=hB.cons (EL hi) hm (by simp;omega)
   simp only[List.cons_append,EE,hx,hseen,hnil,pick,List.filterMap_nil,Lo];refine Eg hCa hs hBm (fun n fr2 S2 hn ⟨B0,k1,k2,k3,k4⟩=>Oc hCa hs k1 k2 k3 k4) hk.2
end
section
variable {C:Ctx} {Ca:Nat→List AV→St→(AV→St→Prop)→Prop} {f:Nat} {Dr:Array Oper→(Fr→St→Prop)→Fr→St→Prop}
def MI(C:Ctx)(f:Nat)(Dr:Array Oper→(Fr→St→Prop)→Fr→St→Prop):Prop:=
 ∀(ops:Array Oper) (K K':Fr→St→Prop) (fr:Fr) (S:St),Dr ops K fr S→
  (∀fr' S',Agr (ops.toList.flatMap fun o=>Al C (Ek C f ops.toList o.dst) o) (ops.toList.flatMap (N0 C f ops.toList)) fr fr'→K fr' S'→K' fr' S')→Dr ops K' fr S
theorem Rw(ws bs:List Nat)(fr:Fr)(v:Nat→AV)(b:Nat→Option (List AV)):Agr ws bs fr (M0 ws bs fr v b):=by
 refine⟨fun t ht=>?_,fun t ht=>?_⟩
 ·have:ws.elem t=false:=by simpa using ht
  simp only[M0,this]
 ·have:bs.elem t=false:=by simpa using ht
  simp only[M0,this]
theorem Ll{ws bs:List Nat}{fr fr':Fr}(h:Agr ws bs fr fr'):M0 ws bs fr fr'.v fr'.b=fr':=by
 have h1:(fun j=>match ws.elem j with|true=>fr'.v j|false=>fr.v j)=fr'.v:=by
  funext t;cases he:ws.elem t with
  |true=>rfl
  |false=>exact(h.1 t (by simpa using he)).symm
 have h2:(fun j=>match bs.elem j with|true=>fr'.b j|false=>fr.b j)=fr'.b:=by
  funext t;cases he:bs.elem t with
  |true=>rfl
  |false=>exact(h.2 t (by simpa using he)).symm
 exact congr (congrArg Fr.mk h1) h2
theorem KJ(hCa:CX Ca)(hDr:MI C f Dr):∀(c:Code) {K K':Ex→Fr→St→Prop} {fr:Fr} {S:St},(∀ex fr' S',Agr (Fb C f c) (Hj C f c) fr fr'→K ex fr' S'→K' ex fr' S')→W C Ca f Dr c K fr S→W C Ca f Dr c K' fr S
 | .skip,K,K',fr,S,hK,h=>hK _ _ _ (Agr.refl _ _ _) h
 | .region _ ops false,K,K',fr,S,hK,h=>Km hCa .nil (fun fr' S' ha=>hK _ _ _ ha) h
 | .region _ ops true,K,K',fr,S,hK,h=>hDr _ _ _ _ _ h fun fr' S' ha=>hK _ _ _ ha
 | .seq a b,K,K',fr,S,hK,h=>by
  refine KJ hCa hDr a (fun ex fr1 S1 ha hk=>?_) h
  cases ex with
  |normal=>exact KJ hCa hDr b (fun ex2 fr2 S2 hb=>hK _ _ _ (ha.trans hb)) hk
  |exit id=>exact hK _ _ _ (ha.mono (fun t=>List.mem_append_left _) (fun t=>List.mem_append_left _)) hk
  |ret=>exact hK _ _ _ (ha.mono (fun t=>List.mem_append_left _) (fun t=>List.mem_append_left _)) hk
 | .cond c a b,K,K',fr,S,hK,h=>by
  simp only[W,ifK] at h ⊢;split at h
  ·exact KJ hCa hDr a (fun ex fr1 S1 ha=>hK _ _ _ (ha.mono (fun t=>List.mem_append_left _) (fun t=>List.mem_append_left _))) h
  ·exact KJ hCa hDr b (fun ex fr1 S1 ha=>hK _ _ _ (ha.mono (fun t=>List.mem_append_right _) (fun t=>List.mem_append_right _))) h
  ·exact h
 | .block id b,K,K',fr,S,hK,h=>by
  refine KJ hCa hDr b (fun ex fr1 S1 ha hk=>?_) h
  cases ex with
  |normal=>exact hK _ _ _ ha hk
  |ret=>exact hK _ _ _ ha hk
  |exit j=>
   simp only[TA] at hk ⊢;split at hk
   ·exact hK _ _ _ ha hk
   ·exact hK _ _ _ ha hk
 | .loop c,K,K',fr,S,hK,h=>by
  simp only[W,DK] at h ⊢;obtain⟨J,h0,hJ⟩:=h;refine⟨J,h0,fun n v b S1 hj=>?_⟩
  refine KJ hCa hDr c (fun ex fr1 S2 ha hk=>?_) (hJ n v b S1 hj)
  have hb:Agr (Fb C f c) (Hj C f c) fr fr1:=((Rw _ _ fr v b).trans ha).mono (fun t ht=>(List.mem_append.1 ht).elim id id) (fun t ht=>(List.mem_append.1 ht).elim id id)
  cases ex with
  |normal=>exact hk
  |exit id=>exact hK _ _ _ hb hk
  |ret=>exact hK _ _ _ hb hk
 | .exit id,K,K',fr,S,hK,h=>hK _ _ _ (Agr.refl _ _ _) h
 | .ret,K,K',fr,S,hK,h=>hK _ _ _ (Agr.refl _ _ _) h
 | .rangeFunc ..,K,K',fr,S,hK,h=>h
 | .scope _,K,K',fr,S,hK,h=>h
 | .label _,K,K',fr,S,hK,h=>h
 | .goto _,K,K',fr,S,hK,h=>h
 | .refuse _,K,K',fr,S,hK,h=>h
end
variable {E:Env} {f n:Nat} {Gs G:Gh} {ws w:World} {S:St} {a:Act} {fr:Fr} {before:List Oper}
theorem YN{P:Program}{o:Oper}{next:Act→World→Prop}{Q:Exit→Act→World→Prop}(h:o.wp P a w (fun a' w'=>(∀j,o.dst≠some j→a'.tmps[j]? =a.tmps[j]?)→next a' w') Q):o.wp P a w next Q:=by
 have hput:∀(b:Act) (v:Value),b.tmps=a.tmps→∀j,o.dst≠some j→(b.put o.dst v).tmps[j]? =a.tmps[j]?:=by
  intro b v hb j hj;cases hd:o.dst with
  |none=>simp[Act.put,hb]
  |some d=>
   have:d≠j:=fun e=>hj (by rw[hd,e])
   simp[Act.put,hb,this]
 unfold Oper.wp at h ⊢
 revert h
 generalize (execOp a.eval o).run P w=r;intro h;unfold Oper.upon at h ⊢;split at h
 ·exact h (hput a _ rfl)
 ·exact h (hput a _ rfl)
 ·exact h (hput _ _ rfl)
 ·refine h.mono fun e w'=>?_
  intro hh;cases e with
  |returned v=>exact hh (hput a _ rfl)
  |panicked c=>exact hh
  |outgrown=>exact hh
 ·exact h.mono fun v w' hh=>hh (hput a _ rfl)
 ·exact h
 ·exact h
theorem R7{ops:Array Oper}{tmps:Array Value}{j:Nat}{b:Bool}:yielded ops tmps j=some b↔∃d,(ops[j]?).bind (·.dst)=some d∧tmps[d]? =some (.bool b):=by
 unfold yielded;constructor
 ·intro h;split at h
  ·rename_i b' hb;cases h;rw[Option.bind_eq_some_iff] at hb;exact hb
  ·cases h
 ·rintro⟨d,h1,h2⟩;rw[h1];simp[h2]
theorem DG{ops:Array Oper}{j:Nat}{b:Bool}(h:FrR E f n G w a fr)(hy:CN ops fr j= .bool b):yielded ops a.tmps j=some b:=by
 unfold CN at hy;split at hy
 ·rename_i d hd;have:=(h.slot d).vr;rw[hy] at this;have hv:=this.bool_inv;refine R7.2 ⟨d,hd,?_⟩;simp only[Act.at,Array.getD_eq_getD_getElem?] at hv;cases hq:a.tmps[d]? with
  |none=>rw[hq] at hv;cases hv
  |some v=>rw[hq] at hv;simp at hv;rw[hv]
 ·cases hy
theorem RF.skip(h:RF E f n Gs ws G w S a fr before){o:Oper}(hd:∀d,o.dst=some d→d < n):RF E f n Gs ws G w S (a.put o.dst undef) (fr.skip E.C f o.dst) ({o with op:=.ready 0}::before):=by
 have hat:=fun t=>Act.at_put h.frr.size (v:=undef) hd t
 have hv:∀t,(fr.skip E.C f o.dst).v t=if o.dst=some t then .tup [] else fr.v t:=by
  intro t;unfold Fr.skip;split
  ·rename_i d e;have:(if o.dst=some t then AV.tup [] else fr.v t)=if t=d then .tup [] else fr.v t:=by
    rw[e];by_cases e1:t=d<;>simp[e1,eq_comm]
   rw[this];split<;>rfl
  ·rename_i e;rw[e];simp
 have hb:∀t cs,(fr.skip E.C f o.dst).b t=some cs→fr.b t=some cs∧(o.dst=some t→E.C.loc f t=false):=by
  intro t cs;unfold Fr.skip;split
  ·rename_i d e;split
   ·rename_i hl;intro hh;simp only[Fr.set,Fr.setB] at hh
    by_cases e1:t=d
    ·simp[e1] at hh
    ·simp only[e1,if_false] at hh;exact⟨hh,fun e2=>by rw[e] at e2;cases e2;exact(e1 rfl).elim⟩
   ·rename_i hl;intro hh;exact⟨hh,fun e2=>by rw[e] at e2;cases e2;exact hl⟩
  ·rename_i e;intro hh;exact⟨hh,fun e2=>by rw[e] at e2;cases e2⟩
 have hbox:∀t cs,(fr.skip E.C f o.dst).b t=some cs→o.dst≠some t:=fun t cs hh e=>by
  obtain⟨h1,h2⟩:=hb t cs hh;have:=(h.frr.box t cs h1).1;rw[h2 e] at this;cases this
 refine⟨h.rel,⟨by rw[Act.defers_put];exact h.frr.defers,by rw[Act.size_put];exact h.frr.size,fun t=>?_,fun t cs hh=>?_⟩,h.kept,fun x b off hr cs hcs=>?_⟩
 ·rw[hat,hv];split
  ·exact⟨.tup [] #[] rfl (fun i x v hx=>by simp at hx),.of_not rfl,by simp,fun cs vs e1 e2 i x u hx=>by cases e1;simp at hx,fun cs e x hx=>by cases e;simp at hx⟩
  ·exact h.frr.slot t
 ·rw[hat,if_neg (hbox t cs hh)];exact h.frr.box t cs (hb t cs hh).1
 ·have hnb:=hbox b cs hcs;have hcs':=(hb b cs hcs).1;rw[hat b,if_neg hnb,hat x];simp only[AD] at hr;split at hr
  ·cases hr;rw[if_neg hnb];obtain⟨blk,hblk⟩:=h.hbox _ _ hcs';exact⟨blk,hblk,hblk⟩
  ·split at hr
   ·simp[BF] at hr
   ·rename_i hde;have hnx:o.dst≠some x:=fun e=>by
     have:C6 ({o with op:=.ready 0}:Oper) x=true:=Ej.2 e
     rw[this] at hde;cases hde
    rw[if_neg hnx];split at hr
    ·rename_i h1;split at hr
     ·cases hr
     ·cases hr;exact h.pr _ _ _ h1 cs hcs'
    ·cases hr
theorem RF.reset(h:RF E f n Gs ws G w S a fr before):RF E f n Gs ws G w S a fr []:=
 ⟨h.rel,h.frr,h.kept,fun x b off hr cs hcs=>by
  simp only[AD] at hr;split at hr
  ·cases hr;obtain⟨blk,hblk⟩:=h.hbox _ _ hcs;exact⟨blk,hblk,hblk⟩
  ·cases hr⟩
theorem HE{ops:Array Oper}{j:Nat}(h:FrR E f n G w a fr)(hy:CN ops fr j= .tup []):yielded ops a.tmps j=none:=by
 unfold CN at hy;unfold yielded;split at hy
 ·rename_i d hd;have:=(h.slot d).vr;rw[hy] at this;rw[hd];simp only[Option.bind_some];simp only[Act.at,Array.getD_eq_getD_getElem?] at this;cases hq:a.tmps[d]? with
  |none=>rfl
  |some v=>
   rw[hq] at this;simp only[Option.getD_some] at this;cases this;rfl
 ·cases hy
theorem OX:∀{dec:List (Nat×Option Bool)} {j:Nat} {b:Option Bool},decided j dec=some b→(j,b)∈dec
 |[],j,b,h=>by simp[decided] at h
 |p::l,j,b,h=>by
  simp only[decided] at h;split at h
  ·rename_i e;cases h;have:=Nat.eq_of_beq_eq_true e;rw[←this];simp
  ·exact List.mem_cons_of_mem _ (OX h)
theorem QP{ops:Array Oper}{o:Oper}{dec:List (Nat×Option Bool)}{a':Act}(hdec:∀p∈dec,yielded ops a.tmps p.1=p.2)(hsame:∀j,o.dst≠some j→a'.tmps[j]? =a.tmps[j]?):
  ∀p∈GU ops o dec,yielded ops a'.tmps p.1=p.2:=by
 intro p hp;unfold GU at hp;rw[List.mem_filter] at hp;rw[←hdec p hp.1];have h2:=hp.2;unfold yielded;cases hq:(ops[p.1]?).bind (·.dst) with
 |none=>rfl
 |some d=>
  simp only[Option.bind_some];rw[hsame d ?_];intro e;simp only[aW,hq,e,Bool.not_eq_true'] at h2;simp at h2
theorem L7(A:Agree E){Ca:Nat→List AV→St→(AV→St→Prop)→Prop}(hCa:HH E Ca){ops:Array Oper}{all:List Oper}{K:Fr→St→Prop}{Q:Exit→Act→World→Prop}(hK:∀G' w' S' a' fr',RF E f n Gs ws G' w' S' a' fr' []→K fr' S'→Q .normal a' w'):
  ∀{l:List Oper} {dec:List (Nat×Option Bool)} {before:List Oper} {fr:Fr} {S:St} {G:Gh} {w:World} {a:Act},(∀o∈l,(∀d,o.dst=some d→d < n)∧∀t∈CL E.C o,E.C.has t=true)→RF E f n Gs ws G w S a fr before→
   (∀p∈dec,yielded ops a.tmps p.1=p.2)→Jy E.C Ca f ops all K dec before l fr S→wpList E.P ops Q l a w
 |[],dec,before,fr,S,G,w,a,hsub,h,hdec,hw=>hK _ _ _ _ _ h.reset hw
 |o::l,dec,before,fr,S,G,w,a,hsub,h,hdec,hw=>by
  have ho:=hsub o (by simp)
  have hsub':=fun o' ho'=>hsub o' (List.mem_cons_of_mem _ ho')
  have hrun:∀dec',(∀p∈dec',yielded ops a.tmps p.1=p.2)→Region.wanted o (yielded ops a.tmps)=true→(match Mf E.C f o with
   |true=>opW E.C Ca f before (Ek E.C f all o.dst) o fr S (Jy E.C Ca f ops all K (GU ops o dec') (o::before) l)
   |false=>False)→wpList E.P ops Q (o::l) a w:=by
   intro dec' hdec' hwant hw;unfold wpList;rw[if_pos hwant];left;split at hw
   ·rename_i hok;refine YN (Rf A hCa h _ ho.1 hok ho.2 hw (next:=fun a' w'=>(∀j,o.dst≠some j→a'.tmps[j]? =a.tmps[j]?)→wpList E.P ops Q l a' w') (fun G' w' S' a' fr' hrf hk hsame=>?_))
    exact L7 A hCa hK hsub' hrf (QP hdec' hsame) hk
   ·exact hw.elim
  have hskip:∀dec',(∀p∈dec',yielded ops a.tmps p.1=p.2)→Region.wanted o (yielded ops a.tmps)=false→Jy E.C Ca f ops all K (GU ops o dec') ({o with op:=.ready 0}::before) l (fr.skip E.C f o.dst) S→wpList E.P ops Q (o::l) a w:=by
   intro dec' hdec' hwant hw;unfold wpList;rw[if_neg (by rw[hwant];simp)]
   refine L7 A hCa hK hsub' (h.skip ho.1) (QP hdec' fun j hj=>?_) hw
   cases hd:o.dst with
   |none=>simp[Act.put]
   |some d=>
    have:d≠j:=fun e=>hj (by rw[hd,e])
    simp[Act.put,this]
  unfold Jy at hw;dsimp only at hw hskip;generalize ({dst:=o.dst,op:=Op.ready 0,type:=o.type,pos:=o.pos,after:=o.after,guard:=o.guard}::before:List Oper)=bs at hskip hw;cases hg:o.guard with
  |none=>rw[hg] at hw;exact hrun _ hdec (by simp[Region.wanted,hg]) hw
  |some p=>
   obtain⟨j,want⟩:=p;have hwd:∀q,yielded ops a.tmps j=q→Region.wanted o (yielded ops a.tmps)=(q==some want):=fun q hq=>by
    simp only[Region.wanted,hg,hq]
   rw[hg] at hw;dsimp only at hw;cases hd:decided j dec with
   |some q=>
    rw[hd] at hw;have hy:=hdec _ (OX hd);have hwd':=hwd q hy;cases q with
    |none=>exact hskip _ hdec (by rw[hwd'];rfl) hw
    |some b=>cases b<;>cases want<;>first|exact hrun _ hdec (by rw[hwd'];rfl) hw|exact hskip _ hdec (by rw[hwd'];rfl) hw
   |none=>
    rw[hd] at hw;have hmore:∀q,yielded ops a.tmps j=q→∀p∈(j,q)::dec,yielded ops a.tmps p.1=p.2:=fun q hq p hp=>by
     rcases List.mem_cons.1 hp with rfl|hp
     ·exact hq
     ·exact hdec p hp
    cases want with
    |true=>
     dsimp only at hw;rcases Gk hw with ⟨hy,hw⟩|⟨hy,hw⟩|⟨hy,_,hw⟩
     ·have hyy:=DG h.frr hy;exact hrun _ (hmore _ hyy) (by rw[hwd _ hyy];rfl) hw
     ·have hyy:=DG h.frr hy;exact hskip _ (hmore _ hyy) (by rw[hwd _ hyy];rfl) hw
     ·have hyy:=HE h.frr hy;exact hskip _ (hmore _ hyy) (by rw[hwd _ hyy];rfl) hw
    |false=>
     dsimp only at hw;rcases Gk hw with ⟨hy,hw⟩|⟨hy,hw⟩|⟨hy,_,hw⟩
     ·have hyy:=DG h.frr hy;exact hskip _ (hmore _ hyy) (by rw[hwd _ hyy];rfl) hw
     ·have hyy:=DG h.frr hy;exact hrun _ (hmore _ hyy) (by rw[hwd _ hyy];rfl) hw
     ·have hyy:=HE h.frr hy;exact hskip _ (hmore _ hyy) (by rw[hwd _ hyy];rfl) hw
def O5(E:Env)(f n:Nat)(Dr:Array Oper→(Fr→St→Prop)→Fr→St→Prop):Prop:=
 ∀(ops:Array Oper) (id:Nat) (K:Fr→St→Prop) (fr:Fr) (S:St) (Gs:Gh) (ws:World) (G:Gh) (w:World) (a:Act) (Q:Exit→Act→World→Prop),
  (∀o∈ops.toList,(∀d,o.dst=some d→d < n)∧∀t∈CL E.C o,E.C.has t=true)→RF E f n Gs ws G w S a fr []→Dr ops K fr S→
  (∀G' w' S' a' fr',RF E f n Gs ws G' w' S' a' fr' []→K fr' S'→Q .normal a' w')→(Code.region id ops true).wp E.P Q a w
def Ex.to:Ex→Exit
 | .normal=>.normal
 | .exit id=>.exit id
 | .ret=>.ret
theorem least(p:Nat→Prop)(h:∃k,p k):∃k,p k∧∀m,p m→k≤m:=by
 obtain⟨k,hk⟩:=h
 induction k using Nat.strongRecOn with
 |_ k ih=>
  by_cases he:∃m,m < k∧p m
  ·obtain⟨m,hm,hp⟩:=he;exact ih m hm hp
  ·exact⟨k,hk,fun m hm=>Nat.le_of_not_lt fun hlt=>he ⟨m,hlt,hm⟩⟩
theorem Xw{P:Program}{c:Code}{Q:Exit→Act→World→Prop}{a:Act}{w:World}(I:Nat→Act→World→Prop)(h0:∃k,I k a w)
  (round:∀k a w,I k a w→c.wp P (Exit.then (fun a' w'=>∃m,m < k∧I m a' w') Q) a w):(Code.loop c).wp P Q a w:=by
 classical
 let μ:Act→World→Nat:=fun a w=>if h:∃k,I k a w then Classical.choose (least _ h) else 0
 have hμ:∀a w,(h:∃k,I k a w)→I (μ a w) a w:=fun a w h=>by simp only[μ,dif_pos h];exact(Classical.choose_spec (least _ h)).1
 have hle:∀a w k,I k a w→μ a w≤k:=fun a w k h=>by
  have he:∃k,I k a w:=⟨k,h⟩;simp only[μ,dif_pos he];exact(Classical.choose_spec (least _ he)).2 k h
 refine wp_loop (fun a w=>∃k,I k a w) μ h0 fun a w h=>?_
 refine wp_mono (round _ a w (hμ a w h)) fun e a' w' hq=>?_
 cases e with
 |normal=>
  obtain⟨m,hm,hi⟩:=hq;exact⟨⟨m,hi⟩,Nat.lt_of_le_of_lt (hle a' w' m hi) hm⟩
 |_=>exact hq
def codeOk(E:Env)(n:Nat)(c:Code):Prop:=(∀d∈RR c,d < n)∧∀t∈N2 E.C c,E.C.has t=true
theorem Rk{n:Nat}{id:Nat}{ops:Array Oper}{b:Bool}(h:codeOk E n (.region id ops b)):∀o∈ops.toList,(∀d,o.dst=some d→d < n)∧∀t∈CL E.C o,E.C.has t=true:=fun o ho=>
 ⟨fun d hd=>h.1 d (List.mem_flatMap.2 ⟨o,ho,by simp[hd]⟩),fun t ht=>h.2 t (List.mem_flatMap.2 ⟨o,ho,ht⟩)⟩
theorem I6(A:Agree E){Ca:Nat→List AV→St→(AV→St→Prop)→Prop}(hCa:HH E Ca)(hM:CX Ca){Dr:Array Oper→(Fr→St→Prop)→Fr→St→Prop}(hDr:O5 E f n Dr)(hDm:MI E.C f Dr):
  ∀(c:Code) {K:Ex→Fr→St→Prop} {Q:Exit→Act→World→Prop} {fr:Fr} {S:St} {G:Gh} {w:World} {a:Act},codeOk E n c→RF E f n Gs ws G w S a fr []→W E.C Ca f Dr c K fr S→
   (∀ex G' w' S' a' fr',RF E f n Gs ws G' w' S' a' fr' []→K ex fr' S'→Q ex.to a' w')→c.wp E.P Q a w
 | .skip,K,Q,fr,S,G,w,a,hc,h,hw,hK=>wp_skip (hK .normal _ _ _ _ _ h hw)
 | .region id ops false,K,Q,fr,S,G,w,a,hc,h,hw,hK=>wp_region_list (L7 A hCa (fun G' w' S' a' fr' hr hk=>hK .normal _ _ _ _ _ hr hk) (Rk hc) h (by simp) hw)
 | .region id ops true,K,Q,fr,S,G,w,a,hc,h,hw,hK=>hDr ops id (K .normal) fr S Gs ws G w a Q (Rk hc) h hw (fun G' w' S' a' fr' hr hk=>hK .normal _ _ _ _ _ hr hk)
 | .seq x y,K,Q,fr,S,G,w,a,hc,h,hw,hK=>by
  refine wp_seq (I6 A hCa hM hDr hDm x ⟨fun d hd=>hc.1 d (List.mem_append_left _ hd),fun t ht=>hc.2 t (List.mem_append_left _ ht)⟩ h hw fun ex G' w' S' a' fr' hr hk=>?_)
  cases ex with
  |normal=>exact I6 A hCa hM hDr hDm y ⟨fun d hd=>hc.1 d (List.mem_append_right _ hd),fun t ht=>hc.2 t (List.mem_append_right _ ht)⟩ hr hk hK
  |exit id=>exact hK (.exit id) _ _ _ _ _ hr hk
  |ret=>exact hK .ret _ _ _ _ _ hr hk
 | .cond c x y,K,Q,fr,S,G,w,a,hc,h,hw,hK=>by
  simp only[W,ifK] at hw;have hv:=h.frr.opdV 4 c;split at hw
  ·rename_i hb;rw[hb] at hv;exact wp_cond_true hv.bool_inv (I6 A hCa hM hDr hDm x ⟨fun d hd=>hc.1 d (List.mem_append_left _ hd),fun t ht=>hc.2 t (List.mem_append_left _ ht)⟩ h hw hK)
  ·rename_i hb;rw[hb] at hv;exact wp_cond_false hv.bool_inv (I6 A hCa hM hDr hDm y ⟨fun d hd=>hc.1 d (List.mem_append_right _ hd),fun t ht=>hc.2 t (List.mem_append_right _ ht)⟩ h hw hK)
  ·exact hw.elim
 | .block id b,K,Q,fr,S,G,w,a,hc,h,hw,hK=>by
  refine wp_block (I6 A hCa hM hDr hDm b hc h hw fun ex G' w' S' a' fr' hr hk=>?_)
  cases ex with
  |normal=>exact hK .normal _ _ _ _ _ hr hk
  |ret=>exact hK .ret _ _ _ _ _ hr hk
  |exit j=>
   simp only[TA] at hk;simp only[Ex.to,Exit.inBlock];split at hk
   ·rename_i e;rw[if_pos (Nat.eq_of_beq_eq_true e)];exact hK .normal _ _ _ _ _ hr hk
   ·rename_i e;rw[if_neg (fun e'=>by subst e';simp at e)]
    exact hK (.exit j) _ _ _ _ _ hr hk
 | .loop c,K,Q,fr,S,G,w,a,hc,h,hw,hK=>by
  simp only[W,DK] at hw;obtain⟨J,⟨k0,h0⟩,hJ⟩:=hw;refine Xw (fun k a w=>∃G S fr',RF E f n Gs ws G w S a fr' []∧Agr (Fb E.C f c) (Hj E.C f c) fr fr'∧J k (proj (E.C.live f (Dy c)) fr') S) ⟨k0,G,S,fr,h,Agr.refl _ _ _,h0⟩ fun k a1 w1 hI=>?_
  obtain⟨G1,S1,fr1,hr1,hag,hj⟩:=hI;have hmix:=Ll hag;have hbody:=hJ k fr1.v fr1.b S1 (by rw[hmix];exact hj)
  rw[hmix] at hbody;have hbody2:=KJ (K':=fun ex fr2 S2=>aT (E.C.live f (Dy c)) (fun x S'=>∃m,m < k∧J m x S') K ex fr2 S2∧Agr (Fb E.C f c) (Hj E.C f c) fr1 fr2) hM hDm c (fun ex fr2 S2 ha hk=>⟨hk,ha⟩) hbody
  refine I6 A hCa hM hDr hDm c hc hr1 hbody2 fun ex G' w' S' a' fr' hr hk=>?_
  obtain⟨hk,hag2⟩:=hk;cases ex with
  |normal=>
   obtain⟨m,hm,hjm⟩:=hk;exact⟨m,hm,G',S',fr',hr,(hag.trans hag2).mono (fun t ht=>(List.mem_append.1 ht).elim id id) (fun t ht=>(List.mem_append.1 ht).elim id id),hjm⟩
  |exit id=>exact hK (.exit id) _ _ _ _ _ hr hk
  |ret=>exact hK .ret _ _ _ _ _ hr hk
 | .exit id,K,Q,fr,S,G,w,a,hc,h,hw,hK=>wp_exit (hK (.exit id) _ _ _ _ _ h hw)
 | .ret,K,Q,fr,S,G,w,a,hc,h,hw,hK=>wp_ret (hK .ret _ _ _ _ _ h hw)
 | .rangeFunc ..,K,Q,fr,S,G,w,a,hc,h,hw,hK=>hw.elim
 | .scope _,K,Q,fr,S,G,w,a,hc,h,hw,hK=>hw.elim
 | .label _,K,Q,fr,S,G,w,a,hc,h,hw,hK=>hw.elim
 | .goto _,K,Q,fr,S,G,w,a,hc,h,hw,hK=>hw.elim
 | .refuse _,K,Q,fr,S,G,w,a,hc,h,hw,hK=>hw.elim
section order
variable (C:Ctx) (f:Nat) (ops:Array Oper)
def dH(o:Oper):Nat:=
 match dD C f ops o with
 |true=>(match (SW C f ops o).all (fun t=>o.dst.toList.elem t)&&(SB C f ops o).all (fun t=>o.dst.toList.elem t) with|true=>0|false=>1)
 |false=>2
def entries(T:List Nat):Nat→List Oper→List (Nat×Nat×Nat)
 |_,[]=>[]
 |i,o::l=>(i,T.getD i 0,dH C f ops o)::entries T (i+1) l
def SL(done:Nat)(c:Nat)(e:Nat×Nat×Nat):Bool:=Nat.ble e.2.2 c&&Nat.beq (Nat.land e.2.1 done) e.2.1
def V7:Nat→Nat→List (Nat×Nat×Nat)→List Nat
 |0,_,_=>[]
 |n+1,done,es=>match (es.find? (SL done 0)).orElse fun _=>(es.find? (SL done 1)).orElse fun _=>es.find? (SL done 2) with
  |some e=>e.1::V7 n (done|||(1 <<< e.1)) (es.filter fun x=>!(Nat.beq x.1 e.1))
  |none=>[]
def XQ(T:List Nat):List Oper→List Nat→Bool
 |[],[]=>true
 |o::l,m::ms=>Nat.beq m (H6 T o.after.toList)&&XQ T l ms
 |_,_=>false
def bwd:Nat→List Oper→Bool
 |_,[]=>true
 |i,o::l=>(o.after.toList.all fun e=>!(Region.binds .any e)||Nat.blt e.on i)&&bwd (i+1) l
def ar(T order:List Nat):Bool:=
 Nat.beq order.length ops.size&&(List.range ops.size).all (fun i=>order.elem i)&&nodupB order&&order.all (fun i=>Nat.blt i ops.size)&&nodupB (ops.toList.flatMap fun o=>o.dst.toList)&&XQ T ops.toList T&&bwd 0 ops.toList&&NF C f ops T order
end order
section
variable {C:Ctx} {Ca:Nat→List AV→St→(AV→St→Prop)→Prop} {f:Nat} {ops:Array Oper} {fr g:Fr} {S:St} {K:Fr→St→Prop} {B B2:List Oper} {T order:List Nat}
theorem Ls:∀{l:List Nat},nodupB l=true→l.Nodup
 |[],_=>List.nodup_nil
 |x::l,h=>by
  simp only[nodupB,Bool.and_eq_true,Bool.not_eq_true'] at h;refine List.nodup_cons.2 ⟨fun e=>?_,Ls h.2⟩
  have:=h.1;simp at this;exact this e
theorem aA(h:nodupB (ops.toList.flatMap fun o=>o.dst.toList)=true):uniq ops:=by
 have hn:=Ls h;intro i j o o' d hi hj e e';have hi':ops.toList[i]? =some o:=by simpa using hi
 have hj':ops.toList[j]? =some o':=by simpa using hj
 clear h hi hj;generalize ops.toList=l at hn hi' hj'
 induction l generalizing i j with
 |nil=>simp at hi'
 |cons a l ih=>
  simp only[List.flatMap_cons,List.nodup_append] at hn;cases i with
  |zero=>
   cases j with
   |zero=>rfl
   |succ j=>
    simp at hi' hj';subst hi';exact(hn.2.2 d (by rw[e];simp) d (List.mem_flatMap.2 ⟨o',List.mem_of_getElem? hj',by rw[e'];simp⟩) rfl).elim
  |succ i=>
   cases j with
   |zero=>
    simp at hi' hj';subst hj';exact(hn.2.2 d (by rw[e'];simp) d (List.mem_flatMap.2 ⟨o,List.mem_of_getElem? hi',by rw[e];simp⟩) rfl).elim
   |succ j=>
    simp at hi' hj';rw[ih i j hn.2.1 hi' hj']
theorem UF:∀{l:List Oper} {ms:List Nat},XQ T l ms=true→∀(i:Nat) (o:Oper),l[i]? =some o→ms.getD i 0=H6 T o.after.toList
 |[],[],_,i,o,h=>by simp at h
 |a::l,m::ms,h,i,o,hi=>by
  simp only[XQ,Bool.and_eq_true] at h;cases i with
  |zero=>simp at hi;subst hi;simpa using Nat.eq_of_beq_eq_true h.1
  |succ i=>simpa using UF h.2 i o (by simpa using hi)
 |[],_::_,h,_,_,_=>by simp[XQ] at h
 |_::_,[],h,_,_,_=>by simp[XQ] at h
theorem WX:∀{l:List Oper} {k:Nat},bwd k l=true→∀(i:Nat) (o:Oper),l[i]? =some o→∀e∈o.after.toList,Region.binds .any e=true→e.on < k+i
 |[],k,_,i,o,h=>by simp at h
 |a::l,k,h,i,o,hi=>by
  simp only[bwd,Bool.and_eq_true] at h;cases i with
  |zero=>
   simp at hi;subst hi;intro e he hb;have:=List.all_eq_true.1 h.1 e he;rw[hb] at this;simpa using this
  |succ i=>
   have:=WX h.2 i o (by simpa using hi)
   intro e he hb;have:=this e he hb;omega
theorem N8{x:Nat}:∀{es:List Edge},Nat.testBit (H6 T es) x=true→∃e∈es,Region.binds .any e=true∧(x=e.on∨Nat.testBit (T.getD e.on 0) x=true)
 |[],h=>by simp[H6] at h
 |e::es,h=>by
  simp only[H6,Nat.testBit_or,Bool.or_eq_true] at h;rcases h with h|h
  ·cases hb:Region.binds .any e with
   |true=>
    rw[hb] at h;simp only[Nat.testBit_or,Bool.or_eq_true] at h;refine⟨e,by simp,hb,h.imp (fun h=>?_) id⟩
    rw[Nat.testBit_shiftLeft] at h;simp only[Bool.and_eq_true,decide_eq_true_eq] at h;have h2:=h.2;rw[Nat.testBit_one_eq_true_iff_self_eq_zero] at h2;omega
   |false=>rw[hb] at h;simp at h
  ·obtain⟨e',h1,h2⟩:=N8 h;exact⟨e',List.mem_cons_of_mem _ h1,h2⟩
structure Z2(C:Ctx)(f:Nat)(ops:Array Oper)(T order:List Nat):Prop where
 len:order.length=ops.size
 all:∀i,i < ops.size→i∈order
 nodup:order.Nodup
 lt:∀i∈order,i < ops.size
 uniq:uniq ops
 mask:∀(i:Nat) (o:Oper),ops[i]? =some o→T.getD i 0=H6 T o.after.toList
 back:∀(i:Nat) (o:Oper),ops[i]? =some o→∀e∈o.after.toList,Region.binds .any e=true→e.on < i
 pair:∀x i,[x,i].Sublist order→MO C f ops T x i=true
 trip:∀y x i,[y,x,i].Sublist order→∀ox oy,ops[x]? =some ox→ops[y]? =some oy→dD C f ops ox=true→need C f ops T y i=true→quiet C f ops ox oy=true
theorem KN{y:Nat}:∀{l:List Nat},Kt C f ops T y l=true→∀x i,[x,i].Sublist l→∀ox oy,ops[x]? =some ox→ops[y]? =some oy→dD C f ops ox=true→need C f ops T y i=true→quiet C f ops ox oy=true
 |[],_,x,i,h=>by simp at h
 |z::l,h,x,i,hs=>by
  simp only[Kt,Bool.and_eq_true] at h;intro ox oy e1 e2 e3 e4;cases hs with
  |cons _ hs=>exact KN h.2 x i hs ox oy e1 e2 e3 e4
  |cons_cons _ hs=>
   have h1:=h.1;rw[e1,e2] at h1;simp only[Bool.or_eq_true,Bool.not_eq_true',e3] at h1;rcases h1 with (h1|h1)|h1
   ·cases h1
   ·rw[List.any_eq_false] at h1;exact(h1 i (hs.subset (by simp)) e4).elim
   ·exact h1
theorem LS:∀{l:List Nat},NF C f ops T l=true→(∀x i,[x,i].Sublist l→MO C f ops T x i=true)∧
  (∀y x i,[y,x,i].Sublist l→∀ox oy,ops[x]? =some ox→ops[y]? =some oy→dD C f ops ox=true→need C f ops T y i=true→quiet C f ops ox oy=true)
 |[],_=>⟨fun x i h=>by simp at h,fun y x i h=>by simp at h⟩
 |z::l,h=>by
  simp only[NF,Bool.and_eq_true] at h;obtain⟨k1,k2⟩:=LS h.2;refine⟨fun x i hs=>?_,fun y x i hs=>?_⟩
  ·cases hs with
   |cons _ hs=>exact k1 x i hs
   |cons_cons _ hs=>exact List.all_eq_true.1 h.1.1 i (hs.subset (by simp))
  ·cases hs with
   |cons _ hs=>exact k2 y x i hs
   |cons_cons _ hs=>exact KN h.1.2 x i hs
theorem Rs(h:ar C f ops T order=true):Z2 C f ops T order:=by
 simp only[ar,Bool.and_eq_true] at h;obtain⟨⟨⟨⟨⟨⟨⟨h1,h0⟩,h2⟩,h3⟩,h4⟩,h5⟩,h6⟩,h7⟩:=h;obtain⟨k1,k2⟩:=LS h7;exact⟨Nat.eq_of_beq_eq_true h1,fun i hi=>by simpa using List.all_eq_true.1 h0 i (List.mem_range.2 hi),Ls h2,fun i hi=>by simpa using List.all_eq_true.1 h3 i hi,aA h4,fun i o hi=>UF h5 i o (by simpa using hi),
  fun i o hi e he hb=>by simpa using WX h6 i o (by simpa using hi) e he hb,k1,k2⟩
theorem mem_ready{listed:Array Bool}{i:Nat}:i∈Region.ready .any ops listed↔i < ops.size∧listed.getD i true=false∧∃o,ops[i]? =some o∧∀e∈o.after.toList,Region.binds .any e=true→listed.getD e.on false=true:=by
 unfold Region.ready;simp only[List.mem_filter,List.mem_range,Bool.and_eq_true,Bool.not_eq_true'];refine and_congr_right fun hi=>and_congr_right fun _=>?_
 rw[Array.getElem?_eq_getElem hi];simp only[Option.map_some,Option.getD_some,Option.some.injEq,exists_eq_left'];rw[←Array.all_toList,List.all_eq_true];refine forall_congr' fun e=>forall_congr' fun _=>?_
 cases Region.binds .any e<;>simp
structure Done(ops:Array Oper)(l:List Nat)(listed:Array Bool):Prop where
 size:listed.size=ops.size
 get:∀i,i < ops.size→∀d,listed.getD i d= !(decide (i∈l))
 closed:∀(i:Nat) (o:Oper),ops[i]? =some o→i ∉ l→∀e∈o.after.toList,Region.binds .any e=true→e.on ∉ l
theorem Done.bit(hd:Z2 C f ops T order){l:List Nat}{listed:Array Bool}(h:Done ops l listed):∀(i:Nat) {o:Oper},ops[i]? =some o→(∀e∈o.after.toList,Region.binds .any e=true→e.on ∉ l)→∀x,Nat.testBit (T.getD i 0) x=true→x ∉ l:=by
 intro i
 induction i using Nat.strongRecOn with
 |_ i ih=>
  intro o hi hdep x hx;rw[hd.mask i o hi] at hx;obtain⟨e,he,hb,hx⟩:=N8 hx;rcases hx with rfl|hx
  ·exact hdep e he hb
  ·have hlt:=hd.back i o hi e he hb;have hsz:i < ops.size:=(Array.getElem?_eq_some_iff.1 hi).1;have hee:=Array.getElem?_eq_getElem (xs:=ops) (show e.on < ops.size by omega)
   exact ih e.on hlt hee (h.closed _ _ hee (hdep e he hb)) x hx
theorem KE{x i:Nat}(hok:MO C f ops T x i=true){ox:Oper}(hx:ops[x]? =some ox)(hn:need C f ops T x i=true):watchable C f ops ox=true:=by
 unfold need at hn;unfold MO at hok;rw[hx] at hn hok;split at hn
 ·rename_i oy oi e1 e2;cases e1;rw[e2] at hok;simp only[Bool.and_eq_true,Bool.not_eq_true'] at hn hok;rw[hn.2] at hok;have:=hok.1;unfold II at this;simp only[Bool.false_or,Bool.and_eq_true,Bool.or_eq_true,Bool.not_eq_true',hn.1.1,hn.1.2,Bool.not_false,Bool.true_and] at this;rcases this.2 with h|h
  ·rcases h.2 with h|h
   ·simp at h
   ·exact h
  ·obtain⟨t,a,b,d,e,_,_,o1,_⟩:=PQ h;have hr:=hn.1.1;unfold rS Hc at hr;rw[o1] at hr;cases hr
 ·cases hn
theorem Ro(hCa:CX Ca)(hd:Z2 C f ops T order):∀(n:Nat) {l:List Nat} {listed:Array Bool} {B:List Oper} {fr:Fr} {S:St},l.length=n→In ops.toList B→B.length+l.length≤ops.size→l.Sublist order→Done ops l listed→
  EE C Ca f ops T K [] l B fr S→VD C Ca f ops K n listed B fr S
 |0,l,listed,B,fr,S,hn,hB,hl,hsub,hdone,h=>by
  have:l=[]:=List.eq_nil_of_length_eq_zero hn;subst this;refine⟨List.eq_nil_iff_forall_not_mem.2 fun i hi=>?_,h⟩
  obtain⟨k1,k2,_⟩:=mem_ready.1 hi;rw[hdone.get i k1] at k2;simp at k2
 |n+1,l,listed,B,fr,S,hn,hB,hl,hsub,hdone,h=>by
  have hs:=hd.uniq.ssa;have hlt:∀i∈l,i < ops.size:=fun i hi=>hd.lt i (hsub.subset hi)
  have hnd:l.Nodup:=hsub.nodup hd.nodup;refine⟨fun hr=>?_,fun i hi oi hoi=>?_⟩
  ·
   cases l with
   |nil=>simp at hn
   |cons x l=>
    have hx:=hlt x (by simp)
    have hox:=Array.getElem?_eq_getElem hx;have:x∈Region.ready .any ops listed:=by
     refine mem_ready.2 ⟨hx,by rw[hdone.get x hx];simp,_,hox,fun e he hb=>?_⟩
     have hlt':=hd.back x _ hox e he hb;rw[hdone.get e.on (by omega)]
     simp only[Bool.not_eq_true',decide_eq_false_iff_not,List.mem_cons,not_or];refine⟨by omega,fun hel=>?_⟩
     have hp:=hd.pair x e.on (List.Sublist.trans (List.Sublist.cons_cons x (by simpa using hel)) hsub)
     unfold MO at hp;rw[hox,Array.getElem?_eq_getElem (show e.on < ops.size by omega)] at hp
     simp only[Bool.and_eq_true,Bool.not_eq_true'] at hp;have hp2:=hp.2;unfold aV at hp2;rw[List.any_eq_false] at hp2;have:=hp2 e he;simp[hb] at this
    rw[hr] at this;simp at this
  ·obtain⟨k1,k2,o',k3,k4⟩:=mem_ready.1 hi;rw[hoi] at k3;cases k3;have hil:i∈l:=by
    have:=hdone.get i k1 true;rw[k2] at this;simpa using this.symm
   have hdep:∀e∈oi.after.toList,Region.binds .any e=true→e.on ∉ l:=fun e he hb=>by
    have h1:=k4 e he hb;rw[hdone.get e.on (by have:=hd.back i oi hoi e he hb;omega)] at h1
    simpa using h1
   obtain⟨l1,l2,rfl⟩:=List.append_of_mem hil;have hp2:∀x∈l1,[x,i].Sublist (l1++i::l2):=fun x hx=>(List.Sublist.append (l₁:=[x]) (r₁:=[i]) (by simpa using hx) (by simp):([x]++[i]).Sublist (l1++i::l2))
   have hni:∀x∈l1,x≠i:=fun x hx e=>by
    subst e;rw[List.nodup_append] at hnd;exact hnd.2.2 x hx x (by simp) rfl
   have hbit:∀x∈l1,Nat.testBit (T.getD i 0) x=false:=fun x hx=>by
    cases hb:Nat.testBit (T.getD i 0) x with
    |false=>rfl
    |true=>exact(hdone.bit hd i hoi hdep x hb (by simp[hx])).elim
   have hcp:∀x∈l1,∃ox,ops[x]? =some ox∧II C f ops ox oi=true∧x≠i∧Nat.testBit (T.getD i 0) x=false:=fun x hx=>by
    have hox:=Array.getElem?_eq_getElem (hlt x (by simp[hx]))
    refine⟨_,hox,?_,hni x hx,hbit x hx⟩;have:=hd.pair x i ((hp2 x hx).trans hsub);unfold MO at this;rw[hox,hoi] at this;simp only[hbit x hx,Bool.false_or,Bool.and_eq_true] at this;exact this.1
   have hb:=bubble (K:=K) hCa hd.uniq hoi (l2:=l2) (l1:=l1) (seen:=[]) hB hl hcp (by simp)
    (fun y x hsl ox oy e1 e2 e3=>⟨fun e=>by
      subst e;have:l1.Nodup:=(List.nodup_append.1 hnd).1;have:=hsl.nodup this;simp at this,
     hd.trip y x i ((List.Sublist.append (l₁:=[y,x]) (r₁:=[i]) hsl (by simp):([y,x]++[i]).Sublist (l1++i::l2)).trans hsub) ox oy e1 e2 (by
      obtain⟨ox',q1,q2,_⟩:=hcp x (hsl.subset (by simp))
      rw[e1] at q1;cases q1;unfold II at q2;simp only[Bool.and_eq_true] at q2;exact q2.1) e3⟩)
    (fun y hy oy e1 e2=>by
     rcases hy with hy|hy
     ·simp at hy
     ·exact KE (hd.pair y i ((hp2 y hy).trans hsub)) e1 e2) h
   refine Eg hCa hs hB (fun m fr' S' hm hk=>?_) hb
   have hlen:(l1++l2).length=n:=by simp at hn ⊢;omega
   refine Ro hCa hd n hlen (hB.cons (EL hoi) hm (by simp at hl ⊢;omega)) (by simp at hl ⊢;omega) (List.Sublist.trans (List.Sublist.append (List.Sublist.refl _) (List.sublist_cons_self _ _)) hsub) ?_ hk.2
   have hni2:i ∉ l1++l2:=by
    rw[List.nodup_append] at hnd;simp only[List.mem_append,not_or];exact⟨fun e=>hni i e rfl,(List.nodup_cons.1 hnd.2.1).1⟩
   refine⟨by simp[hdone.size],fun j hj d=>?_,fun j o hj hjl e he hbb=>?_⟩
   ·by_cases e:i=j
    ·subst e;simp[Array.getD_eq_getD_getElem?,hdone.size,hj];simpa using hni2
    ·have:=hdone.get j hj d;simp only[Array.getD_eq_getD_getElem?] at this ⊢;rw[Array.getElem?_setIfInBounds_ne e,this];simp[Ne.symm e]
   ·by_cases e':j=i
    ·subst e';rw[hoi] at hj;cases hj;have:=hdep e he hbb;simp only[List.mem_append,List.mem_cons,not_or] at this ⊢;exact⟨this.1,this.2.2⟩
    ·have:=hdone.closed j o hj (by simp only[List.mem_append,List.mem_cons,not_or] at hjl ⊢;exact⟨hjl.1,e',hjl.2⟩) e he hbb
     simp only[List.mem_append,List.mem_cons,not_or] at this ⊢;exact⟨this.1,this.2.2⟩
end
section
variable (C:Ctx) (Ca:Nat→List AV→St→(AV→St→Prop)→Prop) (f:Nat) (ops:Array Oper)
def stab(o:Oper)(B:List Oper)(fr:Fr)(S:St):Prop:=
 match o.dst with
 |some d=>C9 C Ca f ops B o (fun _ fr' _=>fr'.v d=fr.v d) fr S
 |none=>False
def Gz(B:List Oper)(fr:Fr)(S:St)(P:Prop):List Oper→Prop
 |[]=>P
 |y::l=>stab C Ca f ops y B fr S∧Gz B fr S P l
def Me(o:Oper)(dec:List (Nat×Option Bool)):List (Nat×Option Bool):=dec.filter fun p=>match (ops[p.1]?).bind (·.dst) with|some d=>!((SW C f ops o).elem d)|none=>true
def eag(T:List Nat)(K:Fr→St→Prop):List Nat→List (Nat×Option Bool)→List Nat→List Oper→Fr→St→Prop
 |_,_,[],_,fr,S=>K fr S
 |seen,dec,i::l,B,fr,S=>match ops[i]? with
  |some o=>
   let nxt (dec:List (Nat×Option Bool)):List Oper→Fr→St→Prop:=fun B' fr' S'=>Gz C Ca f ops B' fr' S' (eag T K (DT C f ops o i seen) (Me C f ops o dec) l B' fr' S') (pick ops (seen.filter fun y=>need C f ops T y i))
   match o.guard with
   |none=>FU C Ca f ops B o (nxt dec) fr S
   |some (j,want)=>match decided j dec with
    |some (some b)=>match b,want with
     |true,true|false,false=>FU C Ca f ops B o (nxt dec) fr S
     |_,_=>Di C f B o (nxt dec) fr S
    |some none=>Di C f B o (nxt dec) fr S
    |none=>match want with
     |true=>gG ((ops[j]?).bind (·.guard)) (CN ops fr j) (FU C Ca f ops B o (nxt ((j,some true)::dec)) fr S) (Di C f B o (nxt ((j,some false)::dec)) fr S) (Di C f B o (nxt ((j,none)::dec)) fr S)
     |false=>gG ((ops[j]?).bind (·.guard)) (CN ops fr j) (Di C f B o (nxt ((j,some true)::dec)) fr S) (FU C Ca f ops B o (nxt ((j,some false)::dec)) fr S) (Di C f B o (nxt ((j,none)::dec)) fr S)
  |none=>False
def ax(T order:List Nat)(K:Fr→St→Prop)(fr:Fr)(S:St):Prop:=
 match ar C f ops T order with
 |true=>eag C Ca f ops T K [] [] order [] fr S
 |false=>False
end
section
variable (C:Ctx) (Ca:Nat→List AV→St→(AV→St→Prop)→Prop) (f:Nat)
def Drw(ops:Array Oper)(K:Fr→St→Prop)(fr:Fr)(S:St):Prop:=
 ax C Ca f ops (mkT ops.toList []) (V7 ops.size 0 (entries C f ops (mkT ops.toList []) 0 ops.toList)) K fr S
end
section
variable {C:Ctx} {Ca:Nat→List AV→St→(AV→St→Prop)→Prop} {f:Nat} {ops:Array Oper} {fr g:Fr} {S:St} {K:Fr→St→Prop} {B B2:List Oper} {T order:List Nat} {o y:Oper}
theorem Pi:∀{dec:List (Nat×Option Bool)} {j:Nat} {b:Option Bool},decided j dec=some b→(j,b)∈dec
 |[],j,b,h=>by simp[decided] at h
 |p::l,j,b,h=>by
  simp only[decided] at h;split at h
  ·rename_i e;cases h;have:=Nat.eq_of_beq_eq_true e;rw[←this];simp
  ·exact List.mem_cons_of_mem _ (Pi h)
theorem UO(hCa:CX Ca)(hs:ssa ops.toList)(hB:In ops.toList B)(hw:watchable C f ops y=true)(h:stab C Ca f ops y B fr S):stable C Ca f ops y B fr S:=by
 obtain⟨d1,d2,d3,_⟩:=IC hw;unfold watchable at hw;simp only[Bool.and_eq_true,Mb] at hw;obtain⟨⟨⟨⟨_,s1⟩,s2⟩,s3⟩,s4⟩:=hw;obtain⟨d,hd⟩:=Option.isSome_iff_exists.1 s4;unfold stab at h;rw[hd] at h d2 d3 s3;simp only at h;obtain⟨m,L,LB,k1,k2,kd,k3,k4,k5⟩:=Kf hs hB d1 h;refine k5 B fr S _ (fun _ _=>rfl) (fun _ _=>rfl) (fun _ _=>rfl) (fun _=>rfl) ⟨Fr.ext' (fun t=>?_) (fun t=>?_),rfl⟩
 ·by_cases e:t∈L.map (·.1)
  ·obtain⟨p,hp,rfl⟩:=List.mem_map.1 e;have:=d2 _ (k2 p hp);simp at this;rw[this];exact k4
  ·exact F7 e
 ·refine FE fun e=>?_
  obtain⟨p,hp,rfl⟩:=List.mem_map.1 e;have h1:=d3 _ (k3 p hp).1;have h2:=List.all_eq_true.1 s3 _ h1;rw[(k3 p hp).2] at h2;cases h2
theorem Ln{P:Prop}:∀{l:List Oper},Gz C Ca f ops B fr S P l↔(∀y∈l,stab C Ca f ops y B fr S)∧P
 |[]=>by simp[Gz]
 |y::l=>by
  simp only[Gz,Ln (l:=l),List.mem_cons,forall_eq_or_imp];exact⟨fun h=>⟨⟨h.1,h.2.1⟩,h.2.2⟩,fun h=>⟨h.1.1,h.1.2,h.2⟩⟩
theorem PH(hg:o.guard=none){K:List Oper→Fr→St→Prop}(h:FU C Ca f ops B o K fr S):C9 C Ca f ops B o K fr S:=by
 unfold C9;rw[hg];exact h
def ao:Option Bool→AV|some b=>.bool b|none=>.tup []
def Uh(ops:Array Oper)(fr:Fr)(p:Nat×Option Bool):Prop:=CN ops fr p.1=ao p.2∧(p.2=none→((ops[p.1]?).bind (·.guard)).isSome=true)
theorem Ng{j:Nat}{b:Bool}(hg:o.guard=some (j,b))(hy:CN ops fr j= .bool b){K:List Oper→Fr→St→Prop}(h:FU C Ca f ops B o K fr S):C9 C Ca f ops B o K fr S:=by
 unfold C9;rw[hg];cases b<;>simp only[hy]<;>first|exact O7 h|exact NH h
theorem GF{j:Nat}{q:Option Bool}{w:Bool}(hg:o.guard=some (j,w))(hne:q≠some w)(hd:Uh ops fr (j,q)){K:List Oper→Fr→St→Prop}(h:Di C f B o K fr S):C9 C Ca f ops B o K fr S:=by
 obtain⟨hy,hgs⟩:=hd;simp only at hy hgs;unfold C9;rw[hg];cases q with
 |none=>cases w<;>simp only[hy,ao]<;>exact Yu (hgs rfl) h
 |some b=>cases b<;>cases w<;>simp only[hy,ao]<;>first|exact(hne rfl).elim|exact O7 h|exact NH h
theorem Rq(hCa:CX Ca)(hs:ssa ops.toList):∀{l seen:List Nat} {dec:List (Nat×Option Bool)} {B:List Oper} {fr:Fr} {S:St},In ops.toList B→B.length+l.length≤ops.size→
  (∀p∈dec,Uh ops fr p)→(∀y∈seen,∀i∈l,∀oy,ops[y]? =some oy→need C f ops T y i=true→watchable C f ops oy=true)→
  (∀y i,[y,i].Sublist l→∀oy,ops[y]? =some oy→need C f ops T y i=true→watchable C f ops oy=true)→
  eag C Ca f ops T K seen dec l B fr S→EE C Ca f ops T K seen l B fr S
 |[],seen,dec,B,fr,S,_,_,_,_,_,h=>h
 |i::l,seen,dec,B,fr,S,hB,hl,hdec,hw1,hw2,h=>by
  simp only[eag] at h;simp only[EE];cases hi:ops[i]? with
  |none=>rw[hi] at h;exact h
  |some o=>
   rw[hi] at h;simp only at h ⊢;simp only[List.length_cons] at hl;have fin:∀dec',(∀p∈dec',Uh ops fr p)→C9 C Ca f ops B o (fun B' fr' S'=>Gz C Ca f ops B' fr' S' (eag C Ca f ops T K (DT C f ops o i seen) (Me C f ops o dec') l B' fr' S') (pick ops (seen.filter fun y=>need C f ops T y i))) fr S→
     C9 C Ca f ops B o (fun B' fr' S'=>Lo C Ca f ops B' fr' S' (EE C Ca f ops T K (DT C f ops o i seen) l B' fr' S') (pick ops (seen.filter fun y=>need C f ops T y i))) fr S:=by
    intro dec' hdec' h;refine Ku hCa hs hB (fun m fr' S' hm g1 g2 g3 hk=>?_) h
    rw[Ln] at hk;rw[GL];have hBm:In ops.toList (m::B):=hB.cons (EL hi) hm (by simp;omega)
    refine⟨fun oy hy=>?_,Rq hCa hs hBm (by simp;omega) (fun p hp=>?_) (fun y hy i' hi'=>?_) (fun y i' hsl=>hw2 y i' (hsl.trans (List.sublist_cons_self _ _))) hk.2⟩
    ·obtain⟨y,hy1,hy2⟩:=Hp.1 hy;rw[List.mem_filter] at hy1;exact UO hCa hs hBm (hw1 y hy1.1 i (by simp) oy hy2 hy1.2) (hk.1 oy hy)
    ·unfold Me at hp;rw[List.mem_filter] at hp;obtain⟨h1,h0⟩:=hdec' p hp.1;have h2:=hp.2;refine⟨?_,h0⟩;unfold CN at h1 ⊢;cases hq:(ops[p.1]?).bind (·.dst) with
     |none=>rw[hq] at h1;exact h1
     |some d=>
      rw[hq] at h1 h2;simp only at h1 h2 ⊢;rw[g1 d (by simpa using h2)]
      exact h1
    ·unfold DT at hy;split at hy
     ·rcases List.mem_cons.1 hy with rfl|hy
      ·exact hw2 _ i' (List.Sublist.cons_cons _ (by simpa using hi'))
      ·exact hw1 y hy i' (List.mem_cons_of_mem _ hi')
     ·exact hw1 y hy i' (List.mem_cons_of_mem _ hi')
   cases hg:o.guard with
   |none=>rw[hg] at h;exact fin _ hdec (PH hg h)
   |some p=>
    obtain⟨j,want⟩:=p;rw[hg] at h;simp only at h;have hmore:∀q,Uh ops fr (j,q)→∀p∈(j,q)::dec,Uh ops fr p:=fun q hq p hp=>by
     rcases List.mem_cons.1 hp with rfl|hp
     ·exact hq
     ·exact hdec p hp
    cases hd:decided j dec with
    |some q=>
     rw[hd] at h;have hy:=hdec _ (Pi hd);cases q with
     |none=>exact fin _ hdec (GF (q:=none) hg (by simp) hy h)
     |some b=>cases b<;>cases want<;>first|exact fin _ hdec (Ng hg hy.1 h)|exact fin _ hdec (GF hg (by simp) hy h)
    |none=>
     rw[hd] at h;simp only at h;cases want with
     |true=>
      rcases Gk h with ⟨hy,h⟩|⟨hy,h⟩|⟨hy,hgs,h⟩
      ·exact fin _ (hmore (some true) ⟨hy,by simp⟩) (Ng hg hy h)
      ·exact fin _ (hmore (some false) ⟨hy,by simp⟩) (GF (q:=some false) hg (by simp) ⟨hy,by simp⟩ h)
      ·exact fin _ (hmore none ⟨hy,fun _=>hgs⟩) (GF (q:=none) hg (by simp) ⟨hy,fun _=>hgs⟩ h)
     |false=>
      rcases Gk h with ⟨hy,h⟩|⟨hy,h⟩|⟨hy,hgs,h⟩
      ·exact fin _ (hmore (some true) ⟨hy,by simp⟩) (GF (q:=some true) hg (by simp) ⟨hy,by simp⟩ h)
      ·exact fin _ (hmore (some false) ⟨hy,by simp⟩) (Ng hg hy h)
      ·exact fin _ (hmore none ⟨hy,fun _=>hgs⟩) (GF (q:=none) hg (by simp) ⟨hy,fun _=>hgs⟩ h)
theorem Vw(hCa:CX Ca)(hd:Z2 C f ops T order)(h:eag C Ca f ops T K [] [] order [] fr S):EE C Ca f ops T K [] order [] fr S:=
 Rq hCa hd.uniq.ssa ⟨by simp,by simp⟩ (by simp[hd.len]) (by simp) (by simp) (fun y i hsl oy e1 e2=>KE (hd.pair y i hsl) e1 e2) h
end
variable {E:Env} {f n:Nat} {Gs G:Gh} {ws w:World} {S:St} {a:Act} {fr:Fr} {before:List Oper}
def resOne(tmps:Array Value):ResultVar→Sem Value
 | .tmp t=>pure (tmps.getD t undef)
 | .cell a t=>do loadVar t (←asAddr (tmps.getD a undef))
def pack:List AV→AV
 |[x]=>x
 |xs=>.tup (xs.map AV.flat)
theorem Wg{C:Ctx}{rs:List ResultVar}{Q:AV→Prop}(h:Xu C rs fr Q):∃xs:List AV,xs.length=rs.length∧(∀(i:Nat) (r:ResultVar) (x:AV),rs[i]? =some r→xs[i]? =some x→Mh C fr r=some x)∧Q (pack xs):=by
 unfold Xu at h;split at h
 ·rename_i r;obtain⟨x,hx,h⟩:=AF h;refine⟨[x],rfl,fun i r' x' h1 h2=>?_,h⟩
  cases i with
  |zero=>simp at h1 h2;subst h1 h2;exact hx
  |succ i=>simp at h1
 ·exact⟨[],rfl,fun i r x h1=>by simp at h1,h⟩
 ·rename_i r r2;obtain⟨x,hx,h⟩:=AF h;obtain⟨x2,hx2,h⟩:=AF h;refine⟨[x,x2],rfl,fun i r' x' h1 h2=>?_,h⟩
  match i with
  |0=>simp at h1 h2;subst h1 h2;exact hx
  |1=>simp at h1 h2;subst h1 h2;exact hx2
  |i+2=>simp at h1
 ·rename_i r r2 r3;obtain⟨x,hx,h⟩:=AF h;obtain⟨x2,hx2,h⟩:=AF h;obtain⟨x3,hx3,h⟩:=AF h;refine⟨[x,x2,x3],rfl,fun i r' x' h1 h2=>?_,h⟩
  match i with
  |0=>simp at h1 h2;subst h1 h2;exact hx
  |1=>simp at h1 h2;subst h1 h2;exact hx2
  |2=>simp at h1 h2;subst h1 h2;exact hx3
  |i+3=>simp at h1
 ·rename_i r r2 r3 r4;obtain⟨x,hx,h⟩:=AF h;obtain⟨x2,hx2,h⟩:=AF h;obtain⟨x3,hx3,h⟩:=AF h;obtain⟨x4,hx4,h⟩:=AF h;refine⟨[x,x2,x3,x4],rfl,fun i r' x' h1 h2=>?_,h⟩
  match i with
  |0=>simp at h1 h2;subst h1 h2;exact hx
  |1=>simp at h1 h2;subst h1 h2;exact hx2
  |2=>simp at h1 h2;subst h1 h2;exact hx3
  |3=>simp at h1 h2;subst h1 h2;exact hx4
  |i+4=>simp at h1
 ·exact h.elim
def Vb(G:Gh)(w:World)(v:Value)(x:AV):ResultVar→Prop
 | .tmp t=>Bw G w (.slot t) (.slotc t) v x
 | .cell _ _=>VR G v x∧(∀cs,x≠ .tup cs)∧x.own=false∧∀cs,x= .agg cs→∀c∈cs,c.own=false
theorem N7{R:ResultVar→AV→Value→Prop}:∀{rs:List ResultVar} {xs:List AV},xs.length=rs.length→(∀(i:Nat) (r:ResultVar) (x:AV),rs[i]? =some r→xs[i]? =some x→∃v,R r x v)→
  ∃vs:List Value,vs.length=rs.length∧∀(i:Nat) (r:ResultVar) (x:AV) (v:Value),rs[i]? =some r→xs[i]? =some x→vs[i]? =some v→R r x v
 |[],xs,_,_=>⟨[],rfl,fun i r x v h=>by simp at h⟩
 |r::rs,[],h,_=>by simp at h
 |r::rs,x::xs,hl,h=>by
  obtain⟨v,hv⟩:=h 0 r x rfl rfl;obtain⟨vs,h1,h2⟩:=N7 (rs:=rs) (xs:=xs) (by simpa using hl) (fun i r x a b=>h (i+1) r x (by simpa using a) (by simpa using b))
  refine⟨v::vs,by simp[h1],fun i r' x' v' a b c=>?_⟩
  cases i with
  |zero=>simp at a b c;subst a b c;exact hv
  |succ i=>exact h2 i r' x' v' (by simpa using a) (by simpa using b) (by simpa using c)
theorem RF.resOne(A:Agree E)(h:RF E f n Gs ws G w S a fr []){r:ResultVar}{x:AV}(hT:∀b t,r= .cell b t→E.C.has t=true)(hx:Mh E.C fr r=some x):
  ∃v,(resOne a.tmps r).run E.P w= .ok v w∧Vb G w v x r:=by
 cases r with
 |tmp t=>
  simp only[Mh,Option.some.injEq] at hx;subst hx;exact⟨_,rfl,h.frr.slot t⟩
 |cell b t=>
  simp only[Mh,Option.map_eq_some_iff] at hx;obtain⟨y,hy,rfl⟩:=hx;have hp:E4 a fr b 0 (Act.at a b):=fun cs hcs=>by
   obtain⟨blk,hblk⟩:=h.hbox b cs hcs;exact⟨blk,hblk,hblk⟩
  obtain⟨v,q1,q2,q3⟩:=h.loadBox A (hT b t rfl) hp hy;have hl:=Bw.loaded (w:=w) (κ:=.ext) (κc:=fun _=>.ext) q2 (q3.elim .inr fun q=>.inl q.1)
  have hnt:∀cs,y.strip≠ .tup cs:=by
   rcases q3 with ⟨ds,rfl⟩|⟨hf,_⟩
   ·simp[AV.strip,AV.strip2]
   ·intro cs e;rw[AV.strip_of_free1 hf] at e;have:=AV.free1_strip1 y;rw[e,hf] at this;simp[AV.free1] at this
  have hno:y.strip.own=false:=by
   cases y with
   |vs sz es r=>exact AV.own_strip1 (.vs sz es r)
   |_=>rfl
  refine⟨v,?_,hl.vr,hnt,hno,hl.agg⟩;have hcs:∃cs,fr.b b=some cs:=by
   simp only[AB,Option.bind_eq_some_iff] at hy;obtain⟨cs,hcs,_⟩:=hy;exact⟨cs,hcs⟩
  obtain⟨cs,hcs⟩:=hcs;obtain⟨blk,hblk⟩:=h.hbox b cs hcs;have hblk':a.tmps.getD b undef= .pointer (some ⟨blk,0,none⟩):=hblk;rw[show Act.at a b= .pointer (some ⟨blk,0,none⟩) from hblk] at q1
  simp only[Av.resOne,hblk',asAddr,Sem.run_bind,Sem.run_pure,Result.andThen_ok];simpa[Instr.loadAt,Instr.sureAddr] using q1
theorem T7{P:Program}{w:World}{tmps:Array Value}:∀{rs:List ResultVar} {vs:List Value},vs.length=rs.length→(∀(i:Nat) (r:ResultVar) (v:Value),rs[i]? =some r→vs[i]? =some v→(resOne tmps r).run P w= .ok v w)→(rs.mapM (resOne tmps)).run P w= .ok vs w
 |[],[],_,_=>rfl
 |r::rs,v::vs,hl,h=>by
  rw[List.mapM_cons,Sem.run_bind,h 0 r v rfl rfl,Result.andThen_ok,Sem.run_bind,T7 (by simpa using hl) (fun i r v h1 h2=>h (i+1) r v (by simpa using h1) (by simpa using h2))]
  rfl
 |[],_::_,hl,_=>by simp at hl
 |_::_,[],hl,_=>by simp at hl
def PN:List Value→Value
 |[v]=>v
 |vs=>.tuple vs.toArray
theorem VU(fn:Func)(tmps:Array Value):results fn tmps=(do let vs ←fn.results.mapM (resOne tmps);pure (if h:vs.size=1 then vs[0] else .tuple vs)):=by
 unfold results;congr 1
theorem Th{P:Program}{w:World}{fn:Func}{tmps:Array Value}{vs:List Value}(h:(fn.results.toList.mapM (resOne tmps)).run P w= .ok vs w):(results fn tmps).run P w= .ok (PN vs) w:=by
 rw[VU,Sem.run_bind,Array.mapM_eq_mapM_toList,Sem.run_map,h];simp only[Result.andThen_ok,Sem.run_pure]
 match vs with
 |[]=>rfl
 |[v]=>rfl
 |v::u::l=>simp[PN]
def Pw:List ResultVar→Nat→Nat→Option Nat
 |[],_,_=>none
 | .tmp t::rs,k,x=>if x=t then some k else Pw rs (k+1) x
 | .cell _ _::rs,k,x=>Pw rs (k+1) x
def HM(rs:List ResultVar):Key→Key
 | .obj id=>.obj id
 | .ocell id j=>.ocell id j
 | .slot t=>match rs with
  |[.tmp u]=>if t=u then .ret else .ext
  |_=>match Pw rs 0 t with|some i=>.retc i|none=>.ext
 | .slotc t i=>match rs with
  |[.tmp u]=>if t=u then .retc i else .ext
  |_=>.ext
 |_=>.ext
theorem NY:∀{rs:List ResultVar} {k i t:Nat},nodupB (Kl rs)=true→rs[i]? =some (.tmp t)→Pw rs k t=some (k+i)
 |[],k,i,t,_,h=>by simp at h
 | .tmp u::rs,k,i,t,hn,h=>by
  have hn':nodupB (u::Kl rs)=true:=hn;simp only[nodupB,Bool.and_eq_true,Bool.not_eq_true'] at hn';cases i with
  |zero=>simp at h;subst h;simp[Pw]
  |succ i=>
   have hm:rs[i]? =some (.tmp t):=by simpa using h
   have hmem:t∈Kl rs:=List.mem_flatMap.2 ⟨_,List.mem_of_getElem? hm,by simp⟩
   have hne:t≠u:=by
    rintro rfl;have:=hn'.1;simp at this;exact this hmem
   rw[Pw,if_neg hne,NY hn'.2 hm];congr 1;omega
 | .cell b u::rs,k,i,t,hn,h=>by
  have hn':nodupB (Kl rs)=true:=hn;cases i with
  |zero=>simp at h
  |succ i=>
   rw[Pw,NY hn' (by simpa using h)]
   congr 1;omega
theorem AV.flat_tup(x:AV):∀cs,x.flat≠ .tup cs:=by cases x<;>simp[AV.flat]
theorem Bw.flatten{κ:Key}{κc:Nat→Key}{v:Value}{x:AV}(h:Bw G w κ κc v x):VR G v x.flat∧Tail G w κ v x.flat∧∀cs,x.flat= .agg cs→∀c∈cs,c.own=false:=by
 cases x with
 |tup cs=>exact⟨.undef v,.of_not rfl,by simp[AV.flat]⟩
 |_=>exact⟨h.vr,h.tail,h.agg⟩
theorem To(A:Agree E){Ca:Nat→List AV→St→(AV→St→Prop)→Prop}(hCa:HH E Ca)(hM:CX Ca){Dr:Array Oper→(Fr→St→Prop)→Fr→St→Prop}{fn:Func}(hDr:O5 E f fn.ntmps Dr)(hDm:MI E.C f Dr)
  (hf:E.P.funcs[f]? =some fn) (hname:(fn.name== "runtime.NumGoroutine")=false) {args:List AV} {Q:AV→St→Prop} (hw:WF E.C Ca f Dr fn args S Q):AN E f args S Q:=by
 unfold WF at hw;split at hw
 case h_2=>exact hw.elim
 rename_i c hb;split at hw
 case h_2=>exact hw.elim
 rename_i hchk;simp only[Bool.and_eq_true] at hchk;obtain⟨⟨⟨hc1,hc2⟩,hc3⟩,hc4⟩:=hchk;have hcode:codeOk E fn.ntmps c:=⟨fun d hd=>Nat.le_of_ble_eq_true (List.all_eq_true.1 hc1 d hd),fun t ht=>List.all_eq_true.1 hc2 t ht⟩
 refine⟨⟨fn,hf,by rw[hb];rfl,hname⟩,fun G w hrel hroles args' hl hargs=>?_⟩
 refine calls_of_wp hf hb ?_
 let a:Act:={tmps:=args'++Array.replicate (fn.ntmps - args'.size) undef,defers:=[]}
 have hat:∀t,Act.at a t=if t < args'.size then args'.getD t undef else undef:=by
  intro t;simp only[Act.at,a,Array.getD_eq_getD_getElem?]
  by_cases e:t < args'.size
  ·rw[Array.getElem?_append_left e,if_pos e]
  ·rw[Array.getElem?_append_right (by omega),if_neg e]
   by_cases e2:t - args'.size < fn.ntmps - args'.size
   ·simp[e2]
   ·simp[e2]
 have hrf:RF E f fn.ntmps G w G w S a (fr0 args) []:=by
  refine⟨hrel,⟨rfl,by simp[a];omega,fun t=>?_,fun t cs hb=>by simp[fr0] at hb⟩,Chg.refl _ _ _,fun x b off hr cs hcs=>by simp[fr0] at hcs⟩
  rw[hat]
  by_cases e:t < args'.size
  ·rw[if_pos e];have h1:args[t]? =some args[t]:=List.getElem?_eq_getElem (by omega)
   have h2:args'[t]? =some args'[t]:=by simp[e]
   obtain⟨k1,k2,k3⟩:=hargs t _ _ h1 h2;have e1:(fr0 args).v t=args[t]:=by simp only[fr0,List.getD,h1,Option.getD_some]
   have e2:args'.getD t undef=args'[t]:=by simp[Array.getD_eq_getD_getElem?,h2]
   rw[e1,e2,←k3];refine .mkstrip k1 fun cs hcs=>?_
   rw[hcs] at k2;simp[AV.free,AV.free1] at k2
  ·rw[if_neg e];have:(fr0 args).v t= .undef:=by simp only[fr0,List.getD];rw[List.getElem?_eq_none (by omega)];rfl
   rw[this];exact .undef _
 refine I6 A hCa hM hDr hDm c hcode hrf hw fun ex G' w' S' a' fr' hr hk=>?_
 have hk':Xu E.C fn.results.toList fr' (fun r=>Q r S')∧(ex.to= .normal∨ex.to= .ret):=by
  cases ex with
  |normal=>exact⟨hk,.inl rfl⟩
  |ret=>exact⟨hk,.inr rfl⟩
  |exit id=>exact hk.elim
 obtain⟨hk,hex⟩:=hk';obtain⟨xs,x1,x2,hQ⟩:=Wg hk;have hres:∀(i:Nat) (r:ResultVar) (x:AV),fn.results.toList[i]? =some r→xs[i]? =some x→∃v,(resOne a'.tmps r).run E.P w'= .ok v w'∧Vb G' w' v x r:=fun i r x h1 h2=>
  hr.resOne A (fun b t e=>by
   subst e;exact List.all_eq_true.1 hc3 t (List.mem_flatMap.2 ⟨_,List.mem_of_getElem? h1,by simp⟩)) (x2 i r x h1 h2)
 have hvs:∃vs:List Value,vs.length=fn.results.toList.length∧∀(i:Nat) (r:ResultVar) (x:AV) (v:Value),fn.results.toList[i]? =some r→xs[i]? =some x→vs[i]? =some v→
   (resOne a'.tmps r).run E.P w'= .ok v w'∧Vb G' w' v x r:=
  N7 x1 hres
 obtain⟨vs,v1,v2⟩:=hvs;have hrun:(results fn a'.tmps).run E.P w'= .ok (PN vs) w':=Th (T7 v1 fun i r v h1 h2=>by
  have hlt:i < xs.length:=by rw[x1];exact(List.getElem?_eq_some_iff.1 h1).1
  exact(v2 i r _ v h1 (List.getElem?_eq_getElem hlt) h2).1)
 let g:=HM fn.results.toList
 have hLe:G'.Le (G'.relabel g):=⟨fun _ _ _ e=>e,fun _ _ e=>e,fun _=>Nat.le_refl _⟩
 have hrel':Rel E (G'.relabel g) w' S':=hr.rel.relabel rfl (fun κ id e=>by
   cases κ<;>simp only[g,HM] at e<;>first|exact e|(cases e;done)|(split at e<;>first|(split at e<;>cases e)|cases e))
  (fun κ t e=>by
   cases κ<;>simp only[g,HM] at e<;>first|exact e|(cases e;done)|(split at e<;>first|(split at e<;>cases e)|cases e)) (fun _=>rfl) (fun _ _=>rfl)
 have hkept:Kept G w (G'.relabel g) w':=hr.kept.relabel rfl;have hval:Bw (G'.relabel g) w' .ret .retc (PN vs) (pack xs):=by
  by_cases hone:fn.results.toList.length=1
  ·obtain⟨r,hrs⟩:=List.length_eq_one_iff.1 hone;obtain⟨x,hxs⟩:=List.length_eq_one_iff.1 (x1.trans hone);obtain⟨v,hv⟩:=List.length_eq_one_iff.1 (v1.trans hone);have:=(v2 0 r x v (by rw[hrs];rfl) (by rw[hxs];rfl) (by rw[hv];rfl)).2
   rw[hxs,hv]
   show Bw _ _ _ _ v x
   cases r with
   |tmp t=>
    have this:Bw G' w' (.slot t) (.slotc t) v x:=this;exact(this.relabel (f:=g)).rekey (by simp[g,hrs,HM]) (fun i=>by simp[g,hrs,HM])
   |cell b t=>
    obtain⟨q1,q2,q3,q4⟩:=this;exact .of_free (q1.mono hLe) q2 q3 q4
  ·have hpv:PN vs= .tuple vs.toArray:=by
    match vs,v1 with
    |[],_=>rfl
    |[v],v1=>exact(hone (by simpa using v1.symm)).elim
    |v::u::l,_=>rfl
   have hpx:pack xs= .tup (xs.map AV.flat):=by
    match xs,x1 with
    |[],_=>rfl
    |[x],x1=>exact(hone (by simpa using x1.symm)).elim
    |x::y::l,_=>rfl
   rw[hpv,hpx];have hall:∀(i:Nat) (y:AV) (u:Value),(xs.map AV.flat)[i]? =some y→vs[i]? =some u→VR G' u y∧Tail (G'.relabel g) w' (.retc i) u y∧∀cs,y= .agg cs→∀c∈cs,c.own=false:=by
    intro i y u hy hu;rw[List.getElem?_map,Option.map_eq_some_iff] at hy;obtain⟨x,hx,rfl⟩:=hy;have hlt:i < fn.results.toList.length:=by rw[←x1];exact(List.getElem?_eq_some_iff.1 hx).1
    have hr1:=List.getElem?_eq_getElem hlt;have hv2:=(v2 i _ x u hr1 hx hu).2;generalize hrr:fn.results.toList[i]=r at hr1 hv2;cases r with
    |tmp t=>
     obtain⟨f1,f2,f3⟩:=Bw.flatten hv2;refine⟨f1,?_,f3⟩;have hg:g (.slot t)= .retc i:=by
      have hp:=NY (k:=0) hc4 hr1;simp only[g,HM];split
      ·rename_i u' hu';rw[hu'] at hone;simp at hone
      ·rw[hp];simp
     rw[←hg];exact f2.relabel
    |cell b t=>
     obtain⟨q1,q2,q3,q4⟩:=hv2;have hfl:x.flat=x:=by cases x<;>first|rfl|exact(q2 _ rfl).elim
     rw[hfl];exact⟨q1,.of_not q3,q4⟩
   refine⟨.tup _ _ (by simp[v1,x1]) fun i y u hy hu=>(hall i y u hy (by simpa using hu)).1.mono hLe,.of_not rfl,by simp,fun cs vs' e1 e2 i y u hy hu=>?_,fun cs e1 y hy=>?_⟩
   ·cases e1;cases e2;exact(hall i y u hy (by simpa using hu)).2.1
   ·cases e1;obtain⟨i,hi⟩:=List.getElem?_of_mem hy;have hlt:i < vs.length:=by rw[v1,←x1];simpa using (List.getElem?_eq_some_iff.1 hi).1
    refine⟨(hall i y _ hi (List.getElem?_eq_getElem hlt)).2.2,?_⟩;simp only[List.mem_map] at hy;obtain⟨x,_,rfl⟩:=hy;exact AV.flat_tup x
 have hfin:a'.defers=[]∧∃v,(results fn a'.tmps).run E.P w'= .ok v w'∧∃v' r S'' G'',(Ending.returned v)= .returned v'∧Q r S''∧Rel E G'' w' S''∧Bw G'' w' .ret .retc v' r∧Kept G w G'' w'∧
   ∀b,(∃id,G''.role b= .obj id)∨(∃id j,G''.role b= .ocell id j)∨G''.role b= .ext∨G''.role b= .ret∨∃i,G''.role b= .retc i:=by
  refine⟨hr.frr.defers,PN vs,hrun,PN vs,pack xs,S',G'.relabel g,rfl,hQ,hrel',hval,hkept,fun b=>?_⟩
  show (∃id,g (G'.role b)=_)∨(∃id j,g (G'.role b)=_)∨g (G'.role b)=_∨g (G'.role b)=_∨∃i,g (G'.role b)=_
  generalize G'.role b=κ;cases κ with
  |obj id=>exact .inl ⟨id,rfl⟩
  |ocell id j=>exact .inr (.inl ⟨id,j,rfl⟩)
  |slot t=>
   simp only[g,HM];split
   ·split<;>simp
   ·split<;>simp
  |slotc t i=>
   simp only[g,HM];split
   ·split<;>simp
   ·simp
  |_=>simp[g,HM]
 rcases hex with e|e<;>rw[e]<;>exact hfin
variable {E:Env} {f n:Nat} {Gs G:Gh} {ws w:World} {S:St} {a:Act} {fr:Fr}
theorem SP{P:Program}{ops:Array Oper}{Q:Exit→Act→World→Prop}{i:Nat}{o:Oper}(hi:ops[i]? =some o){K:Act→World→Prop}{a:Act}{w:World}
  (h1:Region.wanted o (yielded ops a.tmps)=true→o.wp P a w K Q) (h2:Region.wanted o (yielded ops a.tmps)=false→K (a.put o.dst undef) w):wpOp P ops Q i K a w:=by
 unfold wpOp;rw[hi];simp only;cases hw:Region.wanted o (yielded ops a.tmps) with
 |true=>simp only[if_true];exact .inl (h1 hw)
 |false=>simp only[Bool.false_eq_true,if_false];exact h2 hw
theorem Lx(A:Agree E){Ca:Nat→List AV→St→(AV→St→Prop)→Prop}(hCa:HH E Ca){ops:Array Oper}{K:Fr→St→Prop}{Q:Exit→Act→World→Prop}
  (hK:∀G' w' S' a' fr',RF E f n Gs ws G' w' S' a' fr' []→K fr' S'→Q .normal a' w') (hok:∀o∈ops.toList,(∀d,o.dst=some d→d < n)∧∀t∈CL E.C o,E.C.has t=true):
  ∀(k:Nat) {listed:Array Bool} {B:List Oper} {fr:Fr} {S:St} {G:Gh} {w:World} {a:Act},RF E f n Gs ws G w S a fr B→VD E.C Ca f ops K k listed B fr S→wpAny E.P .any ops Q k listed a w
 |0,listed,B,fr,S,G,w,a,h,hw=>⟨hw.1,hK _ _ _ _ _ h.reset hw.2⟩
 |k+1,listed,B,fr,S,G,w,a,h,hw=>by
  refine⟨fun hr=>hK _ _ _ _ _ h.reset (hw.1 hr),fun i hi=>?_⟩
  obtain⟨k1,k2,o,ho,_⟩:=mem_ready.1 hi;have hw':=hw.2 i hi o ho;have hoo:=hok o (EL ho);have run:FU E.C Ca f ops B o (VD E.C Ca f ops K k (listed.setIfInBounds i true)) fr S→o.wp E.P a w (wpAny E.P .any ops Q k (listed.setIfInBounds i true)) Q:=by
   intro hw;unfold FU at hw;split at hw
   ·rename_i hk;simp only[Bool.and_eq_true] at hk;exact Rf A hCa h _ hoo.1 hk.1 hoo.2 hw (fun G' w' S' a' fr' hrf hk=>Lx A hCa hK hok k hrf hk)
   ·exact hw.elim
  have skip:Di E.C f B o (VD E.C Ca f ops K k (listed.setIfInBounds i true)) fr S→wpAny E.P .any ops Q k (listed.setIfInBounds i true) (a.put o.dst undef) w:=fun hw=>
   Lx A hCa hK hok k (h.skip hoo.1) hw
  unfold C9 at hw';cases hg:o.guard with
  |none=>
   rw[hg] at hw';exact SP ho (fun _=>run hw') (fun e=>by simp[Region.wanted,hg] at e)
  |some p=>
   obtain⟨j,want⟩:=p;rw[hg] at hw';have hwd:∀q,yielded ops a.tmps j=q→Region.wanted o (yielded ops a.tmps)=(q==some want):=fun q hq=>by
    simp only[Region.wanted,hg,hq]
   have frun:yielded ops a.tmps j=some want→FU E.C Ca f ops B o (VD E.C Ca f ops K k (listed.setIfInBounds i true)) fr S→wpOp E.P ops Q i (wpAny E.P .any ops Q k (listed.setIfInBounds i true)) a w:=fun hy hw=>
    SP ho (fun _=>run hw) (fun e=>by rw[hwd _ hy] at e;cases want<;>cases e)
   have fskip:∀q,q≠some want→yielded ops a.tmps j=q→Di E.C f B o (VD E.C Ca f ops K k (listed.setIfInBounds i true)) fr S→wpOp E.P ops Q i (wpAny E.P .any ops Q k (listed.setIfInBounds i true)) a w:=fun q hne hy hw=>
    SP ho (fun e=>by rw[hwd _ hy] at e;exact(hne (by simpa using e)).elim) (fun _=>skip hw)
   cases want with
   |true=>
    rcases Gk hw' with ⟨hy,hw'⟩|⟨hy,hw'⟩|⟨hy,_,hw'⟩
    ·exact frun (DG h.frr hy) hw'
    ·exact fskip _ (by simp) (DG h.frr hy) hw'
    ·exact fskip _ (by simp) (HE h.frr hy) hw'
   |false=>
    rcases Gk hw' with ⟨hy,hw'⟩|⟨hy,hw'⟩|⟨hy,_,hw'⟩
    ·exact fskip _ (by simp) (DG h.frr hy) hw'
    ·exact frun (DG h.frr hy) hw'
    ·exact fskip _ (by simp) (HE h.frr hy) hw'
theorem SM{C:Ctx}{f:Nat}{ops:Array Oper}{d:Option Nat}(h:JI C f ops d=true):Ek C f ops.toList d=true:=by
 cases hk:(match d with|some d=>C.tk f d|none=>false) with
 |true=>unfold Ek;cases d with
  |none=>cases hk
  |some d=>simp only at hk ⊢;rw[hk]
 |false=>
 unfold Ek feeds;unfold JI at h;cases d with
 |none=>cases h
 |some d=>
  simp only at h hk ⊢;rw[hk] at h ⊢;simp only at h ⊢;rw[List.any_eq_true] at h ⊢;obtain⟨o,ho,h⟩:=h;refine⟨o,ho,?_⟩;split at h
  ·rename_i e;simp only[e];split at h
   ·rename_i e2;simp only[e2];split at h
    ·cases h
    ·exact h
   ·cases h
  ·cases h
theorem ak{C:Ctx}{f:Nat}{ops:Array Oper}{o:Oper}:∀t∈SW C f ops o,t∈Al C (Ek C f ops.toList o.dst) o:=by
 intro t ht;unfold SW Al at ht;unfold Al;rcases List.mem_append.1 ht with ht|ht
 ·exact List.mem_append_left _ ht
 ·refine List.mem_append_right _ ?_;split at ht
  ·split at ht
   ·rename_i e;have:(Ek C f ops.toList o.dst||SD C o.type)=true:=by
     simp only[Bool.or_eq_true] at e ⊢;exact e.imp SM id
    rw[this];exact ht
   ·cases ht
  all_goals exact ht
theorem bW{C:Ctx}{f:Nat}{ops:Array Oper}{o:Oper}:∀t∈SB C f ops o,t∈N0 C f ops.toList o:=by
 intro t ht;unfold SB at ht;unfold N0;rcases List.mem_append.1 ht with ht|ht
 ·exact List.mem_append_left _ ht
 ·refine List.mem_append_right _ ?_;split at ht
  ·rename_i ho;simp only[ho];exact ht
  ·rename_i ho;simp only[ho];split at ht
   ·exact ht
   ·cases ht
  ·cases ht
theorem ZT{C:Ctx}{Ca:Nat→List AV→St→(AV→St→Prop)→Prop}{ops:Array Oper}{B:List Oper}{o:Oper}{K:List Oper→Fr→St→Prop}:
  FU C Ca f ops B o K fr S=C9 C Ca f ops B {o with guard:=none} (fun _ fr' S'=>K (o::B) fr' S') fr S:=rfl
theorem Wy{C:Ctx}{Ca:Nat→List AV→St→(AV→St→Prop)→Prop}(hCa:CX Ca){ops:Array Oper}{B:List Oper}{o:Oper}{K K':List Oper→Fr→St→Prop}(hs:ssa ops.toList)(hB:In ops.toList B)
  (hK:∀fr' S',(∀t,t ∉ SW C f ops o→fr'.v t=fr.v t)→(∀t,t ∉ SB C f ops o→fr'.b t=fr.b t)→K (o::B) fr' S'→K' (o::B) fr' S') (h:FU C Ca f ops B o K fr S):FU C Ca f ops B o K' fr S:=by
 rw[ZT] at h ⊢;exact Ku hCa hs hB (fun m fr' S' hm g1 g2 g3 hk=>hK fr' S' g1 g2 hk) h
theorem Vi{C:Ctx}{ops:Array Oper}{B:List Oper}{o:Oper}{K K':List Oper→Fr→St→Prop}
  (hK:∀fr' S',(∀t,t ∉ SW C f ops o→fr'.v t=fr.v t)→(∀t,t ∉ SB C f ops o→fr'.b t=fr.b t)→K (Em o::B) fr' S'→K' (Em o::B) fr' S') (h:Di C f B o K fr S):Di C f B o K' fr S:=by
 refine hK _ S (fun t ht=>?_) (fun t ht=>?_) h
 ·unfold Fr.skip;cases hd:o.dst with
  |none=>rfl
  |some d=>
   have hne:t≠d:=fun e=>ht (by unfold SW Al;rw[hd,e];simp)
   simp only;split<;>simp[Fr.set,Fr.setB,hne]
 ·unfold Fr.skip;cases hd:o.dst with
  |none=>rfl
  |some d=>
   have hne:t≠d:=fun e=>ht (by unfold SB;rw[hd,e];simp)
   simp only;split<;>simp[Fr.set,Fr.setB,hne]
theorem UX{C:Ctx}{Ca:Nat→List AV→St→(AV→St→Prop)→Prop}{ops:Array Oper}{T:List Nat}(hCa:CX Ca)(hs:ssa ops.toList):∀{l seen:List Nat} {dec:List (Nat×Option Bool)} {B:List Oper} {K K':Fr→St→Prop} {fr:Fr} {S:St},In ops.toList B→B.length+l.length≤ops.size→
  (∀fr' S',Agr (ops.toList.flatMap fun o=>Al C (Ek C f ops.toList o.dst) o) (ops.toList.flatMap (N0 C f ops.toList)) fr fr'→K fr' S'→K' fr' S')→eag C Ca f ops T K seen dec l B fr S→eag C Ca f ops T K' seen dec l B fr S
 |[],seen,dec,B,K,K',fr,S,_,_,hK,h=>hK fr S (Agr.refl _ _ _) h
 |i::l,seen,dec,B,K,K',fr,S,hB,hl,hK,h=>by
  simp only[eag] at h ⊢;cases hi:ops[i]? with
  |none=>rw[hi] at h;exact h
  |some o=>
   rw[hi] at h;simp only at h ⊢;simp only[List.length_cons] at hl;have nxt:∀dec' m fr' S',Mark o m→(∀t,t ∉ SW C f ops o→fr'.v t=fr.v t)→(∀t,t ∉ SB C f ops o→fr'.b t=fr.b t)→
     Gz C Ca f ops (m::B) fr' S' (eag C Ca f ops T K (DT C f ops o i seen) (Me C f ops o dec') l (m::B) fr' S') (pick ops (seen.filter fun y=>need C f ops T y i))→
     Gz C Ca f ops (m::B) fr' S' (eag C Ca f ops T K' (DT C f ops o i seen) (Me C f ops o dec') l (m::B) fr' S') (pick ops (seen.filter fun y=>need C f ops T y i)):=by
    intro dec' m fr' S' hm g1 g2 hk;rw[Ln] at hk ⊢;refine⟨hk.1,UX hCa hs (hB.cons (EL hi) hm (by simp;omega)) (by simp;omega) (fun fr2 S2 ha=>hK fr2 S2 ⟨fun t ht=>?_,fun t ht=>?_⟩) hk.2⟩
    ·rw[ha.1 t ht];exact g1 t fun e=>ht (List.mem_flatMap.2 ⟨o,EL hi,ak t e⟩)
    ·rw[ha.2 t ht];exact g2 t fun e=>ht (List.mem_flatMap.2 ⟨o,EL hi,bW t e⟩)
   have run:∀dec',FU C Ca f ops B o (fun B' fr' S'=>Gz C Ca f ops B' fr' S' (eag C Ca f ops T K (DT C f ops o i seen) (Me C f ops o dec') l B' fr' S') (pick ops (seen.filter fun y=>need C f ops T y i))) fr S→
     FU C Ca f ops B o (fun B' fr' S'=>Gz C Ca f ops B' fr' S' (eag C Ca f ops T K' (DT C f ops o i seen) (Me C f ops o dec') l B' fr' S') (pick ops (seen.filter fun y=>need C f ops T y i))) fr S:=fun dec' h=>
    Wy hCa hs hB (fun fr' S' g1 g2 hk=>nxt dec' o fr' S' (.inl rfl) g1 g2 hk) h
   have skip:∀dec',Di C f B o (fun B' fr' S'=>Gz C Ca f ops B' fr' S' (eag C Ca f ops T K (DT C f ops o i seen) (Me C f ops o dec') l B' fr' S') (pick ops (seen.filter fun y=>need C f ops T y i))) fr S→
     Di C f B o (fun B' fr' S'=>Gz C Ca f ops B' fr' S' (eag C Ca f ops T K' (DT C f ops o i seen) (Me C f ops o dec') l B' fr' S') (pick ops (seen.filter fun y=>need C f ops T y i))) fr S:=fun dec' h=>
    Vi (fun fr' S' g1 g2 hk=>nxt dec' (Em o) fr' S' (.inr rfl) g1 g2 hk) h
   cases hg:o.guard with
   |none=>rw[hg] at h;exact run _ h
   |some p=>
    obtain⟨j,want⟩:=p;rw[hg] at h;simp only at h ⊢;cases hdc:decided j dec with
    |some q=>
     rw[hdc] at h;cases q with
     |none=>exact skip _ h
     |some b=>cases b<;>cases want<;>first|exact run _ h|exact skip _ h
    |none=>
     rw[hdc] at h;simp only at h ⊢;cases want with
     |true=>exact H7 h (run _) (skip _) (skip _)
     |false=>exact H7 h (skip _) (run _) (skip _)
theorem In.nil{all:List Oper}:In all []:=⟨by simp,by simp⟩
theorem QH{C:Ctx}{Ca:Nat→List AV→St→(AV→St→Prop)→Prop}(hCa:CX Ca):MI C f (Drw C Ca f):=by
 intro ops K K' fr S h hK;unfold Drw ax at h ⊢;split at h
 ·rename_i hok;have hd:=Rs hok;exact UX hCa hd.uniq.ssa .nil (by simp[hd.len]) hK h
 ·exact h
theorem RO(A:Agree E){Ca:Nat→List AV→St→(AV→St→Prop)→Prop}(hCa:HH E Ca)(hM:CX Ca)(hmix:E.P.follows .mixedOrders=true):O5 E f n (Drw E.C Ca f):=by
 intro ops id K fr S Gs ws G w a Q hok h hw hK;unfold Drw ax at hw;split at hw
 ·rename_i hdr;have hd:=Rs hdr;refine wp_region_any hmix (Lx A hCa hK hok ops.size h.drew (Ro hM hd ops.size hd.len .nil (by simp[hd.len]) (List.Sublist.refl _) ?_ (Vw hM hd hw)))
  have hall:=hd.all;refine⟨by simp,fun i hi d=>?_,fun i o hi hni e he hb=>?_⟩
  ·simp[hi,hall i hi]
  ·exact(hni (hall i (Array.getElem?_eq_some_iff.1 hi).1)).elim
 ·exact hw.elim
theorem HV:∀{a b a' b':List AV} {r:Bool},a.length=b.length→BZ (a++a') (b++b')=some r→∃r1 r2,BZ a b=some r1∧BZ a' b'=some r2∧r=(r1&&r2)
 |[],[],a',b',r,_,h=>⟨true,r,rfl,h,by simp⟩
 |x::a,y::b,a',b',r,hl,h=>by
  simp only[List.cons_append,BZ] at h ⊢;split at h
  ·rename_i e;obtain⟨r1,r2,h1,h2,h3⟩:=HV (by simpa using hl) h
   exact⟨r1,r2,by simpa[e] using h1,h2,h3⟩
  ·rename_i e;split at h
   ·rename_i q hq;cases h;obtain⟨r1,r2,h1,h2,h3⟩:=HV (by simpa using hl) hq
    exact⟨false,r2,by simp[e,h1],h2,by simp⟩
   ·cases h
  ·cases h
 |[],_::_,_,_,_,hl,_=>by simp at hl
 |_::_,[],_,_,_,hl,_=>by simp at hl
theorem FS:∀{a b:List AV} {r:Bool},BZ a b=some r→a.length=b.length
 |[],[],_,_=>rfl
 |x::a,y::b,r,h=>by
  simp only[BZ] at h;split at h
  ·simp[FS h]
  ·split at h
   ·rename_i q hq;simp[FS hq]
   ·cases h
  ·cases h
 |[],_::_,_,h=>by simp[BZ] at h
 |_::_,[],_,h=>by simp[BZ] at h
theorem EI:∀{a b:List AV},Aw a b=true→a.length=b.length
 |[],[],_=>rfl
 |x::a,y::b,h=>by
  cases x<;>cases y<;>simp only[Aw,Bool.and_eq_true] at h<;>first|(cases h;done)|simp[EI h.2]|simp[EI h]
 |[],_::_,h=>by simp[Aw] at h
 |x::_,[],h=>by cases x<;>simp[Aw] at h
theorem DS:∀{a b a' b':List AV},a.length=b.length→Aw (a++a') (b++b')=true→Aw a b=true∧Aw a' b'=true
 |[],[],a',b',_,h=>⟨rfl,h⟩
 |x::a,y::b,a',b',hl,h=>by
  have hl':a.length=b.length:=by simpa using hl
  cases x<;>cases y<;>simp only[List.cons_append,Aw,Bool.and_eq_true] at h ⊢<;>first
   |(cases h;done)
   |exact⟨⟨h.1,(DS hl' h.2).1⟩,(DS hl' h.2).2⟩
   |exact DS hl' h
 |[],_::_,_,_,hl,_=>by simp at hl
 |_::_,[],_,_,hl,_=>by simp at hl
def L5(P:Program)(ok:TypeId→List AV→Bool):Nat→List AV→List Field→Bool
 |_,zs,[]=>zs.isEmpty
 |off,zs,f::fs=>f.name != "_" &&f.offset==off&&(match P.info? f.type with|some i=>Nat.ble i.size zs.length&&ok f.type (zs.take i.size)&&L5 P ok (off+i.size) (zs.drop i.size) fs|none=>false)
def Fj(P:Program):Nat→TypeId→List AV→Bool
 |0,_,_=>false
 |d+1,t,zs=>match P.underlying t with
  |some .bool=>(match zs with|[.bool _]=>true|_=>false)
  |some (.int k)=>(match zs with|[.int k' _]=>decide (k=k')|_=>false)
  |some .string=>(match zs with|[.str _]=>true|_=>false)
  |some (.struct fs)=>!P.stoodInHeld t&&L5 P (Fj P d) 0 zs fs.toList
  |_=>false
def HU(P:Program)(G:Gh)(t:TypeId)(u:Value)(xs:List AV):Prop:=
 match P.underlying t with
 |some (.struct _)=>∃arr,u= .agg arr∧VR G (.agg arr) (.agg xs)
 |_=>∃x,xs=[x]∧VR G u x
theorem JJ{P:Program}{w:World}{G:Gh}{d:Nat}{t:TypeId}{zs:List AV}(h:Fj P d t zs=true){i:TypeInfo}(hi:P.info? t=some i)(hz:zs.length=i.size){arr:Array Value}{xs:List AV}(hv:VR G (.agg arr) (.agg xs)){off:Nat}(hle:off+i.size≤xs.length):
  ∃u,(part t arr off).run P w= .ok u w∧HU P G t u ((xs.drop off).take i.size):=by
 cases hv with
 |agg _ _ hl hh=>
  cases d with
  |zero=>simp[Fj] at h
  |succ d=>
   have scalar:i.size=1→∀dd,P.underlying t=some dd→OZ dd=false→∃u,(part t arr off).run P w= .ok u w∧HU P G t u ((xs.drop off).take i.size):=by
    intro h1 dd hdd hag;have hlt:off < xs.length:=by omega
    have hlt':off < arr.size:=by omega
    refine⟨arr[off],?_,?_⟩
    ·have:(isAgg t).run P w= .ok false w:=by
      unfold isAgg;rw[Sem.run_bind,run_underlying hdd w];cases dd<;>first|rfl|simp[OZ] at hag
     simp[part,this,hlt']
    ·have hx:(xs.drop off).take i.size=[xs[off]]:=by
      rw[h1,List.drop_eq_getElem_cons hlt];rfl
     have hf:HU P G t arr[off] [xs[off]]:=by
      unfold HU;rw[hdd];cases dd<;>first
       |exact⟨_,rfl,hh off _ _ (List.getElem?_eq_getElem hlt) (by simp[hlt'])⟩
       |simp[OZ] at hag
     rw[hx];exact hf
   simp only[Fj] at h;cases hu:P.underlying t with
   |none=>simp[hu] at h
   |some dd=>
    rw[hu] at h;have one:∀z,zs=[z]→i.size=1:=by rintro z rfl;simpa using hz.symm
    cases dd<;>simp at h
    ·split at h
     ·exact scalar (one _ rfl) _ hu rfl
     ·cases h
    ·split at h
     ·exact scalar (one _ rfl) _ hu rfl
     ·cases h
    ·split at h
     ·exact scalar (one _ rfl) _ hu rfl
     ·cases h
    ·rename_i fs;refine⟨.agg (arr.extract off (off+i.size)),?_,?_⟩
     ·have:(isAgg t).run P w= .ok true w:=by unfold isAgg;rw[Sem.run_bind,run_underlying hu w];rfl
      have hs:(sizeOf t).run P w= .ok i.size w:=by simp[sizeOf,typeInfo,hi]
      simp[part,this,hs]
     ·unfold HU;rw[hu];refine⟨_,rfl,.agg _ _ (by simp;omega) fun j y v hy hv=>?_⟩
      rw[List.getElem?_take,List.getElem?_drop] at hy;split at hy
      ·rw[Array.getElem?_extract] at hv;split at hv
       ·exact hh _ _ _ hy hv
       ·cases hv
      ·cases hy
theorem L6{α:Type}(xs:List α)(off n:Nat):xs.drop off=(xs.drop off).take n++xs.drop (off+n):=by
 rw[←List.drop_drop,List.take_append_drop]
theorem Pd{P:Program}{G:Gh}:∀(d:Nat) {t:TypeId} {zs:List AV},Fj P d t zs=true→∀{n:Nat},d≤n→∀{u v:Value} {xs ys:List AV},HU P G t u xs→HU P G t v ys→Aw zs xs=true→
  ∀{b:Bool},BZ xs ys=some b→∀w,(Op.equalIn n t u v).run P w= .ok b w
 |0,t,zs,h,_,_,_,_,_,_,_,_,_,_,_,_=>by simp[Fj] at h
 |d+1,t,zs,h,n,hn,u,v,xs,ys,hx,hy,ht,b,hb,w=>by
  obtain⟨m,rfl⟩:∃m,n=m+1:=⟨n - 1,by omega⟩
  have h:=h;simp only[Fj] at h;cases hu:P.underlying t with
  |none=>simp[hu] at h
  |some dd=>
   rw[hu] at h;have two:∀x y,xs=[x]→ys=[y]→El x y=some b:=by
    rintro x y rfl rfl;simp only[BZ] at hb;split at hb
    ·rename_i e;rw[e];cases hb;rfl
    ·rename_i e;rw[e];cases hb;rfl
    ·cases hb
   cases dd<;>simp at h
   ·
    split at h
    ·simp only[HU,hu] at hx hy;obtain⟨x,rfl,hx⟩:=hx;obtain⟨y,rfl,hy⟩:=hy;have e:=two x y rfl rfl;cases x<;>simp only[Aw] at ht<;>try (cases ht;done)
     cases y<;>simp only[El] at e<;>try (cases e;done)
     cases hx;cases hy;cases e;simp[Op.equalIn,run_underlying hu]
    ·cases h
   ·split at h
    ·simp only[HU,hu] at hx hy;obtain⟨x,rfl,hx⟩:=hx;obtain⟨y,rfl,hy⟩:=hy;have e:=two x y rfl rfl;cases x<;>simp only[Aw] at ht<;>try (cases ht;done)
     cases y<;>simp only[El] at e<;>try (cases e;done)
     split at e
     ·rename_i hk;subst hk;cases hx;cases hy;cases e;simp[Op.equalIn,run_underlying hu]
     ·cases e
    ·cases h
   ·split at h
    ·simp only[HU,hu] at hx hy;obtain⟨x,rfl,hx⟩:=hx;obtain⟨y,rfl,hy⟩:=hy;have e:=two x y rfl rfl;cases x<;>simp only[Aw] at ht<;>try (cases ht;done)
     cases y<;>simp only[El] at e<;>try (cases e;done)
     cases hx;cases hy;cases e;rename_i l1 l2;simp only[Op.equalIn,Sem.run_bind,run_underlying hu,Result.andThen_ok,Sem.run_pure];congr 1
     show ((⟨⟨l1⟩⟩:ByteArray)==⟨⟨l2⟩⟩)=(l1==l2)
     show ((⟨l1⟩:Array UInt8)==⟨l2⟩)=(l1==l2)
     simp
    ·cases h
   ·
    rename_i fs;obtain⟨hs,hf⟩:=h;simp only[HU,hu] at hx hy;obtain⟨arr,rfl,hx⟩:=hx;obtain⟨arr',rfl,hy⟩:=hy;have hfo:P.fieldsOf t=fs:=by simp[Program.fieldsOf,hu]
    rw[run_equalIn_struct w m t arr arr' (by rw[hfo];exact hu) (by simpa using hs),hfo]
    generalize hg:fs.toList=l at hf;clear hg hfo hu hs;have go:∀(l:List Field) (off:Nat) (zs:List AV) (b:Bool),off≤xs.length→off≤ys.length→L5 P (Fj P d) off zs l=true→Aw zs (xs.drop off)=true→BZ (xs.drop off) (ys.drop off)=some b→(Op.eqFields m arr arr' l).run P w= .ok b w:=by
     intro l
     induction l with
     |nil=>
      intro off zs b ho ho' hf ht hb;simp only[L5,List.isEmpty_iff] at hf;subst hf;have:xs.drop off=[]:=by cases hq:xs.drop off<;>simp_all [Aw]
      rw[this] at hb;have h2:ys.drop off=[]:=by
       have:=FS hb;exact List.eq_nil_of_length_eq_zero this.symm
      rw[h2] at hb;cases hb;rfl
     |cons f l ih=>
      intro off zs b ho ho' hf ht hb;simp only[L5,Bool.and_eq_true,bne_iff_ne,beq_iff_eq] at hf;obtain⟨⟨hn1,ho2⟩,hf⟩:=hf;split at hf
      ·rename_i i hi;simp only[Bool.and_eq_true] at hf;obtain⟨⟨hle,hok⟩,hrest⟩:=hf;have hle:=Nat.le_of_ble_eq_true hle;have hl1:=EI ht;have hl2:=FS hb;simp only[List.length_drop] at hl1 hl2;have hx1:off+i.size≤xs.length:=by omega
       have hy1:off+i.size≤ys.length:=by omega
       obtain⟨p1,r1,q1⟩:=JJ (w:=w) hok hi (by simp;omega) hx hx1
       obtain⟨p2,r2,q2⟩:=JJ (w:=w) hok hi (by simp;omega) hy hy1
       rw[L6 xs off i.size] at ht hb;rw[L6 ys off i.size] at hb;have ht':=ht;rw[←List.take_append_drop i.size zs] at ht';obtain⟨t1,t2⟩:=DS (by simp;omega) ht'
       obtain⟨b1,b2,e1,e2,e3⟩:=HV (by simp;omega) hb
       have heq:=Pd d hok (n:=m) (by omega) q1 q2 t1 e1 w
       have hih:=ih (off+i.size) _ b2 hx1 hy1 hrest t2 e2;subst ho2;simp only[Op.eqFields,ne_eq,hn1,not_false_eq_true,if_true,Sem.run_bind,r1,Result.andThen_ok,r2,heq];cases b1
       ·simp[e3]
       ·simpa[e3] using hih
      ·cases hf
    exact go l 0 zs b (Nat.zero_le _) (Nat.zero_le _) hf (by simpa using ht) (by simpa using hb)
theorem LU{P:Program}{G:Gh}(em:Bool):∀(d:Nat) {t:TypeId} {zs:List AV},Fj P d t zs=true→∀{n:Nat},d≤n→∀{u:Value} {xs:List AV},HU P G t u xs→Aw zs xs=true→
  ∀w,(Instr.checkKey em n t u).run P w= .ok () w
 |0,t,zs,h,_,_,_,_,_,_,_=>by simp[Fj] at h
 |d+1,t,zs,h,n,hn,u,xs,hx,ht,w=>by
  obtain⟨m,rfl⟩:∃m,n=m+1:=⟨n - 1,by omega⟩
  simp only[Fj] at h;cases hu:P.underlying t with
  |none=>simp[hu] at h
  |some dd=>
   rw[hu] at h;cases dd<;>simp at h
   ·simp[Instr.checkKey,run_underlying hu]
   ·simp[Instr.checkKey,run_underlying hu]
   ·simp[Instr.checkKey,run_underlying hu]
   ·rename_i fs;obtain⟨hs,hf⟩:=h;simp only[HU,hu] at hx;obtain⟨arr,rfl,hx⟩:=hx;simp only[Instr.checkKey,Sem.run_bind,run_underlying hu,Result.andThen_ok];rw[←Array.forIn_toList];generalize hg:fs.toList=l at hf;clear hg hu hs;have go:∀(l:List Field) (off:Nat) (zs:List AV),off≤xs.length→L5 P (Fj P d) off zs l=true→Aw zs (xs.drop off)=true→
      (forIn l PUnit.unit fun f (_:PUnit)=>(if f.name≠ "_" then (do let a ←part f.type arr f.offset;Instr.checkKey em m f.type a;pure (ForInStep.yield PUnit.unit)) else pure (ForInStep.yield PUnit.unit):Sem (ForInStep PUnit))).run P w= .ok PUnit.unit w:=by
     intro l
     induction l with
     |nil=>intro off zs ho hf ht;rfl
     |cons f l ih=>
      intro off zs ho hf ht;simp only[L5,Bool.and_eq_true,bne_iff_ne,beq_iff_eq] at hf;obtain⟨⟨hn1,ho2⟩,hf⟩:=hf;split at hf
      ·rename_i i hi;simp only[Bool.and_eq_true] at hf;obtain⟨⟨hle,hok⟩,hrest⟩:=hf;have hle:=Nat.le_of_ble_eq_true hle;have hl1:=EI ht;simp only[List.length_drop] at hl1;have hx1:off+i.size≤xs.length:=by omega
       obtain⟨p1,r1,q1⟩:=JJ (w:=w) hok hi (by simp;omega) hx hx1
       rw[L6 xs off i.size] at ht;have ht':=ht;rw[←List.take_append_drop i.size zs] at ht';obtain⟨t1,t2⟩:=DS (by simp;omega) ht'
       have heq:=LU em d hok (n:=m) (by omega) q1 t1 w
       have hih:=ih (off+i.size) _ hx1 hrest t2;subst ho2;simp only[List.forIn_cons,ne_eq,hn1,not_false_eq_true,if_true,Sem.run_bind,r1,Result.andThen_ok,heq,Sem.run_pure];exact hih
      ·cases hf
    have:=go l 0 zs (Nat.zero_le _) hf (by simpa using ht)
    rw[this];rfl
def Ke(P:Program)(t:Nat)(zs:List AV):Bool:=Fj P 12 t zs&&(match P.underlying t with|some (.struct _)=>true|_=>false)&&!(P.eqGuardType P.depth t)
theorem Ia{P:Program}{G:Gh}{t:Nat}{zs:List AV}(h:Ke P t zs=true):Fj P 12 t zs=true∧P.eqGuardType P.depth t=false∧∀v xs,VR G v (.agg xs)→HU P G t v xs:=by
 simp only[Ke,Bool.and_eq_true,Bool.not_eq_true'] at h;refine⟨h.1.1,h.2,fun v xs hv=>?_⟩
 have h2:=h.1.2;cases hu:P.underlying t with
 |none=>simp[hu] at h2
 |some dd=>
  rw[hu] at h2;cases dd<;>simp at h2
  simp only[HU,hu];cases hv with
  |agg _ vs hl hh=>exact⟨vs,rfl,.agg _ _ hl hh⟩
theorem YH(E:Env)(L K:List Nat)(hL:∀t,E.C.has t=true→L.elem t=true)(hK:∀t,E.C.eqk t=true→K.elem t=true)
  (h1:L.all (fun t=>O4 E.P t (E.C.ty t))=true) (h2:K.all (fun t=>Ke E.P t (E.C.ty t).zero)=true)
  (hm:∀t m g,E.C.meth t m=some g→∀v w,(method (E.P.types.size+Made.depth) t v m).run E.P w= .ok (g,v) w):Agree E:=by
 have k2:∀t,E.C.eqk t=true→Ke E.P t (E.C.ty t).zero=true:=fun t h=>List.all_eq_true.1 h2 t (List.elem_iff.1 (hK t h))
 refine⟨fun t h=>Sq (List.all_eq_true.1 h1 t (List.elem_iff.1 (hL t h))),fun t h G v u xs ys b hv hu ht hb w=>?_,fun t h op x y v u w=>?_,fun t h G v xs hv ht e w=>?_,hm⟩
 ·obtain⟨q1,_,q3⟩:=Ia (G:=G) (k2 t h);exact Pd 12 q1 (n:=10000) (by omega) (q3 v xs hv) (q3 u ys hu) ht hb w
 ·obtain⟨_,q2,_⟩:=Ia (G:=⟨fun _ _=>none,fun _=>none,fun _=>.ext,fun _=>0⟩) (k2 t h)
  exact run_eqGuard_agg w op t x y v u q2
 ·obtain⟨q1,_,q3⟩:=Ia (G:=G) (k2 t h);exact LU e 12 q1 (n:=10000) (by omega) (q3 v xs hv) ht w
section
variable (C:Ctx) (Ca:Nat→List AV→St→(AV→St→Prop)→Prop) (f:Nat)
def YD:List (Nat×List Nat×List Nat)→Nat→Option (List Nat×List Nat)
 |[],_=>none
 |(n,x)::cs,k=>match Nat.beq k n with
  |true=>some x
  |false=>YD cs k
def Drc(cs:List (Nat×List Nat×List Nat))(ops:Array Oper)(K:Fr→St→Prop)(fr:Fr)(S:St):Prop:=
 match YD cs ops.size with
 |some x=>∃P:Lv→St→Prop,Drw C Ca f ops (fun fr' S'=>P (proj x fr') S') fr S∧∀(v:Nat→AV) (b:Nat→Option (List AV)) (S':St),P (x.1.map v,x.2.map b) S'→K (M0 (ops.toList.flatMap fun o=>Al C (Ek C f ops.toList o.dst) o) (ops.toList.flatMap (N0 C f ops.toList)) fr v b) S'
 |none=>Drw C Ca f ops K fr S
end
theorem ZZ{C:Ctx}{Ca:Nat→List AV→St→(AV→St→Prop)→Prop}{f:Nat}(hCa:CX Ca){cs:List (Nat×List Nat×List Nat)}{ops:Array Oper}{K:Fr→St→Prop}{fr:Fr}{S:St}(h:Drc C Ca f cs ops K fr S):Drw C Ca f ops K fr S:=by
 unfold Drc at h;split at h
 ·obtain⟨P,h1,h2⟩:=h;refine QH hCa ops _ K fr S h1 (fun fr' S' ha hp=>?_)
  have:=h2 fr'.v fr'.b S' hp;rw[Ll ha] at this;exact this
 ·exact h
theorem T8{C:Ctx}{Ca:Nat→List AV→St→(AV→St→Prop)→Prop}{f:Nat}(hCa:CX Ca){cs:List (Nat×List Nat×List Nat)}:MI C f (Drc C Ca f cs):=by
 intro ops K K' fr S h hK;unfold Drc at h ⊢;split at h
 ·rename_i e;obtain⟨P,h1,h2⟩:=h;exact⟨P,h1,fun v b S' hp=>hK _ _ (Rw _ _ _ _ _) (h2 v b S' hp)⟩
 ·exact QH hCa ops K K' fr S h hK
theorem Wt{E:Env}{f n:Nat}(A:Agree E){Ca:Nat→List AV→St→(AV→St→Prop)→Prop}(hCa:HH E Ca)(hM:CX Ca)(hmix:E.P.follows .mixedOrders=true){cs:List (Nat×List Nat×List Nat)}:O5 E f n (Drc E.C Ca f cs):=by
 intro ops id K fr S Gs ws G w a Q hok h hw hK;exact RO A hCa hM hmix ops id K fr S Gs ws G w a Q hok h (ZZ hM hw) hK
section
variable (C:Ctx) (Ca:Nat→List AV→St→(AV→St→Prop)→Prop) (f:Nat) (Dr:Array Oper→(Fr→St→Prop)→Fr→St→Prop) (cs:List (Nat×List Nat×List Nat))
def Rc(ops:Array Oper)(K:Fr→St→Prop)(fr:Fr)(S:St):Prop:=
 match YD cs ops.size with
 |some x=>∃P:Lv→St→Prop,Jy C Ca f ops ops.toList (fun fr' S'=>P (proj x fr') S') [] [] ops.toList fr S∧∀(v:Nat→AV) (b:Nat→Option (List AV)) (S':St),P (x.1.map v,x.2.map b) S'→K (M0 (Fb C f (.region 0 ops false)) (Hj C f (.region 0 ops false)) fr v b) S'
 |none=>Jy C Ca f ops ops.toList K [] [] ops.toList fr S
def W2:Code→(Ex→Fr→St→Prop)→Fr→St→Prop
 | .region _ ops false,K,fr,S=>Rc C Ca f cs ops (K .normal) fr S
 | .seq a b,K,fr,S=>W2 a (dO (W2 b K) K) fr S
 | .cond c a b,K,fr,S=>ifK (opd C fr 4 c) (W2 a K fr S) (W2 b K fr S)
 | .block id b,K,fr,S=>W2 b (TA id K) fr S
 |c,K,fr,S=>W C Ca f Dr c K fr S
def WF2(fn:Func)(args:List AV)(S:St)(Q:AV→St→Prop):Prop:=
 match fn.body with
 |some c=>match (RR c).all (fun d=>Nat.blt d fn.ntmps)&&(N2 C c).all C.has&&(US fn.results.toList).all C.has&&nodupB (Kl fn.results.toList) with
  |true=>W2 C Ca f Dr cs c (dJ C fn.results.toList Q) (fr0 args) S
  |false=>False
 |none=>False
end
variable {C:Ctx} {Ca:Nat→List AV→St→(AV→St→Prop)→Prop} {f:Nat} {Dr:Array Oper→(Fr→St→Prop)→Fr→St→Prop} {cs:List (Nat×List Nat×List Nat)}
theorem eg(hCa:CX Ca){ops:Array Oper}{K:Fr→St→Prop}{fr:Fr}{S:St}(h:Rc C Ca f cs ops K fr S):Jy C Ca f ops ops.toList K [] [] ops.toList fr S:=by
 unfold Rc at h;split at h
 ·obtain⟨P,h1,h2⟩:=h;refine Km hCa .nil (fun fr' S' ha hp=>?_) h1
  have:=h2 fr'.v fr'.b S' hp;rw[show M0 (Fb C f (Code.region 0 ops false)) (Hj C f (Code.region 0 ops false)) fr fr'.v fr'.b=fr' from Ll ha] at this
  exact this
 ·exact h
theorem XV(hCa:CX Ca)(hDr:MI C f Dr):∀(c:Code) {K:Ex→Fr→St→Prop} {fr:Fr} {S:St},W2 C Ca f Dr cs c K fr S→W C Ca f Dr c K fr S
 | .region _ ops false,K,fr,S,h=>eg hCa h
 | .seq a b,K,fr,S,h=>by
  refine KJ hCa hDr a (fun ex fr1 S1 ha hk=>?_) (XV hCa hDr a h)
  cases ex with
  |normal=>exact XV hCa hDr b hk
  |exit id=>exact hk
  |ret=>exact hk
 | .cond c a b,K,fr,S,h=>by
  unfold W2 ifK at h;unfold W ifK;split at h
  ·exact XV hCa hDr a h
  ·exact XV hCa hDr b h
  ·exact h
 | .block id b,K,fr,S,h=>XV hCa hDr b h
 | .skip,K,fr,S,h=>h
 | .region _ ops true,K,fr,S,h=>h
 | .loop c,K,fr,S,h=>h
 | .exit id,K,fr,S,h=>h
 | .ret,K,fr,S,h=>h
theorem bm(hCa:CX Ca)(hDr:MI C f Dr){fn:Func}{args:List AV}{S:St}{Q:AV→St→Prop}(h:WF2 C Ca f Dr cs fn args S Q):WF C Ca f Dr fn args S Q:=by
 unfold WF2 at h;unfold WF;cases hb:fn.body with
 |none=>rw[hb] at h;exact h
 |some c=>
  rw[hb] at h;dsimp only at h ⊢;split at h
  ·rename_i e;rw[e];exact XV hCa hDr _ h
  ·exact h.elim
end Go.Av
