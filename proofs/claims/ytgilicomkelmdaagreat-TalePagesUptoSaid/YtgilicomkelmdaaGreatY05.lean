/- Parts of the proofs of this seat: abstract values over the model, and what the functions of the program do. No condition. -/
import Derived.Test.YtgilicomkelmdaaGreatY04b
import Derived.Test.YtgilicomkelmdaaGreatXSplit
import Derived.Test.YtgilicomkelmdaaGreatY03a
import Derived.Test.YtgilicomkelmdaaGreatX03
set_option linter.all false
namespace Go.Av
def be(n:Nat):Nat→Str
 |0=>[]
 |k+1=>UInt8.ofNat (n / 256 ^ k)::be n k
@[simp] theorem Zt(n:Nat):∀k,(be n k).length=k
 |0=>rfl
 |k+1=>by simp[be,Zt n k]
def val:Str→Nat
 |[]=>0
 |b::l=>b.toNat*256 ^ l.length+val l
theorem V3:∀l:Str,val l < 256 ^ l.length
 |[]=>by simp[val]
 |b::l=>by
  have h1:=V3 l;have h2:b.toNat < 256:=b.toNat_lt;rw[val,List.length_cons,Nat.pow_succ];have h3:b.toNat*256 ^ l.length≤255*256 ^ l.length:=Nat.mul_le_mul_right _ (by omega)
  omega
theorem dc(n:Nat):∀k j,k≤j→be (n % 256 ^ j) k=be n k
 |0,j,_=>rfl
 |k+1,j,h=>by
  rw[be,be,dc n k j (by omega)]
  congr 1;apply UInt8.toNat_inj.1;have e:256 ^ j=256 ^ k*(256*256 ^ (j - k - 1)):=by rw[←Nat.pow_succ',←Nat.pow_add];congr 1;omega
  simp only[UInt8.toNat_ofNat'];rw[e,Nat.mod_mul_right_div_self,Nat.mod_mul_right_mod]
theorem ej:∀l:Str,be (val l) l.length=l
 |[]=>rfl
 |b::l=>by
  have h1:=V3 l;rw[List.length_cons,be];have e1:val (b::l) / 256 ^ l.length=b.toNat:=by
   rw[val,Nat.add_comm,Nat.add_mul_div_right _ _ (Nat.pow_pos (by omega)),Nat.div_eq_of_lt h1,Nat.zero_add]
  have e2:be (val (b::l)) l.length=l:=by
   rw[←dc _ _ l.length (Nat.le_refl _)];have:val (b::l) % 256 ^ l.length=val l:=by
    rw[val,Nat.add_comm,Nat.add_mul_mod_self_right,Nat.mod_eq_of_lt h1]
   rw[this,ej l]
  rw[e1,e2];simp
def takeN(k:Nat)(s:Str):Option (Nat×Str):=if s.length < k then none else some (val (s.take k),s.drop k)
theorem Ni{k:Nat}{s r:Str}{n:Nat}(h:takeN k s=some (n,r)):s=be n k++r∧n < 256 ^ k:=by
 unfold takeN at h;split at h
 ·cases h
 ·rename_i c;cases h;have hl:(s.take k).length=k:=by rw[List.length_take];omega
  have h1:=ej (s.take k);have h2:=V3 (s.take k);rw[hl] at h1 h2;exact⟨by rw[h1,List.take_append_drop],h2⟩
def RI(k:Nat)(s:Str):Option (Str×Str):=(takeN k s).bind fun p=>if p.2.length < p.1 then none else some (p.2.take p.1,p.2.drop p.1)
def Tu(k:Nat)(t:Str):Str:=be t.length k++t
theorem Sg{k:Nat}{s t r:Str}(h:RI k s=some (t,r)):s=Tu k t++r∧t.length < 256 ^ k:=by
 unfold RI at h;obtain⟨⟨n,q⟩,h1,h2⟩:=Option.bind_eq_some_iff.1 h;obtain⟨h3,h4⟩:=Ni h1;simp only at h2;split at h2
 ·cases h2
 ·rename_i c;cases h2;have:(q.take n).length=n:=by rw[List.length_take];omega
  rw[Tu,this,h3,List.append_assoc,List.take_append_drop];exact⟨rfl,h4⟩
def lr(x:Ext):Str:=be x.off.toNat 4++Tu 4 x.data
def VF(l:List Ext):Str:=l.flatMap lr
mutual
def Node.enc:Node→Str
 | .mk k o ns its ir sz es er t=>be k.toNat 1++
  (if k=1 then be sz.toNat 4++(be es.length 4++VF es) else if k=2 then be (if o=true then 1 else 0) 1++(be ns.l.length 2++Node.encs its ns.l) else if k=3 then Tu 2 t else [])
def Node.encs:List Node→List Str→Str
 |[],_=>[]
 |n::l,ss=>match ss with
  |[]=>[]
  |s::ss=>Tu 1 s++(n.enc++Node.encs l ss)
end
theorem Node.enc_eq(n:Node):n.enc=be n.kind.toNat 1++
  (if n.kind=1 then be n.size.toNat 4++(be n.exts.length 4++VF n.exts) else if n.kind=2 then be (if n.opq=true then 1 else 0) 1++(be n.names.l.length 2++Node.encs n.items n.names.l) else if n.kind=3 then Tu 2 n.target else []):=by
 cases n;rw[Node.enc];rfl
theorem Node.enc_file{n:Node}(h:n.kind=1):n.enc=be 1 1++(be n.size.toNat 4++(be n.exts.length 4++VF n.exts)):=by rw[Node.enc_eq];simp only[h];rfl
theorem Node.enc_dir{n:Node}(h:n.kind=2):n.enc=be 2 1++(be (if n.opq=true then 1 else 0) 1++(be n.names.l.length 2++Node.encs n.items n.names.l)):=by rw[Node.enc_eq];simp only[h];rfl
theorem Node.enc_link{n:Node}(h:n.kind=3):n.enc=be 3 1++Tu 2 n.target:=by rw[Node.enc_eq];simp only[h];rfl
theorem Node.enc_other{n:Node}(h1:n.kind≠1)(h2:n.kind≠2)(h3:n.kind≠3):n.enc=be n.kind.toNat 1:=by rw[Node.enc_eq,if_neg h1,if_neg h2,if_neg h3,List.append_nil]
@[simp] theorem Node.encs_nil(ss:List Str):Node.encs [] ss=[]:=by rw[Node.encs]
@[simp] theorem Node.encs_nil2(l:List Node):Node.encs l []=[]:=by cases l<;>rw[Node.encs]
@[simp] theorem Node.encs_cons(n:Node)(l:List Node)(s:Str)(ss:List Str):Node.encs (n::l) (s::ss)=Tu 1 s++(n.enc++Node.encs l ss):=by rw[Node.encs]
structure RS where
 s:Str
 bad:Bool
 left:Int
def RS.num(k:Nat)(st:RS):Nat×RS:=match takeN k st.s with|some (n,r)=>(n,{st with s:=r})|none=>(0,{st with bad:=true})
def RS.text(k:Nat)(st:RS):Str×RS:=match RI k st.s with|some (t,r)=>(t,{st with s:=r})|none=>([],{st with bad:=true})
def RS.exts:Nat→RS→List Ext×RS
 |0,st=>([],st)
 |c+1,st=>if st.bad=true then ([],st) else
  let a:=st.num 4
  let b:=a.2.text 4
  let r:=RS.exts c b.2
  (⟨a.1,b.1⟩::r.1,r.2)
def cr{α:Type}(l:List α):Rt:=match l with|[]=>.nil|_=>.none
def RS.items(rd:RS→Node×RS):Nat→RS→List Str×List Node×RS
 |0,st=>([],[],st)
 |c+1,st=>if st.bad=true then ([],[],st) else
  let a:=st.text 1
  let b:=rd a.2
  let r:=RS.items rd c b.2
  (a.1::r.1,b.1::r.2.1,r.2.2)
def RS.node:Nat→RS→Node×RS
 |0,st=>(Node.none,{st with bad:=true,left:=st.left - 1})
 |f+1,st=>
  if st.bad=true∨st.left - 1 < 0 then (Node.none,{st with bad:=true,left:=st.left - 1})
  else
   let a:=RS.num 1 {st with left:=st.left - 1}
   if a.1=1 then
    let b:=a.2.num 4
    let c:=b.2.num 4
    let e:=RS.exts c.1 c.2
    (.mk 1 false ⟨[],.nil⟩ [] .nil b.1 e.1 (cr e.1) [],e.2)
   else if a.1=2 then
    let b:=a.2.num 1
    let c:=RS.num 2 {b.2 with bad:=b.2.bad||decide (1 < b.1)}
    let e:=RS.items (RS.node f) c.1 c.2
    (.mk 2 (decide (b.1=1)) ⟨e.1,cr e.1⟩ e.2.1 (cr e.2.1) 0 [] .nil [],e.2.2)
   else if a.1=3 then
    let b:=a.2.text 2
    (.mk 3 false ⟨[],.nil⟩ [] .nil 0 [] .nil b.1,b.2)
   else (.mk a.1 false ⟨[],.nil⟩ [] .nil 0 [] .nil [],a.2)
theorem RS.num_of{k:Nat}{st:RS}:(st.num k).2.bad=false→st.bad=false∧st.s=be (st.num k).1 k++(st.num k).2.s∧(st.num k).1 < 256 ^ k∧(st.num k).2.left=st.left:=by
 unfold RS.num;cases h:takeN k st.s with
 |none=>simp
 |some p=>
  obtain⟨n,r⟩:=p;obtain⟨h1,h2⟩:=Ni h;exact fun hb=>⟨hb,h1,h2,rfl⟩
theorem RS.num_lt{k:Nat}{st:RS}:(st.num k).1 < 256 ^ k∧(st.num k).2.s.length≤st.s.length∧(st.num k).2.left=st.left∧(st.bad=true→(st.num k).2.bad=true):=by
 unfold RS.num;cases h:takeN k st.s with
 |none=>exact⟨Nat.pow_pos (by omega),Nat.le_refl _,rfl,fun _=>rfl⟩
 |some p=>
  obtain⟨n,r⟩:=p;obtain⟨h1,h2⟩:=Ni h;exact⟨h2,by rw[h1];simp,rfl,id⟩
theorem RS.text_of{k:Nat}{st:RS}:(st.text k).2.bad=false→st.bad=false∧st.s=Tu k (st.text k).1++(st.text k).2.s∧(st.text k).1.length < 256 ^ k∧(st.text k).2.left=st.left:=by
 unfold RS.text;cases h:RI k st.s with
 |none=>simp
 |some p=>
  obtain⟨n,r⟩:=p;obtain⟨h1,h2⟩:=Sg h;exact fun hb=>⟨hb,h1,h2,rfl⟩
theorem RS.text_lt{k:Nat}{st:RS}:(st.text k).1.length+(st.text k).2.s.length≤st.s.length∧((st.text k).2.bad=false→1≤k→(st.text k).2.s.length+1≤st.s.length)∧(st.text k).2.left=st.left∧(st.bad=true→(st.text k).2.bad=true):=by
 unfold RS.text;cases h:RI k st.s with
 |none=>exact⟨by simp,by simp,rfl,fun _=>rfl⟩
 |some p=>
  obtain⟨n,r⟩:=p;obtain⟨h1,h2⟩:=Sg h;refine⟨by simp only[h1,Tu,List.length_append,Zt];omega,fun _ hk=>by simp only[h1,Tu,List.length_append,Zt];omega,rfl,id⟩
theorem RS.exts_of:∀(c:Nat) (st:RS),(RS.exts c st).2.bad=false→st.bad=false∧(RS.exts c st).1.length=c∧st.s=VF (RS.exts c st).1++(RS.exts c st).2.s∧(RS.exts c st).2.left=st.left
 |0,st,h=>⟨h,rfl,by simp[RS.exts,VF],rfl⟩
 |c+1,st,h=>by
  rw[RS.exts] at h ⊢
  by_cases hb:st.bad=true
  ·rw[if_pos hb] at h;rw[hb] at h;cases h
  ·rw[if_neg hb] at h ⊢;simp only at h ⊢;obtain⟨h1,h2,h3,h4⟩:=RS.exts_of c _ h;obtain⟨k1,k2,k3,k4⟩:=RS.text_of h1;obtain⟨j1,j2,j3,j4⟩:=RS.num_of k1;refine⟨j1,by simp[h2],?_,by rw[h4,k4,j4]⟩
   simp only[VF,List.flatMap_cons,lr,Int.toNat_natCast] at h3 ⊢;rw[j2,k2,h3];simp[List.append_assoc]
theorem RS.exts_lt:∀(c:Nat) (st:RS),(RS.exts c st).1.length+(RS.exts c st).2.s.length≤st.s.length+1∧(∀x∈(RS.exts c st).1,0≤x.off∧x.off < 4294967296∧x.data.length≤st.s.length)∧(RS.exts c st).2.s.length≤st.s.length∧(st.bad=true→(RS.exts c st).1=[])∧(RS.exts c st).2.left=st.left
 |0,st=>by simp[RS.exts]
 |c+1,st=>by
  rw[RS.exts]
  by_cases hb:st.bad=true
  ·rw[if_pos hb];simp
  ·rw[if_neg hb];simp only;obtain⟨h1,h2,h3,h4,h5⟩:=RS.exts_lt c ((st.num 4).2.text 4).2;obtain⟨k1,k2,k3,k4⟩:=RS.text_lt (k:=4) (st:=(st.num 4).2);obtain⟨j1,j2,j3,j4⟩:=RS.num_lt (k:=4) (st:=st);refine⟨?_,?_,by omega,fun e=>absurd e hb,by rw[h5,k3,j3]⟩
   ·cases hbb:((st.num 4).2.text 4).2.bad with
    |true=>rw[h4 hbb] at h1 ⊢;simp;omega
    |false=>have:=k2 hbb (by omega);simp;omega
   ·intro x hx;rcases List.mem_cons.1 hx with rfl|hx
    ·simp;omega
    ·have:=h2 x hx;omega
theorem RS.items_of{rd:RS→Node×RS}(hrd:∀st:RS,(rd st).2.bad=false→st.bad=false∧((rd st).1.allB=true→st.s=(rd st).1.enc++(rd st).2.s)):∀(c:Nat) (st:RS),(RS.items rd c st).2.2.bad=false→
  st.bad=false∧(RS.items rd c st).1.length=c∧(RS.items rd c st).2.1.length=c∧(Node.allsB (RS.items rd c st).2.1=true→st.s=Node.encs (RS.items rd c st).2.1 (RS.items rd c st).1++(RS.items rd c st).2.2.s)
 |0,st,h=>⟨h,rfl,rfl,by simp[RS.items]⟩
 |c+1,st,h=>by
  rw[RS.items] at h ⊢
  by_cases hb:st.bad=true
  ·rw[if_pos hb] at h;rw[hb] at h;cases h
  ·rw[if_neg hb] at h ⊢;simp only at h ⊢;obtain⟨h1,h2,h3,h4⟩:=RS.items_of hrd c _ h;obtain⟨k1,k2⟩:=hrd _ h1;obtain⟨j1,j2,j3,j4⟩:=RS.text_of k1;refine⟨j1,by simp[h2],by simp[h3],fun ha=>?_⟩
   rw[Node.allsB] at ha;simp only[Bool.and_eq_true] at ha;rw[Node.encs_cons,j2,k2 ha.1,h4 ha.2];simp[List.append_assoc]
theorem RS.node_of:∀(f:Nat) (st:RS),(RS.node f st).2.bad=false→st.bad=false∧((RS.node f st).1.allB=true→st.s=(RS.node f st).1.enc++(RS.node f st).2.s)
 |0,st,h=>by simp[RS.node] at h
 |f+1,st,h=>by
  rw[RS.node] at h ⊢
  by_cases hb:st.bad=true∨st.left - 1 < 0
  ·rw[if_pos hb] at h;simp at h
  ·rw[if_neg hb] at h ⊢;have hb0:st.bad=false:=by
    cases e:st.bad with
    |false=>rfl
    |true=>exact absurd (.inl e) hb
   refine⟨hb0,?_⟩;simp only at h ⊢;generalize hA:RS.num 1 {st with left:=st.left - 1}=A at h ⊢
   have hA':A.2.bad=false→st.s=be A.1 1++A.2.s∧A.1 < 256 ^ 1:=fun e=>by
    have:=RS.num_of (k:=1) (st:={st with left:=st.left - 1}) (by rw[hA];exact e)
    rw[hA] at this;exact⟨this.2.1,this.2.2.1⟩
   by_cases c1:A.1=1
   ·rw[if_pos c1] at h ⊢;simp only at h ⊢;obtain⟨h1,h2,h3,_⟩:=RS.exts_of _ _ h;obtain⟨k1,k2,k3,_⟩:=RS.num_of h1;obtain⟨j1,j2,j3,_⟩:=RS.num_of k1;obtain⟨i1,i2⟩:=hA' j1;intro _;rw[Node.enc_file (by simp only[Node.kind])]
    simp only[Node.size,Node.exts,Int.toNat_natCast];rw[i1,j2,k2,h3,h2,c1];simp[List.append_assoc]
   rw[if_neg c1] at h ⊢
   by_cases c2:A.1=2
   ·rw[if_pos c2] at h ⊢;simp only at h ⊢;generalize hB:A.2.num 1=B at h ⊢;generalize hC:RS.num 2 {B.2 with bad:=B.2.bad||decide (1 < B.1)}=D at h ⊢
    obtain⟨h1,h2,h3,h4⟩:=RS.items_of (RS.node_of f) _ _ h;generalize hE:RS.items (RS.node f) D.1 D.2=E at h h2 h3 h4 ⊢;have k:=RS.num_of (k:=2) (st:={B.2 with bad:=B.2.bad||decide (1 < B.1)}) (by rw[hC];exact h1)
    rw[hC] at k;obtain⟨k1,k2,k3,_⟩:=k;simp only[Bool.or_eq_false_iff,decide_eq_false_iff_not] at k1 k2;have j:=RS.num_of (k:=1) (st:=A.2) (by rw[hB];exact k1.1)
    rw[hB] at j;obtain⟨j1,j2,j3,_⟩:=j;obtain⟨i1,i2⟩:=hA' j1;intro ha;rw[Node.all_eq] at ha;simp only[Bool.and_eq_true,Node.items] at ha;rw[Node.enc_dir (by simp only[Node.kind])]
    simp only[Node.opq,Node.names,Node.items];have e:=h4 ha.1;rw[i1,j2,k2,e,h2,c2];have e1:B.1=0∨B.1=1:=by omega
    rcases e1 with e1|e1<;>simp[e1,List.append_assoc]
   rw[if_neg c2] at h ⊢
   by_cases c3:A.1=3
   ·rw[if_pos c3] at h ⊢;simp only at h ⊢;obtain⟨k1,k2,k3,_⟩:=RS.text_of h;obtain⟨i1,i2⟩:=hA' k1;intro _;rw[Node.enc_link (by simp only[Node.kind])]
    simp only[Node.target];rw[i1,k2,c3];simp[List.append_assoc]
   ·rw[if_neg c3] at h ⊢;simp only at h ⊢;obtain⟨i1,i2⟩:=hA' h;intro _;rw[Node.enc_other (by simp only[Node.kind];omega) (by simp only[Node.kind];omega) (by simp only[Node.kind];omega)]
    simp only[Node.kind,Int.toNat_natCast];exact i1
theorem p1:(256:Nat) ^ 1=256:=rfl
theorem p2:(256:Nat) ^ 2=65536:=rfl
theorem p4:(256:Nat) ^ 4=4294967296:=rfl
theorem Ic{n:Node}(h:Ud n=true):E4 n=true∧Gd n=true:=by simpa[Ud] using h
@[simp] theorem Node.kind_mk{k:Int}{o:Bool}{ns:Ss}{its:List Node}{ir:Rt}{sz:Int}{es:List Ext}{er:Rt}{t:Str}:(Node.mk k o ns its ir sz es er t).kind=k:=rfl
@[simp] theorem Node.opq_mk{k:Int}{o:Bool}{ns:Ss}{its:List Node}{ir:Rt}{sz:Int}{es:List Ext}{er:Rt}{t:Str}:(Node.mk k o ns its ir sz es er t).opq=o:=rfl
@[simp] theorem Node.names_mk{k:Int}{o:Bool}{ns:Ss}{its:List Node}{ir:Rt}{sz:Int}{es:List Ext}{er:Rt}{t:Str}:(Node.mk k o ns its ir sz es er t).names=ns:=rfl
@[simp] theorem Node.items_mk{k:Int}{o:Bool}{ns:Ss}{its:List Node}{ir:Rt}{sz:Int}{es:List Ext}{er:Rt}{t:Str}:(Node.mk k o ns its ir sz es er t).items=its:=rfl
@[simp] theorem Node.ir_mk{k:Int}{o:Bool}{ns:Ss}{its:List Node}{ir:Rt}{sz:Int}{es:List Ext}{er:Rt}{t:Str}:(Node.mk k o ns its ir sz es er t).ir=ir:=rfl
@[simp] theorem Node.size_mk{k:Int}{o:Bool}{ns:Ss}{its:List Node}{ir:Rt}{sz:Int}{es:List Ext}{er:Rt}{t:Str}:(Node.mk k o ns its ir sz es er t).size=sz:=rfl
@[simp] theorem Node.exts_mk{k:Int}{o:Bool}{ns:Ss}{its:List Node}{ir:Rt}{sz:Int}{es:List Ext}{er:Rt}{t:Str}:(Node.mk k o ns its ir sz es er t).exts=es:=rfl
@[simp] theorem Node.er_mk{k:Int}{o:Bool}{ns:Ss}{its:List Node}{ir:Rt}{sz:Int}{es:List Ext}{er:Rt}{t:Str}:(Node.mk k o ns its ir sz es er t).er=er:=rfl
@[simp] theorem Node.target_mk{k:Int}{o:Bool}{ns:Ss}{its:List Node}{ir:Rt}{sz:Int}{es:List Ext}{er:Rt}{t:Str}:(Node.mk k o ns its ir sz es er t).target=t:=rfl
open Go.Proofs
theorem jV{n:Node}(h:Ud n=true):n.kind=1∨n.kind=2∨n.kind=3∨n.kind=4:=by
 obtain⟨_,hk⟩:=Ic h
 by_cases c1:n.kind=1
 ·exact .inl c1
 by_cases c2:n.kind=2
 ·exact .inr (.inl c2)
 by_cases c3:n.kind=3
 ·exact .inr (.inr (.inl c3))
 by_cases c4:n.kind=4
 ·exact .inr (.inr (.inr c4))
 simp[Gd,c1,c2,c3,c4] at hk
theorem Ti:∀{l:List Node},Node.allsB l=true→∀x∈l,x.allB=true
 |[],_,x,hx=>by cases hx
 |y::l,h,x,hx=>by
  rw[Node.allsB] at h;simp only[Bool.and_eq_true] at h;rcases List.mem_cons.1 hx with rfl|hx
  ·exact h.1
  ·exact Ti h.2 x hx
theorem F1:∀{l:List Node},l.length≤Node.counts l∧∀x∈l,x.count≤Node.counts l∧x.depth+1≤Node.depths l
 |[]=>by simp
 |y::l=>by
  obtain⟨h1,h2⟩:=F1 (l:=l);refine⟨by rw[Node.counts,Node.count_eq,List.length_cons];omega,fun x hx=>?_⟩
  rw[Node.counts,Node.depths];rcases List.mem_cons.1 hx with rfl|hx
  ·omega
  ·have:=h2 x hx;omega
@[simp] theorem kB{α β γ:Type}{k:α→β→γ→Prop}{x:α}{y:β}{z:γ}:AN k (fun j=>j x y z)=k x y z:=rfl
@[simp] theorem mf{b:Bool}{r:AV→Prop}:AN r (fun j=>ifK (.bool b) (j (.int .i64 1)) (j (.int .i64 0)))=r (.int .i64 ((if b=true then 1 else 0:Nat):Int)):=by cases b<;>rfl
end Go.Av
