/- Parts of the proofs of this seat: abstract values over the model, and what the functions of the program do. No condition. -/
import Derived.Test.YtgilicomkelmdaaGreatDoorY04b
import Derived.Test.YtgilicomkelmdaaGreatDoorXSplit
import Derived.Test.YtgilicomkelmdaaGreatDoorY03a
import Derived.Test.YtgilicomkelmdaaGreatDoorX03
set_option linter.all false
set_option maxRecDepth 100000
namespace Go.Av
def be(n:Nat):Nat→Str
 |0=>[]
 |k+1=>UInt8.ofNat (n / 256 ^ k)::be n k
@[simp] theorem Yz(n:Nat):∀k,(be n k).length=k
 |0=>rfl
 |k+1=>by simp[be,Yz n k]
def val:Str→Nat
 |[]=>0
 |b::l=>b.toNat*256 ^ l.length+val l
theorem Nb:∀l:Str,val l < 256 ^ l.length
 |[]=>by simp[val]
 |b::l=>by
  have h1:=Nb l;have h2:b.toNat < 256:=b.toNat_lt;rw[val,List.length_cons,Nat.pow_succ];have h3:b.toNat*256 ^ l.length≤255*256 ^ l.length:=Nat.mul_le_mul_right _ (by omega)
  omega
theorem jU(n:Nat):∀k,val (be n k)=n % 256 ^ k
 |0=>by simp[be,val,Nat.mod_one]
 |k+1=>by
  rw[be,val,jU n k,Yz];have:(UInt8.ofNat (n / 256 ^ k)).toNat=n / 256 ^ k % 256:=by simp
  rw[this,Nat.pow_succ,Nat.mod_mul];rw[Nat.mul_comm,Nat.add_comm]
theorem ja(n:Nat):∀k j,k≤j→be (n % 256 ^ j) k=be n k
 |0,j,_=>rfl
 |k+1,j,h=>by
  rw[be,be,ja n k j (by omega)]
  congr 1;apply UInt8.toNat_inj.1;have e:256 ^ j=256 ^ k*(256*256 ^ (j - k - 1)):=by rw[←Nat.pow_succ',←Nat.pow_add];congr 1;omega
  simp only[UInt8.toNat_ofNat'];rw[e,Nat.mod_mul_right_div_self,Nat.mod_mul_right_mod]
theorem iq:∀l:Str,be (val l) l.length=l
 |[]=>rfl
 |b::l=>by
  have h1:=Nb l;rw[List.length_cons,be];have e1:val (b::l) / 256 ^ l.length=b.toNat:=by
   rw[val,Nat.add_comm,Nat.add_mul_div_right _ _ (Nat.pow_pos (by omega)),Nat.div_eq_of_lt h1,Nat.zero_add]
  have e2:be (val (b::l)) l.length=l:=by
   rw[←ja _ _ l.length (Nat.le_refl _)];have:val (b::l) % 256 ^ l.length=val l:=by
    rw[val,Nat.add_comm,Nat.add_mul_mod_self_right,Nat.mod_eq_of_lt h1]
   rw[this,iq l]
  rw[e1,e2];simp
def takeN(k:Nat)(s:Str):Option (Nat×Str):=if s.length < k then none else some (val (s.take k),s.drop k)
theorem FU{n k:Nat}(h:n < 256 ^ k)(r:Str):takeN k (be n k++r)=some (n,r):=by
 have h1:¬(be n k++r).length < k:=by simp
 have h2:(be n k++r).take k=be n k:=by rw[List.take_append_of_le_length (by simp)];simp[List.take_of_length_le]
 have h3:(be n k++r).drop k=r:=by rw[List.drop_append_of_le_length (by simp),List.drop_of_length_le (by simp)];rfl
 rw[takeN,if_neg h1,h2,h3,jU,Nat.mod_eq_of_lt h]
theorem CW{k:Nat}{s r:Str}{n:Nat}(h:takeN k s=some (n,r)):s=be n k++r∧n < 256 ^ k:=by
 unfold takeN at h;split at h
 ·cases h
 ·rename_i c;cases h;have hl:(s.take k).length=k:=by rw[List.length_take];omega
  have h1:=iq (s.take k);have h2:=Nb (s.take k);rw[hl] at h1 h2;exact⟨by rw[h1,List.take_append_drop],h2⟩
def JG(k:Nat)(s:Str):Option (Str×Str):=(takeN k s).bind fun p=>if p.2.length < p.1 then none else some (p.2.take p.1,p.2.drop p.1)
def Lj(k:Nat)(t:Str):Str:=be t.length k++t
theorem Nn{k:Nat}{t:Str}(h:t.length < 256 ^ k)(r:Str):JG k (Lj k t++r)=some (t,r):=by
 rw[JG,Lj,List.append_assoc,FU h];simp
theorem F9{k:Nat}{s t r:Str}(h:JG k s=some (t,r)):s=Lj k t++r∧t.length < 256 ^ k:=by
 unfold JG at h;obtain⟨⟨n,q⟩,h1,h2⟩:=Option.bind_eq_some_iff.1 h;obtain⟨h3,h4⟩:=CW h1;simp only at h2;split at h2
 ·cases h2
 ·rename_i c;cases h2;have:(q.take n).length=n:=by rw[List.length_take];omega
  rw[Lj,this,h3,List.append_assoc,List.take_append_drop];exact⟨rfl,h4⟩
def ks(x:Ext):Str:=be x.off.toNat 4++Lj 4 x.data
def JX(l:List Ext):Str:=l.flatMap ks
mutual
def Node.enc:Node→Str
 | .mk k o ns its ir sz es er t=>be k.toNat 1++
  (if k=1 then be sz.toNat 4++(be es.length 4++JX es) else if k=2 then be (if o=true then 1 else 0) 1++(be ns.l.length 2++Node.encs its ns.l) else if k=3 then Lj 2 t else [])
def Node.encs:List Node→List Str→Str
 |[],_=>[]
 |n::l,ss=>match ss with
  |[]=>[]
  |s::ss=>Lj 1 s++(n.enc++Node.encs l ss)
end
theorem Node.enc_eq(n:Node):n.enc=be n.kind.toNat 1++
  (if n.kind=1 then be n.size.toNat 4++(be n.exts.length 4++JX n.exts) else if n.kind=2 then be (if n.opq=true then 1 else 0) 1++(be n.names.l.length 2++Node.encs n.items n.names.l) else if n.kind=3 then Lj 2 n.target else []):=by
 cases n;rw[Node.enc];rfl
theorem Node.enc_file{n:Node}(h:n.kind=1):n.enc=be 1 1++(be n.size.toNat 4++(be n.exts.length 4++JX n.exts)):=by rw[Node.enc_eq];simp only[h];rfl
theorem Node.enc_dir{n:Node}(h:n.kind=2):n.enc=be 2 1++(be (if n.opq=true then 1 else 0) 1++(be n.names.l.length 2++Node.encs n.items n.names.l)):=by rw[Node.enc_eq];simp only[h];rfl
theorem Node.enc_link{n:Node}(h:n.kind=3):n.enc=be 3 1++Lj 2 n.target:=by rw[Node.enc_eq];simp only[h];rfl
theorem Node.enc_other{n:Node}(h1:n.kind≠1)(h2:n.kind≠2)(h3:n.kind≠3):n.enc=be n.kind.toNat 1:=by rw[Node.enc_eq,if_neg h1,if_neg h2,if_neg h3,List.append_nil]
@[simp] theorem Node.encs_nil(ss:List Str):Node.encs [] ss=[]:=by rw[Node.encs]
@[simp] theorem Node.encs_nil2(l:List Node):Node.encs l []=[]:=by cases l<;>rw[Node.encs]
@[simp] theorem Node.encs_cons(n:Node)(l:List Node)(s:Str)(ss:List Str):Node.encs (n::l) (s::ss)=Lj 1 s++(n.enc++Node.encs l ss):=by rw[Node.encs]
structure RS where
 s:Str
 bad:Bool
 left:Int
def RS.num(k:Nat)(st:RS):Nat×RS:=match takeN k st.s with|some (n,r)=>(n,{st with s:=r})|none=>(0,{st with bad:=true})
def RS.text(k:Nat)(st:RS):Str×RS:=match JG k st.s with|some (t,r)=>(t,{st with s:=r})|none=>([],{st with bad:=true})
def RS.exts:Nat→RS→List Ext×RS
 |0,st=>([],st)
 |c+1,st=>if st.bad=true then ([],st) else
  let a:=st.num 4
  let b:=a.2.text 4
  let r:=RS.exts c b.2
  (⟨a.1,b.1⟩::r.1,r.2)
def cr{α:Type}(l:List α):Rt:=match l with|[]=>.nil|_=>.none
def RS.items(rd:RS→Node×RS):Nat→RS→List Str×List Node×RS
 |0,st=>([],[],st)
 |c+1,st=>if st.bad=true then ([],[],st) else
  let a:=st.text 1
  let b:=rd a.2
  let r:=RS.items rd c b.2
  (a.1::r.1,b.1::r.2.1,r.2.2)
def RS.node:Nat→RS→Node×RS
 |0,st=>(Node.none,{st with bad:=true,left:=st.left - 1})
 |f+1,st=>
  if st.bad=true∨st.left - 1 < 0 then (Node.none,{st with bad:=true,left:=st.left - 1})
  else
   let a:=RS.num 1 {st with left:=st.left - 1}
   if a.1=1 then
    let b:=a.2.num 4
    let c:=b.2.num 4
    let e:=RS.exts c.1 c.2
    (.mk 1 false ⟨[],.nil⟩ [] .nil b.1 e.1 (cr e.1) [],e.2)
   else if a.1=2 then
    let b:=a.2.num 1
    let c:=RS.num 2 {b.2 with bad:=b.2.bad||decide (1 < b.1)}
    let e:=RS.items (RS.node f) c.1 c.2
    (.mk 2 (decide (b.1=1)) ⟨e.1,cr e.1⟩ e.2.1 (cr e.2.1) 0 [] .nil [],e.2.2)
   else if a.1=3 then
    let b:=a.2.text 2
    (.mk 3 false ⟨[],.nil⟩ [] .nil 0 [] .nil b.1,b.2)
   else (.mk a.1 false ⟨[],.nil⟩ [] .nil 0 [] .nil [],a.2)
theorem RS.num_of{k:Nat}{st:RS}:(st.num k).2.bad=false→st.bad=false∧st.s=be (st.num k).1 k++(st.num k).2.s∧(st.num k).1 < 256 ^ k∧(st.num k).2.left=st.left:=by
 unfold RS.num;cases h:takeN k st.s with
 |none=>simp
 |some p=>
  obtain⟨n,r⟩:=p;obtain⟨h1,h2⟩:=CW h;exact fun hb=>⟨hb,h1,h2,rfl⟩
theorem RS.num_lt{k:Nat}{st:RS}:(st.num k).1 < 256 ^ k∧(st.num k).2.s.length≤st.s.length∧(st.num k).2.left=st.left∧(st.bad=true→(st.num k).2.bad=true):=by
 unfold RS.num;cases h:takeN k st.s with
 |none=>exact⟨Nat.pow_pos (by omega),Nat.le_refl _,rfl,fun _=>rfl⟩
 |some p=>
  obtain⟨n,r⟩:=p;obtain⟨h1,h2⟩:=CW h;exact⟨h2,by rw[h1];simp,rfl,id⟩
theorem RS.text_of{k:Nat}{st:RS}:(st.text k).2.bad=false→st.bad=false∧st.s=Lj k (st.text k).1++(st.text k).2.s∧(st.text k).1.length < 256 ^ k∧(st.text k).2.left=st.left:=by
 unfold RS.text;cases h:JG k st.s with
 |none=>simp
 |some p=>
  obtain⟨n,r⟩:=p;obtain⟨h1,h2⟩:=F9 h;exact fun hb=>⟨hb,h1,h2,rfl⟩
theorem RS.text_lt{k:Nat}{st:RS}:(st.text k).1.length+(st.text k).2.s.length≤st.s.length∧((st.text k).2.bad=false→1≤k→(st.text k).2.s.length+1≤st.s.length)∧(st.text k).2.left=st.left∧(st.bad=true→(st.text k).2.bad=true):=by
 unfold RS.text;cases h:JG k st.s with
 |none=>exact⟨by simp,by simp,rfl,fun _=>rfl⟩
 |some p=>
  obtain⟨n,r⟩:=p;obtain⟨h1,h2⟩:=F9 h;refine⟨by simp only[h1,Lj,List.length_append,Yz];omega,fun _ hk=>by simp only[h1,Lj,List.length_append,Yz];omega,rfl,id⟩
theorem RS.exts_of:∀(c:Nat) (st:RS),(RS.exts c st).2.bad=false→st.bad=false∧(RS.exts c st).1.length=c∧st.s=JX (RS.exts c st).1++(RS.exts c st).2.s∧(RS.exts c st).2.left=st.left
 |0,st,h=>⟨h,rfl,by simp[RS.exts,JX],rfl⟩
 |c+1,st,h=>by
  rw[RS.exts] at h ⊢
  by_cases hb:st.bad=true
  ·rw[if_pos hb] at h;rw[hb] at h;cases h
  ·rw[if_neg hb] at h ⊢;simp only at h ⊢;obtain⟨h1,h2,h3,h4⟩:=RS.exts_of c _ h;obtain⟨k1,k2,k3,k4⟩:=RS.text_of h1;obtain⟨j1,j2,j3,j4⟩:=RS.num_of k1;refine⟨j1,by simp[h2],?_,by rw[h4,k4,j4]⟩
   simp only[JX,List.flatMap_cons,ks,Int.toNat_natCast] at h3 ⊢;rw[j2,k2,h3];simp[List.append_assoc]
theorem RS.exts_lt:∀(c:Nat) (st:RS),(RS.exts c st).1.length+(RS.exts c st).2.s.length≤st.s.length+1∧(∀x∈(RS.exts c st).1,0≤x.off∧x.off < 4294967296∧x.data.length≤st.s.length)∧(RS.exts c st).2.s.length≤st.s.length∧(st.bad=true→(RS.exts c st).1=[])∧(RS.exts c st).2.left=st.left
 |0,st=>by simp[RS.exts]
 |c+1,st=>by
  rw[RS.exts]
  by_cases hb:st.bad=true
  ·rw[if_pos hb];simp
  ·rw[if_neg hb];simp only;obtain⟨h1,h2,h3,h4,h5⟩:=RS.exts_lt c ((st.num 4).2.text 4).2;obtain⟨k1,k2,k3,k4⟩:=RS.text_lt (k:=4) (st:=(st.num 4).2);obtain⟨j1,j2,j3,j4⟩:=RS.num_lt (k:=4) (st:=st);refine⟨?_,?_,by omega,fun e=>absurd e hb,by rw[h5,k3,j3]⟩
   ·cases hbb:((st.num 4).2.text 4).2.bad with
    |true=>rw[h4 hbb] at h1 ⊢;simp;omega
    |false=>have:=k2 hbb (by omega);simp;omega
   ·intro x hx;rcases List.mem_cons.1 hx with rfl|hx
    ·simp;omega
    ·have:=h2 x hx;omega
theorem RS.items_of{rd:RS→Node×RS}(hrd:∀st:RS,(rd st).2.bad=false→st.bad=false∧((rd st).1.allB=true→st.s=(rd st).1.enc++(rd st).2.s)):∀(c:Nat) (st:RS),(RS.items rd c st).2.2.bad=false→
  st.bad=false∧(RS.items rd c st).1.length=c∧(RS.items rd c st).2.1.length=c∧(Node.allsB (RS.items rd c st).2.1=true→st.s=Node.encs (RS.items rd c st).2.1 (RS.items rd c st).1++(RS.items rd c st).2.2.s)
 |0,st,h=>⟨h,rfl,rfl,by simp[RS.items]⟩
 |c+1,st,h=>by
  rw[RS.items] at h ⊢
  by_cases hb:st.bad=true
  ·rw[if_pos hb] at h;rw[hb] at h;cases h
  ·rw[if_neg hb] at h ⊢;simp only at h ⊢;obtain⟨h1,h2,h3,h4⟩:=RS.items_of hrd c _ h;obtain⟨k1,k2⟩:=hrd _ h1;obtain⟨j1,j2,j3,j4⟩:=RS.text_of k1;refine⟨j1,by simp[h2],by simp[h3],fun ha=>?_⟩
   rw[Node.allsB] at ha;simp only[Bool.and_eq_true] at ha;rw[Node.encs_cons,j2,k2 ha.1,h4 ha.2];simp[List.append_assoc]
theorem RS.node_of:∀(f:Nat) (st:RS),(RS.node f st).2.bad=false→st.bad=false∧((RS.node f st).1.allB=true→st.s=(RS.node f st).1.enc++(RS.node f st).2.s)
 |0,st,h=>by simp[RS.node] at h
 |f+1,st,h=>by
  rw[RS.node] at h ⊢
  by_cases hb:st.bad=true∨st.left - 1 < 0
  ·rw[if_pos hb] at h;simp at h
  ·rw[if_neg hb] at h ⊢;have hb0:st.bad=false:=by
    cases e:st.bad with
    |false=>rfl
    |true=>exact absurd (.inl e) hb
   refine⟨hb0,?_⟩;simp only at h ⊢;generalize hA:RS.num 1 {st with left:=st.left - 1}=A at h ⊢
   have hA':A.2.bad=false→st.s=be A.1 1++A.2.s∧A.1 < 256 ^ 1:=fun e=>by
    have:=RS.num_of (k:=1) (st:={st with left:=st.left - 1}) (by rw[hA];exact e)
    rw[hA] at this;exact⟨this.2.1,this.2.2.1⟩
   by_cases c1:A.1=1
   ·rw[if_pos c1] at h ⊢;simp only at h ⊢;obtain⟨h1,h2,h3,_⟩:=RS.exts_of _ _ h;obtain⟨k1,k2,k3,_⟩:=RS.num_of h1;obtain⟨j1,j2,j3,_⟩:=RS.num_of k1;obtain⟨i1,i2⟩:=hA' j1;intro _;rw[Node.enc_file (by simp only[Node.kind])]
    simp only[Node.size,Node.exts,Int.toNat_natCast];rw[i1,j2,k2,h3,h2,c1];simp[List.append_assoc]
   rw[if_neg c1] at h ⊢
   by_cases c2:A.1=2
   ·rw[if_pos c2] at h ⊢;simp only at h ⊢;generalize hB:A.2.num 1=B at h ⊢;generalize hC:RS.num 2 {B.2 with bad:=B.2.bad||decide (1 < B.1)}=D at h ⊢
    obtain⟨h1,h2,h3,h4⟩:=RS.items_of (RS.node_of f) _ _ h;generalize hE:RS.items (RS.node f) D.1 D.2=E at h h2 h3 h4 ⊢;have k:=RS.num_of (k:=2) (st:={B.2 with bad:=B.2.bad||decide (1 < B.1)}) (by rw[hC];exact h1)
    rw[hC] at k;obtain⟨k1,k2,k3,_⟩:=k;simp only[Bool.or_eq_false_iff,decide_eq_false_iff_not] at k1 k2;have j:=RS.num_of (k:=1) (st:=A.2) (by rw[hB];exact k1.1)
    rw[hB] at j;obtain⟨j1,j2,j3,_⟩:=j;obtain⟨i1,i2⟩:=hA' j1;intro ha;rw[Node.all_eq] at ha;simp only[Bool.and_eq_true,Node.items] at ha;rw[Node.enc_dir (by simp only[Node.kind])]
    simp only[Node.opq,Node.names,Node.items];have e:=h4 ha.1;rw[i1,j2,k2,e,h2,c2];have e1:B.1=0∨B.1=1:=by omega
    rcases e1 with e1|e1<;>simp[e1,List.append_assoc]
   rw[if_neg c2] at h ⊢
   by_cases c3:A.1=3
   ·rw[if_pos c3] at h ⊢;simp only at h ⊢;obtain⟨k1,k2,k3,_⟩:=RS.text_of h;obtain⟨i1,i2⟩:=hA' k1;intro _;rw[Node.enc_link (by simp only[Node.kind])]
    simp only[Node.target];rw[i1,k2,c3];simp[List.append_assoc]
   ·rw[if_neg c3] at h ⊢;simp only at h ⊢;obtain⟨i1,i2⟩:=hA' h;intro _;rw[Node.enc_other (by simp only[Node.kind];omega) (by simp only[Node.kind];omega) (by simp only[Node.kind];omega)]
    simp only[Node.kind,Int.toNat_natCast];exact i1
theorem p1:(256:Nat) ^ 1=256:=rfl
theorem p2:(256:Nat) ^ 2=65536:=rfl
theorem p4:(256:Nat) ^ 4=4294967296:=rfl
theorem RS.exts_succ{c:Nat}{st r1 r2:RS}{a:Nat}{b:Str}(hb:st.bad=false)(h1:st.num 4=(a,r1))(h2:r1.text 4=(b,r2)):RS.exts (c+1) st=(⟨a,b⟩::(RS.exts c r2).1,(RS.exts c r2).2):=by
 rw[RS.exts,if_neg (by rw[hb];exact Bool.false_ne_true)]
 simp only[h1,h2]
theorem RS.num_enc{n k:Nat}(h:n < 256 ^ k)(r:Str)(left:Int):RS.num k ⟨be n k++r,false,left⟩=(n,⟨r,false,left⟩):=by
 unfold RS.num;simp only;rw[FU h]
theorem RS.text_enc{k:Nat}{t:Str}(h:t.length < 256 ^ k)(r:Str)(left:Int):RS.text k ⟨Lj k t++r,false,left⟩=(t,⟨r,false,left⟩):=by
 unfold RS.text;simp only;rw[Nn h]
theorem PQ(x:Ext)(l:List Ext)(r:Str):JX (x::l)++r=be x.off.toNat 4++(Lj 4 x.data++(JX l++r)):=by simp[JX,ks,List.append_assoc]
theorem RS.exts_enc(left:Int)(rest:Str):∀l:List Ext,(∀x∈l,0≤x.off∧x.off+x.data.length≤1048576)→RS.exts l.length ⟨JX l++rest,false,left⟩=(l,⟨rest,false,left⟩)
 |[],_=>by rw[List.length_nil,RS.exts];rfl
 |x::l,h=>by
  have h1:=RS.exts_enc left rest l fun y hy=>h y (by simp[hy])
  have h2:=h x (by simp)
  have k1:x.off.toNat < 256 ^ 4:=by rw[p4];omega
  have k2:x.data.length < 256 ^ 4:=by rw[p4];omega
  have h3:((x.off.toNat:Nat):Int)=x.off:=by omega
  rw[List.length_cons,PQ,RS.exts_succ rfl (RS.num_enc k1 _ left) (RS.text_enc k2 _ left),h1,h3]
theorem Xq{s:Str}(h:DQ s=true):s.length≤64:=by
 simp[DQ] at h;omega
theorem Eu{n:Node}(h:M0 n=true):C1 n=true∧Ct n=true:=by simpa[M0] using h
theorem RS.items_succ{rd:RS→Node×RS}{c:Nat}{st r1 r2:RS}{a:Str}{b:Node}(hb:st.bad=false)(h1:st.text 1=(a,r1))(h2:rd r1=(b,r2)):
  RS.items rd (c+1) st=(a::(RS.items rd c r2).1,b::(RS.items rd c r2).2.1,(RS.items rd c r2).2.2):=by
 rw[RS.items,if_neg (by rw[hb];exact Bool.false_ne_true)]
 simp only[h1,h2]
theorem UT(n:Node)(l:List Node)(s:Str)(ss:List Str)(r:Str):Node.encs (n::l) (s::ss)++r=Lj 1 s++(n.enc++(Node.encs l ss++r)):=by simp[List.append_assoc]
theorem RS.items_enc{f:Nat}(rest:Str):∀(l:List Node) (ss:List Str) (left:Int),l.length=ss.length→(∀s∈ss,s.length≤255)→(Node.counts l:Int)≤left→
  (∀n∈l,∀(rest:Str) (left:Int),(n.count:Int)≤left→∃n',RS.node f ⟨n.enc++rest,false,left⟩=(n',⟨rest,false,left - n.count⟩)∧n'.sameB n=true)→
  ∃l',RS.items (RS.node f) l.length ⟨Node.encs l ss++rest,false,left⟩=(ss,l',⟨rest,false,left - Node.counts l⟩)∧Node.samesB l' l=true
 |[],[],left,_,_,_,_=>⟨[],by rw[List.length_nil,RS.items,Node.encs_nil,Node.counts];simp,by simp⟩
 |n::l,s::ss,left,h1,h2,h3,h4=>by
  rw[Node.counts] at h3;have k1:s.length < 256 ^ 1:=by have:=h2 s (by simp);rw[p1];omega
  obtain⟨n',e2,e3⟩:=h4 n (by simp) (Node.encs l ss++rest) left (by omega)
  obtain⟨l',e4,e5⟩:=RS.items_enc rest l ss (left - n.count) (by simpa using h1) (fun y hy=>h2 y (by simp[hy])) (by omega) (fun y hy=>h4 y (by simp[hy]))
  refine⟨n'::l',?_,by rw[Node.sames_cons,e3,e5];rfl⟩
  have e6:left - (n.count:Int) - (Node.counts l:Int)=left - ((n.count+Node.counts l:Nat):Int):=by omega
  rw[List.length_cons,UT,RS.items_succ rfl (RS.text_enc k1 _ left) e2,e4,Node.counts,e6]
theorem dG{l m:List Node}(h:Node.samesB l m=true):l.length=m.length:=by
 by_cases c:l.length=m.length
 ·exact c
 ·rw[Node.sames_len _ _ c] at h;cases h
theorem RS.node_succ{f:Nat}{s r:Str}{left:Int}{k:Nat}(hl:0≤left - 1)(h:RS.num 1 ⟨s,false,left - 1⟩=(k,⟨r,false,left - 1⟩)):RS.node (f+1) ⟨s,false,left⟩=
   if k=1 then
    let b:=RS.num 4 ⟨r,false,left - 1⟩
    let c:=b.2.num 4
    let e:=RS.exts c.1 c.2
    (.mk 1 false ⟨[],.nil⟩ [] .nil b.1 e.1 (cr e.1) [],e.2)
   else if k=2 then
    let b:=RS.num 1 ⟨r,false,left - 1⟩
    let c:=RS.num 2 {b.2 with bad:=b.2.bad||decide (1 < b.1)}
    let e:=RS.items (RS.node f) c.1 c.2
    (.mk 2 (decide (b.1=1)) ⟨e.1,cr e.1⟩ e.2.1 (cr e.2.1) 0 [] .nil [],e.2.2)
   else if k=3 then
    let b:=RS.text 2 ⟨r,false,left - 1⟩
    (.mk 3 false ⟨[],.nil⟩ [] .nil 0 [] .nil b.1,b.2)
   else (.mk k false ⟨[],.nil⟩ [] .nil 0 [] .nil [],⟨r,false,left - 1⟩):=by
 rw[RS.node];simp only;rw[if_neg (by simp;omega),h]
@[simp] theorem Node.kind_mk{k:Int}{o:Bool}{ns:Ss}{its:List Node}{ir:Rt}{sz:Int}{es:List Ext}{er:Rt}{t:Str}:(Node.mk k o ns its ir sz es er t).kind=k:=rfl
@[simp] theorem Node.opq_mk{k:Int}{o:Bool}{ns:Ss}{its:List Node}{ir:Rt}{sz:Int}{es:List Ext}{er:Rt}{t:Str}:(Node.mk k o ns its ir sz es er t).opq=o:=rfl
@[simp] theorem Node.names_mk{k:Int}{o:Bool}{ns:Ss}{its:List Node}{ir:Rt}{sz:Int}{es:List Ext}{er:Rt}{t:Str}:(Node.mk k o ns its ir sz es er t).names=ns:=rfl
@[simp] theorem Node.items_mk{k:Int}{o:Bool}{ns:Ss}{its:List Node}{ir:Rt}{sz:Int}{es:List Ext}{er:Rt}{t:Str}:(Node.mk k o ns its ir sz es er t).items=its:=rfl
@[simp] theorem Node.ir_mk{k:Int}{o:Bool}{ns:Ss}{its:List Node}{ir:Rt}{sz:Int}{es:List Ext}{er:Rt}{t:Str}:(Node.mk k o ns its ir sz es er t).ir=ir:=rfl
@[simp] theorem Node.size_mk{k:Int}{o:Bool}{ns:Ss}{its:List Node}{ir:Rt}{sz:Int}{es:List Ext}{er:Rt}{t:Str}:(Node.mk k o ns its ir sz es er t).size=sz:=rfl
@[simp] theorem Node.exts_mk{k:Int}{o:Bool}{ns:Ss}{its:List Node}{ir:Rt}{sz:Int}{es:List Ext}{er:Rt}{t:Str}:(Node.mk k o ns its ir sz es er t).exts=es:=rfl
@[simp] theorem Node.er_mk{k:Int}{o:Bool}{ns:Ss}{its:List Node}{ir:Rt}{sz:Int}{es:List Ext}{er:Rt}{t:Str}:(Node.mk k o ns its ir sz es er t).er=er:=rfl
@[simp] theorem Node.target_mk{k:Int}{o:Bool}{ns:Ss}{its:List Node}{ir:Rt}{sz:Int}{es:List Ext}{er:Rt}{t:Str}:(Node.mk k o ns its ir sz es er t).target=t:=rfl
theorem XP{n:Node}{b:Int}(k:n.kind=1)(hz:C1 n=true)(hb:b=n.size):(Node.mk 1 false ⟨[],.nil⟩ [] .nil b n.exts (cr n.exts) []).sameB n=true:=by
 simp[C1,k] at hz;obtain⟨⟨⟨z1,z2⟩,z3⟩,z4⟩:=hz;rw[Node.same_eq];simp[k,z1,z2,z3,z4,hb]
theorem Xa{n:Node}(k:n.kind=3)(hz:C1 n=true):(Node.mk 3 false ⟨[],.nil⟩ [] .nil 0 [] .nil n.target).sameB n=true:=by
 simp[C1,k] at hz;obtain⟨⟨⟨z1,z2⟩,z3⟩,z4⟩:=hz;rw[Node.same_eq];simp[k,z1,z2,z3,z4]
theorem UJ{n:Node}(k:n.kind=4)(hz:C1 n=true):(Node.mk 4 false ⟨[],.nil⟩ [] .nil 0 [] .nil []).sameB n=true:=by
 simp[C1,k] at hz;obtain⟨⟨⟨⟨z1,z2⟩,z3⟩,z4⟩,z5⟩:=hz;rw[Node.same_eq];simp[k,z1,z2,z3,z4,z5]
theorem Z7{n:Node}{l':List Node}{r1 r2:Rt}(k:n.kind=2)(hz:C1 n=true)(h:Node.samesB l' n.items=true):(Node.mk 2 n.opq ⟨n.names.l,r1⟩ l' r2 0 [] .nil []).sameB n=true:=by
 simp[C1,k] at hz;obtain⟨⟨z1,z2⟩,z3⟩:=hz;rw[Node.same_eq];simp[k,z1,z2,z3,h]
theorem RS.node_enc(n:Node):∀(f:Nat) (rest:Str) (left:Int),n.ok→n.allB=true→n.count≤4096→n.depth < f→(n.count:Int)≤left→
  ∃n',RS.node f ⟨n.enc++rest,false,left⟩=(n',⟨rest,false,left - n.count⟩)∧n'.sameB n=true:=by
 induction n using Node.ind with
 |h n ih=>
  intro f rest left hok hall hcnt hd hl;rw[Node.all_eq] at hall;simp only[Bool.and_eq_true] at hall;obtain⟨ha,ho⟩:=hall;obtain⟨hz,hk⟩:=Eu ho;have hce:=Node.count_eq n;rw[Node.depth_eq] at hd;have hok2:=hok;rw[Node.ok_iff] at hok2;obtain⟨h1,h2,h3,h4,h5,h6,h7⟩:=hok2;obtain⟨g,rfl⟩:∃g,f=g+1:=⟨f - 1,by omega⟩
  have hkind:n.kind=1∨n.kind=2∨n.kind=3∨n.kind=4:=by
   by_cases c1:n.kind=1
   ·exact .inl c1
   by_cases c2:n.kind=2
   ·exact .inr (.inl c2)
   by_cases c3:n.kind=3
   ·exact .inr (.inr (.inl c3))
   by_cases c4:n.kind=4
   ·exact .inr (.inr (.inr c4))
   simp[Ct,c1,c2,c3,c4] at hk
  have hitems:n.kind≠2→n.items=[]:=fun h=>Jh hz h
  have hleft:n.kind≠2→left - 1=left - (n.count:Int):=fun h=>by rw[hce,hitems h,Node.counts];omega
  rcases hkind with k|k|k|k
  ·have hk':=hk;simp[Ct,k] at hk';obtain⟨b1,b2,b3⟩:=QR hk';have hs:((n.size.toNat:Nat):Int)=n.size:=by omega
   have q1:n.size.toNat < 256 ^ 4:=by rw[p4];omega
   have q2:n.exts.length < 256 ^ 4:=by rw[p4];have:=h6.2.1;omega
   rw[Node.enc_file k,List.append_assoc,RS.node_succ (by omega) (RS.num_enc (by rw[p1];omega) _ _),if_pos rfl]
   simp only;rw[List.append_assoc,RS.num_enc q1];simp only;rw[List.append_assoc,RS.num_enc q2];simp only;rw[RS.exts_enc _ _ _ b3,hleft (by omega)]
   exact⟨_,rfl,XP k hz hs⟩
  ·have hk':=hk;simp only[Ct,k] at hk';have hn:E1 n=true:=by simpa using hk'
   obtain⟨c1,c2⟩:=I6 hn;obtain⟨_,_,c3⟩:=Mn _ _ c1;have hni:n.names.l.length≤4096:=by
    have:∀l:List Node,l.length≤Node.counts l:=by
     intro l
     induction l with
     |nil=>simp
     |cons x l ih=>rw[Node.counts,Node.count_eq,List.length_cons];omega
    have:=this n.items;omega
   have q1:(if n.opq=true then 1 else 0) < 256 ^ 1:=by rw[p1];split<;>omega
   have q2:n.names.l.length < 256 ^ 2:=by rw[p2];omega
   have hall:∀l:List Node,Node.allsB l=true→∀x∈l,x.allB=true:=by
    intro l
    induction l with
    |nil=>simp
    |cons x l ih=>
     intro h y hy;rw[Node.allsB] at h;simp only[Bool.and_eq_true] at h;rcases List.mem_cons.1 hy with rfl|hy
     ·exact h.1
     ·exact ih h.2 y hy
   have hcm:∀x∈n.items,x.count≤Node.counts n.items∧x.depth+1≤Node.depths n.items:=by
    have:∀l:List Node,∀x∈l,x.count≤Node.counts l∧x.depth+1≤Node.depths l:=by
     intro l
     induction l with
     |nil=>simp
     |cons x l ih=>
      intro y hy;rw[Node.counts,Node.depths];rcases List.mem_cons.1 hy with rfl|hy
      ·omega
      ·have:=ih y hy;omega
    exact this n.items
   obtain⟨l',e1,e2⟩:=RS.items_enc (f:=g) rest n.items n.names.l (left - 1) c2.symm (fun s hs=>by have:=Xq (c3 s hs);omega) (by omega) (fun x hx r lf hlf=>
    ih x hx g r lf (h4 x hx) (hall _ ha x hx) (by have:=hcm x hx;omega) (by have:=hcm x hx;omega) hlf)
   have hopq:decide ((if n.opq=true then 1 else 0)=1)=n.opq:=by cases n.opq<;>rfl
   have hnb:(false||decide (1 < (if n.opq=true then 1 else 0)))=false:=by cases n.opq<;>rfl
   rw[Node.enc_dir k,List.append_assoc,RS.node_succ (by omega) (RS.num_enc (by rw[p1];omega) _ _),if_neg (by omega),if_pos rfl]
   simp only;rw[List.append_assoc,RS.num_enc q1];simp only;rw[hnb,List.append_assoc,RS.num_enc q2];simp only;rw[c2,e1,hopq,hce];have e6:left - 1 - (Node.counts n.items:Int)=left - ((1+Node.counts n.items:Nat):Int):=by omega
   rw[e6];exact⟨_,rfl,Z7 k hz e2⟩
  ·have q1:n.target.length < 256 ^ 2:=by
    have hk':=hk;simp only[Ct,k] at hk';simp at hk';rw[p2];omega
   rw[Node.enc_link k,List.append_assoc,RS.node_succ (by omega) (RS.num_enc (by rw[p1];omega) _ _),if_neg (by omega),if_neg (by omega),if_pos rfl]
   simp only;rw[RS.text_enc q1,hleft (by omega)]
   exact⟨_,rfl,Xa k hz⟩
  ·rw[Node.enc_other (by omega) (by omega) (by omega),RS.node_succ (by omega) (RS.num_enc (by rw[p1];omega) _ _),if_neg (by omega),if_neg (by omega),if_neg (by omega),hleft (by omega)]
   refine⟨_,rfl,?_⟩;have:((n.kind.toNat:Nat):Int)=4:=by omega
   rw[this];exact UJ k hz
def MR:Nat→Str→Option (List Ext×Str)
 |0,s=>some ([],s)
 |c+1,s=>(takeN 4 s).bind fun a=>(JG 4 a.2).bind fun b=>(MR c b.2).bind fun r=>some (⟨a.1,b.1⟩::r.1,r.2)
def J6(rd:Str→Option (Node×Str)):Nat→Str→Option (List Str×List Node×Str)
 |0,s=>some ([],[],s)
 |c+1,s=>(JG 1 s).bind fun a=>(rd a.2).bind fun b=>(J6 rd c b.2).bind fun r=>some (a.1::r.1,b.1::r.2.1,r.2.2)
def Fy:Nat→Str→Option (Node×Str)
 |0,_=>none
 |f+1,s=>(takeN 1 s).bind fun k=>
  if k.1=1 then (takeN 4 k.2).bind fun b=>(takeN 4 b.2).bind fun c=>(MR c.1 c.2).bind fun e=>some (.mk 1 false ⟨[],.nil⟩ [] .nil b.1 e.1 (cr e.1) [],e.2)
  else if k.1=2 then (takeN 1 k.2).bind fun b=>(takeN 2 b.2).bind fun c=>if 1 < b.1 then none else (J6 (Fy f) c.1 c.2).bind fun e=>some (.mk 2 (decide (b.1=1)) ⟨e.1,cr e.1⟩ e.2.1 (cr e.2.1) 0 [] .nil [],e.2.2)
  else if k.1=3 then (JG 2 k.2).bind fun b=>some (.mk 3 false ⟨[],.nil⟩ [] .nil 0 [] .nil b.1,b.2)
  else if k.1=4 then some (.mk 4 false ⟨[],.nil⟩ [] .nil 0 [] .nil [],k.2)
  else none
theorem Y5:∀{c:Nat} {s r:Str} {l:List Ext},MR c s=some (l,r)→l.length=c∧s=JX l++r
 |0,s,r,l,h=>by rw[MR] at h;cases h;exact⟨rfl,by simp[JX]⟩
 |c+1,s,r,l,h=>by
  rw[MR] at h;obtain⟨⟨a,s1⟩,h1,h⟩:=Option.bind_eq_some_iff.1 h;obtain⟨⟨b,s2⟩,h2,h⟩:=Option.bind_eq_some_iff.1 h;obtain⟨⟨l',s3⟩,h3,h⟩:=Option.bind_eq_some_iff.1 h;cases h;obtain⟨k1,_⟩:=CW h1;obtain⟨k2,_⟩:=F9 h2;obtain⟨k3,k4⟩:=Y5 h3;simp only at k2 k4;refine⟨by simp[k3],?_⟩
  rw[PQ,k1,k2,k4];simp
theorem dn{rd:Str→Option (Node×Str)}(hrd:∀s n r,rd s=some (n,r)→s=n.enc++r):∀{c:Nat} {s r:Str} {ss:List Str} {l:List Node},J6 rd c s=some (ss,l,r)→ss.length=c∧l.length=c∧s=Node.encs l ss++r
 |0,s,r,ss,l,h=>by rw[J6] at h;cases h;simp
 |c+1,s,r,ss,l,h=>by
  rw[J6] at h;obtain⟨⟨a,s1⟩,h1,h⟩:=Option.bind_eq_some_iff.1 h;obtain⟨⟨b,s2⟩,h2,h⟩:=Option.bind_eq_some_iff.1 h;obtain⟨⟨ss',l',s3⟩,h3,h⟩:=Option.bind_eq_some_iff.1 h;cases h;obtain⟨k1,_⟩:=F9 h1;have k2:=hrd _ _ _ h2;obtain⟨k3,k4,k5⟩:=dn hrd h3;simp only at k2 k5;refine⟨by simp[k3],by simp[k4],?_⟩
  rw[UT,k1,k2,k5]
theorem Tq:∀(f:Nat) (s:Str) (n:Node) (r:Str),Fy f s=some (n,r)→s=n.enc++r
 |0,s,n,r,h=>by rw[Fy] at h;cases h
 |f+1,s,n,r,h=>by
  rw[Fy] at h;obtain⟨⟨k,s1⟩,h1,h⟩:=Option.bind_eq_some_iff.1 h;obtain⟨i1,_⟩:=CW h1;simp only at h
  by_cases c1:k=1
  ·rw[if_pos c1] at h;obtain⟨⟨b,s2⟩,h2,h⟩:=Option.bind_eq_some_iff.1 h;obtain⟨⟨c,s3⟩,h3,h⟩:=Option.bind_eq_some_iff.1 h;obtain⟨⟨e,s4⟩,h4,h⟩:=Option.bind_eq_some_iff.1 h;cases h;obtain⟨i2,_⟩:=CW h2;obtain⟨i3,_⟩:=CW h3;obtain⟨i4,i5⟩:=Y5 h4;simp only at i3 i4 i5;rw[Node.enc_file (by simp),i1,i2,i3,i5,c1]
   simp[i4,List.append_assoc]
  rw[if_neg c1] at h
  by_cases c2:k=2
  ·rw[if_pos c2] at h;obtain⟨⟨b,s2⟩,h2,h⟩:=Option.bind_eq_some_iff.1 h;obtain⟨⟨c,s3⟩,h3,h⟩:=Option.bind_eq_some_iff.1 h;simp only at h
   by_cases c5:1 < b
   ·rw[if_pos c5] at h;cases h
   rw[if_neg c5] at h;obtain⟨⟨ss,l,s4⟩,h4,h⟩:=Option.bind_eq_some_iff.1 h;cases h;obtain⟨i2,_⟩:=CW h2;obtain⟨i3,_⟩:=CW h3;obtain⟨i4,i5,i6⟩:=dn (Tq f) h4;simp only at i3 i4 i5 i6;have e1:b=0∨b=1:=by omega
   rw[Node.enc_dir (by simp),i1,i2,i3,i6,c2]
   rcases e1 with e1|e1<;>simp[e1,i4,List.append_assoc]
  rw[if_neg c2] at h
  by_cases c3:k=3
  ·rw[if_pos c3] at h;obtain⟨⟨b,s2⟩,h2,h⟩:=Option.bind_eq_some_iff.1 h;cases h;obtain⟨i2,_⟩:=F9 h2;rw[Node.enc_link (by simp),i1,i2,c3]
   simp[List.append_assoc]
  rw[if_neg c3] at h
  by_cases c4:k=4
  ·rw[if_pos c4] at h;cases h;rw[Node.enc_other (by simp) (by simp) (by simp),i1,c4]
   simp
  rw[if_neg c4] at h;cases h
theorem bL(rest:Str):∀l:List Ext,(∀x∈l,0≤x.off∧x.off+x.data.length≤1048576)→MR l.length (JX l++rest)=some (l,rest)
 |[],_=>by rw[List.length_nil,MR];rfl
 |x::l,h=>by
  have h1:=bL rest l fun y hy=>h y (by simp[hy])
  have h2:=h x (by simp)
  have k1:x.off.toNat < 256 ^ 4:=by rw[p4];omega
  have k2:x.data.length < 256 ^ 4:=by rw[p4];omega
  have h3:((x.off.toNat:Nat):Int)=x.off:=by omega
  rw[List.length_cons,PQ,MR,FU k1,Option.bind_some,Nn k2,Option.bind_some,h1,Option.bind_some,h3]
theorem Zp{rd:Str→Option (Node×Str)}(rest:Str):∀(l:List Node) (ss:List Str),l.length=ss.length→(∀s∈ss,s.length≤255)→
  (∀n∈l,∀(rest:Str),∃n',rd (n.enc++rest)=some (n',rest)∧n'.sameB n=true)→∃l',J6 rd l.length (Node.encs l ss++rest)=some (ss,l',rest)∧Node.samesB l' l=true
 |[],[],_,_,_=>⟨[],by rw[List.length_nil,J6,Node.encs_nil];simp,by simp⟩
 |n::l,s::ss,h1,h2,h4=>by
  have k1:s.length < 256 ^ 1:=by have:=h2 s (by simp);rw[p1];omega
  obtain⟨n',e2,e3⟩:=h4 n (by simp) (Node.encs l ss++rest)
  obtain⟨l',e4,e5⟩:=Zp rest l ss (by simpa using h1) (fun y hy=>h2 y (by simp[hy])) (fun y hy=>h4 y (by simp[hy]))
  refine⟨n'::l',?_,by rw[Node.sames_cons,e3,e5];rfl⟩
  rw[List.length_cons,UT,J6,Nn k1,Option.bind_some,e2,Option.bind_some,e4,Option.bind_some]
theorem iT(n:Node):∀(f:Nat) (rest:Str),n.ok→n.allB=true→n.count≤4096→n.depth < f→∃n',Fy f (n.enc++rest)=some (n',rest)∧n'.sameB n=true:=by
 induction n using Node.ind with
 |h n ih=>
  intro f rest hok hall hcnt hd;rw[Node.all_eq] at hall;simp only[Bool.and_eq_true] at hall;obtain⟨ha,ho⟩:=hall;obtain⟨hz,hk⟩:=Eu ho;have hce:=Node.count_eq n;rw[Node.depth_eq] at hd;have hok2:=hok;rw[Node.ok_iff] at hok2;obtain⟨h1,h2,h3,h4,h5,h6,h7⟩:=hok2;obtain⟨g,rfl⟩:∃g,f=g+1:=⟨f - 1,by omega⟩
  have hkind:n.kind=1∨n.kind=2∨n.kind=3∨n.kind=4:=by
   by_cases c1:n.kind=1
   ·exact .inl c1
   by_cases c2:n.kind=2
   ·exact .inr (.inl c2)
   by_cases c3:n.kind=3
   ·exact .inr (.inr (.inl c3))
   by_cases c4:n.kind=4
   ·exact .inr (.inr (.inr c4))
   simp[Ct,c1,c2,c3,c4] at hk
  rcases hkind with k|k|k|k
  ·have hk':=hk;simp[Ct,k] at hk';obtain⟨b1,b2,b3⟩:=QR hk';have hs:((n.size.toNat:Nat):Int)=n.size:=by omega
   have q1:n.size.toNat < 256 ^ 4:=by rw[p4];omega
   have q2:n.exts.length < 256 ^ 4:=by rw[p4];have:=h6.2.1;omega
   rw[Node.enc_file k,List.append_assoc,Fy,FU (by rw[p1];omega),Option.bind_some,if_pos rfl,List.append_assoc,FU q1,Option.bind_some,List.append_assoc,FU q2,Option.bind_some,bL _ _ b3,Option.bind_some]
   exact⟨_,rfl,XP k hz hs⟩
  ·have hk':=hk;simp only[Ct,k] at hk';have hn:E1 n=true:=by simpa using hk'
   obtain⟨c1,c2⟩:=I6 hn;obtain⟨_,_,c3⟩:=Mn _ _ c1;have hcl:∀l:List Node,l.length≤Node.counts l∧∀x∈l,x.count≤Node.counts l∧x.depth+1≤Node.depths l:=by
    intro l
    induction l with
    |nil=>simp
    |cons x l ih=>
     refine⟨by rw[Node.counts,Node.count_eq,List.length_cons];omega,fun y hy=>?_⟩
     rw[Node.counts,Node.depths];rcases List.mem_cons.1 hy with rfl|hy
     ·omega
     ·have:=ih.2 y hy;omega
   obtain⟨hni,hcm⟩:=hcl n.items;have q1:(if n.opq=true then 1 else 0) < 256 ^ 1:=by rw[p1];split<;>omega
   have q2:n.names.l.length < 256 ^ 2:=by rw[p2];omega
   have hall:∀l:List Node,Node.allsB l=true→∀x∈l,x.allB=true:=by
    intro l
    induction l with
    |nil=>simp
    |cons x l ih=>
     intro h y hy;rw[Node.allsB] at h;simp only[Bool.and_eq_true] at h;rcases List.mem_cons.1 hy with rfl|hy
     ·exact h.1
     ·exact ih h.2 y hy
   obtain⟨l',e1,e2⟩:=Zp (rd:=Fy g) rest n.items n.names.l c2.symm (fun s hs=>by have:=Xq (c3 s hs);omega) (fun x hx r=>
    ih x hx g r (h4 x hx) (hall _ ha x hx) (by have:=hcm x hx;omega) (by have:=hcm x hx;omega))
   have hopq:decide ((if n.opq=true then 1 else 0)=1)=n.opq:=by cases n.opq<;>rfl
   have hnb:¬1 < (if n.opq=true then 1 else 0):=by split<;>omega
   rw[Node.enc_dir k,List.append_assoc,Fy,FU (by rw[p1];omega),Option.bind_some,if_neg (by omega),if_pos rfl,List.append_assoc,FU q1,Option.bind_some,List.append_assoc,FU q2,Option.bind_some,if_neg hnb,c2,e1,Option.bind_some,hopq]
   exact⟨_,rfl,Z7 k hz e2⟩
  ·have q1:n.target.length < 256 ^ 2:=by
    have hk':=hk;simp only[Ct,k] at hk';simp at hk';rw[p2];omega
   rw[Node.enc_link k,List.append_assoc,Fy,FU (by rw[p1];omega),Option.bind_some,if_neg (by omega),if_neg (by omega),if_pos rfl,Nn q1,Option.bind_some]
   exact⟨_,rfl,Xa k hz⟩
  ·rw[Node.enc_other (by omega) (by omega) (by omega),Fy,FU (by rw[p1];omega),Option.bind_some,if_neg (by omega),if_neg (by omega),if_neg (by omega),if_pos (by omega)]
   exact⟨_,rfl,UJ k hz⟩
open Go.Proofs
theorem mM{n:Node}(h:M0 n=true):n.kind=1∨n.kind=2∨n.kind=3∨n.kind=4:=by
 obtain⟨_,hk⟩:=Eu h
 by_cases c1:n.kind=1
 ·exact .inl c1
 by_cases c2:n.kind=2
 ·exact .inr (.inl c2)
 by_cases c3:n.kind=3
 ·exact .inr (.inr (.inl c3))
 by_cases c4:n.kind=4
 ·exact .inr (.inr (.inr c4))
 simp[Ct,c1,c2,c3,c4] at hk
theorem Ur:∀{l:List Node},Node.allsB l=true→∀x∈l,x.allB=true
 |[],_,x,hx=>by cases hx
 |y::l,h,x,hx=>by
  rw[Node.allsB] at h;simp only[Bool.and_eq_true] at h;rcases List.mem_cons.1 hx with rfl|hx
  ·exact h.1
  ·exact Ur h.2 x hx
theorem FK:∀{l:List Node},l.length≤Node.counts l∧∀x∈l,x.count≤Node.counts l∧x.depth+1≤Node.depths l
 |[]=>by simp
 |y::l=>by
  obtain⟨h1,h2⟩:=FK (l:=l);refine⟨by rw[Node.counts,Node.count_eq,List.length_cons];omega,fun x hx=>?_⟩
  rw[Node.counts,Node.depths];rcases List.mem_cons.1 hx with rfl|hx
  ·omega
  ·have:=h2 x hx;omega
@[simp] theorem nG{α β γ:Type}{k:α→β→γ→Prop}{x:α}{y:β}{z:γ}:AL k (fun j=>j x y z)=k x y z:=rfl
end Go.Av
