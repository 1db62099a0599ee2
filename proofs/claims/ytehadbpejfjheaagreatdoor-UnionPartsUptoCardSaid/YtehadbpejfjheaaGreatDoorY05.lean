/- Parts of the proofs of this seat: abstract values over the model, and what the functions of the program do. No condition. -/
import Derived.Test.YtehadbpejfjheaaGreatDoorY04b
import Derived.Test.YtehadbpejfjheaaGreatDoorXSplit
import Derived.Test.YtehadbpejfjheaaGreatDoorY03a
import Derived.Test.YtehadbpejfjheaaGreatDoorX03
set_option linter.all false
set_option maxRecDepth 100000
namespace Go.Av
def be(n:Nat):Nat→Str
 |0=>[]
 |k+1=>UInt8.ofNat (n / 256 ^ k)::be n k
@[simp] theorem bE(n:Nat):∀k,(be n k).length=k
 |0=>rfl
 |k+1=>by simp[be,bE n k]
def val:Str→Nat
 |[]=>0
 |b::l=>b.toNat*256 ^ l.length+val l
def takeN(k:Nat)(s:Str):Option (Nat×Str):=if s.length < k then none else some (val (s.take k),s.drop k)
def dw(k:Nat)(s:Str):Option (Str×Str):=(takeN k s).bind fun p=>if p.2.length < p.1 then none else some (p.2.take p.1,p.2.drop p.1)
def Z1(k:Nat)(t:Str):Str:=be t.length k++t
def eh(x:Ext):Str:=be x.off.toNat 4++Z1 4 x.data
def eA(l:List Ext):Str:=l.flatMap eh
mutual
def Node.enc:Node→Str
 | .mk k o ns its ir sz es er t=>be k.toNat 1++
  (if k=1 then be sz.toNat 4++(be es.length 4++eA es) else if k=2 then be (if o=true then 1 else 0) 1++(be ns.l.length 2++Node.encs its ns.l) else if k=3 then Z1 2 t else [])
def Node.encs:List Node→List Str→Str
 |[],_=>[]
 |n::l,ss=>match ss with
  |[]=>[]
  |s::ss=>Z1 1 s++(n.enc++Node.encs l ss)
end
@[simp] theorem Node.encs_nil(ss:List Str):Node.encs [] ss=[]:=by rw[Node.encs]
@[simp] theorem Node.encs_nil2(l:List Node):Node.encs l []=[]:=by cases l<;>rw[Node.encs]
@[simp] theorem Node.encs_cons(n:Node)(l:List Node)(s:Str)(ss:List Str):Node.encs (n::l) (s::ss)=Z1 1 s++(n.enc++Node.encs l ss):=by rw[Node.encs]
structure RS where
 s:Str
 bad:Bool
 left:Int
def RS.num(k:Nat)(st:RS):Nat×RS:=match takeN k st.s with|some (n,r)=>(n,{st with s:=r})|none=>(0,{st with bad:=true})
def RS.text(k:Nat)(st:RS):Str×RS:=match dw k st.s with|some (t,r)=>(t,{st with s:=r})|none=>([],{st with bad:=true})
def RS.exts:Nat→RS→List Ext×RS
 |0,st=>([],st)
 |c+1,st=>if st.bad=true then ([],st) else
  let a:=st.num 4
  let b:=a.2.text 4
  let r:=RS.exts c b.2
  (⟨a.1,b.1⟩::r.1,r.2)
def cr{α:Type}(l:List α):Rt:=match l with|[]=>.nil|_=>.none
def RS.items(rd:RS→Node×RS):Nat→RS→List Str×List Node×RS
 |0,st=>([],[],st)
 |c+1,st=>if st.bad=true then ([],[],st) else
  let a:=st.text 1
  let b:=rd a.2
  let r:=RS.items rd c b.2
  (a.1::r.1,b.1::r.2.1,r.2.2)
theorem p1:(256:Nat) ^ 1=256:=rfl
theorem p2:(256:Nat) ^ 2=65536:=rfl
theorem p4:(256:Nat) ^ 4=4294967296:=rfl
theorem Iu{n:Node}(h:Jq n=true):Dw n=true∧Dl n=true:=by simpa[Jq] using h
@[simp] theorem Node.kind_mk{k:Int}{o:Bool}{ns:Ss}{its:List Node}{ir:Rt}{sz:Int}{es:List Ext}{er:Rt}{t:Str}:(Node.mk k o ns its ir sz es er t).kind=k:=rfl
@[simp] theorem Node.opq_mk{k:Int}{o:Bool}{ns:Ss}{its:List Node}{ir:Rt}{sz:Int}{es:List Ext}{er:Rt}{t:Str}:(Node.mk k o ns its ir sz es er t).opq=o:=rfl
@[simp] theorem Node.names_mk{k:Int}{o:Bool}{ns:Ss}{its:List Node}{ir:Rt}{sz:Int}{es:List Ext}{er:Rt}{t:Str}:(Node.mk k o ns its ir sz es er t).names=ns:=rfl
@[simp] theorem Node.items_mk{k:Int}{o:Bool}{ns:Ss}{its:List Node}{ir:Rt}{sz:Int}{es:List Ext}{er:Rt}{t:Str}:(Node.mk k o ns its ir sz es er t).items=its:=rfl
@[simp] theorem Node.ir_mk{k:Int}{o:Bool}{ns:Ss}{its:List Node}{ir:Rt}{sz:Int}{es:List Ext}{er:Rt}{t:Str}:(Node.mk k o ns its ir sz es er t).ir=ir:=rfl
@[simp] theorem Node.size_mk{k:Int}{o:Bool}{ns:Ss}{its:List Node}{ir:Rt}{sz:Int}{es:List Ext}{er:Rt}{t:Str}:(Node.mk k o ns its ir sz es er t).size=sz:=rfl
@[simp] theorem Node.exts_mk{k:Int}{o:Bool}{ns:Ss}{its:List Node}{ir:Rt}{sz:Int}{es:List Ext}{er:Rt}{t:Str}:(Node.mk k o ns its ir sz es er t).exts=es:=rfl
@[simp] theorem Node.er_mk{k:Int}{o:Bool}{ns:Ss}{its:List Node}{ir:Rt}{sz:Int}{es:List Ext}{er:Rt}{t:Str}:(Node.mk k o ns its ir sz es er t).er=er:=rfl
@[simp] theorem Node.target_mk{k:Int}{o:Bool}{ns:Ss}{its:List Node}{ir:Rt}{sz:Int}{es:List Ext}{er:Rt}{t:Str}:(Node.mk k o ns its ir sz es er t).target=t:=rfl
open Go.Proofs
theorem bL{n:Node}(h:Jq n=true):n.kind=1∨n.kind=2∨n.kind=3∨n.kind=4:=by
 obtain⟨_,hk⟩:=Iu h
 by_cases c1:n.kind=1
 ·exact .inl c1
 by_cases c2:n.kind=2
 ·exact .inr (.inl c2)
 by_cases c3:n.kind=3
 ·exact .inr (.inr (.inl c3))
 by_cases c4:n.kind=4
 ·exact .inr (.inr (.inr c4))
 simp[Dl,c1,c2,c3,c4] at hk
theorem P5:∀{l:List Node},Node.allsB l=true→∀x∈l,x.allB=true
 |[],_,x,hx=>by cases hx
 |y::l,h,x,hx=>by
  rw[Node.allsB] at h;simp only[Bool.and_eq_true] at h;rcases List.mem_cons.1 hx with rfl|hx
  ·exact h.1
  ·exact P5 h.2 x hx
theorem GG:∀{l:List Node},l.length≤Node.counts l∧∀x∈l,x.count≤Node.counts l∧x.depth+1≤Node.depths l
 |[]=>by simp
 |y::l=>by
  obtain⟨h1,h2⟩:=GG (l:=l);refine⟨by rw[Node.counts,Node.count_eq,List.length_cons];omega,fun x hx=>?_⟩
  rw[Node.counts,Node.depths];rcases List.mem_cons.1 hx with rfl|hx
  ·omega
  ·have:=h2 x hx;omega
@[simp] theorem dA{α β γ:Type}{k:α→β→γ→Prop}{x:α}{y:β}{z:γ}:AK k (fun j=>j x y z)=k x y z:=rfl
@[simp] theorem ek{b:Bool}{r:AV→Prop}:AK r (fun j=>ifK (.bool b) (j (.int .i64 1)) (j (.int .i64 0)))=r (.int .i64 ((if b=true then 1 else 0:Nat):Int)):=by cases b<;>rfl
end Go.Av
