/- Parts of the proofs of this seat: abstract values over the model, and what the functions of the program do. No condition. -/
import Derived.Test.YtehadbpejfjheaaGreatDoorX03
set_option linter.all false
set_option maxRecDepth 100000
namespace Go.Av
def Og(off:Int)(out:Str)(x:Ext):Int:=if off+out.length > x.off then off+out.length else x.off
def rTo(off m:Int)(x:Ext):Int:=if off+m < x.off+x.data.length then off+m else x.off+x.data.length
def Ds(off m:Int)(out:Str)(x:Ext):Str:=
 if Og off out x≥rTo off m x then out else
  out++List.replicate (Og off out x - off - out.length).toNat 0++(x.data.take (rTo off m x - x.off).toNat).drop (Og off out x - x.off).toNat
theorem ST{off m:Int}{out:Str}{x:Ext}(h:out.length≤m)(hx:0≤x.off)(ho:0≤off):((Ds off m out x).length:Int)≤m:=by
 unfold Ds;split
 ·exact h
 ·rename_i c;have:rTo off m x≤off+m∧rTo off m x≤x.off+x.data.length:=by unfold rTo;split<;>omega
  have h2:off+out.length≤Og off out x∧x.off≤Og off out x:=by unfold Og;split<;>omega
  simp;omega
def P6(size:Int)(l:List Ext)(off n:Int):Str:=
 if off < 0∨off≥size∨n < 1 then [] else
  let m:=if size - off < n then size - off else n
  let out:=l.foldl (Ds off m) []
  out++List.replicate (m - out.length).toNat 0
theorem Pm{α β:Type}(f:β→α→β)(b:β){l:List α}{i:Nat}{x:α}(h:l[i]? =some x):(l.take (i+1)).foldl f b=f ((l.take i).foldl f b) x:=by
 rw[List.take_succ,h];simp
abbrev has(x:Ext)(p:Int):Prop:=x.off≤p∧p < x.off+x.data.length
theorem QE{p:Int}:∀{l:List Ext},(∀x∈l,¬has x p)→atE l p=0
 |[],_=>rfl
 |x::l,h=>by
  rw[atE,if_neg (h x (by simp)),QE fun y hy=>h y (by simp[hy])]
theorem Yn{p:Int}{x:Ext}{r:List Ext}:∀{l:List Ext},(∀y∈l,¬has y p)→has x p→atE (l++x::r) p=x.data.getD (p - x.off).toNat 0
 |[],_,h=>by rw[List.nil_append,atE,if_pos h]
 |y::l,h,hx=>by
  rw[List.cons_append,atE,if_neg (h y (by simp)),Yn (fun z hz=>h z (by simp[hz])) hx]
theorem Ts{size:Int}:∀{l:List Ext} {a:Int},DU size a l=true→∀y∈l,a≤y.off∧y.off+y.data.length≤size∧y.data≠[]
 |[],_,_,y,hy=>by simp at hy
 |x::l,a,h,y,hy=>by
  simp only[DU,Bool.and_eq_true,decide_eq_true_eq] at h;rcases List.mem_cons.1 hy with rfl|hy
  ·exact⟨h.1.1,h.1.2.2,h.1.2.1⟩
  ·have:=Ts h.2 y hy;exact⟨by omega,this.2⟩
theorem X0{size:Int}{l:List Ext}(h:DO size l=true):0≤size∧size≤1048576∧∀x∈l,0≤x.off∧x.off+x.data.length≤1048576:=by
 simp[DO] at h;refine⟨h.1.1,h.1.2,fun x hx=>?_⟩
 have:=Ts h.2 x hx;omega
theorem PX:∀(n:Nat) (s:Str) (i:Nat),s.length≤n→
  (∀x∈ofE i s,(i:Int)≤x.off∧x.off+x.data.length≤i+s.length∧x.data≠[]∧∀b∈x.data,b≠0)∧
  (ofE i s).Pairwise (fun x y:Ext=>x.off+(x.data.length:Int) < y.off)∧(ofE i s).length≤s.length∧
  ∀j,j < s.length→atE (ofE i s) (i+j)=s.getD j 0
 |0,s,i,hn=>by
  have:s=[]:=by simpa using hn
  subst this;simp[ofE]
 |n+1,s,i,hn=>by
  by_cases h:s=[]
  ·subst h;simp[ofE]
  rw[ofE,dif_neg h];have hpos:=List.length_pos_iff.2 h;have hpre:=List.takeWhile_prefix (p:=fun x:UInt8=>x != 0) (l:=s)
  have hall:∀b∈s.takeWhile (· != 0),b≠0:=fun b hb=>by
   have:=List.all_eq_true.1 (List.all_takeWhile (p:=fun x:UInt8=>x != 0) (l:=s)) b hb
   simpa using this
  have hend:=fun x=>IV (p:=fun x:UInt8=>x != 0) (s:=s) (x:=x)
  have htk:=KZ (p:=(· != 0)) s;generalize s.takeWhile (· != 0)=run at*;have hlen:=hpre.length_le;obtain⟨h1,h2,h3,h4⟩:=PX n (s.drop (run.length+1)) (i+run.length+1) (by simp;omega)
  have hdl:(s.drop (run.length+1)).length≤s.length - (run.length+1):=by simp
  have hget:∀j,j < run.length→s.getD j 0=run.getD j 0:=fun j hj=>by
   simp only[List.getD_eq_getElem?_getD]
   conv=>rhs;rw[←htk,List.getElem?_take_of_lt hj]
  have hrest:∀j,run.length < j→s.getD j 0=(s.drop (run.length+1)).getD (j - (run.length+1)) 0:=fun j hj=>by
   simp only[List.getD_eq_getElem?_getD,List.getElem?_drop];rw[show run.length+1+(j - (run.length+1))=j by omega]
  have hat:s.getD run.length 0=0:=by
   by_cases c:run.length < s.length
   ·have:=hend _ (List.getElem?_eq_getElem c);simp[List.getD_eq_getElem?_getD,c];simpa using this
   ·rw[List.getD_eq_getElem?_getD,List.getElem?_eq_none (by omega)];rfl
  by_cases hr:run=[]
  ·subst hr;simp only[if_true,List.nil_append,List.length_nil,Nat.zero_add,Nat.add_zero] at*;refine⟨fun x hx=>?_,h2,by omega,fun j hj=>?_⟩
   ·obtain⟨k1,k2,k3⟩:=h1 x hx;have:=List.length_pos_of_mem hx;exact⟨by omega,by omega,k3⟩
   ·by_cases c:j=0
    ·subst c;rw[hat,QE];intro x hx;have:=(h1 x hx).1;unfold has;omega
    ·rw[hrest j (by omega),←h4 (j - 1) (by simp;omega)]
     congr 1;omega
  ·simp only[hr,if_false];have hrp:=List.length_pos_iff.2 hr;refine⟨fun x hx=>?_,?_,by rw[List.length_append,List.length_singleton];omega,fun j hj=>?_⟩
   ·rcases List.mem_append.1 hx with hx|hx
    ·simp at hx;subst hx;exact⟨by simp,by simp;omega,hr,hall⟩
    ·obtain⟨k1,k2,k3⟩:=h1 x hx;have:=List.length_pos_of_mem hx;exact⟨by omega,by omega,k3⟩
   ·refine List.pairwise_append.2 ⟨by simp,h2,fun x hx y hy=>?_⟩
    simp at hx;subst hx;have:=(h1 y hy).1;simp only;omega
   ·by_cases c:j < run.length
    ·have e:=Yn (p:=(i:Int)+j) (x:=⟨i,run⟩) (r:=ofE (i+run.length+1) (s.drop (run.length+1))) (l:=[]) (by simp) (by unfold has;simp only;omega)
     simp only[List.nil_append] at e;rw[show ([⟨i,run⟩]++ofE (i+run.length+1) (s.drop (run.length+1)):List Ext)=⟨i,run⟩::ofE (i+run.length+1) (s.drop (run.length+1)) from rfl,e,hget j c]
     congr 1;omega
    ·rw[List.singleton_append,atE,if_neg (by simp only;omega)]
     by_cases c2:j=run.length
     ·subst c2;rw[hat,QE];intro x hx;have:=(h1 x hx).1;unfold has;omega
     ·rw[hrest j (by omega),←h4 (j - (run.length+1)) (by simp;omega)]
      congr 1;omega
theorem Lh{size:Int}:∀{l:List Ext} {a:Int},(∀x∈l,a≤x.off∧x.data≠[]∧x.off+x.data.length≤size)→l.Pairwise (fun x y:Ext=>x.off+(x.data.length:Int) < y.off)→DU size a l=true
 |[],_,_,_=>rfl
 |x::l,a,h,hp=>by
  have hx:=h x (by simp)
  have hp':=List.pairwise_cons.1 hp;simp only[DU,Bool.and_eq_true,decide_eq_true_eq];exact⟨hx,Lh (fun y hy=>⟨by have:=hp'.1 y hy;omega,(h y (by simp[hy])).2⟩) hp'.2⟩
theorem bM{s:Str}(h:s.length≤1048576):DO s.length (ofE 0 s)=true:=by
 obtain⟨h1,h2,h3,h4⟩:=PX s.length s 0 (Nat.le_refl _);simp only[DO,Bool.and_eq_true,decide_eq_true_eq];exact⟨by omega,Lh (fun x hx=>by have:=h1 x hx;exact⟨by omega,this.2.2.1,by omega⟩) h2⟩
end Go.Av
