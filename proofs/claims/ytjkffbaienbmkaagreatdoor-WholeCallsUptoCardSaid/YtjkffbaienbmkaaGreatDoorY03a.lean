/- Parts of the proofs of this seat: abstract values over the model, and what the functions of the program do. No condition. -/
import Derived.Test.YtjkffbaienbmkaaGreatDoorX03
set_option linter.all false
namespace Go.Av
def IY(off:Int)(out:Str)(x:Ext):Int:=if off+out.length > x.off then off+out.length else x.off
def rTo(off m:Int)(x:Ext):Int:=if off+m < x.off+x.data.length then off+m else x.off+x.data.length
def EB(off m:Int)(out:Str)(x:Ext):Str:=
 if IY off out x≥rTo off m x then out else
  out++List.replicate (IY off out x - off - out.length).toNat 0++(x.data.take (rTo off m x - x.off).toNat).drop (IY off out x - x.off).toNat
theorem Tn{off m:Int}{out:Str}{x:Ext}(h:out.length≤m)(hx:0≤x.off)(ho:0≤off):((EB off m out x).length:Int)≤m:=by
 unfold EB;split
 ·exact h
 ·rename_i c;have:rTo off m x≤off+m∧rTo off m x≤x.off+x.data.length:=by unfold rTo;split<;>omega
  have h2:off+out.length≤IY off out x∧x.off≤IY off out x:=by unfold IY;split<;>omega
  simp;omega
def Tt(size:Int)(l:List Ext)(off n:Int):Str:=
 if off < 0∨off≥size∨n < 1 then [] else
  let m:=if size - off < n then size - off else n
  let out:=l.foldl (EB off m) []
  out++List.replicate (m - out.length).toNat 0
theorem Re{α β:Type}(f:β→α→β)(b:β){l:List α}{i:Nat}{x:α}(h:l[i]? =some x):(l.take (i+1)).foldl f b=f ((l.take i).foldl f b) x:=by
 rw[List.take_succ,h];simp
abbrev has(x:Ext)(p:Int):Prop:=x.off≤p∧p < x.off+x.data.length
theorem O6{p:Int}:∀{l:List Ext},(∀x∈l,¬has x p)→atE l p=0
 |[],_=>rfl
 |x::l,h=>by
  rw[atE,if_neg (h x (by simp)),O6 fun y hy=>h y (by simp[hy])]
theorem iu{p:Int}{x:Ext}{r:List Ext}:∀{l:List Ext},(∀y∈l,¬has y p)→has x p→atE (l++x::r) p=x.data.getD (p - x.off).toNat 0
 |[],_,h=>by rw[List.nil_append,atE,if_pos h]
 |y::l,h,hx=>by
  rw[List.cons_append,atE,if_neg (h y (by simp)),iu (fun z hz=>h z (by simp[hz])) hx]
theorem XU{size:Int}:∀{l:List Ext} {a:Int},Di size a l=true→∀y∈l,a≤y.off∧y.off+y.data.length≤size∧y.data≠[]
 |[],_,_,y,hy=>by simp at hy
 |x::l,a,h,y,hy=>by
  simp only[Di,Bool.and_eq_true,decide_eq_true_eq] at h;rcases List.mem_cons.1 hy with rfl|hy
  ·exact⟨h.1.1,h.1.2.2,h.1.2.1⟩
  ·have:=XU h.2 y hy;exact⟨by omega,this.2⟩
theorem Xp{size:Int}:∀{l:List Ext} {a:Int} {i:Nat} {x:Ext} {r:List Ext},Di size a l=true→l.drop i=x::r→Di size (x.off+x.data.length) r=true
 |[],_,i,x,r,_,h=>by simp at h
 |y::l,a,0,x,r,h,e=>by
  simp at e;obtain⟨rfl,rfl⟩:=e;simp only[Di,Bool.and_eq_true] at h;exact h.2
 |y::l,a,i+1,x,r,h,e=>by
  simp only[Di,Bool.and_eq_true] at h;exact Xp h.2 (by simpa using e)
theorem TC{size:Int}{l:List Ext}(h:ES size l=true):0≤size∧size≤1048576∧∀x∈l,0≤x.off∧x.off+x.data.length≤1048576:=by
 simp[ES] at h;refine⟨h.1.1,h.1.2,fun x hx=>?_⟩
 have:=XU h.2 x hx;omega
theorem dx{size:Int}{l:List Ext}{off n:Int}(h:ES size l=true):Tt size l off n=W7 size l off n:=by
 obtain⟨h1,h2,h3⟩:=TC h;have hch:Di size 0 l=true:=by simp[ES] at h;exact h.2
 unfold Tt W7
 by_cases c:off < 0∨off≥size∨n < 1
 ·rw[if_pos c]
  by_cases c0:off < 0
  ·simp[c0]
  ·have:(min n (size - off)).toNat=0:=by omega
   simp[c0,this]
 have hm:(if size - off < n then size - off else n)=min n (size - off):=by split<;>omega
 rw[if_neg c];simp only[show ¬off < 0 by omega,if_false,hm]
 generalize hmm:min n (size - off)=m;have hm1:1≤m∧off+m≤size:=by omega
 have key:∀i,i≤l.length→let out:=(l.take i).foldl (EB off m) []
   (∀j,j < out.length→out[j]? =some (atE l (off+j)))∧(out.length:Int)≤m∧(out=[]∨∀y∈l.drop i,off+out.length≤y.off)∧
   ∀x∈l.take i,∀p,off+out.length≤p→p < off+m→¬has x p:=by
  intro i
  induction i with
  |zero=>intro _;simp;omega
  |succ i ih=>
   intro hi;obtain⟨x,hxi,hd,_,hx⟩:=Z0 (l:=l) (i:=i) (by omega)
   obtain⟨k1,k2,k3,k4⟩:=ih (by omega)
   obtain⟨g1,g2⟩:=h3 x hx;have hrest:=fun y hy=>(XU (Xp hch hd) y hy).1
   rw[Re _ _ hxi];have hsplit:l=l.take i++x::l.drop (i+1):=by rw[←hd,List.take_append_drop]
   have htk:l.take (i+1)=l.take i++[x]:=by rw[List.take_succ,hxi];rfl
   generalize (l.take i).foldl (EB off m) []=out at*;have hlen:=Tn (off:=off) (m:=m) (out:=out) (x:=x) k2 g1 (by omega)
   have hf:IY off out x=max x.off (off+out.length):=by unfold IY;split<;>omega
   have ht:rTo off m x=min (x.off+x.data.length) (off+m):=by unfold rTo;split<;>omega
   unfold EB at hlen ⊢
   by_cases cc:IY off out x≥rTo off m x
   ·simp only[cc,if_true] at hlen ⊢;refine⟨k1,k2,?_,fun y hy p p1 p2=>?_⟩
    ·rcases k3 with k3|k3
     ·exact .inl k3
     ·right;intro y hy;exact k3 y (by rw[hd];simp[hy])
    ·rw[htk] at hy;rcases List.mem_append.1 hy with hy|hy
     ·exact k4 y hy p p1 p2
     ·simp at hy;subst hy;unfold has;omega
   ·simp only[cc,if_false] at hlen ⊢;have hz:((IY off out x - off - out.length).toNat:Int)=IY off out x - off - out.length:=by omega
    have hfx:out=[]∨IY off out x=x.off:=by
     rcases k3 with k3|k3
     ·exact .inl k3
     ·right;have:=k3 x (by rw[hd];simp);omega
    generalize hzz:(IY off out x - off - out.length).toNat=z at*;have hsl:((x.data.take (rTo off m x - x.off).toNat).drop (IY off out x - x.off).toNat).length=(rTo off m x - IY off out x).toNat:=by simp;omega
    refine⟨fun j hj=>?_,hlen,.inr fun y hy=>?_,fun y hy p p1 p2=>?_⟩
    ·simp only[List.length_append,List.length_replicate,hsl] at hj
     by_cases c1:j < out.length
     ·rw[List.append_assoc,List.getElem?_append_left c1];exact k1 j c1
     by_cases c2:j < out.length+z
     ·rw[List.append_assoc,List.getElem?_append_right (by omega),List.getElem?_append_left (by simp;omega)]
      rw[List.getElem?_replicate,if_pos (by omega),O6]
      intro y hy;rw[hsplit] at hy;rcases List.mem_append.1 hy with hy|hy
      ·exact k4 y hy _ (by omega) (by omega)
      rcases List.mem_cons.1 hy with rfl|hy
      ·unfold has;omega
      ·have:=hrest y hy;unfold has;omega
     ·rw[List.getElem?_append_right (by simp;omega)]
      simp only[List.length_append,List.length_replicate];have e:off+(j:Int) - x.off=((j - (out.length+z)+(IY off out x - x.off).toNat:Nat):Int):=by omega
      have hat:atE l (off+j)=x.data.getD (off+j - x.off).toNat 0:=by
       rw[hsplit];refine iu (fun y hy=>k4 y hy _ (by omega) (by omega)) ?_
       unfold has;omega
      rw[hat,e,List.getElem?_drop,List.getElem?_take_of_lt (by omega),Int.toNat_natCast,List.getD_eq_getElem?_getD,Nat.add_comm]
      rw[List.getElem?_eq_getElem (by omega)]
      rfl
    ·have:=hrest y hy;simp only[List.length_append,List.length_replicate,hsl];omega
    ·simp only[List.length_append,List.length_replicate,hsl] at p1;rw[htk] at hy;rcases List.mem_append.1 hy with hy|hy
     ·exact k4 y hy p (by omega) p2
     ·simp at hy;subst hy;unfold has;omega
 obtain⟨k1,k2,k3,k4⟩:=key l.length (Nat.le_refl _);rw[List.take_length] at k1 k2 k3 k4;generalize l.foldl (EB off m) []=out at*;have hz:((m - out.length).toNat:Int)=m - out.length:=by omega
 apply List.ext_getElem?;intro j
 by_cases c1:j < out.length
 ·rw[List.getElem?_append_left c1,k1 j c1,List.getElem?_map,List.getElem?_range (by omega)]
  rfl
 ·rw[List.getElem?_append_right (by omega),List.getElem?_replicate]
  by_cases c2:j < m.toNat
  ·rw[if_pos (by omega)]
   rw[List.getElem?_map,List.getElem?_range c2];simp only[Option.map_some];rw[O6 fun y hy=>k4 y hy _ (by omega) (by omega)]
  ·have:(List.range m.toNat)[j]? =none:=List.getElem?_eq_none (by simp;omega)
   rw[if_neg (by omega),List.getElem?_map,this]
   rfl
theorem Xi:∀(n:Nat) (s:Str) (i:Nat),s.length≤n→
  (∀x∈ofE i s,(i:Int)≤x.off∧x.off+x.data.length≤i+s.length∧x.data≠[]∧∀b∈x.data,b≠0)∧
  (ofE i s).Pairwise (fun x y:Ext=>x.off+(x.data.length:Int) < y.off)∧(ofE i s).length≤s.length∧
  ∀j,j < s.length→atE (ofE i s) (i+j)=s.getD j 0
 |0,s,i,hn=>by
  have:s=[]:=by simpa using hn
  subst this;simp[ofE]
 |n+1,s,i,hn=>by
  by_cases h:s=[]
  ·subst h;simp[ofE]
  rw[ofE,dif_neg h];have hpos:=List.length_pos_iff.2 h;have hpre:=List.takeWhile_prefix (p:=fun x:UInt8=>x != 0) (l:=s)
  have hall:∀b∈s.takeWhile (· != 0),b≠0:=fun b hb=>by
   have:=List.all_eq_true.1 (List.all_takeWhile (p:=fun x:UInt8=>x != 0) (l:=s)) b hb
   simpa using this
  have hend:=fun x=>MS (p:=fun x:UInt8=>x != 0) (s:=s) (x:=x)
  have htk:=PK (p:=(· != 0)) s;generalize s.takeWhile (· != 0)=run at*;have hlen:=hpre.length_le;obtain⟨h1,h2,h3,h4⟩:=Xi n (s.drop (run.length+1)) (i+run.length+1) (by simp;omega)
  have hdl:(s.drop (run.length+1)).length≤s.length - (run.length+1):=by simp
  have hget:∀j,j < run.length→s.getD j 0=run.getD j 0:=fun j hj=>by
   simp only[List.getD_eq_getElem?_getD]
   conv=>rhs;rw[←htk,List.getElem?_take_of_lt hj]
  have hrest:∀j,run.length < j→s.getD j 0=(s.drop (run.length+1)).getD (j - (run.length+1)) 0:=fun j hj=>by
   simp only[List.getD_eq_getElem?_getD,List.getElem?_drop];rw[show run.length+1+(j - (run.length+1))=j by omega]
  have hat:s.getD run.length 0=0:=by
   by_cases c:run.length < s.length
   ·have:=hend _ (List.getElem?_eq_getElem c);simp[List.getD_eq_getElem?_getD,c];simpa using this
   ·rw[List.getD_eq_getElem?_getD,List.getElem?_eq_none (by omega)];rfl
  by_cases hr:run=[]
  ·subst hr;simp only[if_true,List.nil_append,List.length_nil,Nat.zero_add,Nat.add_zero] at*;refine⟨fun x hx=>?_,h2,by omega,fun j hj=>?_⟩
   ·obtain⟨k1,k2,k3⟩:=h1 x hx;have:=List.length_pos_of_mem hx;exact⟨by omega,by omega,k3⟩
   ·by_cases c:j=0
    ·subst c;rw[hat,O6];intro x hx;have:=(h1 x hx).1;unfold has;omega
    ·rw[hrest j (by omega),←h4 (j - 1) (by simp;omega)]
     congr 1;omega
  ·simp only[hr,if_false];have hrp:=List.length_pos_iff.2 hr;refine⟨fun x hx=>?_,?_,by rw[List.length_append,List.length_singleton];omega,fun j hj=>?_⟩
   ·rcases List.mem_append.1 hx with hx|hx
    ·simp at hx;subst hx;exact⟨by simp,by simp;omega,hr,hall⟩
    ·obtain⟨k1,k2,k3⟩:=h1 x hx;have:=List.length_pos_of_mem hx;exact⟨by omega,by omega,k3⟩
   ·refine List.pairwise_append.2 ⟨by simp,h2,fun x hx y hy=>?_⟩
    simp at hx;subst hx;have:=(h1 y hy).1;simp only;omega
   ·by_cases c:j < run.length
    ·have e:=iu (p:=(i:Int)+j) (x:=⟨i,run⟩) (r:=ofE (i+run.length+1) (s.drop (run.length+1))) (l:=[]) (by simp) (by unfold has;simp only;omega)
     simp only[List.nil_append] at e;rw[show ([⟨i,run⟩]++ofE (i+run.length+1) (s.drop (run.length+1)):List Ext)=⟨i,run⟩::ofE (i+run.length+1) (s.drop (run.length+1)) from rfl,e,hget j c]
     congr 1;omega
    ·rw[List.singleton_append,atE,if_neg (by simp only;omega)]
     by_cases c2:j=run.length
     ·subst c2;rw[hat,O6];intro x hx;have:=(h1 x hx).1;unfold has;omega
     ·rw[hrest j (by omega),←h4 (j - (run.length+1)) (by simp;omega)]
      congr 1;omega
theorem Ql{size:Int}:∀{l:List Ext} {a:Int},(∀x∈l,a≤x.off∧x.data≠[]∧x.off+x.data.length≤size)→l.Pairwise (fun x y:Ext=>x.off+(x.data.length:Int) < y.off)→Di size a l=true
 |[],_,_,_=>rfl
 |x::l,a,h,hp=>by
  have hx:=h x (by simp)
  have hp':=List.pairwise_cons.1 hp;simp only[Di,Bool.and_eq_true,decide_eq_true_eq];exact⟨hx,Ql (fun y hy=>⟨by have:=hp'.1 y hy;omega,(h y (by simp[hy])).2⟩) hp'.2⟩
theorem ql{s:Str}(h:s.length≤1048576):ES s.length (ofE 0 s)=true:=by
 obtain⟨h1,h2,h3,h4⟩:=Xi s.length s 0 (Nat.le_refl _);simp only[ES,Bool.and_eq_true,decide_eq_true_eq];exact⟨by omega,Ql (fun x hx=>by have:=h1 x hx;exact⟨by omega,this.2.2.1,by omega⟩) h2⟩
end Go.Av
