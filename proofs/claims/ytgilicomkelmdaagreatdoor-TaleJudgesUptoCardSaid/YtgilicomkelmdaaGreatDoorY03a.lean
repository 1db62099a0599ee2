/- Parts of the proofs of this seat: abstract values over the model, and what the functions of the program do. No condition. -/
import Derived.Test.YtgilicomkelmdaaGreatDoorX03
set_option linter.all false
set_option maxRecDepth 100000
namespace Go.Av
def Gw(off:Int)(out:Str)(x:Ext):Int:=if off+out.length > x.off then off+out.length else x.off
def rTo(off m:Int)(x:Ext):Int:=if off+m < x.off+x.data.length then off+m else x.off+x.data.length
def DK(off m:Int)(out:Str)(x:Ext):Str:=
 if Gw off out x≥rTo off m x then out else
  out++List.replicate (Gw off out x - off - out.length).toNat 0++(x.data.take (rTo off m x - x.off).toNat).drop (Gw off out x - x.off).toNat
theorem QU{off m:Int}{out:Str}{x:Ext}(h:out.length≤m)(hx:0≤x.off)(ho:0≤off):((DK off m out x).length:Int)≤m:=by
 unfold DK;split
 ·exact h
 ·rename_i c;have:rTo off m x≤off+m∧rTo off m x≤x.off+x.data.length:=by unfold rTo;split<;>omega
  have h2:off+out.length≤Gw off out x∧x.off≤Gw off out x:=by unfold Gw;split<;>omega
  simp;omega
def P0(size:Int)(l:List Ext)(off n:Int):Str:=
 if off < 0∨off≥size∨n < 1 then [] else
  let m:=if size - off < n then size - off else n
  let out:=l.foldl (DK off m) []
  out++List.replicate (m - out.length).toNat 0
theorem Oz{α β:Type}(f:β→α→β)(b:β){l:List α}{i:Nat}{x:α}(h:l[i]? =some x):(l.take (i+1)).foldl f b=f ((l.take i).foldl f b) x:=by
 rw[List.take_succ,h];simp
abbrev has(x:Ext)(p:Int):Prop:=x.off≤p∧p < x.off+x.data.length
theorem Ug{p:Int}:∀{l:List Ext},(∀x∈l,¬has x p)→atE l p=0
 |[],_=>rfl
 |x::l,h=>by
  rw[atE,if_neg (h x (by simp)),Ug fun y hy=>h y (by simp[hy])]
theorem iO{p:Int}{x:Ext}{r:List Ext}:∀{l:List Ext},(∀y∈l,¬has y p)→has x p→atE (l++x::r) p=x.data.getD (p - x.off).toNat 0
 |[],_,h=>by rw[List.nil_append,atE,if_pos h]
 |y::l,h,hx=>by
  rw[List.cons_append,atE,if_neg (h y (by simp)),iO (fun z hz=>h z (by simp[hz])) hx]
theorem Ts{size:Int}:∀{l:List Ext} {a:Int},DP size a l=true→∀y∈l,a≤y.off∧y.off+y.data.length≤size∧y.data≠[]
 |[],_,_,y,hy=>by simp at hy
 |x::l,a,h,y,hy=>by
  simp only[DP,Bool.and_eq_true,decide_eq_true_eq] at h;rcases List.mem_cons.1 hy with rfl|hy
  ·exact⟨h.1.1,h.1.2.2,h.1.2.1⟩
  ·have:=Ts h.2 y hy;exact⟨by omega,this.2⟩
theorem Uj{size:Int}:∀{l:List Ext} {a:Int} {i:Nat} {x:Ext} {r:List Ext},DP size a l=true→l.drop i=x::r→DP size (x.off+x.data.length) r=true
 |[],_,i,x,r,_,h=>by simp at h
 |y::l,a,0,x,r,h,e=>by
  simp at e;obtain⟨rfl,rfl⟩:=e;simp only[DP,Bool.and_eq_true] at h;exact h.2
 |y::l,a,i+1,x,r,h,e=>by
  simp only[DP,Bool.and_eq_true] at h;exact Uj h.2 (by simpa using e)
theorem QR{size:Int}{l:List Ext}(h:Dz size l=true):0≤size∧size≤1048576∧∀x∈l,0≤x.off∧x.off+x.data.length≤1048576:=by
 simp[Dz] at h;refine⟨h.1.1,h.1.2,fun x hx=>?_⟩
 have:=Ts h.2 x hx;omega
theorem Zs{size:Int}{l:List Ext}{off n:Int}(h:Dz size l=true):P0 size l off n=UL size l off n:=by
 obtain⟨h1,h2,h3⟩:=QR h;have hch:DP size 0 l=true:=by simp[Dz] at h;exact h.2
 unfold P0 UL
 by_cases c:off < 0∨off≥size∨n < 1
 ·rw[if_pos c]
  by_cases c0:off < 0
  ·simp[c0]
  ·have:(min n (size - off)).toNat=0:=by omega
   simp[c0,this]
 have hm:(if size - off < n then size - off else n)=min n (size - off):=by split<;>omega
 rw[if_neg c];simp only[show ¬off < 0 by omega,if_false,hm]
 generalize hmm:min n (size - off)=m;have hm1:1≤m∧off+m≤size:=by omega
 have key:∀i,i≤l.length→let out:=(l.take i).foldl (DK off m) []
   (∀j,j < out.length→out[j]? =some (atE l (off+j)))∧(out.length:Int)≤m∧(out=[]∨∀y∈l.drop i,off+out.length≤y.off)∧
   ∀x∈l.take i,∀p,off+out.length≤p→p < off+m→¬has x p:=by
  intro i
  induction i with
  |zero=>intro _;simp;omega
  |succ i ih=>
   intro hi;obtain⟨x,hxi,hd,_,hx⟩:=XK (l:=l) (i:=i) (by omega)
   obtain⟨k1,k2,k3,k4⟩:=ih (by omega)
   obtain⟨g1,g2⟩:=h3 x hx;have hrest:=fun y hy=>(Ts (Uj hch hd) y hy).1
   rw[Oz _ _ hxi];have hsplit:l=l.take i++x::l.drop (i+1):=by rw[←hd,List.take_append_drop]
   have htk:l.take (i+1)=l.take i++[x]:=by rw[List.take_succ,hxi];rfl
   generalize (l.take i).foldl (DK off m) []=out at*;have hlen:=QU (off:=off) (m:=m) (out:=out) (x:=x) k2 g1 (by omega)
   have hf:Gw off out x=max x.off (off+out.length):=by unfold Gw;split<;>omega
   have ht:rTo off m x=min (x.off+x.data.length) (off+m):=by unfold rTo;split<;>omega
   unfold DK at hlen ⊢
   by_cases cc:Gw off out x≥rTo off m x
   ·simp only[cc,if_true] at hlen ⊢;refine⟨k1,k2,?_,fun y hy p p1 p2=>?_⟩
    ·rcases k3 with k3|k3
     ·exact .inl k3
     ·right;intro y hy;exact k3 y (by rw[hd];simp[hy])
    ·rw[htk] at hy;rcases List.mem_append.1 hy with hy|hy
     ·exact k4 y hy p p1 p2
     ·simp at hy;subst hy;unfold has;omega
   ·simp only[cc,if_false] at hlen ⊢;have hz:((Gw off out x - off - out.length).toNat:Int)=Gw off out x - off - out.length:=by omega
    have hfx:out=[]∨Gw off out x=x.off:=by
     rcases k3 with k3|k3
     ·exact .inl k3
     ·right;have:=k3 x (by rw[hd];simp);omega
    generalize hzz:(Gw off out x - off - out.length).toNat=z at*;have hsl:((x.data.take (rTo off m x - x.off).toNat).drop (Gw off out x - x.off).toNat).length=(rTo off m x - Gw off out x).toNat:=by simp;omega
    refine⟨fun j hj=>?_,hlen,.inr fun y hy=>?_,fun y hy p p1 p2=>?_⟩
    ·simp only[List.length_append,List.length_replicate,hsl] at hj
     by_cases c1:j < out.length
     ·rw[List.append_assoc,List.getElem?_append_left c1];exact k1 j c1
     by_cases c2:j < out.length+z
     ·rw[List.append_assoc,List.getElem?_append_right (by omega),List.getElem?_append_left (by simp;omega)]
      rw[List.getElem?_replicate,if_pos (by omega),Ug]
      intro y hy;rw[hsplit] at hy;rcases List.mem_append.1 hy with hy|hy
      ·exact k4 y hy _ (by omega) (by omega)
      rcases List.mem_cons.1 hy with rfl|hy
      ·unfold has;omega
      ·have:=hrest y hy;unfold has;omega
     ·rw[List.getElem?_append_right (by simp;omega)]
      simp only[List.length_append,List.length_replicate];have e:off+(j:Int) - x.off=((j - (out.length+z)+(Gw off out x - x.off).toNat:Nat):Int):=by omega
      have hat:atE l (off+j)=x.data.getD (off+j - x.off).toNat 0:=by
       rw[hsplit];refine iO (fun y hy=>k4 y hy _ (by omega) (by omega)) ?_
       unfold has;omega
      rw[hat,e,List.getElem?_drop,List.getElem?_take_of_lt (by omega),Int.toNat_natCast,List.getD_eq_getElem?_getD,Nat.add_comm]
      rw[List.getElem?_eq_getElem (by omega)]
      rfl
    ·have:=hrest y hy;simp only[List.length_append,List.length_replicate,hsl];omega
    ·simp only[List.length_append,List.length_replicate,hsl] at p1;rw[htk] at hy;rcases List.mem_append.1 hy with hy|hy
     ·exact k4 y hy p (by omega) p2
     ·simp at hy;subst hy;unfold has;omega
 obtain⟨k1,k2,k3,k4⟩:=key l.length (Nat.le_refl _);rw[List.take_length] at k1 k2 k3 k4;generalize l.foldl (DK off m) []=out at*;have hz:((m - out.length).toNat:Int)=m - out.length:=by omega
 apply List.ext_getElem?;intro j
 by_cases c1:j < out.length
 ·rw[List.getElem?_append_left c1,k1 j c1,List.getElem?_map,List.getElem?_range (by omega)]
  rfl
 ·rw[List.getElem?_append_right (by omega),List.getElem?_replicate]
  by_cases c2:j < m.toNat
  ·rw[if_pos (by omega)]
   rw[List.getElem?_map,List.getElem?_range c2];simp only[Option.map_some];rw[Ug fun y hy=>k4 y hy _ (by omega) (by omega)]
  ·have:(List.range m.toNat)[j]? =none:=List.getElem?_eq_none (by simp;omega)
   rw[if_neg (by omega),List.getElem?_map,this]
   rfl
end Go.Av
