/- Parts of the proofs of this seat: abstract values over the model, and what the functions of the program do. No condition. -/
import Derived.Test.YtehadbpejfjheaaGreatDoorM8
import Derived.Test.YtehadbpejfjheaaGreatDoorD0
set_option linter.all false
set_option maxRecDepth 100000
namespace Go.Av
open Go.Proofs
theorem Sc{w0:World}{S:St}{a b:Str}(ha:a.length≤1000000000)(hb:b.length≤1000000000){Q:AV→St→Prop}(hq:Q (.bool (slt a b)) S):AC w0 JW [.str a,.str b] S Q:=by
 apply Qr;unfold M2;simp;rw[AG];refine HZ (fun k:Nat=>([.int .i64 k],[])) (fun m k S'=>S'=S∧k≤a.length∧k≤b.length∧m=a.length - k∧slt a b=slt (a.drop k) (b.drop k)) a.length 0 rfl ⟨rfl,by omega,by omega,rfl,rfl⟩ ?_
 rintro m k S' v bx ⟨rfl,h1,h2,rfl,h3⟩ hv;simp at hv;simp[hv]
 by_cases c1:k < a.length
 case neg=>
  have e1:a.drop k=[]:=by simp;omega
  simp[c1];rw[h3,e1] at hq
  by_cases c2:k < b.length
  ·obtain⟨y,hy,hd,_⟩:=UD c2;rw[hd] at hq;have:a.length < b.length:=by omega
   simpa[slt,Op.bytesLess,this] using hq
  ·have e2:b.drop k=[]:=by simp;omega
   rw[e2] at hq;have:¬a.length < b.length:=by omega
   simpa[slt,Op.bytesLess,this] using hq
 by_cases c2:k < b.length
 case neg=>
  have e2:b.drop k=[]:=by simp;omega
  simp[c1,c2];rw[h3,e2] at hq;have:¬a.length < b.length:=by omega
  cases hh:a.drop k<;>rw[hh] at hq<;>simpa[slt,Op.bytesLess,this] using hq
 obtain⟨x,hx,hdx,hcx,_⟩:=UD c1;obtain⟨y,hy,hdy,hcy,_⟩:=UD c2;have gx:a[k]=x:=(List.getElem?_eq_some_iff.1 hx).2;have gy:b[k]=y:=(List.getElem?_eq_some_iff.1 hy).2;rw[hdx,hdy,KH] at h3
 by_cases c3:x=y
 ·subst c3;simp[c1,c2,gx,gy];simp[Hb] at h3
  try simp (disch:=omega) only[wrap64]
  exact⟨_,k+1,by show a.length - (k+1) < _;omega,rfl,rfl,by omega,by omega,rfl,h3⟩
 ·have c4:¬(x.toNat:Int)=y.toNat:=fun e=>c3 (UInt8.toNat_inj.1 (by omega))
  simp[c3] at h3;simp[c1,c2,gx,gy,c4];rw[h3] at hq;have:decide (x < y)=decide (x.toNat < y.toNat):=by
   simp[UInt8.lt_iff_toNat_lt]
  rw[←this];exact hq
end Go.Av
