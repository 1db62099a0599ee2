/- Parts of the proofs of this seat: abstract values over the model, and what the functions of the program do. No condition. -/
import Derived.Test.YtjkffbaienbmkaaGreatDoorY05e
import Derived.Test.YtjkffbaienbmkaaGreatDoorX05e
import Derived.Test.YtjkffbaienbmkaaGreatDoorY10
set_option linter.all false
namespace Go.Av
theorem jI{s:Str}{n:Node}(hs:s.length≤1048575)(h:I0 s=some n):n.ok:=by
 unfold I0 at h;split at h
 ·cases h
 ·simp only at h;split at h
  ·cases h;exact(RS.node_ok 16 ⟨s.drop 7,false,4096⟩ (by simp;omega) (by simp)).ok
  ·cases h
open Go.Proofs
set_option maxRecDepth 100000 in
theorem bK{w0:World}{S:St}{l:List Ent}{r:Rt}{fr many:Int}(hr:r= .nil→l=[])(hl:l.length≤100000000){Q:AV→St→Prop}
  (hq:∀(a m:Nat) (q:Rt),a=min fr.toNat l.length→m=min many.toNat (l.length - a)→Q (.tup [.vs 2 (((l.drop a).take m).map Ent.c) q,.bool (decide (a+m=l.length))]) S):
  AC w0 No [.vs 2 (l.map Ent.c) r,.int .i64 fr,.int .i64 many] S Q:=by
 apply Yz;unfold UF;have e1:∀x:Int,(if 0 > x then (0:Int) else x)=((x.toNat:Nat):Int):=fun x=>by split<;>omega
 have e2:(if ((l.map Ent.c).length:Int) < ((fr.toNat:Nat):Int) then ((l.map Ent.c).length:Int) else ((fr.toNat:Nat):Int))=((min fr.toNat l.length:Nat):Int):=by
  rw[List.length_map];split<;>omega
 simp only[e1,e2];have hq:=fun q=>hq (min fr.toNat l.length) _ q rfl rfl
 have ha:min fr.toNat l.length≤l.length:=Nat.min_le_right _ _;generalize min fr.toNat l.length=a at ha hq ⊢;have e3:IntKind.i64.wrap (((l.map Ent.c).length:Int) - a)=((l.length - a:Nat):Int):=by
  rw[List.length_map,wrap64 (by omega) (by omega)];omega
 have e4:bQ [.int .i64 ((many.toNat:Nat):Int),.int .i64 ((l.length - a:Nat):Int)]=some (.int .i64 ((min many.toNat (l.length - a):Nat):Int)):=by
  simp only[bQ,if_true];congr 2;split<;>omega
 rw[e3,e4];have hm:min many.toNat (l.length - a)≤l.length - a:=Nat.min_le_right _ _;generalize min many.toNat (l.length - a)=m at hm hq ⊢;have e5:AJ .add (.int .i64 ((a:Nat):Int)) (.int .i64 ((m:Nat):Int))=some (.int .i64 ((a+m:Nat):Int)):=by
  simp only[AJ,if_true,Gb];congr 2;rw[wrap64 (by omega) (by omega)];omega
 simp only[Cf,e5];have hcut:=cN Bn 2 (l.map Ent.c) r .i64 .i64 a (a+m);simp only[AV.strip,AV.strip2,AV.strip1];rw[if_pos ⟨rfl,⟨by omega,by rw[List.length_map];omega⟩,fun e=>by rw[hr e];rfl⟩] at hcut
 have hsl:((l.map Ent.c).take (a+m)).drop a=((l.drop a).take m).map Ent.c:=by
  rw[←List.map_take,←List.map_drop,List.drop_take,show a+m - a=m by omega]
 rw[hsl] at hcut;rw[hcut];simp only[Cf];have hlen:((l.drop a).take m).length≤100000000:=by rw[List.length_take,List.length_drop];omega
 have e6:((a+m:Nat):Int)=((l.map Ent.c).length:Int)↔a+m=l.length:=by rw[List.length_map];omega
 have e7:((a:Int)+(m:Int)=(l.length:Int))↔a+m=l.length:=by omega
 generalize (l.drop a).take m=X at hq hlen ⊢
 by_cases e:X=[]
 ·have:=hq .nil;rw[e] at this ⊢;simp[AT,BM,AV.flat];simp at this;simp only[e7];exact this
 ·have hap:∀q,AT Bn S (.vs 2 [] .nil) (.vs 2 (X.map Ent.c) q)=some (.vs 2 (X.map Ent.c) (.own (By Bn .nil))):=fun q=>by
   simp[AT,BM,e,show X.length≤lim by unfold lim;omega]
  have:=hq (.own (By Bn .nil));rw[hap];simp[AV.flat];simp only[e7];exact this
open Go.Proofs
set_option maxRecDepth 100000 in
theorem Zk{w0:World}(hm:KI w0){S:St}{s:Str}(hs:s.length≤1048575){Q:AV→St→Prop}
  (h1:∀n,I0 s=some n→n.ok→Bs n=true→∀S' id,Sx S S'→S.length≤id→Br S' id (n.tab 0)→Q (.tup [.ptr id 0,.int .i64 0]) S') (h2:I0 s=none→∀S',Sx S S'→Q (.tup [.nil,.int .i64 1]) S') (h3:∀n,I0 s=some n→n.ok→Bs n=true):
  AC w0 MD [.str s] S Q:=by
 apply X5;unfold Q6;refine XI hm hs (fun S2 hS2=>⟨fun n hn hok=>?_,fun hn=>?_⟩)
 ·have hr:=h3 n hn hok;simp;refine SX hm hok (fun _ S3 id hS3 hid hB=>?_) (fun hno=>by rw[hr] at hno;cases hno)
  simp;exact h1 n hn hok hr _ _ (hS2.trans hS3) (Nat.le_trans hS2.le hid) hB
 ·simp;exact h2 hn _ hS2
end Go.Av
