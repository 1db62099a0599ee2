/- Parts of the proofs of this seat: abstract values over the model, and what the functions of the program do. No condition. -/
import Derived.Test.YtgilicomkelmdaaGreatDoorX10d
set_option linter.all false
set_option maxRecDepth 100000
namespace Go.Av
open Go.Proofs
theorem ZA{w0:World}{S:St}{l:List Ent}{r:Rt}{fr many:Int}(hr:r= .nil→l=[])(hl:l.length≤100000000){Q:AV→St→Prop}
  (hq:∀(a m:Nat) (q:Rt),a=min fr.toNat l.length→m=min many.toNat (l.length - a)→Q (.tup [.vs 2 (((l.drop a).take m).map Ent.c) q,.bool (decide (a+m=l.length))]) S):
  AC w0 LH [.vs 2 (l.map Ent.c) r,.int .i64 fr,.int .i64 many] S Q:=by
 apply Vm;unfold P6;have e1:∀x:Int,(if 0 > x then (0:Int) else x)=((x.toNat:Nat):Int):=fun x=>by split<;>omega
 have e2:(if ((l.map Ent.c).length:Int) < ((fr.toNat:Nat):Int) then ((l.map Ent.c).length:Int) else ((fr.toNat:Nat):Int))=((min fr.toNat l.length:Nat):Int):=by
  rw[List.length_map];split<;>omega
 simp only[e1,e2];have hq:=fun q=>hq (min fr.toNat l.length) _ q rfl rfl
 have ha:min fr.toNat l.length≤l.length:=Nat.min_le_right _ _;generalize min fr.toNat l.length=a at ha hq ⊢;have e3:IntKind.i64.wrap (((l.map Ent.c).length:Int) - a)=((l.length - a:Nat):Int):=by
  rw[List.length_map,wrap64 (by omega) (by omega)];omega
 have e4:Yx [.int .i64 ((many.toNat:Nat):Int),.int .i64 ((l.length - a:Nat):Int)]=some (.int .i64 ((min many.toNat (l.length - a):Nat):Int)):=by
  simp only[Yx,if_true];congr 2;split<;>omega
 rw[e3,e4];have hm:min many.toNat (l.length - a)≤l.length - a:=Nat.min_le_right _ _;generalize min many.toNat (l.length - a)=m at hm hq ⊢;have e5:AI .add (.int .i64 ((a:Nat):Int)) (.int .i64 ((m:Nat):Int))=some (.int .i64 ((a+m:Nat):Int)):=by
  simp only[AI,if_true,F6];congr 2;rw[wrap64 (by omega) (by omega)];omega
 simp only[Ay,e5];have hcut:=ZG BI 2 (l.map Ent.c) r .i64 .i64 a (a+m);simp only[AV.strip,AV.strip2,AV.strip1];rw[if_pos ⟨rfl,⟨by omega,by rw[List.length_map];omega⟩,fun e=>by rw[hr e];rfl⟩] at hcut
 have hsl:((l.map Ent.c).take (a+m)).drop a=((l.drop a).take m).map Ent.c:=by
  rw[←List.map_take,←List.map_drop,List.drop_take,show a+m - a=m by omega]
 rw[hsl] at hcut;rw[hcut];simp only[Ay];have hlen:((l.drop a).take m).length≤100000000:=by rw[List.length_take,List.length_drop];omega
 have e6:((a+m:Nat):Int)=((l.map Ent.c).length:Int)↔a+m=l.length:=by rw[List.length_map];omega
 have e7:((a:Int)+(m:Int)=(l.length:Int))↔a+m=l.length:=by omega
 generalize (l.drop a).take m=X at hq hlen ⊢
 by_cases e:X=[]
 ·have:=hq .nil;rw[e] at this ⊢;simp[AU,A1,AV.flat];simp at this;simp only[e7];exact this
 ·have hap:∀q,AU BI S (.vs 2 [] .nil) (.vs 2 (X.map Ent.c) q)=some (.vs 2 (X.map Ent.c) (.own (Ba BI .nil))):=fun q=>by
   simp[AU,A1,e,show X.length≤lim by unfold lim;omega]
  have:=hq (.own (Ba BI .nil));rw[hap];simp[AV.flat];simp only[e7];exact this
end Go.Av
