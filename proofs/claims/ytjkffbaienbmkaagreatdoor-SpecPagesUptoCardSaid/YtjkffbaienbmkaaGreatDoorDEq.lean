/- Parts of the proofs of this seat: abstract values over the model, and what the functions of the program do. No condition. -/
import Derived.Test.YtjkffbaienbmkaaGreatDoorM17
set_option linter.all false
namespace Go.Av
@[simp] theorem pV:CE [] []=some true:=rfl
theorem Nd(a b:AV)(c:Bool)(l m:List AV)(h:FP a b=some c):CE (a::l) (b::m)=(CE l m).map (fun d=>c&&d):=by
 rw[CE,h];cases c with
 |true=>cases CE l m<;>rfl
 |false=>cases CE l m<;>rfl
@[simp] theorem pc(k:IntKind)(a b:Int)(l m:List AV):CE (.int k a::l) (.int k b::m)=(CE l m).map (fun d=>decide (a=b)&&d):=Nd _ _ _ _ _ (by simp[FP])
@[simp] theorem oS(a b:Bool)(l m:List AV):CE (.bool a::l) (.bool b::m)=(CE l m).map (fun d=>(a==b)&&d):=Nd _ _ _ _ _ rfl
@[simp] theorem pX(a b:List UInt8)(l m:List AV):CE (.str a::l) (.str b::m)=(CE l m).map (fun d=>decide (a=b)&&d):=Nd _ _ _ _ _ (by simp[FP])
@[simp] theorem rZ:BC [] []=true:=rfl
@[simp] theorem rl(k:IntKind)(a b:Int)(l m:List AV):BC (.int k a::l) (.int k b::m)=BC l m:=by simp[BC]
@[simp] theorem qW(a b:Bool)(l m:List AV):BC (.bool a::l) (.bool b::m)=BC l m:=rfl
@[simp] theorem rE(a b:List UInt8)(l m:List AV):BC (.str a::l) (.str b::m)=BC l m:=rfl
@[simp] theorem oe(z xs ys:List AV):Gw (.agg z) .eql (.agg xs) (.agg ys)=if BC z xs=true then (CE xs ys).map .bool else none:=by
 simp only[Gw,eqA];split<;>simp_all
@[simp] theorem pN(z xs ys:List AV):Gw (.agg z) .neq (.agg xs) (.agg ys)=if BC z xs=true then (CE xs ys).map (fun b=>.bool (!b)) else none:=by
 simp only[Gw,eqA];split<;>simp_all
end Go.Av
