/- Parts of the proofs of this seat: abstract values over the model, and what the functions of the program do. No condition. -/
import Derived.Test.YtehadbpejfjheaaGreatDoorM16
set_option linter.all false
set_option maxRecDepth 100000
namespace Go.Av
@[simp] theorem lK:CM [] []=some true:=rfl
theorem Mp(a b:AV)(c:Bool)(l m:List AV)(h:GT a b=some c):CM (a::l) (b::m)=(CM l m).map (fun d=>c&&d):=by
 rw[CM,h];cases c with
 |true=>cases CM l m<;>rfl
 |false=>cases CM l m<;>rfl
@[simp] theorem lg(k:IntKind)(a b:Int)(l m:List AV):CM (.int k a::l) (.int k b::m)=(CM l m).map (fun d=>decide (a=b)&&d):=Mp _ _ _ _ _ (by simp[GT])
@[simp] theorem k8(a b:Bool)(l m:List AV):CM (.bool a::l) (.bool b::m)=(CM l m).map (fun d=>(a==b)&&d):=Mp _ _ _ _ _ rfl
@[simp] theorem lS(a b:List UInt8)(l m:List AV):CM (.str a::l) (.str b::m)=(CM l m).map (fun d=>decide (a=b)&&d):=Mp _ _ _ _ _ (by simp[GT])
@[simp] theorem nn:BM [] []=true:=rfl
@[simp] theorem m8(k:IntKind)(a b:Int)(l m:List AV):BM (.int k a::l) (.int k b::m)=BM l m:=by simp[BM]
@[simp] theorem lx(a b:Bool)(l m:List AV):BM (.bool a::l) (.bool b::m)=BM l m:=rfl
@[simp] theorem nN(a b:List UInt8)(l m:List AV):BM (.str a::l) (.str b::m)=BM l m:=rfl
@[simp] theorem kA(z xs ys:List AV):Ic (.agg z) .eql (.agg xs) (.agg ys)=if BM z xs=true then (CM xs ys).map .bool else none:=by
 simp only[Ic,eqA];split<;>simp_all
@[simp] theorem ka(z xs ys:List AV):Ic (.agg z) .neq (.agg xs) (.agg ys)=if BM z xs=true then (CM xs ys).map (fun b=>.bool (!b)) else none:=by
 simp only[Ic,eqA];split<;>simp_all
end Go.Av
