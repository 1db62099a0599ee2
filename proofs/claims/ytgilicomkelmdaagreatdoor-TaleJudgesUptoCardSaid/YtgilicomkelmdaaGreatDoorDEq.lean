/- Parts of the proofs of this seat: abstract values over the model, and what the functions of the program do. No condition. -/
import Derived.Test.YtgilicomkelmdaaGreatDoorM18
set_option linter.all false
set_option maxRecDepth 100000
namespace Go.Av
@[simp] theorem ls:Bt [] []=some true:=rfl
theorem QI(a b:AV)(c:Bool)(l m:List AV)(h:E0 a b=some c):Bt (a::l) (b::m)=(Bt l m).map (fun d=>c&&d):=by
 rw[Bt,h];cases c with
 |true=>cases Bt l m<;>rfl
 |false=>cases Bt l m<;>rfl
@[simp] theorem la(k:IntKind)(a b:Int)(l m:List AV):Bt (.int k a::l) (.int k b::m)=(Bt l m).map (fun d=>decide (a=b)&&d):=QI _ _ _ _ _ (by simp[E0])
@[simp] theorem lz(a b:List UInt8)(l m:List AV):Bt (.str a::l) (.str b::m)=(Bt l m).map (fun d=>decide (a=b)&&d):=QI _ _ _ _ _ (by simp[E0])
@[simp] theorem nv:A2 [] []=true:=rfl
@[simp] theorem ng(k:IntKind)(a b:Int)(l m:List AV):A2 (.int k a::l) (.int k b::m)=A2 l m:=by simp[A2]
@[simp] theorem l5(a b:Bool)(l m:List AV):A2 (.bool a::l) (.bool b::m)=A2 l m:=rfl
@[simp] theorem nN(a b:List UInt8)(l m:List AV):A2 (.str a::l) (.str b::m)=A2 l m:=rfl
@[simp] theorem kh(z xs ys:List AV):Hq (.agg z) .eql (.agg xs) (.agg ys)=if A2 z xs=true then (Bt xs ys).map .bool else none:=by
 simp only[Hq,eqA];split<;>simp_all
end Go.Av
