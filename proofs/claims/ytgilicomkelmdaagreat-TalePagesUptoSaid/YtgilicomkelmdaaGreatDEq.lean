/- Parts of the proofs of this seat: abstract values over the model, and what the functions of the program do. No condition. -/
import Derived.Test.YtgilicomkelmdaaGreatM18
set_option linter.all false
namespace Go.Av
@[simp] theorem iV:Bh [] []=some true:=rfl
theorem Ks(a b:AV)(c:Bool)(l m:List AV)(h:FC a b=some c):Bh (a::l) (b::m)=(Bh l m).map (fun d=>c&&d):=by
 rw[Bh,h];cases c with
 |true=>cases Bh l m<;>rfl
 |false=>cases Bh l m<;>rfl
@[simp] theorem iN(k:IntKind)(a b:Int)(l m:List AV):Bh (.int k a::l) (.int k b::m)=(Bh l m).map (fun d=>decide (a=b)&&d):=Ks _ _ _ _ _ (by simp[FC])
@[simp] theorem fZ(a b:Bool)(l m:List AV):Bh (.bool a::l) (.bool b::m)=(Bh l m).map (fun d=>(a==b)&&d):=Ks _ _ _ _ _ rfl
@[simp] theorem iY(a b:List UInt8)(l m:List AV):Bh (.str a::l) (.str b::m)=(Bh l m).map (fun d=>decide (a=b)&&d):=Ks _ _ _ _ _ (by simp[FC])
@[simp] theorem kW:A1 [] []=true:=rfl
@[simp] theorem kj(k:IntKind)(a b:Int)(l m:List AV):A1 (.int k a::l) (.int k b::m)=A1 l m:=by simp[A1]
@[simp] theorem iy(a b:Bool)(l m:List AV):A1 (.bool a::l) (.bool b::m)=A1 l m:=rfl
@[simp] theorem kJ(a b:List UInt8)(l m:List AV):A1 (.str a::l) (.str b::m)=A1 l m:=rfl
@[simp] theorem ff(z xs ys:List AV):HI (.agg z) .eql (.agg xs) (.agg ys)=if A1 z xs=true then (Bh xs ys).map .bool else none:=by
 simp only[HI,eqA];split<;>simp_all
@[simp] theorem g0(z xs ys:List AV):HI (.agg z) .neq (.agg xs) (.agg ys)=if A1 z xs=true then (Bh xs ys).map (fun b=>.bool (!b)) else none:=by
 simp only[HI,eqA];split<;>simp_all
end Go.Av
