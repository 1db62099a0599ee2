/- Parts of the proofs of this seat: abstract values over the model, and what the functions of the program do. No condition. -/
import Derived.Test.YtehadbpejfjheaaGreatDoorM16
set_option linter.all false
set_option maxRecDepth 100000
namespace Go.Av
@[simp] theorem aR:BZ [] []=some true:=rfl
theorem JX(a b:AV)(c:Bool)(l m:List AV)(h:El a b=some c):BZ (a::l) (b::m)=(BZ l m).map (fun d=>c&&d):=by
 rw[BZ,h];cases c with
 |true=>cases BZ l m<;>rfl
 |false=>cases BZ l m<;>rfl
@[simp] theorem aZ(k:IntKind)(a b:Int)(l m:List AV):BZ (.int k a::l) (.int k b::m)=(BZ l m).map (fun d=>decide (a=b)&&d):=JX _ _ _ _ _ (by simp[El])
@[simp] theorem Zg(a b:Bool)(l m:List AV):BZ (.bool a::l) (.bool b::m)=(BZ l m).map (fun d=>(a==b)&&d):=JX _ _ _ _ _ rfl
@[simp] theorem aO(a b:List UInt8)(l m:List AV):BZ (.str a::l) (.str b::m)=(BZ l m).map (fun d=>decide (a=b)&&d):=JX _ _ _ _ _ (by simp[El])
@[simp] theorem cu:Aw [] []=true:=rfl
@[simp] theorem cL(k:IntKind)(a b:Int)(l m:List AV):Aw (.int k a::l) (.int k b::m)=Aw l m:=by simp[Aw]
@[simp] theorem bH(a b:Bool)(l m:List AV):Aw (.bool a::l) (.bool b::m)=Aw l m:=rfl
@[simp] theorem dC(a b:List UInt8)(l m:List AV):Aw (.str a::l) (.str b::m)=Aw l m:=rfl
@[simp] theorem Zf(z xs ys:List AV):GC (.agg z) .eql (.agg xs) (.agg ys)=if Aw z xs=true then (BZ xs ys).map .bool else none:=by
 simp only[GC,eqA];split<;>simp_all
@[simp] theorem Zn(z xs ys:List AV):GC (.agg z) .neq (.agg xs) (.agg ys)=if Aw z xs=true then (BZ xs ys).map (fun b=>.bool (!b)) else none:=by
 simp only[GC,eqA];split<;>simp_all
end Go.Av
