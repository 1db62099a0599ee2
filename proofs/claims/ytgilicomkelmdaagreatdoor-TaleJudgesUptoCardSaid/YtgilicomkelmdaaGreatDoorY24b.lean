/- Parts of the proofs of this seat: abstract values over the model, and what the functions of the program do. No condition. -/
import Derived.Test.YtgilicomkelmdaaGreatDoorY24
import Derived.Test.YtgilicomkelmdaaGreatDoorY19
import Derived.Test.YtgilicomkelmdaaGreatDoorDRow
set_option linter.all false
set_option maxRecDepth 100000
namespace Go.Av
structure Ac where
 client:Int:=0
 index:Int:=0
 op:OpN
 res:A6
 rt:Rt
 call:Int:=0
 mark:Int:=0
 ret:Int:=0
def Ac.c(x:Ac):List AV:=[.int .i64 x.client,.int .i64 x.index,.int .i64 x.op.kind,.str x.op.path,.int .i64 x.op.off,.int .i64 x.op.n,.int .i64 x.op.id,.str x.op.image,
 .int .i64 x.res.err,.int .i64 x.res.kind,.int .i64 x.res.size,.int .i64 x.res.where_,.int .i64 x.res.id,.str x.res.text,.vs 1 (x.res.names.map BO) x.rt.strip,.bool x.res.end_,.int .i64 x.call,.int .i64 x.mark,.int .i64 x.ret]
@[simp] theorem Ac.cl(x:Ac):x.c.length=19:=rfl
theorem Ac.map1(x:Ac):x.c.map AV.strip1=x.c:=by
 cases x with
 |mk c i o r rt a b d=>cases rt<;>rfl
theorem Ac.free(x:Ac):(AV.agg x.c).free=true:=rfl
def RcS(S:St)(id:Nat)(l:List Ac):St:=S.set id (.cells (BN Ac.c l) 0)
theorem RcS.get{S:St}{id:Nat}(h:id < S.length)(l:List Ac):(RcS S id l)[id]? =some (.cells (BN Ac.c l) 0):=by simp[RcS,h]
theorem RcS.two{S:St}{id:Nat}{l m:List Ac}:(RcS S id l).set id (.cells (BN Ac.c m) 0)=RcS S id m:=by simp[RcS]
end Go.Av
