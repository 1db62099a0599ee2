/- Parts of the proofs of this seat: abstract values over the model, and what the functions of the program do. No condition. -/
import Derived.Test.YtehadbpejfjheaaGreatDoorM8
import Derived.Test.YtehadbpejfjheaaGreatDoorM9
import Derived.Test.YtehadbpejfjheaaGreatDoorM6
set_option linter.all false
set_option maxRecDepth 100000
namespace Go.Av
open Go.Proofs
def Y7(Ca:CaT)(a0a:List (List AV))(a0ar:Rt)(a0b a1a a1b a1c:Int)(S0:St)(Q:QT):Prop:=
 AA (CC AL (.agg [(.vs 2 a0a a0ar),(.int .i64 a0b)])) fun c2=>
 AA (CC ER (.agg [(.int .i64 a1a),(.int .i64 a1b),(.int .i64 a1c)])) fun c3=>
 AA (AB AL (some c2) 0) fun t5=>
 AA (AB Ak (some c3) 2) fun t7=>
 AA (AB Ak (some c3) 0) fun t10=>
 AA (AB Ak (some c3) 1) fun t12=>
 AA (AB Ak (some c3) 0) fun t15=>
 AA (AB Ak (some c3) 1) fun t17=>
 (AX Ca M6 [(AV.strip t5),(AV.strip t7)] (S0++[Obj.map []]) fun t8 S=>
 AX Ca IK [(AV.strip t10),(AV.strip t12)] S fun t13 S_2=>
 AX Ca GW [(AV.strip t15),(AV.strip t17)] S_2 fun t18 S_3=>
 AA (By Bf 1 [(0,t8),(2,t13),(3,t18),(4,(.map (some S0.length)))]) fun t20=>
 AA (CC Bf t20) fun c21=>
 Q (.ptr S_3.length 0) (S_3++[Obj.cells c21 Ce]))∧
 (AX Ca M6 [(AV.strip t5),(AV.strip t7)] S0 fun t8 S=>
 (AX Ca IK [(AV.strip t10),(AV.strip t12)] (S++[Obj.map []]) fun t13 S_2=>
 AX Ca GW [(AV.strip t15),(AV.strip t17)] S_2 fun t18 S_3=>
 AA (By Bf 1 [(0,t8),(2,t13),(3,t18),(4,(.map (some S.length)))]) fun t20=>
 AA (CC Bf t20) fun c21=>
 Q (.ptr S_3.length 0) (S_3++[Obj.cells c21 Ce]))∧
 (AX Ca IK [(AV.strip t10),(AV.strip t12)] S fun t13 S_2=>
 (AX Ca GW [(AV.strip t15),(AV.strip t17)] (S_2++[Obj.map []]) fun t18 S_3=>
 AA (By Bf 1 [(0,t8),(2,t13),(3,t18),(4,(.map (some S_2.length)))]) fun t20=>
 AA (CC Bf t20) fun c21=>
 Q (.ptr S_3.length 0) (S_3++[Obj.cells c21 Ce]))∧
 (AX Ca GW [(AV.strip t15),(AV.strip t17)] S_2 fun t18 S_3=>
 AA (By Bf 1 [(0,t8),(2,t13),(3,t18),(4,(.map (some S_3.length)))]) fun t20=>
 AA (CC Bf t20) fun c21=>
 Q (.ptr (S_3++[Obj.map []]).length 0) ((S_3++[Obj.map []])++[Obj.cells c21 Ce]))))
theorem Xj{w0 a0a a0ar a0b a1a a1b a1c S0 Q}(h:Y7 (AT (En w0)) a0a a0ar a0b a1a a1b a1c S0 Q):AC w0 E7 [(.agg [(.vs 2 a0a a0ar),(.int .i64 a0b)]),(.agg [(.int .i64 a1a),(.int .i64 a1b),(.int .i64 a1c)])] S0 Q:=by
 have e:WF C (AT (En w0)) E7 (Drl C (AT (En w0)) E7 [0,1,2,4,5,6,7,9,10,11,12,3,8,13,15,16,17] 14) Tryz.f8 [(.agg [(.vs 2 a0a a0ar),(.int .i64 a0b)]),(.agg [(.int .i64 a1a),(.int .i64 a1b),(.int .i64 a1c)])] S0 Q=Y7 (AT (En w0)) a0a a0ar a0b a1a a1b a1c S0 Q:=by kernel_rfl
 exact bu (E:=En w0) (agree w0) (Rz w0) (Mx w0) (Dr:=Drl C (AT (En w0)) E7 [0,1,2,4,5,6,7,9,10,11,12,3,8,13,15,16,17] 14) (fA (agree w0) (Rz w0) (Mx w0) mixed) (iO (Mx w0)) Tryz.func8 (by kernel_rfl) (e.symm ▸ h)
end Go.Av
