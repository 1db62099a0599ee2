/- Parts of the proofs of this seat: abstract values over the model, and what the functions of the program do. No condition. -/
import Derived.Test.YtehadbpejfjheaaGreatDoorM8
import Derived.Test.YtehadbpejfjheaaGreatDoorM6
set_option linter.all false
set_option maxRecDepth 100000
namespace Go.Av
open Go.Proofs
def upG(Ca:CaT)(a0:List (List AV))(a0r:Rt)(a1a:Int)(a1b:List UInt8)(a1c a1d a1e:Int)(a1f:List UInt8)(S0:St)(Q:QT):Prop:=
 AA (Du Cw (.agg [(.int .i64 a1a),(.str a1b),(.int .i64 a1c),(.int .i64 a1d),(.int .i64 a1e),(.str a1f)])) fun c3=>
 Ca Hn [] S0 fun t11 S=>
 AA (unA .not t11) fun t12=>
 ifK t12
 (Q (.bool false) S)
 (∃P:Lv→St→Prop,(Ca J1 [(.vs 7 a0 (Rt.strip (Rt.strip a0r)))] S fun t14 S_2=>
 AA (AJ .eql t14 (.int .i64 0)) fun t15=>
 AK (fun (x20:AV)=>
 AA (AS (AV.strip t15) (.bool true) x20) fun t21=>
 AK (fun (x25:AV)=>
 AA (AS (AV.strip (AV.strip t21)) (.bool true) x25) fun t26=>
 P ([(AV.strip t26)],[(some c3)]) S_2) fun j=>
 ifK (AV.strip (AV.strip t21))
 (j (.tup []))
 (AA (AB AR (some c3) 3) fun t24=>
 AA (AJ .gtr (AV.strip t24) (.int .i64 3000)) fun t25=>
 j t25)) fun j_2=>
 ifK (AV.strip t15)
 (j_2 (.tup []))
 (AA (AB AM (some c3) 1) fun t18=>
 AA (DE (AV.strip t18)) fun t19=>
 AA (AJ .gtr t19 (.int .i64 1100)) fun t20=>
 j_2 t20))∧
 ∀(v:Nat→AV) (bx:Nat→Option (List AV)) (S_3:St),P ([v 26],[bx 3]) S_3→(ifK (v 26)
 (Q (.bool true) S_3)
 (Ca Ic [(.vs 7 a0 (Rt.strip (Rt.strip a0r)))] S_3 fun t29 S_4=>
 AA (Ah t29 0) fun t30=>
 AA (Ah (AQ t29 0) 1) fun t31=>
 AA (Ai AH (some [(.vs 2 [] .nil),(.int .i64 0)]) 0 t30) fun b5=>
 AA (unA .not (AV.strip t31)) fun t33=>
 ifK t33
 (Q (.bool false) S_4)
 (∃P_2:Lv→St→Prop,(AA (bx 3) fun _=>
 AA (AB AR (bx 3) 0) fun t35=>
 AA (AJ .eql (AV.strip t35) (.int .i64 4)) fun t36=>
 AK (fun (x45:AV)=>
 AA (AS (AV.strip t36) x45 (.bool false)) fun t46=>
 AK (fun (x55:AV)=>
 AA (AS (AV.strip (AV.strip t46)) (.bool true) x55) fun t56=>
 P_2 ([(AV.strip t56)],[(bx 3)]) S_4) fun j_5=>
 ifK (AV.strip (AV.strip t46))
 (j_5 (.tup []))
 (AA (bx 3) fun _=>
 AA (AB AR (bx 3) 0) fun t49=>
 AA (AJ .eql (AV.strip t49) (.int .i64 6)) fun t50=>
 AK (fun (x54:AV)=>
 AA (AS (AV.strip t50) x54 (.bool false)) fun t55=>
 j_5 (AV.strip t55)) fun j_4=>
 gK (AV.strip t50)
 (AA (bx 3) fun _=>
 AA (AB AR (bx 3) 3) fun t53=>
 AA (AJ .lss (AV.strip t53) (.int .i64 1)) fun t54=>
 j_4 t54)
 (j_4 (.tup []))
 (j_4 (.tup [])))) fun j_6=>
 ifK (AV.strip t36)
 (AA (bx 3) fun _=>
 AA (AB AR (bx 3) 2) fun t39=>
 AA (AJ .lss (AV.strip t39) (.int .i64 0)) fun t40=>
 AK (fun (x44:AV)=>
 AA (AS (AV.strip t40) (.bool true) x44) fun t45=>
 j_6 (AV.strip t45)) fun j_3=>
 gK (AV.strip t40)
 (j_3 (.tup []))
 (AA (bx 3) fun _=>
 AA (AB AR (bx 3) 3) fun t43=>
 AA (AJ .lss (AV.strip t43) (.int .i64 0)) fun t44=>
 j_3 t44)
 (j_3 (.tup [])))
 (j_6 (.tup [])))∧
 ∀(v_2:Nat→AV) (bx_2:Nat→Option (List AV)) (S_5:St),P_2 ([v_2 7],[bx_2 3]) S_5→(∃P_3:Lv→St→Prop,(AA (bx_2 3) fun _=>
 AA (AB AR (bx_2 3) 0) fun t58=>
 AA (bx_2 3) fun _=>
 AA (AB AR (bx_2 3) 0) fun t61=>
 AA (AJ .geq (AV.strip t61) (.int .i64 1)) fun t62=>
 A1 Ca Hu [(AV.strip t58)] S_5 fun t59 S_6=>
 AK (fun (x66:AV)=>
 AA (AS (AV.strip t62) x66 (.bool false)) fun t67=>
 AA (GC .bool .neq t59 (AV.strip t67)) fun t68=>
 AK (fun (x86:AV) (S_8:St)=>
 AA (AS (AV.strip t68) (.bool true) x86) fun t87=>
 AK (fun (x93:AV) (S_10:St)=>
 AA (AS (AV.strip (AV.strip t87)) (.bool true) x93) fun t94=>
 AK (fun (x102:AV) (S_13:St)=>
 AA (AS (AV.strip (AV.strip t94)) (.bool true) x102) fun t103=>
 P_3 ([(AV.strip t103)],[(bx_2 3)]) S_13) fun j_10=>
 ifK (AV.strip (AV.strip t94))
 (j_10 (.tup []) S_10)
 (AA (unA .not (AV.strip (v_2 7))) fun t97=>
 AK (fun (x101:AV) (S_12:St)=>
 AA (AS (AV.strip t97) x101 (.bool false)) fun t102=>
 j_10 (AV.strip t102) S_12) fun j_9=>
 gK (AV.strip t97)
 (AA (AB Cw (bx_2 3) 0) fun t99=>
 A1 Ca Er [(AV.strip t99)] S_10 fun t100 S_11=>
 AA (AJ .neq t100 (.int .i64 0)) fun t101=>
 j_9 t101 S_11)
 (j_9 (.tup []) S_10)
 (j_9 (.tup []) S_10))) fun j_11=>
 ifK (AV.strip (AV.strip t87))
 (j_11 (.tup []) S_8)
 (AA (AB Cw (bx_2 3) 0) fun t89=>
 A1 Ca Er [(AV.strip t89)] S_8 fun t90 S_9=>
 AA (AJ .eql t90 (.int .i64 1)) fun t91=>
 AA (GC .bool .neq t91 (AV.strip (v_2 7))) fun t93=>
 j_11 t93 S_9)) fun j_12=>
 ifK (AV.strip t68)
 (j_12 (.tup []) S_6)
 (AA (bx_2 3) fun _=>
 AA (AB AR (bx_2 3) 0) fun t71=>
 AA (bx_2 3) fun _=>
 AA (AB AR (bx_2 3) 0) fun t74=>
 AA (AJ .eql (AV.strip t74) (.int .i64 2)) fun t75=>
 A1 Ca EB [(AV.strip t71)] S_6 fun t72 S_7=>
 AK (fun (x79:AV)=>
 AA (AS (AV.strip t75) (.bool true) x79) fun t80=>
 AK (fun (x84:AV)=>
 AA (AS (AV.strip (AV.strip t80)) (.bool true) x84) fun t85=>
 AA (GC .bool .neq t72 (AV.strip t85)) fun t86=>
 j_12 t86 S_7) fun j_7=>
 gK (AV.strip (AV.strip t80))
 (j_7 (.tup []))
 (AA (bx_2 3) fun _=>
 AA (AB AR (bx_2 3) 0) fun t83=>
 AA (AJ .eql (AV.strip t83) (.int .i64 5)) fun t84=>
 j_7 t84)
 (j_7 (.tup []))) fun j_8=>
 gK (AV.strip t75)
 (j_8 (.tup []))
 (AA (bx_2 3) fun _=>
 AA (AB AR (bx_2 3) 0) fun t78=>
 AA (AJ .eql (AV.strip t78) (.int .i64 4)) fun t79=>
 j_8 t79)
 (j_8 (.tup [])))) fun j_13=>
 ifK (AV.strip t62)
 (AA (bx_2 3) fun _=>
 AA (AB AR (bx_2 3) 0) fun t65=>
 AA (AJ .leq (AV.strip t65) (.int .i64 4)) fun t66=>
 j_13 t66)
 (j_13 (.tup [])))∧
 ∀(v_3:Nat→AV) (bx_3:Nat→Option (List AV)) (S_14:St),P_3 ([v_3 103],[bx_3 3]) S_14→(ifK (v_3 103)
 (Q (.bool false) S_14)
 (AA (AB AH (some b5) 0) fun t105=>
 AA (bx_3 3) fun _=>
 AA (AB AM (bx_3 3) 1) fun t107=>
 AA (bx_3 3) fun _=>
 AA (AB AR (bx_3 3) 0) fun t109=>
 A1 Ca EB [(AV.strip t109)] S_14 fun t110 S_15=>
 A1 Ca IF [(AV.strip t105),(AV.strip t107),t110] S_15 fun t111 S_16=>
 AA (Ah t111 0) fun t112=>
 AA (Ah (AQ t111 0) 1) fun t113=>
 AA (Ai AP (some AP.zero) 0 t112) fun b8=>
 AA (AB AH (some b5) 0) fun t114=>
 AA (AB Cw (bx_3 3) 0) fun t115=>
 A1 Ca GM [(AV.strip t114),(AV.strip t115)] S_16 fun t116 S_17=>
 AA (Ai AI (some AI.zero) 0 t116) fun b10=>
 AA (bx_3 3) fun _=>
 AA (AB AR (bx_3 3) 0) fun t119=>
 A1 Ca Hu [(AV.strip t119)] S_17 fun t120 S_18=>
 AA (unA .not t120) fun t121=>
 AK (fun (x123:AV)=>
 AA (AS (AV.strip t121) (.bool true) x123) fun t124=>
 ifK (AV.strip t124)
 (AA (AB Cr (some b10) 0) fun t126=>
 AA (AJ .eql (AV.strip t126) (.int .i64 1)) fun t127=>
 Q t127 S_18)
 (AA (AJ .neq (AV.strip t113) (.int .i64 0)) fun t130=>
 ifK t130
 (AA (AB Cr (some b10) 0) fun t132=>
 AA (AJ .eql (AV.strip t132) (AV.strip t113)) fun t134=>
 Q t134 S_18)
 (AA (AB AI (some b10) 0) fun t135=>
 AA (AB AH (some b5) 0) fun t136=>
 AA (AB Cw (bx_3 3) 0) fun t137=>
 AA (AB AP (some b8) 0) fun t138=>
 A1 Ca Fc [(AV.strip t136),(AV.strip t137),(AV.strip t138)] S_18 fun t139 S_19=>
 A1 Ca JO [(AV.strip t135),t139] S_19 fun t140 S_20=>
 Q t140 S_20))) fun j_14=>
 ifK (AV.strip t121)
 (j_14 (.tup []))
 (j_14 (AV.strip (v_2 7))))))))))
set_option maxHeartbeats 4000000 in
theorem bN{w0 a0 a0r a1a a1b a1c a1d a1e a1f S0 Q}(h:upG (AN (En w0)) a0 a0r a1a a1b a1c a1d a1e a1f S0 Q):AC w0 DN [(.vs 7 a0 a0r),(.agg [(.int .i64 a1a),(.str a1b),(.int .i64 a1c),(.int .i64 a1d),(.int .i64 a1e),(.str a1f)])] S0 Q:=by
 have e:WF2 C (AN (En w0)) DN (Drc C (AN (En w0)) DN [(47,[103],[3])]) [(14,[26],[3]),(24,[7],[3])] Tryz.f6 [(.vs 7 a0 a0r),(.agg [(.int .i64 a1a),(.str a1b),(.int .i64 a1c),(.int .i64 a1d),(.int .i64 a1e),(.str a1f)])] S0 Q=upG (AN (En w0)) a0 a0r a1a a1b a1c a1d a1e a1f S0 Q:=by kernel_rfl
 exact To (E:=En w0) (agree w0) (My w0) (HI w0) (Dr:=Drc C (AN (En w0)) DN [(47,[103],[3])]) (Wt (agree w0) (My w0) (HI w0) mixed) (T8 (HI w0)) Tryz.func6 (by kernel_rfl) (bm (HI w0) (T8 (HI w0)) (e.symm ▸ h))
end Go.Av
