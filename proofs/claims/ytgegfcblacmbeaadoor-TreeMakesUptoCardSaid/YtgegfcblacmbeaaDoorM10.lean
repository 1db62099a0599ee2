/- Parts of the proofs of this seat: abstract values over the model, and what the functions of the program do. No condition. -/
import Derived.Test.YtgegfcblacmbeaaDoorM9
set_option linter.all false
set_option linter.unusedVariables false
namespace Go.Av
open Go.Proofs
def G_law01_NameSplits (Ca : Nat → List AV → St → (AV → St → Prop) → Prop) (a0 : List UInt8) (S0 : St) (Q : AV → St → Prop) : Prop :=
 Ca F_law01_speaks [] S0 fun t8 S =>
 optK (unA .not t8) fun t9 =>
 ifK t9
 (Q (.bool false) S)
 (ifK (.bool (decide ((List.length a0 : Int) > 3000)))
 (Q (.bool true) S)
 (Ca F_name_Split [(.str a0)] S fun t15 S_2 =>
 optK (extractA t15 0) fun t16 =>
 optK (extractA (stripTup t15 0) 1) fun t17 =>
 optK (extractA (stripTup (stripTup t15 0) 1) 2) fun t18 =>
 Ca F_ref01_Split [(.str a0)] S_2 fun t21 S_3 =>
 optK (extractA t21 0) fun t22 =>
 optK (extractA (stripTup t21 0) 1) fun t23 =>
 optK (unA .not (AV.strip t23)) fun t25 =>
 ifK t25
 (optK (binA .eql (AV.strip t18) (.int .i64 1)) fun t27 =>
 joinK (fun (x30 : AV) =>
 optK (pickA (AV.strip t27) x30 (.bool false)) fun t31 =>
 joinK (fun (x35 : AV) =>
 optK (pickA (AV.strip (AV.strip t31)) x35 (.bool false)) fun t36 =>
 Q (AV.strip t36) S_3) fun j =>
 ifK (AV.strip (AV.strip t31))
 (optK (lenSlA (AV.strip t16)) fun t34 =>
 optK (binA .eql t34 (.int .i64 0)) fun t35 =>
 j t35)
 (j (.tup []))) fun j_2 =>
 ifK (AV.strip t27)
 (optK (unA .not (AV.strip t17)) fun t30 =>
 j_2 t30)
 (j_2 (.tup [])))
 (optK (binA .eql (AV.strip t18) (.int .i64 0)) fun t38 =>
 joinK (fun (x42 : AV) (S_5 : St) =>
 optK (pickA (AV.strip t38) x42 (.bool false)) fun t43 =>
 joinK (fun (x49 : AV) =>
 optK (pickA (AV.strip (AV.strip t43)) x49 (.bool false)) fun t50 =>
 Q (AV.strip t50) S_5) fun j_3 =>
 ifK (AV.strip (AV.strip t43))
 (optK (charA (.str a0) (.int .i64 0)) fun t47 =>
 optK (binA .eql t47 (.int .u8 47)) fun t48 =>
 optK (binE .bool .eql (AV.strip t17) t48) fun t49 =>
 j_3 t49)
 (j_3 (.tup []))) fun j_4 =>
 ifK (AV.strip t38)
 (callK Ca F_ref01_Same [(AV.strip t16), (AV.strip t22)] S_3 fun t42 S_4 =>
 j_4 t42 S_4)
 (j_4 (.tup []) S_3))))
theorem law01_NameSplits_eq (Ca) (a0 : List UInt8) (S0 Q) : WF C Ca 3 (Drw C Ca 3) Tryd.f3 [(.str a0)] S0 Q = G_law01_NameSplits Ca a0 S0 Q := by kernel_rfl
theorem law01_NameSplits_ok {w0 : World} {a0 : List UInt8} {S0 : St} {Q : AV → St → Prop} (h : G_law01_NameSplits (ACalls (En w0)) a0 S0 Q) : AC w0 F_law01_NameSplits [(.str a0)] S0 Q := fn_ok w0 Tryd.func3 (by kernel_rfl) (by rw [law01_NameSplits_eq]; exact h)
def G_law01_NameRight (Ca : Nat → List AV → St → (AV → St → Prop) → Prop) (a0 : List UInt8) (S0 : St) (Q : AV → St → Prop) : Prop :=
 Ca F_law01_speaks [] S0 fun t7 S =>
 optK (unA .not t7) fun t8 =>
 ifK t8
 (Q (.bool false) S)
 (ifK (.bool (decide ((List.length a0 : Int) > 300)))
 (Q (.bool true) S)
 (Ca F_name_Split [(.str a0)] S fun t14 S_2 =>
 optK (extractA t14 0) fun t15 =>
 optK (extractA (stripTup t14 0) 1) fun t16 =>
 optK (extractA (stripTup (stripTup t14 0) 1) 2) fun t17 =>
 optK (binA .eql (AV.strip t17) (.int .i64 0)) fun t19 =>
 joinK (fun (x22 : AV) =>
 optK (pickA (AV.strip t19) x22 (.bool false)) fun t23 =>
 joinK (fun (x27 : AV) =>
 optK (pickA (AV.strip (AV.strip t23)) x27 (.bool false)) fun t28 =>
 joinK (fun (x34 : AV) =>
 optK (pickA (AV.strip (AV.strip t28)) x34 (.bool false)) fun t35 =>
 joinK (fun (x38 : AV) =>
 optK (pickA (AV.strip (AV.strip t35)) x38 (.bool false)) fun t39 =>
 Ca F_name_Right [(.str a0)] S_2 fun t41 S_3 =>
 Ca F_ref01_Right [(.str a0)] S_3 fun t43 S_4 =>
 optK (binE .bool .eql t41 t43) fun t44 =>
 joinK (fun (x49 : AV) (S_6 : St) =>
 optK (pickA (AV.strip t44) x49 (.bool false)) fun t50 =>
 Q (AV.strip t50) S_6) fun j =>
 ifK (AV.strip t44)
 (Ca F_name_Right [(.str a0)] S_4 fun t47 S_5 =>
 optK (binE .bool .eql t47 (AV.strip (AV.strip t39))) fun t49 =>
 j t49 S_5)
 (j (.tup []) S_4)) fun j_2 =>
 ifK (AV.strip (AV.strip t35))
 (j_2 (.bool (!(a0 == [46, 46]))))
 (j_2 (.tup []))) fun j_3 =>
 ifK (AV.strip (AV.strip t28))
 (optK (idxSlA T_string (AV.strip t15) (.int .i64 0)) fun t31 =>
 optK (loadA T_string S_2 t31) fun t32 =>
 optK (binA .eql (AV.strip t32) (.str a0)) fun t34 =>
 j_3 t34)
 (j_3 (.tup []))) fun j_4 =>
 ifK (AV.strip (AV.strip t23))
 (optK (lenSlA (AV.strip t15)) fun t26 =>
 optK (binA .eql t26 (.int .i64 1)) fun t27 =>
 j_4 t27)
 (j_4 (.tup []))) fun j_5 =>
 ifK (AV.strip t19)
 (optK (unA .not (AV.strip t16)) fun t22 =>
 j_5 t22)
 (j_5 (.tup []))))
theorem law01_NameRight_eq (Ca) (a0 : List UInt8) (S0 Q) : WF C Ca 4 (Drw C Ca 4) Tryd.f4 [(.str a0)] S0 Q = G_law01_NameRight Ca a0 S0 Q := by kernel_rfl
theorem law01_NameRight_ok {w0 : World} {a0 : List UInt8} {S0 : St} {Q : AV → St → Prop} (h : G_law01_NameRight (ACalls (En w0)) a0 S0 Q) : AC w0 F_law01_NameRight [(.str a0)] S0 Q := fn_ok w0 Tryd.func4 (by kernel_rfl) (by rw [law01_NameRight_eq]; exact h)
def G_law01_NameJoins (Ca : Nat → List AV → St → (AV → St → Prop) → Prop) (a0 : List (List AV)) (a0r : Rt) (S0 : St) (Q : AV → St → Prop) : Prop :=
 Ca F_law01_speaks [] S0 fun t13 S =>
 optK (unA .not t13) fun t14 =>
 ifK t14
 (Q (.bool false) S)
 (ifK (.bool (decide ((List.length a0 : Int) > 15)))
 (Q (.bool true) S)
 (joinK (fun (S_4 : St) =>
 Ca F_name_Join [(.vs 1 a0 (Rt.strip (Rt.strip a0r)))] S_4 fun t29 S_5 =>
 callK Ca F_name_Split [(AV.strip t29)] S_5 fun t32 S_6 =>
 optK (extractA t32 0) fun t33 =>
 optK (extractA (stripTup t32 0) 1) fun t34 =>
 optK (extractA (stripTup (stripTup t32 0) 1) 2) fun t35 =>
 Ca F_ref01_Join [(.vs 1 a0 (Rt.strip (Rt.strip a0r)))] S_6 fun t38 S_7 =>
 optK (binA .neq (AV.strip t29) t38) fun t39 =>
 joinK (fun (x42 : AV) =>
 optK (pickA (AV.strip t39) (.bool true) x42) fun t43 =>
 joinK (fun (x46 : AV) =>
 optK (pickA (AV.strip (AV.strip t43)) (.bool true) x46) fun t47 =>
 joinK (fun (x52 : AV) (S_9 : St) =>
 optK (pickA (AV.strip (AV.strip t47)) (.bool true) x52) fun t53 =>
 ifK (AV.strip t53)
 (Q (.bool false) S_9)
 (joinK (fun (x9 : AV) (S_15 : St) =>
 optK (binA .eql (AV.strip x9) (AV.strip t29)) fun t81 =>
 joinK (fun (x84 : AV) (S_17 : St) =>
 optK (pickA (AV.strip t81) x84 (.bool false)) fun t85 =>
 Q (AV.strip t85) S_17) fun j_5 =>
 ifK (AV.strip t81)
 (Ca F_name_Parent [(.str [47])] S_15 fun t83 S_16 =>
 optK (binA .eql t83 (.str [47])) fun t84 =>
 j_5 t84 S_16)
 (j_5 (.tup []) S_15)) fun j_6 =>
 loopQ ([(.vs 1 a0 a0r), (.str [47]), (.int .i64 0)], []) (fun v_2 bx_2 => ([v_2 0, v_2 9, v_2 56], [])) (fun nx_2 v_2 bx_2 S_10 =>
 optK (binA .lss (v_2 56) (.int .i64 (List.length a0 : Int))) fun t57 =>
 ifK t57
 (optK (idxSlA T_string (.vs 1 a0 (Rt.strip a0r)) (v_2 56)) fun t59 =>
 optK (loadA T_string S_10 t59) fun t60 =>
 callK Ca F_name_Child [(AV.strip (v_2 9)), (AV.strip (AV.strip t60))] S_10 fun t63 S_11 =>
 optK (binA .add (AV.strip (AV.strip (v_2 56))) (.int .i64 1)) fun t67 =>
 optK (cutA T_string (v_2 0) none (some t67) none) fun t68 =>
 callK Ca F_ref01_Join [t68] S_11 fun t69 S_12 =>
 optK (binA .neq (AV.strip t63) t69) fun t70 =>
 joinK (fun (x75 : AV) (S_14 : St) =>
 optK (pickA (AV.strip t70) (.bool true) x75) fun t76 =>
 ifK (AV.strip t76)
 (Q (.bool false) S_14)
 (optK (binA .add (v_2 56) (.int .i64 1)) fun t78 =>
 nx_2 ([(AV.strip (v_2 0)), (AV.strip t63), (AV.strip t78)], []) S_14)) fun j_4 =>
 ifK (AV.strip t70)
 (j_4 (.tup []) S_12)
 (callK Ca F_name_Parent [(AV.strip t63)] S_12 fun t73 S_13 =>
 optK (binA .neq t73 (AV.strip (v_2 9))) fun t75 =>
 j_4 t75 S_13))
 (j_6 (v_2 9) S_10)) S_9)) fun j =>
 ifK (AV.strip (AV.strip t47))
 (j (.tup []) S_7)
 (callK Ca F_ref01_Same [(AV.strip t33), (.vs 1 a0 (Rt.strip a0r))] S_7 fun t51 S_8 =>
 optK (unA .not t51) fun t52 =>
 j t52 S_8)) fun j_2 =>
 ifK (AV.strip (AV.strip t43))
 (j_2 (.tup []))
 (optK (unA .not (AV.strip t34)) fun t46 =>
 j_2 t46)) fun j_3 =>
 ifK (AV.strip t39)
 (j_3 (.tup []))
 (optK (binA .neq (AV.strip t35) (.int .i64 0)) fun t42 =>
 j_3 t42)) fun j_7 =>
 loopQ ([(.int .i64 0)], []) (fun v bx => ([v 20], [])) (fun nx v bx S_2 =>
 optK (binA .lss (v 20) (.int .i64 (List.length a0 : Int))) fun t21 =>
 ifK t21
 (optK (idxSlA T_string (.vs 1 a0 (Rt.strip a0r)) (v 20)) fun t22 =>
 optK (loadA T_string S_2 t22) fun t23 =>
 callK Ca F_ref01_Right [(AV.strip (AV.strip t23))] S_2 fun t25 S_3 =>
 optK (unA .not t25) fun t26 =>
 ifK t26
 (Q (.bool true) S_3)
 (optK (binA .add (v 20) (.int .i64 1)) fun t27 =>
 nx ([(AV.strip t27)], []) S_3))
 (j_7 S_2)) S))
theorem law01_NameJoins_eq (Ca) (a0 : List (List AV)) (a0r : Rt) (S0 Q) : WF C Ca 5 (Drw C Ca 5) Tryd.f5 [(.vs 1 a0 a0r)] S0 Q = G_law01_NameJoins Ca a0 a0r S0 Q := by kernel_rfl
theorem law01_NameJoins_ok {w0 : World} {a0 : List (List AV)} {a0r : Rt} {S0 : St} {Q : AV → St → Prop} (h : G_law01_NameJoins (ACalls (En w0)) a0 a0r S0 Q) : AC w0 F_law01_NameJoins [(.vs 1 a0 a0r)] S0 Q := fn_ok w0 Tryd.func5 (by kernel_rfl) (by rw [law01_NameJoins_eq]; exact h)
def G_law07_StackDoes (Ca : Nat → List AV → St → (AV → St → Prop) → Prop) (a0 : List (List AV)) (a0r : Rt) (S0 : St) (Q : AV → St → Prop) : Prop :=
 Ca F_law07_speaks [] S0 fun t22 S =>
 optK (unA .not t22) fun t23 =>
 ifK t23
 (Q (.bool false) S)
 (ifK (.bool (decide ((List.length a0 : Int) > 200)))
 (Q (.bool true) S)
 (joinK (fun (x5_4 : AV) (x6_2 : AV) (x7_2 : AV) (S_12 : St) =>
 joinK (fun (S_15 : St) =>
 Q (.bool true) S_15) fun j_11 =>
 optK (lenSlA (AV.strip x6_2)) fun t134 =>
 loopQ ([(.int .i64 0)], []) (fun v_3 bx_3 => ([v_3 135], [])) (fun nx_3 v_3 bx_3 S_13 =>
 optK (binA .lss (v_3 135) t134) fun t136 =>
 ifK t136
 (optK (idxSlA T_stack_Stack (AV.strip x6_2) (v_3 135)) fun t138 =>
 optK (loadA T_stack_Stack S_13 t138) fun t139 =>
 optK (lstoreA T_stack_Stack (some [(.vs 2 [] .nil), (.int .i64 0)]) 0 (AV.strip t139)) fun b21 =>
 optK (lloadA T_stack_Stack (some b21) 0) fun t140 =>
 optK (idxSlA T_s_int (AV.strip x7_2) (AV.strip (AV.strip (v_3 135)))) fun t143 =>
 optK (loadA T_s_int S_13 t143) fun t144 =>
 callK Ca F_law07_same [(AV.strip t140), (AV.strip t144), (AV.strip x5_4)] S_13 fun t146 S_14 =>
 optK (unA .not t146) fun t147 =>
 ifK t147
 (Q (.bool false) S_14)
 (optK (binA .add (v_3 135) (.int .i64 1)) fun t148 =>
 nx_3 ([(AV.strip t148)], []) S_14))
 (j_11 S_13)) S_12) fun j_12 =>
 loopQ ([(.vs 1 [] .nil), (.vs 1 [] .nil), (.vs 2 [] .nil), (.vs 1 [] .nil), (.int .i64 0)], [(some [(.vs 2 [] .nil), (.int .i64 0)])]) (fun v bx => ([v 4, v 5, v 6, v 7, v 29], [bx 3])) (fun nx v bx S_2 =>
 optK (binA .lss (v 29) (.int .i64 (List.length a0 : Int))) fun t30 =>
 ifK t30
 (joinK (fun (x4_3 : AV) (x5_3 : AV) (x6 : AV) (x7 : AV) (y3_2 : Option (List AV)) (S_11 : St) =>
 optK (binA .add (v 29) (.int .i64 1)) fun t132 =>
 nx ([x4_3, x5_3, x6, x7, (AV.strip t132)], [y3_2]) S_11) fun j_10 =>
 optK (idxSlA T_socagelaw07_Act (.vs 2 a0 (Rt.strip a0r)) (v 29)) fun t31 =>
 optK (loadA T_socagelaw07_Act S_2 t31) fun t32 =>
 optK (lstoreA T_socagelaw07_Act (some [(.bool false), (.int .i64 0)]) 0 (AV.strip t32)) fun b9 =>
 optK (lloadA T_stack_Stack (bx 3) 0) fun t34 =>
 optK (elemVals 2 [(AV.strip t34)]) fun e35 =>
 optK (appendA T_stack_Stack S_2 (v 6) (.vs 2 e35 .full)) fun t36 =>
 optK (elemVals 1 [(AV.strip (v 4))]) fun e39 =>
 optK (appendA T_s_int S_2 (v 7) (.vs 1 e39 .full)) fun t40 =>
 joinK (fun (x4_2 : AV) (x5_2 : AV) (y3 : Option (List AV)) (S_9 : St) =>
 optK (lloadA T_stack_Stack y3 0) fun t127 =>
 callK Ca F_law07_same [(AV.strip t127), (AV.strip x4_2), (AV.strip x5_2)] S_9 fun t130 S_10 =>
 optK (unA .not t130) fun t131 =>
 ifK t131
 (Q (.bool false) S_10)
 (j_10 x4_2 x5_2 t36 t40 y3 S_10)) fun j_9 =>
 optK (some b9) fun _ =>
 optK (lloadA T_bool (some b9) 0) fun t42 =>
 ifK (AV.strip t42)
 (joinK (fun (x10_2 : AV) (y9 : Option (List AV)) (S_4 : St) =>
 optK (lloadA T_stack_Stack (bx 3) 0) fun t59 =>
 optK y9 fun _ =>
 optK (lloadA T_int y9 1) fun t61 =>
 callK Ca F_stack_Stack_Remove [(AV.strip t59), (AV.strip t61)] S_4 fun t62 S_5 =>
 optK (extractA t62 0) fun t63 =>
 optK (extractA (stripTup t62 0) 1) fun t64 =>
 optK (lstoreA T_stack_Stack (some [(.vs 2 [] .nil), (.int .i64 0)]) 0 t63) fun b13 =>
 optK (binA .eql (AV.strip t64) (.int .i64 0)) fun t66 =>
 optK (lenSlA (AV.strip x10_2)) fun t68 =>
 optK (lenSlA (AV.strip (v 4))) fun t70 =>
 optK (binA .lss t68 t70) fun t71 =>
 optK (binE .bool .neq t66 t71) fun t72 =>
 joinK (fun (x79 : AV) =>
 optK (pickA (AV.strip t72) (.bool true) x79) fun t80 =>
 ifK (AV.strip t80)
 (Q (.bool false) S_5)
 (optK (lloadA T_stack_Stack (some b13) 0) fun t81 =>
 optK (lstoreA T_stack_Stack (bx 3) 0 (AV.strip t81)) fun b3 =>
 j_9 (AV.strip x10_2) (v 5) (some b3) S_5)) fun j_3 =>
 ifK (AV.strip t72)
 (j_3 (.tup []))
 (optK (binA .neq (AV.strip t64) (.int .i64 0)) fun t75 =>
 joinK (fun (x78 : AV) =>
 optK (pickA (AV.strip t75) x78 (.bool false)) fun t79 =>
 j_3 (AV.strip t79)) fun j_2 =>
 gK (AV.strip t75)
 (optK (binA .neq (AV.strip t64) (.int .i64 2)) fun t78 =>
 j_2 t78)
 (j_2 (.tup []))
 (j_2 (.tup [])))) fun j_4 =>
 optK (lenSlA (AV.strip (v 4))) fun t44 =>
 loopQ ([(.vs 1 [] .nil), (.int .i64 0)], [(some b9)]) (fun v_2 bx_2 => ([v_2 10, v_2 45], [bx_2 9])) (fun nx_2 v_2 bx_2 S_3 =>
 optK (binA .lss (v_2 45) t44) fun t46 =>
 ifK t46
 (joinK (fun (x10 : AV) =>
 optK (binA .add (v_2 45) (.int .i64 1)) fun t57 =>
 nx_2 ([x10, (AV.strip t57)], [(bx_2 9)]) S_3) fun j =>
 optK (idxSlA T_int (AV.strip (v 4)) (v_2 45)) fun t47 =>
 optK (loadA T_int S_3 t47) fun t48 =>
 optK (bx_2 9) fun _ =>
 optK (lloadA T_int (bx_2 9) 1) fun t51 =>
 optK (binA .neq (AV.strip (AV.strip t48)) (AV.strip t51)) fun t52 =>
 ifK t52
 (optK (elemVals 1 [(AV.strip (AV.strip t48))]) fun e55 =>
 optK (appendA T_int S_3 (v_2 10) (.vs 1 e55 .full)) fun t56 =>
 j t56)
 (j (v_2 10)))
 (j_4 (v_2 10) (bx_2 9) S_3)) S_2)
 (Ca F_tree_Dir [(.vs 1 [] .nil), (.vs 7 [] .nil)] S_2 fun t84 S_6 =>
 callK Ca F_branch_New [t84] S_6 fun t85 S_7 =>
 optK (extractA t85 0) fun t86 =>
 optK (extractA (stripTup t85 0) 1) fun t87 =>
 optK (binA .neq (AV.strip t87) (.int .i64 0)) fun t89 =>
 joinK (fun (x92 : AV) =>
 optK (pickA (AV.strip t89) (.bool true) x92) fun t93 =>
 ifK (AV.strip t93)
 (Q (.bool false) S_7)
 (optK (lloadA T_stack_Stack (bx 3) 0) fun t95 =>
 callK Ca F_stack_Stack_Add [(AV.strip t95), (AV.strip t86)] S_7 fun t97 S_8 =>
 optK (extractA t97 0) fun t98 =>
 optK (extractA (stripTup t97 0) 1) fun t99 =>
 optK (extractA (stripTup (stripTup t97 0) 1) 2) fun t100 =>
 optK (lstoreA T_stack_Stack (some [(.vs 2 [] .nil), (.int .i64 0)]) 0 t98) fun b17 =>
 joinK (fun (x4 : AV) (x5 : AV) =>
 optK (lloadA T_stack_Stack (some b17) 0) fun t126 =>
 optK (lstoreA T_stack_Stack (bx 3) 0 (AV.strip t126)) fun b3_2 =>
 j_9 x4 x5 (some b3_2) S_8) fun j_8 =>
 optK (lenSlA (AV.strip (v 4))) fun t102 =>
 optK (binA .geq t102 (.int .i64 64)) fun t103 =>
 ifK t103
 (optK (binA .neq (AV.strip t100) (.int .i64 6)) fun t105 =>
 joinK (fun (x108 : AV) =>
 optK (pickA (AV.strip t105) (.bool true) x108) fun t109 =>
 ifK (AV.strip t109)
 (Q (.bool false) S_8)
 (j_8 (v 4) (v 5))) fun j_6 =>
 ifK (AV.strip t105)
 (j_6 (.tup []))
 (optK (binA .neq (AV.strip t99) (.int .i64 0)) fun t108 =>
 j_6 t108))
 (optK (binA .neq (AV.strip t100) (.int .i64 0)) fun t111 =>
 joinK (fun (x116 : AV) =>
 optK (pickA (AV.strip t111) (.bool true) x116) fun t117 =>
 ifK (AV.strip t117)
 (Q (.bool false) S_8)
 (optK (elemVals 1 [(AV.strip t86)]) fun e120 =>
 optK (appendA T_p_branch_Branch S_8 (v 5) (.vs 1 e120 .full)) fun t121 =>
 optK (elemVals 1 [(AV.strip t99)]) fun e123 =>
 optK (appendA T_int S_8 (.vs 1 e123 .full) (AV.strip (v 4))) fun t125 =>
 j_8 t125 t121)) fun j_7 =>
 ifK (AV.strip t111)
 (j_7 (.tup []))
 (optK (lenSlA (AV.strip (v 5))) fun t115 =>
 optK (binA .neq (AV.strip t99) t115) fun t116 =>
 j_7 t116)))) fun j_5 =>
 ifK (AV.strip t89)
 (j_5 (.tup []))
 (optK (binE .ptr .eql (AV.strip t86) .nil) fun t92 =>
 j_5 t92)))
 (j_12 (v 5) (v 6) (v 7) S_2)) S))
theorem law07_StackDoes_eq (Ca) (a0 : List (List AV)) (a0r : Rt) (S0 Q) : WF C Ca 6 (Drw C Ca 6) Tryd.f6 [(.vs 2 a0 a0r)] S0 Q = G_law07_StackDoes Ca a0 a0r S0 Q := by kernel_rfl
theorem law07_StackDoes_ok {w0 : World} {a0 : List (List AV)} {a0r : Rt} {S0 : St} {Q : AV → St → Prop} (h : G_law07_StackDoes (ACalls (En w0)) a0 a0r S0 Q) : AC w0 F_law07_StackDoes [(.vs 2 a0 a0r)] S0 Q := fn_ok w0 Tryd.func6 (by kernel_rfl) (by rw [law07_StackDoes_eq]; exact h)
def G_law07_StackOf (Ca : Nat → List AV → St → (AV → St → Prop) → Prop) (a0 : List (List AV)) (a0r : Rt) (a1 : Int) (S0 : St) (Q : AV → St → Prop) : Prop :=
 Ca F_law07_speaks [] S0 fun t16 S =>
 optK (unA .not t16) fun t17 =>
 ifK t17
 (Q (.bool false) S)
 (ifK (.bool (decide ((List.length a0 : Int) > 20)))
 (Q (.bool true) S)
 (joinK (fun (x5_2 : AV) (S_6 : St) =>
 Ca F_stack_Of [(.vs 7 a0 (Rt.strip (Rt.strip a0r)))] S_6 fun t36 S_7 =>
 optK (extractA t36 0) fun t37 =>
 optK (extractA (stripTup t36 0) 1) fun t38 =>
 optK (lstoreA T_stack_Stack (some [(.vs 2 [] .nil), (.int .i64 0)]) 0 t37) fun b8 =>
 optK (binA .neq (AV.strip t38) (AV.strip x5_2)) fun t41 =>
 joinK (fun (x51 : AV) (S_10 : St) =>
 optK (pickA (AV.strip t41) (.bool true) x51) fun t52 =>
 joinK (fun (x60 : AV) (S_13 : St) =>
 optK (pickA (AV.strip (AV.strip t52)) (.bool true) x60) fun t61 =>
 ifK (AV.strip t61)
 (Q (.bool false) S_13)
 (joinK (fun (S_22 : St) =>
 joinK (fun (x13 : AV) (S_25 : St) =>
 callK Ca F_stack_Of [(AV.strip x13)] S_25 fun t112 S_26 =>
 optK (extractA t112 0) fun t113 =>
 optK (extractA (stripTup t112 0) 1) fun t114 =>
 optK (lstoreA T_stack_Stack (some [(.vs 2 [] .nil), (.int .i64 0)]) 0 t113) fun b14 =>
 optK (binA .eql (AV.strip t114) (.int .i64 0)) fun t116 =>
 optK (binE .bool .eql t116 (.bool (decide ((IntKind.i64.wrap (55 + (Int.tmod (IntKind.i64.wrap a1) 20))) ≤ 64)))) fun t119 =>
 joinK (fun (x137 : AV) (S_32 : St) =>
 optK (pickA (AV.strip t119) x137 (.bool false)) fun t138 =>
 Q (AV.strip t138) S_32) fun j_11 =>
 ifK (AV.strip t119)
 (optK (binA .eql (AV.strip t114) (.int .i64 0)) fun t122 =>
 joinK (fun (x127 : AV) (S_28 : St) =>
 optK (pickA (AV.strip t122) x127 (.bool false)) fun t128 =>
 joinK (fun (x136 : AV) (S_31 : St) =>
 optK (pickA (AV.strip (AV.strip t128)) (.bool true) x136) fun t137 =>
 j_11 (AV.strip t137) S_31) fun j_9 =>
 gK (AV.strip (AV.strip t128))
 (j_9 (.tup []) S_28)
 (optK (binA .eql (AV.strip t114) (.int .i64 6)) fun t131 =>
 joinK (fun (x135 : AV) (S_30 : St) =>
 optK (pickA (AV.strip t131) x135 (.bool false)) fun t136 =>
 j_9 (AV.strip t136) S_30) fun j_8 =>
 gK (AV.strip t131)
 (optK (lloadA T_stack_Stack (some b14) 0) fun t133 =>
 callK Ca F_stack_Stack_Len [(AV.strip t133)] S_28 fun t134 S_29 =>
 optK (binA .eql t134 (.int .i64 0)) fun t135 =>
 j_8 t135 S_29)
 (j_8 (.tup []) S_28)
 (j_8 (.tup []) S_28))
 (j_9 (.tup []) S_28)) fun j_10 =>
 gK (AV.strip t122)
 (optK (lloadA T_stack_Stack (some b14) 0) fun t124 =>
 callK Ca F_stack_Stack_Len [(AV.strip t124)] S_26 fun t125 S_27 =>
 optK (binA .eql t125 (.int .i64 (IntKind.i64.wrap (55 + (Int.tmod (IntKind.i64.wrap a1) 20))))) fun t127 =>
 j_10 t127 S_27)
 (j_10 (.tup []) S_26)
 (j_10 (.tup []) S_26))
 (j_11 (.tup []) S_26)) fun j_12 =>
 loopQ ([(.vs 7 [] .nil), (.int .i64 0)], []) (fun v_3 bx_3 => ([v_3 13, v_3 103], [])) (fun nx_3 v_3 bx_3 S_23 =>
 optK (binA .lss (v_3 103) (.int .i64 (IntKind.i64.wrap (55 + (Int.tmod (IntKind.i64.wrap a1) 20))))) fun t104 =>
 ifK t104
 (Ca F_tree_Dir [(.vs 1 [] .nil), (.vs 7 [] .nil)] S_23 fun t106 S_24 =>
 optK (elemVals 7 [t106]) fun e107 =>
 optK (appendA T_api_Node S_24 (v_3 13) (.vs 7 e107 .full)) fun t108 =>
 optK (binA .add (v_3 103) (.int .i64 1)) fun t109 =>
 nx_3 ([t108, (AV.strip t109)], []) S_24)
 (j_12 (v_3 13) S_23)) S_22) fun j_13 =>
 optK (lloadA T_stack_Stack (some b8) 0) fun t62 =>
 callK Ca F_stack_Stack_Len [(AV.strip t62)] S_13 fun t63 S_14 =>
 loopQ ([(.int .i64 0)], [(some b8)]) (fun v_2 bx_2 => ([v_2 64], [bx_2 8])) (fun nx_2 v_2 bx_2 S_15 =>
 optK (binA .lss (v_2 64) t63) fun t65 =>
 ifK t65
 (optK (lloadA T_stack_Stack (bx_2 8) 0) fun t67 =>
 callK Ca F_stack_Stack_At [(AV.strip t67), (AV.strip (AV.strip (v_2 64)))] S_15 fun t69 S_16 =>
 optK (binE .ptr .eql (AV.strip t69) .nil) fun t71 =>
 joinK (fun (x81 : AV) (S_18 : St) =>
 optK (pickA (AV.strip t71) (.bool true) x81) fun t82 =>
 joinK (fun (x95 : AV) (S_21 : St) =>
 optK (pickA (AV.strip (AV.strip t82)) (.bool true) x95) fun t96 =>
 ifK (AV.strip t96)
 (Q (.bool false) S_21)
 (optK (binA .add (v_2 64) (.int .i64 1)) fun t97 =>
 nx_2 ([(AV.strip t97)], [(bx_2 8)]) S_21)) fun j_6 =>
 ifK (AV.strip (AV.strip t82))
 ((ifK (AV.strip (AV.strip t82))
 ((AV.tup []) = (.tup []))
 (optK (loadA T_api_Node S_18 (.tup [])) fun t93 =>
 ((AV.strip t93) : AV) = (.tup []))) ∧
 (j_6 (.tup []) S_18))
 (optK (binA .sub (.int .i64 (IntKind.i64.wrap ((List.length a0 : Int) - 1))) (AV.strip (AV.strip (v_2 64)))) fun t91 =>
 optK (idxSlA T_api_Node (.vs 7 a0 (Rt.strip a0r)) t91) fun t92 =>
 optK (loadA T_api_Node S_18 t92) fun t93_2 =>
 callK Ca F_branch_Branch_Count [(AV.strip t69)] S_18 fun t85 S_19 =>
 (ifK (AV.strip (AV.strip t82))
 ((AV.tup []) = (AV.strip t93_2))
 (optK (loadA T_api_Node S_19 t92) fun t93_3 =>
 ((AV.strip t93_3) : AV) = (AV.strip t93_2))) ∧
 (callK Ca F_ref04_Count [(AV.strip t93_2)] S_19 fun t94 S_20 =>
 optK (binA .neq t85 t94) fun t95 =>
 j_6 t95 S_20))) fun j_7 =>
 ifK (AV.strip t71)
 (j_7 (.tup []) S_16)
 (optK (lloadA T_stack_Stack (bx_2 8) 0) fun t73 =>
 optK (binA .sub (.int .i64 (IntKind.i64.wrap ((List.length a0 : Int) - 1))) (AV.strip (AV.strip (v_2 64)))) fun t80 =>
 callK Ca F_stack_Stack_ID [(AV.strip t73), (AV.strip (AV.strip (v_2 64)))] S_16 fun t75 S_17 =>
 optK (binA .neq t75 t80) fun t81 =>
 j_7 t81 S_17))
 (j_13 S_15)) S_14)) fun j_4 =>
 ifK (AV.strip (AV.strip t52))
 (j_4 (.tup []) S_10)
 (optK (binA .neq (AV.strip t38) (.int .i64 0)) fun t55 =>
 joinK (fun (x59 : AV) (S_12 : St) =>
 optK (pickA (AV.strip t55) x59 (.bool false)) fun t60 =>
 j_4 (AV.strip t60) S_12) fun j_3 =>
 gK (AV.strip t55)
 (optK (lloadA T_stack_Stack (some b8) 0) fun t57 =>
 callK Ca F_stack_Stack_Len [(AV.strip t57)] S_10 fun t58 S_11 =>
 optK (binA .neq t58 (.int .i64 0)) fun t59 =>
 j_3 t59 S_11)
 (j_3 (.tup []) S_10)
 (j_3 (.tup []) S_10))) fun j_5 =>
 ifK (AV.strip t41)
 (j_5 (.tup []) S_7)
 (optK (binA .eql (AV.strip t38) (.int .i64 0)) fun t44 =>
 joinK (fun (x50 : AV) (S_9 : St) =>
 optK (pickA (AV.strip t44) x50 (.bool false)) fun t51 =>
 j_5 (AV.strip t51) S_9) fun j_2 =>
 gK (AV.strip t44)
 (optK (lloadA T_stack_Stack (some b8) 0) fun t46 =>
 callK Ca F_stack_Stack_Len [(AV.strip t46)] S_7 fun t47 S_8 =>
 optK (binA .neq t47 (.int .i64 (List.length a0 : Int))) fun t50 =>
 j_2 t50 S_8)
 (j_2 (.tup []) S_7)
 (j_2 (.tup []) S_7))) fun j_14 =>
 loopQ ([(.int .i64 0), (.int .i64 0)], []) (fun v bx => ([v 5, v 23], [])) (fun nx v bx S_2 =>
 optK (binA .lss (v 23) (.int .i64 (List.length a0 : Int))) fun t24 =>
 ifK t24
 (joinK (fun (x5 : AV) (S_5 : St) =>
 optK (binA .add (v 23) (.int .i64 1)) fun t33 =>
 nx ([x5, (AV.strip t33)], []) S_5) fun j =>
 optK (idxSlA T_api_Node (.vs 7 a0 (Rt.strip a0r)) (v 23)) fun t25 =>
 optK (loadA T_api_Node S_2 t25) fun t26 =>
 optK (lstoreA T_api_Node (some [(.int .i64 0), (.bool false), (.vs 1 [] .nil), (.vs 7 [] .nil), (.int .i64 0), (.vs 2 [] .nil), (.str [])]) 0 (AV.strip t26)) fun b7 =>
 optK (lloadA T_api_Node (some b7) 0) fun t27 =>
 callK Ca F_law04_Small [(AV.strip t27)] S_2 fun t28 S_3 =>
 optK (binA .eql t28 (.int .i64 0)) fun t29 =>
 ifK t29
 (Q (.bool true) S_3)
 (optK (lloadA T_api_Node (some b7) 0) fun t30 =>
 callK Ca F_ref04_Right [(AV.strip t30)] S_3 fun t31 S_4 =>
 optK (unA .not t31) fun t32 =>
 ifK t32
 (j (.int .i64 1) S_4)
 (j (v 5) S_4)))
 (j_14 (v 5) S_2)) S))
theorem law07_StackOf_eq (Ca) (a0 : List (List AV)) (a0r : Rt) (a1 : Int) (S0 Q) : WF C Ca 7 (Drw C Ca 7) Tryd.f7 [(.vs 7 a0 a0r), (.int .u8 a1)] S0 Q = G_law07_StackOf Ca a0 a0r a1 S0 Q := by kernel_rfl
theorem law07_StackOf_ok {w0 : World} {a0 : List (List AV)} {a0r : Rt} {a1 : Int} {S0 : St} {Q : AV → St → Prop} (h : G_law07_StackOf (ACalls (En w0)) a0 a0r a1 S0 Q) : AC w0 F_law07_StackOf [(.vs 7 a0 a0r), (.int .u8 a1)] S0 Q := fn_ok w0 Tryd.func7 (by kernel_rfl) (by rw [law07_StackOf_eq]; exact h)
def G_law04_TreeRight (Ca : Nat → List AV → St → (AV → St → Prop) → Prop) (a0a : Int) (a0b : Bool) (a0c : List (List AV)) (a0cr : Rt) (a0d : List (List AV)) (a0dr : Rt) (a0e : Int) (a0f : List (List AV)) (a0fr : Rt) (a0g : List UInt8) (S0 : St) (Q : AV → St → Prop) : Prop :=
 optK (boxA T_api_Node (.agg [(.int .i64 a0a), (.bool a0b), (.vs 1 a0c a0cr), (.vs 7 a0d a0dr), (.int .i64 a0e), (.vs 2 a0f a0fr), (.str a0g)])) fun c1 =>
 Ca F_law04_speaks [] S0 fun t3 S =>
 optK (unA .not t3) fun t4 =>
 ifK t4
 (Q (.bool false) S)
 (optK (lloadA T_api_Node (some c1) 0) fun t5 =>
 callK Ca F_law04_Small [(AV.strip t5)] S fun t6 S_2 =>
 optK (binA .eql t6 (.int .i64 0)) fun t7 =>
 joinK (fun (x20 : AV) (S_8 : St) =>
 optK (pickA (AV.strip t7) (.bool true) x20) fun t21 =>
 Q (AV.strip t21) S_8) fun j_2 =>
 ifK (AV.strip t7)
 (j_2 (.tup []) S_2)
 (optK (lloadA T_api_Node (some c1) 0) fun t9 =>
 optK (lloadA T_api_Node (some c1) 0) fun t11 =>
 callK Ca F_tree_Right [(AV.strip t9)] S_2 fun t10 S_3 =>
 callK Ca F_ref04_Right [(AV.strip t11)] S_3 fun t12 S_4 =>
 optK (binE .bool .eql t10 t12) fun t13 =>
 joinK (fun (x19 : AV) (S_7 : St) =>
 optK (pickA (AV.strip t13) x19 (.bool false)) fun t20 =>
 j_2 (AV.strip t20) S_7) fun j =>
 gK (AV.strip t13)
 (optK (lloadA T_api_Node (some c1) 0) fun t15 =>
 optK (lloadA T_api_Node (some c1) 0) fun t17 =>
 callK Ca F_tree_Count [(AV.strip t15)] S_4 fun t16 S_5 =>
 callK Ca F_ref04_Count [(AV.strip t17)] S_5 fun t18 S_6 =>
 optK (binA .eql t16 t18) fun t19 =>
 j t19 S_6)
 (j (.tup []) S_4)
 (j (.tup []) S_4)))
theorem law04_TreeRight_eq (Ca) (a0a : Int) (a0b : Bool) (a0c : List (List AV)) (a0cr : Rt) (a0d : List (List AV)) (a0dr : Rt) (a0e : Int) (a0f : List (List AV)) (a0fr : Rt) (a0g : List UInt8) (S0 Q) : WF C Ca 8 (Drw C Ca 8) Tryd.f8 [(.agg [(.int .i64 a0a), (.bool a0b), (.vs 1 a0c a0cr), (.vs 7 a0d a0dr), (.int .i64 a0e), (.vs 2 a0f a0fr), (.str a0g)])] S0 Q = G_law04_TreeRight Ca a0a a0b a0c a0cr a0d a0dr a0e a0f a0fr a0g S0 Q := by kernel_rfl
theorem law04_TreeRight_ok {w0 : World} {a0a : Int} {a0b : Bool} {a0c : List (List AV)} {a0cr : Rt} {a0d : List (List AV)} {a0dr : Rt} {a0e : Int} {a0f : List (List AV)} {a0fr : Rt} {a0g : List UInt8} {S0 : St} {Q : AV → St → Prop} (h : G_law04_TreeRight (ACalls (En w0)) a0a a0b a0c a0cr a0d a0dr a0e a0f a0fr a0g S0 Q) : AC w0 F_law04_TreeRight [(.agg [(.int .i64 a0a), (.bool a0b), (.vs 1 a0c a0cr), (.vs 7 a0d a0dr), (.int .i64 a0e), (.vs 2 a0f a0fr), (.str a0g)])] S0 Q := fn_ok w0 Tryd.func8 (by kernel_rfl) (by rw [law04_TreeRight_eq]; exact h)
def G_law04_TreeSame (Ca : Nat → List AV → St → (AV → St → Prop) → Prop) (a0a : Int) (a0b : Bool) (a0c : List (List AV)) (a0cr : Rt) (a0d : List (List AV)) (a0dr : Rt) (a0e : Int) (a0f : List (List AV)) (a0fr : Rt) (a0g : List UInt8) (a1a : Int) (a1b : Bool) (a1c : List (List AV)) (a1cr : Rt) (a1d : List (List AV)) (a1dr : Rt) (a1e : Int) (a1f : List (List AV)) (a1fr : Rt) (a1g : List UInt8) (a2 : List UInt8) (S0 : St) (Q : AV → St → Prop) : Prop :=
 optK (boxA T_api_Node (.agg [(.int .i64 a0a), (.bool a0b), (.vs 1 a0c a0cr), (.vs 7 a0d a0dr), (.int .i64 a0e), (.vs 2 a0f a0fr), (.str a0g)])) fun c3 =>
 optK (boxA T_api_Node (.agg [(.int .i64 a1a), (.bool a1b), (.vs 1 a1c a1cr), (.vs 7 a1d a1dr), (.int .i64 a1e), (.vs 2 a1f a1fr), (.str a1g)])) fun c4 =>
 Ca F_law04_speaks [] S0 fun t10 S =>
 optK (unA .not t10) fun t11 =>
 ifK t11
 (Q (.bool false) S)
 (optK (lloadA T_api_Node (some c3) 0) fun t12 =>
 callK Ca F_law04_Small [(AV.strip t12)] S fun t13 S_2 =>
 optK (binA .eql t13 (.int .i64 0)) fun t14 =>
 joinK (fun (x18 : AV) (S_4 : St) =>
 optK (pickA (AV.strip t14) (.bool true) x18) fun t19 =>
 joinK (fun (x23 : AV) =>
 optK (pickA (AV.strip (AV.strip t19)) (.bool true) x23) fun t24 =>
 ifK (AV.strip t24)
 (Q (.bool true) S_4)
 (optK (lloadA T_api_Node (some c3) 0) fun t25 =>
 optK (lloadA T_api_Node (some c4) 0) fun t26 =>
 optK (lloadA T_api_Node (some c3) 0) fun t28 =>
 optK (lloadA T_api_Node (some c4) 0) fun t29 =>
 callK Ca F_tree_Same [(AV.strip t25), (AV.strip t26)] S_4 fun t27 S_5 =>
 callK Ca F_ref04_Same [(AV.strip t28), (AV.strip t29)] S_5 fun t30 S_6 =>
 optK (binE .bool .neq t27 t30) fun t31 =>
 joinK (fun (x36 : AV) (S_8 : St) =>
 optK (pickA (AV.strip t31) (.bool true) x36) fun t37 =>
 ifK (AV.strip t37)
 (Q (.bool false) S_8)
 (optK (some c3) fun _ =>
 optK (lloadA T_int (some c3) 0) fun t39 =>
 optK (binA .neq (AV.strip t39) (.int .i64 2)) fun t40 =>
 joinK (fun (x44 : AV) (S_10 : St) =>
 optK (pickA (AV.strip t40) (.bool true) x44) fun t45 =>
 ifK (AV.strip t45)
 (Q (.bool true) S_10)
 (optK (lloadA T_api_Node (some c3) 0) fun t47 =>
 callK Ca F_tree_Find [(AV.strip t47), (.str a2)] S_10 fun t49 S_11 =>
 optK (extractA t49 0) fun t50 =>
 optK (extractA (stripTup t49 0) 1) fun t51 =>
 optK (lstoreA T_api_Node (some [(.int .i64 0), (.bool false), (.vs 1 [] .nil), (.vs 7 [] .nil), (.int .i64 0), (.vs 2 [] .nil), (.str [])]) 0 t50) fun b7 =>
 optK (lloadA T_api_Node (some c3) 0) fun t52 =>
 callK Ca F_ref04_Find [(AV.strip t52), (.str a2)] S_11 fun t54 S_12 =>
 optK (binA .lss (AV.strip t54) (.int .i64 0)) fun t56 =>
 ifK t56
 (optK (unA .not (AV.strip t51)) fun t58 =>
 joinK (fun (x62 : AV) (S_14 : St) =>
 optK (pickA (AV.strip t58) x62 (.bool false)) fun t63 =>
 Q (AV.strip t63) S_14) fun j_5 =>
 ifK (AV.strip t58)
 (optK (lloadA T_api_Node (some b7) 0) fun t60 =>
 callK Ca F_ref04_Same [(AV.strip t60), (.agg [(.int .i64 0), (.bool false), (.vs 1 [] .nil), (.vs 7 [] .nil), (.int .i64 0), (.vs 2 [] .nil), (.str [])])] S_12 fun t62 S_13 =>
 j_5 t62 S_13)
 (j_5 (.tup []) S_12))
 (joinK (fun (x72 : AV) (S_16 : St) =>
 optK (pickA (AV.strip (AV.strip t51)) x72 (.bool false)) fun t73 =>
 Q (AV.strip t73) S_16) fun j_6 =>
 ifK (AV.strip (AV.strip t51))
 (optK (lloadA T_api_Node (some b7) 0) fun t66 =>
 optK (some c3) fun _ =>
 optK (lloadA T_s_api_Node (some c3) 3) fun t68 =>
 optK (idxSlA T_api_Node (AV.strip t68) (AV.strip t54)) fun t70 =>
 optK (loadA T_api_Node S_12 t70) fun t71 =>
 callK Ca F_ref04_Same [(AV.strip t66), (AV.strip t71)] S_12 fun t72 S_15 =>
 j_6 t72 S_15)
 (j_6 (.tup []) S_12)))) fun j_4 =>
 ifK (AV.strip t40)
 (j_4 (.tup []) S_8)
 (optK (lloadA T_api_Node (some c3) 0) fun t42 =>
 callK Ca F_ref04_One [(AV.strip t42)] S_8 fun t43 S_9 =>
 optK (unA .not t43) fun t44 =>
 j_4 t44 S_9))) fun j_3 =>
 ifK (AV.strip t31)
 (j_3 (.tup []) S_6)
 (optK (lloadA T_api_Node (some c3) 0) fun t33 =>
 optK (lloadA T_api_Node (some c3) 0) fun t34 =>
 callK Ca F_tree_Same [(AV.strip t33), (AV.strip t34)] S_6 fun t35 S_7 =>
 optK (unA .not t35) fun t36 =>
 j_3 t36 S_7))) fun j =>
 ifK (AV.strip (AV.strip t19))
 (j (.tup []))
 (j (.bool (decide ((List.length a2 : Int) > 200))))) fun j_2 =>
 ifK (AV.strip t14)
 (j_2 (.tup []) S_2)
 (optK (lloadA T_api_Node (some c4) 0) fun t16 =>
 callK Ca F_law04_Small [(AV.strip t16)] S_2 fun t17 S_3 =>
 optK (binA .eql t17 (.int .i64 0)) fun t18 =>
 j_2 t18 S_3))
theorem law04_TreeSame_eq (Ca) (a0a : Int) (a0b : Bool) (a0c : List (List AV)) (a0cr : Rt) (a0d : List (List AV)) (a0dr : Rt) (a0e : Int) (a0f : List (List AV)) (a0fr : Rt) (a0g : List UInt8) (a1a : Int) (a1b : Bool) (a1c : List (List AV)) (a1cr : Rt) (a1d : List (List AV)) (a1dr : Rt) (a1e : Int) (a1f : List (List AV)) (a1fr : Rt) (a1g : List UInt8) (a2 : List UInt8) (S0 Q) : WF C Ca 9 (Drw C Ca 9) Tryd.f9 [(.agg [(.int .i64 a0a), (.bool a0b), (.vs 1 a0c a0cr), (.vs 7 a0d a0dr), (.int .i64 a0e), (.vs 2 a0f a0fr), (.str a0g)]), (.agg [(.int .i64 a1a), (.bool a1b), (.vs 1 a1c a1cr), (.vs 7 a1d a1dr), (.int .i64 a1e), (.vs 2 a1f a1fr), (.str a1g)]), (.str a2)] S0 Q = G_law04_TreeSame Ca a0a a0b a0c a0cr a0d a0dr a0e a0f a0fr a0g a1a a1b a1c a1cr a1d a1dr a1e a1f a1fr a1g a2 S0 Q := by kernel_rfl
theorem law04_TreeSame_ok {w0 : World} {a0a : Int} {a0b : Bool} {a0c : List (List AV)} {a0cr : Rt} {a0d : List (List AV)} {a0dr : Rt} {a0e : Int} {a0f : List (List AV)} {a0fr : Rt} {a0g : List UInt8} {a1a : Int} {a1b : Bool} {a1c : List (List AV)} {a1cr : Rt} {a1d : List (List AV)} {a1dr : Rt} {a1e : Int} {a1f : List (List AV)} {a1fr : Rt} {a1g : List UInt8} {a2 : List UInt8} {S0 : St} {Q : AV → St → Prop} (h : G_law04_TreeSame (ACalls (En w0)) a0a a0b a0c a0cr a0d a0dr a0e a0f a0fr a0g a1a a1b a1c a1cr a1d a1dr a1e a1f a1fr a1g a2 S0 Q) : AC w0 F_law04_TreeSame [(.agg [(.int .i64 a0a), (.bool a0b), (.vs 1 a0c a0cr), (.vs 7 a0d a0dr), (.int .i64 a0e), (.vs 2 a0f a0fr), (.str a0g)]), (.agg [(.int .i64 a1a), (.bool a1b), (.vs 1 a1c a1cr), (.vs 7 a1d a1dr), (.int .i64 a1e), (.vs 2 a1f a1fr), (.str a1g)]), (.str a2)] S0 Q := fn_ok w0 Tryd.func9 (by kernel_rfl) (by rw [law04_TreeSame_eq]; exact h)
def G_law04_TreeMakes (Ca : Nat → List AV → St → (AV → St → Prop) → Prop) (a0 : List UInt8) (a1 : List (List AV)) (a1r : Rt) (a2 : Int) (S0 : St) (Q : AV → St → Prop) : Prop :=
 Ca F_law04_speaks [] S0 fun t12 S =>
 optK (unA .not t12) fun t13 =>
 ifK t13
 (Q (.bool false) S)
 (joinK (fun (x20 : AV) =>
 optK (pickA (.bool (decide ((List.length a0 : Int) > 200))) (.bool true) x20) fun t21 =>
 ifK (AV.strip t21)
 (Q (.bool true) S)
 (Ca F_tree_Text [(.str a0)] S fun t23 S_2 =>
 optK (lstoreA T_api_Node (some [(.int .i64 0), (.bool false), (.vs 1 [] .nil), (.vs 7 [] .nil), (.int .i64 0), (.vs 2 [] .nil), (.str [])]) 0 t23) fun b7 =>
 optK (some b7) fun _ =>
 optK (lloadA T_int (some b7) 0) fun t25 =>
 optK (binA .neq (AV.strip t25) (.int .i64 1)) fun t26 =>
 joinK (fun (x32 : AV) =>
 optK (pickA (AV.strip t26) (.bool true) x32) fun t33 =>
 joinK (fun (x43 : AV) (S_4 : St) =>
 optK (pickA (AV.strip (AV.strip t33)) (.bool true) x43) fun t44 =>
 joinK (fun (x48 : AV) (S_6 : St) =>
 optK (pickA (AV.strip (AV.strip t44)) (.bool true) x48) fun t49 =>
 joinK (fun (x56 : AV) (S_9 : St) =>
 optK (pickA (AV.strip (AV.strip t49)) (.bool true) x56) fun t57 =>
 ifK (AV.strip t57)
 (Q (.bool false) S_9)
 (joinK (fun (x8 : AV) (S_12 : St) =>
 callK Ca F_tree_Dir [(.vs 1 a1 (Rt.strip a1r)), (AV.strip x8)] S_12 fun t69 S_13 =>
 optK (lstoreA T_api_Node (some [(.int .i64 0), (.bool false), (.vs 1 [] .nil), (.vs 7 [] .nil), (.int .i64 0), (.vs 2 [] .nil), (.str [])]) 0 t69) fun b9 =>
 optK (lloadA T_api_Node (some b9) 0) fun t70 =>
 optK (buildA T_api_Node 1 [(0, (.int .i64 2)), (2, (.vs 1 a1 (Rt.strip a1r))), (3, (AV.strip x8))]) fun t73 =>
 callK Ca F_ref04_Same [(AV.strip t70), t73] S_13 fun t74 S_14 =>
 optK (unA .not t74) fun t75 =>
 joinK (fun (x80 : AV) (S_16 : St) =>
 optK (pickA (AV.strip t75) (.bool true) x80) fun t81 =>
 joinK (fun (x84 : AV) =>
 optK (pickA (AV.strip (AV.strip t81)) (.bool true) x84) fun t85 =>
 joinK (fun (x91 : AV) (S_19 : St) =>
 optK (pickA (AV.strip (AV.strip t85)) (.bool true) x91) fun t92 =>
 ifK (AV.strip t92)
 (Q (.bool false) S_19)
 (Ca F_tree_Dir [(.vs 1 [] .nil), (.vs 7 [] .nil)] S_19 fun t93 S_20 =>
 optK (lstoreA T_api_Node (some [(.int .i64 0), (.bool false), (.vs 1 [] .nil), (.vs 7 [] .nil), (.int .i64 0), (.vs 2 [] .nil), (.str [])]) 0 t93) fun b10 =>
 joinK (fun (y10 : Option (List AV)) (S_23 : St) =>
 optK (lloadA T_api_Node y10 0) fun t105 =>
 callK Ca F_tree_Right [(AV.strip t105)] S_23 fun t106 S_24 =>
 optK (binE .bool .eql t106 (.bool (decide ((Int.tmod (IntKind.i64.wrap a2) 24) ≤ 15)))) fun t109 =>
 joinK (fun (x115 : AV) (S_26 : St) =>
 optK (pickA (AV.strip t109) x115 (.bool false)) fun t116 =>
 Q (AV.strip t116) S_26) fun j_9 =>
 ifK (AV.strip t109)
 (optK (lloadA T_api_Node y10 0) fun t111 =>
 callK Ca F_tree_Count [(AV.strip t111)] S_24 fun t112 S_25 =>
 optK (binA .eql t112 (.int .i64 (IntKind.i64.wrap ((Int.tmod (IntKind.i64.wrap a2) 24) + 1)))) fun t115 =>
 j_9 t115 S_25)
 (j_9 (.tup []) S_24)) fun j_10 =>
 loopQ ([(.int .i64 0)], [(some b10)]) (fun v_2 bx_2 => ([v_2 98], [bx_2 10])) (fun nx_2 v_2 bx_2 S_21 =>
 optK (binA .lss (v_2 98) (.int .i64 (Int.tmod (IntKind.i64.wrap a2) 24))) fun t99 =>
 ifK t99
 (optK (lloadA T_api_Node (bx_2 10) 0) fun t101 =>
 optK (elemVals 7 [(AV.strip t101)]) fun e102 =>
 Ca F_tree_Dir [(.vs 1 [[(.str [97])]] .full), (.vs 7 e102 .full)] S_21 fun t103 S_22 =>
 optK (lstoreA T_api_Node (bx_2 10) 0 t103) fun b10_2 =>
 optK (binA .add (v_2 98) (.int .i64 1)) fun t104 =>
 nx_2 ([(AV.strip t104)], [(some b10_2)]) S_22)
 (j_10 (bx_2 10) S_21)) S_20)) fun j_6 =>
 ifK (AV.strip (AV.strip t85))
 (j_6 (.tup []) S_16)
 (optK (lloadA T_api_Node (some b9) 0) fun t87 =>
 optK (lloadA T_api_Node (some b9) 0) fun t89 =>
 callK Ca F_tree_Right [(AV.strip t87)] S_16 fun t88 S_17 =>
 callK Ca F_ref04_Right [(AV.strip t89)] S_17 fun t90 S_18 =>
 optK (binE .bool .neq t88 t90) fun t91 =>
 j_6 t91 S_18)) fun j_7 =>
 ifK (AV.strip (AV.strip t81))
 (j_7 (.tup []))
 (optK (some b9) fun _ =>
 optK (lloadA T_bool (some b9) 1) fun t84 =>
 j_7 (AV.strip t84))) fun j_8 =>
 ifK (AV.strip t75)
 (j_8 (.tup []) S_14)
 (optK (lloadA T_api_Node (some b9) 0) fun t77 =>
 callK Ca F_tree_Opaque [(AV.strip t77)] S_14 fun t78 S_15 =>
 optK (partA T_bool t78 1) fun t79 =>
 optK (unA .not (AV.strip t79)) fun t80 =>
 j_8 t80 S_15)) fun j_11 =>
 loopQ ([(.vs 7 [] .nil), (.int .i64 0)], []) (fun v bx => ([v 8, v 60], [])) (fun nx v bx S_10 =>
 optK (binA .lss (v 60) (.int .i64 (List.length a1 : Int))) fun t61 =>
 ifK t61
 (Ca F_tree_White [] S_10 fun t63 S_11 =>
 optK (elemVals 7 [t63]) fun e64 =>
 optK (appendA T_api_Node S_11 (v 8) (.vs 7 e64 .full)) fun t65 =>
 optK (binA .add (v 60) (.int .i64 1)) fun t66 =>
 nx ([t65, (AV.strip t66)], []) S_11)
 (j_11 (v 8) S_10)) S_9)) fun j_2 =>
 ifK (AV.strip (AV.strip t49))
 (j_2 (.tup []) S_6)
 (Ca F_tree_Link [(.str a0)] S_6 fun t52 S_7 =>
 callK Ca F_ref04_Same [t52, (.agg [(.int .i64 3), (.bool false), (.vs 1 [] .nil), (.vs 7 [] .nil), (.int .i64 0), (.vs 2 [] .nil), (.str a0)])] S_7 fun t55 S_8 =>
 optK (unA .not t55) fun t56 =>
 j_2 t56 S_8)) fun j_3 =>
 ifK (AV.strip (AV.strip t44))
 (j_3 (.tup []) S_4)
 (optK (lloadA T_api_Node (some b7) 0) fun t46 =>
 callK Ca F_ref04_One [(AV.strip t46)] S_4 fun t47 S_5 =>
 optK (unA .not t47) fun t48 =>
 j_3 t48 S_5)) fun j_4 =>
 ifK (AV.strip (AV.strip t33))
 (j_4 (.tup []) S_2)
 (optK (some b7) fun _ =>
 optK (lloadA T_int (some b7) 4) fun t36 =>
 optK (some b7) fun _ =>
 optK (lloadA T_s_api_Extent (some b7) 5) fun t38 =>
 callK Ca F_ref03_Read [(AV.strip t36), (AV.strip t38), (.int .i64 0), (.int .i64 (List.length a0 : Int))] S_2 fun t41 S_3 =>
 optK (binA .neq t41 (.str a0)) fun t43 =>
 j_4 t43 S_3)) fun j_5 =>
 ifK (AV.strip t26)
 (j_5 (.tup []))
 (optK (some b7) fun _ =>
 optK (lloadA T_int (some b7) 4) fun t29 =>
 optK (binA .neq (AV.strip t29) (.int .i64 (List.length a0 : Int))) fun t32 =>
 j_5 t32))) fun j =>
 ifK (.bool (decide ((List.length a0 : Int) > 200)))
 (j (.tup []))
 (j (.bool (decide ((List.length a1 : Int) > 20)))))
theorem law04_TreeMakes_eq (Ca) (a0 : List UInt8) (a1 : List (List AV)) (a1r : Rt) (a2 : Int) (S0 Q) : WF C Ca 10 (Drw C Ca 10) Tryd.f10 [(.str a0), (.vs 1 a1 a1r), (.int .u8 a2)] S0 Q = G_law04_TreeMakes Ca a0 a1 a1r a2 S0 Q := by kernel_rfl
theorem law04_TreeMakes_ok {w0 : World} {a0 : List UInt8} {a1 : List (List AV)} {a1r : Rt} {a2 : Int} {S0 : St} {Q : AV → St → Prop} (h : G_law04_TreeMakes (ACalls (En w0)) a0 a1 a1r a2 S0 Q) : AC w0 F_law04_TreeMakes [(.str a0), (.vs 1 a1 a1r), (.int .u8 a2)] S0 Q := fn_ok w0 Tryd.func10 (by kernel_rfl) (by rw [law04_TreeMakes_eq]; exact h)
def G_law05_ImageEncodes (Ca : Nat → List AV → St → (AV → St → Prop) → Prop) (a0a : Int) (a0b : Bool) (a0c : List (List AV)) (a0cr : Rt) (a0d : List (List AV)) (a0dr : Rt) (a0e : Int) (a0f : List (List AV)) (a0fr : Rt) (a0g : List UInt8) (S0 : St) (Q : AV → St → Prop) : Prop :=
 optK (boxA T_api_Node (.agg [(.int .i64 a0a), (.bool a0b), (.vs 1 a0c a0cr), (.vs 7 a0d a0dr), (.int .i64 a0e), (.vs 2 a0f a0fr), (.str a0g)])) fun c1 =>
 Ca F_law05_speaks [] S0 fun t9 S =>
 optK (unA .not t9) fun t10 =>
 ifK t10
 (Q (.bool false) S)
 (optK (lloadA T_api_Node (some c1) 0) fun t11 =>
 callK Ca F_law04_Small [(AV.strip t11)] S fun t12 S_2 =>
 optK (binA .eql t12 (.int .i64 0)) fun t13 =>
 ifK t13
 (Q (.bool true) S_2)
 (optK (lloadA T_api_Node (some c1) 0) fun t15 =>
 callK Ca F_image_Encode [(AV.strip t15)] S_2 fun t16 S_3 =>
 optK (extractA t16 0) fun t17 =>
 optK (extractA (stripTup t16 0) 1) fun t18 =>
 optK (lloadA T_api_Node (some c1) 0) fun t20 =>
 callK Ca F_ref05_Encode [(AV.strip t20)] S_3 fun t21 S_4 =>
 optK (extractA t21 0) fun t22 =>
 optK (extractA (stripTup t21 0) 1) fun t23 =>
 optK (unA .not (AV.strip t23)) fun t25 =>
 ifK t25
 (optK (binA .eql (AV.strip t18) (.int .i64 1)) fun t27 =>
 joinK (fun (x30 : AV) =>
 optK (pickA (AV.strip t27) x30 (.bool false)) fun t31 =>
 Q (AV.strip t31) S_4) fun j =>
 ifK (AV.strip t27)
 (optK (binA .eql (AV.strip t17) (.str [])) fun t30 =>
 j t30)
 (j (.tup [])))
 (callK Ca F_image_Decode [(AV.strip t17)] S_4 fun t34 S_5 =>
 optK (extractA t34 0) fun t35 =>
 optK (extractA (stripTup t34 0) 1) fun t36 =>
 optK (lstoreA T_api_Node (some [(.int .i64 0), (.bool false), (.vs 1 [] .nil), (.vs 7 [] .nil), (.int .i64 0), (.vs 2 [] .nil), (.str [])]) 0 t35) fun b7 =>
 optK (binA .eql (AV.strip t18) (.int .i64 0)) fun t38 =>
 joinK (fun (x42 : AV) =>
 optK (pickA (AV.strip t38) x42 (.bool false)) fun t43 =>
 joinK (fun (x46 : AV) =>
 optK (pickA (AV.strip (AV.strip t43)) x46 (.bool false)) fun t47 =>
 joinK (fun (x51 : AV) (S_7 : St) =>
 optK (pickA (AV.strip (AV.strip t47)) x51 (.bool false)) fun t52 =>
 Q (AV.strip t52) S_7) fun j_2 =>
 ifK (AV.strip (AV.strip t47))
 (optK (lloadA T_api_Node (some b7) 0) fun t49 =>
 optK (lloadA T_api_Node (some c1) 0) fun t50 =>
 callK Ca F_ref04_Same [(AV.strip t49), (AV.strip t50)] S_5 fun t51 S_6 =>
 j_2 t51 S_6)
 (j_2 (.tup []) S_5)) fun j_3 =>
 ifK (AV.strip (AV.strip t43))
 (optK (binA .eql (AV.strip t36) (.int .i64 0)) fun t46 =>
 j_3 t46)
 (j_3 (.tup []))) fun j_4 =>
 ifK (AV.strip t38)
 (optK (binA .eql (AV.strip t17) (AV.strip t22)) fun t42 =>
 j_4 t42)
 (j_4 (.tup [])))))
theorem law05_ImageEncodes_eq (Ca) (a0a : Int) (a0b : Bool) (a0c : List (List AV)) (a0cr : Rt) (a0d : List (List AV)) (a0dr : Rt) (a0e : Int) (a0f : List (List AV)) (a0fr : Rt) (a0g : List UInt8) (S0 Q) : WF C Ca 11 (Drw C Ca 11) Tryd.f11 [(.agg [(.int .i64 a0a), (.bool a0b), (.vs 1 a0c a0cr), (.vs 7 a0d a0dr), (.int .i64 a0e), (.vs 2 a0f a0fr), (.str a0g)])] S0 Q = G_law05_ImageEncodes Ca a0a a0b a0c a0cr a0d a0dr a0e a0f a0fr a0g S0 Q := by kernel_rfl
theorem law05_ImageEncodes_ok {w0 : World} {a0a : Int} {a0b : Bool} {a0c : List (List AV)} {a0cr : Rt} {a0d : List (List AV)} {a0dr : Rt} {a0e : Int} {a0f : List (List AV)} {a0fr : Rt} {a0g : List UInt8} {S0 : St} {Q : AV → St → Prop} (h : G_law05_ImageEncodes (ACalls (En w0)) a0a a0b a0c a0cr a0d a0dr a0e a0f a0fr a0g S0 Q) : AC w0 F_law05_ImageEncodes [(.agg [(.int .i64 a0a), (.bool a0b), (.vs 1 a0c a0cr), (.vs 7 a0d a0dr), (.int .i64 a0e), (.vs 2 a0f a0fr), (.str a0g)])] S0 Q := fn_ok w0 Tryd.func11 (by kernel_rfl) (by rw [law05_ImageEncodes_eq]; exact h)
def G_law05_ImageDecodes (Ca : Nat → List AV → St → (AV → St → Prop) → Prop) (a0 : List UInt8) (S0 : St) (Q : AV → St → Prop) : Prop :=
 Ca F_law05_speaks [] S0 fun t9 S =>
 optK (unA .not t9) fun t10 =>
 ifK t10
 (Q (.bool false) S)
 (ifK (.bool (decide ((List.length a0 : Int) > 3000)))
 (Q (.bool true) S)
 (Ca F_image_Decode [(.str a0)] S fun t16 S_2 =>
 optK (extractA t16 0) fun t17 =>
 optK (extractA (stripTup t16 0) 1) fun t18 =>
 optK (lstoreA T_api_Node (some [(.int .i64 0), (.bool false), (.vs 1 [] .nil), (.vs 7 [] .nil), (.int .i64 0), (.vs 2 [] .nil), (.str [])]) 0 t17) fun b3 =>
 Ca F_ref05_Decode [(.str a0)] S_2 fun t21 S_3 =>
 optK (extractA t21 0) fun t22 =>
 optK (extractA (stripTup t21 0) 1) fun t23 =>
 optK (lstoreA T_api_Node (some [(.int .i64 0), (.bool false), (.vs 1 [] .nil), (.vs 7 [] .nil), (.int .i64 0), (.vs 2 [] .nil), (.str [])]) 0 t22) fun b5 =>
 optK (unA .not (AV.strip t23)) fun t25 =>
 ifK t25
 (optK (binA .eql (AV.strip t18) (.int .i64 1)) fun t27 =>
 joinK (fun (x31 : AV) (S_5 : St) =>
 optK (pickA (AV.strip t27) x31 (.bool false)) fun t32 =>
 Q (AV.strip t32) S_5) fun j =>
 ifK (AV.strip t27)
 (optK (lloadA T_api_Node (some b3) 0) fun t29 =>
 callK Ca F_ref04_Same [(AV.strip t29), (.agg [(.int .i64 0), (.bool false), (.vs 1 [] .nil), (.vs 7 [] .nil), (.int .i64 0), (.vs 2 [] .nil), (.str [])])] S_3 fun t31 S_4 =>
 j t31 S_4)
 (j (.tup []) S_3))
 (optK (lloadA T_api_Node (some b3) 0) fun t34 =>
 callK Ca F_image_Encode [(AV.strip t34)] S_3 fun t35 S_6 =>
 optK (extractA t35 0) fun t36 =>
 optK (extractA (stripTup t35 0) 1) fun t37 =>
 optK (binA .eql (AV.strip t18) (.int .i64 0)) fun t39 =>
 joinK (fun (x43 : AV) (S_8 : St) =>
 optK (pickA (AV.strip t39) x43 (.bool false)) fun t44 =>
 joinK (fun (x47 : AV) =>
 optK (pickA (AV.strip (AV.strip t44)) x47 (.bool false)) fun t48 =>
 joinK (fun (x52 : AV) =>
 optK (pickA (AV.strip (AV.strip t48)) x52 (.bool false)) fun t53 =>
 Q (AV.strip t53) S_8) fun j_2 =>
 ifK (AV.strip (AV.strip t48))
 (optK (binA .eql (AV.strip t36) (.str a0)) fun t52 =>
 j_2 t52)
 (j_2 (.tup []))) fun j_3 =>
 ifK (AV.strip (AV.strip t44))
 (optK (binA .eql (AV.strip t37) (.int .i64 0)) fun t47 =>
 j_3 t47)
 (j_3 (.tup []))) fun j_4 =>
 ifK (AV.strip t39)
 (optK (lloadA T_api_Node (some b3) 0) fun t41 =>
 optK (lloadA T_api_Node (some b5) 0) fun t42 =>
 callK Ca F_ref04_Same [(AV.strip t41), (AV.strip t42)] S_6 fun t43 S_7 =>
 j_4 t43 S_7)
 (j_4 (.tup []) S_6))))
theorem law05_ImageDecodes_eq (Ca) (a0 : List UInt8) (S0 Q) : WF C Ca 12 (Drw C Ca 12) Tryd.f12 [(.str a0)] S0 Q = G_law05_ImageDecodes Ca a0 S0 Q := by kernel_rfl
theorem law05_ImageDecodes_ok {w0 : World} {a0 : List UInt8} {S0 : St} {Q : AV → St → Prop} (h : G_law05_ImageDecodes (ACalls (En w0)) a0 S0 Q) : AC w0 F_law05_ImageDecodes [(.str a0)] S0 Q := fn_ok w0 Tryd.func12 (by kernel_rfl) (by rw [law05_ImageDecodes_eq]; exact h)
def G_law05_ImageCuts (Ca : Nat → List AV → St → (AV → St → Prop) → Prop) (a0a : Int) (a0b : Bool) (a0c : List (List AV)) (a0cr : Rt) (a0d : List (List AV)) (a0dr : Rt) (a0e : Int) (a0f : List (List AV)) (a0fr : Rt) (a0g : List UInt8) (a1 : Int) (a2 : List UInt8) (S0 : St) (Q : AV → St → Prop) : Prop :=
 optK (boxA T_api_Node (.agg [(.int .i64 a0a), (.bool a0b), (.vs 1 a0c a0cr), (.vs 7 a0d a0dr), (.int .i64 a0e), (.vs 2 a0f a0fr), (.str a0g)])) fun c3 =>
 Ca F_law05_speaks [] S0 fun t13 S =>
 optK (unA .not t13) fun t14 =>
 ifK t14
 (Q (.bool false) S)
 (optK (lloadA T_api_Node (some c3) 0) fun t15 =>
 callK Ca F_law04_Small [(AV.strip t15)] S fun t16 S_2 =>
 optK (binA .eql t16 (.int .i64 0)) fun t17 =>
 joinK (fun (x21 : AV) (S_4 : St) =>
 optK (pickA (AV.strip t17) (.bool true) x21) fun t22 =>
 joinK (fun (x26 : AV) =>
 optK (pickA (AV.strip (AV.strip t22)) (.bool true) x26) fun t27 =>
 ifK (AV.strip t27)
 (Q (.bool true) S_4)
 (optK (lloadA T_api_Node (some c3) 0) fun t29 =>
 callK Ca F_image_Encode [(AV.strip t29)] S_4 fun t30 S_5 =>
 optK (extractA t30 0) fun t31 =>
 optK (extractA (stripTup t30 0) 1) fun t32 =>
 optK (binA .neq (AV.strip t32) (.int .i64 0)) fun t34 =>
 joinK (fun (x37 : AV) =>
 optK (pickA (AV.strip t34) (.bool true) x37) fun t38 =>
 ifK (AV.strip t38)
 (Q (.bool false) S_5)
 (optK (lenStrA (AV.strip (AV.strip t31))) fun t44 =>
 optK (binA .rem (.int .i64 (IntKind.i64.wrap a1)) t44) fun t45 =>
 optK (cutStrA t31 none (some t45)) fun t46 =>
 callK Ca F_image_Decode [t46] S_5 fun t47 S_6 =>
 optK (extractA t47 0) fun t48 =>
 optK (extractA (stripTup t47 0) 1) fun t49 =>
 optK (lstoreA T_api_Node (some [(.int .i64 0), (.bool false), (.vs 1 [] .nil), (.vs 7 [] .nil), (.int .i64 0), (.vs 2 [] .nil), (.str [])]) 0 t48) fun b9 =>
 optK (binA .add (AV.strip (AV.strip t31)) (.str a2)) fun t53 =>
 callK Ca F_image_Decode [t53] S_6 fun t54 S_7 =>
 optK (extractA t54 0) fun t55 =>
 optK (extractA (stripTup t54 0) 1) fun t56 =>
 optK (lstoreA T_api_Node (some [(.int .i64 0), (.bool false), (.vs 1 [] .nil), (.vs 7 [] .nil), (.int .i64 0), (.vs 2 [] .nil), (.str [])]) 0 t55) fun b11 =>
 optK (binA .eql (AV.strip t49) (.int .i64 1)) fun t58 =>
 joinK (fun (x64 : AV) =>
 optK (pickA (AV.strip t58) x64 (.bool false)) fun t65 =>
 Q (AV.strip t65) S_7) fun j_4 =>
 ifK (AV.strip t58)
 (optK (binA .eql (AV.strip t56) (.int .i64 0)) fun t61 =>
 optK (binE .bool .eql t61 (.bool (a2 == []))) fun t64 =>
 j_4 t64)
 (j_4 (.tup [])))) fun j_3 =>
 ifK (AV.strip t34)
 (j_3 (.tup []))
 (optK (binA .eql (AV.strip t31) (.str [])) fun t37 =>
 j_3 t37))) fun j =>
 ifK (AV.strip (AV.strip t22))
 (j (.tup []))
 (j (.bool (decide ((List.length a2 : Int) > 100))))) fun j_2 =>
 ifK (AV.strip t17)
 (j_2 (.tup []) S_2)
 (optK (lloadA T_api_Node (some c3) 0) fun t19 =>
 callK Ca F_ref04_Right [(AV.strip t19)] S_2 fun t20 S_3 =>
 optK (unA .not t20) fun t21 =>
 j_2 t21 S_3))
theorem law05_ImageCuts_eq (Ca) (a0a : Int) (a0b : Bool) (a0c : List (List AV)) (a0cr : Rt) (a0d : List (List AV)) (a0dr : Rt) (a0e : Int) (a0f : List (List AV)) (a0fr : Rt) (a0g : List UInt8) (a1 : Int) (a2 : List UInt8) (S0 Q) : WF C Ca 13 (Drw C Ca 13) Tryd.f13 [(.agg [(.int .i64 a0a), (.bool a0b), (.vs 1 a0c a0cr), (.vs 7 a0d a0dr), (.int .i64 a0e), (.vs 2 a0f a0fr), (.str a0g)]), (.int .u16 a1), (.str a2)] S0 Q = G_law05_ImageCuts Ca a0a a0b a0c a0cr a0d a0dr a0e a0f a0fr a0g a1 a2 S0 Q := by kernel_rfl
theorem law05_ImageCuts_ok {w0 : World} {a0a : Int} {a0b : Bool} {a0c : List (List AV)} {a0cr : Rt} {a0d : List (List AV)} {a0dr : Rt} {a0e : Int} {a0f : List (List AV)} {a0fr : Rt} {a0g : List UInt8} {a1 : Int} {a2 : List UInt8} {S0 : St} {Q : AV → St → Prop} (h : G_law05_ImageCuts (ACalls (En w0)) a0a a0b a0c a0cr a0d a0dr a0e a0f a0fr a0g a1 a2 S0 Q) : AC w0 F_law05_ImageCuts [(.agg [(.int .i64 a0a), (.bool a0b), (.vs 1 a0c a0cr), (.vs 7 a0d a0dr), (.int .i64 a0e), (.vs 2 a0f a0fr), (.str a0g)]), (.int .u16 a1), (.str a2)] S0 Q := fn_ok w0 Tryd.func13 (by kernel_rfl) (by rw [law05_ImageCuts_eq]; exact h)
def G_law08_SeenOne (Ca : Nat → List AV → St → (AV → St → Prop) → Prop) (a0a : Int) (a0b : Bool) (a0c : List (List AV)) (a0cr : Rt) (a0d : List (List AV)) (a0dr : Rt) (a0e : Int) (a0f : List (List AV)) (a0fr : Rt) (a0g : List UInt8) (a1 : List (List AV)) (a1r : Rt) (a2 : List UInt8) (S0 : St) (Q : AV → St → Prop) : Prop :=
 optK (boxA T_api_Node (.agg [(.int .i64 a0a), (.bool a0b), (.vs 1 a0c a0cr), (.vs 7 a0d a0dr), (.int .i64 a0e), (.vs 2 a0f a0fr), (.str a0g)])) fun c3 =>
 Ca F_law08_speaks [] S0 fun t18 S =>
 optK (unA .not t18) fun t19 =>
 ifK t19
 (Q (.bool false) S)
 (optK (lloadA T_api_Node (some c3) 0) fun t23 =>
 optK (elemVals 7 [(AV.strip t23)]) fun e24 =>
 optK (appendA T_api_Node S (.vs 7 [] .full) (.vs 7 a1 (Rt.strip a1r))) fun t22 =>
 optK (appendA T_api_Node S t22 (.vs 7 e24 .full)) fun t25 =>
 callK Ca F_law08_May [(AV.strip t25)] S fun t27 S_2 =>
 optK (binA .eql t27 (.int .i64 0)) fun t28 =>
 joinK (fun (x32 : AV) =>
 optK (pickA (AV.strip t28) (.bool true) x32) fun t33 =>
 ifK (AV.strip t33)
 (Q (.bool true) S_2)
 (callK Ca F_law08_Stack [(AV.strip t25)] S_2 fun t36 S_3 =>
 optK (extractA t36 0) fun t37 =>
 optK (extractA (stripTup t36 0) 1) fun t38 =>
 optK (lstoreA T_stack_Stack (some [(.vs 2 [] .nil), (.int .i64 0)]) 0 t37) fun b8 =>
 Ca F_law08_Stack [(.vs 7 a1 (Rt.strip (Rt.strip a1r)))] S_3 fun t41 S_4 =>
 optK (extractA t41 0) fun t42 =>
 optK (extractA (stripTup t41 0) 1) fun t43 =>
 optK (lstoreA T_stack_Stack (some [(.vs 2 [] .nil), (.int .i64 0)]) 0 t42) fun b10 =>
 optK (unA .not (AV.strip t38)) fun t45 =>
 joinK (fun (x48 : AV) =>
 optK (pickA (AV.strip t45) (.bool true) x48) fun t49 =>
 ifK (AV.strip t49)
 (Q (.bool false) S_4)
 (optK (lloadA T_api_Node (some c3) 0) fun t50 =>
 callK Ca F_ref04_Find [(AV.strip t50), (.str a2)] S_4 fun t52 S_5 =>
 optK (lloadA T_stack_Stack (some b8) 0) fun t54 =>
 optK (lloadA T_stack_Stack (some b8) 0) fun t55 =>
 callK Ca F_seen_Root [(AV.strip t55)] S_5 fun t56 S_6 =>
 callK Ca F_seen_Look [(AV.strip t54), t56, (.str a2)] S_6 fun t58 S_7 =>
 optK (extractA t58 0) fun t59 =>
 optK (extractA (stripTup t58 0) 1) fun t60 =>
 optK (lstoreA T_seen_Found (some [(.int .i64 0), (.int .i64 0), (.int .i64 0), (.vs 2 [] .nil)]) 0 t59) fun b13 =>
 optK (lloadA T_stack_Stack (some b10) 0) fun t62 =>
 optK (lloadA T_stack_Stack (some b10) 0) fun t63 =>
 callK Ca F_seen_Root [(AV.strip t63)] S_7 fun t64 S_8 =>
 callK Ca F_seen_Look [(AV.strip t62), t64, (.str a2)] S_8 fun t66 S_9 =>
 optK (extractA t66 0) fun t67 =>
 optK (extractA (stripTup t66 0) 1) fun t68 =>
 optK (lstoreA T_seen_Found (some [(.int .i64 0), (.int .i64 0), (.int .i64 0), (.vs 2 [] .nil)]) 0 t67) fun b15 =>
 optK (binA .lss (AV.strip t52) (.int .i64 0)) fun t71 =>
 joinK (fun (x74 : AV) =>
 optK (pickA (AV.strip t71) x74 (.bool false)) fun t75 =>
 ifK (AV.strip t75)
 (optK (unA .not (AV.strip t60)) fun t77 =>
 Q t77 S_9)
 (optK (binA .lss (AV.strip t52) (.int .i64 0)) fun t80 =>
 ifK t80
 (optK (binE .bool .eql (AV.strip t60) (AV.strip t68)) fun t83 =>
 joinK (fun (x89 : AV) =>
 optK (pickA (AV.strip t83) x89 (.bool false)) fun t90 =>
 joinK (fun (x98 : AV) =>
 optK (pickA (AV.strip (AV.strip t90)) x98 (.bool false)) fun t99 =>
 joinK (fun (x121 : AV) =>
 optK (pickA (AV.strip (AV.strip t99)) x121 (.bool false)) fun t122 =>
 Q (AV.strip t122) S_9) fun j_5 =>
 ifK (AV.strip (AV.strip t99))
 (optK (unA .not (AV.strip t60)) fun t102 =>
 joinK (fun (x120 : AV) =>
 optK (pickA (AV.strip t102) (.bool true) x120) fun t121 =>
 j_5 (AV.strip t121)) fun j_4 =>
 gK (AV.strip t102)
 (j_4 (.tup []))
 (optK (some b13) fun _ =>
 optK (some b13) fun _ =>
 optK (lloadA T_int (some b13) 1) fun t106 =>
 optK (some b15) fun _ =>
 optK (some b15) fun _ =>
 optK (lloadA T_int (some b15) 1) fun t109 =>
 optK (binA .add (AV.strip t109) (.int .i64 1)) fun t110 =>
 optK (binA .eql (AV.strip t106) t110) fun t111 =>
 joinK (fun (x119 : AV) =>
 optK (pickA (AV.strip t111) x119 (.bool false)) fun t120 =>
 j_4 (AV.strip t120)) fun j_3 =>
 gK (AV.strip t111)
 (optK (some b13) fun _ =>
 optK (some b13) fun _ =>
 optK (lloadA T_int (some b13) 2) fun t115 =>
 optK (some b15) fun _ =>
 optK (some b15) fun _ =>
 optK (lloadA T_int (some b15) 2) fun t118 =>
 optK (binA .eql (AV.strip t115) (AV.strip t118)) fun t119 =>
 j_3 t119)
 (j_3 (.tup []))
 (j_3 (.tup [])))
 (j_4 (.tup [])))
 (j_5 (.tup []))) fun j_6 =>
 ifK (AV.strip (AV.strip t90))
 (optK (some b13) fun _ =>
 optK (lloadA T_seen_Place (some b13) 3) fun t93 =>
 optK (lenSlA (AV.strip t93)) fun t94 =>
 optK (some b15) fun _ =>
 optK (lloadA T_seen_Place (some b15) 3) fun t96 =>
 optK (lenSlA (AV.strip t96)) fun t97 =>
 optK (binA .eql t94 t97) fun t98 =>
 j_6 t98)
 (j_6 (.tup []))) fun j_7 =>
 ifK (AV.strip t83)
 (optK (some b13) fun _ =>
 optK (lloadA T_int (some b13) 0) fun t86 =>
 optK (some b15) fun _ =>
 optK (lloadA T_int (some b15) 0) fun t88 =>
 optK (binA .eql (AV.strip t86) (AV.strip t88)) fun t89 =>
 j_7 t89)
 (j_7 (.tup [])))
 (optK (some c3) fun _ =>
 optK (lloadA T_s_api_Node (some c3) 3) fun t125 =>
 optK (idxSlA T_api_Node (AV.strip t125) (AV.strip t52)) fun t127 =>
 optK (movePtr t127 0) fun t128 =>
 optK (loadA T_int S_9 t128) fun t129 =>
 optK (binA .eql (AV.strip t129) (.int .i64 4)) fun t130 =>
 ifK t130
 (optK (unA .not (AV.strip t60)) fun t132 =>
 Q t132 S_9)
 (optK (some c3) fun _ =>
 optK (lloadA T_s_api_Node (some c3) 3) fun t135 =>
 optK (idxSlA T_api_Node (AV.strip t135) (AV.strip t52)) fun t137 =>
 optK (movePtr t137 0) fun t138 =>
 optK (loadA T_int S_9 t138) fun t139 =>
 optK (binA .neq (AV.strip t139) (.int .i64 2)) fun t140 =>
 joinK (fun (x147 : AV) =>
 optK (pickA (AV.strip t140) (.bool true) x147) fun t148 =>
 joinK (fun (x151 : AV) =>
 optK (pickA (AV.strip (AV.strip t148)) (.bool true) x151) fun t152 =>
 ifK (AV.strip t152)
 (joinK (fun (x163 : AV) =>
 optK (pickA (AV.strip (AV.strip t60)) x163 (.bool false)) fun t164 =>
 joinK (fun (x169 : AV) =>
 optK (pickA (AV.strip (AV.strip t164)) x169 (.bool false)) fun t170 =>
 joinK (fun (x175 : AV) =>
 optK (pickA (AV.strip (AV.strip t170)) x175 (.bool false)) fun t176 =>
 Q (AV.strip t176) S_9) fun j_8 =>
 ifK (AV.strip (AV.strip t170))
 (optK (some b13) fun _ =>
 optK (lloadA T_seen_Place (some b13) 3) fun t173 =>
 optK (lenSlA (AV.strip t173)) fun t174 =>
 optK (binA .leq t174 (.int .i64 1)) fun t175 =>
 j_8 t175)
 (j_8 (.tup []))) fun j_9 =>
 ifK (AV.strip (AV.strip t164))
 (optK (some b13) fun _ =>
 optK (some b13) fun _ =>
 optK (lloadA T_int (some b13) 1) fun t168 =>
 optK (binA .eql (AV.strip t168) (.int .i64 0)) fun t169 =>
 j_9 t169)
 (j_9 (.tup []))) fun j_10 =>
 ifK (AV.strip (AV.strip t60))
 (optK (some b13) fun _ =>
 optK (lloadA T_int (some b13) 0) fun t156 =>
 optK (some c3) fun _ =>
 optK (lloadA T_s_api_Node (some c3) 3) fun t158 =>
 optK (idxSlA T_api_Node (AV.strip t158) (AV.strip t52)) fun t160 =>
 optK (movePtr t160 0) fun t161 =>
 optK (loadA T_int S_9 t161) fun t162 =>
 optK (binA .eql (AV.strip t156) (AV.strip t162)) fun t163 =>
 j_10 t163)
 (j_10 (.tup [])))
 (joinK (fun (x17 : AV) =>
 joinK (fun (x190 : AV) =>
 optK (pickA (AV.strip (AV.strip t60)) x190 (.bool false)) fun t191 =>
 joinK (fun (x196 : AV) =>
 optK (pickA (AV.strip (AV.strip t191)) x196 (.bool false)) fun t197 =>
 joinK (fun (x204 : AV) =>
 optK (pickA (AV.strip (AV.strip t197)) x204 (.bool false)) fun t205 =>
 Q (AV.strip t205) S_9) fun j_15 =>
 ifK (AV.strip (AV.strip t197))
 (optK (some b13) fun _ =>
 optK (lloadA T_seen_Place (some b13) 3) fun t200 =>
 optK (lenSlA (AV.strip t200)) fun t201 =>
 optK (binA .add (.int .i64 1) (AV.strip x17)) fun t203 =>
 optK (binA .eql t201 t203) fun t204 =>
 j_15 t204)
 (j_15 (.tup []))) fun j_16 =>
 ifK (AV.strip (AV.strip t191))
 (optK (some b13) fun _ =>
 optK (some b13) fun _ =>
 optK (lloadA T_int (some b13) 1) fun t195 =>
 optK (binA .eql (AV.strip t195) (.int .i64 0)) fun t196 =>
 j_16 t196)
 (j_16 (.tup []))) fun j_17 =>
 ifK (AV.strip (AV.strip t60))
 (optK (some b13) fun _ =>
 optK (lloadA T_int (some b13) 0) fun t189 =>
 optK (binA .eql (AV.strip t189) (.int .i64 2)) fun t190 =>
 j_17 t190)
 (j_17 (.tup []))) fun j_18 =>
 joinK (fun (x181 : AV) =>
 optK (pickA (AV.strip (AV.strip t68)) x181 (.bool false)) fun t182 =>
 ifK (AV.strip t182)
 (optK (some b15) fun _ =>
 optK (lloadA T_seen_Place (some b15) 3) fun t184 =>
 optK (lenSlA (AV.strip t184)) fun t185 =>
 j_18 t185)
 (j_18 (.int .i64 0))) fun j_14 =>
 ifK (AV.strip (AV.strip t68))
 (optK (some b15) fun _ =>
 optK (lloadA T_int (some b15) 0) fun t180 =>
 optK (binA .eql (AV.strip t180) (.int .i64 2)) fun t181 =>
 j_14 t181)
 (j_14 (.tup [])))) fun j_11 =>
 ifK (AV.strip (AV.strip t148))
 (j_11 (.tup []))
 (optK (some c3) fun _ =>
 optK (lloadA T_bool (some c3) 1) fun t151 =>
 j_11 (AV.strip t151))) fun j_12 =>
 ifK (AV.strip t140)
 (j_12 (.tup []))
 (optK (some c3) fun _ =>
 optK (lloadA T_s_api_Node (some c3) 3) fun t143 =>
 optK (idxSlA T_api_Node (AV.strip t143) (AV.strip t52)) fun t145 =>
 optK (movePtr t145 1) fun t146 =>
 optK (loadA T_bool S_9 t146) fun t147 =>
 j_12 (AV.strip t147)))))) fun j_13 =>
 ifK (AV.strip t71)
 (optK (some c3) fun _ =>
 optK (lloadA T_bool (some c3) 1) fun t74 =>
 j_13 (AV.strip t74))
 (j_13 (.tup [])))) fun j_2 =>
 ifK (AV.strip t45)
 (j_2 (.tup []))
 (optK (unA .not (AV.strip t43)) fun t48 =>
 j_2 t48))) fun j =>
 ifK (AV.strip t28)
 (j (.tup []))
 (j (.bool (decide ((List.length a2 : Int) > 100)))))
theorem law08_SeenOne_eq (Ca) (a0a : Int) (a0b : Bool) (a0c : List (List AV)) (a0cr : Rt) (a0d : List (List AV)) (a0dr : Rt) (a0e : Int) (a0f : List (List AV)) (a0fr : Rt) (a0g : List UInt8) (a1 : List (List AV)) (a1r : Rt) (a2 : List UInt8) (S0 Q) : WF C Ca 14 (Drw C Ca 14) Tryd.f14 [(.agg [(.int .i64 a0a), (.bool a0b), (.vs 1 a0c a0cr), (.vs 7 a0d a0dr), (.int .i64 a0e), (.vs 2 a0f a0fr), (.str a0g)]), (.vs 7 a1 a1r), (.str a2)] S0 Q = G_law08_SeenOne Ca a0a a0b a0c a0cr a0d a0dr a0e a0f a0fr a0g a1 a1r a2 S0 Q := by kernel_rfl
theorem law08_SeenOne_ok {w0 : World} {a0a : Int} {a0b : Bool} {a0c : List (List AV)} {a0cr : Rt} {a0d : List (List AV)} {a0dr : Rt} {a0e : Int} {a0f : List (List AV)} {a0fr : Rt} {a0g : List UInt8} {a1 : List (List AV)} {a1r : Rt} {a2 : List UInt8} {S0 : St} {Q : AV → St → Prop} (h : G_law08_SeenOne (ACalls (En w0)) a0a a0b a0c a0cr a0d a0dr a0e a0f a0fr a0g a1 a1r a2 S0 Q) : AC w0 F_law08_SeenOne [(.agg [(.int .i64 a0a), (.bool a0b), (.vs 1 a0c a0cr), (.vs 7 a0d a0dr), (.int .i64 a0e), (.vs 2 a0f a0fr), (.str a0g)]), (.vs 7 a1 a1r), (.str a2)] S0 Q := fn_ok w0 Tryd.func14 (by kernel_rfl) (by rw [law08_SeenOne_eq]; exact h)
def G_law01_speaks (Ca : Nat → List AV → St → (AV → St → Prop) → Prop) (S0 : St) (Q : AV → St → Prop) : Prop :=
 Ca F_name_Split [(.str [97, 47, 47, 46, 47, 98, 47, 46, 46, 47, 99])] S0 fun t5 S =>
 optK (extractA t5 0) fun t6 =>
 optK (extractA (stripTup t5 0) 1) fun t7 =>
 optK (extractA (stripTup (stripTup t5 0) 1) 2) fun t8 =>
 optK (binA .eql (AV.strip t8) (.int .i64 0)) fun t10 =>
 joinK (fun (x13 : AV) =>
 optK (pickA (AV.strip t10) x13 (.bool false)) fun t14 =>
 joinK (fun (x18 : AV) (S_3 : St) =>
 optK (pickA (AV.strip (AV.strip t14)) x18 (.bool false)) fun t19 =>
 joinK (fun (x21 : AV) (S_5 : St) =>
 optK (pickA (AV.strip (AV.strip t19)) x21 (.bool false)) fun t22 =>
 joinK (fun (x25 : AV) (S_7 : St) =>
 optK (pickA (AV.strip (AV.strip t22)) x25 (.bool false)) fun t26 =>
 joinK (fun (x29 : AV) (S_9 : St) =>
 optK (pickA (AV.strip (AV.strip t26)) x29 (.bool false)) fun t30 =>
 joinK (fun (x33 : AV) (S_11 : St) =>
 optK (pickA (AV.strip (AV.strip t30)) x33 (.bool false)) fun t34 =>
 Q (AV.strip t34) S_11) fun j =>
 ifK (AV.strip (AV.strip t30))
 (Ca F_name_Parent [(.str [47, 97, 47, 98])] S_9 fun t32 S_10 =>
 optK (binA .eql t32 (.str [47, 97])) fun t33 =>
 j t33 S_10)
 (j (.tup []) S_9)) fun j_2 =>
 ifK (AV.strip (AV.strip t26))
 (Ca F_name_Child [(.str [47]), (.str [97])] S_7 fun t28 S_8 =>
 optK (binA .eql t28 (.str [47, 97])) fun t29 =>
 j_2 t29 S_8)
 (j_2 (.tup []) S_7)) fun j_3 =>
 ifK (AV.strip (AV.strip t22))
 (Ca F_name_Right [(.str [46, 46])] S_5 fun t24 S_6 =>
 optK (unA .not t24) fun t25 =>
 j_3 t25 S_6)
 (j_3 (.tup []) S_5)) fun j_4 =>
 ifK (AV.strip (AV.strip t19))
 (Ca F_name_Right [(.str [97])] S_3 fun t21 S_4 =>
 j_4 t21 S_4)
 (j_4 (.tup []) S_3)) fun j_5 =>
 ifK (AV.strip (AV.strip t14))
 (callK Ca F_ref01_Same [(AV.strip t6), (.vs 1 [[(.str [97])], [(.str [98])], [(.str [46, 46])], [(.str [99])]] .full)] S fun t18 S_2 =>
 j_5 t18 S_2)
 (j_5 (.tup []) S)) fun j_6 =>
 ifK (AV.strip t10)
 (optK (unA .not (AV.strip t7)) fun t13 =>
 j_6 t13)
 (j_6 (.tup []))
theorem law01_speaks_eq (Ca) (S0 Q) : WF C Ca 15 (Drw C Ca 15) Tryd.f15 [] S0 Q = G_law01_speaks Ca  S0 Q := by kernel_rfl
theorem law01_speaks_ok {w0 : World} {S0 : St} {Q : AV → St → Prop} (h : G_law01_speaks (ACalls (En w0))  S0 Q) : AC w0 F_law01_speaks [] S0 Q := fn_ok w0 Tryd.func15 (by kernel_rfl) (by rw [law01_speaks_eq]; exact h)
def G_name_Split (Ca : Nat → List AV → St → (AV → St → Prop) → Prop) (a0 : List UInt8) (S0 : St) (Q : AV → St → Prop) : Prop :=
 joinK (fun (x12 : AV) =>
 optK (pickA (.bool (a0 == [])) (.bool true) x12) fun t13 =>
 ifK (AV.strip t13)
 (Q (.tup [(.vs 1 [] .nil), (.bool false), (.int .i64 1)]) S0)
 (joinK (fun (x2_2 : AV) (S_6 : St) =>
 optK (charA (.str a0) (.int .i64 0)) fun t42 =>
 optK (binA .eql t42 (.int .u8 47)) fun t43 =>
 Q (.tup [(AV.flat (AV.strip x2_2)), (AV.flat t43), (.int .i64 0)]) S_6) fun j_5 =>
 Ca F_strings_Split [(.str a0), (.str [47])] S0 fun t15 S =>
 optK (lenSlA t15) fun t16 =>
 loopQ ([(.vs 1 [] .nil), (.int .i64 0)], []) (fun v bx => ([v 2, v 17], [])) (fun nx v bx S_2 =>
 optK (binA .lss (v 17) t16) fun t18 =>
 ifK t18
 (joinK (fun (x2 : AV) (S_5 : St) =>
 optK (binA .add (v 17) (.int .i64 1)) fun t39 =>
 nx ([x2, (AV.strip t39)], []) S_5) fun j_4 =>
 optK (idxSlA T_string t15 (v 17)) fun t19 =>
 optK (loadA T_string S_2 t19) fun t20 =>
 optK (binA .eql (AV.strip (AV.strip t20)) (.str [])) fun t23 =>
 joinK (fun (x26 : AV) =>
 optK (pickA (AV.strip t23) (.bool true) x26) fun t27 =>
 ifK (AV.strip t27)
 (j_4 (v 2) S_2)
 (optK (binA .eql (AV.strip (AV.strip t20)) (.str [46, 46])) fun t30 =>
 joinK (fun (x33 : AV) (S_4 : St) =>
 optK (pickA (AV.strip t30) (.bool true) x33) fun t34 =>
 ifK (AV.strip t34)
 (optK (elemVals 1 [(AV.strip (AV.strip t20))]) fun e37 =>
 optK (appendA T_string S_4 (v 2) (.vs 1 e37 .full)) fun t38 =>
 j_4 t38 S_4)
 (Q (.tup [(.vs 1 [] .nil), (.bool false), (.int .i64 1)]) S_4)) fun j_2 =>
 ifK (AV.strip t30)
 (j_2 (.tup []) S_2)
 (callK Ca F_name_Right [(AV.strip (AV.strip t20))] S_2 fun t33 S_3 =>
 j_2 t33 S_3))) fun j_3 =>
 ifK (AV.strip t23)
 (j_3 (.tup []))
 (optK (binA .eql (AV.strip (AV.strip t20)) (.str [46])) fun t26 =>
 j_3 t26))
 (j_5 (v 2) S_2)) S)) fun j =>
 ifK (.bool (a0 == []))
 (j (.tup []))
 (j (.bool (decide ((List.length a0 : Int) > 1024))))
theorem name_Split_eq (Ca) (a0 : List UInt8) (S0 Q) : WF C Ca 16 (Drw C Ca 16) Tryd.f16 [(.str a0)] S0 Q = G_name_Split Ca a0 S0 Q := by kernel_rfl
theorem name_Split_ok {w0 : World} {a0 : List UInt8} {S0 : St} {Q : AV → St → Prop} (h : G_name_Split (ACalls (En w0)) a0 S0 Q) : AC w0 F_name_Split [(.str a0)] S0 Q := fn_ok w0 Tryd.func16 (by kernel_rfl) (by rw [name_Split_eq]; exact h)
def G_ref01_Split (Ca : Nat → List AV → St → (AV → St → Prop) → Prop) (a0 : List UInt8) (S0 : St) (Q : AV → St → Prop) : Prop :=
 joinK (fun (x14 : AV) =>
 optK (pickA (.bool (decide ((List.length a0 : Int) < 1))) (.bool true) x14) fun t15 =>
 ifK (AV.strip t15)
 (Q (.tup [(.vs 1 [] .nil), (.bool false)]) S0)
 (joinK (fun (x4_2 : AV) (S_5 : St) =>
 Q (.tup [(AV.flat (AV.strip x4_2)), (.bool true)]) S_5) fun j_6 =>
 loopQ ([(.str a0), (.vs 1 [] .full), (.int .i64 0), (.int .i64 0)], []) (fun v bx => ([v 0, v 4, v 5, v 6], [])) (fun nx v bx S =>
 optK (lenStrA (AV.strip (v 0))) fun t19 =>
 optK (binA .leq (AV.strip (v 6)) t19) fun t20 =>
 ifK t20
 (joinK (fun (x0 : AV) (x4 : AV) (x5 : AV) (S_4 : St) =>
 optK (binA .add (AV.strip (v 6)) (.int .i64 1)) fun t22 =>
 nx ([x0, x4, x5, t22], []) S_4) fun j_5 =>
 optK (lenStrA (AV.strip (v 0))) fun t25 =>
 optK (binA .lss (AV.strip (v 6)) t25) fun t26 =>
 joinK (fun (x31 : AV) =>
 optK (pickA (AV.strip t26) x31 (.bool false)) fun t32 =>
 ifK (AV.strip t32)
 (j_5 (v 0) (v 4) (v 5) S)
 (optK (cutStrA (v 0) (some (AV.strip (v 5))) (some (AV.strip (v 6)))) fun t36 =>
 optK (binA .add (AV.strip (v 6)) (.int .i64 1)) fun t38 =>
 optK (binA .eql (AV.strip t36) (.str [])) fun t40 =>
 joinK (fun (x43 : AV) =>
 optK (pickA (AV.strip t40) (.bool true) x43) fun t44 =>
 ifK (AV.strip t44)
 (j_5 (AV.strip (v 0)) (v 4) t38 S)
 (optK (binA .neq (AV.strip t36) (.str [46, 46])) fun t46 =>
 joinK (fun (x50 : AV) (S_3 : St) =>
 optK (pickA (AV.strip t46) x50 (.bool false)) fun t51 =>
 ifK (AV.strip t51)
 (Q (.tup [(.vs 1 [] .nil), (.bool false)]) S_3)
 (optK (elemVals 1 [(AV.strip t36)]) fun e54 =>
 optK (appendA T_string S_3 (v 4) (.vs 1 e54 .full)) fun t55 =>
 j_5 (AV.strip (v 0)) t55 t38 S_3)) fun j_4 =>
 ifK (AV.strip t46)
 (callK Ca F_ref01_Right [(AV.strip t36)] S fun t49 S_2 =>
 optK (unA .not t49) fun t50 =>
 j_4 t50 S_2)
 (j_4 (.tup []) S))) fun j_3 =>
 ifK (AV.strip t40)
 (j_3 (.tup []))
 (optK (binA .eql (AV.strip t36) (.str [46])) fun t43 =>
 j_3 t43))) fun j_2 =>
 ifK (AV.strip t26)
 (optK (charA (AV.strip (v 0)) (AV.strip (v 6))) fun t30 =>
 optK (binA .neq t30 (.int .u8 47)) fun t31 =>
 j_2 t31)
 (j_2 (.tup [])))
 (j_6 (v 4) S)) S0)) fun j =>
 ifK (.bool (decide ((List.length a0 : Int) < 1)))
 (j (.tup []))
 (j (.bool (decide ((List.length a0 : Int) > 1024))))
theorem ref01_Split_eq (Ca) (a0 : List UInt8) (S0 Q) : WF C Ca 17 (Drw C Ca 17) Tryd.f17 [(.str a0)] S0 Q = G_ref01_Split Ca a0 S0 Q := by kernel_rfl
theorem ref01_Split_ok {w0 : World} {a0 : List UInt8} {S0 : St} {Q : AV → St → Prop} (h : G_ref01_Split (ACalls (En w0)) a0 S0 Q) : AC w0 F_ref01_Split [(.str a0)] S0 Q := fn_ok w0 Tryd.func17 (by kernel_rfl) (by rw [ref01_Split_eq]; exact h)
def G_ref01_Same (Ca : Nat → List AV → St → (AV → St → Prop) → Prop) (a0 : List (List AV)) (a0r : Rt) (a1 : List (List AV)) (a1r : Rt) (S0 : St) (Q : AV → St → Prop) : Prop :=
 ifK (.bool ((List.length a0 : Int) != (List.length a1 : Int)))
 (Q (.bool false) S0)
 (joinK (fun (S_2 : St) =>
 Q (.bool true) S_2) fun j =>
 loopQ ([(.int .i64 0)], []) (fun v bx => ([v 5], [])) (fun nx v bx S =>
 optK (binA .lss (AV.strip (v 5)) (.int .i64 (List.length a0 : Int))) fun t14 =>
 ifK t14
 (optK (idxSlA T_string (.vs 1 a0 (Rt.strip a0r)) (AV.strip (v 5))) fun t19 =>
 optK (loadA T_string S t19) fun t20 =>
 optK (idxSlA T_string (.vs 1 a1 (Rt.strip a1r)) (AV.strip (v 5))) fun t23 =>
 optK (loadA T_string S t23) fun t24 =>
 optK (binA .neq (AV.strip t20) (AV.strip t24)) fun t25 =>
 ifK t25
 (Q (.bool false) S)
 (optK (binA .add (AV.strip (v 5)) (.int .i64 1)) fun t16 =>
 nx ([t16], []) S))
 (j S)) S0)
theorem ref01_Same_eq (Ca) (a0 : List (List AV)) (a0r : Rt) (a1 : List (List AV)) (a1r : Rt) (S0 Q) : WF C Ca 18 (Drw C Ca 18) Tryd.f18 [(.vs 1 a0 a0r), (.vs 1 a1 a1r)] S0 Q = G_ref01_Same Ca a0 a0r a1 a1r S0 Q := by kernel_rfl
theorem ref01_Same_ok {w0 : World} {a0 : List (List AV)} {a0r : Rt} {a1 : List (List AV)} {a1r : Rt} {S0 : St} {Q : AV → St → Prop} (h : G_ref01_Same (ACalls (En w0)) a0 a0r a1 a1r S0 Q) : AC w0 F_ref01_Same [(.vs 1 a0 a0r), (.vs 1 a1 a1r)] S0 Q := fn_ok w0 Tryd.func18 (by kernel_rfl) (by rw [ref01_Same_eq]; exact h)
def G_name_Right (Ca : Nat → List AV → St → (AV → St → Prop) → Prop) (a0 : List UInt8) (S0 : St) (Q : AV → St → Prop) : Prop :=
 joinK (fun (x7 : AV) =>
 optK (pickA (.bool (!(a0 == []))) x7 (.bool false)) fun t8 =>
 joinK (fun (x11 : AV) =>
 optK (pickA (AV.strip (AV.strip t8)) x11 (.bool false)) fun t12 =>
 joinK (fun (x16 : AV) =>
 optK (pickA (AV.strip (AV.strip t12)) x16 (.bool false)) fun t17 =>
 joinK (fun (x21 : AV) (S_2 : St) =>
 optK (pickA (AV.strip (AV.strip t17)) x21 (.bool false)) fun t22 =>
 Q (AV.strip t22) S_2) fun j =>
 ifK (AV.strip (AV.strip t17))
 (Ca F_strings_ContainsAny [(.str a0), (.str [47, 0])] S0 fun t20 S =>
 optK (unA .not t20) fun t21 =>
 j t21 S)
 (j (.tup []) S0)) fun j_2 =>
 ifK (AV.strip (AV.strip t12))
 (j_2 (.bool (decide ((List.length a0 : Int) ≤ 64))))
 (j_2 (.tup []))) fun j_3 =>
 ifK (AV.strip (AV.strip t8))
 (j_3 (.bool (!(a0 == [46, 46]))))
 (j_3 (.tup []))) fun j_4 =>
 ifK (.bool (!(a0 == [])))
 (j_4 (.bool (!(a0 == [46]))))
 (j_4 (.tup []))
theorem name_Right_eq (Ca) (a0 : List UInt8) (S0 Q) : WF C Ca 19 (Drw C Ca 19) Tryd.f19 [(.str a0)] S0 Q = G_name_Right Ca a0 S0 Q := by kernel_rfl
theorem name_Right_ok {w0 : World} {a0 : List UInt8} {S0 : St} {Q : AV → St → Prop} (h : G_name_Right (ACalls (En w0)) a0 S0 Q) : AC w0 F_name_Right [(.str a0)] S0 Q := fn_ok w0 Tryd.func19 (by kernel_rfl) (by rw [name_Right_eq]; exact h)
def G_ref01_Right (Ca : Nat → List AV → St → (AV → St → Prop) → Prop) (a0 : List UInt8) (S0 : St) (Q : AV → St → Prop) : Prop :=
 joinK (fun (x8 : AV) =>
 optK (pickA (.bool (a0 == [])) (.bool true) x8) fun t9 =>
 joinK (fun (x12 : AV) =>
 optK (pickA (AV.strip (AV.strip t9)) (.bool true) x12) fun t13 =>
 joinK (fun (x17 : AV) =>
 optK (pickA (AV.strip (AV.strip t13)) (.bool true) x17) fun t18 =>
 ifK (AV.strip t18)
 (Q (.bool false) S0)
 (joinK (fun (S_2 : St) =>
 Q (.bool true) S_2) fun j_5 =>
 loopQ ([(.int .i64 0)], []) (fun v bx => ([v 3], [])) (fun nx v bx S =>
 optK (binA .lss (AV.strip (v 3)) (.int .i64 (List.length a0 : Int))) fun t22 =>
 ifK t22
 (optK (charA (.str a0) (AV.strip (v 3))) fun t27 =>
 optK (binA .eql t27 (.int .u8 47)) fun t28 =>
 joinK (fun (x33 : AV) =>
 optK (pickA (AV.strip t28) (.bool true) x33) fun t34 =>
 ifK (AV.strip t34)
 (Q (.bool false) S)
 (optK (binA .add (AV.strip (v 3)) (.int .i64 1)) fun t24 =>
 nx ([t24], []) S)) fun j_4 =>
 ifK (AV.strip t28)
 (j_4 (.tup []))
 (optK (charA (.str a0) (AV.strip (v 3))) fun t32 =>
 optK (binA .eql t32 (.int .u8 0)) fun t33 =>
 j_4 t33))
 (j_5 S)) S0)) fun j =>
 ifK (AV.strip (AV.strip t13))
 (j (.tup []))
 (j (.bool (decide ((List.length a0 : Int) > 64))))) fun j_2 =>
 ifK (AV.strip (AV.strip t9))
 (j_2 (.tup []))
 (j_2 (.bool (a0 == [46, 46])))) fun j_3 =>
 ifK (.bool (a0 == []))
 (j_3 (.tup []))
 (j_3 (.bool (a0 == [46])))
theorem ref01_Right_eq (Ca) (a0 : List UInt8) (S0 Q) : WF C Ca 20 (Drw C Ca 20) Tryd.f20 [(.str a0)] S0 Q = G_ref01_Right Ca a0 S0 Q := by kernel_rfl
theorem ref01_Right_ok {w0 : World} {a0 : List UInt8} {S0 : St} {Q : AV → St → Prop} (h : G_ref01_Right (ACalls (En w0)) a0 S0 Q) : AC w0 F_ref01_Right [(.str a0)] S0 Q := fn_ok w0 Tryd.func20 (by kernel_rfl) (by rw [ref01_Right_eq]; exact h)
def G_name_Join (Ca : Nat → List AV → St → (AV → St → Prop) → Prop) (a0 : List (List AV)) (a0r : Rt) (S0 : St) (Q : AV → St → Prop) : Prop :=
 Ca F_strings_Join [(.vs 1 a0 (Rt.strip (Rt.strip a0r))), (.str [47])] S0 fun t4 S =>
 optK (binA .add (.str [47]) t4) fun t5 =>
 Q t5 S
theorem name_Join_eq (Ca) (a0 : List (List AV)) (a0r : Rt) (S0 Q) : WF C Ca 21 (Drw C Ca 21) Tryd.f21 [(.vs 1 a0 a0r)] S0 Q = G_name_Join Ca a0 a0r S0 Q := by kernel_rfl
theorem name_Join_ok {w0 : World} {a0 : List (List AV)} {a0r : Rt} {S0 : St} {Q : AV → St → Prop} (h : G_name_Join (ACalls (En w0)) a0 a0r S0 Q) : AC w0 F_name_Join [(.vs 1 a0 a0r)] S0 Q := fn_ok w0 Tryd.func21 (by kernel_rfl) (by rw [name_Join_eq]; exact h)
def G_ref01_Join (Ca : Nat → List AV → St → (AV → St → Prop) → Prop) (a0 : List (List AV)) (a0r : Rt) (S0 : St) (Q : AV → St → Prop) : Prop :=
 joinK (fun (x3_2 : AV) (S_2 : St) =>
 Q (AV.strip x3_2) S_2) fun j_2 =>
 loopQ ([(.str [47]), (.int .i64 0)], []) (fun v bx => ([v 3, v 4], [])) (fun nx v bx S =>
 optK (binA .lss (AV.strip (v 4)) (.int .i64 (List.length a0 : Int))) fun t8 =>
 ifK t8
 (joinK (fun (x3 : AV) =>
 optK (idxSlA T_string (.vs 1 a0 (Rt.strip a0r)) (AV.strip (v 4))) fun t18 =>
 optK (loadA T_string S t18) fun t19 =>
 optK (binA .add (AV.strip x3) (AV.strip t19)) fun t20 =>
 optK (binA .add (AV.strip (v 4)) (.int .i64 1)) fun t10 =>
 nx ([t20, t10], []) S) fun j =>
 optK (binA .gtr (AV.strip (v 4)) (.int .i64 0)) fun t12 =>
 ifK t12
 (optK (binA .add (AV.strip (v 3)) (.str [47])) fun t14 =>
 j t14)
 (j (v 3)))
 (j_2 (v 3) S)) S0
theorem ref01_Join_eq (Ca) (a0 : List (List AV)) (a0r : Rt) (S0 Q) : WF C Ca 22 (Drw C Ca 22) Tryd.f22 [(.vs 1 a0 a0r)] S0 Q = G_ref01_Join Ca a0 a0r S0 Q := by kernel_rfl
theorem ref01_Join_ok {w0 : World} {a0 : List (List AV)} {a0r : Rt} {S0 : St} {Q : AV → St → Prop} (h : G_ref01_Join (ACalls (En w0)) a0 a0r S0 Q) : AC w0 F_ref01_Join [(.vs 1 a0 a0r)] S0 Q := fn_ok w0 Tryd.func22 (by kernel_rfl) (by rw [ref01_Join_eq]; exact h)
def G_name_Child (Ca : Nat → List AV → St → (AV → St → Prop) → Prop) (a0 : List UInt8) (a1 : List UInt8) (S0 : St) (Q : AV → St → Prop) : Prop :=
 ifK (.bool (a0 == [47]))
 (optK (binA .add (.str a0) (.str a1)) fun t9 =>
 Q t9 S0)
 (optK (binA .add (.str a0) (.str [47])) fun t11 =>
 optK (binA .add t11 (.str a1)) fun t13 =>
 Q t13 S0)
theorem name_Child_eq (Ca) (a0 : List UInt8) (a1 : List UInt8) (S0 Q) : WF C Ca 23 (Drw C Ca 23) Tryd.f23 [(.str a0), (.str a1)] S0 Q = G_name_Child Ca a0 a1 S0 Q := by kernel_rfl
theorem name_Child_ok {w0 : World} {a0 : List UInt8} {a1 : List UInt8} {S0 : St} {Q : AV → St → Prop} (h : G_name_Child (ACalls (En w0)) a0 a1 S0 Q) : AC w0 F_name_Child [(.str a0), (.str a1)] S0 Q := fn_ok w0 Tryd.func23 (by kernel_rfl) (by rw [name_Child_eq]; exact h)
def G_name_Parent (Ca : Nat → List AV → St → (AV → St → Prop) → Prop) (a0 : List UInt8) (S0 : St) (Q : AV → St → Prop) : Prop :=
 Ca F_strings_LastIndexByte [(.str a0), (.int .u8 47)] S0 fun t5 S =>
 optK (binA .leq (AV.strip t5) (.int .i64 0)) fun t7 =>
 ifK t7
 (Q (.str [47]) S)
 (optK (cutStrA (.str a0) none (some (AV.strip t5))) fun t10 =>
 Q t10 S)
theorem name_Parent_eq (Ca) (a0 : List UInt8) (S0 Q) : WF C Ca 24 (Drw C Ca 24) Tryd.f24 [(.str a0)] S0 Q = G_name_Parent Ca a0 S0 Q := by kernel_rfl
theorem name_Parent_ok {w0 : World} {a0 : List UInt8} {S0 : St} {Q : AV → St → Prop} (h : G_name_Parent (ACalls (En w0)) a0 S0 Q) : AC w0 F_name_Parent [(.str a0)] S0 Q := fn_ok w0 Tryd.func24 (by kernel_rfl) (by rw [name_Parent_eq]; exact h)
def G_law07_speaks (Ca : Nat → List AV → St → (AV → St → Prop) → Prop) (S0 : St) (Q : AV → St → Prop) : Prop :=
 Ca F_tree_Dir [(.vs 1 [] .nil), (.vs 7 [] .nil)] S0 fun t8 S =>
 Ca F_tree_White [] S fun t10 S_2 =>
 optK (elemVals 7 [t10]) fun e11 =>
 Ca F_tree_Dir [(.vs 1 [[(.str [97])]] .full), (.vs 7 e11 .full)] S_2 fun t12 S_3 =>
 optK (elemVals 7 [t8, t12]) fun e13 =>
 Ca F_stack_Of [(.vs 7 e13 .full)] S_3 fun t14 S_4 =>
 optK (extractA t14 0) fun t15 =>
 optK (extractA (stripTup t14 0) 1) fun t16 =>
 optK (lstoreA T_stack_Stack (some [(.vs 2 [] .nil), (.int .i64 0)]) 0 t15) fun b1 =>
 optK (binA .neq (AV.strip t16) (.int .i64 0)) fun t18 =>
 joinK (fun (x22 : AV) (S_6 : St) =>
 optK (pickA (AV.strip t18) (.bool true) x22) fun t23 =>
 joinK (fun (x27 : AV) (S_8 : St) =>
 optK (pickA (AV.strip (AV.strip t23)) (.bool true) x27) fun t28 =>
 joinK (fun (x32 : AV) (S_10 : St) =>
 optK (pickA (AV.strip (AV.strip t28)) (.bool true) x32) fun t33 =>
 joinK (fun (x38 : AV) (S_13 : St) =>
 optK (pickA (AV.strip (AV.strip t33)) (.bool true) x38) fun t39 =>
 ifK (AV.strip t39)
 (Q (.bool false) S_13)
 (optK (lloadA T_stack_Stack (some b1) 0) fun t41 =>
 callK Ca F_stack_Stack_Remove [(AV.strip t41), (.int .i64 1)] S_13 fun t42 S_14 =>
 optK (extractA t42 0) fun t43 =>
 optK (extractA (stripTup t42 0) 1) fun t44 =>
 optK (lstoreA T_stack_Stack (some [(.vs 2 [] .nil), (.int .i64 0)]) 0 t43) fun b3 =>
 optK (lloadA T_stack_Stack (some b3) 0) fun t46 =>
 callK Ca F_stack_Stack_Remove [(AV.strip t46), (.int .i64 1)] S_14 fun t47 S_15 =>
 optK (extractA t47 0) fun t48 =>
 optK (extractA (stripTup t47 0) 1) fun t49 =>
 optK (lstoreA T_stack_Stack (some [(.vs 2 [] .nil), (.int .i64 0)]) 0 t48) fun b5 =>
 optK (binA .eql (AV.strip t44) (.int .i64 0)) fun t51 =>
 joinK (fun (x54 : AV) =>
 optK (pickA (AV.strip t51) x54 (.bool false)) fun t55 =>
 joinK (fun (x59 : AV) (S_17 : St) =>
 optK (pickA (AV.strip (AV.strip t55)) x59 (.bool false)) fun t60 =>
 joinK (fun (x64 : AV) (S_19 : St) =>
 optK (pickA (AV.strip (AV.strip t60)) x64 (.bool false)) fun t65 =>
 joinK (fun (x69 : AV) (S_21 : St) =>
 optK (pickA (AV.strip (AV.strip t65)) x69 (.bool false)) fun t70 =>
 Q (AV.strip t70) S_21) fun j_5 =>
 ifK (AV.strip (AV.strip t65))
 (optK (lloadA T_stack_Stack (some b1) 0) fun t67 =>
 callK Ca F_stack_Stack_Len [(AV.strip t67)] S_19 fun t68 S_20 =>
 optK (binA .eql t68 (.int .i64 2)) fun t69 =>
 j_5 t69 S_20)
 (j_5 (.tup []) S_19)) fun j_6 =>
 ifK (AV.strip (AV.strip t60))
 (optK (lloadA T_stack_Stack (some b3) 0) fun t62 =>
 callK Ca F_stack_Stack_ID [(AV.strip t62), (.int .i64 0)] S_17 fun t63 S_18 =>
 optK (binA .eql t63 (.int .i64 0)) fun t64 =>
 j_6 t64 S_18)
 (j_6 (.tup []) S_17)) fun j_7 =>
 ifK (AV.strip (AV.strip t55))
 (optK (lloadA T_stack_Stack (some b3) 0) fun t57 =>
 callK Ca F_stack_Stack_Len [(AV.strip t57)] S_15 fun t58 S_16 =>
 optK (binA .eql t58 (.int .i64 1)) fun t59 =>
 j_7 t59 S_16)
 (j_7 (.tup []) S_15)) fun j_8 =>
 ifK (AV.strip t51)
 (optK (binA .eql (AV.strip t49) (.int .i64 2)) fun t54 =>
 j_8 t54)
 (j_8 (.tup [])))) fun j =>
 ifK (AV.strip (AV.strip t33))
 (j (.tup []) S_10)
 (optK (lloadA T_stack_Stack (some b1) 0) fun t35 =>
 callK Ca F_stack_Stack_At [(AV.strip t35), (.int .i64 0)] S_10 fun t36 S_11 =>
 callK Ca F_branch_Branch_Count [t36] S_11 fun t37 S_12 =>
 optK (binA .neq t37 (.int .i64 2)) fun t38 =>
 j t38 S_12)) fun j_2 =>
 ifK (AV.strip (AV.strip t28))
 (j_2 (.tup []) S_8)
 (optK (lloadA T_stack_Stack (some b1) 0) fun t30 =>
 callK Ca F_stack_Stack_At [(AV.strip t30), (.int .i64 0)] S_8 fun t31 S_9 =>
 optK (binE .ptr .eql t31 .nil) fun t32 =>
 j_2 t32 S_9)) fun j_3 =>
 ifK (AV.strip (AV.strip t23))
 (j_3 (.tup []) S_6)
 (optK (lloadA T_stack_Stack (some b1) 0) fun t25 =>
 callK Ca F_stack_Stack_ID [(AV.strip t25), (.int .i64 0)] S_6 fun t26 S_7 =>
 optK (binA .neq t26 (.int .i64 1)) fun t27 =>
 j_3 t27 S_7)) fun j_4 =>
 ifK (AV.strip t18)
 (j_4 (.tup []) S_4)
 (optK (lloadA T_stack_Stack (some b1) 0) fun t20 =>
 callK Ca F_stack_Stack_Len [(AV.strip t20)] S_4 fun t21 S_5 =>
 optK (binA .neq t21 (.int .i64 2)) fun t22 =>
 j_4 t22 S_5)
theorem law07_speaks_eq (Ca) (S0 Q) : WF C Ca 25 (Drw C Ca 25) Tryd.f25 [] S0 Q = G_law07_speaks Ca  S0 Q := by kernel_rfl
theorem law07_speaks_ok {w0 : World} {S0 : St} {Q : AV → St → Prop} (h : G_law07_speaks (ACalls (En w0))  S0 Q) : AC w0 F_law07_speaks [] S0 Q := fn_ok w0 Tryd.func25 (by kernel_rfl) (by rw [law07_speaks_eq]; exact h)
def G_stack_Stack_Remove (Ca : Nat → List AV → St → (AV → St → Prop) → Prop) (a0a : List (List AV)) (a0ar : Rt) (a0b : Int) (a1 : Int) (S0 : St) (Q : AV → St → Prop) : Prop :=
 optK (boxA T_stack_Stack (.agg [(.vs 2 a0a a0ar), (.int .i64 a0b)])) fun c2 =>
 optK (some c2) fun _ =>
 optK (lloadA T_s_stack_mount (some c2) 0) fun t8 =>
 optK (funcA F_stack_Stack_Remove_1 [] [(.ptr S0.length 0)]) fun t9 =>
 callK Ca F_slices_IndexFunc_s_stack_mount_stack_mount [(AV.strip t8), t9] (S0 ++ [.cells [(.int .i64 a1)] t_int]) fun t10 S =>
 optK (binA .lss (AV.strip t10) (.int .i64 0)) fun t12 =>
 ifK t12
 (optK (lloadA T_stack_Stack (some c2) 0) fun t13 =>
 optK (lstoreA T_stack_Stack (some [(.vs 2 [] .nil), (.int .i64 0)]) 0 (AV.strip t13)) fun b4 =>
 optK ((lloadA T_stack_Stack (some b4) 0).map AV.strip) fun r4 =>
 Q (.tup [(AV.flat r4), (.int .i64 2)]) S)
 (optK (some c2) fun _ =>
 optK (lloadA T_s_stack_mount (some c2) 0) fun t15 =>
 optK (binA .add (AV.strip t10) (.int .i64 1)) fun t19 =>
 optK (some c2) fun _ =>
 optK (lloadA T_int (some c2) 1) fun t22 =>
 callK Ca F_slices_Clone_s_stack_mount_stack_mount [(AV.strip t15)] S fun t16 S_2 =>
 callK Ca F_slices_Delete_s_stack_mount_stack_mount [t16, (AV.strip t10), t19] S_2 fun t20 S_3 =>
 optK (buildA T_stack_Stack 1 [(0, t20), (1, (AV.strip t22))]) fun t23 =>
 optK (lstoreA T_stack_Stack (some [(.vs 2 [] .nil), (.int .i64 0)]) 0 t23) fun b4_2 =>
 optK ((lloadA T_stack_Stack (some b4_2) 0).map AV.strip) fun r4_2 =>
 Q (.tup [(AV.flat r4_2), (.int .i64 0)]) S_3)
theorem stack_Stack_Remove_eq (Ca) (a0a : List (List AV)) (a0ar : Rt) (a0b : Int) (a1 : Int) (S0 Q) : WF C Ca 26 (Drw C Ca 26) Tryd.f26 [(.agg [(.vs 2 a0a a0ar), (.int .i64 a0b)]), (.int .i64 a1)] S0 Q = G_stack_Stack_Remove Ca a0a a0ar a0b a1 S0 Q := by kernel_rfl
theorem stack_Stack_Remove_ok {w0 : World} {a0a : List (List AV)} {a0ar : Rt} {a0b : Int} {a1 : Int} {S0 : St} {Q : AV → St → Prop} (h : G_stack_Stack_Remove (ACalls (En w0)) a0a a0ar a0b a1 S0 Q) : AC w0 F_stack_Stack_Remove [(.agg [(.vs 2 a0a a0ar), (.int .i64 a0b)]), (.int .i64 a1)] S0 Q := fn_ok w0 Tryd.func26 (by kernel_rfl) (by rw [stack_Stack_Remove_eq]; exact h)
def G_branch_New (Ca : Nat → List AV → St → (AV → St → Prop) → Prop) (a0a : Int) (a0b : Bool) (a0c : List (List AV)) (a0cr : Rt) (a0d : List (List AV)) (a0dr : Rt) (a0e : Int) (a0f : List (List AV)) (a0fr : Rt) (a0g : List UInt8) (S0 : St) (Q : AV → St → Prop) : Prop :=
 optK (boxA T_api_Node (.agg [(.int .i64 a0a), (.bool a0b), (.vs 1 a0c a0cr), (.vs 7 a0d a0dr), (.int .i64 a0e), (.vs 2 a0f a0fr), (.str a0g)])) fun c1 =>
 optK (lloadA T_api_Node (some c1) 0) fun t5 =>
 callK Ca F_tree_Right [(AV.strip t5)] S0 fun t6 S =>
 optK (unA .not t6) fun t7 =>
 ifK t7
 (Q (.tup [.nil, (.int .i64 1)]) S)
 (optK (boxA T_branch_Branch (.agg [(.vs 8 [] .nil)])) fun c9 =>
 optK (lloadA T_api_Node (some c1) 0) fun t11 =>
 callK Ca F_branch_Branch_add [(.ptr S.length 0), (AV.strip t11)] (S ++ [.cells c9 t_branch_Branch]) fun t12 S_2 =>
 Q (.tup [(.ptr S.length 0), (.int .i64 0)]) S_2)
theorem branch_New_eq (Ca) (a0a : Int) (a0b : Bool) (a0c : List (List AV)) (a0cr : Rt) (a0d : List (List AV)) (a0dr : Rt) (a0e : Int) (a0f : List (List AV)) (a0fr : Rt) (a0g : List UInt8) (S0 Q) : WF C Ca 27 (Drw C Ca 27) Tryd.f27 [(.agg [(.int .i64 a0a), (.bool a0b), (.vs 1 a0c a0cr), (.vs 7 a0d a0dr), (.int .i64 a0e), (.vs 2 a0f a0fr), (.str a0g)])] S0 Q = G_branch_New Ca a0a a0b a0c a0cr a0d a0dr a0e a0f a0fr a0g S0 Q := by kernel_rfl
theorem branch_New_ok {w0 : World} {a0a : Int} {a0b : Bool} {a0c : List (List AV)} {a0cr : Rt} {a0d : List (List AV)} {a0dr : Rt} {a0e : Int} {a0f : List (List AV)} {a0fr : Rt} {a0g : List UInt8} {S0 : St} {Q : AV → St → Prop} (h : G_branch_New (ACalls (En w0)) a0a a0b a0c a0cr a0d a0dr a0e a0f a0fr a0g S0 Q) : AC w0 F_branch_New [(.agg [(.int .i64 a0a), (.bool a0b), (.vs 1 a0c a0cr), (.vs 7 a0d a0dr), (.int .i64 a0e), (.vs 2 a0f a0fr), (.str a0g)])] S0 Q := fn_ok w0 Tryd.func27 (by kernel_rfl) (by rw [branch_New_eq]; exact h)
def G_tree_Dir (Ca : Nat → List AV → St → (AV → St → Prop) → Prop) (a0 : List (List AV)) (a0r : Rt) (a1 : List (List AV)) (a1r : Rt) (S0 : St) (Q : AV → St → Prop) : Prop :=
 Ca F_slices_Clone_s_string_string [(.vs 1 a0 (Rt.strip (Rt.strip a0r)))] S0 fun t6 S =>
 Ca F_slices_Clone_s_api_Node_api_Node [(.vs 7 a1 (Rt.strip (Rt.strip a1r)))] S fun t8 S_2 =>
 optK (buildA T_api_Node 1 [(0, (.int .i64 2)), (2, t6), (3, t8)]) fun t9 =>
 optK (lstoreA T_api_Node (some [(.int .i64 0), (.bool false), (.vs 1 [] .nil), (.vs 7 [] .nil), (.int .i64 0), (.vs 2 [] .nil), (.str [])]) 0 t9) fun b4 =>
 optK ((lloadA T_api_Node (some b4) 0).map AV.strip) fun r4 =>
 Q r4 S_2
theorem tree_Dir_eq (Ca) (a0 : List (List AV)) (a0r : Rt) (a1 : List (List AV)) (a1r : Rt) (S0 Q) : WF C Ca 28 (Drw C Ca 28) Tryd.f28 [(.vs 1 a0 a0r), (.vs 7 a1 a1r)] S0 Q = G_tree_Dir Ca a0 a0r a1 a1r S0 Q := by kernel_rfl
theorem tree_Dir_ok {w0 : World} {a0 : List (List AV)} {a0r : Rt} {a1 : List (List AV)} {a1r : Rt} {S0 : St} {Q : AV → St → Prop} (h : G_tree_Dir (ACalls (En w0)) a0 a0r a1 a1r S0 Q) : AC w0 F_tree_Dir [(.vs 1 a0 a0r), (.vs 7 a1 a1r)] S0 Q := fn_ok w0 Tryd.func28 (by kernel_rfl) (by rw [tree_Dir_eq]; exact h)
def G_stack_Stack_Add (Ca : Nat → List AV → St → (AV → St → Prop) → Prop) (a0a : List (List AV)) (a0ar : Rt) (a0b : Int) (a1 : AV) (S0 : St) (Q : AV → St → Prop) : Prop :=
 optK (boxA T_stack_Stack (.agg [(.vs 2 a0a a0ar), (.int .i64 a0b)])) fun c2 =>
 optK (some c2) fun _ =>
 optK (lloadA T_s_stack_mount (some c2) 0) fun t8 =>
 optK (lenSlA (AV.strip t8)) fun t9 =>
 optK (binA .geq t9 (.int .i64 64)) fun t10 =>
 ifK t10
 (optK (lloadA T_stack_Stack (some c2) 0) fun t11 =>
 optK (lstoreA T_stack_Stack (some [(.vs 2 [] .nil), (.int .i64 0)]) 0 (AV.strip t11)) fun b4 =>
 optK ((lloadA T_stack_Stack (some b4) 0).map AV.strip) fun r4 =>
 Q (.tup [(AV.flat r4), (.int .i64 0), (.int .i64 6)]) S0)
 (optK (some c2) fun _ =>
 optK (lloadA T_int (some c2) 1) fun t13 =>
 optK (buildA T_stack_mount 1 [(0, (AV.strip t13)), (1, (AV.strip a1))]) fun t15 =>
 optK (elemVals 2 [t15]) fun e16 =>
 optK (some c2) fun _ =>
 optK (lloadA T_s_stack_mount (some c2) 0) fun t18 =>
 optK (some c2) fun _ =>
 optK (lloadA T_int (some c2) 1) fun t21 =>
 optK (binA .add (AV.strip t21) (.int .i64 1)) fun t22 =>
 optK (some c2) fun _ =>
 optK (lloadA T_int (some c2) 1) fun t25 =>
 optK (appendA T_stack_mount S0 (.vs 2 e16 .full) (AV.strip t18)) fun t19 =>
 optK (buildA T_stack_Stack 1 [(0, t19), (1, t22)]) fun t23 =>
 optK (lstoreA T_stack_Stack (some [(.vs 2 [] .nil), (.int .i64 0)]) 0 t23) fun b4_2 =>
 optK ((lloadA T_stack_Stack (some b4_2) 0).map AV.strip) fun r4_2 =>
 Q (.tup [(AV.flat r4_2), (AV.flat (AV.strip t25)), (.int .i64 0)]) S0)
theorem stack_Stack_Add_eq (Ca) (a0a : List (List AV)) (a0ar : Rt) (a0b : Int) (a1 : AV) (S0 Q) : WF C Ca 29 (Drw C Ca 29) Tryd.f29 [(.agg [(.vs 2 a0a a0ar), (.int .i64 a0b)]), a1] S0 Q = G_stack_Stack_Add Ca a0a a0ar a0b a1 S0 Q := by kernel_rfl
theorem stack_Stack_Add_ok {w0 : World} {a0a : List (List AV)} {a0ar : Rt} {a0b : Int} {a1 : AV} {S0 : St} {Q : AV → St → Prop} (h : G_stack_Stack_Add (ACalls (En w0)) a0a a0ar a0b a1 S0 Q) : AC w0 F_stack_Stack_Add [(.agg [(.vs 2 a0a a0ar), (.int .i64 a0b)]), a1] S0 Q := fn_ok w0 Tryd.func29 (by kernel_rfl) (by rw [stack_Stack_Add_eq]; exact h)
def G_law07_same (Ca : Nat → List AV → St → (AV → St → Prop) → Prop) (a0a : List (List AV)) (a0ar : Rt) (a0b : Int) (a1 : List (List AV)) (a1r : Rt) (a2 : List (List AV)) (a2r : Rt) (S0 : St) (Q : AV → St → Prop) : Prop :=
 optK (boxA T_stack_Stack (.agg [(.vs 2 a0a a0ar), (.int .i64 a0b)])) fun c3 =>
 optK (lloadA T_stack_Stack (some c3) 0) fun t9 =>
 callK Ca F_stack_Stack_Len [(AV.strip t9)] S0 fun t10 S =>
 optK (binA .neq t10 (.int .i64 (List.length a1 : Int))) fun t13 =>
 joinK (fun (x17 : AV) (S_3 : St) =>
 optK (pickA (AV.strip t13) (.bool true) x17) fun t18 =>
 joinK (fun (x22 : AV) (S_5 : St) =>
 optK (pickA (AV.strip (AV.strip t18)) (.bool true) x22) fun t23 =>
 joinK (fun (x29 : AV) (S_7 : St) =>
 optK (pickA (AV.strip (AV.strip t23)) (.bool true) x29) fun t30 =>
 joinK (fun (x36 : AV) (S_9 : St) =>
 optK (pickA (AV.strip (AV.strip t30)) (.bool true) x36) fun t37 =>
 ifK (AV.strip t37)
 (Q (.bool false) S_9)
 (joinK (fun (S_14 : St) =>
 Q (.bool true) S_14) fun j_6 =>
 loopQ ([(.int .i64 0)], [(some c3)]) (fun v bx => ([v 40], [bx 3])) (fun nx v bx S_10 =>
 optK (binA .lss (v 40) (.int .i64 (List.length a1 : Int))) fun t41 =>
 ifK t41
 (optK (idxSlA T_int (.vs 1 a1 (Rt.strip a1r)) (v 40)) fun t43 =>
 optK (loadA T_int S_10 t43) fun t44 =>
 optK (lloadA T_stack_Stack (bx 3) 0) fun t45 =>
 callK Ca F_stack_Stack_ID [(AV.strip t45), (AV.strip (AV.strip (v 40)))] S_10 fun t47 S_11 =>
 optK (binA .neq t47 (AV.strip (AV.strip t44))) fun t49 =>
 joinK (fun (x58 : AV) (S_13 : St) =>
 optK (pickA (AV.strip t49) (.bool true) x58) fun t59 =>
 ifK (AV.strip t59)
 (Q (.bool false) S_13)
 (optK (binA .add (v 40) (.int .i64 1)) fun t60 =>
 nx ([(AV.strip t60)], [(bx 3)]) S_13)) fun j_5 =>
 ifK (AV.strip t49)
 ((ifK (AV.strip t49)
 ((AV.tup []) = (.tup []))
 (optK (loadA T_p_branch_Branch S_11 (.tup [])) fun t57 =>
 ((AV.strip t57) : AV) = (.tup []))) ∧
 (j_5 (.tup []) S_11))
 (optK (lloadA T_stack_Stack (bx 3) 0) fun t51 =>
 optK (idxSlA T_p_branch_Branch (.vs 1 a2 (Rt.strip a2r)) (AV.strip (AV.strip t44))) fun t56 =>
 optK (loadA T_p_branch_Branch S_11 t56) fun t57_2 =>
 callK Ca F_stack_Stack_At [(AV.strip t51), (AV.strip (AV.strip (v 40)))] S_11 fun t53 S_12 =>
 (ifK (AV.strip t49)
 ((AV.tup []) = (AV.strip t57_2))
 (optK (loadA T_p_branch_Branch S_12 t56) fun t57_3 =>
 ((AV.strip t57_3) : AV) = (AV.strip t57_2))) ∧
 (optK (binP S_12 .neq t53 (AV.strip t57_2)) fun t58 =>
 j_5 t58 S_12)))
 (j_6 S_10)) S_9)) fun j =>
 ifK (AV.strip (AV.strip t30))
 (j (.tup []) S_7)
 (optK (lloadA T_stack_Stack (some c3) 0) fun t32 =>
 callK Ca F_stack_Stack_ID [(AV.strip t32), (.int .i64 (List.length a1 : Int))] S_7 fun t35 S_8 =>
 optK (binA .neq t35 (.int .i64 (-1))) fun t36 =>
 j t36 S_8)) fun j_2 =>
 ifK (AV.strip (AV.strip t23))
 (j_2 (.tup []) S_5)
 (optK (lloadA T_stack_Stack (some c3) 0) fun t25 =>
 callK Ca F_stack_Stack_At [(AV.strip t25), (.int .i64 (List.length a1 : Int))] S_5 fun t28 S_6 =>
 optK (binE .ptr .neq t28 .nil) fun t29 =>
 j_2 t29 S_6)) fun j_3 =>
 ifK (AV.strip (AV.strip t18))
 (j_3 (.tup []) S_3)
 (optK (lloadA T_stack_Stack (some c3) 0) fun t20 =>
 callK Ca F_stack_Stack_ID [(AV.strip t20), (.int .i64 (-1))] S_3 fun t21 S_4 =>
 optK (binA .neq t21 (.int .i64 (-1))) fun t22 =>
 j_3 t22 S_4)) fun j_4 =>
 ifK (AV.strip t13)
 (j_4 (.tup []) S)
 (optK (lloadA T_stack_Stack (some c3) 0) fun t15 =>
 callK Ca F_stack_Stack_At [(AV.strip t15), (.int .i64 (-1))] S fun t16 S_2 =>
 optK (binE .ptr .neq t16 .nil) fun t17 =>
 j_4 t17 S_2)
theorem law07_same_eq (Ca) (a0a : List (List AV)) (a0ar : Rt) (a0b : Int) (a1 : List (List AV)) (a1r : Rt) (a2 : List (List AV)) (a2r : Rt) (S0 Q) : WF C Ca 30 (Drw C Ca 30) Tryd.f30 [(.agg [(.vs 2 a0a a0ar), (.int .i64 a0b)]), (.vs 1 a1 a1r), (.vs 1 a2 a2r)] S0 Q = G_law07_same Ca a0a a0ar a0b a1 a1r a2 a2r S0 Q := by kernel_rfl
theorem law07_same_ok {w0 : World} {a0a : List (List AV)} {a0ar : Rt} {a0b : Int} {a1 : List (List AV)} {a1r : Rt} {a2 : List (List AV)} {a2r : Rt} {S0 : St} {Q : AV → St → Prop} (h : G_law07_same (ACalls (En w0)) a0a a0ar a0b a1 a1r a2 a2r S0 Q) : AC w0 F_law07_same [(.agg [(.vs 2 a0a a0ar), (.int .i64 a0b)]), (.vs 1 a1 a1r), (.vs 1 a2 a2r)] S0 Q := fn_ok w0 Tryd.func30 (by kernel_rfl) (by rw [law07_same_eq]; exact h)
def G_law04_Small (Ca : Nat → List AV → St → (AV → St → Prop) → Prop) (a0a : Int) (a0b : Bool) (a0c : List (List AV)) (a0cr : Rt) (a0d : List (List AV)) (a0dr : Rt) (a0e : Int) (a0f : List (List AV)) (a0fr : Rt) (a0g : List UInt8) (S0 : St) (Q : AV → St → Prop) : Prop :=
 optK (boxA T_api_Node (.agg [(.int .i64 a0a), (.bool a0b), (.vs 1 a0c a0cr), (.vs 7 a0d a0dr), (.int .i64 a0e), (.vs 2 a0f a0fr), (.str a0g)])) fun c1 =>
 optK (storeA T_int (S0 ++ [.cells T_int.zero t_int]) (.ptr S0.length 0) (.int .i64 400)) fun S =>
 optK (lloadA T_api_Node (some c1) 0) fun t4 =>
 callK Ca F_law04_small [(AV.strip t4), (.int .i64 30), (.ptr S0.length 0)] S fun t5 S_2 =>
 optK (unA .not t5) fun t6 =>
 ifK t6
 (Q (.int .i64 0) S_2)
 (Q (.int .i64 1) S_2)
theorem law04_Small_eq (Ca) (a0a : Int) (a0b : Bool) (a0c : List (List AV)) (a0cr : Rt) (a0d : List (List AV)) (a0dr : Rt) (a0e : Int) (a0f : List (List AV)) (a0fr : Rt) (a0g : List UInt8) (S0 Q) : WF C Ca 31 (Drw C Ca 31) Tryd.f31 [(.agg [(.int .i64 a0a), (.bool a0b), (.vs 1 a0c a0cr), (.vs 7 a0d a0dr), (.int .i64 a0e), (.vs 2 a0f a0fr), (.str a0g)])] S0 Q = G_law04_Small Ca a0a a0b a0c a0cr a0d a0dr a0e a0f a0fr a0g S0 Q := by kernel_rfl
theorem law04_Small_ok {w0 : World} {a0a : Int} {a0b : Bool} {a0c : List (List AV)} {a0cr : Rt} {a0d : List (List AV)} {a0dr : Rt} {a0e : Int} {a0f : List (List AV)} {a0fr : Rt} {a0g : List UInt8} {S0 : St} {Q : AV → St → Prop} (h : G_law04_Small (ACalls (En w0)) a0a a0b a0c a0cr a0d a0dr a0e a0f a0fr a0g S0 Q) : AC w0 F_law04_Small [(.agg [(.int .i64 a0a), (.bool a0b), (.vs 1 a0c a0cr), (.vs 7 a0d a0dr), (.int .i64 a0e), (.vs 2 a0f a0fr), (.str a0g)])] S0 Q := fn_ok w0 Tryd.func31 (by kernel_rfl) (by rw [law04_Small_eq]; exact h)
def G_ref04_Right (Ca : Nat → List AV → St → (AV → St → Prop) → Prop) (a0a : Int) (a0b : Bool) (a0c : List (List AV)) (a0cr : Rt) (a0d : List (List AV)) (a0dr : Rt) (a0e : Int) (a0f : List (List AV)) (a0fr : Rt) (a0g : List UInt8) (S0 : St) (Q : AV → St → Prop) : Prop :=
 optK (boxA T_api_Node (.agg [(.int .i64 a0a), (.bool a0b), (.vs 1 a0c a0cr), (.vs 7 a0d a0dr), (.int .i64 a0e), (.vs 2 a0f a0fr), (.str a0g)])) fun c1 =>
 optK (some c1) fun _ =>
 optK (lloadA T_int (some c1) 0) fun t4 =>
 optK (binA .eql (AV.strip t4) (.int .i64 2)) fun t5 =>
 joinK (fun (x8 : AV) (S_2 : St) =>
 optK (pickA (AV.strip t5) x8 (.bool false)) fun t9 =>
 joinK (fun (x13 : AV) (S_4 : St) =>
 optK (pickA (AV.strip (AV.strip t9)) x13 (.bool false)) fun t14 =>
 joinK (fun (x18 : AV) (S_6 : St) =>
 optK (pickA (AV.strip (AV.strip t14)) x18 (.bool false)) fun t19 =>
 Q (AV.strip t19) S_6) fun j =>
 ifK (AV.strip (AV.strip t14))
 (optK (lloadA T_api_Node (some c1) 0) fun t16 =>
 callK Ca F_ref04_Depth [(AV.strip t16)] S_4 fun t17 S_5 =>
 optK (binA .leq t17 (.int .i64 15)) fun t18 =>
 j t18 S_5)
 (j (.tup []) S_4)) fun j_2 =>
 ifK (AV.strip (AV.strip t9))
 (optK (lloadA T_api_Node (some c1) 0) fun t11 =>
 callK Ca F_ref04_Count [(AV.strip t11)] S_2 fun t12 S_3 =>
 optK (binA .leq t12 (.int .i64 4096)) fun t13 =>
 j_2 t13 S_3)
 (j_2 (.tup []) S_2)) fun j_3 =>
 ifK (AV.strip t5)
 (optK (lloadA T_api_Node (some c1) 0) fun t7 =>
 callK Ca F_ref04_all [(AV.strip t7)] S0 fun t8 S =>
 j_3 t8 S)
 (j_3 (.tup []) S0)
theorem ref04_Right_eq (Ca) (a0a : Int) (a0b : Bool) (a0c : List (List AV)) (a0cr : Rt) (a0d : List (List AV)) (a0dr : Rt) (a0e : Int) (a0f : List (List AV)) (a0fr : Rt) (a0g : List UInt8) (S0 Q) : WF C Ca 32 (Drw C Ca 32) Tryd.f32 [(.agg [(.int .i64 a0a), (.bool a0b), (.vs 1 a0c a0cr), (.vs 7 a0d a0dr), (.int .i64 a0e), (.vs 2 a0f a0fr), (.str a0g)])] S0 Q = G_ref04_Right Ca a0a a0b a0c a0cr a0d a0dr a0e a0f a0fr a0g S0 Q := by kernel_rfl
theorem ref04_Right_ok {w0 : World} {a0a : Int} {a0b : Bool} {a0c : List (List AV)} {a0cr : Rt} {a0d : List (List AV)} {a0dr : Rt} {a0e : Int} {a0f : List (List AV)} {a0fr : Rt} {a0g : List UInt8} {S0 : St} {Q : AV → St → Prop} (h : G_ref04_Right (ACalls (En w0)) a0a a0b a0c a0cr a0d a0dr a0e a0f a0fr a0g S0 Q) : AC w0 F_ref04_Right [(.agg [(.int .i64 a0a), (.bool a0b), (.vs 1 a0c a0cr), (.vs 7 a0d a0dr), (.int .i64 a0e), (.vs 2 a0f a0fr), (.str a0g)])] S0 Q := fn_ok w0 Tryd.func32 (by kernel_rfl) (by rw [ref04_Right_eq]; exact h)
def G_stack_Of (Ca : Nat → List AV → St → (AV → St → Prop) → Prop) (a0 : List (List AV)) (a0r : Rt) (S0 : St) (Q : AV → St → Prop) : Prop :=
 joinK (fun (y2 : Option (List AV)) (y4 : Option (List AV)) (S_4 : St) =>
 optK (lloadA T_stack_Stack y4 0) fun t36 =>
 optK (lstoreA T_stack_Stack y2 0 (AV.strip t36)) fun b2_3 =>
 optK ((lloadA T_stack_Stack (some b2_3) 0).map AV.strip) fun r2_3 =>
 Q (.tup [(AV.flat r2_3), (.int .i64 0)]) S_4) fun j =>
 loopQ ([(.int .i64 0)], [(some [(.vs 2 [] .nil), (.int .i64 0)]), (some [(.vs 2 [] .nil), (.int .i64 0)])]) (fun v bx => ([v 11], [bx 2, bx 4])) (fun nx v bx S =>
 optK (binA .lss (v 11) (.int .i64 (List.length a0 : Int))) fun t12 =>
 ifK t12
 (optK (idxSlA T_api_Node (.vs 7 a0 (Rt.strip a0r)) (v 11)) fun t13 =>
 optK (loadA T_api_Node S t13) fun t14 =>
 optK (lstoreA T_api_Node (some [(.int .i64 0), (.bool false), (.vs 1 [] .nil), (.vs 7 [] .nil), (.int .i64 0), (.vs 2 [] .nil), (.str [])]) 0 (AV.strip t14)) fun b6 =>
 optK (lloadA T_api_Node (some b6) 0) fun t16 =>
 callK Ca F_branch_New [(AV.strip t16)] S fun t17 S_2 =>
 optK (extractA t17 0) fun t18 =>
 optK (extractA (stripTup t17 0) 1) fun t19 =>
 optK (binA .neq (AV.strip t19) (.int .i64 0)) fun t21 =>
 ifK t21
 (optK (lstoreA T_stack_Stack (bx 2) 0 (.agg [(.vs 2 [] .nil), (.int .i64 0)])) fun b2 =>
 optK ((lloadA T_stack_Stack (some b2) 0).map AV.strip) fun r2 =>
 Q (.tup [(AV.flat r2), (AV.flat (AV.strip t19))]) S_2)
 (optK (lloadA T_stack_Stack (bx 4) 0) fun t25 =>
 callK Ca F_stack_Stack_Add [(AV.strip t25), (AV.strip t18)] S_2 fun t27 S_3 =>
 optK (extractA t27 0) fun t28 =>
 optK (extractA (stripTup t27 0) 1) fun t29 =>
 optK (extractA (stripTup (stripTup t27 0) 1) 2) fun t30 =>
 optK (lstoreA T_stack_Stack (bx 4) 0 t28) fun b4 =>
 optK (binA .neq (AV.strip t30) (.int .i64 0)) fun t32 =>
 ifK t32
 (optK (lstoreA T_stack_Stack (bx 2) 0 (.agg [(.vs 2 [] .nil), (.int .i64 0)])) fun b2_2 =>
 optK ((lloadA T_stack_Stack (some b2_2) 0).map AV.strip) fun r2_2 =>
 Q (.tup [(AV.flat r2_2), (AV.flat (AV.strip t30))]) S_3)
 (optK (binA .add (v 11) (.int .i64 1)) fun t35 =>
 nx ([(AV.strip t35)], [(bx 2), (some b4)]) S_3)))
 (j (bx 2) (bx 4) S)) S0
theorem stack_Of_eq (Ca) (a0 : List (List AV)) (a0r : Rt) (S0 Q) : WF C Ca 33 (Drw C Ca 33) Tryd.f33 [(.vs 7 a0 a0r)] S0 Q = G_stack_Of Ca a0 a0r S0 Q := by kernel_rfl
theorem stack_Of_ok {w0 : World} {a0 : List (List AV)} {a0r : Rt} {S0 : St} {Q : AV → St → Prop} (h : G_stack_Of (ACalls (En w0)) a0 a0r S0 Q) : AC w0 F_stack_Of [(.vs 7 a0 a0r)] S0 Q := fn_ok w0 Tryd.func33 (by kernel_rfl) (by rw [stack_Of_eq]; exact h)
def G_stack_Stack_Len (Ca : Nat → List AV → St → (AV → St → Prop) → Prop) (a0a : List (List AV)) (a0ar : Rt) (a0b : Int) (S0 : St) (Q : AV → St → Prop) : Prop :=
 optK (boxA T_stack_Stack (.agg [(.vs 2 a0a a0ar), (.int .i64 a0b)])) fun c1 =>
 optK (some c1) fun _ =>
 optK (lloadA T_s_stack_mount (some c1) 0) fun t4 =>
 optK (lenSlA (AV.strip t4)) fun t5 =>
 Q t5 S0
theorem stack_Stack_Len_eq (Ca) (a0a : List (List AV)) (a0ar : Rt) (a0b : Int) (S0 Q) : WF C Ca 34 (Drw C Ca 34) Tryd.f34 [(.agg [(.vs 2 a0a a0ar), (.int .i64 a0b)])] S0 Q = G_stack_Stack_Len Ca a0a a0ar a0b S0 Q := by kernel_rfl
theorem stack_Stack_Len_ok {w0 : World} {a0a : List (List AV)} {a0ar : Rt} {a0b : Int} {S0 : St} {Q : AV → St → Prop} (h : G_stack_Stack_Len (ACalls (En w0)) a0a a0ar a0b S0 Q) : AC w0 F_stack_Stack_Len [(.agg [(.vs 2 a0a a0ar), (.int .i64 a0b)])] S0 Q := fn_ok w0 Tryd.func34 (by kernel_rfl) (by rw [stack_Stack_Len_eq]; exact h)
end Go.Av
set_option linter.unusedVariables false
namespace Go.Av
open Go.Proofs
def G_stack_Stack_At (Ca : Nat → List AV → St → (AV → St → Prop) → Prop) (a0a : List (List AV)) (a0ar : Rt) (a0b : Int) (a1 : Int) (S0 : St) (Q : AV → St → Prop) : Prop :=
 optK (boxA T_stack_Stack (.agg [(.vs 2 a0a a0ar), (.int .i64 a0b)])) fun c2 =>
 joinK (fun (x12 : AV) =>
 optK (pickA (.bool (decide (a1 < 0))) (.bool true) x12) fun t13 =>
 ifK (AV.strip t13)
 (Q .nil S0)
 (optK (some c2) fun _ =>
 optK (lloadA T_s_stack_mount (some c2) 0) fun t15 =>
 optK (idxSlA T_stack_mount (AV.strip t15) (.int .i64 a1)) fun t17 =>
 optK (movePtr t17 1) fun t18 =>
 optK (loadA T_p_branch_Branch S0 t18) fun t19 =>
 Q (AV.strip t19) S0)) fun j =>
 ifK (.bool (decide (a1 < 0)))
 (j (.tup []))
 (optK (some c2) fun _ =>
 optK (lloadA T_s_stack_mount (some c2) 0) fun t10 =>
 optK (lenSlA (AV.strip t10)) fun t11 =>
 optK (binA .geq (.int .i64 a1) t11) fun t12 =>
 j t12)
theorem stack_Stack_At_eq (Ca) (a0a : List (List AV)) (a0ar : Rt) (a0b : Int) (a1 : Int) (S0 Q) : WF C Ca 35 (Drw C Ca 35) Tryd.f35 [(.agg [(.vs 2 a0a a0ar), (.int .i64 a0b)]), (.int .i64 a1)] S0 Q = G_stack_Stack_At Ca a0a a0ar a0b a1 S0 Q := by kernel_rfl
theorem stack_Stack_At_ok {w0 : World} {a0a : List (List AV)} {a0ar : Rt} {a0b : Int} {a1 : Int} {S0 : St} {Q : AV → St → Prop} (h : G_stack_Stack_At (ACalls (En w0)) a0a a0ar a0b a1 S0 Q) : AC w0 F_stack_Stack_At [(.agg [(.vs 2 a0a a0ar), (.int .i64 a0b)]), (.int .i64 a1)] S0 Q := fn_ok w0 Tryd.func35 (by kernel_rfl) (by rw [stack_Stack_At_eq]; exact h)
def G_stack_Stack_ID (Ca : Nat → List AV → St → (AV → St → Prop) → Prop) (a0a : List (List AV)) (a0ar : Rt) (a0b : Int) (a1 : Int) (S0 : St) (Q : AV → St → Prop) : Prop :=
 optK (boxA T_stack_Stack (.agg [(.vs 2 a0a a0ar), (.int .i64 a0b)])) fun c2 =>
 joinK (fun (x12 : AV) =>
 optK (pickA (.bool (decide (a1 < 0))) (.bool true) x12) fun t13 =>
 ifK (AV.strip t13)
 (Q (.int .i64 (-1)) S0)
 (optK (some c2) fun _ =>
 optK (lloadA T_s_stack_mount (some c2) 0) fun t15 =>
 optK (idxSlA T_stack_mount (AV.strip t15) (.int .i64 a1)) fun t17 =>
 optK (movePtr t17 0) fun t18 =>
 optK (loadA T_int S0 t18) fun t19 =>
 Q (AV.strip t19) S0)) fun j =>
 ifK (.bool (decide (a1 < 0)))
 (j (.tup []))
 (optK (some c2) fun _ =>
 optK (lloadA T_s_stack_mount (some c2) 0) fun t10 =>
 optK (lenSlA (AV.strip t10)) fun t11 =>
 optK (binA .geq (.int .i64 a1) t11) fun t12 =>
 j t12)
theorem stack_Stack_ID_eq (Ca) (a0a : List (List AV)) (a0ar : Rt) (a0b : Int) (a1 : Int) (S0 Q) : WF C Ca 36 (Drw C Ca 36) Tryd.f36 [(.agg [(.vs 2 a0a a0ar), (.int .i64 a0b)]), (.int .i64 a1)] S0 Q = G_stack_Stack_ID Ca a0a a0ar a0b a1 S0 Q := by kernel_rfl
theorem stack_Stack_ID_ok {w0 : World} {a0a : List (List AV)} {a0ar : Rt} {a0b : Int} {a1 : Int} {S0 : St} {Q : AV → St → Prop} (h : G_stack_Stack_ID (ACalls (En w0)) a0a a0ar a0b a1 S0 Q) : AC w0 F_stack_Stack_ID [(.agg [(.vs 2 a0a a0ar), (.int .i64 a0b)]), (.int .i64 a1)] S0 Q := fn_ok w0 Tryd.func36 (by kernel_rfl) (by rw [stack_Stack_ID_eq]; exact h)
def G_branch_Branch_Count (Ca : Nat → List AV → St → (AV → St → Prop) → Prop) (a0 : Nat) (a0o : Nat) (S0 : St) (Q : AV → St → Prop) : Prop :=
 optK (loadA T_s_branch_inode S0 (.ptr a0 (a0o + 0))) fun t6 =>
 optK (lenSlA (AV.strip t6)) fun t7 =>
 Q t7 S0
theorem branch_Branch_Count_eq (Ca) (a0 : Nat) (a0o : Nat) (S0 Q) : WF C Ca 37 (Drw C Ca 37) Tryd.f37 [(.ptr a0 a0o)] S0 Q = G_branch_Branch_Count Ca a0 a0o S0 Q := by kernel_rfl
theorem branch_Branch_Count_ok {w0 : World} {a0 : Nat} {a0o : Nat} {S0 : St} {Q : AV → St → Prop} (h : G_branch_Branch_Count (ACalls (En w0)) a0 a0o S0 Q) : AC w0 F_branch_Branch_Count [(.ptr a0 a0o)] S0 Q := fn_ok w0 Tryd.func37 (by kernel_rfl) (by rw [branch_Branch_Count_eq]; exact h)
def G_ref04_Count (Ca : Nat → List AV → St → (AV → St → Prop) → Prop) (a0a : Int) (a0b : Bool) (a0c : List (List AV)) (a0cr : Rt) (a0d : List (List AV)) (a0dr : Rt) (a0e : Int) (a0f : List (List AV)) (a0fr : Rt) (a0g : List UInt8) (S0 : St) (Q : AV → St → Prop) : Prop :=
 optK (boxA T_api_Node (.agg [(.int .i64 a0a), (.bool a0b), (.vs 1 a0c a0cr), (.vs 7 a0d a0dr), (.int .i64 a0e), (.vs 2 a0f a0fr), (.str a0g)])) fun c1 =>
 joinK (fun (x3 : AV) (S_3 : St) =>
 Q (AV.strip x3) S_3) fun j =>
 loopQ ([(.int .i64 1), (.int .i64 0)], [(some c1)]) (fun v bx => ([v 3, v 4], [bx 1])) (fun nx v bx S =>
 optK (bx 1) fun _ =>
 optK (lloadA T_s_api_Node (bx 1) 3) fun t7 =>
 optK (lenSlA (AV.strip t7)) fun t8 =>
 optK (binA .lss (AV.strip (v 4)) t8) fun t9 =>
 ifK t9
 (optK (bx 1) fun _ =>
 optK (lloadA T_s_api_Node (bx 1) 3) fun t14 =>
 optK (idxSlA T_api_Node (AV.strip t14) (AV.strip (v 4))) fun t16 =>
 optK (loadA T_api_Node S t16) fun t17 =>
 callK Ca F_ref04_Count [(AV.strip t17)] S fun t18 S_2 =>
 optK (binA .add (AV.strip (v 3)) t18) fun t19 =>
 optK (binA .add (AV.strip (v 4)) (.int .i64 1)) fun t11 =>
 nx ([t19, t11], [(bx 1)]) S_2)
 (j (v 3) S)) S0
theorem ref04_Count_eq (Ca) (a0a : Int) (a0b : Bool) (a0c : List (List AV)) (a0cr : Rt) (a0d : List (List AV)) (a0dr : Rt) (a0e : Int) (a0f : List (List AV)) (a0fr : Rt) (a0g : List UInt8) (S0 Q) : WF C Ca 38 (Drw C Ca 38) Tryd.f38 [(.agg [(.int .i64 a0a), (.bool a0b), (.vs 1 a0c a0cr), (.vs 7 a0d a0dr), (.int .i64 a0e), (.vs 2 a0f a0fr), (.str a0g)])] S0 Q = G_ref04_Count Ca a0a a0b a0c a0cr a0d a0dr a0e a0f a0fr a0g S0 Q := by kernel_rfl
theorem ref04_Count_ok {w0 : World} {a0a : Int} {a0b : Bool} {a0c : List (List AV)} {a0cr : Rt} {a0d : List (List AV)} {a0dr : Rt} {a0e : Int} {a0f : List (List AV)} {a0fr : Rt} {a0g : List UInt8} {S0 : St} {Q : AV → St → Prop} (h : G_ref04_Count (ACalls (En w0)) a0a a0b a0c a0cr a0d a0dr a0e a0f a0fr a0g S0 Q) : AC w0 F_ref04_Count [(.agg [(.int .i64 a0a), (.bool a0b), (.vs 1 a0c a0cr), (.vs 7 a0d a0dr), (.int .i64 a0e), (.vs 2 a0f a0fr), (.str a0g)])] S0 Q := fn_ok w0 Tryd.func38 (by kernel_rfl) (by rw [ref04_Count_eq]; exact h)
def G_law04_speaks (Ca : Nat → List AV → St → (AV → St → Prop) → Prop) (S0 : St) (Q : AV → St → Prop) : Prop :=
 Ca F_tree_Text [(.str [120])] S0 fun t5 S =>
 Ca F_tree_White [] S fun t6 S_2 =>
 optK (elemVals 7 [t5, t6]) fun e7 =>
 Ca F_tree_Dir [(.vs 1 [[(.str [97])], [(.str [98])]] .full), (.vs 7 e7 .full)] S_2 fun t8 S_3 =>
 optK (lstoreA T_api_Node (some [(.int .i64 0), (.bool false), (.vs 1 [] .nil), (.vs 7 [] .nil), (.int .i64 0), (.vs 2 [] .nil), (.str [])]) 0 t8) fun b1 =>
 optK (lloadA T_api_Node (some b1) 0) fun t10 =>
 callK Ca F_tree_Find [(AV.strip t10), (.str [97])] S_3 fun t11 S_4 =>
 optK (extractA t11 0) fun t12 =>
 optK (extractA (stripTup t11 0) 1) fun t13 =>
 optK (lstoreA T_api_Node (some [(.int .i64 0), (.bool false), (.vs 1 [] .nil), (.vs 7 [] .nil), (.int .i64 0), (.vs 2 [] .nil), (.str [])]) 0 t12) fun b2 =>
 optK (lloadA T_api_Node (some b1) 0) fun t14 =>
 callK Ca F_tree_Right [(AV.strip t14)] S_4 fun t15 S_5 =>
 joinK (fun (x23 : AV) (S_10 : St) =>
 optK (pickA (AV.strip t15) x23 (.bool false)) fun t24 =>
 joinK (fun (x26 : AV) =>
 optK (pickA (AV.strip (AV.strip t24)) x26 (.bool false)) fun t27 =>
 joinK (fun (x31 : AV) =>
 optK (pickA (AV.strip (AV.strip t27)) x31 (.bool false)) fun t32 =>
 joinK (fun (x36 : AV) (S_12 : St) =>
 optK (pickA (AV.strip (AV.strip t32)) x36 (.bool false)) fun t37 =>
 joinK (fun (x41 : AV) (S_14 : St) =>
 optK (pickA (AV.strip (AV.strip t37)) x41 (.bool false)) fun t42 =>
 optK (pickA (AV.strip (AV.strip t42)) (.bool true) (.bool false)) fun t44 =>
 Q (AV.strip t44) S_14) fun j =>
 ifK (AV.strip (AV.strip t37))
 (optK (lloadA T_api_Node (some b1) 0) fun t39 =>
 optK (lloadA T_api_Node (some b1) 0) fun t40 =>
 callK Ca F_tree_Same [(AV.strip t39), (AV.strip t40)] S_12 fun t41 S_13 =>
 j t41 S_13)
 (j (.tup []) S_12)) fun j_2 =>
 ifK (AV.strip (AV.strip t32))
 (optK (lloadA T_api_Node (some b1) 0) fun t34 =>
 callK Ca F_tree_Count [(AV.strip t34)] S_10 fun t35 S_11 =>
 optK (binA .eql t35 (.int .i64 3)) fun t36 =>
 j_2 t36 S_11)
 (j_2 (.tup []) S_10)) fun j_3 =>
 ifK (AV.strip (AV.strip t27))
 (optK (some b2) fun _ =>
 optK (lloadA T_int (some b2) 4) fun t30 =>
 optK (binA .eql (AV.strip t30) (.int .i64 1)) fun t31 =>
 j_3 t31)
 (j_3 (.tup []))) fun j_4 =>
 ifK (AV.strip (AV.strip t24))
 (j_4 (AV.strip t13))
 (j_4 (.tup []))) fun j_5 =>
 ifK (AV.strip t15)
 (Ca F_tree_White [] S_5 fun t18 S_6 =>
 Ca F_tree_White [] S_6 fun t19 S_7 =>
 optK (elemVals 7 [t18, t19]) fun e20 =>
 Ca F_tree_Dir [(.vs 1 [[(.str [98])], [(.str [97])]] .full), (.vs 7 e20 .full)] S_7 fun t21 S_8 =>
 callK Ca F_tree_Right [t21] S_8 fun t22 S_9 =>
 optK (unA .not t22) fun t23 =>
 j_5 t23 S_9)
 (j_5 (.tup []) S_5)
theorem law04_speaks_eq (Ca) (S0 Q) : WF C Ca 39 (Drw C Ca 39) Tryd.f39 [] S0 Q = G_law04_speaks Ca  S0 Q := by kernel_rfl
theorem law04_speaks_ok {w0 : World} {S0 : St} {Q : AV → St → Prop} (h : G_law04_speaks (ACalls (En w0))  S0 Q) : AC w0 F_law04_speaks [] S0 Q := fn_ok w0 Tryd.func39 (by kernel_rfl) (by rw [law04_speaks_eq]; exact h)
def G_tree_Right (Ca : Nat → List AV → St → (AV → St → Prop) → Prop) (a0a : Int) (a0b : Bool) (a0c : List (List AV)) (a0cr : Rt) (a0d : List (List AV)) (a0dr : Rt) (a0e : Int) (a0f : List (List AV)) (a0fr : Rt) (a0g : List UInt8) (S0 : St) (Q : AV → St → Prop) : Prop :=
 optK (boxA T_api_Node (.agg [(.int .i64 a0a), (.bool a0b), (.vs 1 a0c a0cr), (.vs 7 a0d a0dr), (.int .i64 a0e), (.vs 2 a0f a0fr), (.str a0g)])) fun c1 =>
 optK (storeA T_int (S0 ++ [.cells T_int.zero t_int]) (.ptr S0.length 0) (.int .i64 4096)) fun S =>
 optK (some c1) fun _ =>
 optK (lloadA T_int (some c1) 0) fun t5 =>
 optK (binA .eql (AV.strip t5) (.int .i64 2)) fun t6 =>
 joinK (fun (x9 : AV) (S_3 : St) =>
 optK (pickA (AV.strip t6) x9 (.bool false)) fun t10 =>
 Q (AV.strip t10) S_3) fun j =>
 ifK (AV.strip t6)
 (optK (lloadA T_api_Node (some c1) 0) fun t8 =>
 callK Ca F_tree_right [(AV.strip t8), (.int .i64 0), (.ptr S0.length 0)] S fun t9 S_2 =>
 j t9 S_2)
 (j (.tup []) S)
theorem tree_Right_eq (Ca) (a0a : Int) (a0b : Bool) (a0c : List (List AV)) (a0cr : Rt) (a0d : List (List AV)) (a0dr : Rt) (a0e : Int) (a0f : List (List AV)) (a0fr : Rt) (a0g : List UInt8) (S0 Q) : WF C Ca 40 (Drw C Ca 40) Tryd.f40 [(.agg [(.int .i64 a0a), (.bool a0b), (.vs 1 a0c a0cr), (.vs 7 a0d a0dr), (.int .i64 a0e), (.vs 2 a0f a0fr), (.str a0g)])] S0 Q = G_tree_Right Ca a0a a0b a0c a0cr a0d a0dr a0e a0f a0fr a0g S0 Q := by kernel_rfl
theorem tree_Right_ok {w0 : World} {a0a : Int} {a0b : Bool} {a0c : List (List AV)} {a0cr : Rt} {a0d : List (List AV)} {a0dr : Rt} {a0e : Int} {a0f : List (List AV)} {a0fr : Rt} {a0g : List UInt8} {S0 : St} {Q : AV → St → Prop} (h : G_tree_Right (ACalls (En w0)) a0a a0b a0c a0cr a0d a0dr a0e a0f a0fr a0g S0 Q) : AC w0 F_tree_Right [(.agg [(.int .i64 a0a), (.bool a0b), (.vs 1 a0c a0cr), (.vs 7 a0d a0dr), (.int .i64 a0e), (.vs 2 a0f a0fr), (.str a0g)])] S0 Q := fn_ok w0 Tryd.func40 (by kernel_rfl) (by rw [tree_Right_eq]; exact h)
def G_tree_Count (Ca : Nat → List AV → St → (AV → St → Prop) → Prop) (a0a : Int) (a0b : Bool) (a0c : List (List AV)) (a0cr : Rt) (a0d : List (List AV)) (a0dr : Rt) (a0e : Int) (a0f : List (List AV)) (a0fr : Rt) (a0g : List UInt8) (S0 : St) (Q : AV → St → Prop) : Prop :=
 optK (boxA T_api_Node (.agg [(.int .i64 a0a), (.bool a0b), (.vs 1 a0c a0cr), (.vs 7 a0d a0dr), (.int .i64 a0e), (.vs 2 a0f a0fr), (.str a0g)])) fun c1 =>
 joinK (fun (x3 : AV) (S_3 : St) =>
 Q (AV.strip x3) S_3) fun j =>
 optK (some c1) fun _ =>
 optK (lloadA T_s_api_Node (some c1) 3) fun t7 =>
 optK (lenSlA (AV.strip t7)) fun t8 =>
 loopQ ([(.int .i64 1), (.int .i64 0)], []) (fun v bx => ([v 3, v 9], [])) (fun nx v bx S =>
 optK (binA .lss (v 9) t8) fun t10 =>
 ifK t10
 (optK (idxSlA T_api_Node (AV.strip t7) (v 9)) fun t11 =>
 optK (loadA T_api_Node S t11) fun t12 =>
 optK (lstoreA T_api_Node (some [(.int .i64 0), (.bool false), (.vs 1 [] .nil), (.vs 7 [] .nil), (.int .i64 0), (.vs 2 [] .nil), (.str [])]) 0 (AV.strip t12)) fun b5 =>
 optK (lloadA T_api_Node (some b5) 0) fun t14 =>
 callK Ca F_tree_Count [(AV.strip t14)] S fun t15 S_2 =>
 optK (binA .add (AV.strip (v 3)) t15) fun t16 =>
 optK (binA .add (v 9) (.int .i64 1)) fun t17 =>
 nx ([t16, (AV.strip t17)], []) S_2)
 (j (v 3) S)) S0
theorem tree_Count_eq (Ca) (a0a : Int) (a0b : Bool) (a0c : List (List AV)) (a0cr : Rt) (a0d : List (List AV)) (a0dr : Rt) (a0e : Int) (a0f : List (List AV)) (a0fr : Rt) (a0g : List UInt8) (S0 Q) : WF C Ca 41 (Drw C Ca 41) Tryd.f41 [(.agg [(.int .i64 a0a), (.bool a0b), (.vs 1 a0c a0cr), (.vs 7 a0d a0dr), (.int .i64 a0e), (.vs 2 a0f a0fr), (.str a0g)])] S0 Q = G_tree_Count Ca a0a a0b a0c a0cr a0d a0dr a0e a0f a0fr a0g S0 Q := by kernel_rfl
theorem tree_Count_ok {w0 : World} {a0a : Int} {a0b : Bool} {a0c : List (List AV)} {a0cr : Rt} {a0d : List (List AV)} {a0dr : Rt} {a0e : Int} {a0f : List (List AV)} {a0fr : Rt} {a0g : List UInt8} {S0 : St} {Q : AV → St → Prop} (h : G_tree_Count (ACalls (En w0)) a0a a0b a0c a0cr a0d a0dr a0e a0f a0fr a0g S0 Q) : AC w0 F_tree_Count [(.agg [(.int .i64 a0a), (.bool a0b), (.vs 1 a0c a0cr), (.vs 7 a0d a0dr), (.int .i64 a0e), (.vs 2 a0f a0fr), (.str a0g)])] S0 Q := fn_ok w0 Tryd.func41 (by kernel_rfl) (by rw [tree_Count_eq]; exact h)
def G_tree_Same (Ca : Nat → List AV → St → (AV → St → Prop) → Prop) (a0a : Int) (a0b : Bool) (a0c : List (List AV)) (a0cr : Rt) (a0d : List (List AV)) (a0dr : Rt) (a0e : Int) (a0f : List (List AV)) (a0fr : Rt) (a0g : List UInt8) (a1a : Int) (a1b : Bool) (a1c : List (List AV)) (a1cr : Rt) (a1d : List (List AV)) (a1dr : Rt) (a1e : Int) (a1f : List (List AV)) (a1fr : Rt) (a1g : List UInt8) (S0 : St) (Q : AV → St → Prop) : Prop :=
 optK (boxA T_api_Node (.agg [(.int .i64 a0a), (.bool a0b), (.vs 1 a0c a0cr), (.vs 7 a0d a0dr), (.int .i64 a0e), (.vs 2 a0f a0fr), (.str a0g)])) fun c2 =>
 optK (boxA T_api_Node (.agg [(.int .i64 a1a), (.bool a1b), (.vs 1 a1c a1cr), (.vs 7 a1d a1dr), (.int .i64 a1e), (.vs 2 a1f a1fr), (.str a1g)])) fun c3 =>
 optK (some c2) fun _ =>
 optK (lloadA T_int (some c2) 0) fun t7 =>
 optK (some c3) fun _ =>
 optK (lloadA T_int (some c3) 0) fun t9 =>
 optK (binA .neq (AV.strip t7) (AV.strip t9)) fun t10 =>
 joinK (fun (x16 : AV) =>
 optK (pickA (AV.strip t10) (.bool true) x16) fun t17 =>
 joinK (fun (x23 : AV) =>
 optK (pickA (AV.strip (AV.strip t17)) (.bool true) x23) fun t24 =>
 joinK (fun (x30 : AV) =>
 optK (pickA (AV.strip (AV.strip t24)) (.bool true) x30) fun t31 =>
 joinK (fun (x38 : AV) (S_2 : St) =>
 optK (pickA (AV.strip (AV.strip t31)) (.bool true) x38) fun t39 =>
 joinK (fun (x46 : AV) (S_4 : St) =>
 optK (pickA (AV.strip (AV.strip t39)) (.bool true) x46) fun t47 =>
 joinK (fun (x55 : AV) =>
 optK (pickA (AV.strip (AV.strip t47)) (.bool true) x55) fun t56 =>
 ifK (AV.strip t56)
 (Q (.bool false) S_4)
 (joinK (fun (S_7 : St) =>
 Q (.bool true) S_7) fun j_7 =>
 optK (some c2) fun _ =>
 optK (lloadA T_s_api_Node (some c2) 3) fun t58 =>
 optK (lenSlA (AV.strip t58)) fun t59 =>
 loopQ ([(.int .i64 0)], [(some c2), (some c3)]) (fun v bx => ([v 60], [bx 2, bx 3])) (fun nx v bx S_5 =>
 optK (binA .lss (v 60) t59) fun t61 =>
 ifK t61
 (optK (bx 2) fun _ =>
 optK (lloadA T_s_api_Node (bx 2) 3) fun t64 =>
 optK (idxSlA T_api_Node (AV.strip t64) (AV.strip (AV.strip (v 60)))) fun t66 =>
 optK (loadA T_api_Node S_5 t66) fun t67 =>
 optK (bx 3) fun _ =>
 optK (lloadA T_s_api_Node (bx 3) 3) fun t69 =>
 optK (idxSlA T_api_Node (AV.strip t69) (AV.strip (AV.strip (v 60)))) fun t71 =>
 optK (loadA T_api_Node S_5 t71) fun t72 =>
 callK Ca F_tree_Same [(AV.strip t67), (AV.strip t72)] S_5 fun t73 S_6 =>
 optK (unA .not t73) fun t74 =>
 ifK t74
 (Q (.bool false) S_6)
 (optK (binA .add (v 60) (.int .i64 1)) fun t75 =>
 nx ([(AV.strip t75)], [(bx 2), (bx 3)]) S_6))
 (j_7 S_5)) S_4)) fun j =>
 ifK (AV.strip (AV.strip t47))
 (j (.tup []))
 (optK (some c2) fun _ =>
 optK (lloadA T_s_api_Node (some c2) 3) fun t50 =>
 optK (lenSlA (AV.strip t50)) fun t51 =>
 optK (some c3) fun _ =>
 optK (lloadA T_s_api_Node (some c3) 3) fun t53 =>
 optK (lenSlA (AV.strip t53)) fun t54 =>
 optK (binA .neq t51 t54) fun t55 =>
 j t55)) fun j_2 =>
 ifK (AV.strip (AV.strip t39))
 (j_2 (.tup []) S_2)
 (optK (some c2) fun _ =>
 optK (lloadA T_s_api_Extent (some c2) 5) fun t42 =>
 optK (some c3) fun _ =>
 optK (lloadA T_s_api_Extent (some c3) 5) fun t44 =>
 callK Ca F_slices_Equal_s_api_Extent_api_Extent [(AV.strip t42), (AV.strip t44)] S_2 fun t45 S_3 =>
 optK (unA .not t45) fun t46 =>
 j_2 t46 S_3)) fun j_3 =>
 ifK (AV.strip (AV.strip t31))
 (j_3 (.tup []) S0)
 (optK (some c2) fun _ =>
 optK (lloadA T_s_string (some c2) 2) fun t34 =>
 optK (some c3) fun _ =>
 optK (lloadA T_s_string (some c3) 2) fun t36 =>
 callK Ca F_slices_Equal_s_string_string [(AV.strip t34), (AV.strip t36)] S0 fun t37 S =>
 optK (unA .not t37) fun t38 =>
 j_3 t38 S)) fun j_4 =>
 ifK (AV.strip (AV.strip t24))
 (j_4 (.tup []))
 (optK (some c2) fun _ =>
 optK (lloadA T_string (some c2) 6) fun t27 =>
 optK (some c3) fun _ =>
 optK (lloadA T_string (some c3) 6) fun t29 =>
 optK (binA .neq (AV.strip t27) (AV.strip t29)) fun t30 =>
 j_4 t30)) fun j_5 =>
 ifK (AV.strip (AV.strip t17))
 (j_5 (.tup []))
 (optK (some c2) fun _ =>
 optK (lloadA T_int (some c2) 4) fun t20 =>
 optK (some c3) fun _ =>
 optK (lloadA T_int (some c3) 4) fun t22 =>
 optK (binA .neq (AV.strip t20) (AV.strip t22)) fun t23 =>
 j_5 t23)) fun j_6 =>
 ifK (AV.strip t10)
 (j_6 (.tup []))
 (optK (some c2) fun _ =>
 optK (lloadA T_bool (some c2) 1) fun t13 =>
 optK (some c3) fun _ =>
 optK (lloadA T_bool (some c3) 1) fun t15 =>
 optK (binE .bool .neq (AV.strip t13) (AV.strip t15)) fun t16 =>
 j_6 t16)
theorem tree_Same_eq (Ca) (a0a : Int) (a0b : Bool) (a0c : List (List AV)) (a0cr : Rt) (a0d : List (List AV)) (a0dr : Rt) (a0e : Int) (a0f : List (List AV)) (a0fr : Rt) (a0g : List UInt8) (a1a : Int) (a1b : Bool) (a1c : List (List AV)) (a1cr : Rt) (a1d : List (List AV)) (a1dr : Rt) (a1e : Int) (a1f : List (List AV)) (a1fr : Rt) (a1g : List UInt8) (S0 Q) : WF C Ca 42 (Drw C Ca 42) Tryd.f42 [(.agg [(.int .i64 a0a), (.bool a0b), (.vs 1 a0c a0cr), (.vs 7 a0d a0dr), (.int .i64 a0e), (.vs 2 a0f a0fr), (.str a0g)]), (.agg [(.int .i64 a1a), (.bool a1b), (.vs 1 a1c a1cr), (.vs 7 a1d a1dr), (.int .i64 a1e), (.vs 2 a1f a1fr), (.str a1g)])] S0 Q = G_tree_Same Ca a0a a0b a0c a0cr a0d a0dr a0e a0f a0fr a0g a1a a1b a1c a1cr a1d a1dr a1e a1f a1fr a1g S0 Q := by kernel_rfl
theorem tree_Same_ok {w0 : World} {a0a : Int} {a0b : Bool} {a0c : List (List AV)} {a0cr : Rt} {a0d : List (List AV)} {a0dr : Rt} {a0e : Int} {a0f : List (List AV)} {a0fr : Rt} {a0g : List UInt8} {a1a : Int} {a1b : Bool} {a1c : List (List AV)} {a1cr : Rt} {a1d : List (List AV)} {a1dr : Rt} {a1e : Int} {a1f : List (List AV)} {a1fr : Rt} {a1g : List UInt8} {S0 : St} {Q : AV → St → Prop} (h : G_tree_Same (ACalls (En w0)) a0a a0b a0c a0cr a0d a0dr a0e a0f a0fr a0g a1a a1b a1c a1cr a1d a1dr a1e a1f a1fr a1g S0 Q) : AC w0 F_tree_Same [(.agg [(.int .i64 a0a), (.bool a0b), (.vs 1 a0c a0cr), (.vs 7 a0d a0dr), (.int .i64 a0e), (.vs 2 a0f a0fr), (.str a0g)]), (.agg [(.int .i64 a1a), (.bool a1b), (.vs 1 a1c a1cr), (.vs 7 a1d a1dr), (.int .i64 a1e), (.vs 2 a1f a1fr), (.str a1g)])] S0 Q := fn_ok w0 Tryd.func42 (by kernel_rfl) (by rw [tree_Same_eq]; exact h)
def G_ref04_Same (Ca : Nat → List AV → St → (AV → St → Prop) → Prop) (a0a : Int) (a0b : Bool) (a0c : List (List AV)) (a0cr : Rt) (a0d : List (List AV)) (a0dr : Rt) (a0e : Int) (a0f : List (List AV)) (a0fr : Rt) (a0g : List UInt8) (a1a : Int) (a1b : Bool) (a1c : List (List AV)) (a1cr : Rt) (a1d : List (List AV)) (a1dr : Rt) (a1e : Int) (a1f : List (List AV)) (a1fr : Rt) (a1g : List UInt8) (S0 : St) (Q : AV → St → Prop) : Prop :=
 optK (boxA T_api_Node (.agg [(.int .i64 a0a), (.bool a0b), (.vs 1 a0c a0cr), (.vs 7 a0d a0dr), (.int .i64 a0e), (.vs 2 a0f a0fr), (.str a0g)])) fun c2 =>
 optK (boxA T_api_Node (.agg [(.int .i64 a1a), (.bool a1b), (.vs 1 a1c a1cr), (.vs 7 a1d a1dr), (.int .i64 a1e), (.vs 2 a1f a1fr), (.str a1g)])) fun c3 =>
 optK (some c2) fun _ =>
 optK (lloadA T_int (some c2) 0) fun t8 =>
 optK (some c3) fun _ =>
 optK (lloadA T_int (some c3) 0) fun t10 =>
 optK (binA .neq (AV.strip t8) (AV.strip t10)) fun t11 =>
 joinK (fun (x17 : AV) =>
 optK (pickA (AV.strip t11) (.bool true) x17) fun t18 =>
 joinK (fun (x24 : AV) =>
 optK (pickA (AV.strip (AV.strip t18)) (.bool true) x24) fun t25 =>
 joinK (fun (x31 : AV) =>
 optK (pickA (AV.strip (AV.strip t25)) (.bool true) x31) fun t32 =>
 joinK (fun (x39 : AV) (S_2 : St) =>
 optK (pickA (AV.strip (AV.strip t32)) (.bool true) x39) fun t40 =>
 joinK (fun (x48 : AV) =>
 optK (pickA (AV.strip (AV.strip t40)) (.bool true) x48) fun t49 =>
 joinK (fun (x57 : AV) =>
 optK (pickA (AV.strip (AV.strip t49)) (.bool true) x57) fun t58 =>
 ifK (AV.strip t58)
 (Q (.bool false) S_2)
 (joinK (fun (y2 : Option (List AV)) (y3 : Option (List AV)) (S_4 : St) =>
 joinK (fun (S_7 : St) =>
 Q (.bool true) S_7) fun j_7 =>
 loopQ ([(.int .i64 0)], [y2, y3]) (fun v_2 bx_2 => ([v_2 6], [bx_2 2, bx_2 3])) (fun nx_2 v_2 bx_2 S_5 =>
 optK (bx_2 2) fun _ =>
 optK (lloadA T_s_api_Node (bx_2 2) 3) fun t79 =>
 optK (lenSlA (AV.strip t79)) fun t80 =>
 optK (binA .lss (AV.strip (v_2 6)) t80) fun t81 =>
 ifK t81
 (optK (bx_2 2) fun _ =>
 optK (lloadA T_s_api_Node (bx_2 2) 3) fun t85 =>
 optK (idxSlA T_api_Node (AV.strip t85) (AV.strip (v_2 6))) fun t87 =>
 optK (loadA T_api_Node S_5 t87) fun t88 =>
 optK (bx_2 3) fun _ =>
 optK (lloadA T_s_api_Node (bx_2 3) 3) fun t90 =>
 optK (idxSlA T_api_Node (AV.strip t90) (AV.strip (v_2 6))) fun t92 =>
 optK (loadA T_api_Node S_5 t92) fun t93 =>
 callK Ca F_ref04_Same [(AV.strip t88), (AV.strip t93)] S_5 fun t94 S_6 =>
 optK (unA .not t94) fun t95 =>
 ifK t95
 (Q (.bool false) S_6)
 (optK (binA .add (AV.strip (v_2 6)) (.int .i64 1)) fun t83 =>
 nx_2 ([t83], [(bx_2 2), (bx_2 3)]) S_6))
 (j_7 S_5)) S_4) fun j_8 =>
 loopQ ([(.int .i64 0)], [(some c2), (some c3)]) (fun v bx => ([v 5], [bx 2, bx 3])) (fun nx v bx S_3 =>
 optK (bx 2) fun _ =>
 optK (lloadA T_s_api_Extent (bx 2) 5) fun t61 =>
 optK (lenSlA (AV.strip t61)) fun t62 =>
 optK (binA .lss (AV.strip (v 5)) t62) fun t63 =>
 ifK t63
 (optK (bx 2) fun _ =>
 optK (lloadA T_s_api_Extent (bx 2) 5) fun t67 =>
 optK (idxSlA T_api_Extent (AV.strip t67) (AV.strip (v 5))) fun t69 =>
 optK (loadA T_api_Extent S_3 t69) fun t70 =>
 optK (bx 3) fun _ =>
 optK (lloadA T_s_api_Extent (bx 3) 5) fun t72 =>
 optK (idxSlA T_api_Extent (AV.strip t72) (AV.strip (v 5))) fun t74 =>
 optK (loadA T_api_Extent S_3 t74) fun t75 =>
 optK (binE (.agg T_api_Extent.zero) .neq (AV.strip t70) (AV.strip t75)) fun t76 =>
 ifK t76
 (Q (.bool false) S_3)
 (optK (binA .add (AV.strip (v 5)) (.int .i64 1)) fun t65 =>
 nx ([t65], [(bx 2), (bx 3)]) S_3))
 (j_8 (bx 2) (bx 3) S_3)) S_2)) fun j =>
 ifK (AV.strip (AV.strip t49))
 (j (.tup []))
 (optK (some c2) fun _ =>
 optK (lloadA T_s_api_Extent (some c2) 5) fun t52 =>
 optK (lenSlA (AV.strip t52)) fun t53 =>
 optK (some c3) fun _ =>
 optK (lloadA T_s_api_Extent (some c3) 5) fun t55 =>
 optK (lenSlA (AV.strip t55)) fun t56 =>
 optK (binA .neq t53 t56) fun t57 =>
 j t57)) fun j_2 =>
 ifK (AV.strip (AV.strip t40))
 (j_2 (.tup []))
 (optK (some c2) fun _ =>
 optK (lloadA T_s_api_Node (some c2) 3) fun t43 =>
 optK (lenSlA (AV.strip t43)) fun t44 =>
 optK (some c3) fun _ =>
 optK (lloadA T_s_api_Node (some c3) 3) fun t46 =>
 optK (lenSlA (AV.strip t46)) fun t47 =>
 optK (binA .neq t44 t47) fun t48 =>
 j_2 t48)) fun j_3 =>
 ifK (AV.strip (AV.strip t32))
 (j_3 (.tup []) S0)
 (optK (some c2) fun _ =>
 optK (lloadA T_s_string (some c2) 2) fun t35 =>
 optK (some c3) fun _ =>
 optK (lloadA T_s_string (some c3) 2) fun t37 =>
 callK Ca F_ref01_Same [(AV.strip t35), (AV.strip t37)] S0 fun t38 S =>
 optK (unA .not t38) fun t39 =>
 j_3 t39 S)) fun j_4 =>
 ifK (AV.strip (AV.strip t25))
 (j_4 (.tup []))
 (optK (some c2) fun _ =>
 optK (lloadA T_string (some c2) 6) fun t28 =>
 optK (some c3) fun _ =>
 optK (lloadA T_string (some c3) 6) fun t30 =>
 optK (binA .neq (AV.strip t28) (AV.strip t30)) fun t31 =>
 j_4 t31)) fun j_5 =>
 ifK (AV.strip (AV.strip t18))
 (j_5 (.tup []))
 (optK (some c2) fun _ =>
 optK (lloadA T_int (some c2) 4) fun t21 =>
 optK (some c3) fun _ =>
 optK (lloadA T_int (some c3) 4) fun t23 =>
 optK (binA .neq (AV.strip t21) (AV.strip t23)) fun t24 =>
 j_5 t24)) fun j_6 =>
 ifK (AV.strip t11)
 (j_6 (.tup []))
 (optK (some c2) fun _ =>
 optK (lloadA T_bool (some c2) 1) fun t14 =>
 optK (some c3) fun _ =>
 optK (lloadA T_bool (some c3) 1) fun t16 =>
 optK (binE .bool .neq (AV.strip t14) (AV.strip t16)) fun t17 =>
 j_6 t17)
theorem ref04_Same_eq (Ca) (a0a : Int) (a0b : Bool) (a0c : List (List AV)) (a0cr : Rt) (a0d : List (List AV)) (a0dr : Rt) (a0e : Int) (a0f : List (List AV)) (a0fr : Rt) (a0g : List UInt8) (a1a : Int) (a1b : Bool) (a1c : List (List AV)) (a1cr : Rt) (a1d : List (List AV)) (a1dr : Rt) (a1e : Int) (a1f : List (List AV)) (a1fr : Rt) (a1g : List UInt8) (S0 Q) : WF C Ca 43 (Drw C Ca 43) Tryd.f43 [(.agg [(.int .i64 a0a), (.bool a0b), (.vs 1 a0c a0cr), (.vs 7 a0d a0dr), (.int .i64 a0e), (.vs 2 a0f a0fr), (.str a0g)]), (.agg [(.int .i64 a1a), (.bool a1b), (.vs 1 a1c a1cr), (.vs 7 a1d a1dr), (.int .i64 a1e), (.vs 2 a1f a1fr), (.str a1g)])] S0 Q = G_ref04_Same Ca a0a a0b a0c a0cr a0d a0dr a0e a0f a0fr a0g a1a a1b a1c a1cr a1d a1dr a1e a1f a1fr a1g S0 Q := by kernel_rfl
theorem ref04_Same_ok {w0 : World} {a0a : Int} {a0b : Bool} {a0c : List (List AV)} {a0cr : Rt} {a0d : List (List AV)} {a0dr : Rt} {a0e : Int} {a0f : List (List AV)} {a0fr : Rt} {a0g : List UInt8} {a1a : Int} {a1b : Bool} {a1c : List (List AV)} {a1cr : Rt} {a1d : List (List AV)} {a1dr : Rt} {a1e : Int} {a1f : List (List AV)} {a1fr : Rt} {a1g : List UInt8} {S0 : St} {Q : AV → St → Prop} (h : G_ref04_Same (ACalls (En w0)) a0a a0b a0c a0cr a0d a0dr a0e a0f a0fr a0g a1a a1b a1c a1cr a1d a1dr a1e a1f a1fr a1g S0 Q) : AC w0 F_ref04_Same [(.agg [(.int .i64 a0a), (.bool a0b), (.vs 1 a0c a0cr), (.vs 7 a0d a0dr), (.int .i64 a0e), (.vs 2 a0f a0fr), (.str a0g)]), (.agg [(.int .i64 a1a), (.bool a1b), (.vs 1 a1c a1cr), (.vs 7 a1d a1dr), (.int .i64 a1e), (.vs 2 a1f a1fr), (.str a1g)])] S0 Q := fn_ok w0 Tryd.func43 (by kernel_rfl) (by rw [ref04_Same_eq]; exact h)
def G_ref04_One (Ca : Nat → List AV → St → (AV → St → Prop) → Prop) (a0a : Int) (a0b : Bool) (a0c : List (List AV)) (a0cr : Rt) (a0d : List (List AV)) (a0dr : Rt) (a0e : Int) (a0f : List (List AV)) (a0fr : Rt) (a0g : List UInt8) (S0 : St) (Q : AV → St → Prop) : Prop :=
 optK (boxA T_api_Node (.agg [(.int .i64 a0a), (.bool a0b), (.vs 1 a0c a0cr), (.vs 7 a0d a0dr), (.int .i64 a0e), (.vs 2 a0f a0fr), (.str a0g)])) fun c1 =>
 optK (some c1) fun _ =>
 optK (lloadA T_bool (some c1) 1) fun t8 =>
 optK (unA .not (AV.strip t8)) fun t9 =>
 joinK (fun (x14 : AV) =>
 optK (pickA (AV.strip t9) x14 (.bool false)) fun t15 =>
 joinK (fun (x20 : AV) =>
 optK (pickA (AV.strip (AV.strip t15)) x20 (.bool false)) fun t21 =>
 optK (some c1) fun _ =>
 optK (lloadA T_int (some c1) 4) fun t23 =>
 optK (binA .eql (AV.strip t23) (.int .i64 0)) fun t24 =>
 joinK (fun (x29 : AV) =>
 optK (pickA (AV.strip t24) x29 (.bool false)) fun t30 =>
 optK (some c1) fun _ =>
 optK (lloadA T_int (some c1) 0) fun t32 =>
 optK (binA .eql (AV.strip t32) (.int .i64 1)) fun t34 =>
 ifK t34
 (joinK (fun (x39 : AV) =>
 optK (pickA (AV.strip (AV.strip (AV.strip t21))) x39 (.bool false)) fun t40 =>
 joinK (fun (x46 : AV) (S_2 : St) =>
 optK (pickA (AV.strip (AV.strip t40)) x46 (.bool false)) fun t47 =>
 Q (AV.strip t47) S_2) fun j =>
 ifK (AV.strip (AV.strip t40))
 (optK (some c1) fun _ =>
 optK (lloadA T_int (some c1) 4) fun t43 =>
 optK (some c1) fun _ =>
 optK (lloadA T_s_api_Extent (some c1) 5) fun t45 =>
 callK Ca F_ref03_Right [(AV.strip t43), (AV.strip t45)] S0 fun t46 S =>
 j t46 S)
 (j (.tup []) S0)) fun j_2 =>
 ifK (AV.strip (AV.strip (AV.strip t21)))
 (optK (some c1) fun _ =>
 optK (lloadA T_string (some c1) 6) fun t38 =>
 optK (binA .eql (AV.strip t38) (.str [])) fun t39 =>
 j_2 t39)
 (j_2 (.tup [])))
 (optK (binA .eql (AV.strip t32) (.int .i64 2)) fun t49 =>
 ifK t49
 (joinK (fun (x54 : AV) =>
 optK (pickA (AV.strip (AV.strip (AV.strip t30))) x54 (.bool false)) fun t55 =>
 joinK (fun (x58 : AV) (S_4 : St) =>
 optK (pickA (AV.strip (AV.strip t55)) x58 (.bool false)) fun t59 =>
 Q (AV.strip t59) S_4) fun j_3 =>
 ifK (AV.strip (AV.strip t55))
 (optK (lloadA T_api_Node (some c1) 0) fun t57 =>
 callK Ca F_ref04_entries [(AV.strip t57)] S0 fun t58 S_3 =>
 j_3 t58 S_3)
 (j_3 (.tup []) S0)) fun j_4 =>
 ifK (AV.strip (AV.strip (AV.strip t30)))
 (optK (some c1) fun _ =>
 optK (lloadA T_string (some c1) 6) fun t53 =>
 optK (binA .eql (AV.strip t53) (.str [])) fun t54 =>
 j_4 t54)
 (j_4 (.tup [])))
 (optK (binA .eql (AV.strip t32) (.int .i64 3)) fun t61 =>
 ifK t61
 (optK (some c1) fun _ =>
 optK (lloadA T_string (some c1) 6) fun t64 =>
 callK Ca F_ref01_Split [(AV.strip t64)] S0 fun t65 S_5 =>
 optK (extractA t65 0) fun t66 =>
 optK (extractA (stripTup t65 0) 1) fun t67 =>
 joinK (fun (x70 : AV) =>
 optK (pickA (AV.strip (AV.strip (AV.strip t21))) x70 (.bool false)) fun t71 =>
 joinK (fun (x73 : AV) =>
 optK (pickA (AV.strip (AV.strip t71)) x73 (.bool false)) fun t74 =>
 joinK (fun (x79 : AV) =>
 optK (pickA (AV.strip (AV.strip t74)) x79 (.bool false)) fun t80 =>
 Q (AV.strip t80) S_5) fun j_5 =>
 ifK (AV.strip (AV.strip t74))
 (optK (some c1) fun _ =>
 optK (lloadA T_string (some c1) 6) fun t77 =>
 optK (lenStrA (AV.strip t77)) fun t78 =>
 optK (binA .leq t78 (.int .i64 256)) fun t79 =>
 j_5 t79)
 (j_5 (.tup []))) fun j_6 =>
 ifK (AV.strip (AV.strip t71))
 (j_6 (AV.strip t67))
 (j_6 (.tup []))) fun j_7 =>
 ifK (AV.strip (AV.strip (AV.strip t21)))
 (j_7 (AV.strip (AV.strip t30)))
 (j_7 (.tup [])))
 (optK (binA .eql (AV.strip t32) (.int .i64 4)) fun t82 =>
 ifK t82
 (joinK (fun (x85 : AV) =>
 optK (pickA (AV.strip (AV.strip (AV.strip t21))) x85 (.bool false)) fun t86 =>
 joinK (fun (x90 : AV) =>
 optK (pickA (AV.strip (AV.strip t86)) x90 (.bool false)) fun t91 =>
 Q (AV.strip t91) S0) fun j_8 =>
 ifK (AV.strip (AV.strip t86))
 (optK (some c1) fun _ =>
 optK (lloadA T_string (some c1) 6) fun t89 =>
 optK (binA .eql (AV.strip t89) (.str [])) fun t90 =>
 j_8 t90)
 (j_8 (.tup []))) fun j_9 =>
 ifK (AV.strip (AV.strip (AV.strip t21)))
 (j_9 (AV.strip (AV.strip t30)))
 (j_9 (.tup [])))
 (Q (.bool false) S0))))) fun j_10 =>
 ifK (AV.strip t24)
 (optK (some c1) fun _ =>
 optK (lloadA T_s_api_Extent (some c1) 5) fun t27 =>
 optK (lenSlA (AV.strip t27)) fun t28 =>
 optK (binA .eql t28 (.int .i64 0)) fun t29 =>
 j_10 t29)
 (j_10 (.tup []))) fun j_11 =>
 ifK (AV.strip (AV.strip t15))
 (optK (some c1) fun _ =>
 optK (lloadA T_s_api_Node (some c1) 3) fun t18 =>
 optK (lenSlA (AV.strip t18)) fun t19 =>
 optK (binA .eql t19 (.int .i64 0)) fun t20 =>
 j_11 t20)
 (j_11 (.tup []))) fun j_12 =>
 ifK (AV.strip t9)
 (optK (some c1) fun _ =>
 optK (lloadA T_s_string (some c1) 2) fun t12 =>
 optK (lenSlA (AV.strip t12)) fun t13 =>
 optK (binA .eql t13 (.int .i64 0)) fun t14 =>
 j_12 t14)
 (j_12 (.tup []))
theorem ref04_One_eq (Ca) (a0a : Int) (a0b : Bool) (a0c : List (List AV)) (a0cr : Rt) (a0d : List (List AV)) (a0dr : Rt) (a0e : Int) (a0f : List (List AV)) (a0fr : Rt) (a0g : List UInt8) (S0 Q) : WF C Ca 44 (Drw C Ca 44) Tryd.f44 [(.agg [(.int .i64 a0a), (.bool a0b), (.vs 1 a0c a0cr), (.vs 7 a0d a0dr), (.int .i64 a0e), (.vs 2 a0f a0fr), (.str a0g)])] S0 Q = G_ref04_One Ca a0a a0b a0c a0cr a0d a0dr a0e a0f a0fr a0g S0 Q := by kernel_rfl
theorem ref04_One_ok {w0 : World} {a0a : Int} {a0b : Bool} {a0c : List (List AV)} {a0cr : Rt} {a0d : List (List AV)} {a0dr : Rt} {a0e : Int} {a0f : List (List AV)} {a0fr : Rt} {a0g : List UInt8} {S0 : St} {Q : AV → St → Prop} (h : G_ref04_One (ACalls (En w0)) a0a a0b a0c a0cr a0d a0dr a0e a0f a0fr a0g S0 Q) : AC w0 F_ref04_One [(.agg [(.int .i64 a0a), (.bool a0b), (.vs 1 a0c a0cr), (.vs 7 a0d a0dr), (.int .i64 a0e), (.vs 2 a0f a0fr), (.str a0g)])] S0 Q := fn_ok w0 Tryd.func44 (by kernel_rfl) (by rw [ref04_One_eq]; exact h)
def G_tree_Find (Ca : Nat → List AV → St → (AV → St → Prop) → Prop) (a0a : Int) (a0b : Bool) (a0c : List (List AV)) (a0cr : Rt) (a0d : List (List AV)) (a0dr : Rt) (a0e : Int) (a0f : List (List AV)) (a0fr : Rt) (a0g : List UInt8) (a1 : List UInt8) (S0 : St) (Q : AV → St → Prop) : Prop :=
 optK (boxA T_api_Node (.agg [(.int .i64 a0a), (.bool a0b), (.vs 1 a0c a0cr), (.vs 7 a0d a0dr), (.int .i64 a0e), (.vs 2 a0f a0fr), (.str a0g)])) fun c2 =>
 optK (some c2) fun _ =>
 optK (lloadA T_s_string (some c2) 2) fun t10 =>
 callK Ca F_slices_BinarySearch_s_string_string [(AV.strip t10), (.str a1)] S0 fun t12 S =>
 optK (extractA t12 0) fun t13 =>
 optK (extractA (stripTup t12 0) 1) fun t14 =>
 optK (unA .not (AV.strip t14)) fun t16 =>
 ifK t16
 (Q (.tup [(.agg [(.int .i64 0), (.bool false), (.vs 1 [] .nil), (.vs 7 [] .nil), (.int .i64 0), (.vs 2 [] .nil), (.str [])]), (.bool false)]) S)
 (optK (some c2) fun _ =>
 optK (lloadA T_s_api_Node (some c2) 3) fun t19 =>
 optK (idxSlA T_api_Node (AV.strip t19) (AV.strip t13)) fun t21 =>
 optK (loadA T_api_Node S t21) fun t22 =>
 optK (lstoreA T_api_Node (some [(.int .i64 0), (.bool false), (.vs 1 [] .nil), (.vs 7 [] .nil), (.int .i64 0), (.vs 2 [] .nil), (.str [])]) 0 (AV.strip t22)) fun b4 =>
 optK ((lloadA T_api_Node (some b4) 0).map AV.strip) fun r4 =>
 Q (.tup [(AV.flat r4), (.bool true)]) S)
theorem tree_Find_eq (Ca) (a0a : Int) (a0b : Bool) (a0c : List (List AV)) (a0cr : Rt) (a0d : List (List AV)) (a0dr : Rt) (a0e : Int) (a0f : List (List AV)) (a0fr : Rt) (a0g : List UInt8) (a1 : List UInt8) (S0 Q) : WF C Ca 45 (Drw C Ca 45) Tryd.f45 [(.agg [(.int .i64 a0a), (.bool a0b), (.vs 1 a0c a0cr), (.vs 7 a0d a0dr), (.int .i64 a0e), (.vs 2 a0f a0fr), (.str a0g)]), (.str a1)] S0 Q = G_tree_Find Ca a0a a0b a0c a0cr a0d a0dr a0e a0f a0fr a0g a1 S0 Q := by kernel_rfl
theorem tree_Find_ok {w0 : World} {a0a : Int} {a0b : Bool} {a0c : List (List AV)} {a0cr : Rt} {a0d : List (List AV)} {a0dr : Rt} {a0e : Int} {a0f : List (List AV)} {a0fr : Rt} {a0g : List UInt8} {a1 : List UInt8} {S0 : St} {Q : AV → St → Prop} (h : G_tree_Find (ACalls (En w0)) a0a a0b a0c a0cr a0d a0dr a0e a0f a0fr a0g a1 S0 Q) : AC w0 F_tree_Find [(.agg [(.int .i64 a0a), (.bool a0b), (.vs 1 a0c a0cr), (.vs 7 a0d a0dr), (.int .i64 a0e), (.vs 2 a0f a0fr), (.str a0g)]), (.str a1)] S0 Q := fn_ok w0 Tryd.func45 (by kernel_rfl) (by rw [tree_Find_eq]; exact h)
def G_ref04_Find (Ca : Nat → List AV → St → (AV → St → Prop) → Prop) (a0a : Int) (a0b : Bool) (a0c : List (List AV)) (a0cr : Rt) (a0d : List (List AV)) (a0dr : Rt) (a0e : Int) (a0f : List (List AV)) (a0fr : Rt) (a0g : List UInt8) (a1 : List UInt8) (S0 : St) (Q : AV → St → Prop) : Prop :=
 optK (boxA T_api_Node (.agg [(.int .i64 a0a), (.bool a0b), (.vs 1 a0c a0cr), (.vs 7 a0d a0dr), (.int .i64 a0e), (.vs 2 a0f a0fr), (.str a0g)])) fun c2 =>
 joinK (fun (S_2 : St) =>
 Q (.int .i64 (-1)) S_2) fun j =>
 loopQ ([(.int .i64 0)], [(some c2)]) (fun v bx => ([v 5], [bx 2])) (fun nx v bx S =>
 optK (bx 2) fun _ =>
 optK (lloadA T_s_string (bx 2) 2) fun t8 =>
 optK (lenSlA (AV.strip t8)) fun t9 =>
 optK (binA .lss (AV.strip (v 5)) t9) fun t10 =>
 ifK t10
 (optK (bx 2) fun _ =>
 optK (lloadA T_s_string (bx 2) 2) fun t14 =>
 optK (idxSlA T_string (AV.strip t14) (AV.strip (v 5))) fun t16 =>
 optK (loadA T_string S t16) fun t17 =>
 optK (binA .eql (AV.strip t17) (.str a1)) fun t19 =>
 ifK t19
 (Q (AV.strip (v 5)) S)
 (optK (binA .add (AV.strip (v 5)) (.int .i64 1)) fun t12 =>
 nx ([t12], [(bx 2)]) S))
 (j S)) S0
theorem ref04_Find_eq (Ca) (a0a : Int) (a0b : Bool) (a0c : List (List AV)) (a0cr : Rt) (a0d : List (List AV)) (a0dr : Rt) (a0e : Int) (a0f : List (List AV)) (a0fr : Rt) (a0g : List UInt8) (a1 : List UInt8) (S0 Q) : WF C Ca 46 (Drw C Ca 46) Tryd.f46 [(.agg [(.int .i64 a0a), (.bool a0b), (.vs 1 a0c a0cr), (.vs 7 a0d a0dr), (.int .i64 a0e), (.vs 2 a0f a0fr), (.str a0g)]), (.str a1)] S0 Q = G_ref04_Find Ca a0a a0b a0c a0cr a0d a0dr a0e a0f a0fr a0g a1 S0 Q := by kernel_rfl
theorem ref04_Find_ok {w0 : World} {a0a : Int} {a0b : Bool} {a0c : List (List AV)} {a0cr : Rt} {a0d : List (List AV)} {a0dr : Rt} {a0e : Int} {a0f : List (List AV)} {a0fr : Rt} {a0g : List UInt8} {a1 : List UInt8} {S0 : St} {Q : AV → St → Prop} (h : G_ref04_Find (ACalls (En w0)) a0a a0b a0c a0cr a0d a0dr a0e a0f a0fr a0g a1 S0 Q) : AC w0 F_ref04_Find [(.agg [(.int .i64 a0a), (.bool a0b), (.vs 1 a0c a0cr), (.vs 7 a0d a0dr), (.int .i64 a0e), (.vs 2 a0f a0fr), (.str a0g)]), (.str a1)] S0 Q := fn_ok w0 Tryd.func46 (by kernel_rfl) (by rw [ref04_Find_eq]; exact h)
def G_tree_Text (Ca : Nat → List AV → St → (AV → St → Prop) → Prop) (a0 : List UInt8) (S0 : St) (Q : AV → St → Prop) : Prop :=
 Ca F_extent_Of [(.str a0)] S0 fun t6 S =>
 optK (buildA T_api_Node 1 [(0, (.int .i64 1)), (4, (.int .i64 (List.length a0 : Int))), (5, t6)]) fun t7 =>
 optK (lstoreA T_api_Node (some [(.int .i64 0), (.bool false), (.vs 1 [] .nil), (.vs 7 [] .nil), (.int .i64 0), (.vs 2 [] .nil), (.str [])]) 0 t7) fun b2 =>
 optK ((lloadA T_api_Node (some b2) 0).map AV.strip) fun r2 =>
 Q r2 S
theorem tree_Text_eq (Ca) (a0 : List UInt8) (S0 Q) : WF C Ca 47 (Drw C Ca 47) Tryd.f47 [(.str a0)] S0 Q = G_tree_Text Ca a0 S0 Q := by kernel_rfl
theorem tree_Text_ok {w0 : World} {a0 : List UInt8} {S0 : St} {Q : AV → St → Prop} (h : G_tree_Text (ACalls (En w0)) a0 S0 Q) : AC w0 F_tree_Text [(.str a0)] S0 Q := fn_ok w0 Tryd.func47 (by kernel_rfl) (by rw [tree_Text_eq]; exact h)
def G_ref03_Read (Ca : Nat → List AV → St → (AV → St → Prop) → Prop) (a0 : Int) (a1 : List (List AV)) (a1r : Rt) (a2 : Int) (a3 : Int) (S0 : St) (Q : AV → St → Prop) : Prop :=
 ifK (.bool (decide (a2 < 0)))
 (Q (.str []) S0)
 (joinK (fun (x9 : AV) (S_3 : St) =>
 optK (convBytesA (AV.strip x9)) fun t35 =>
 Q t35 S_3) fun j_2 =>
 loopQ ([(.vs 1 [] .full), (.int .i64 0)], []) (fun v bx => ([v 9, v 10], [])) (fun nx v bx S =>
 optK (binA .lss (AV.strip (v 10)) (.int .i64 a3)) fun t16 =>
 joinK (fun (x22 : AV) =>
 optK (pickA (AV.strip t16) x22 (.bool false)) fun t23 =>
 ifK (AV.strip t23)
 (optK (binA .add (.int .i64 a2) (AV.strip (v 10))) fun t30 =>
 callK Ca F_ref03_At [(.vs 2 a1 (Rt.strip a1r)), t30] S fun t31 S_2 =>
 optK (elemVals 1 [t31]) fun e32 =>
 optK (appendA T_uint8 S_2 (v 9) (.vs 1 e32 .full)) fun t33 =>
 optK (binA .add (AV.strip (v 10)) (.int .i64 1)) fun t25 =>
 nx ([t33, t25], []) S_2)
 (j_2 (v 9) S)) fun j =>
 ifK (AV.strip t16)
 (optK (binA .lss (AV.strip (v 10)) (.int .i64 (IntKind.i64.wrap (a0 - a2)))) fun t22 =>
 j t22)
 (j (.tup []))) S0)
theorem ref03_Read_eq (Ca) (a0 : Int) (a1 : List (List AV)) (a1r : Rt) (a2 : Int) (a3 : Int) (S0 Q) : WF C Ca 48 (Drw C Ca 48) Tryd.f48 [(.int .i64 a0), (.vs 2 a1 a1r), (.int .i64 a2), (.int .i64 a3)] S0 Q = G_ref03_Read Ca a0 a1 a1r a2 a3 S0 Q := by kernel_rfl
theorem ref03_Read_ok {w0 : World} {a0 : Int} {a1 : List (List AV)} {a1r : Rt} {a2 : Int} {a3 : Int} {S0 : St} {Q : AV → St → Prop} (h : G_ref03_Read (ACalls (En w0)) a0 a1 a1r a2 a3 S0 Q) : AC w0 F_ref03_Read [(.int .i64 a0), (.vs 2 a1 a1r), (.int .i64 a2), (.int .i64 a3)] S0 Q := fn_ok w0 Tryd.func48 (by kernel_rfl) (by rw [ref03_Read_eq]; exact h)
def G_tree_Link (Ca : Nat → List AV → St → (AV → St → Prop) → Prop) (a0 : List UInt8) (S0 : St) (Q : AV → St → Prop) : Prop :=
 Q (.agg [(.int .i64 3), (.bool false), (.vs 1 [] .nil), (.vs 7 [] .nil), (.int .i64 0), (.vs 2 [] .nil), (.str a0)]) S0
theorem tree_Link_eq (Ca) (a0 : List UInt8) (S0 Q) : WF C Ca 49 (Drw C Ca 49) Tryd.f49 [(.str a0)] S0 Q = G_tree_Link Ca a0 S0 Q := by kernel_rfl
theorem tree_Link_ok {w0 : World} {a0 : List UInt8} {S0 : St} {Q : AV → St → Prop} (h : G_tree_Link (ACalls (En w0)) a0 S0 Q) : AC w0 F_tree_Link [(.str a0)] S0 Q := fn_ok w0 Tryd.func49 (by kernel_rfl) (by rw [tree_Link_eq]; exact h)
def G_tree_White (Ca : Nat → List AV → St → (AV → St → Prop) → Prop) (S0 : St) (Q : AV → St → Prop) : Prop :=
 Q (.agg [(.int .i64 4), (.bool false), (.vs 1 [] .nil), (.vs 7 [] .nil), (.int .i64 0), (.vs 2 [] .nil), (.str [])]) S0
theorem tree_White_eq (Ca) (S0 Q) : WF C Ca 50 (Drw C Ca 50) Tryd.f50 [] S0 Q = G_tree_White Ca  S0 Q := by kernel_rfl
theorem tree_White_ok {w0 : World} {S0 : St} {Q : AV → St → Prop} (h : G_tree_White (ACalls (En w0))  S0 Q) : AC w0 F_tree_White [] S0 Q := fn_ok w0 Tryd.func50 (by kernel_rfl) (by rw [tree_White_eq]; exact h)
def G_tree_Opaque (Ca : Nat → List AV → St → (AV → St → Prop) → Prop) (a0a : Int) (a0b : Bool) (a0c : List (List AV)) (a0cr : Rt) (a0d : List (List AV)) (a0dr : Rt) (a0e : Int) (a0f : List (List AV)) (a0fr : Rt) (a0g : List UInt8) (S0 : St) (Q : AV → St → Prop) : Prop :=
 optK (boxA T_api_Node (.agg [(.int .i64 a0a), (.bool a0b), (.vs 1 a0c a0cr), (.vs 7 a0d a0dr), (.int .i64 a0e), (.vs 2 a0f a0fr), (.str a0g)])) fun c1 =>
 optK (some c1) fun _ =>
 optK (lstoreA T_bool (some c1) 1 (.bool true)) fun b1 =>
 optK (lloadA T_api_Node (some b1) 0) fun t4 =>
 optK (lstoreA T_api_Node (some [(.int .i64 0), (.bool false), (.vs 1 [] .nil), (.vs 7 [] .nil), (.int .i64 0), (.vs 2 [] .nil), (.str [])]) 0 (AV.strip t4)) fun b2 =>
 optK ((lloadA T_api_Node (some b2) 0).map AV.strip) fun r2 =>
 Q r2 S0
theorem tree_Opaque_eq (Ca) (a0a : Int) (a0b : Bool) (a0c : List (List AV)) (a0cr : Rt) (a0d : List (List AV)) (a0dr : Rt) (a0e : Int) (a0f : List (List AV)) (a0fr : Rt) (a0g : List UInt8) (S0 Q) : WF C Ca 51 (Drw C Ca 51) Tryd.f51 [(.agg [(.int .i64 a0a), (.bool a0b), (.vs 1 a0c a0cr), (.vs 7 a0d a0dr), (.int .i64 a0e), (.vs 2 a0f a0fr), (.str a0g)])] S0 Q = G_tree_Opaque Ca a0a a0b a0c a0cr a0d a0dr a0e a0f a0fr a0g S0 Q := by kernel_rfl
theorem tree_Opaque_ok {w0 : World} {a0a : Int} {a0b : Bool} {a0c : List (List AV)} {a0cr : Rt} {a0d : List (List AV)} {a0dr : Rt} {a0e : Int} {a0f : List (List AV)} {a0fr : Rt} {a0g : List UInt8} {S0 : St} {Q : AV → St → Prop} (h : G_tree_Opaque (ACalls (En w0)) a0a a0b a0c a0cr a0d a0dr a0e a0f a0fr a0g S0 Q) : AC w0 F_tree_Opaque [(.agg [(.int .i64 a0a), (.bool a0b), (.vs 1 a0c a0cr), (.vs 7 a0d a0dr), (.int .i64 a0e), (.vs 2 a0f a0fr), (.str a0g)])] S0 Q := fn_ok w0 Tryd.func51 (by kernel_rfl) (by rw [tree_Opaque_eq]; exact h)
def G_law05_speaks (Ca : Nat → List AV → St → (AV → St → Prop) → Prop) (S0 : St) (Q : AV → St → Prop) : Prop :=
 Ca F_tree_Dir [(.vs 1 [] .nil), (.vs 7 [] .nil)] S0 fun t6 S =>
 callK Ca F_image_Encode [t6] S fun t7 S_2 =>
 optK (extractA t7 0) fun t8 =>
 optK (extractA (stripTup t7 0) 1) fun t9 =>
 callK Ca F_image_Decode [(AV.strip t8)] S_2 fun t12 S_3 =>
 optK (extractA t12 0) fun t13 =>
 optK (extractA (stripTup t12 0) 1) fun t14 =>
 optK (lstoreA T_api_Node (some [(.int .i64 0), (.bool false), (.vs 1 [] .nil), (.vs 7 [] .nil), (.int .i64 0), (.vs 2 [] .nil), (.str [])]) 0 t13) fun b3 =>
 optK (binA .eql (AV.strip t9) (.int .i64 0)) fun t16 =>
 joinK (fun (x19 : AV) =>
 optK (pickA (AV.strip t16) x19 (.bool false)) fun t20 =>
 joinK (fun (x23 : AV) =>
 optK (pickA (AV.strip (AV.strip t20)) x23 (.bool false)) fun t24 =>
 joinK (fun (x28 : AV) =>
 optK (pickA (AV.strip (AV.strip t24)) x28 (.bool false)) fun t29 =>
 joinK (fun (x34 : AV) =>
 optK (pickA (AV.strip (AV.strip t29)) x34 (.bool false)) fun t35 =>
 Q (AV.strip t35) S_3) fun j =>
 ifK (AV.strip (AV.strip t29))
 (optK (some b3) fun _ =>
 optK (lloadA T_s_string (some b3) 2) fun t32 =>
 optK (lenSlA (AV.strip t32)) fun t33 =>
 optK (binA .eql t33 (.int .i64 0)) fun t34 =>
 j t34)
 (j (.tup []))) fun j_2 =>
 ifK (AV.strip (AV.strip t24))
 (optK (some b3) fun _ =>
 optK (lloadA T_int (some b3) 0) fun t27 =>
 optK (binA .eql (AV.strip t27) (.int .i64 2)) fun t28 =>
 j_2 t28)
 (j_2 (.tup []))) fun j_3 =>
 ifK (AV.strip (AV.strip t20))
 (optK (binA .eql (AV.strip t14) (.int .i64 0)) fun t23 =>
 j_3 t23)
 (j_3 (.tup []))) fun j_4 =>
 ifK (AV.strip t16)
 (optK (binA .eql (AV.strip t8) (.str [115, 111, 99, 97, 103, 101, 49, 2, 0, 0, 0])) fun t19 =>
 j_4 t19)
 (j_4 (.tup []))
theorem law05_speaks_eq (Ca) (S0 Q) : WF C Ca 52 (Drw C Ca 52) Tryd.f52 [] S0 Q = G_law05_speaks Ca  S0 Q := by kernel_rfl
theorem law05_speaks_ok {w0 : World} {S0 : St} {Q : AV → St → Prop} (h : G_law05_speaks (ACalls (En w0))  S0 Q) : AC w0 F_law05_speaks [] S0 Q := fn_ok w0 Tryd.func52 (by kernel_rfl) (by rw [law05_speaks_eq]; exact h)
def G_image_Encode (Ca : Nat → List AV → St → (AV → St → Prop) → Prop) (a0a : Int) (a0b : Bool) (a0c : List (List AV)) (a0cr : Rt) (a0d : List (List AV)) (a0dr : Rt) (a0e : Int) (a0f : List (List AV)) (a0fr : Rt) (a0g : List UInt8) (S0 : St) (Q : AV → St → Prop) : Prop :=
 optK (boxA T_api_Node (.agg [(.int .i64 a0a), (.bool a0b), (.vs 1 a0c a0cr), (.vs 7 a0d a0dr), (.int .i64 a0e), (.vs 2 a0f a0fr), (.str a0g)])) fun c1 =>
 optK (lloadA T_api_Node (some c1) 0) fun t6 =>
 callK Ca F_tree_Right [(AV.strip t6)] S0 fun t7 S =>
 optK (unA .not t7) fun t8 =>
 ifK t8
 (Q (.tup [(.str []), (.int .i64 1)]) S)
 (optK (lloadA T_api_Node (some c1) 0) fun t9 =>
 callK Ca F_image_put [(.ptr S.length 0), (AV.strip t9)] (S ++ [.cells T_wire_Writer.zero t_wire_Writer]) fun t10 S_2 =>
 Ca F_wire_Writer_Bytes [(.ptr S.length 0)] S_2 fun t11 S_3 =>
 optK (binA .add (.str [115, 111, 99, 97, 103, 101, 49]) t11) fun t12 =>
 optK (lenStrA (AV.strip t12)) fun t14 =>
 optK (binA .gtr t14 (.int .i64 4194304)) fun t15 =>
 ifK t15
 (Q (.tup [(.str []), (.int .i64 1)]) S_3)
 (Q (.tup [(AV.flat (AV.strip t12)), (.int .i64 0)]) S_3))
theorem image_Encode_eq (Ca) (a0a : Int) (a0b : Bool) (a0c : List (List AV)) (a0cr : Rt) (a0d : List (List AV)) (a0dr : Rt) (a0e : Int) (a0f : List (List AV)) (a0fr : Rt) (a0g : List UInt8) (S0 Q) : WF C Ca 53 (Drw C Ca 53) Tryd.f53 [(.agg [(.int .i64 a0a), (.bool a0b), (.vs 1 a0c a0cr), (.vs 7 a0d a0dr), (.int .i64 a0e), (.vs 2 a0f a0fr), (.str a0g)])] S0 Q = G_image_Encode Ca a0a a0b a0c a0cr a0d a0dr a0e a0f a0fr a0g S0 Q := by kernel_rfl
theorem image_Encode_ok {w0 : World} {a0a : Int} {a0b : Bool} {a0c : List (List AV)} {a0cr : Rt} {a0d : List (List AV)} {a0dr : Rt} {a0e : Int} {a0f : List (List AV)} {a0fr : Rt} {a0g : List UInt8} {S0 : St} {Q : AV → St → Prop} (h : G_image_Encode (ACalls (En w0)) a0a a0b a0c a0cr a0d a0dr a0e a0f a0fr a0g S0 Q) : AC w0 F_image_Encode [(.agg [(.int .i64 a0a), (.bool a0b), (.vs 1 a0c a0cr), (.vs 7 a0d a0dr), (.int .i64 a0e), (.vs 2 a0f a0fr), (.str a0g)])] S0 Q := fn_ok w0 Tryd.func53 (by kernel_rfl) (by rw [image_Encode_eq]; exact h)
def G_ref05_Encode (Ca : Nat → List AV → St → (AV → St → Prop) → Prop) (a0a : Int) (a0b : Bool) (a0c : List (List AV)) (a0cr : Rt) (a0d : List (List AV)) (a0dr : Rt) (a0e : Int) (a0f : List (List AV)) (a0fr : Rt) (a0g : List UInt8) (S0 : St) (Q : AV → St → Prop) : Prop :=
 optK (boxA T_api_Node (.agg [(.int .i64 a0a), (.bool a0b), (.vs 1 a0c a0cr), (.vs 7 a0d a0dr), (.int .i64 a0e), (.vs 2 a0f a0fr), (.str a0g)])) fun c1 =>
 optK (lloadA T_api_Node (some c1) 0) fun t5 =>
 callK Ca F_ref04_Right [(AV.strip t5)] S0 fun t6 S =>
 optK (unA .not t6) fun t7 =>
 ifK t7
 (Q (.tup [(.str []), (.bool false)]) S)
 (optK (lloadA T_api_Node (some c1) 0) fun t8 =>
 callK Ca F_ref05_Put [(AV.strip t8)] S fun t9 S_2 =>
 optK (binA .add (.str [115, 111, 99, 97, 103, 101, 49]) t9) fun t10 =>
 optK (lenStrA (AV.strip t10)) fun t12 =>
 optK (binA .gtr t12 (.int .i64 4194304)) fun t13 =>
 ifK t13
 (Q (.tup [(.str []), (.bool false)]) S_2)
 (Q (.tup [(AV.flat (AV.strip t10)), (.bool true)]) S_2))
theorem ref05_Encode_eq (Ca) (a0a : Int) (a0b : Bool) (a0c : List (List AV)) (a0cr : Rt) (a0d : List (List AV)) (a0dr : Rt) (a0e : Int) (a0f : List (List AV)) (a0fr : Rt) (a0g : List UInt8) (S0 Q) : WF C Ca 54 (Drw C Ca 54) Tryd.f54 [(.agg [(.int .i64 a0a), (.bool a0b), (.vs 1 a0c a0cr), (.vs 7 a0d a0dr), (.int .i64 a0e), (.vs 2 a0f a0fr), (.str a0g)])] S0 Q = G_ref05_Encode Ca a0a a0b a0c a0cr a0d a0dr a0e a0f a0fr a0g S0 Q := by kernel_rfl
theorem ref05_Encode_ok {w0 : World} {a0a : Int} {a0b : Bool} {a0c : List (List AV)} {a0cr : Rt} {a0d : List (List AV)} {a0dr : Rt} {a0e : Int} {a0f : List (List AV)} {a0fr : Rt} {a0g : List UInt8} {S0 : St} {Q : AV → St → Prop} (h : G_ref05_Encode (ACalls (En w0)) a0a a0b a0c a0cr a0d a0dr a0e a0f a0fr a0g S0 Q) : AC w0 F_ref05_Encode [(.agg [(.int .i64 a0a), (.bool a0b), (.vs 1 a0c a0cr), (.vs 7 a0d a0dr), (.int .i64 a0e), (.vs 2 a0f a0fr), (.str a0g)])] S0 Q := fn_ok w0 Tryd.func54 (by kernel_rfl) (by rw [ref05_Encode_eq]; exact h)
def G_image_Decode (Ca : Nat → List AV → St → (AV → St → Prop) → Prop) (a0 : List UInt8) (S0 : St) (Q : AV → St → Prop) : Prop :=
 joinK (fun (x12 : AV) =>
 optK (pickA (.bool (decide ((List.length a0 : Int) > 4194304))) (.bool true) x12) fun t13 =>
 joinK (fun (x17 : AV) =>
 optK (pickA (AV.strip (AV.strip t13)) (.bool true) x17) fun t18 =>
 ifK (AV.strip t18)
 (Q (.tup [(.agg [(.int .i64 0), (.bool false), (.vs 1 [] .nil), (.vs 7 [] .nil), (.int .i64 0), (.vs 2 [] .nil), (.str [])]), (.int .i64 1)]) S0)
 (optK (cutStrA (.str a0) (some (.int .i64 7)) none) fun t21 =>
 callK Ca F_wire_Read [t21] S0 fun t22 S =>
 optK (buildA T_image_reader 1 [(0, t22), (2, (.int .i64 4096))]) fun t23 =>
 optK (boxA T_image_reader t23) fun c24 =>
 Ca F_image_reader_node [(.ptr S.length 0), (.int .i64 0)] (S ++ [.cells c24 t_image_reader]) fun t26 S_2 =>
 optK (lstoreA T_api_Node (some [(.int .i64 0), (.bool false), (.vs 1 [] .nil), (.vs 7 [] .nil), (.int .i64 0), (.vs 2 [] .nil), (.str [])]) 0 t26) fun b5 =>
 optK (loadA T_bool S_2 (.ptr S.length 1)) fun t30 =>
 joinK (fun (x37 : AV) (S_4 : St) =>
 optK (pickA (AV.strip (AV.strip t30)) (.bool true) x37) fun t38 =>
 joinK (fun (x42 : AV) (S_6 : St) =>
 optK (pickA (AV.strip (AV.strip t38)) (.bool true) x42) fun t43 =>
 ifK (AV.strip t43)
 (Q (.tup [(.agg [(.int .i64 0), (.bool false), (.vs 1 [] .nil), (.vs 7 [] .nil), (.int .i64 0), (.vs 2 [] .nil), (.str [])]), (.int .i64 1)]) S_6)
 (optK (lloadA T_api_Node (some b5) 0) fun t45 =>
 optK (lstoreA T_api_Node (some [(.int .i64 0), (.bool false), (.vs 1 [] .nil), (.vs 7 [] .nil), (.int .i64 0), (.vs 2 [] .nil), (.str [])]) 0 (AV.strip t45)) fun b2 =>
 optK ((lloadA T_api_Node (some b2) 0).map AV.strip) fun r2 =>
 Q (.tup [(AV.flat r2), (.int .i64 0)]) S_6)) fun j_3 =>
 ifK (AV.strip (AV.strip t38))
 (j_3 (.tup []) S_4)
 (optK (lloadA T_api_Node (some b5) 0) fun t40 =>
 callK Ca F_tree_Right [(AV.strip t40)] S_4 fun t41 S_5 =>
 optK (unA .not t41) fun t42 =>
 j_3 t42 S_5)) fun j_4 =>
 ifK (AV.strip (AV.strip t30))
 (j_4 (.tup []) S_2)
 (optK (loadA T_p_wire_Reader S_2 (.ptr S.length 0)) fun t35 =>
 callK Ca F_wire_Reader_Left [(AV.strip t35)] S_2 fun t36 S_3 =>
 optK (binA .gtr t36 (.int .i64 0)) fun t37 =>
 j_4 t37 S_3))) fun j =>
 ifK (AV.strip (AV.strip t13))
 (j (.tup []))
 (optK (cutStrA (.str a0) none (some (.int .i64 7))) fun t16 =>
 optK (binA .neq t16 (.str [115, 111, 99, 97, 103, 101, 49])) fun t17 =>
 j t17)) fun j_2 =>
 ifK (.bool (decide ((List.length a0 : Int) > 4194304)))
 (j_2 (.tup []))
 (j_2 (.bool (decide ((List.length a0 : Int) < 7))))
theorem image_Decode_eq (Ca) (a0 : List UInt8) (S0 Q) : WF C Ca 55 (Drw C Ca 55) Tryd.f55 [(.str a0)] S0 Q = G_image_Decode Ca a0 S0 Q := by kernel_rfl
theorem image_Decode_ok {w0 : World} {a0 : List UInt8} {S0 : St} {Q : AV → St → Prop} (h : G_image_Decode (ACalls (En w0)) a0 S0 Q) : AC w0 F_image_Decode [(.str a0)] S0 Q := fn_ok w0 Tryd.func55 (by kernel_rfl) (by rw [image_Decode_eq]; exact h)
def G_ref05_Decode (Ca : Nat → List AV → St → (AV → St → Prop) → Prop) (a0 : List UInt8) (S0 : St) (Q : AV → St → Prop) : Prop :=
 joinK (fun (x11 : AV) =>
 optK (pickA (.bool (decide ((List.length a0 : Int) < 7))) (.bool true) x11) fun t12 =>
 joinK (fun (x16 : AV) =>
 optK (pickA (AV.strip (AV.strip t12)) (.bool true) x16) fun t17 =>
 ifK (AV.strip t17)
 (Q (.tup [(.agg [(.int .i64 0), (.bool false), (.vs 1 [] .nil), (.vs 7 [] .nil), (.int .i64 0), (.vs 2 [] .nil), (.str [])]), (.bool false)]) S0)
 (optK (cutStrA (.str a0) (some (.int .i64 7)) none) fun t20 =>
 callK Ca F_ref05_get [t20, (.int .i64 0)] S0 fun t21 S =>
 optK (lstoreA T_socageref05_Got (some [(.int .i64 0), (.bool false), (.vs 1 [] .nil), (.vs 7 [] .nil), (.int .i64 0), (.vs 2 [] .nil), (.str []), (.int .i64 0)]) 0 t21) fun b4 =>
 optK (some b4) fun _ =>
 optK (lloadA T_int (some b4) 7) fun t23 =>
 optK (binA .neq (AV.strip t23) (.int .i64 (IntKind.i64.wrap ((List.length a0 : Int) - 7)))) fun t27 =>
 joinK (fun (x32 : AV) (S_3 : St) =>
 optK (pickA (AV.strip t27) (.bool true) x32) fun t33 =>
 ifK (AV.strip t33)
 (Q (.tup [(.agg [(.int .i64 0), (.bool false), (.vs 1 [] .nil), (.vs 7 [] .nil), (.int .i64 0), (.vs 2 [] .nil), (.str [])]), (.bool false)]) S_3)
 (optK (some b4) fun _ =>
 optK (lloadA T_api_Node (some b4) 0) fun t36 =>
 optK (lstoreA T_api_Node (some [(.int .i64 0), (.bool false), (.vs 1 [] .nil), (.vs 7 [] .nil), (.int .i64 0), (.vs 2 [] .nil), (.str [])]) 0 (AV.strip t36)) fun b2 =>
 optK ((lloadA T_api_Node (some b2) 0).map AV.strip) fun r2 =>
 Q (.tup [(AV.flat r2), (.bool true)]) S_3)) fun j_3 =>
 ifK (AV.strip t27)
 (j_3 (.tup []) S)
 (optK (some b4) fun _ =>
 optK (lloadA T_api_Node (some b4) 0) fun t30 =>
 callK Ca F_ref04_Right [(AV.strip t30)] S fun t31 S_2 =>
 optK (unA .not t31) fun t32 =>
 j_3 t32 S_2))) fun j =>
 ifK (AV.strip (AV.strip t12))
 (j (.tup []))
 (optK (cutStrA (.str a0) none (some (.int .i64 7))) fun t15 =>
 optK (binA .neq t15 (.str [115, 111, 99, 97, 103, 101, 49])) fun t16 =>
 j t16)) fun j_2 =>
 ifK (.bool (decide ((List.length a0 : Int) < 7)))
 (j_2 (.tup []))
 (j_2 (.bool (decide ((List.length a0 : Int) > 4194304))))
theorem ref05_Decode_eq (Ca) (a0 : List UInt8) (S0 Q) : WF C Ca 56 (Drw C Ca 56) Tryd.f56 [(.str a0)] S0 Q = G_ref05_Decode Ca a0 S0 Q := by kernel_rfl
theorem ref05_Decode_ok {w0 : World} {a0 : List UInt8} {S0 : St} {Q : AV → St → Prop} (h : G_ref05_Decode (ACalls (En w0)) a0 S0 Q) : AC w0 F_ref05_Decode [(.str a0)] S0 Q := fn_ok w0 Tryd.func56 (by kernel_rfl) (by rw [ref05_Decode_eq]; exact h)
def G_law08_speaks (Ca : Nat → List AV → St → (AV → St → Prop) → Prop) (S0 : St) (Q : AV → St → Prop) : Prop :=
 Ca F_tree_Text [(.str [120])] S0 fun t10 S =>
 Ca F_tree_Text [(.str [121])] S fun t11 S_2 =>
 optK (elemVals 7 [t10, t11]) fun e12 =>
 Ca F_tree_Dir [(.vs 1 [[(.str [97])], [(.str [98])]] .full), (.vs 7 e12 .full)] S_2 fun t13 S_3 =>
 Ca F_tree_White [] S_3 fun t15 S_4 =>
 optK (elemVals 7 [t15]) fun e16 =>
 Ca F_tree_Dir [(.vs 1 [[(.str [97])]] .full), (.vs 7 e16 .full)] S_4 fun t17 S_5 =>
 optK (elemVals 7 [t13, t17]) fun e18 =>
 Ca F_stack_Of [(.vs 7 e18 .full)] S_5 fun t19 S_6 =>
 optK (extractA t19 0) fun t20 =>
 optK (extractA (stripTup t19 0) 1) fun t21 =>
 optK (lstoreA T_stack_Stack (some [(.vs 2 [] .nil), (.int .i64 0)]) 0 t20) fun b1 =>
 optK (binA .neq (AV.strip t21) (.int .i64 0)) fun t23 =>
 joinK (fun (x27 : AV) (S_8 : St) =>
 optK (pickA (AV.strip t23) (.bool true) x27) fun t28 =>
 ifK (AV.strip t28)
 (Q (.bool false) S_8)
 (optK (lloadA T_stack_Stack (some b1) 0) fun t29 =>
 callK Ca F_seen_Root [(AV.strip t29)] S_8 fun t30 S_9 =>
 optK (lloadA T_stack_Stack (some b1) 0) fun t32 =>
 callK Ca F_seen_Look [(AV.strip t32), (AV.strip t30), (.str [97])] S_9 fun t34 S_10 =>
 optK (extractA t34 0) fun t35 =>
 optK (extractA (stripTup t34 0) 1) fun t36 =>
 optK (lstoreA T_seen_Found (some [(.int .i64 0), (.int .i64 0), (.int .i64 0), (.vs 2 [] .nil)]) 0 t35) fun b4 =>
 optK (lloadA T_stack_Stack (some b1) 0) fun t38 =>
 callK Ca F_seen_Look [(AV.strip t38), (AV.strip t30), (.str [98])] S_10 fun t40 S_11 =>
 optK (extractA t40 0) fun t41 =>
 optK (extractA (stripTup t40 0) 1) fun t42 =>
 optK (lstoreA T_seen_Found (some [(.int .i64 0), (.int .i64 0), (.int .i64 0), (.vs 2 [] .nil)]) 0 t41) fun b6 =>
 optK (lenSlA (AV.strip t30)) fun t44 =>
 optK (binA .eql t44 (.int .i64 2)) fun t45 =>
 joinK (fun (x48 : AV) =>
 optK (pickA (AV.strip t45) x48 (.bool false)) fun t49 =>
 joinK (fun (x51 : AV) =>
 optK (pickA (AV.strip (AV.strip t49)) x51 (.bool false)) fun t52 =>
 joinK (fun (x56 : AV) =>
 optK (pickA (AV.strip (AV.strip t52)) x56 (.bool false)) fun t57 =>
 joinK (fun (x62 : AV) =>
 optK (pickA (AV.strip (AV.strip t57)) x62 (.bool false)) fun t63 =>
 Q (AV.strip t63) S_11) fun j_2 =>
 ifK (AV.strip (AV.strip t57))
 (optK (some b6) fun _ =>
 optK (lloadA T_seen_Spot (some b6) 1) fun t60 =>
 optK (binE (.agg T_seen_Spot.zero) .eql (AV.strip t60) (.agg [(.int .i64 1), (.int .i64 2)])) fun t62 =>
 j_2 t62)
 (j_2 (.tup []))) fun j_3 =>
 ifK (AV.strip (AV.strip t52))
 (optK (some b6) fun _ =>
 optK (lloadA T_int (some b6) 0) fun t55 =>
 optK (binA .eql (AV.strip t55) (.int .i64 1)) fun t56 =>
 j_3 t56)
 (j_3 (.tup []))) fun j_4 =>
 ifK (AV.strip (AV.strip t49))
 (j_4 (AV.strip t42))
 (j_4 (.tup []))) fun j_5 =>
 ifK (AV.strip t45)
 (optK (unA .not (AV.strip t36)) fun t48 =>
 j_5 t48)
 (j_5 (.tup [])))) fun j =>
 ifK (AV.strip t23)
 (j (.tup []) S_6)
 (optK (lloadA T_stack_Stack (some b1) 0) fun t25 =>
 callK Ca F_stack_Stack_Len [(AV.strip t25)] S_6 fun t26 S_7 =>
 optK (binA .neq t26 (.int .i64 2)) fun t27 =>
 j t27 S_7)
theorem law08_speaks_eq (Ca) (S0 Q) : WF C Ca 57 (Drw C Ca 57) Tryd.f57 [] S0 Q = G_law08_speaks Ca  S0 Q := by kernel_rfl
theorem law08_speaks_ok {w0 : World} {S0 : St} {Q : AV → St → Prop} (h : G_law08_speaks (ACalls (En w0))  S0 Q) : AC w0 F_law08_speaks [] S0 Q := fn_ok w0 Tryd.func57 (by kernel_rfl) (by rw [law08_speaks_eq]; exact h)
def G_law08_May (Ca : Nat → List AV → St → (AV → St → Prop) → Prop) (a0 : List (List AV)) (a0r : Rt) (S0 : St) (Q : AV → St → Prop) : Prop :=
 ifK (.bool (decide ((List.length a0 : Int) > 8)))
 (Q (.int .i64 0) S0)
 (joinK (fun (S_5 : St) =>
 Q (.int .i64 1) S_5) fun j_2 =>
 loopQ ([(.int .i64 0)], []) (fun v bx => ([v 10], [])) (fun nx v bx S =>
 optK (binA .lss (v 10) (.int .i64 (List.length a0 : Int))) fun t11 =>
 ifK t11
 (optK (idxSlA T_api_Node (.vs 7 a0 (Rt.strip a0r)) (v 10)) fun t12 =>
 optK (loadA T_api_Node S t12) fun t13 =>
 optK (lstoreA T_api_Node (some [(.int .i64 0), (.bool false), (.vs 1 [] .nil), (.vs 7 [] .nil), (.int .i64 0), (.vs 2 [] .nil), (.str [])]) 0 (AV.strip t13)) fun b4 =>
 optK (lloadA T_api_Node (some b4) 0) fun t14 =>
 callK Ca F_law04_Small [(AV.strip t14)] S fun t15 S_2 =>
 optK (binA .eql t15 (.int .i64 0)) fun t16 =>
 joinK (fun (x20 : AV) (S_4 : St) =>
 optK (pickA (AV.strip t16) (.bool true) x20) fun t21 =>
 ifK (AV.strip t21)
 (Q (.int .i64 0) S_4)
 (optK (binA .add (v 10) (.int .i64 1)) fun t22 =>
 nx ([(AV.strip t22)], []) S_4)) fun j =>
 ifK (AV.strip t16)
 (j (.tup []) S_2)
 (optK (lloadA T_api_Node (some b4) 0) fun t18 =>
 callK Ca F_ref04_Right [(AV.strip t18)] S_2 fun t19 S_3 =>
 optK (unA .not t19) fun t20 =>
 j t20 S_3))
 (j_2 S)) S0)
theorem law08_May_eq (Ca) (a0 : List (List AV)) (a0r : Rt) (S0 Q) : WF C Ca 58 (Drw C Ca 58) Tryd.f58 [(.vs 7 a0 a0r)] S0 Q = G_law08_May Ca a0 a0r S0 Q := by kernel_rfl
theorem law08_May_ok {w0 : World} {a0 : List (List AV)} {a0r : Rt} {S0 : St} {Q : AV → St → Prop} (h : G_law08_May (ACalls (En w0)) a0 a0r S0 Q) : AC w0 F_law08_May [(.vs 7 a0 a0r)] S0 Q := fn_ok w0 Tryd.func58 (by kernel_rfl) (by rw [law08_May_eq]; exact h)
def G_law08_Stack (Ca : Nat → List AV → St → (AV → St → Prop) → Prop) (a0 : List (List AV)) (a0r : Rt) (S0 : St) (Q : AV → St → Prop) : Prop :=
 ifK (.bool (decide ((List.length a0 : Int) > 8)))
 (Q (.tup [(.agg [(.vs 2 [] .nil), (.int .i64 0)]), (.bool false)]) S0)
 (joinK (fun (y2 : Option (List AV)) (S_5 : St) =>
 Ca F_stack_Of [(.vs 7 a0 (Rt.strip (Rt.strip a0r)))] S_5 fun t30 S_6 =>
 optK (extractA t30 0) fun t31 =>
 optK (extractA (stripTup t30 0) 1) fun t32 =>
 optK (lstoreA T_stack_Stack (some [(.vs 2 [] .nil), (.int .i64 0)]) 0 t31) fun b6 =>
 optK (lloadA T_stack_Stack (some b6) 0) fun t33 =>
 optK (binA .eql (AV.strip t32) (.int .i64 0)) fun t35 =>
 joinK (fun (x41 : AV) (S_8 : St) =>
 optK (pickA (AV.strip t35) x41 (.bool false)) fun t42 =>
 optK (lstoreA T_stack_Stack y2 0 (AV.strip t33)) fun b2_2 =>
 optK ((lloadA T_stack_Stack (some b2_2) 0).map AV.strip) fun r2_2 =>
 Q (.tup [(AV.flat r2_2), (AV.flat (AV.strip t42))]) S_8) fun j_2 =>
 ifK (AV.strip t35)
 (optK (lloadA T_stack_Stack (some b6) 0) fun t37 =>
 callK Ca F_stack_Stack_Len [(AV.strip t37)] S_6 fun t38 S_7 =>
 optK (binA .eql t38 (.int .i64 (List.length a0 : Int))) fun t41 =>
 j_2 t41 S_7)
 (j_2 (.tup []) S_6)) fun j_3 =>
 loopQ ([(.int .i64 0)], [(some [(.vs 2 [] .nil), (.int .i64 0)])]) (fun v bx => ([v 14], [bx 2])) (fun nx v bx S =>
 optK (binA .lss (v 14) (.int .i64 (List.length a0 : Int))) fun t15 =>
 ifK t15
 (optK (idxSlA T_api_Node (.vs 7 a0 (Rt.strip a0r)) (v 14)) fun t16 =>
 optK (loadA T_api_Node S t16) fun t17 =>
 optK (lstoreA T_api_Node (some [(.int .i64 0), (.bool false), (.vs 1 [] .nil), (.vs 7 [] .nil), (.int .i64 0), (.vs 2 [] .nil), (.str [])]) 0 (AV.strip t17)) fun b5 =>
 optK (lloadA T_api_Node (some b5) 0) fun t18 =>
 callK Ca F_law04_Small [(AV.strip t18)] S fun t19 S_2 =>
 optK (binA .eql t19 (.int .i64 0)) fun t20 =>
 joinK (fun (x24 : AV) (S_4 : St) =>
 optK (pickA (AV.strip t20) (.bool true) x24) fun t25 =>
 ifK (AV.strip t25)
 (optK (lstoreA T_stack_Stack (bx 2) 0 (.agg [(.vs 2 [] .nil), (.int .i64 0)])) fun b2 =>
 optK ((lloadA T_stack_Stack (some b2) 0).map AV.strip) fun r2 =>
 Q (.tup [(AV.flat r2), (.bool false)]) S_4)
 (optK (binA .add (v 14) (.int .i64 1)) fun t27 =>
 nx ([(AV.strip t27)], [(bx 2)]) S_4)) fun j =>
 ifK (AV.strip t20)
 (j (.tup []) S_2)
 (optK (lloadA T_api_Node (some b5) 0) fun t22 =>
 callK Ca F_ref04_Right [(AV.strip t22)] S_2 fun t23 S_3 =>
 optK (unA .not t23) fun t24 =>
 j t24 S_3))
 (j_3 (bx 2) S)) S0)
theorem law08_Stack_eq (Ca) (a0 : List (List AV)) (a0r : Rt) (S0 Q) : WF C Ca 59 (Drw C Ca 59) Tryd.f59 [(.vs 7 a0 a0r)] S0 Q = G_law08_Stack Ca a0 a0r S0 Q := by kernel_rfl
theorem law08_Stack_ok {w0 : World} {a0 : List (List AV)} {a0r : Rt} {S0 : St} {Q : AV → St → Prop} (h : G_law08_Stack (ACalls (En w0)) a0 a0r S0 Q) : AC w0 F_law08_Stack [(.vs 7 a0 a0r)] S0 Q := fn_ok w0 Tryd.func59 (by kernel_rfl) (by rw [law08_Stack_eq]; exact h)
def G_seen_Look (Ca : Nat → List AV → St → (AV → St → Prop) → Prop) (a0a : List (List AV)) (a0ar : Rt) (a0b : Int) (a1 : List (List AV)) (a1r : Rt) (a2 : List UInt8) (S0 : St) (Q : AV → St → Prop) : Prop :=
 optK (boxA T_stack_Stack (.agg [(.vs 2 a0a a0ar), (.int .i64 a0b)])) fun c3 =>
 joinK (fun (y8_3 : Option (List AV)) (S_7 : St) =>
 optK (lloadA T_seen_Found y8_3 0) fun t77 =>
 optK y8_3 fun _ =>
 optK (lloadA T_int y8_3 0) fun t79 =>
 optK (binA .neq (AV.strip t79) (.int .i64 0)) fun t80 =>
 optK (lstoreA T_seen_Found (some [(.int .i64 0), (.int .i64 0), (.int .i64 0), (.vs 2 [] .nil)]) 0 (AV.strip t77)) fun b6 =>
 optK ((lloadA T_seen_Found (some b6) 0).map AV.strip) fun r6 =>
 Q (.tup [(AV.flat r6), (AV.flat t80)]) S_7) fun j_4 =>
 loopQ ([(.int .i64 0)], [(some c3), (some [(.int .i64 0), (.int .i64 0), (.int .i64 0), (.vs 2 [] .nil)])]) (fun v bx => ([v 17], [bx 3, bx 8])) (fun nx v bx S =>
 optK (binA .lss (v 17) (.int .i64 (List.length a1 : Int))) fun t18 =>
 ifK t18
 (joinK (fun (y8_2 : Option (List AV)) (S_6 : St) =>
 optK (binA .add (v 17) (.int .i64 1)) fun t76 =>
 nx ([(AV.strip t76)], [(bx 3), y8_2]) S_6) fun j_3 =>
 optK (idxSlA T_seen_Spot (.vs 2 a1 (Rt.strip a1r)) (v 17)) fun t19 =>
 optK (loadA T_seen_Spot S t19) fun t20 =>
 optK (lstoreA T_seen_Spot (some [(.int .i64 0), (.int .i64 0)]) 0 (AV.strip t20)) fun b10 =>
 optK (lloadA T_stack_Stack (bx 3) 0) fun t21 =>
 optK (some b10) fun _ =>
 optK (lloadA T_int (some b10) 0) fun t23 =>
 callK Ca F_stack_Stack_At [(AV.strip t21), (AV.strip t23)] S fun t24 S_2 =>
 optK (binE .ptr .eql (AV.strip t24) .nil) fun t26 =>
 ifK t26
 (j_3 (bx 8) S_2)
 (optK (some b10) fun _ =>
 optK (lloadA T_int (some b10) 1) fun t30 =>
 callK Ca F_branch_Branch_Look [(AV.strip t24), (AV.strip t30), (.str a2)] S_2 fun t32 S_3 =>
 optK (extractA t32 0) fun t33 =>
 optK (extractA (stripTup t32 0) 1) fun t34 =>
 optK (unA .not (AV.strip t34)) fun t36 =>
 ifK t36
 (j_3 (bx 8) S_3)
 (callK Ca F_branch_Branch_Kind [(AV.strip t24), (AV.strip t33)] S_3 fun t39 S_4 =>
 optK (binA .neq (AV.strip t39) (.int .i64 2)) fun t41 =>
 ifK t41
 (optK (bx 8) fun _ =>
 optK (lloadA T_int (bx 8) 0) fun t43 =>
 optK (binA .eql (AV.strip t43) (.int .i64 0)) fun t44 =>
 joinK (fun (x47 : AV) =>
 optK (pickA (AV.strip t44) x47 (.bool false)) fun t48 =>
 ifK (AV.strip t48)
 (optK (some b10) fun _ =>
 optK (lloadA T_int (some b10) 0) fun t51 =>
 optK (buildA T_seen_Spot 1 [(0, (AV.strip t51)), (1, (AV.strip t33))]) fun t53 =>
 optK (buildA T_seen_Found 1 [(0, (AV.strip t39)), (1, t53)]) fun t54 =>
 optK (lstoreA T_seen_Found (bx 8) 0 t54) fun b8 =>
 j_4 (some b8) S_4)
 (j_4 (bx 8) S_4)) fun j =>
 ifK (AV.strip t44)
 (optK (binA .neq (AV.strip t39) (.int .i64 4)) fun t47 =>
 j t47)
 (j (.tup [])))
 (joinK (fun (y8 : Option (List AV)) =>
 optK y8 fun _ =>
 optK (lloadA T_seen_Place y8 3) fun t65 =>
 optK (some b10) fun _ =>
 optK (lloadA T_int (some b10) 0) fun t67 =>
 optK (buildA T_seen_Spot 1 [(0, (AV.strip t67)), (1, (AV.strip t33))]) fun t69 =>
 optK (elemVals 2 [t69]) fun e70 =>
 optK (appendA T_seen_Spot S_4 (AV.strip0 t65) (.vs 2 e70 .full)) fun t71 =>
 optK (stripBox y8 3) fun _ =>
 optK (lstoreA T_seen_Place (stripBox y8 3) 3 t71) fun b8_3 =>
 callK Ca F_branch_Branch_Opaque [(AV.strip t24), (AV.strip t33)] S_4 fun t75 S_5 =>
 ifK t75
 (j_4 (some b8_3) S_5)
 (j_3 (some b8_3) S_5)) fun j_2 =>
 optK (bx 8) fun _ =>
 optK (lloadA T_int (bx 8) 0) fun t56 =>
 optK (binA .eql (AV.strip t56) (.int .i64 0)) fun t57 =>
 ifK t57
 (optK (some b10) fun _ =>
 optK (lloadA T_int (some b10) 0) fun t60 =>
 optK (buildA T_seen_Spot 1 [(0, (AV.strip t60)), (1, (AV.strip t33))]) fun t62 =>
 optK (buildA T_seen_Found 1 [(0, (AV.strip t39)), (1, t62)]) fun t63 =>
 optK (lstoreA T_seen_Found (bx 8) 0 t63) fun b8_2 =>
 j_2 (some b8_2))
 (j_2 (bx 8))))))
 (j_4 (bx 8) S)) S0
theorem seen_Look_eq (Ca) (a0a : List (List AV)) (a0ar : Rt) (a0b : Int) (a1 : List (List AV)) (a1r : Rt) (a2 : List UInt8) (S0 Q) : WF C Ca 60 (Drw C Ca 60) Tryd.f60 [(.agg [(.vs 2 a0a a0ar), (.int .i64 a0b)]), (.vs 2 a1 a1r), (.str a2)] S0 Q = G_seen_Look Ca a0a a0ar a0b a1 a1r a2 S0 Q := by kernel_rfl
theorem seen_Look_ok {w0 : World} {a0a : List (List AV)} {a0ar : Rt} {a0b : Int} {a1 : List (List AV)} {a1r : Rt} {a2 : List UInt8} {S0 : St} {Q : AV → St → Prop} (h : G_seen_Look (ACalls (En w0)) a0a a0ar a0b a1 a1r a2 S0 Q) : AC w0 F_seen_Look [(.agg [(.vs 2 a0a a0ar), (.int .i64 a0b)]), (.vs 2 a1 a1r), (.str a2)] S0 Q := fn_ok w0 Tryd.func60 (by kernel_rfl) (by rw [seen_Look_eq]; exact h)
def G_seen_Root (Ca : Nat → List AV → St → (AV → St → Prop) → Prop) (a0a : List (List AV)) (a0ar : Rt) (a0b : Int) (S0 : St) (Q : AV → St → Prop) : Prop :=
 optK (boxA T_stack_Stack (.agg [(.vs 2 a0a a0ar), (.int .i64 a0b)])) fun c1 =>
 joinK (fun (x3 : AV) (S_5 : St) =>
 Q (AV.strip x3) S_5) fun j =>
 optK (lloadA T_stack_Stack (some c1) 0) fun t5 =>
 callK Ca F_stack_Stack_Len [(AV.strip t5)] S0 fun t6 S =>
 loopQ ([(.vs 2 [] .nil), (.int .i64 0)], [(some c1)]) (fun v bx => ([v 3, v 7], [bx 1])) (fun nx v bx S_2 =>
 optK (binA .lss (v 7) t6) fun t8 =>
 ifK t8
 (optK (buildA T_seen_Spot 1 [(0, (AV.strip (AV.strip (v 7)))), (1, (.int .i64 0))]) fun t12 =>
 optK (elemVals 2 [t12]) fun e13 =>
 optK (appendA T_seen_Spot S_2 (v 3) (.vs 2 e13 .full)) fun t14 =>
 optK (lloadA T_stack_Stack (bx 1) 0) fun t15 =>
 callK Ca F_stack_Stack_At [(AV.strip t15), (AV.strip (AV.strip (v 7)))] S_2 fun t17 S_3 =>
 callK Ca F_branch_Branch_Opaque [t17, (.int .i64 0)] S_3 fun t18 S_4 =>
 ifK t18
 (j t14 S_4)
 (optK (binA .add (v 7) (.int .i64 1)) fun t19 =>
 nx ([t14, (AV.strip t19)], [(bx 1)]) S_4))
 (j (v 3) S_2)) S
theorem seen_Root_eq (Ca) (a0a : List (List AV)) (a0ar : Rt) (a0b : Int) (S0 Q) : WF C Ca 61 (Drw C Ca 61) Tryd.f61 [(.agg [(.vs 2 a0a a0ar), (.int .i64 a0b)])] S0 Q = G_seen_Root Ca a0a a0ar a0b S0 Q := by kernel_rfl
theorem seen_Root_ok {w0 : World} {a0a : List (List AV)} {a0ar : Rt} {a0b : Int} {S0 : St} {Q : AV → St → Prop} (h : G_seen_Root (ACalls (En w0)) a0a a0ar a0b S0 Q) : AC w0 F_seen_Root [(.agg [(.vs 2 a0a a0ar), (.int .i64 a0b)])] S0 Q := fn_ok w0 Tryd.func61 (by kernel_rfl) (by rw [seen_Root_eq]; exact h)
def G_slices_IndexFunc_s_stack_mount_stack_mount (Ca : Nat → List AV → St → (AV → St → Prop) → Prop) (a0 : List (List AV)) (a0r : Rt) (a1 : AV) (S0 : St) (Q : AV → St → Prop) : Prop :=
 joinK (fun (S_3 : St) =>
 Q (.int .i64 (-1)) S_3) fun j =>
 loopQ ([(.int .i64 0)], []) (fun v bx => ([v 8], [])) (fun nx v bx S =>
 optK (binA .lss (v 8) (.int .i64 (List.length a0 : Int))) fun t9 =>
 ifK t9
 (optK (idxSlA T_stack_mount (.vs 2 a0 (Rt.strip a0r)) (AV.strip (AV.strip (v 8)))) fun t14 =>
 optK (loadA T_stack_mount S t14) fun t15 =>
 optK (calleeA (AV.strip a1) [(AV.strip t15)]) fun a =>
 Ca a.1 a.2 S fun t16 S_2 =>
 ifK t16
 (Q (AV.strip (AV.strip (v 8))) S_2)
 (optK (binA .add (v 8) (.int .i64 1)) fun t18 =>
 nx ([(AV.strip t18)], []) S_2))
 (j S)) S0
theorem slices_IndexFunc_s_stack_mount_stack_mount_eq (Ca) (a0 : List (List AV)) (a0r : Rt) (a1 : AV) (S0 Q) : WF C Ca 66 (Drw C Ca 66) Tryd.f66 [(.vs 2 a0 a0r), a1] S0 Q = G_slices_IndexFunc_s_stack_mount_stack_mount Ca a0 a0r a1 S0 Q := by kernel_rfl
theorem slices_IndexFunc_s_stack_mount_stack_mount_ok {w0 : World} {a0 : List (List AV)} {a0r : Rt} {a1 : AV} {S0 : St} {Q : AV → St → Prop} (h : G_slices_IndexFunc_s_stack_mount_stack_mount (ACalls (En w0)) a0 a0r a1 S0 Q) : AC w0 F_slices_IndexFunc_s_stack_mount_stack_mount [(.vs 2 a0 a0r), a1] S0 Q := fn_ok w0 Tryd.func66 (by kernel_rfl) (by rw [slices_IndexFunc_s_stack_mount_stack_mount_eq]; exact h)
def G_stack_Stack_Remove_1 (Ca : Nat → List AV → St → (AV → St → Prop) → Prop) (a0a : Int) (a0b : AV) (a1 : AV) (S0 : St) (Q : AV → St → Prop) : Prop :=
 optK (boxA T_stack_mount (.agg [(.int .i64 a0a), a0b])) fun c2 =>
 optK (some c2) fun _ =>
 optK (lloadA T_int (some c2) 0) fun t5 =>
 optK (loadA T_int S0 a1) fun t6 =>
 optK (binA .eql (AV.strip t5) (AV.strip t6)) fun t7 =>
 Q t7 S0
theorem stack_Stack_Remove_1_eq (Ca) (a0a : Int) (a0b : AV) (a1 : AV) (S0 Q) : WF C Ca 67 (Drw C Ca 67) Tryd.f67 [(.agg [(.int .i64 a0a), a0b]), a1] S0 Q = G_stack_Stack_Remove_1 Ca a0a a0b a1 S0 Q := by kernel_rfl
theorem stack_Stack_Remove_1_ok {w0 : World} {a0a : Int} {a0b : AV} {a1 : AV} {S0 : St} {Q : AV → St → Prop} (h : G_stack_Stack_Remove_1 (ACalls (En w0)) a0a a0b a1 S0 Q) : AC w0 F_stack_Stack_Remove_1 [(.agg [(.int .i64 a0a), a0b]), a1] S0 Q := fn_ok w0 Tryd.func67 (by kernel_rfl) (by rw [stack_Stack_Remove_1_eq]; exact h)
def G_slices_Clone_s_stack_mount_stack_mount (Ca : Nat → List AV → St → (AV → St → Prop) → Prop) (a0 : List (List AV)) (a0r : Rt) (S0 : St) (Q : AV → St → Prop) : Prop :=
 optK (binE .slice .eql (.vs 2 a0 (Rt.strip a0r)) (.vs 2 [] .nil)) fun t4 =>
 ifK t4
 (Q (.vs 2 [] .nil) S0)
 (optK (appendA T_stack_mount S0 (.vs 2 [] .full) (.vs 2 a0 (Rt.strip a0r))) fun t7 =>
 Q t7 S0)
theorem slices_Clone_s_stack_mount_stack_mount_eq (Ca) (a0 : List (List AV)) (a0r : Rt) (S0 Q) : WF C Ca 69 (Drw C Ca 69) Tryd.f69 [(.vs 2 a0 a0r)] S0 Q = G_slices_Clone_s_stack_mount_stack_mount Ca a0 a0r S0 Q := by kernel_rfl
theorem slices_Clone_s_stack_mount_stack_mount_ok {w0 : World} {a0 : List (List AV)} {a0r : Rt} {S0 : St} {Q : AV → St → Prop} (h : G_slices_Clone_s_stack_mount_stack_mount (ACalls (En w0)) a0 a0r S0 Q) : AC w0 F_slices_Clone_s_stack_mount_stack_mount [(.vs 2 a0 a0r)] S0 Q := fn_ok w0 Tryd.func69 (by kernel_rfl) (by rw [slices_Clone_s_stack_mount_stack_mount_eq]; exact h)
def G_branch_Branch_add (Ca : Nat → List AV → St → (AV → St → Prop) → Prop) (a0 : Nat) (a0o : Nat) (a1a : Int) (a1b : Bool) (a1c : List (List AV)) (a1cr : Rt) (a1d : List (List AV)) (a1dr : Rt) (a1e : Int) (a1f : List (List AV)) (a1fr : Rt) (a1g : List UInt8) (S0 : St) (Q : AV → St → Prop) : Prop :=
 optK (boxA T_api_Node (.agg [(.int .i64 a1a), (.bool a1b), (.vs 1 a1c a1cr), (.vs 7 a1d a1dr), (.int .i64 a1e), (.vs 2 a1f a1fr), (.str a1g)])) fun c3 =>
 optK (loadA T_s_branch_inode S0 (.ptr a0 (a0o + 0))) fun t12 =>
 optK (lenSlA (AV.strip t12)) fun t13 =>
 optK (loadA T_s_branch_inode S0 (.ptr a0 (a0o + 0))) fun t18 =>
 optK (appendR T_branch_inode (stripMem S0 (.ptr a0 (a0o + 0))) (AV.strip0 t18) (.vs 8 [[(.int .i64 0), (.bool false), (.vs 1 [] .nil), (.vs 7 [] .nil), (.int .i64 0), (.vs 2 [] .nil), (.str []), (.vs 1 [] .nil)]] .full)) fun p21 =>
 optK (storeA T_s_branch_inode p21.2 (.ptr a0 (a0o + 0)) p21.1) fun S =>
 optK (lloadA T_api_Node (some c3) 0) fun t24 =>
 optK (buildA T_branch_inode 1 [(0, (AV.strip t24))]) fun t25 =>
 optK (lstoreA T_branch_inode (some [(.int .i64 0), (.bool false), (.vs 1 [] .nil), (.vs 7 [] .nil), (.int .i64 0), (.vs 2 [] .nil), (.str []), (.vs 1 [] .nil)]) 0 t25) fun b6 =>
 joinK (fun (y6 : Option (List AV)) (S_4 : St) =>
 optK (some c3) fun _ =>
 optK (lloadA T_s_string (some c3) 2) fun t43 =>
 optK (some c3) fun _ =>
 optK (lloadA T_s_api_Extent (some c3) 5) fun t46 =>
 optK y6 fun _ =>
 optK y6 fun _ =>
 callK Ca F_slices_Clone_s_string_string [(AV.strip t43)] S_4 fun t44 S_5 =>
 callK Ca F_slices_Clone_s_api_Extent_api_Extent [(AV.strip t46)] S_5 fun t47 S_6 =>
 optK (lstoreA T_s_api_Node y6 3 (.vs 7 [] .nil)) fun b6_3 =>
 optK (some b6_3) fun _ =>
 optK (some b6_3) fun _ =>
 optK (lstoreA T_s_string (some b6_3) 2 t44) fun b6_4 =>
 optK (some b6_4) fun _ =>
 optK (some b6_4) fun _ =>
 optK (lstoreA T_s_api_Extent (some b6_4) 5 t47) fun b6_5 =>
 optK (loadA T_s_branch_inode S_6 (.ptr a0 (a0o + 0))) fun t57 =>
 optK (lloadA T_branch_inode (some b6_5) 0) fun t59 =>
 optK (idxSlA T_branch_inode (AV.strip t57) (AV.strip t13)) fun t60 =>
 optK (storeA T_branch_inode S_6 t60 (AV.strip t59)) fun S_7 =>
 Q (AV.strip t13) S_7) fun j =>
 optK (some c3) fun _ =>
 optK (lloadA T_s_api_Node (some c3) 3) fun t27 =>
 optK (lenSlA (AV.strip t27)) fun t28 =>
 loopQ ([(.int .i64 0)], [(some b6)]) (fun v bx => ([v 29], [bx 6])) (fun nx v bx S_2 =>
 optK (binA .lss (v 29) t28) fun t30 =>
 ifK t30
 (optK (idxSlA T_api_Node (AV.strip t27) (v 29)) fun t31 =>
 optK (loadA T_api_Node S_2 t31) fun t32 =>
 optK (lstoreA T_api_Node (some [(.int .i64 0), (.bool false), (.vs 1 [] .nil), (.vs 7 [] .nil), (.int .i64 0), (.vs 2 [] .nil), (.str [])]) 0 (AV.strip t32)) fun b8 =>
 optK (bx 6) fun _ =>
 optK (lloadA T_api_Node (some b8) 0) fun t36 =>
 optK (lloadA T_s_int (bx 6) 7) fun t34 =>
 callK Ca F_branch_Branch_add [(.ptr a0 a0o), (AV.strip t36)] S_2 fun t37 S_3 =>
 optK (elemVals 1 [t37]) fun e38 =>
 optK (appendA T_int S_3 (AV.strip0 t34) (.vs 1 e38 .full)) fun t39 =>
 optK (stripBox (bx 6) 7) fun _ =>
 optK (lstoreA T_s_int (stripBox (bx 6) 7) 7 t39) fun b6_2 =>
 optK (binA .add (v 29) (.int .i64 1)) fun t41 =>
 nx ([(AV.strip t41)], [(some b6_2)]) S_3)
 (j (bx 6) S_2)) S
theorem branch_Branch_add_eq (Ca) (a0 : Nat) (a0o : Nat) (a1a : Int) (a1b : Bool) (a1c : List (List AV)) (a1cr : Rt) (a1d : List (List AV)) (a1dr : Rt) (a1e : Int) (a1f : List (List AV)) (a1fr : Rt) (a1g : List UInt8) (S0 Q) : WF C Ca 70 (Drw C Ca 70) Tryd.f70 [(.ptr a0 a0o), (.agg [(.int .i64 a1a), (.bool a1b), (.vs 1 a1c a1cr), (.vs 7 a1d a1dr), (.int .i64 a1e), (.vs 2 a1f a1fr), (.str a1g)])] S0 Q = G_branch_Branch_add Ca a0 a0o a1a a1b a1c a1cr a1d a1dr a1e a1f a1fr a1g S0 Q := by kernel_rfl
theorem branch_Branch_add_ok {w0 : World} {a0 : Nat} {a0o : Nat} {a1a : Int} {a1b : Bool} {a1c : List (List AV)} {a1cr : Rt} {a1d : List (List AV)} {a1dr : Rt} {a1e : Int} {a1f : List (List AV)} {a1fr : Rt} {a1g : List UInt8} {S0 : St} {Q : AV → St → Prop} (h : G_branch_Branch_add (ACalls (En w0)) a0 a0o a1a a1b a1c a1cr a1d a1dr a1e a1f a1fr a1g S0 Q) : AC w0 F_branch_Branch_add [(.ptr a0 a0o), (.agg [(.int .i64 a1a), (.bool a1b), (.vs 1 a1c a1cr), (.vs 7 a1d a1dr), (.int .i64 a1e), (.vs 2 a1f a1fr), (.str a1g)])] S0 Q := fn_ok w0 Tryd.func70 (by kernel_rfl) (by rw [branch_Branch_add_eq]; exact h)
def G_slices_Clone_s_string_string (Ca : Nat → List AV → St → (AV → St → Prop) → Prop) (a0 : List (List AV)) (a0r : Rt) (S0 : St) (Q : AV → St → Prop) : Prop :=
 optK (binE .slice .eql (.vs 1 a0 (Rt.strip a0r)) (.vs 1 [] .nil)) fun t4 =>
 ifK t4
 (Q (.vs 1 [] .nil) S0)
 (optK (appendA T_string S0 (.vs 1 [] .full) (.vs 1 a0 (Rt.strip a0r))) fun t7 =>
 Q t7 S0)
theorem slices_Clone_s_string_string_eq (Ca) (a0 : List (List AV)) (a0r : Rt) (S0 Q) : WF C Ca 71 (Drw C Ca 71) Tryd.f71 [(.vs 1 a0 a0r)] S0 Q = G_slices_Clone_s_string_string Ca a0 a0r S0 Q := by kernel_rfl
theorem slices_Clone_s_string_string_ok {w0 : World} {a0 : List (List AV)} {a0r : Rt} {S0 : St} {Q : AV → St → Prop} (h : G_slices_Clone_s_string_string (ACalls (En w0)) a0 a0r S0 Q) : AC w0 F_slices_Clone_s_string_string [(.vs 1 a0 a0r)] S0 Q := fn_ok w0 Tryd.func71 (by kernel_rfl) (by rw [slices_Clone_s_string_string_eq]; exact h)
def G_slices_Clone_s_api_Node_api_Node (Ca : Nat → List AV → St → (AV → St → Prop) → Prop) (a0 : List (List AV)) (a0r : Rt) (S0 : St) (Q : AV → St → Prop) : Prop :=
 optK (binE .slice .eql (.vs 7 a0 (Rt.strip a0r)) (.vs 7 [] .nil)) fun t4 =>
 ifK t4
 (Q (.vs 7 [] .nil) S0)
 (optK (appendA T_api_Node S0 (.vs 7 [] .full) (.vs 7 a0 (Rt.strip a0r))) fun t7 =>
 Q t7 S0)
theorem slices_Clone_s_api_Node_api_Node_eq (Ca) (a0 : List (List AV)) (a0r : Rt) (S0 Q) : WF C Ca 72 (Drw C Ca 72) Tryd.f72 [(.vs 7 a0 a0r)] S0 Q = G_slices_Clone_s_api_Node_api_Node Ca a0 a0r S0 Q := by kernel_rfl
theorem slices_Clone_s_api_Node_api_Node_ok {w0 : World} {a0 : List (List AV)} {a0r : Rt} {S0 : St} {Q : AV → St → Prop} (h : G_slices_Clone_s_api_Node_api_Node (ACalls (En w0)) a0 a0r S0 Q) : AC w0 F_slices_Clone_s_api_Node_api_Node [(.vs 7 a0 a0r)] S0 Q := fn_ok w0 Tryd.func72 (by kernel_rfl) (by rw [slices_Clone_s_api_Node_api_Node_eq]; exact h)
def G_law04_small (Ca : Nat → List AV → St → (AV → St → Prop) → Prop) (a0a : Int) (a0b : Bool) (a0c : List (List AV)) (a0cr : Rt) (a0d : List (List AV)) (a0dr : Rt) (a0e : Int) (a0f : List (List AV)) (a0fr : Rt) (a0g : List UInt8) (a1 : Int) (a2 : AV) (S0 : St) (Q : AV → St → Prop) : Prop :=
 optK (boxA T_api_Node (.agg [(.int .i64 a0a), (.bool a0b), (.vs 1 a0c a0cr), (.vs 7 a0d a0dr), (.int .i64 a0e), (.vs 2 a0f a0fr), (.str a0g)])) fun c3 =>
 optK (nilA (AV.strip a2)) fun t12 =>
 optK (loadA T_int S0 t12) fun t13 =>
 optK (some c3) fun _ =>
 optK (lloadA T_s_string (some c3) 2) fun t15 =>
 optK (lenSlA (AV.strip t15)) fun t16 =>
 optK (binA .add (.int .i64 1) t16) fun t17 =>
 optK (some c3) fun _ =>
 optK (lloadA T_s_api_Extent (some c3) 5) fun t19 =>
 optK (lenSlA (AV.strip t19)) fun t20 =>
 optK (binA .add t17 t20) fun t21 =>
 optK (binA .sub (AV.strip t13) t21) fun t22 =>
 optK (nilA (AV.strip a2)) fun t23 =>
 optK (storeA T_int S0 t23 t22) fun S =>
 joinK (fun (S_4 : St) =>
 optK (nilA (AV.strip a2)) fun t41 =>
 optK (loadA T_int S_4 t41) fun t42 =>
 optK (some c3) fun _ =>
 optK (lloadA T_string (some c3) 6) fun t44 =>
 optK (lenStrA (AV.strip t44)) fun t45 =>
 optK (binA .sub (AV.strip t42) t45) fun t46 =>
 optK (nilA (AV.strip a2)) fun t47 =>
 optK (storeA T_int S_4 t47 t46) fun S_5 =>
 optK (nilA (AV.strip a2)) fun t49 =>
 optK (loadA T_int S_5 t49) fun t50 =>
 optK (binA .lss (AV.strip t50) (.int .i64 0)) fun t51 =>
 joinK (fun (x54 : AV) =>
 optK (pickA (AV.strip t51) (.bool true) x54) fun t55 =>
 ifK (AV.strip t55)
 (Q (.bool false) S_5)
 (joinK (fun (S_8 : St) =>
 Q (.bool true) S_8) fun j_2 =>
 optK (some c3) fun _ =>
 optK (lloadA T_s_api_Node (some c3) 3) fun t57 =>
 optK (lenSlA (AV.strip t57)) fun t58 =>
 loopQ ([(.int .i64 0)], []) (fun v_2 bx_2 => ([v_2 59], [])) (fun nx_2 v_2 bx_2 S_6 =>
 optK (binA .lss (v_2 59) t58) fun t60 =>
 ifK t60
 (optK (idxSlA T_api_Node (AV.strip t57) (v_2 59)) fun t61 =>
 optK (loadA T_api_Node S_6 t61) fun t62 =>
 optK (lstoreA T_api_Node (some [(.int .i64 0), (.bool false), (.vs 1 [] .nil), (.vs 7 [] .nil), (.int .i64 0), (.vs 2 [] .nil), (.str [])]) 0 (AV.strip t62)) fun b10 =>
 optK (lloadA T_api_Node (some b10) 0) fun t63 =>
 callK Ca F_law04_small [(AV.strip t63), (.int .i64 (IntKind.i64.wrap (a1 - 1))), (AV.strip a2)] S_6 fun t67 S_7 =>
 optK (unA .not t67) fun t68 =>
 ifK t68
 (Q (.bool false) S_7)
 (optK (binA .add (v_2 59) (.int .i64 1)) fun t69 =>
 nx_2 ([(AV.strip t69)], []) S_7))
 (j_2 S_6)) S_5)) fun j =>
 ifK (AV.strip t51)
 (j (.tup []))
 (j (.bool (decide (a1 < 0))))) fun j_3 =>
 optK (some c3) fun _ =>
 optK (lloadA T_s_api_Extent (some c3) 5) fun t25 =>
 optK (lenSlA (AV.strip t25)) fun t26 =>
 loopQ ([(.int .i64 0)], []) (fun v bx => ([v 27], [])) (fun nx v bx S_2 =>
 optK (binA .lss (v 27) t26) fun t28 =>
 ifK t28
 (optK (idxSlA T_api_Extent (AV.strip t25) (v 27)) fun t29 =>
 optK (loadA T_api_Extent S_2 t29) fun t30 =>
 optK (lstoreA T_api_Extent (some [(.int .i64 0), (.str [])]) 0 (AV.strip t30)) fun b8 =>
 optK (nilA (AV.strip a2)) fun t32 =>
 optK (loadA T_int S_2 t32) fun t33 =>
 optK (some b8) fun _ =>
 optK (lloadA T_string (some b8) 1) fun t35 =>
 optK (lenStrA (AV.strip t35)) fun t36 =>
 optK (binA .sub (AV.strip t33) t36) fun t37 =>
 optK (nilA (AV.strip a2)) fun t38 =>
 optK (storeA T_int S_2 t38 t37) fun S_3 =>
 optK (binA .add (v 27) (.int .i64 1)) fun t39 =>
 nx ([(AV.strip t39)], []) S_3)
 (j_3 S_2)) S
theorem law04_small_eq (Ca) (a0a : Int) (a0b : Bool) (a0c : List (List AV)) (a0cr : Rt) (a0d : List (List AV)) (a0dr : Rt) (a0e : Int) (a0f : List (List AV)) (a0fr : Rt) (a0g : List UInt8) (a1 : Int) (a2 : AV) (S0 Q) : WF C Ca 73 (Drw C Ca 73) Tryd.f73 [(.agg [(.int .i64 a0a), (.bool a0b), (.vs 1 a0c a0cr), (.vs 7 a0d a0dr), (.int .i64 a0e), (.vs 2 a0f a0fr), (.str a0g)]), (.int .i64 a1), a2] S0 Q = G_law04_small Ca a0a a0b a0c a0cr a0d a0dr a0e a0f a0fr a0g a1 a2 S0 Q := by kernel_rfl
theorem law04_small_ok {w0 : World} {a0a : Int} {a0b : Bool} {a0c : List (List AV)} {a0cr : Rt} {a0d : List (List AV)} {a0dr : Rt} {a0e : Int} {a0f : List (List AV)} {a0fr : Rt} {a0g : List UInt8} {a1 : Int} {a2 : AV} {S0 : St} {Q : AV → St → Prop} (h : G_law04_small (ACalls (En w0)) a0a a0b a0c a0cr a0d a0dr a0e a0f a0fr a0g a1 a2 S0 Q) : AC w0 F_law04_small [(.agg [(.int .i64 a0a), (.bool a0b), (.vs 1 a0c a0cr), (.vs 7 a0d a0dr), (.int .i64 a0e), (.vs 2 a0f a0fr), (.str a0g)]), (.int .i64 a1), a2] S0 Q := fn_ok w0 Tryd.func73 (by kernel_rfl) (by rw [law04_small_eq]; exact h)
def G_ref04_all (Ca : Nat → List AV → St → (AV → St → Prop) → Prop) (a0a : Int) (a0b : Bool) (a0c : List (List AV)) (a0cr : Rt) (a0d : List (List AV)) (a0dr : Rt) (a0e : Int) (a0f : List (List AV)) (a0fr : Rt) (a0g : List UInt8) (S0 : St) (Q : AV → St → Prop) : Prop :=
 optK (boxA T_api_Node (.agg [(.int .i64 a0a), (.bool a0b), (.vs 1 a0c a0cr), (.vs 7 a0d a0dr), (.int .i64 a0e), (.vs 2 a0f a0fr), (.str a0g)])) fun c1 =>
 joinK (fun (y1 : Option (List AV)) (S_3 : St) =>
 optK (lloadA T_api_Node y1 0) fun t18 =>
 callK Ca F_ref04_One [(AV.strip t18)] S_3 fun t19 S_4 =>
 Q t19 S_4) fun j =>
 loopQ ([(.int .i64 0)], [(some c1)]) (fun v bx => ([v 3], [bx 1])) (fun nx v bx S =>
 optK (bx 1) fun _ =>
 optK (lloadA T_s_api_Node (bx 1) 3) fun t6 =>
 optK (lenSlA (AV.strip t6)) fun t7 =>
 optK (binA .lss (AV.strip (v 3)) t7) fun t8 =>
 ifK t8
 (optK (bx 1) fun _ =>
 optK (lloadA T_s_api_Node (bx 1) 3) fun t12 =>
 optK (idxSlA T_api_Node (AV.strip t12) (AV.strip (v 3))) fun t14 =>
 optK (loadA T_api_Node S t14) fun t15 =>
 callK Ca F_ref04_all [(AV.strip t15)] S fun t16 S_2 =>
 optK (unA .not t16) fun t17 =>
 ifK t17
 (Q (.bool false) S_2)
 (optK (binA .add (AV.strip (v 3)) (.int .i64 1)) fun t10 =>
 nx ([t10], [(bx 1)]) S_2))
 (j (bx 1) S)) S0
theorem ref04_all_eq (Ca) (a0a : Int) (a0b : Bool) (a0c : List (List AV)) (a0cr : Rt) (a0d : List (List AV)) (a0dr : Rt) (a0e : Int) (a0f : List (List AV)) (a0fr : Rt) (a0g : List UInt8) (S0 Q) : WF C Ca 74 (Drw C Ca 74) Tryd.f74 [(.agg [(.int .i64 a0a), (.bool a0b), (.vs 1 a0c a0cr), (.vs 7 a0d a0dr), (.int .i64 a0e), (.vs 2 a0f a0fr), (.str a0g)])] S0 Q = G_ref04_all Ca a0a a0b a0c a0cr a0d a0dr a0e a0f a0fr a0g S0 Q := by kernel_rfl
theorem ref04_all_ok {w0 : World} {a0a : Int} {a0b : Bool} {a0c : List (List AV)} {a0cr : Rt} {a0d : List (List AV)} {a0dr : Rt} {a0e : Int} {a0f : List (List AV)} {a0fr : Rt} {a0g : List UInt8} {S0 : St} {Q : AV → St → Prop} (h : G_ref04_all (ACalls (En w0)) a0a a0b a0c a0cr a0d a0dr a0e a0f a0fr a0g S0 Q) : AC w0 F_ref04_all [(.agg [(.int .i64 a0a), (.bool a0b), (.vs 1 a0c a0cr), (.vs 7 a0d a0dr), (.int .i64 a0e), (.vs 2 a0f a0fr), (.str a0g)])] S0 Q := fn_ok w0 Tryd.func74 (by kernel_rfl) (by rw [ref04_all_eq]; exact h)
def G_ref04_Depth (Ca : Nat → List AV → St → (AV → St → Prop) → Prop) (a0a : Int) (a0b : Bool) (a0c : List (List AV)) (a0cr : Rt) (a0d : List (List AV)) (a0dr : Rt) (a0e : Int) (a0f : List (List AV)) (a0fr : Rt) (a0g : List UInt8) (S0 : St) (Q : AV → St → Prop) : Prop :=
 optK (boxA T_api_Node (.agg [(.int .i64 a0a), (.bool a0b), (.vs 1 a0c a0cr), (.vs 7 a0d a0dr), (.int .i64 a0e), (.vs 2 a0f a0fr), (.str a0g)])) fun c1 =>
 joinK (fun (x3_2 : AV) (S_4 : St) =>
 Q (AV.strip x3_2) S_4) fun j_2 =>
 loopQ ([(.int .i64 0), (.int .i64 0)], [(some c1)]) (fun v bx => ([v 3, v 4], [bx 1])) (fun nx v bx S =>
 optK (bx 1) fun _ =>
 optK (lloadA T_s_api_Node (bx 1) 3) fun t8 =>
 optK (lenSlA (AV.strip t8)) fun t9 =>
 optK (binA .lss (AV.strip (v 4)) t9) fun t10 =>
 ifK t10
 (joinK (fun (x3 : AV) (S_3 : St) =>
 optK (binA .add (AV.strip (v 4)) (.int .i64 1)) fun t12 =>
 nx ([x3, t12], [(bx 1)]) S_3) fun j =>
 optK (bx 1) fun _ =>
 optK (lloadA T_s_api_Node (bx 1) 3) fun t14 =>
 optK (idxSlA T_api_Node (AV.strip t14) (AV.strip (v 4))) fun t16 =>
 optK (loadA T_api_Node S t16) fun t17 =>
 callK Ca F_ref04_Depth [(AV.strip t17)] S fun t18 S_2 =>
 optK (binA .add t18 (.int .i64 1)) fun t19 =>
 optK (binA .gtr (AV.strip t19) (AV.strip (v 3))) fun t22 =>
 ifK t22
 (j (AV.strip t19) S_2)
 (j (v 3) S_2))
 (j_2 (v 3) S)) S0
theorem ref04_Depth_eq (Ca) (a0a : Int) (a0b : Bool) (a0c : List (List AV)) (a0cr : Rt) (a0d : List (List AV)) (a0dr : Rt) (a0e : Int) (a0f : List (List AV)) (a0fr : Rt) (a0g : List UInt8) (S0 Q) : WF C Ca 75 (Drw C Ca 75) Tryd.f75 [(.agg [(.int .i64 a0a), (.bool a0b), (.vs 1 a0c a0cr), (.vs 7 a0d a0dr), (.int .i64 a0e), (.vs 2 a0f a0fr), (.str a0g)])] S0 Q = G_ref04_Depth Ca a0a a0b a0c a0cr a0d a0dr a0e a0f a0fr a0g S0 Q := by kernel_rfl
theorem ref04_Depth_ok {w0 : World} {a0a : Int} {a0b : Bool} {a0c : List (List AV)} {a0cr : Rt} {a0d : List (List AV)} {a0dr : Rt} {a0e : Int} {a0f : List (List AV)} {a0fr : Rt} {a0g : List UInt8} {S0 : St} {Q : AV → St → Prop} (h : G_ref04_Depth (ACalls (En w0)) a0a a0b a0c a0cr a0d a0dr a0e a0f a0fr a0g S0 Q) : AC w0 F_ref04_Depth [(.agg [(.int .i64 a0a), (.bool a0b), (.vs 1 a0c a0cr), (.vs 7 a0d a0dr), (.int .i64 a0e), (.vs 2 a0f a0fr), (.str a0g)])] S0 Q := fn_ok w0 Tryd.func75 (by kernel_rfl) (by rw [ref04_Depth_eq]; exact h)
def G_tree_right (Ca : Nat → List AV → St → (AV → St → Prop) → Prop) (a0a : Int) (a0b : Bool) (a0c : List (List AV)) (a0cr : Rt) (a0d : List (List AV)) (a0dr : Rt) (a0e : Int) (a0f : List (List AV)) (a0fr : Rt) (a0g : List UInt8) (a1 : Int) (a2 : AV) (S0 : St) (Q : AV → St → Prop) : Prop :=
 optK (boxA T_api_Node (.agg [(.int .i64 a0a), (.bool a0b), (.vs 1 a0c a0cr), (.vs 7 a0d a0dr), (.int .i64 a0e), (.vs 2 a0f a0fr), (.str a0g)])) fun c3 =>
 optK (nilA (AV.strip a2)) fun t13 =>
 optK (loadA T_int S0 t13) fun t14 =>
 optK (binA .sub (AV.strip t14) (.int .i64 1)) fun t15 =>
 optK (nilA (AV.strip a2)) fun t16 =>
 optK (storeA T_int S0 t16 t15) fun S =>
 optK (nilA (AV.strip a2)) fun t18 =>
 optK (loadA T_int S t18) fun t19 =>
 optK (binA .lss (AV.strip t19) (.int .i64 0)) fun t20 =>
 joinK (fun (x23 : AV) =>
 optK (pickA (AV.strip t20) (.bool true) x23) fun t24 =>
 joinK (fun (x28 : AV) (S_3 : St) =>
 optK (pickA (AV.strip (AV.strip t24)) (.bool true) x28) fun t29 =>
 ifK (AV.strip t29)
 (Q (.bool false) S_3)
 (joinK (
 Q (.bool false) S_3) fun j_5 =>
 optK (some c3) fun _ =>
 optK (lloadA T_int (some c3) 0) fun t31 =>
 optK (binA .eql (AV.strip t31) (.int .i64 1)) fun t33 =>
 ifK t33
 (optK (some c3) fun _ =>
 optK (lloadA T_int (some c3) 4) fun t35 =>
 optK (some c3) fun _ =>
 optK (lloadA T_s_api_Extent (some c3) 5) fun t37 =>
 callK Ca F_extent_Right [(AV.strip t35), (AV.strip t37)] S_3 fun t38 S_4 =>
 Q t38 S_4)
 (optK (binA .eql (AV.strip t31) (.int .i64 3)) fun t40 =>
 ifK t40
 (optK (some c3) fun _ =>
 optK (lloadA T_string (some c3) 6) fun t43 =>
 callK Ca F_name_Split [(AV.strip t43)] S_3 fun t44 S_5 =>
 optK (extractA t44 0) fun t45 =>
 optK (extractA (stripTup t44 0) 1) fun t46 =>
 optK (extractA (stripTup (stripTup t44 0) 1) 2) fun t47 =>
 optK (binA .eql (AV.strip t47) (.int .i64 0)) fun t49 =>
 joinK (fun (x54 : AV) =>
 optK (pickA (AV.strip t49) x54 (.bool false)) fun t55 =>
 Q (AV.strip t55) S_5) fun j_3 =>
 ifK (AV.strip t49)
 (optK (some c3) fun _ =>
 optK (lloadA T_string (some c3) 6) fun t52 =>
 optK (lenStrA (AV.strip t52)) fun t53 =>
 optK (binA .leq t53 (.int .i64 256)) fun t54 =>
 j_3 t54)
 (j_3 (.tup [])))
 (optK (binA .eql (AV.strip t31) (.int .i64 4)) fun t57 =>
 ifK t57
 (Q (.bool true) S_3)
 (optK (binA .eql (AV.strip t31) (.int .i64 2)) fun t59 =>
 ifK t59
 (optK (lloadA T_api_Node (some c3) 0) fun t60 =>
 callK Ca F_tree_names [(AV.strip t60)] S_3 fun t61 S_6 =>
 optK (unA .not t61) fun t62 =>
 ifK t62
 (Q (.bool false) S_6)
 (joinK (fun (S_9 : St) =>
 Q (.bool true) S_9) fun j_4 =>
 optK (some c3) fun _ =>
 optK (lloadA T_s_api_Node (some c3) 3) fun t64 =>
 optK (lenSlA (AV.strip t64)) fun t65 =>
 loopQ ([(.int .i64 0)], []) (fun v bx => ([v 66], [])) (fun nx v bx S_7 =>
 optK (binA .lss (v 66) t65) fun t67 =>
 ifK t67
 (optK (idxSlA T_api_Node (AV.strip t64) (v 66)) fun t68 =>
 optK (loadA T_api_Node S_7 t68) fun t69 =>
 optK (lstoreA T_api_Node (some [(.int .i64 0), (.bool false), (.vs 1 [] .nil), (.vs 7 [] .nil), (.int .i64 0), (.vs 2 [] .nil), (.str [])]) 0 (AV.strip t69)) fun b11 =>
 optK (lloadA T_api_Node (some b11) 0) fun t70 =>
 callK Ca F_tree_right [(AV.strip t70), (.int .i64 (IntKind.i64.wrap (a1 + 1))), (AV.strip a2)] S_7 fun t74 S_8 =>
 optK (unA .not t74) fun t75 =>
 ifK t75
 (Q (.bool false) S_8)
 (optK (binA .add (v 66) (.int .i64 1)) fun t76 =>
 nx ([(AV.strip t76)], []) S_8))
 (j_4 S_7)) S_6))
 (j_5)))))) fun j =>
 ifK (AV.strip (AV.strip t24))
 (j (.tup []) S)
 (optK (lloadA T_api_Node (some c3) 0) fun t26 =>
 callK Ca F_tree_zero [(AV.strip t26)] S fun t27 S_2 =>
 optK (unA .not t27) fun t28 =>
 j t28 S_2)) fun j_2 =>
 ifK (AV.strip t20)
 (j_2 (.tup []))
 (j_2 (.bool (decide (a1 > 15))))
theorem tree_right_eq (Ca) (a0a : Int) (a0b : Bool) (a0c : List (List AV)) (a0cr : Rt) (a0d : List (List AV)) (a0dr : Rt) (a0e : Int) (a0f : List (List AV)) (a0fr : Rt) (a0g : List UInt8) (a1 : Int) (a2 : AV) (S0 Q) : WF C Ca 76 (Drw C Ca 76) Tryd.f76 [(.agg [(.int .i64 a0a), (.bool a0b), (.vs 1 a0c a0cr), (.vs 7 a0d a0dr), (.int .i64 a0e), (.vs 2 a0f a0fr), (.str a0g)]), (.int .i64 a1), a2] S0 Q = G_tree_right Ca a0a a0b a0c a0cr a0d a0dr a0e a0f a0fr a0g a1 a2 S0 Q := by kernel_rfl
theorem tree_right_ok {w0 : World} {a0a : Int} {a0b : Bool} {a0c : List (List AV)} {a0cr : Rt} {a0d : List (List AV)} {a0dr : Rt} {a0e : Int} {a0f : List (List AV)} {a0fr : Rt} {a0g : List UInt8} {a1 : Int} {a2 : AV} {S0 : St} {Q : AV → St → Prop} (h : G_tree_right (ACalls (En w0)) a0a a0b a0c a0cr a0d a0dr a0e a0f a0fr a0g a1 a2 S0 Q) : AC w0 F_tree_right [(.agg [(.int .i64 a0a), (.bool a0b), (.vs 1 a0c a0cr), (.vs 7 a0d a0dr), (.int .i64 a0e), (.vs 2 a0f a0fr), (.str a0g)]), (.int .i64 a1), a2] S0 Q := fn_ok w0 Tryd.func76 (by kernel_rfl) (by rw [tree_right_eq]; exact h)
def G_slices_Equal_s_string_string (Ca : Nat → List AV → St → (AV → St → Prop) → Prop) (a0 : List (List AV)) (a0r : Rt) (a1 : List (List AV)) (a1r : Rt) (S0 : St) (Q : AV → St → Prop) : Prop :=
 ifK (.bool ((List.length a0 : Int) != (List.length a1 : Int)))
 (Q (.bool false) S0)
 (joinK (fun (S_2 : St) =>
 Q (.bool true) S_2) fun j =>
 loopQ ([(.int .i64 0)], []) (fun v bx => ([v 13], [])) (fun nx v bx S =>
 optK (binA .lss (v 13) (.int .i64 (List.length a0 : Int))) fun t14 =>
 ifK t14
 (optK (idxSlA T_string (.vs 1 a0 (Rt.strip a0r)) (AV.strip (AV.strip (v 13)))) fun t18 =>
 optK (loadA T_string S t18) fun t19 =>
 optK (idxSlA T_string (.vs 1 a1 (Rt.strip a1r)) (AV.strip (AV.strip (v 13)))) fun t22 =>
 optK (loadA T_string S t22) fun t23 =>
 optK (binA .neq (AV.strip t19) (AV.strip t23)) fun t24 =>
 ifK t24
 (Q (.bool false) S)
 (optK (binA .add (v 13) (.int .i64 1)) fun t25 =>
 nx ([(AV.strip t25)], []) S))
 (j S)) S0)
theorem slices_Equal_s_string_string_eq (Ca) (a0 : List (List AV)) (a0r : Rt) (a1 : List (List AV)) (a1r : Rt) (S0 Q) : WF C Ca 77 (Drw C Ca 77) Tryd.f77 [(.vs 1 a0 a0r), (.vs 1 a1 a1r)] S0 Q = G_slices_Equal_s_string_string Ca a0 a0r a1 a1r S0 Q := by kernel_rfl
theorem slices_Equal_s_string_string_ok {w0 : World} {a0 : List (List AV)} {a0r : Rt} {a1 : List (List AV)} {a1r : Rt} {S0 : St} {Q : AV → St → Prop} (h : G_slices_Equal_s_string_string (ACalls (En w0)) a0 a0r a1 a1r S0 Q) : AC w0 F_slices_Equal_s_string_string [(.vs 1 a0 a0r), (.vs 1 a1 a1r)] S0 Q := fn_ok w0 Tryd.func77 (by kernel_rfl) (by rw [slices_Equal_s_string_string_eq]; exact h)
def G_slices_Equal_s_api_Extent_api_Extent (Ca : Nat → List AV → St → (AV → St → Prop) → Prop) (a0 : List (List AV)) (a0r : Rt) (a1 : List (List AV)) (a1r : Rt) (S0 : St) (Q : AV → St → Prop) : Prop :=
 ifK (.bool ((List.length a0 : Int) != (List.length a1 : Int)))
 (Q (.bool false) S0)
 (joinK (fun (S_2 : St) =>
 Q (.bool true) S_2) fun j =>
 loopQ ([(.int .i64 0)], []) (fun v bx => ([v 13], [])) (fun nx v bx S =>
 optK (binA .lss (v 13) (.int .i64 (List.length a0 : Int))) fun t14 =>
 ifK t14
 (optK (idxSlA T_api_Extent (.vs 2 a0 (Rt.strip a0r)) (AV.strip (AV.strip (v 13)))) fun t18 =>
 optK (loadA T_api_Extent S t18) fun t19 =>
 optK (idxSlA T_api_Extent (.vs 2 a1 (Rt.strip a1r)) (AV.strip (AV.strip (v 13)))) fun t22 =>
 optK (loadA T_api_Extent S t22) fun t23 =>
 optK (binE (.agg T_api_Extent.zero) .neq (AV.strip t19) (AV.strip t23)) fun t24 =>
 ifK t24
 (Q (.bool false) S)
 (optK (binA .add (v 13) (.int .i64 1)) fun t25 =>
 nx ([(AV.strip t25)], []) S))
 (j S)) S0)
theorem slices_Equal_s_api_Extent_api_Extent_eq (Ca) (a0 : List (List AV)) (a0r : Rt) (a1 : List (List AV)) (a1r : Rt) (S0 Q) : WF C Ca 78 (Drw C Ca 78) Tryd.f78 [(.vs 2 a0 a0r), (.vs 2 a1 a1r)] S0 Q = G_slices_Equal_s_api_Extent_api_Extent Ca a0 a0r a1 a1r S0 Q := by kernel_rfl
theorem slices_Equal_s_api_Extent_api_Extent_ok {w0 : World} {a0 : List (List AV)} {a0r : Rt} {a1 : List (List AV)} {a1r : Rt} {S0 : St} {Q : AV → St → Prop} (h : G_slices_Equal_s_api_Extent_api_Extent (ACalls (En w0)) a0 a0r a1 a1r S0 Q) : AC w0 F_slices_Equal_s_api_Extent_api_Extent [(.vs 2 a0 a0r), (.vs 2 a1 a1r)] S0 Q := fn_ok w0 Tryd.func78 (by kernel_rfl) (by rw [slices_Equal_s_api_Extent_api_Extent_eq]; exact h)
def G_ref03_Right (Ca : Nat → List AV → St → (AV → St → Prop) → Prop) (a0 : Int) (a1 : List (List AV)) (a1r : Rt) (S0 : St) (Q : AV → St → Prop) : Prop :=
 joinK (fun (x10 : AV) =>
 optK (pickA (.bool (decide (a0 < 0))) (.bool true) x10) fun t11 =>
 ifK (AV.strip t11)
 (Q (.bool false) S0)
 (joinK (fun (S_2 : St) =>
 Q (.bool true) S_2) fun j_6 =>
 loopQ ([(.int .i64 0)], []) (fun v bx => ([v 5], [])) (fun nx v bx S =>
 optK (binA .lss (AV.strip (v 5)) (.int .i64 (List.length a1 : Int))) fun t15 =>
 ifK t15
 (optK (idxSlA T_api_Extent (.vs 2 a1 (Rt.strip a1r)) (AV.strip (v 5))) fun t20 =>
 optK (movePtr t20 0) fun t21 =>
 optK (loadA T_int S t21) fun t22 =>
 optK (binA .lss (AV.strip t22) (.int .i64 0)) fun t23 =>
 joinK (fun (x31 : AV) =>
 optK (pickA (AV.strip t23) (.bool true) x31) fun t32 =>
 joinK (fun (x40 : AV) =>
 optK (pickA (AV.strip (AV.strip t32)) (.bool true) x40) fun t41 =>
 joinK (fun (x56 : AV) =>
 optK (pickA (AV.strip (AV.strip t41)) (.bool true) x56) fun t57 =>
 ifK (AV.strip t57)
 (Q (.bool false) S)
 (optK (binA .gtr (AV.strip (v 5)) (.int .i64 0)) fun t59 =>
 joinK (fun (x80 : AV) =>
 optK (pickA (AV.strip t59) x80 (.bool false)) fun t81 =>
 ifK (AV.strip t81)
 (Q (.bool false) S)
 (optK (binA .add (AV.strip (v 5)) (.int .i64 1)) fun t17 =>
 nx ([t17], []) S)) fun j_5 =>
 ifK (AV.strip t59)
 (optK (idxSlA T_api_Extent (.vs 2 a1 (Rt.strip a1r)) (AV.strip (v 5))) fun t63 =>
 optK (movePtr t63 0) fun t64 =>
 optK (loadA T_int S t64) fun t65 =>
 optK (binA .sub (AV.strip (v 5)) (.int .i64 1)) fun t68 =>
 optK (idxSlA T_api_Extent (.vs 2 a1 (Rt.strip a1r)) t68) fun t69 =>
 optK (movePtr t69 0) fun t70 =>
 optK (loadA T_int S t70) fun t71 =>
 optK (binA .sub (AV.strip (v 5)) (.int .i64 1)) fun t74 =>
 optK (idxSlA T_api_Extent (.vs 2 a1 (Rt.strip a1r)) t74) fun t75 =>
 optK (movePtr t75 1) fun t76 =>
 optK (loadA T_string S t76) fun t77 =>
 optK (lenStrA (AV.strip t77)) fun t78 =>
 optK (binA .add (AV.strip t71) t78) fun t79 =>
 optK (binA .lss (AV.strip t65) t79) fun t80 =>
 j_5 t80)
 (j_5 (.tup [])))) fun j_2 =>
 ifK (AV.strip (AV.strip t41))
 (j_2 (.tup []))
 (optK (idxSlA T_api_Extent (.vs 2 a1 (Rt.strip a1r)) (AV.strip (v 5))) fun t45 =>
 optK (movePtr t45 0) fun t46 =>
 optK (loadA T_int S t46) fun t47 =>
 optK (idxSlA T_api_Extent (.vs 2 a1 (Rt.strip a1r)) (AV.strip (v 5))) fun t50 =>
 optK (movePtr t50 1) fun t51 =>
 optK (loadA T_string S t51) fun t52 =>
 optK (lenStrA (AV.strip t52)) fun t53 =>
 optK (binA .add (AV.strip t47) t53) fun t54 =>
 optK (binA .gtr t54 (.int .i64 a0)) fun t56 =>
 j_2 t56)) fun j_3 =>
 ifK (AV.strip (AV.strip t32))
 (j_3 (.tup []))
 (optK (idxSlA T_api_Extent (.vs 2 a1 (Rt.strip a1r)) (AV.strip (v 5))) fun t36 =>
 optK (movePtr t36 1) fun t37 =>
 optK (loadA T_string S t37) fun t38 =>
 optK (lenStrA (AV.strip t38)) fun t39 =>
 optK (binA .lss t39 (.int .i64 1)) fun t40 =>
 j_3 t40)) fun j_4 =>
 ifK (AV.strip t23)
 (j_4 (.tup []))
 (optK (idxSlA T_api_Extent (.vs 2 a1 (Rt.strip a1r)) (AV.strip (v 5))) fun t27 =>
 optK (movePtr t27 0) fun t28 =>
 optK (loadA T_int S t28) fun t29 =>
 optK (binA .gtr (AV.strip t29) (.int .i64 a0)) fun t31 =>
 j_4 t31))
 (j_6 S)) S0)) fun j =>
 ifK (.bool (decide (a0 < 0)))
 (j (.tup []))
 (j (.bool (decide (a0 > 1048576))))
theorem ref03_Right_eq (Ca) (a0 : Int) (a1 : List (List AV)) (a1r : Rt) (S0 Q) : WF C Ca 79 (Drw C Ca 79) Tryd.f79 [(.int .i64 a0), (.vs 2 a1 a1r)] S0 Q = G_ref03_Right Ca a0 a1 a1r S0 Q := by kernel_rfl
theorem ref03_Right_ok {w0 : World} {a0 : Int} {a1 : List (List AV)} {a1r : Rt} {S0 : St} {Q : AV → St → Prop} (h : G_ref03_Right (ACalls (En w0)) a0 a1 a1r S0 Q) : AC w0 F_ref03_Right [(.int .i64 a0), (.vs 2 a1 a1r)] S0 Q := fn_ok w0 Tryd.func79 (by kernel_rfl) (by rw [ref03_Right_eq]; exact h)
end Go.Av
