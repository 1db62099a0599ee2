/- Parts of the proofs of this seat: abstract values over the model, and what the functions of the program do. No condition. -/
import Derived.Test.YtclomnkgpemnaaaDoorM8
set_option linter.all false
set_option linter.unusedVariables false
namespace Go.Av
open Go.Proofs
def G_cheap_down (Ca : Nat → List AV → St → (AV → St → Prop) → Prop) (a0 : AV) (a1 : Int) (a2 : Int) (S0 : St) (Q : AV → St → Prop) : Prop :=
 joinK (fun (x7 : AV) (S_7 : St) =>
 optK (binA .gtr (AV.strip x7) (.int .i64 a1)) fun t47 =>
 Q t47 S_7) fun j_4 =>
 loopQ ([(.int .i64 a1)], []) (fun v bx => ([v 7], [])) (fun nx v bx S =>
 optK (binA .mul (.int .i64 2) (AV.strip (v 7))) fun t13 =>
 optK (binA .add t13 (.int .i64 1)) fun t14 =>
 optK (binA .geq (AV.strip t14) (.int .i64 a2)) fun t17 =>
 joinK (fun (x20 : AV) =>
 optK (pickA (AV.strip t17) (.bool true) x20) fun t21 =>
 ifK (AV.strip t21)
 (j_4 (v 7) S)
 (joinK (fun (x9 : AV) (S_4 : St) =>
 optK (invokeA C (AV.strip a0) "Less" [(AV.strip x9), (AV.strip (v 7))]) fun a_2 =>
 Ca a_2.1 a_2.2 S_4 fun t38 S_5 =>
 optK (unA .not t38) fun t39 =>
 ifK t39
 (j_4 (v 7) S_5)
 (optK (invokeA C (AV.strip a0) "Swap" [(AV.strip (v 7)), (AV.strip x9)]) fun a_3 =>
 Ca a_3.1 a_3.2 S_5 fun t43 S_6 =>
 nx ([(AV.strip x9)], []) S_6)) fun j_3 =>
 optK (binA .add (AV.strip t14) (.int .i64 1)) fun t24 =>
 optK (binA .lss (AV.strip t24) (.int .i64 a2)) fun t27 =>
 joinK (fun (x32 : AV) (S_3 : St) =>
 optK (pickA (AV.strip t27) x32 (.bool false)) fun t33 =>
 ifK (AV.strip t33)
 (j_3 (AV.strip t24) S_3)
 (j_3 (AV.strip t14) S_3)) fun j_2 =>
 ifK (AV.strip t27)
 (optK (invokeA C (AV.strip a0) "Less" [(AV.strip t24), (AV.strip t14)]) fun a =>
 Ca a.1 a.2 S fun t32 S_2 =>
 j_2 t32 S_2)
 (j_2 (.tup []) S))) fun j =>
 ifK (AV.strip t17)
 (j (.tup []))
 (optK (binA .lss (AV.strip t14) (.int .i64 0)) fun t20 =>
 j t20)) S0
theorem cheap_down_eq (Ca) (a0 : AV) (a1 : Int) (a2 : Int) (S0 Q) : WF C Ca 135 (Drw C Ca 135) Tryd.f135 [a0, (.int .i64 a1), (.int .i64 a2)] S0 Q = G_cheap_down Ca a0 a1 a2 S0 Q := by kernel_rfl
theorem cheap_down_ok {w0 : World} {a0 : AV} {a1 : Int} {a2 : Int} {S0 : St} {Q : AV → St → Prop} (h : G_cheap_down (ACalls (En w0)) a0 a1 a2 S0 Q) : AC w0 F_cheap_down [a0, (.int .i64 a1), (.int .i64 a2)] S0 Q := fn_ok w0 Tryd.func135 (by kernel_rfl) (by rw [cheap_down_eq]; exact h)
def G_cheap_up (Ca : Nat → List AV → St → (AV → St → Prop) → Prop) (a0 : AV) (a1 : Int) (S0 : St) (Q : AV → St → Prop) : Prop :=
 loopQ ([(.int .i64 a1)], []) (fun v bx => ([v 1], [])) (fun nx v bx S =>
 optK (binA .sub (AV.strip (v 1)) (.int .i64 1)) fun t6 =>
 optK (binA .quo t6 (.int .i64 2)) fun t7 =>
 optK (binA .eql (AV.strip t7) (AV.strip (v 1))) fun t10 =>
 joinK (fun (x16 : AV) (S_3 : St) =>
 optK (pickA (AV.strip t10) (.bool true) x16) fun t17 =>
 ifK (AV.strip t17)
 (Q (.tup []) S_3)
 (optK (invokeA C (AV.strip a0) "Swap" [(AV.strip t7), (AV.strip (v 1))]) fun a_2 =>
 Ca a_2.1 a_2.2 S_3 fun t21 S_4 =>
 nx ([(AV.strip t7)], []) S_4)) fun j =>
 ifK (AV.strip t10)
 (j (.tup []) S)
 (optK (invokeA C (AV.strip a0) "Less" [(AV.strip (v 1)), (AV.strip t7)]) fun a =>
 Ca a.1 a.2 S fun t15 S_2 =>
 optK (unA .not t15) fun t16 =>
 j t16 S_2)) S0
theorem cheap_up_eq (Ca) (a0 : AV) (a1 : Int) (S0 Q) : WF C Ca 136 (Drw C Ca 136) Tryd.f136 [a0, (.int .i64 a1)] S0 Q = G_cheap_up Ca a0 a1 S0 Q := by kernel_rfl
theorem cheap_up_ok {w0 : World} {a0 : AV} {a1 : Int} {S0 : St} {Q : AV → St → Prop} (h : G_cheap_up (ACalls (En w0)) a0 a1 S0 Q) : AC w0 F_cheap_up [a0, (.int .i64 a1)] S0 Q := fn_ok w0 Tryd.func136 (by kernel_rfl) (by rw [cheap_up_eq]; exact h)
def G_heap_heads_Less (Ca : Nat → List AV → St → (AV → St → Prop) → Prop) (a0 : Nat) (a0o : Nat) (a1 : Int) (a2 : Int) (S0 : St) (Q : AV → St → Prop) : Prop :=
 optK (loadA T_func_heap_Item_heap_Item_bool S0 (.ptr a0 (a0o + 1))) fun t10 =>
 optK (loadA T_s_heap_head S0 (.ptr a0 (a0o + 0))) fun t14 =>
 optK (idxSlA T_heap_head (AV.strip t14) (.int .i64 a1)) fun t16 =>
 optK (movePtr t16 0) fun t17 =>
 optK (loadA T_heap_Item S0 t17) fun t18 =>
 optK (loadA T_s_heap_head S0 (.ptr a0 (a0o + 0))) fun t22 =>
 optK (idxSlA T_heap_head (AV.strip t22) (.int .i64 a2)) fun t24 =>
 optK (movePtr t24 0) fun t25 =>
 optK (loadA T_heap_Item S0 t25) fun t26 =>
 optK (calleeA (AV.strip t10) [(AV.strip t18), (AV.strip t26)]) fun a =>
 Ca a.1 a.2 S0 fun t27 S =>
 Q t27 S
theorem heap_heads_Less_eq (Ca) (a0 : Nat) (a0o : Nat) (a1 : Int) (a2 : Int) (S0 Q) : WF C Ca 180 (Drw C Ca 180) Tryd.f180 [(.ptr a0 a0o), (.int .i64 a1), (.int .i64 a2)] S0 Q = G_heap_heads_Less Ca a0 a0o a1 a2 S0 Q := by kernel_rfl
theorem heap_heads_Less_ok {w0 : World} {a0 : Nat} {a0o : Nat} {a1 : Int} {a2 : Int} {S0 : St} {Q : AV → St → Prop} (h : G_heap_heads_Less (ACalls (En w0)) a0 a0o a1 a2 S0 Q) : AC w0 F_heap_heads_Less [(.ptr a0 a0o), (.int .i64 a1), (.int .i64 a2)] S0 Q := fn_ok w0 Tryd.func180 (by kernel_rfl) (by rw [heap_heads_Less_eq]; exact h)
def G_heap_heads_Pop (Ca : Nat → List AV → St → (AV → St → Prop) → Prop) (a0 : Nat) (a0o : Nat) (S0 : St) (Q : AV → St → Prop) : Prop :=
 optK (loadA T_s_heap_head S0 (.ptr a0 (a0o + 0))) fun t8 =>
 optK (lenSlA (AV.strip t8)) fun t9 =>
 optK (binA .sub t9 (.int .i64 1)) fun t10 =>
 optK (loadA T_s_heap_head S0 (.ptr a0 (a0o + 0))) fun t14 =>
 optK (idxSlA T_heap_head (AV.strip t14) (AV.strip t10)) fun t16 =>
 optK (loadA T_heap_head S0 t16) fun t17 =>
 optK (lstoreA T_heap_head (some [(.str []), (.int .i64 0), (.vs 1 [] .nil)]) 0 (AV.strip t17)) fun b4 =>
 optK (loadA T_s_heap_head S0 (.ptr a0 (a0o + 0))) fun t22 =>
 optK (cutA T_heap_head (AV.strip0 t22) none (some (AV.strip t10)) none) fun t24 =>
 optK (storeA T_s_heap_head (stripMem S0 (.ptr a0 (a0o + 0))) (.ptr a0 (a0o + 0)) t24) fun S =>
 optK (lloadA T_heap_head (some b4) 0) fun t27 =>
 optK (ifaceA T_heap_head t_heap_head (AV.strip t27)) fun t28 =>
 Q t28 S
theorem heap_heads_Pop_eq (Ca) (a0 : Nat) (a0o : Nat) (S0 Q) : WF C Ca 181 (Drw C Ca 181) Tryd.f181 [(.ptr a0 a0o)] S0 Q = G_heap_heads_Pop Ca a0 a0o S0 Q := by kernel_rfl
theorem heap_heads_Pop_ok {w0 : World} {a0 : Nat} {a0o : Nat} {S0 : St} {Q : AV → St → Prop} (h : G_heap_heads_Pop (ACalls (En w0)) a0 a0o S0 Q) : AC w0 F_heap_heads_Pop [(.ptr a0 a0o)] S0 Q := fn_ok w0 Tryd.func181 (by kernel_rfl) (by rw [heap_heads_Pop_eq]; exact h)
def G_heap_heads_Swap (Ca : Nat → List AV → St → (AV → St → Prop) → Prop) (a0 : Nat) (a0o : Nat) (a1 : Int) (a2 : Int) (S0 : St) (Q : AV → St → Prop) : Prop :=
 optK (loadA T_s_heap_head S0 (.ptr a0 (a0o + 0))) fun t9 =>
 optK (loadA T_s_heap_head S0 (.ptr a0 (a0o + 0))) fun t14 =>
 optK (loadA T_s_heap_head S0 (.ptr a0 (a0o + 0))) fun t19 =>
 optK (idxSlA T_heap_head (AV.strip t19) (.int .i64 a2)) fun t21 =>
 optK (loadA T_heap_head S0 t21) fun t22 =>
 optK (loadA T_s_heap_head S0 (.ptr a0 (a0o + 0))) fun t26 =>
 optK (idxSlA T_heap_head (AV.strip t26) (.int .i64 a1)) fun t28 =>
 optK (loadA T_heap_head S0 t28) fun t29 =>
 optK (idxSlA T_heap_head (AV.strip t9) (.int .i64 a1)) fun t30 =>
 optK (storeA T_heap_head S0 t30 (AV.strip t22)) fun S =>
 optK (idxSlA T_heap_head (AV.strip t14) (.int .i64 a2)) fun t31 =>
 optK (storeA T_heap_head S t31 (AV.strip t29)) fun S_2 =>
 Q (.tup []) S_2
theorem heap_heads_Swap_eq (Ca) (a0 : Nat) (a0o : Nat) (a1 : Int) (a2 : Int) (S0 Q) : WF C Ca 182 (Drw C Ca 182) Tryd.f182 [(.ptr a0 a0o), (.int .i64 a1), (.int .i64 a2)] S0 Q = G_heap_heads_Swap Ca a0 a0o a1 a2 S0 Q := by kernel_rfl
theorem heap_heads_Swap_ok {w0 : World} {a0 : Nat} {a0o : Nat} {a1 : Int} {a2 : Int} {S0 : St} {Q : AV → St → Prop} (h : G_heap_heads_Swap (ACalls (En w0)) a0 a0o a1 a2 S0 Q) : AC w0 F_heap_heads_Swap [(.ptr a0 a0o), (.int .i64 a1), (.int .i64 a2)] S0 Q := fn_ok w0 Tryd.func182 (by kernel_rfl) (by rw [heap_heads_Swap_eq]; exact h)
def G_merge_Page_r (Ca : Nat → List AV → St → (AV → St → Prop) → Prop) (a0 : AV) (a1 : Int) (a2 : Int) (S0 : St) (Q : AV → St → Prop) : Prop :=
 optK (lenSlA (AV.strip a0)) fun t12 =>
 optK (minA [(.int .i64 (if 0 > a1 then 0 else a1)), t12]) fun t13 =>
 optK (lenSlA (AV.strip a0)) fun t18 =>
 optK (binA .sub t18 (AV.strip t13)) fun t20 =>
 optK (minA [(.int .i64 (if 0 > a2 then 0 else a2)), t20]) fun t21 =>
 optK (binA .add (AV.strip t13) t21) fun t22 =>
 optK (cutA T_merge_Entry a0 (some (AV.strip t13)) (some (AV.strip t22)) none) fun t26 =>
 optK (appendR T_merge_Entry S0 (.vs 2 [] .nil) t26) fun p27 =>
 optK (lenSlA (AV.strip (AV.strip a0))) fun t30 =>
 optK (binA .eql (AV.strip t22) t30) fun t31 =>
 Q (.tup [(AV.flat p27.1), (AV.flat t31)]) p27.2
theorem merge_Page_r_eq (Ca) (a0 : AV) (a1 : Int) (a2 : Int) (S0 Q) : WF C0 Ca 41 (Drw C0 Ca 41) Tryd.f41 [a0, (.int .i64 a1), (.int .i64 a2)] S0 Q = G_merge_Page_r Ca a0 a1 a2 S0 Q := by kernel_rfl
theorem merge_Page_r_ok {w0 : World} {a0 : AV} {a1 : Int} {a2 : Int} {S0 : St} {Q : AV → St → Prop} (h : G_merge_Page_r (ACalls (En w0)) a0 a1 a2 S0 Q) : AC w0 F_merge_Page [a0, (.int .i64 a1), (.int .i64 a2)] S0 Q := fn_ok0 w0 Tryd.func41 (by kernel_rfl) (by rw [merge_Page_r_eq]; exact h)
def G_law10_MergePages_r (Ca : Nat → List AV → St → (AV → St → Prop) → Prop) (a0 : List (List AV)) (a0r : Rt) (a1 : List (List AV)) (a1r : Rt) (S0 : St) (Q : AV → St → Prop) : Prop :=
 Ca F_law10_speaks [] S0 fun t17 S =>
 optK (unA .not t17) fun t18 =>
 ifK t18
 (Q (.bool false) S)
 (joinK (fun (x25 : AV) =>
 optK (pickA (.bool (decide ((List.length a0 : Int) > 100))) (.bool true) x25) fun t26 =>
 ifK (AV.strip t26)
 (Q (.bool true) S)
 (joinK (fun (x5 : AV) (S_3 : St) =>
 joinK (fun (x6_2 : AV) (S_9 : St) =>
 joinK (fun (S_11 : St) =>
 Q (.bool true) S_11) fun j_4 =>
 optK (lenSlA (AV.strip x6_2)) fun t101 =>
 loopQ ([(.int .i64 0)], []) (fun v_4 bx_4 => ([v_4 102], [])) (fun nx_4 v_4 bx_4 S_10 =>
 optK (binA .lss (v_4 102) t101) fun t103 =>
 ifK t103
 (optK (idxSlA T_merge_Entry (AV.strip x6_2) (v_4 102)) fun t105 =>
 optK (loadA T_merge_Entry S_10 t105) fun t106 =>
 optK (lstoreA T_merge_Entry (some [(.str []), (.int .i64 0)]) 0 (AV.strip t106)) fun b16 =>
 optK (lloadA T_merge_Entry (some b16) 0) fun t107 =>
 optK (idxSlA T_merge_Entry (AV.strip x5) (AV.strip (AV.strip (v_4 102)))) fun t110 =>
 optK (loadA T_merge_Entry S_10 t110) fun t111 =>
 optK (binE (.agg T_merge_Entry.zero) .neq (AV.strip t107) (AV.strip t111)) fun t112 =>
 ifK t112
 (Q (.bool false) S_10)
 (optK (binA .add (v_4 102) (.int .i64 1)) fun t113 =>
 nx_4 ([(AV.strip t113)], []) S_10))
 (j_4 S_10)) S_9) fun j_5 =>
 loopQ ([(.vs 2 [] .nil), (.int .i64 0), (.int .i64 0)], []) (fun v_2 bx_2 => ([v_2 6, v_2 9, v_2 43], [])) (fun nx_2 v_2 bx_2 S_4 =>
 optK (binA .lss (v_2 43) (.int .i64 (List.length a1 : Int))) fun t44 =>
 ifK t44
 (joinK (fun (x6 : AV) (x9 : AV) (S_8 : St) =>
 optK (binA .add (v_2 43) (.int .i64 1)) fun t99 =>
 nx_2 ([x6, x9, (AV.strip t99)], []) S_8) fun j_3 =>
 optK (idxSlA T_uint8 (.vs 1 a1 (Rt.strip a1r)) (v_2 43)) fun t45 =>
 optK (loadA T_uint8 S_4 t45) fun t46 =>
 optK (convIntA .i64 (AV.strip (AV.strip t46))) fun t51 =>
 optK (binA .rem t51 (.int .i64 9)) fun t52 =>
 callK Ca F_merge_Page [(AV.strip x5), (AV.strip (v_2 9)), t52] S_4 fun t53 S_5 =>
 optK (extractA t53 0) fun t54 =>
 optK (extractA (stripTup t53 0) 1) fun t55 =>
 optK (lenSlA (AV.strip t54)) fun t57 =>
 optK (convIntA .i64 (AV.strip (AV.strip t46))) fun t59 =>
 optK (binA .rem t59 (.int .i64 9)) fun t60 =>
 optK (lenSlA (AV.strip x5)) fun t62 =>
 optK (binA .sub t62 (AV.strip (v_2 9))) fun t64 =>
 optK (minA [t60, t64]) fun t65 =>
 optK (binA .neq t57 t65) fun t66 =>
 joinK (fun (x76 : AV) =>
 optK (pickA (AV.strip t66) (.bool true) x76) fun t77 =>
 ifK (AV.strip t77)
 (Q (.bool false) S_5)
 (optK (lenSlA (AV.strip t54)) fun t80 =>
 optK (binA .add (AV.strip (v_2 9)) t80) fun t81 =>
 optK (appendR T_merge_Entry S_5 (v_2 6) (AV.strip t54)) fun p84 =>
 optK (lenSlA (AV.strip t54)) fun t86 =>
 loopQ ([(.int .i64 0)], []) (fun v_3 bx_3 => ([v_3 87], [])) (fun nx_3 v_3 bx_3 S_6 =>
 optK (binA .lss (v_3 87) t86) fun t88 =>
 ifK t88
 (optK (idxSlA T_merge_Entry (AV.strip t54) (AV.strip (AV.strip (v_3 87)))) fun t92 =>
 optK (movePtr t92 1) fun t93 =>
 optK (loadA T_int S_6 t93) fun t94 =>
 optK (binA .sub (AV.strip t94) (.int .i64 1)) fun t95 =>
 optK (idxSlA T_merge_Entry (AV.strip t54) (AV.strip (AV.strip (v_3 87)))) fun t96 =>
 optK (movePtr t96 1) fun t97 =>
 optK (storeA T_int S_6 t97 t95) fun S_7 =>
 optK (binA .add (v_3 87) (.int .i64 1)) fun t98 =>
 nx_3 ([(AV.strip t98)], []) S_7)
 (j_3 p84.1 t81 S_6)) p84.2)) fun j_2 =>
 ifK (AV.strip t66)
 (j_2 (.tup []))
 (optK (lenSlA (AV.strip t54)) fun t71 =>
 optK (binA .add (AV.strip (v_2 9)) t71) fun t72 =>
 optK (lenSlA (AV.strip x5)) fun t74 =>
 optK (binA .eql t72 t74) fun t75 =>
 optK (binE .bool .neq (AV.strip t55) t75) fun t76 =>
 j_2 t76))
 (j_5 (v_2 6) S_4)) S_3) fun j_6 =>
 loopQ ([(.vs 2 [] .nil), (.int .i64 0)], []) (fun v bx => ([v 5, v 29], [])) (fun nx v bx S_2 =>
 optK (binA .lss (v 29) (.int .i64 (List.length a0 : Int))) fun t30 =>
 ifK t30
 (optK (idxSlA T_string (.vs 1 a0 (Rt.strip a0r)) (v 29)) fun t32 =>
 optK (loadA T_string S_2 t32) fun t33 =>
 optK (buildA T_merge_Entry 1 [(0, (AV.strip (AV.strip t33))), (1, (AV.strip (AV.strip (v 29))))]) fun t37 =>
 optK (elemVals 2 [t37]) fun e38 =>
 optK (appendR T_merge_Entry S_2 (v 5) (.vs 2 e38 .full)) fun p39 =>
 optK (binA .add (v 29) (.int .i64 1)) fun t40 =>
 nx ([p39.1, (AV.strip t40)], []) p39.2)
 (j_6 (v 5) S_2)) S)) fun j =>
 ifK (.bool (decide ((List.length a0 : Int) > 100)))
 (j (.tup []))
 (j (.bool (decide ((List.length a1 : Int) > 200)))))
theorem law10_MergePages_r_eq (Ca) (a0 : List (List AV)) (a0r : Rt) (a1 : List (List AV)) (a1r : Rt) (S0 Q) : WF C0 Ca 8 (Drw C0 Ca 8) Tryd.f8 [(.vs 1 a0 a0r), (.vs 1 a1 a1r)] S0 Q = G_law10_MergePages_r Ca a0 a0r a1 a1r S0 Q := by kernel_rfl
theorem law10_MergePages_r_ok {w0 : World} {a0 : List (List AV)} {a0r : Rt} {a1 : List (List AV)} {a1r : Rt} {S0 : St} {Q : AV → St → Prop} (h : G_law10_MergePages_r (ACalls (En w0)) a0 a0r a1 a1r S0 Q) : AC w0 F_law10_MergePages [(.vs 1 a0 a0r), (.vs 1 a1 a1r)] S0 Q := fn_ok0 w0 Tryd.func8 (by kernel_rfl) (by rw [law10_MergePages_r_eq]; exact h)
end Go.Av
