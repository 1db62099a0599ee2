/- Parts of the proofs of this seat: abstract values over the model, and what the functions of the program do. No condition. -/
import Derived.Test.YtdjfhghokfiieaaGreatDoorM8
set_option linter.all false
set_option linter.unusedVariables false
set_option maxHeartbeats 2000000
namespace Go.Av
open Go.Proofs
def G_branch_Branch_Names (Ca : Nat → List AV → St → (AV → St → Prop) → Prop) (a0 : Nat) (a0o : Nat) (a1 : Int) (S0 : St) (Q : AV → St → Prop) : Prop :=
 Ca F_branch_Branch_at [(.ptr a0 a0o), (.int .i64 a1)] S0 fun t7 S =>
 optK (partA T_api_Node t7 0) fun t8 =>
 optK (partA T_s_string (AV.strip t8) 2) fun t9 =>
 callK Ca F_slices_Clone_s_string_string [(AV.strip t9)] S fun t10 S_2 =>
 Q t10 S_2
theorem branch_Branch_Names_eq (Ca) (a0 : Nat) (a0o : Nat) (a1 : Int) (S0 Q) : WF C Ca 80 (Drw C Ca 80) Tryz.f80 [(.ptr a0 a0o), (.int .i64 a1)] S0 Q = G_branch_Branch_Names Ca a0 a0o a1 S0 Q := by kernel_rfl
theorem branch_Branch_Names_ok {w0 : World} {a0 : Nat} {a0o : Nat} {a1 : Int} {S0 : St} {Q : AV → St → Prop} (h : G_branch_Branch_Names (ACalls (En w0)) a0 a0o a1 S0 Q) : AC w0 F_branch_Branch_Names [(.ptr a0 a0o), (.int .i64 a1)] S0 Q := fn_ok w0 Tryz.func80 (by kernel_rfl) (by rw [branch_Branch_Names_eq]; exact h)
def G_heap_First (Ca : Nat → List AV → St → (AV → St → Prop) → Prop) (a0 : List (List AV)) (a0r : Rt) (S0 : St) (Q : AV → St → Prop) : Prop :=
 joinK (fun (x3_2 : AV) (S_2 : St) =>
 Q (AV.strip x3_2) S_2) fun j_3 =>
 loopQ ([(.vs 2 [] .nil), (.int .i64 0)], []) (fun v bx => ([v 3, v 8], [])) (fun nx v bx S =>
 optK (binA .lss (v 8) (.int .i64 (List.length a0 : Int))) fun t9 =>
 ifK t9
 (joinK (fun (x3 : AV) =>
 optK (binA .add (v 8) (.int .i64 1)) fun t30 =>
 nx ([x3, (AV.strip t30)], []) S) fun j_2 =>
 optK (idxSlA T_heap_Item (.vs 2 a0 (Rt.strip a0r)) (v 8)) fun t11 =>
 optK (loadA T_heap_Item S t11) fun t12 =>
 optK (lstoreA T_heap_Item (some [(.str []), (.int .i64 0)]) 0 (AV.strip t12)) fun b5 =>
 optK (binA .eql (AV.strip (AV.strip (v 8))) (.int .i64 0)) fun t14 =>
 joinK (fun (x24 : AV) =>
 optK (pickA (AV.strip t14) (.bool true) x24) fun t25 =>
 ifK (AV.strip t25)
 (optK (lloadA T_heap_Item (some b5) 0) fun t27 =>
 optK (elemVals 2 [(AV.strip t27)]) fun e28 =>
 optK (appendA T_heap_Item S (v 3) (.vs 2 e28 .full)) fun t29 =>
 j_2 t29)
 (j_2 (v 3))) fun j =>
 ifK (AV.strip t14)
 (j (.tup []))
 (optK (binA .sub (AV.strip (AV.strip (v 8))) (.int .i64 1)) fun t18 =>
 optK (idxSlA T_heap_Item (.vs 2 a0 (Rt.strip a0r)) t18) fun t19 =>
 optK (movePtr t19 0) fun t20 =>
 optK (loadA T_string S t20) fun t21 =>
 optK (some b5) fun _ =>
 optK (lloadA T_string (some b5) 0) fun t23 =>
 optK (binA .neq (AV.strip t21) (AV.strip t23)) fun t24 =>
 j t24))
 (j_3 (v 3) S)) S0
theorem heap_First_eq (Ca) (a0 : List (List AV)) (a0r : Rt) (S0 Q) : WF C Ca 81 (Drw C Ca 81) Tryz.f81 [(.vs 2 a0 a0r)] S0 Q = G_heap_First Ca a0 a0r S0 Q := by kernel_rfl
theorem heap_First_ok {w0 : World} {a0 : List (List AV)} {a0r : Rt} {S0 : St} {Q : AV → St → Prop} (h : G_heap_First (ACalls (En w0)) a0 a0r S0 Q) : AC w0 F_heap_First [(.vs 2 a0 a0r)] S0 Q := fn_ok w0 Tryz.func81 (by kernel_rfl) (by rw [heap_First_eq]; exact h)
def G_heap_Merge (Ca : Nat → List AV → St → (AV → St → Prop) → Prop) (a0 : List (List AV)) (a0r : Rt) (S0 : St) (Q : AV → St → Prop) : Prop :=
 optK (boxA T_heap_heads (.agg [(.vs 3 [] .nil), (.fn F_heap_Item_less [] [])])) fun c10 =>
 joinK (fun (x4_2 : AV) (S_4 : St) =>
 optK (ifaceA T_p_heap_heads t_p_heap_heads (.ptr S0.length 0)) fun t44 =>
 callK Ca F_cheap_Init [t44] S_4 fun t45 S_5 =>
 optK (makeSliceA T_heap_Item false S_5 (.int .i64 0) (AV.strip x4_2)) fun p47 =>
 joinK (fun (x7 : AV) (S_12 : St) =>
 Q (AV.strip x7) S_12) fun j_2 =>
 loopQ ([p47.1], []) (fun v_2 bx_2 => ([v_2 7], [])) (fun nx_2 v_2 bx_2 S_6 =>
 Ca F_heap_heads_Len [(.ptr S0.length 0)] S_6 fun t49 S_7 =>
 optK (binA .gtr t49 (.int .i64 0)) fun t50 =>
 ifK t50
 (optK (loadA T_s_heap_head S_7 (.ptr S0.length 0)) fun t54 =>
 optK (idxSlA T_heap_head (AV.strip t54) (.int .i64 0)) fun t55 =>
 optK (nilA (AV.strip t55)) fun t58 =>
 optK (movePtr t58 0) fun t59 =>
 optK (loadA T_heap_Item S_7 t59) fun t60 =>
 optK (elemVals 2 [(AV.strip t60)]) fun e61 =>
 optK (appendA T_heap_Item S_7 (v_2 7) (.vs 2 e61 .full)) fun t62 =>
 optK (nilA (AV.strip t55)) fun t64 =>
 optK (movePtr t64 2) fun t65 =>
 optK (loadA T_s_string S_7 t65) fun t66 =>
 optK (lenSlA (AV.strip t66)) fun t67 =>
 optK (binA .eql t67 (.int .i64 0)) fun t68 =>
 ifK t68
 (optK (ifaceA T_p_heap_heads t_p_heap_heads (.ptr S0.length 0)) fun t70 =>
 callK Ca F_cheap_Pop [t70] S_7 fun t71 S_8 =>
 nx_2 ([t62], []) S_8)
 (optK (nilA (AV.strip t55)) fun t75 =>
 optK (movePtr t75 2) fun t76 =>
 optK (loadA T_s_string S_7 t76) fun t77 =>
 optK (idxSlA T_string (AV.strip t77) (.int .i64 0)) fun t78 =>
 optK (loadA T_string S_7 t78) fun t79 =>
 optK (nilA (AV.strip t55)) fun t81 =>
 optK (movePtr t81 2) fun t82 =>
 optK (loadA T_s_string S_7 t82) fun t83 =>
 optK (nilA (AV.strip t55)) fun t85 =>
 optK (movePtr t85 0) fun t86 =>
 optK (movePtr t86 0) fun t87 =>
 optK (cutA T_string (AV.strip t83) (some (.int .i64 1)) none none) fun t84 =>
 optK (storeA T_string S_7 t87 (AV.strip t79)) fun S_9 =>
 optK (nilA (AV.strip t55)) fun t88 =>
 optK (movePtr t88 2) fun t89 =>
 optK (storeA T_s_string S_9 t89 t84) fun S_10 =>
 optK (ifaceA T_p_heap_heads t_p_heap_heads (.ptr S0.length 0)) fun t91 =>
 callK Ca F_cheap_Fix [t91, (.int .i64 0)] S_10 fun t92 S_11 =>
 nx_2 ([t62], []) S_11))
 (j_2 (v_2 7) S_7)) p47.2) fun j_3 =>
 loopQ ([(.int .i64 0), (.int .i64 0)], []) (fun v bx => ([v 4, v 13], [])) (fun nx v bx S =>
 optK (binA .lss (v 13) (.int .i64 (List.length a0 : Int))) fun t14 =>
 ifK t14
 (joinK (fun (x4 : AV) (S_3 : St) =>
 optK (binA .add (v 13) (.int .i64 1)) fun t42 =>
 nx ([x4, (AV.strip t42)], []) S_3) fun j =>
 optK (idxSlA T_s_string (.vs 1 a0 (Rt.strip a0r)) (v 13)) fun t16 =>
 optK (loadA T_s_string S t16) fun t17 =>
 optK (lenSlA (AV.strip (AV.strip t17))) fun t20 =>
 optK (binA .add (AV.strip (v 4)) t20) fun t21 =>
 optK (lenSlA (AV.strip (AV.strip t17))) fun t23 =>
 optK (binA .gtr t23 (.int .i64 0)) fun t24 =>
 ifK t24
 (optK (idxSlA T_string (AV.strip (AV.strip t17)) (.int .i64 0)) fun t31 =>
 optK (loadA T_string S t31) fun t32 =>
 optK (buildA T_heap_Item 1 [(0, (AV.strip t32)), (1, (AV.strip (AV.strip (v 13))))]) fun t34 =>
 optK (cutA T_string (AV.strip (AV.strip t17)) (some (.int .i64 1)) none none) fun t36 =>
 optK (buildA T_heap_head 1 [(0, t34), (1, t36)]) fun t37 =>
 optK (elemVals 3 [t37]) fun e38 =>
 optK (loadA T_s_heap_head S (.ptr S0.length 0)) fun t29 =>
 (optK (loadA T_string (stripMem S (.ptr S0.length 0)) t31) fun t32_2 =>
 ((AV.strip t32_2) : AV) = (AV.strip t32)) ∧
 (optK (appendR T_heap_head (stripMem S (.ptr S0.length 0)) (AV.strip0 t29) (.vs 3 e38 .full)) fun p39 =>
 optK (storeA T_s_heap_head p39.2 (.ptr S0.length 0) p39.1) fun S_2 =>
 j t21 S_2))
 (j t21 S))
 (j_3 (v 4) S)) (S0 ++ [.cells c10 t_heap_heads])
theorem heap_Merge_eq (Ca) (a0 : List (List AV)) (a0r : Rt) (S0 Q) : WF C Ca 82 (Drw C Ca 82) Tryz.f82 [(.vs 1 a0 a0r)] S0 Q = G_heap_Merge Ca a0 a0r S0 Q := by kernel_rfl
theorem heap_Merge_ok {w0 : World} {a0 : List (List AV)} {a0r : Rt} {S0 : St} {Q : AV → St → Prop} (h : G_heap_Merge (ACalls (En w0)) a0 a0r S0 Q) : AC w0 F_heap_Merge [(.vs 1 a0 a0r)] S0 Q := fn_ok w0 Tryz.func82 (by kernel_rfl) (by rw [heap_Merge_eq]; exact h)
def G_tree_Right (Ca : Nat → List AV → St → (AV → St → Prop) → Prop) (a0a : Int) (a0b : Bool) (a0c : List (List AV)) (a0cr : Rt) (a0d : List (List AV)) (a0dr : Rt) (a0e : Int) (a0f : List (List AV)) (a0fr : Rt) (a0g : List UInt8) (S0 : St) (Q : AV → St → Prop) : Prop :=
 optK (boxA T_api_Node (.agg [(.int .i64 a0a), (.bool a0b), (.vs 1 a0c a0cr), (.vs 7 a0d a0dr), (.int .i64 a0e), (.vs 2 a0f a0fr), (.str a0g)])) fun c1 =>
 optK (storeA T_int (S0 ++ [.cells T_int.zero t_int]) (.ptr S0.length 0) (.int .i64 4096)) fun S =>
 optK (some c1) fun _ =>
 optK (lloadA T_int (some c1) 0) fun t5 =>
 optK (binA .eql (AV.strip t5) (.int .i64 2)) fun t6 =>
 joinK (fun (x9 : AV) (S_3 : St) =>
 optK (pickA (AV.strip t6) x9 (.bool false)) fun t10 =>
 Q (AV.strip t10) S_3) fun j =>
 ifK (AV.strip t6)
 (optK (lloadA T_api_Node (some c1) 0) fun t8 =>
 callK Ca F_tree_right [(AV.strip t8), (.int .i64 0), (.ptr S0.length 0)] S fun t9 S_2 =>
 j t9 S_2)
 (j (.tup []) S)
theorem tree_Right_eq (Ca) (a0a : Int) (a0b : Bool) (a0c : List (List AV)) (a0cr : Rt) (a0d : List (List AV)) (a0dr : Rt) (a0e : Int) (a0f : List (List AV)) (a0fr : Rt) (a0g : List UInt8) (S0 Q) : WF C Ca 91 (Drw C Ca 91) Tryz.f91 [(.agg [(.int .i64 a0a), (.bool a0b), (.vs 1 a0c a0cr), (.vs 7 a0d a0dr), (.int .i64 a0e), (.vs 2 a0f a0fr), (.str a0g)])] S0 Q = G_tree_Right Ca a0a a0b a0c a0cr a0d a0dr a0e a0f a0fr a0g S0 Q := by kernel_rfl
theorem tree_Right_ok {w0 : World} {a0a : Int} {a0b : Bool} {a0c : List (List AV)} {a0cr : Rt} {a0d : List (List AV)} {a0dr : Rt} {a0e : Int} {a0f : List (List AV)} {a0fr : Rt} {a0g : List UInt8} {S0 : St} {Q : AV → St → Prop} (h : G_tree_Right (ACalls (En w0)) a0a a0b a0c a0cr a0d a0dr a0e a0f a0fr a0g S0 Q) : AC w0 F_tree_Right [(.agg [(.int .i64 a0a), (.bool a0b), (.vs 1 a0c a0cr), (.vs 7 a0d a0dr), (.int .i64 a0e), (.vs 2 a0f a0fr), (.str a0g)])] S0 Q := fn_ok w0 Tryz.func91 (by kernel_rfl) (by rw [tree_Right_eq]; exact h)
def G_branch_Branch_add (Ca : Nat → List AV → St → (AV → St → Prop) → Prop) (a0 : Nat) (a0o : Nat) (a1a : Int) (a1b : Bool) (a1c : List (List AV)) (a1cr : Rt) (a1d : List (List AV)) (a1dr : Rt) (a1e : Int) (a1f : List (List AV)) (a1fr : Rt) (a1g : List UInt8) (S0 : St) (Q : AV → St → Prop) : Prop :=
 optK (boxA T_api_Node (.agg [(.int .i64 a1a), (.bool a1b), (.vs 1 a1c a1cr), (.vs 7 a1d a1dr), (.int .i64 a1e), (.vs 2 a1f a1fr), (.str a1g)])) fun c3 =>
 optK (loadA T_s_branch_inode S0 (.ptr a0 (a0o + 0))) fun t12 =>
 optK (lenSlA (AV.strip t12)) fun t13 =>
 optK (loadA T_s_branch_inode S0 (.ptr a0 (a0o + 0))) fun t18 =>
 optK (appendR T_branch_inode (stripMem S0 (.ptr a0 (a0o + 0))) (AV.strip0 t18) (.vs 8 [[(.int .i64 0), (.bool false), (.vs 1 [] .nil), (.vs 7 [] .nil), (.int .i64 0), (.vs 2 [] .nil), (.str []), (.vs 1 [] .nil)]] .full)) fun p21 =>
 optK (storeA T_s_branch_inode p21.2 (.ptr a0 (a0o + 0)) p21.1) fun S =>
 optK (lloadA T_api_Node (some c3) 0) fun t24 =>
 optK (buildA T_branch_inode 1 [(0, (AV.strip t24))]) fun t25 =>
 optK (lstoreA T_branch_inode (some [(.int .i64 0), (.bool false), (.vs 1 [] .nil), (.vs 7 [] .nil), (.int .i64 0), (.vs 2 [] .nil), (.str []), (.vs 1 [] .nil)]) 0 t25) fun b6 =>
 joinK (fun (y6 : Option (List AV)) (S_4 : St) =>
 optK (some c3) fun _ =>
 optK (lloadA T_s_string (some c3) 2) fun t43 =>
 optK (some c3) fun _ =>
 optK (lloadA T_s_api_Extent (some c3) 5) fun t46 =>
 optK y6 fun _ =>
 optK y6 fun _ =>
 callK Ca F_slices_Clone_s_string_string [(AV.strip t43)] S_4 fun t44 S_5 =>
 callK Ca F_slices_Clone_s_api_Extent_api_Extent [(AV.strip t46)] S_5 fun t47 S_6 =>
 optK (lstoreA T_s_api_Node y6 3 (.vs 7 [] .nil)) fun b6_3 =>
 optK (some b6_3) fun _ =>
 optK (some b6_3) fun _ =>
 optK (lstoreA T_s_string (some b6_3) 2 t44) fun b6_4 =>
 optK (some b6_4) fun _ =>
 optK (some b6_4) fun _ =>
 optK (lstoreA T_s_api_Extent (some b6_4) 5 t47) fun b6_5 =>
 optK (loadA T_s_branch_inode S_6 (.ptr a0 (a0o + 0))) fun t57 =>
 optK (lloadA T_branch_inode (some b6_5) 0) fun t59 =>
 optK (idxSlA T_branch_inode (AV.strip t57) (AV.strip t13)) fun t60 =>
 optK (storeA T_branch_inode S_6 t60 (AV.strip t59)) fun S_7 =>
 Q (AV.strip t13) S_7) fun j =>
 optK (some c3) fun _ =>
 optK (lloadA T_s_api_Node (some c3) 3) fun t27 =>
 optK (lenSlA (AV.strip t27)) fun t28 =>
 loopQ ([(.int .i64 0)], [(some b6)]) (fun v bx => ([v 29], [bx 6])) (fun nx v bx S_2 =>
 optK (binA .lss (v 29) t28) fun t30 =>
 ifK t30
 (optK (idxSlA T_api_Node (AV.strip t27) (v 29)) fun t31 =>
 optK (loadA T_api_Node S_2 t31) fun t32 =>
 optK (lstoreA T_api_Node (some [(.int .i64 0), (.bool false), (.vs 1 [] .nil), (.vs 7 [] .nil), (.int .i64 0), (.vs 2 [] .nil), (.str [])]) 0 (AV.strip t32)) fun b8 =>
 optK (bx 6) fun _ =>
 optK (lloadA T_api_Node (some b8) 0) fun t36 =>
 optK (lloadA T_s_int (bx 6) 7) fun t34 =>
 callK Ca F_branch_Branch_add [(.ptr a0 a0o), (AV.strip t36)] S_2 fun t37 S_3 =>
 optK (elemVals 1 [t37]) fun e38 =>
 optK (appendA T_int S_3 (AV.strip0 t34) (.vs 1 e38 .full)) fun t39 =>
 optK (stripBox (bx 6) 7) fun _ =>
 optK (lstoreA T_s_int (stripBox (bx 6) 7) 7 t39) fun b6_2 =>
 optK (binA .add (v 29) (.int .i64 1)) fun t41 =>
 nx ([(AV.strip t41)], [(some b6_2)]) S_3)
 (j (bx 6) S_2)) S
theorem branch_Branch_add_eq (Ca) (a0 : Nat) (a0o : Nat) (a1a : Int) (a1b : Bool) (a1c : List (List AV)) (a1cr : Rt) (a1d : List (List AV)) (a1dr : Rt) (a1e : Int) (a1f : List (List AV)) (a1fr : Rt) (a1g : List UInt8) (S0 Q) : WF C Ca 92 (Drw C Ca 92) Tryz.f92 [(.ptr a0 a0o), (.agg [(.int .i64 a1a), (.bool a1b), (.vs 1 a1c a1cr), (.vs 7 a1d a1dr), (.int .i64 a1e), (.vs 2 a1f a1fr), (.str a1g)])] S0 Q = G_branch_Branch_add Ca a0 a0o a1a a1b a1c a1cr a1d a1dr a1e a1f a1fr a1g S0 Q := by kernel_rfl
theorem branch_Branch_add_ok {w0 : World} {a0 : Nat} {a0o : Nat} {a1a : Int} {a1b : Bool} {a1c : List (List AV)} {a1cr : Rt} {a1d : List (List AV)} {a1dr : Rt} {a1e : Int} {a1f : List (List AV)} {a1fr : Rt} {a1g : List UInt8} {S0 : St} {Q : AV → St → Prop} (h : G_branch_Branch_add (ACalls (En w0)) a0 a0o a1a a1b a1c a1cr a1d a1dr a1e a1f a1fr a1g S0 Q) : AC w0 F_branch_Branch_add [(.ptr a0 a0o), (.agg [(.int .i64 a1a), (.bool a1b), (.vs 1 a1c a1cr), (.vs 7 a1d a1dr), (.int .i64 a1e), (.vs 2 a1f a1fr), (.str a1g)])] S0 Q := fn_ok w0 Tryz.func92 (by kernel_rfl) (by rw [branch_Branch_add_eq]; exact h)
def G_ref04_One (Ca : Nat → List AV → St → (AV → St → Prop) → Prop) (a0a : Int) (a0b : Bool) (a0c : List (List AV)) (a0cr : Rt) (a0d : List (List AV)) (a0dr : Rt) (a0e : Int) (a0f : List (List AV)) (a0fr : Rt) (a0g : List UInt8) (S0 : St) (Q : AV → St → Prop) : Prop :=
 optK (boxA T_api_Node (.agg [(.int .i64 a0a), (.bool a0b), (.vs 1 a0c a0cr), (.vs 7 a0d a0dr), (.int .i64 a0e), (.vs 2 a0f a0fr), (.str a0g)])) fun c1 =>
 optK (some c1) fun _ =>
 optK (lloadA T_bool (some c1) 1) fun t8 =>
 optK (unA .not (AV.strip t8)) fun t9 =>
 joinK (fun (x14 : AV) =>
 optK (pickA (AV.strip t9) x14 (.bool false)) fun t15 =>
 joinK (fun (x20 : AV) =>
 optK (pickA (AV.strip (AV.strip t15)) x20 (.bool false)) fun t21 =>
 optK (some c1) fun _ =>
 optK (lloadA T_int (some c1) 4) fun t23 =>
 optK (binA .eql (AV.strip t23) (.int .i64 0)) fun t24 =>
 joinK (fun (x29 : AV) =>
 optK (pickA (AV.strip t24) x29 (.bool false)) fun t30 =>
 optK (some c1) fun _ =>
 optK (lloadA T_int (some c1) 0) fun t32 =>
 optK (binA .eql (AV.strip t32) (.int .i64 1)) fun t34 =>
 ifK t34
 (joinK (fun (x39 : AV) =>
 optK (pickA (AV.strip (AV.strip (AV.strip t21))) x39 (.bool false)) fun t40 =>
 joinK (fun (x46 : AV) (S_2 : St) =>
 optK (pickA (AV.strip (AV.strip t40)) x46 (.bool false)) fun t47 =>
 Q (AV.strip t47) S_2) fun j =>
 ifK (AV.strip (AV.strip t40))
 (optK (some c1) fun _ =>
 optK (lloadA T_int (some c1) 4) fun t43 =>
 optK (some c1) fun _ =>
 optK (lloadA T_s_api_Extent (some c1) 5) fun t45 =>
 callK Ca F_ref03_Right [(AV.strip t43), (AV.strip t45)] S0 fun t46 S =>
 j t46 S)
 (j (.tup []) S0)) fun j_2 =>
 ifK (AV.strip (AV.strip (AV.strip t21)))
 (optK (some c1) fun _ =>
 optK (lloadA T_string (some c1) 6) fun t38 =>
 optK (binA .eql (AV.strip t38) (.str [])) fun t39 =>
 j_2 t39)
 (j_2 (.tup [])))
 (optK (binA .eql (AV.strip t32) (.int .i64 2)) fun t49 =>
 ifK t49
 (joinK (fun (x54 : AV) =>
 optK (pickA (AV.strip (AV.strip (AV.strip t30))) x54 (.bool false)) fun t55 =>
 joinK (fun (x58 : AV) (S_4 : St) =>
 optK (pickA (AV.strip (AV.strip t55)) x58 (.bool false)) fun t59 =>
 Q (AV.strip t59) S_4) fun j_3 =>
 ifK (AV.strip (AV.strip t55))
 (optK (lloadA T_api_Node (some c1) 0) fun t57 =>
 callK Ca F_ref04_entries [(AV.strip t57)] S0 fun t58 S_3 =>
 j_3 t58 S_3)
 (j_3 (.tup []) S0)) fun j_4 =>
 ifK (AV.strip (AV.strip (AV.strip t30)))
 (optK (some c1) fun _ =>
 optK (lloadA T_string (some c1) 6) fun t53 =>
 optK (binA .eql (AV.strip t53) (.str [])) fun t54 =>
 j_4 t54)
 (j_4 (.tup [])))
 (optK (binA .eql (AV.strip t32) (.int .i64 3)) fun t61 =>
 ifK t61
 (optK (some c1) fun _ =>
 optK (lloadA T_string (some c1) 6) fun t64 =>
 callK Ca F_ref01_Split [(AV.strip t64)] S0 fun t65 S_5 =>
 optK (extractA t65 0) fun t66 =>
 optK (extractA (stripTup t65 0) 1) fun t67 =>
 joinK (fun (x70 : AV) =>
 optK (pickA (AV.strip (AV.strip (AV.strip t21))) x70 (.bool false)) fun t71 =>
 joinK (fun (x73 : AV) =>
 optK (pickA (AV.strip (AV.strip t71)) x73 (.bool false)) fun t74 =>
 joinK (fun (x79 : AV) =>
 optK (pickA (AV.strip (AV.strip t74)) x79 (.bool false)) fun t80 =>
 Q (AV.strip t80) S_5) fun j_5 =>
 ifK (AV.strip (AV.strip t74))
 (optK (some c1) fun _ =>
 optK (lloadA T_string (some c1) 6) fun t77 =>
 optK (lenStrA (AV.strip t77)) fun t78 =>
 optK (binA .leq t78 (.int .i64 256)) fun t79 =>
 j_5 t79)
 (j_5 (.tup []))) fun j_6 =>
 ifK (AV.strip (AV.strip t71))
 (j_6 (AV.strip t67))
 (j_6 (.tup []))) fun j_7 =>
 ifK (AV.strip (AV.strip (AV.strip t21)))
 (j_7 (AV.strip (AV.strip t30)))
 (j_7 (.tup [])))
 (optK (binA .eql (AV.strip t32) (.int .i64 4)) fun t82 =>
 ifK t82
 (joinK (fun (x85 : AV) =>
 optK (pickA (AV.strip (AV.strip (AV.strip t21))) x85 (.bool false)) fun t86 =>
 joinK (fun (x90 : AV) =>
 optK (pickA (AV.strip (AV.strip t86)) x90 (.bool false)) fun t91 =>
 Q (AV.strip t91) S0) fun j_8 =>
 ifK (AV.strip (AV.strip t86))
 (optK (some c1) fun _ =>
 optK (lloadA T_string (some c1) 6) fun t89 =>
 optK (binA .eql (AV.strip t89) (.str [])) fun t90 =>
 j_8 t90)
 (j_8 (.tup []))) fun j_9 =>
 ifK (AV.strip (AV.strip (AV.strip t21)))
 (j_9 (AV.strip (AV.strip t30)))
 (j_9 (.tup [])))
 (Q (.bool false) S0))))) fun j_10 =>
 ifK (AV.strip t24)
 (optK (some c1) fun _ =>
 optK (lloadA T_s_api_Extent (some c1) 5) fun t27 =>
 optK (lenSlA (AV.strip t27)) fun t28 =>
 optK (binA .eql t28 (.int .i64 0)) fun t29 =>
 j_10 t29)
 (j_10 (.tup []))) fun j_11 =>
 ifK (AV.strip (AV.strip t15))
 (optK (some c1) fun _ =>
 optK (lloadA T_s_api_Node (some c1) 3) fun t18 =>
 optK (lenSlA (AV.strip t18)) fun t19 =>
 optK (binA .eql t19 (.int .i64 0)) fun t20 =>
 j_11 t20)
 (j_11 (.tup []))) fun j_12 =>
 ifK (AV.strip t9)
 (optK (some c1) fun _ =>
 optK (lloadA T_s_string (some c1) 2) fun t12 =>
 optK (lenSlA (AV.strip t12)) fun t13 =>
 optK (binA .eql t13 (.int .i64 0)) fun t14 =>
 j_12 t14)
 (j_12 (.tup []))
theorem ref04_One_eq (Ca) (a0a : Int) (a0b : Bool) (a0c : List (List AV)) (a0cr : Rt) (a0d : List (List AV)) (a0dr : Rt) (a0e : Int) (a0f : List (List AV)) (a0fr : Rt) (a0g : List UInt8) (S0 Q) : WF C Ca 93 (Drw C Ca 93) Tryz.f93 [(.agg [(.int .i64 a0a), (.bool a0b), (.vs 1 a0c a0cr), (.vs 7 a0d a0dr), (.int .i64 a0e), (.vs 2 a0f a0fr), (.str a0g)])] S0 Q = G_ref04_One Ca a0a a0b a0c a0cr a0d a0dr a0e a0f a0fr a0g S0 Q := by kernel_rfl
theorem ref04_One_ok {w0 : World} {a0a : Int} {a0b : Bool} {a0c : List (List AV)} {a0cr : Rt} {a0d : List (List AV)} {a0dr : Rt} {a0e : Int} {a0f : List (List AV)} {a0fr : Rt} {a0g : List UInt8} {S0 : St} {Q : AV → St → Prop} (h : G_ref04_One (ACalls (En w0)) a0a a0b a0c a0cr a0d a0dr a0e a0f a0fr a0g S0 Q) : AC w0 F_ref04_One [(.agg [(.int .i64 a0a), (.bool a0b), (.vs 1 a0c a0cr), (.vs 7 a0d a0dr), (.int .i64 a0e), (.vs 2 a0f a0fr), (.str a0g)])] S0 Q := fn_ok w0 Tryz.func93 (by kernel_rfl) (by rw [ref04_One_eq]; exact h)
def G_name_Right (Ca : Nat → List AV → St → (AV → St → Prop) → Prop) (a0 : List UInt8) (S0 : St) (Q : AV → St → Prop) : Prop :=
 joinK (fun (x7 : AV) =>
 optK (pickA (.bool (!(a0 == []))) x7 (.bool false)) fun t8 =>
 joinK (fun (x11 : AV) =>
 optK (pickA (AV.strip (AV.strip t8)) x11 (.bool false)) fun t12 =>
 joinK (fun (x16 : AV) =>
 optK (pickA (AV.strip (AV.strip t12)) x16 (.bool false)) fun t17 =>
 joinK (fun (x21 : AV) (S_2 : St) =>
 optK (pickA (AV.strip (AV.strip t17)) x21 (.bool false)) fun t22 =>
 Q (AV.strip t22) S_2) fun j =>
 ifK (AV.strip (AV.strip t17))
 (Ca F_strings_ContainsAny [(.str a0), (.str [47, 0])] S0 fun t20 S =>
 optK (unA .not t20) fun t21 =>
 j t21 S)
 (j (.tup []) S0)) fun j_2 =>
 ifK (AV.strip (AV.strip t12))
 (j_2 (.bool (decide ((List.length a0 : Int) ≤ 64))))
 (j_2 (.tup []))) fun j_3 =>
 ifK (AV.strip (AV.strip t8))
 (j_3 (.bool (!(a0 == [46, 46]))))
 (j_3 (.tup []))) fun j_4 =>
 ifK (.bool (!(a0 == [])))
 (j_4 (.bool (!(a0 == [46]))))
 (j_4 (.tup []))
theorem name_Right_eq (Ca) (a0 : List UInt8) (S0 Q) : WF C Ca 94 (Drw C Ca 94) Tryz.f94 [(.str a0)] S0 Q = G_name_Right Ca a0 S0 Q := by kernel_rfl
theorem name_Right_ok {w0 : World} {a0 : List UInt8} {S0 : St} {Q : AV → St → Prop} (h : G_name_Right (ACalls (En w0)) a0 S0 Q) : AC w0 F_name_Right [(.str a0)] S0 Q := fn_ok w0 Tryz.func94 (by kernel_rfl) (by rw [name_Right_eq]; exact h)
def G_slices_BinarySearch_s_string_string (Ca : Nat → List AV → St → (AV → St → Prop) → Prop) (a0 : List (List AV)) (a0r : Rt) (a1 : List UInt8) (S0 : St) (Q : AV → St → Prop) : Prop :=
 joinK (fun (x7 : AV) (S_3 : St) =>
 optK (binA .lss (AV.strip x7) (.int .i64 (List.length a0 : Int))) fun t34 =>
 joinK (fun (x52 : AV) (S_8 : St) =>
 optK (pickA (AV.strip t34) x52 (.bool false)) fun t53 =>
 Q (.tup [(AV.flat (AV.strip x7)), (AV.flat (AV.strip t53))]) S_8) fun j_3 =>
 ifK (AV.strip t34)
 (optK (idxSlA T_string (.vs 1 a0 (Rt.strip a0r)) (AV.strip x7)) fun t38 =>
 optK (loadA T_string S_3 t38) fun t39 =>
 optK (binA .eql (AV.strip t39) (.str a1)) fun t41 =>
 joinK (fun (x51 : AV) (S_7 : St) =>
 optK (pickA (AV.strip t41) (.bool true) x51) fun t52 =>
 j_3 (AV.strip t52) S_7) fun j_2 =>
 gK (AV.strip t41)
 (j_2 (.tup []) S_3)
 (optK (idxSlA T_string (.vs 1 a0 (Rt.strip a0r)) (AV.strip x7)) fun t45 =>
 optK (loadA T_string S_3 t45) fun t46 =>
 callK Ca F_slices_isNaN_string [(AV.strip t46)] S_3 fun t47 S_4 =>
 joinK (fun (x50 : AV) (S_6 : St) =>
 optK (pickA (AV.strip t47) x50 (.bool false)) fun t51 =>
 j_2 (AV.strip t51) S_6) fun j =>
 gK (AV.strip t47)
 (Ca F_slices_isNaN_string [(.str a1)] S_4 fun t50 S_5 =>
 j t50 S_5)
 (j (.tup []) S_4)
 (j (.tup []) S_4))
 (j_2 (.tup []) S_3))
 (j_3 (.tup []) S_3)) fun j_4 =>
 loopQ ([(.int .i64 0), (.int .i64 (List.length a0 : Int))], []) (fun v bx => ([v 7, v 8], [])) (fun nx v bx S =>
 optK (binA .lss (AV.strip (v 7)) (AV.strip (v 8))) fun t15 =>
 ifK t15
 (optK (binA .add (AV.strip (v 7)) (AV.strip (v 8))) fun t18 =>
 optK (convIntA .u64 t18) fun t19 =>
 optK (binA .shr t19 (.int .u64 1)) fun t20 =>
 optK (convIntA .i64 t20) fun t21 =>
 optK (idxSlA T_string (.vs 1 a0 (Rt.strip a0r)) (AV.strip t21)) fun t24 =>
 optK (loadA T_string S t24) fun t25 =>
 callK Ca F_cmp_Less_string [(AV.strip t25), (.str a1)] S fun t27 S_2 =>
 ifK t27
 (optK (binA .add (AV.strip t21) (.int .i64 1)) fun t29 =>
 nx ([t29, (v 8)], []) S_2)
 (nx ([(v 7), (AV.strip t21)], []) S_2))
 (j_4 (v 7) S)) S0
theorem slices_BinarySearch_s_string_string_eq (Ca) (a0 : List (List AV)) (a0r : Rt) (a1 : List UInt8) (S0 Q) : WF C Ca 95 (Drw C Ca 95) Tryz.f95 [(.vs 1 a0 a0r), (.str a1)] S0 Q = G_slices_BinarySearch_s_string_string Ca a0 a0r a1 S0 Q := by kernel_rfl
theorem slices_BinarySearch_s_string_string_ok {w0 : World} {a0 : List (List AV)} {a0r : Rt} {a1 : List UInt8} {S0 : St} {Q : AV → St → Prop} (h : G_slices_BinarySearch_s_string_string (ACalls (En w0)) a0 a0r a1 S0 Q) : AC w0 F_slices_BinarySearch_s_string_string [(.vs 1 a0 a0r), (.str a1)] S0 Q := fn_ok w0 Tryz.func95 (by kernel_rfl) (by rw [slices_BinarySearch_s_string_string_eq]; exact h)
def G_ref01_Right (Ca : Nat → List AV → St → (AV → St → Prop) → Prop) (a0 : List UInt8) (S0 : St) (Q : AV → St → Prop) : Prop :=
 joinK (fun (x8 : AV) =>
 optK (pickA (.bool (a0 == [])) (.bool true) x8) fun t9 =>
 joinK (fun (x12 : AV) =>
 optK (pickA (AV.strip (AV.strip t9)) (.bool true) x12) fun t13 =>
 joinK (fun (x17 : AV) =>
 optK (pickA (AV.strip (AV.strip t13)) (.bool true) x17) fun t18 =>
 ifK (AV.strip t18)
 (Q (.bool false) S0)
 (joinK (fun (S_2 : St) =>
 Q (.bool true) S_2) fun j_5 =>
 loopQ ([(.int .i64 0)], []) (fun v bx => ([v 3], [])) (fun nx v bx S =>
 optK (binA .lss (AV.strip (v 3)) (.int .i64 (List.length a0 : Int))) fun t22 =>
 ifK t22
 (optK (charA (.str a0) (AV.strip (v 3))) fun t27 =>
 optK (binA .eql t27 (.int .u8 47)) fun t28 =>
 joinK (fun (x33 : AV) =>
 optK (pickA (AV.strip t28) (.bool true) x33) fun t34 =>
 ifK (AV.strip t34)
 (Q (.bool false) S)
 (optK (binA .add (AV.strip (v 3)) (.int .i64 1)) fun t24 =>
 nx ([t24], []) S)) fun j_4 =>
 ifK (AV.strip t28)
 (j_4 (.tup []))
 (optK (charA (.str a0) (AV.strip (v 3))) fun t32 =>
 optK (binA .eql t32 (.int .u8 0)) fun t33 =>
 j_4 t33))
 (j_5 S)) S0)) fun j =>
 ifK (AV.strip (AV.strip t13))
 (j (.tup []))
 (j (.bool (decide ((List.length a0 : Int) > 64))))) fun j_2 =>
 ifK (AV.strip (AV.strip t9))
 (j_2 (.tup []))
 (j_2 (.bool (a0 == [46, 46])))) fun j_3 =>
 ifK (.bool (a0 == []))
 (j_3 (.tup []))
 (j_3 (.bool (a0 == [46])))
theorem ref01_Right_eq (Ca) (a0 : List UInt8) (S0 Q) : WF C Ca 96 (Drw C Ca 96) Tryz.f96 [(.str a0)] S0 Q = G_ref01_Right Ca a0 S0 Q := by kernel_rfl
theorem ref01_Right_ok {w0 : World} {a0 : List UInt8} {S0 : St} {Q : AV → St → Prop} (h : G_ref01_Right (ACalls (En w0)) a0 S0 Q) : AC w0 F_ref01_Right [(.str a0)] S0 Q := fn_ok w0 Tryz.func96 (by kernel_rfl) (by rw [ref01_Right_eq]; exact h)
def G_strings_Builder_Len (Ca : Nat → List AV → St → (AV → St → Prop) → Prop) (a0 : Nat) (a0o : Nat) (S0 : St) (Q : AV → St → Prop) : Prop :=
 optK (loadA T_s_uint8 S0 (.ptr a0 (a0o + 1))) fun t6 =>
 optK (lenSlA (AV.strip t6)) fun t7 =>
 Q t7 S0
theorem strings_Builder_Len_eq (Ca) (a0 : Nat) (a0o : Nat) (S0 Q) : WF C Ca 98 (Drw C Ca 98) Tryz.f98 [(.ptr a0 a0o)] S0 Q = G_strings_Builder_Len Ca a0 a0o S0 Q := by kernel_rfl
theorem strings_Builder_Len_ok {w0 : World} {a0 : Nat} {a0o : Nat} {S0 : St} {Q : AV → St → Prop} (h : G_strings_Builder_Len (ACalls (En w0)) a0 a0o S0 Q) : AC w0 F_strings_Builder_Len [(.ptr a0 a0o)] S0 Q := fn_ok w0 Tryz.func98 (by kernel_rfl) (by rw [strings_Builder_Len_eq]; exact h)
def G_strings_Builder_WriteString (Ca : Nat → List AV → St → (AV → St → Prop) → Prop) (a0 : Nat) (a0o : Nat) (a1 : List UInt8) (S0 : St) (Q : AV → St → Prop) : Prop :=
 Ca F_strings_Builder_copyCheck [(.ptr a0 a0o)] S0 fun t7 S =>
 optK (loadA T_s_uint8 S (.ptr a0 (a0o + 1))) fun t12 =>
 optK (appendA T_uint8 (stripMem S (.ptr a0 (a0o + 1))) (AV.strip0 t12) (.str a1)) fun t14 =>
 optK (storeA T_s_uint8 (stripMem S (.ptr a0 (a0o + 1))) (.ptr a0 (a0o + 1)) t14) fun S_2 =>
 Q (.tup [(.int .i64 (List.length a1 : Int)), .nilifc]) S_2
theorem strings_Builder_WriteString_eq (Ca) (a0 : Nat) (a0o : Nat) (a1 : List UInt8) (S0 Q) : WF C Ca 99 (Drw C Ca 99) Tryz.f99 [(.ptr a0 a0o), (.str a1)] S0 Q = G_strings_Builder_WriteString Ca a0 a0o a1 S0 Q := by kernel_rfl
theorem strings_Builder_WriteString_ok {w0 : World} {a0 : Nat} {a0o : Nat} {a1 : List UInt8} {S0 : St} {Q : AV → St → Prop} (h : G_strings_Builder_WriteString (ACalls (En w0)) a0 a0o a1 S0 Q) : AC w0 F_strings_Builder_WriteString [(.ptr a0 a0o), (.str a1)] S0 Q := fn_ok w0 Tryz.func99 (by kernel_rfl) (by rw [strings_Builder_WriteString_eq]; exact h)
def G_heap_Item_less (Ca : Nat → List AV → St → (AV → St → Prop) → Prop) (a0a : List UInt8) (a0b : Int) (a1a : List UInt8) (a1b : Int) (S0 : St) (Q : AV → St → Prop) : Prop :=
 optK (boxA T_heap_Item (.agg [(.str a0a), (.int .i64 a0b)])) fun c2 =>
 optK (boxA T_heap_Item (.agg [(.str a1a), (.int .i64 a1b)])) fun c3 =>
 optK (some c2) fun _ =>
 optK (lloadA T_string (some c2) 0) fun t6 =>
 optK (some c3) fun _ =>
 optK (lloadA T_string (some c3) 0) fun t8 =>
 optK (binA .neq (AV.strip t6) (AV.strip t8)) fun t9 =>
 ifK t9
 (optK (some c2) fun _ =>
 optK (lloadA T_string (some c2) 0) fun t11 =>
 optK (some c3) fun _ =>
 optK (lloadA T_string (some c3) 0) fun t13 =>
 optK (binA .lss (AV.strip t11) (AV.strip t13)) fun t14 =>
 Q t14 S0)
 (optK (some c2) fun _ =>
 optK (lloadA T_int (some c2) 1) fun t16 =>
 optK (some c3) fun _ =>
 optK (lloadA T_int (some c3) 1) fun t18 =>
 optK (binA .lss (AV.strip t16) (AV.strip t18)) fun t19 =>
 Q t19 S0)
theorem heap_Item_less_eq (Ca) (a0a : List UInt8) (a0b : Int) (a1a : List UInt8) (a1b : Int) (S0 Q) : WF C Ca 102 (Drw C Ca 102) Tryz.f102 [(.agg [(.str a0a), (.int .i64 a0b)]), (.agg [(.str a1a), (.int .i64 a1b)])] S0 Q = G_heap_Item_less Ca a0a a0b a1a a1b S0 Q := by kernel_rfl
theorem heap_Item_less_ok {w0 : World} {a0a : List UInt8} {a0b : Int} {a1a : List UInt8} {a1b : Int} {S0 : St} {Q : AV → St → Prop} (h : G_heap_Item_less (ACalls (En w0)) a0a a0b a1a a1b S0 Q) : AC w0 F_heap_Item_less [(.agg [(.str a0a), (.int .i64 a0b)]), (.agg [(.str a1a), (.int .i64 a1b)])] S0 Q := fn_ok w0 Tryz.func102 (by kernel_rfl) (by rw [heap_Item_less_eq]; exact h)
def G_cheap_Init (Ca : Nat → List AV → St → (AV → St → Prop) → Prop) (a0 : AV) (S0 : St) (Q : AV → St → Prop) : Prop :=
 optK (invokeA C (AV.strip a0) "Len" []) fun a =>
 Ca a.1 a.2 S0 fun t5 S =>
 optK (binA .quo (AV.strip t5) (.int .i64 2)) fun t7 =>
 optK (binA .sub t7 (.int .i64 1)) fun t8 =>
 loopQ ([t8], []) (fun v bx => ([v 3], [])) (fun nx v bx S_2 =>
 optK (binA .geq (AV.strip (v 3)) (.int .i64 0)) fun t10 =>
 ifK t10
 (callK Ca F_cheap_down [(AV.strip a0), (AV.strip (v 3)), (AV.strip t5)] S_2 fun t16 S_3 =>
 optK (binA .sub (AV.strip (v 3)) (.int .i64 1)) fun t12 =>
 nx ([t12], []) S_3)
 (Q (.tup []) S_2)) S
theorem cheap_Init_eq (Ca) (a0 : AV) (S0 Q) : WF C Ca 103 (Drw C Ca 103) Tryz.f103 [a0] S0 Q = G_cheap_Init Ca a0 S0 Q := by kernel_rfl
theorem cheap_Init_ok {w0 : World} {a0 : AV} {S0 : St} {Q : AV → St → Prop} (h : G_cheap_Init (ACalls (En w0)) a0 S0 Q) : AC w0 F_cheap_Init [a0] S0 Q := fn_ok w0 Tryz.func103 (by kernel_rfl) (by rw [cheap_Init_eq]; exact h)
def G_heap_heads_Len (Ca : Nat → List AV → St → (AV → St → Prop) → Prop) (a0 : Nat) (a0o : Nat) (S0 : St) (Q : AV → St → Prop) : Prop :=
 optK (loadA T_s_heap_head S0 (.ptr a0 (a0o + 0))) fun t6 =>
 optK (lenSlA (AV.strip t6)) fun t7 =>
 Q t7 S0
theorem heap_heads_Len_eq (Ca) (a0 : Nat) (a0o : Nat) (S0 Q) : WF C Ca 104 (Drw C Ca 104) Tryz.f104 [(.ptr a0 a0o)] S0 Q = G_heap_heads_Len Ca a0 a0o S0 Q := by kernel_rfl
theorem heap_heads_Len_ok {w0 : World} {a0 : Nat} {a0o : Nat} {S0 : St} {Q : AV → St → Prop} (h : G_heap_heads_Len (ACalls (En w0)) a0 a0o S0 Q) : AC w0 F_heap_heads_Len [(.ptr a0 a0o)] S0 Q := fn_ok w0 Tryz.func104 (by kernel_rfl) (by rw [heap_heads_Len_eq]; exact h)
def G_cheap_Pop (Ca : Nat → List AV → St → (AV → St → Prop) → Prop) (a0 : AV) (S0 : St) (Q : AV → St → Prop) : Prop :=
 optK (invokeA C (AV.strip a0) "Len" []) fun a =>
 Ca a.1 a.2 S0 fun t5 S =>
 optK (binA .sub t5 (.int .i64 1)) fun t6 =>
 optK (invokeA C (AV.strip a0) "Swap" [(.int .i64 0), (AV.strip t6)]) fun a_2 =>
 Ca a_2.1 a_2.2 S fun t9 S_2 =>
 callK Ca F_cheap_down [(AV.strip a0), (.int .i64 0), (AV.strip t6)] S_2 fun t12 S_3 =>
 optK (invokeA C (AV.strip a0) "Pop" []) fun a_3 =>
 Ca a_3.1 a_3.2 S_3 fun t14 S_4 =>
 Q t14 S_4
theorem cheap_Pop_eq (Ca) (a0 : AV) (S0 Q) : WF C Ca 105 (Drw C Ca 105) Tryz.f105 [a0] S0 Q = G_cheap_Pop Ca a0 S0 Q := by kernel_rfl
theorem cheap_Pop_ok {w0 : World} {a0 : AV} {S0 : St} {Q : AV → St → Prop} (h : G_cheap_Pop (ACalls (En w0)) a0 S0 Q) : AC w0 F_cheap_Pop [a0] S0 Q := fn_ok w0 Tryz.func105 (by kernel_rfl) (by rw [cheap_Pop_eq]; exact h)
def G_cheap_Fix (Ca : Nat → List AV → St → (AV → St → Prop) → Prop) (a0 : AV) (a1 : Int) (S0 : St) (Q : AV → St → Prop) : Prop :=
 optK (invokeA C (AV.strip a0) "Len" []) fun a =>
 Ca a.1 a.2 S0 fun t7 S =>
 callK Ca F_cheap_down [(AV.strip a0), (.int .i64 a1), t7] S fun t8 S_2 =>
 optK (unA .not t8) fun t9 =>
 ifK t9
 (callK Ca F_cheap_up [(AV.strip a0), (.int .i64 a1)] S_2 fun t12 S_3 =>
 Q (.tup []) S_3)
 (Q (.tup []) S_2)
theorem cheap_Fix_eq (Ca) (a0 : AV) (a1 : Int) (S0 Q) : WF C Ca 106 (Drw C Ca 106) Tryz.f106 [a0, (.int .i64 a1)] S0 Q = G_cheap_Fix Ca a0 a1 S0 Q := by kernel_rfl
theorem cheap_Fix_ok {w0 : World} {a0 : AV} {a1 : Int} {S0 : St} {Q : AV → St → Prop} (h : G_cheap_Fix (ACalls (En w0)) a0 a1 S0 Q) : AC w0 F_cheap_Fix [a0, (.int .i64 a1)] S0 Q := fn_ok w0 Tryz.func106 (by kernel_rfl) (by rw [cheap_Fix_eq]; exact h)
def G_ref01_Less (Ca : Nat → List AV → St → (AV → St → Prop) → Prop) (a0 : List UInt8) (a1 : List UInt8) (S0 : St) (Q : AV → St → Prop) : Prop :=
 joinK (fun (S_2 : St) =>
 Q (.bool (decide ((List.length a0 : Int) < (List.length a1 : Int)))) S_2) fun j_2 =>
 loopQ ([(.int .i64 0)], []) (fun v bx => ([v 5], [])) (fun nx v bx S =>
 optK (binA .lss (AV.strip (v 5)) (.int .i64 (List.length a0 : Int))) fun t9 =>
 joinK (fun (x14 : AV) =>
 optK (pickA (AV.strip t9) x14 (.bool false)) fun t15 =>
 ifK (AV.strip t15)
 (optK (charA (.str a0) (AV.strip (v 5))) fun t20 =>
 optK (charA (.str a1) (AV.strip (v 5))) fun t23 =>
 optK (binA .neq t20 t23) fun t24 =>
 ifK t24
 (optK (charA (.str a0) (AV.strip (v 5))) fun t27 =>
 optK (charA (.str a1) (AV.strip (v 5))) fun t30 =>
 optK (binA .lss t27 t30) fun t31 =>
 Q t31 S)
 (optK (binA .add (AV.strip (v 5)) (.int .i64 1)) fun t17 =>
 nx ([t17], []) S))
 (j_2 S)) fun j =>
 ifK (AV.strip t9)
 (optK (binA .lss (AV.strip (v 5)) (.int .i64 (List.length a1 : Int))) fun t14 =>
 j t14)
 (j (.tup []))) S0
theorem ref01_Less_eq (Ca) (a0 : List UInt8) (a1 : List UInt8) (S0 Q) : WF C Ca 107 (Drw C Ca 107) Tryz.f107 [(.str a0), (.str a1)] S0 Q = G_ref01_Less Ca a0 a1 S0 Q := by kernel_rfl
theorem ref01_Less_ok {w0 : World} {a0 : List UInt8} {a1 : List UInt8} {S0 : St} {Q : AV → St → Prop} (h : G_ref01_Less (ACalls (En w0)) a0 a1 S0 Q) : AC w0 F_ref01_Less [(.str a0), (.str a1)] S0 Q := fn_ok w0 Tryz.func107 (by kernel_rfl) (by rw [ref01_Less_eq]; exact h)
def G_tree_right (Ca : Nat → List AV → St → (AV → St → Prop) → Prop) (a0a : Int) (a0b : Bool) (a0c : List (List AV)) (a0cr : Rt) (a0d : List (List AV)) (a0dr : Rt) (a0e : Int) (a0f : List (List AV)) (a0fr : Rt) (a0g : List UInt8) (a1 : Int) (a2 : AV) (S0 : St) (Q : AV → St → Prop) : Prop :=
 optK (boxA T_api_Node (.agg [(.int .i64 a0a), (.bool a0b), (.vs 1 a0c a0cr), (.vs 7 a0d a0dr), (.int .i64 a0e), (.vs 2 a0f a0fr), (.str a0g)])) fun c3 =>
 optK (nilA (AV.strip a2)) fun t13 =>
 optK (loadA T_int S0 t13) fun t14 =>
 optK (binA .sub (AV.strip t14) (.int .i64 1)) fun t15 =>
 optK (nilA (AV.strip a2)) fun t16 =>
 optK (storeA T_int S0 t16 t15) fun S =>
 optK (nilA (AV.strip a2)) fun t18 =>
 optK (loadA T_int S t18) fun t19 =>
 optK (binA .lss (AV.strip t19) (.int .i64 0)) fun t20 =>
 joinK (fun (x23 : AV) =>
 optK (pickA (AV.strip t20) (.bool true) x23) fun t24 =>
 joinK (fun (x28 : AV) (S_3 : St) =>
 optK (pickA (AV.strip (AV.strip t24)) (.bool true) x28) fun t29 =>
 ifK (AV.strip t29)
 (Q (.bool false) S_3)
 (joinK (
 Q (.bool false) S_3) fun j_5 =>
 optK (some c3) fun _ =>
 optK (lloadA T_int (some c3) 0) fun t31 =>
 optK (binA .eql (AV.strip t31) (.int .i64 1)) fun t33 =>
 ifK t33
 (optK (some c3) fun _ =>
 optK (lloadA T_int (some c3) 4) fun t35 =>
 optK (some c3) fun _ =>
 optK (lloadA T_s_api_Extent (some c3) 5) fun t37 =>
 callK Ca F_extent_Right [(AV.strip t35), (AV.strip t37)] S_3 fun t38 S_4 =>
 Q t38 S_4)
 (optK (binA .eql (AV.strip t31) (.int .i64 3)) fun t40 =>
 ifK t40
 (optK (some c3) fun _ =>
 optK (lloadA T_string (some c3) 6) fun t43 =>
 callK Ca F_name_Split [(AV.strip t43)] S_3 fun t44 S_5 =>
 optK (extractA t44 0) fun t45 =>
 optK (extractA (stripTup t44 0) 1) fun t46 =>
 optK (extractA (stripTup (stripTup t44 0) 1) 2) fun t47 =>
 optK (binA .eql (AV.strip t47) (.int .i64 0)) fun t49 =>
 joinK (fun (x54 : AV) =>
 optK (pickA (AV.strip t49) x54 (.bool false)) fun t55 =>
 Q (AV.strip t55) S_5) fun j_3 =>
 ifK (AV.strip t49)
 (optK (some c3) fun _ =>
 optK (lloadA T_string (some c3) 6) fun t52 =>
 optK (lenStrA (AV.strip t52)) fun t53 =>
 optK (binA .leq t53 (.int .i64 256)) fun t54 =>
 j_3 t54)
 (j_3 (.tup [])))
 (optK (binA .eql (AV.strip t31) (.int .i64 4)) fun t57 =>
 ifK t57
 (Q (.bool true) S_3)
 (optK (binA .eql (AV.strip t31) (.int .i64 2)) fun t59 =>
 ifK t59
 (optK (lloadA T_api_Node (some c3) 0) fun t60 =>
 callK Ca F_tree_names [(AV.strip t60)] S_3 fun t61 S_6 =>
 optK (unA .not t61) fun t62 =>
 ifK t62
 (Q (.bool false) S_6)
 (joinK (fun (S_9 : St) =>
 Q (.bool true) S_9) fun j_4 =>
 optK (some c3) fun _ =>
 optK (lloadA T_s_api_Node (some c3) 3) fun t64 =>
 optK (lenSlA (AV.strip t64)) fun t65 =>
 loopQ ([(.int .i64 0)], []) (fun v bx => ([v 66], [])) (fun nx v bx S_7 =>
 optK (binA .lss (v 66) t65) fun t67 =>
 ifK t67
 (optK (idxSlA T_api_Node (AV.strip t64) (v 66)) fun t68 =>
 optK (loadA T_api_Node S_7 t68) fun t69 =>
 optK (lstoreA T_api_Node (some [(.int .i64 0), (.bool false), (.vs 1 [] .nil), (.vs 7 [] .nil), (.int .i64 0), (.vs 2 [] .nil), (.str [])]) 0 (AV.strip t69)) fun b11 =>
 optK (lloadA T_api_Node (some b11) 0) fun t70 =>
 callK Ca F_tree_right [(AV.strip t70), (.int .i64 (IntKind.i64.wrap (a1 + 1))), (AV.strip a2)] S_7 fun t74 S_8 =>
 optK (unA .not t74) fun t75 =>
 ifK t75
 (Q (.bool false) S_8)
 (optK (binA .add (v 66) (.int .i64 1)) fun t76 =>
 nx ([(AV.strip t76)], []) S_8))
 (j_4 S_7)) S_6))
 (j_5)))))) fun j =>
 ifK (AV.strip (AV.strip t24))
 (j (.tup []) S)
 (optK (lloadA T_api_Node (some c3) 0) fun t26 =>
 callK Ca F_tree_zero [(AV.strip t26)] S fun t27 S_2 =>
 optK (unA .not t27) fun t28 =>
 j t28 S_2)) fun j_2 =>
 ifK (AV.strip t20)
 (j_2 (.tup []))
 (j_2 (.bool (decide (a1 > 15))))
theorem tree_right_eq (Ca) (a0a : Int) (a0b : Bool) (a0c : List (List AV)) (a0cr : Rt) (a0d : List (List AV)) (a0dr : Rt) (a0e : Int) (a0f : List (List AV)) (a0fr : Rt) (a0g : List UInt8) (a1 : Int) (a2 : AV) (S0 Q) : WF C Ca 118 (Drw C Ca 118) Tryz.f118 [(.agg [(.int .i64 a0a), (.bool a0b), (.vs 1 a0c a0cr), (.vs 7 a0d a0dr), (.int .i64 a0e), (.vs 2 a0f a0fr), (.str a0g)]), (.int .i64 a1), a2] S0 Q = G_tree_right Ca a0a a0b a0c a0cr a0d a0dr a0e a0f a0fr a0g a1 a2 S0 Q := by kernel_rfl
theorem tree_right_ok {w0 : World} {a0a : Int} {a0b : Bool} {a0c : List (List AV)} {a0cr : Rt} {a0d : List (List AV)} {a0dr : Rt} {a0e : Int} {a0f : List (List AV)} {a0fr : Rt} {a0g : List UInt8} {a1 : Int} {a2 : AV} {S0 : St} {Q : AV → St → Prop} (h : G_tree_right (ACalls (En w0)) a0a a0b a0c a0cr a0d a0dr a0e a0f a0fr a0g a1 a2 S0 Q) : AC w0 F_tree_right [(.agg [(.int .i64 a0a), (.bool a0b), (.vs 1 a0c a0cr), (.vs 7 a0d a0dr), (.int .i64 a0e), (.vs 2 a0f a0fr), (.str a0g)]), (.int .i64 a1), a2] S0 Q := fn_ok w0 Tryz.func118 (by kernel_rfl) (by rw [tree_right_eq]; exact h)
def G_slices_Clone_s_api_Extent_api_Extent (Ca : Nat → List AV → St → (AV → St → Prop) → Prop) (a0 : List (List AV)) (a0r : Rt) (S0 : St) (Q : AV → St → Prop) : Prop :=
 optK (binE .slice .eql (.vs 2 a0 (Rt.strip a0r)) (.vs 2 [] .nil)) fun t4 =>
 ifK t4
 (Q (.vs 2 [] .nil) S0)
 (optK (appendA T_api_Extent S0 (.vs 2 [] .full) (.vs 2 a0 (Rt.strip a0r))) fun t7 =>
 Q t7 S0)
theorem slices_Clone_s_api_Extent_api_Extent_eq (Ca) (a0 : List (List AV)) (a0r : Rt) (S0 Q) : WF C Ca 119 (Drw C Ca 119) Tryz.f119 [(.vs 2 a0 a0r)] S0 Q = G_slices_Clone_s_api_Extent_api_Extent Ca a0 a0r S0 Q := by kernel_rfl
theorem slices_Clone_s_api_Extent_api_Extent_ok {w0 : World} {a0 : List (List AV)} {a0r : Rt} {S0 : St} {Q : AV → St → Prop} (h : G_slices_Clone_s_api_Extent_api_Extent (ACalls (En w0)) a0 a0r S0 Q) : AC w0 F_slices_Clone_s_api_Extent_api_Extent [(.vs 2 a0 a0r)] S0 Q := fn_ok w0 Tryz.func119 (by kernel_rfl) (by rw [slices_Clone_s_api_Extent_api_Extent_eq]; exact h)
def G_ref03_Right (Ca : Nat → List AV → St → (AV → St → Prop) → Prop) (a0 : Int) (a1 : List (List AV)) (a1r : Rt) (S0 : St) (Q : AV → St → Prop) : Prop :=
 joinK (fun (x10 : AV) =>
 optK (pickA (.bool (decide (a0 < 0))) (.bool true) x10) fun t11 =>
 ifK (AV.strip t11)
 (Q (.bool false) S0)
 (joinK (fun (S_2 : St) =>
 Q (.bool true) S_2) fun j_6 =>
 loopQ ([(.int .i64 0)], []) (fun v bx => ([v 5], [])) (fun nx v bx S =>
 optK (binA .lss (AV.strip (v 5)) (.int .i64 (List.length a1 : Int))) fun t15 =>
 ifK t15
 (optK (idxSlA T_api_Extent (.vs 2 a1 (Rt.strip a1r)) (AV.strip (v 5))) fun t20 =>
 optK (movePtr t20 0) fun t21 =>
 optK (loadA T_int S t21) fun t22 =>
 optK (binA .lss (AV.strip t22) (.int .i64 0)) fun t23 =>
 joinK (fun (x31 : AV) =>
 optK (pickA (AV.strip t23) (.bool true) x31) fun t32 =>
 joinK (fun (x40 : AV) =>
 optK (pickA (AV.strip (AV.strip t32)) (.bool true) x40) fun t41 =>
 joinK (fun (x56 : AV) =>
 optK (pickA (AV.strip (AV.strip t41)) (.bool true) x56) fun t57 =>
 ifK (AV.strip t57)
 (Q (.bool false) S)
 (optK (binA .gtr (AV.strip (v 5)) (.int .i64 0)) fun t59 =>
 joinK (fun (x80 : AV) =>
 optK (pickA (AV.strip t59) x80 (.bool false)) fun t81 =>
 ifK (AV.strip t81)
 (Q (.bool false) S)
 (optK (binA .add (AV.strip (v 5)) (.int .i64 1)) fun t17 =>
 nx ([t17], []) S)) fun j_5 =>
 ifK (AV.strip t59)
 (optK (idxSlA T_api_Extent (.vs 2 a1 (Rt.strip a1r)) (AV.strip (v 5))) fun t63 =>
 optK (movePtr t63 0) fun t64 =>
 optK (loadA T_int S t64) fun t65 =>
 optK (binA .sub (AV.strip (v 5)) (.int .i64 1)) fun t68 =>
 optK (idxSlA T_api_Extent (.vs 2 a1 (Rt.strip a1r)) t68) fun t69 =>
 optK (movePtr t69 0) fun t70 =>
 optK (loadA T_int S t70) fun t71 =>
 optK (binA .sub (AV.strip (v 5)) (.int .i64 1)) fun t74 =>
 optK (idxSlA T_api_Extent (.vs 2 a1 (Rt.strip a1r)) t74) fun t75 =>
 optK (movePtr t75 1) fun t76 =>
 optK (loadA T_string S t76) fun t77 =>
 optK (lenStrA (AV.strip t77)) fun t78 =>
 optK (binA .add (AV.strip t71) t78) fun t79 =>
 optK (binA .lss (AV.strip t65) t79) fun t80 =>
 j_5 t80)
 (j_5 (.tup [])))) fun j_2 =>
 ifK (AV.strip (AV.strip t41))
 (j_2 (.tup []))
 (optK (idxSlA T_api_Extent (.vs 2 a1 (Rt.strip a1r)) (AV.strip (v 5))) fun t45 =>
 optK (movePtr t45 0) fun t46 =>
 optK (loadA T_int S t46) fun t47 =>
 optK (idxSlA T_api_Extent (.vs 2 a1 (Rt.strip a1r)) (AV.strip (v 5))) fun t50 =>
 optK (movePtr t50 1) fun t51 =>
 optK (loadA T_string S t51) fun t52 =>
 optK (lenStrA (AV.strip t52)) fun t53 =>
 optK (binA .add (AV.strip t47) t53) fun t54 =>
 optK (binA .gtr t54 (.int .i64 a0)) fun t56 =>
 j_2 t56)) fun j_3 =>
 ifK (AV.strip (AV.strip t32))
 (j_3 (.tup []))
 (optK (idxSlA T_api_Extent (.vs 2 a1 (Rt.strip a1r)) (AV.strip (v 5))) fun t36 =>
 optK (movePtr t36 1) fun t37 =>
 optK (loadA T_string S t37) fun t38 =>
 optK (lenStrA (AV.strip t38)) fun t39 =>
 optK (binA .lss t39 (.int .i64 1)) fun t40 =>
 j_3 t40)) fun j_4 =>
 ifK (AV.strip t23)
 (j_4 (.tup []))
 (optK (idxSlA T_api_Extent (.vs 2 a1 (Rt.strip a1r)) (AV.strip (v 5))) fun t27 =>
 optK (movePtr t27 0) fun t28 =>
 optK (loadA T_int S t28) fun t29 =>
 optK (binA .gtr (AV.strip t29) (.int .i64 a0)) fun t31 =>
 j_4 t31))
 (j_6 S)) S0)) fun j =>
 ifK (.bool (decide (a0 < 0)))
 (j (.tup []))
 (j (.bool (decide (a0 > 1048576))))
theorem ref03_Right_eq (Ca) (a0 : Int) (a1 : List (List AV)) (a1r : Rt) (S0 Q) : WF C Ca 120 (Drw C Ca 120) Tryz.f120 [(.int .i64 a0), (.vs 2 a1 a1r)] S0 Q = G_ref03_Right Ca a0 a1 a1r S0 Q := by kernel_rfl
theorem ref03_Right_ok {w0 : World} {a0 : Int} {a1 : List (List AV)} {a1r : Rt} {S0 : St} {Q : AV → St → Prop} (h : G_ref03_Right (ACalls (En w0)) a0 a1 a1r S0 Q) : AC w0 F_ref03_Right [(.int .i64 a0), (.vs 2 a1 a1r)] S0 Q := fn_ok w0 Tryz.func120 (by kernel_rfl) (by rw [ref03_Right_eq]; exact h)
def G_ref04_entries (Ca : Nat → List AV → St → (AV → St → Prop) → Prop) (a0a : Int) (a0b : Bool) (a0c : List (List AV)) (a0cr : Rt) (a0d : List (List AV)) (a0dr : Rt) (a0e : Int) (a0f : List (List AV)) (a0fr : Rt) (a0g : List UInt8) (S0 : St) (Q : AV → St → Prop) : Prop :=
 optK (boxA T_api_Node (.agg [(.int .i64 a0a), (.bool a0b), (.vs 1 a0c a0cr), (.vs 7 a0d a0dr), (.int .i64 a0e), (.vs 2 a0f a0fr), (.str a0g)])) fun c1 =>
 optK (some c1) fun _ =>
 optK (lloadA T_s_string (some c1) 2) fun t5 =>
 optK (lenSlA (AV.strip t5)) fun t6 =>
 optK (some c1) fun _ =>
 optK (lloadA T_s_api_Node (some c1) 3) fun t8 =>
 optK (lenSlA (AV.strip t8)) fun t9 =>
 optK (binA .neq t6 t9) fun t10 =>
 ifK t10
 (Q (.bool false) S0)
 (joinK (fun (S_6 : St) =>
 Q (.bool true) S_6) fun j_3 =>
 loopQ ([(.int .i64 0)], [(some c1)]) (fun v bx => ([v 3], [bx 1])) (fun nx v bx S =>
 optK (bx 1) fun _ =>
 optK (lloadA T_s_string (bx 1) 2) fun t13 =>
 optK (lenSlA (AV.strip t13)) fun t14 =>
 optK (binA .lss (AV.strip (v 3)) t14) fun t15 =>
 ifK t15
 (optK (bx 1) fun _ =>
 optK (lloadA T_s_string (bx 1) 2) fun t19 =>
 optK (idxSlA T_string (AV.strip t19) (AV.strip (v 3))) fun t21 =>
 optK (loadA T_string S t21) fun t22 =>
 callK Ca F_ref01_Right [(AV.strip t22)] S fun t23 S_2 =>
 optK (unA .not t23) fun t24 =>
 joinK (fun (x42 : AV) (S_5 : St) =>
 optK (pickA (AV.strip t24) (.bool true) x42) fun t43 =>
 ifK (AV.strip t43)
 (Q (.bool false) S_5)
 (optK (binA .add (AV.strip (v 3)) (.int .i64 1)) fun t17 =>
 nx ([t17], [(bx 1)]) S_5)) fun j_2 =>
 ifK (AV.strip t24)
 (j_2 (.tup []) S_2)
 (optK (binA .gtr (AV.strip (v 3)) (.int .i64 0)) fun t27 =>
 joinK (fun (x41 : AV) (S_4 : St) =>
 optK (pickA (AV.strip t27) x41 (.bool false)) fun t42 =>
 j_2 (AV.strip t42) S_4) fun j =>
 gK (AV.strip t27)
 (optK (bx 1) fun _ =>
 optK (lloadA T_s_string (bx 1) 2) fun t30 =>
 optK (binA .sub (AV.strip (v 3)) (.int .i64 1)) fun t32 =>
 optK (idxSlA T_string (AV.strip t30) t32) fun t33 =>
 optK (loadA T_string S_2 t33) fun t34 =>
 optK (bx 1) fun _ =>
 optK (lloadA T_s_string (bx 1) 2) fun t36 =>
 optK (idxSlA T_string (AV.strip t36) (AV.strip (v 3))) fun t38 =>
 optK (loadA T_string S_2 t38) fun t39 =>
 callK Ca F_ref01_Less [(AV.strip t34), (AV.strip t39)] S_2 fun t40 S_3 =>
 optK (unA .not t40) fun t41 =>
 j t41 S_3)
 (j (.tup []) S_2)
 (j (.tup []) S_2)))
 (j_3 S)) S0)
theorem ref04_entries_eq (Ca) (a0a : Int) (a0b : Bool) (a0c : List (List AV)) (a0cr : Rt) (a0d : List (List AV)) (a0dr : Rt) (a0e : Int) (a0f : List (List AV)) (a0fr : Rt) (a0g : List UInt8) (S0 Q) : WF C Ca 121 (Drw C Ca 121) Tryz.f121 [(.agg [(.int .i64 a0a), (.bool a0b), (.vs 1 a0c a0cr), (.vs 7 a0d a0dr), (.int .i64 a0e), (.vs 2 a0f a0fr), (.str a0g)])] S0 Q = G_ref04_entries Ca a0a a0b a0c a0cr a0d a0dr a0e a0f a0fr a0g S0 Q := by kernel_rfl
theorem ref04_entries_ok {w0 : World} {a0a : Int} {a0b : Bool} {a0c : List (List AV)} {a0cr : Rt} {a0d : List (List AV)} {a0dr : Rt} {a0e : Int} {a0f : List (List AV)} {a0fr : Rt} {a0g : List UInt8} {S0 : St} {Q : AV → St → Prop} (h : G_ref04_entries (ACalls (En w0)) a0a a0b a0c a0cr a0d a0dr a0e a0f a0fr a0g S0 Q) : AC w0 F_ref04_entries [(.agg [(.int .i64 a0a), (.bool a0b), (.vs 1 a0c a0cr), (.vs 7 a0d a0dr), (.int .i64 a0e), (.vs 2 a0f a0fr), (.str a0g)])] S0 Q := fn_ok w0 Tryz.func121 (by kernel_rfl) (by rw [ref04_entries_eq]; exact h)
def G_cmp_Less_string (Ca : Nat → List AV → St → (AV → St → Prop) → Prop) (a0 : List UInt8) (a1 : List UInt8) (S0 : St) (Q : AV → St → Prop) : Prop :=
 Ca F_cmp_isNaN_string [(.str a0)] S0 fun t6 S =>
 joinK (fun (x10 : AV) (S_3 : St) =>
 optK (pickA (AV.strip t6) x10 (.bool false)) fun t11 =>
 joinK (fun (x15 : AV) =>
 optK (pickA (AV.strip (AV.strip t11)) (.bool true) x15) fun t16 =>
 Q (AV.strip t16) S_3) fun j =>
 ifK (AV.strip (AV.strip t11))
 (j (.tup []))
 (j (.bool (Op.bytesLess a0 a1)))) fun j_2 =>
 ifK (AV.strip t6)
 (Ca F_cmp_isNaN_string [(.str a1)] S fun t9 S_2 =>
 optK (unA .not t9) fun t10 =>
 j_2 t10 S_2)
 (j_2 (.tup []) S)
theorem cmp_Less_string_eq (Ca) (a0 : List UInt8) (a1 : List UInt8) (S0 Q) : WF C Ca 123 (Drw C Ca 123) Tryz.f123 [(.str a0), (.str a1)] S0 Q = G_cmp_Less_string Ca a0 a1 S0 Q := by kernel_rfl
theorem cmp_Less_string_ok {w0 : World} {a0 : List UInt8} {a1 : List UInt8} {S0 : St} {Q : AV → St → Prop} (h : G_cmp_Less_string (ACalls (En w0)) a0 a1 S0 Q) : AC w0 F_cmp_Less_string [(.str a0), (.str a1)] S0 Q := fn_ok w0 Tryz.func123 (by kernel_rfl) (by rw [cmp_Less_string_eq]; exact h)
def G_slices_isNaN_string (Ca : Nat → List AV → St → (AV → St → Prop) → Prop) (a0 : List UInt8) (S0 : St) (Q : AV → St → Prop) : Prop :=
 Q (.bool (!(a0 == a0))) S0
theorem slices_isNaN_string_eq (Ca) (a0 : List UInt8) (S0 Q) : WF C Ca 124 (Drw C Ca 124) Tryz.f124 [(.str a0)] S0 Q = G_slices_isNaN_string Ca a0 S0 Q := by kernel_rfl
theorem slices_isNaN_string_ok {w0 : World} {a0 : List UInt8} {S0 : St} {Q : AV → St → Prop} (h : G_slices_isNaN_string (ACalls (En w0)) a0 S0 Q) : AC w0 F_slices_isNaN_string [(.str a0)] S0 Q := fn_ok w0 Tryz.func124 (by kernel_rfl) (by rw [slices_isNaN_string_eq]; exact h)
def G_cheap_down (Ca : Nat → List AV → St → (AV → St → Prop) → Prop) (a0 : AV) (a1 : Int) (a2 : Int) (S0 : St) (Q : AV → St → Prop) : Prop :=
 joinK (fun (x7 : AV) (S_7 : St) =>
 optK (binA .gtr (AV.strip x7) (.int .i64 a1)) fun t47 =>
 Q t47 S_7) fun j_4 =>
 loopQ ([(.int .i64 a1)], []) (fun v bx => ([v 7], [])) (fun nx v bx S =>
 optK (binA .mul (.int .i64 2) (AV.strip (v 7))) fun t13 =>
 optK (binA .add t13 (.int .i64 1)) fun t14 =>
 optK (binA .geq (AV.strip t14) (.int .i64 a2)) fun t17 =>
 joinK (fun (x20 : AV) =>
 optK (pickA (AV.strip t17) (.bool true) x20) fun t21 =>
 ifK (AV.strip t21)
 (j_4 (v 7) S)
 (joinK (fun (x9 : AV) (S_4 : St) =>
 optK (invokeA C (AV.strip a0) "Less" [(AV.strip x9), (AV.strip (v 7))]) fun a_2 =>
 Ca a_2.1 a_2.2 S_4 fun t38 S_5 =>
 optK (unA .not t38) fun t39 =>
 ifK t39
 (j_4 (v 7) S_5)
 (optK (invokeA C (AV.strip a0) "Swap" [(AV.strip (v 7)), (AV.strip x9)]) fun a_3 =>
 Ca a_3.1 a_3.2 S_5 fun t43 S_6 =>
 nx ([(AV.strip x9)], []) S_6)) fun j_3 =>
 optK (binA .add (AV.strip t14) (.int .i64 1)) fun t24 =>
 optK (binA .lss (AV.strip t24) (.int .i64 a2)) fun t27 =>
 joinK (fun (x32 : AV) (S_3 : St) =>
 optK (pickA (AV.strip t27) x32 (.bool false)) fun t33 =>
 ifK (AV.strip t33)
 (j_3 (AV.strip t24) S_3)
 (j_3 (AV.strip t14) S_3)) fun j_2 =>
 ifK (AV.strip t27)
 (optK (invokeA C (AV.strip a0) "Less" [(AV.strip t24), (AV.strip t14)]) fun a =>
 Ca a.1 a.2 S fun t32 S_2 =>
 j_2 t32 S_2)
 (j_2 (.tup []) S))) fun j =>
 ifK (AV.strip t17)
 (j (.tup []))
 (optK (binA .lss (AV.strip t14) (.int .i64 0)) fun t20 =>
 j t20)) S0
theorem cheap_down_eq (Ca) (a0 : AV) (a1 : Int) (a2 : Int) (S0 Q) : WF C Ca 129 (Drw C Ca 129) Tryz.f129 [a0, (.int .i64 a1), (.int .i64 a2)] S0 Q = G_cheap_down Ca a0 a1 a2 S0 Q := by kernel_rfl
theorem cheap_down_ok {w0 : World} {a0 : AV} {a1 : Int} {a2 : Int} {S0 : St} {Q : AV → St → Prop} (h : G_cheap_down (ACalls (En w0)) a0 a1 a2 S0 Q) : AC w0 F_cheap_down [a0, (.int .i64 a1), (.int .i64 a2)] S0 Q := fn_ok w0 Tryz.func129 (by kernel_rfl) (by rw [cheap_down_eq]; exact h)
def G_cheap_up (Ca : Nat → List AV → St → (AV → St → Prop) → Prop) (a0 : AV) (a1 : Int) (S0 : St) (Q : AV → St → Prop) : Prop :=
 loopQ ([(.int .i64 a1)], []) (fun v bx => ([v 1], [])) (fun nx v bx S =>
 optK (binA .sub (AV.strip (v 1)) (.int .i64 1)) fun t6 =>
 optK (binA .quo t6 (.int .i64 2)) fun t7 =>
 optK (binA .eql (AV.strip t7) (AV.strip (v 1))) fun t10 =>
 joinK (fun (x16 : AV) (S_3 : St) =>
 optK (pickA (AV.strip t10) (.bool true) x16) fun t17 =>
 ifK (AV.strip t17)
 (Q (.tup []) S_3)
 (optK (invokeA C (AV.strip a0) "Swap" [(AV.strip t7), (AV.strip (v 1))]) fun a_2 =>
 Ca a_2.1 a_2.2 S_3 fun t21 S_4 =>
 nx ([(AV.strip t7)], []) S_4)) fun j =>
 ifK (AV.strip t10)
 (j (.tup []) S)
 (optK (invokeA C (AV.strip a0) "Less" [(AV.strip (v 1)), (AV.strip t7)]) fun a =>
 Ca a.1 a.2 S fun t15 S_2 =>
 optK (unA .not t15) fun t16 =>
 j t16 S_2)) S0
theorem cheap_up_eq (Ca) (a0 : AV) (a1 : Int) (S0 Q) : WF C Ca 130 (Drw C Ca 130) Tryz.f130 [a0, (.int .i64 a1)] S0 Q = G_cheap_up Ca a0 a1 S0 Q := by kernel_rfl
theorem cheap_up_ok {w0 : World} {a0 : AV} {a1 : Int} {S0 : St} {Q : AV → St → Prop} (h : G_cheap_up (ACalls (En w0)) a0 a1 S0 Q) : AC w0 F_cheap_up [a0, (.int .i64 a1)] S0 Q := fn_ok w0 Tryz.func130 (by kernel_rfl) (by rw [cheap_up_eq]; exact h)
end Go.Av
set_option linter.unusedVariables false
set_option maxHeartbeats 2000000
namespace Go.Av
open Go.Proofs
def G_tree_zero (Ca : Nat → List AV → St → (AV → St → Prop) → Prop) (a0a : Int) (a0b : Bool) (a0c : List (List AV)) (a0cr : Rt) (a0d : List (List AV)) (a0dr : Rt) (a0e : Int) (a0f : List (List AV)) (a0fr : Rt) (a0g : List UInt8) (S0 : St) (Q : AV → St → Prop) : Prop :=
 optK (boxA T_api_Node (.agg [(.int .i64 a0a), (.bool a0b), (.vs 1 a0c a0cr), (.vs 7 a0d a0dr), (.int .i64 a0e), (.vs 2 a0f a0fr), (.str a0g)])) fun c1 =>
 optK (some c1) fun _ =>
 optK (lloadA T_int (some c1) 0) fun t7 =>
 optK (binA .eql (AV.strip t7) (.int .i64 2)) fun t8 =>
 optK (some c1) fun _ =>
 optK (lloadA T_int (some c1) 0) fun t10 =>
 optK (binA .eql (AV.strip t10) (.int .i64 1)) fun t11 =>
 optK (some c1) fun _ =>
 optK (lloadA T_int (some c1) 0) fun t13 =>
 optK (binA .eql (AV.strip t13) (.int .i64 3)) fun t14 =>
 optK (unA .not (AV.strip t8)) fun t16 =>
 joinK (fun (x31 : AV) =>
 optK (pickA (AV.strip t16) x31 (.bool false)) fun t32 =>
 joinK (fun (x46 : AV) =>
 optK (pickA (AV.strip (AV.strip t32)) (.bool true) x46) fun t47 =>
 ifK (AV.strip t47)
 (Q (.bool false) S0)
 (joinK (fun (x52 : AV) =>
 optK (pickA (AV.strip (AV.strip t14)) (.bool true) x52) fun t53 =>
 Q (AV.strip t53) S0) fun j_7 =>
 ifK (AV.strip (AV.strip t14))
 (j_7 (.tup []))
 (optK (some c1) fun _ =>
 optK (lloadA T_string (some c1) 6) fun t51 =>
 optK (binA .eql (AV.strip t51) (.str [])) fun t52 =>
 j_7 t52))) fun j_5 =>
 ifK (AV.strip (AV.strip t32))
 (j_5 (.tup []))
 (optK (unA .not (AV.strip t11)) fun t35 =>
 joinK (fun (x45 : AV) =>
 optK (pickA (AV.strip t35) x45 (.bool false)) fun t46 =>
 j_5 (AV.strip t46)) fun j_4 =>
 gK (AV.strip t35)
 (optK (some c1) fun _ =>
 optK (lloadA T_int (some c1) 4) fun t38 =>
 optK (binA .neq (AV.strip t38) (.int .i64 0)) fun t39 =>
 joinK (fun (x44 : AV) =>
 optK (pickA (AV.strip t39) (.bool true) x44) fun t45 =>
 j_4 (AV.strip t45)) fun j_3 =>
 gK (AV.strip t39)
 (j_3 (.tup []))
 (optK (some c1) fun _ =>
 optK (lloadA T_s_api_Extent (some c1) 5) fun t42 =>
 optK (lenSlA (AV.strip t42)) fun t43 =>
 optK (binA .gtr t43 (.int .i64 0)) fun t44 =>
 j_3 t44)
 (j_3 (.tup [])))
 (j_4 (.tup []))
 (j_4 (.tup [])))) fun j_6 =>
 ifK (AV.strip t16)
 (optK (some c1) fun _ =>
 optK (lloadA T_bool (some c1) 1) fun t19 =>
 joinK (fun (x24 : AV) =>
 optK (pickA (AV.strip (AV.strip t19)) (.bool true) x24) fun t25 =>
 joinK (fun (x30 : AV) =>
 optK (pickA (AV.strip (AV.strip t25)) (.bool true) x30) fun t31 =>
 j_6 (AV.strip t31)) fun j =>
 gK (AV.strip (AV.strip t25))
 (j (.tup []))
 (optK (some c1) fun _ =>
 optK (lloadA T_s_api_Node (some c1) 3) fun t28 =>
 optK (lenSlA (AV.strip t28)) fun t29 =>
 optK (binA .gtr t29 (.int .i64 0)) fun t30 =>
 j t30)
 (j (.tup []))) fun j_2 =>
 gK (AV.strip (AV.strip t19))
 (j_2 (.tup []))
 (optK (some c1) fun _ =>
 optK (lloadA T_s_string (some c1) 2) fun t22 =>
 optK (lenSlA (AV.strip t22)) fun t23 =>
 optK (binA .gtr t23 (.int .i64 0)) fun t24 =>
 j_2 t24)
 (j_2 (.tup [])))
 (j_6 (.tup []))
theorem tree_zero_eq (Ca) (a0a : Int) (a0b : Bool) (a0c : List (List AV)) (a0cr : Rt) (a0d : List (List AV)) (a0dr : Rt) (a0e : Int) (a0f : List (List AV)) (a0fr : Rt) (a0g : List UInt8) (S0 Q) : WF C Ca 142 (Drw C Ca 142) Tryz.f142 [(.agg [(.int .i64 a0a), (.bool a0b), (.vs 1 a0c a0cr), (.vs 7 a0d a0dr), (.int .i64 a0e), (.vs 2 a0f a0fr), (.str a0g)])] S0 Q = G_tree_zero Ca a0a a0b a0c a0cr a0d a0dr a0e a0f a0fr a0g S0 Q := by kernel_rfl
theorem tree_zero_ok {w0 : World} {a0a : Int} {a0b : Bool} {a0c : List (List AV)} {a0cr : Rt} {a0d : List (List AV)} {a0dr : Rt} {a0e : Int} {a0f : List (List AV)} {a0fr : Rt} {a0g : List UInt8} {S0 : St} {Q : AV → St → Prop} (h : G_tree_zero (ACalls (En w0)) a0a a0b a0c a0cr a0d a0dr a0e a0f a0fr a0g S0 Q) : AC w0 F_tree_zero [(.agg [(.int .i64 a0a), (.bool a0b), (.vs 1 a0c a0cr), (.vs 7 a0d a0dr), (.int .i64 a0e), (.vs 2 a0f a0fr), (.str a0g)])] S0 Q := fn_ok w0 Tryz.func142 (by kernel_rfl) (by rw [tree_zero_eq]; exact h)
def G_extent_Right (Ca : Nat → List AV → St → (AV → St → Prop) → Prop) (a0 : Int) (a1 : List (List AV)) (a1r : Rt) (S0 : St) (Q : AV → St → Prop) : Prop :=
 joinK (fun (S_2 : St) =>
 joinK (fun (x44 : AV) =>
 optK (pickA (.bool (decide (a0 ≥ 0))) x44 (.bool false)) fun t45 =>
 Q (AV.strip t45) S_2) fun j_3 =>
 ifK (.bool (decide (a0 ≥ 0)))
 (j_3 (.bool (decide (a0 ≤ 1048576))))
 (j_3 (.tup []))) fun j_4 =>
 loopQ ([(.int .i64 0), (.int .i64 0)], []) (fun v bx => ([v 5, v 10], [])) (fun nx v bx S =>
 optK (binA .lss (v 10) (.int .i64 (List.length a1 : Int))) fun t11 =>
 ifK t11
 (optK (idxSlA T_api_Extent (.vs 2 a1 (Rt.strip a1r)) (v 10)) fun t12 =>
 optK (loadA T_api_Extent S t12) fun t13 =>
 optK (lstoreA T_api_Extent (some [(.int .i64 0), (.str [])]) 0 (AV.strip t13)) fun b7 =>
 optK (some b7) fun _ =>
 optK (lloadA T_int (some b7) 0) fun t15 =>
 optK (binA .lss (AV.strip t15) (AV.strip (v 5))) fun t17 =>
 joinK (fun (x21 : AV) =>
 optK (pickA (AV.strip t17) (.bool true) x21) fun t22 =>
 joinK (fun (x31 : AV) =>
 optK (pickA (AV.strip (AV.strip t22)) (.bool true) x31) fun t32 =>
 ifK (AV.strip t32)
 (Q (.bool false) S)
 (optK (some b7) fun _ =>
 optK (lloadA T_int (some b7) 0) fun t34 =>
 optK (some b7) fun _ =>
 optK (lloadA T_string (some b7) 1) fun t36 =>
 optK (lenStrA (AV.strip t36)) fun t37 =>
 optK (binA .add (AV.strip t34) t37) fun t38 =>
 optK (binA .add (v 10) (.int .i64 1)) fun t39 =>
 nx ([t38, (AV.strip t39)], []) S)) fun j =>
 ifK (AV.strip (AV.strip t22))
 (j (.tup []))
 (optK (some b7) fun _ =>
 optK (lloadA T_string (some b7) 1) fun t25 =>
 optK (lenStrA (AV.strip t25)) fun t26 =>
 optK (some b7) fun _ =>
 optK (lloadA T_int (some b7) 0) fun t29 =>
 optK (binA .sub (.int .i64 a0) (AV.strip t29)) fun t30 =>
 optK (binA .gtr t26 t30) fun t31 =>
 j t31)) fun j_2 =>
 ifK (AV.strip t17)
 (j_2 (.tup []))
 (optK (some b7) fun _ =>
 optK (lloadA T_string (some b7) 1) fun t20 =>
 optK (binA .eql (AV.strip t20) (.str [])) fun t21 =>
 j_2 t21))
 (j_4 S)) S0
theorem extent_Right_eq (Ca) (a0 : Int) (a1 : List (List AV)) (a1r : Rt) (S0 Q) : WF C Ca 143 (Drw C Ca 143) Tryz.f143 [(.int .i64 a0), (.vs 2 a1 a1r)] S0 Q = G_extent_Right Ca a0 a1 a1r S0 Q := by kernel_rfl
theorem extent_Right_ok {w0 : World} {a0 : Int} {a1 : List (List AV)} {a1r : Rt} {S0 : St} {Q : AV → St → Prop} (h : G_extent_Right (ACalls (En w0)) a0 a1 a1r S0 Q) : AC w0 F_extent_Right [(.int .i64 a0), (.vs 2 a1 a1r)] S0 Q := fn_ok w0 Tryz.func143 (by kernel_rfl) (by rw [extent_Right_eq]; exact h)
def G_tree_names (Ca : Nat → List AV → St → (AV → St → Prop) → Prop) (a0a : Int) (a0b : Bool) (a0c : List (List AV)) (a0cr : Rt) (a0d : List (List AV)) (a0dr : Rt) (a0e : Int) (a0f : List (List AV)) (a0fr : Rt) (a0g : List UInt8) (S0 : St) (Q : AV → St → Prop) : Prop :=
 optK (boxA T_api_Node (.agg [(.int .i64 a0a), (.bool a0b), (.vs 1 a0c a0cr), (.vs 7 a0d a0dr), (.int .i64 a0e), (.vs 2 a0f a0fr), (.str a0g)])) fun c1 =>
 joinK (fun (y1 : Option (List AV)) (S_3 : St) =>
 optK y1 fun _ =>
 optK (lloadA T_s_string y1 2) fun t32 =>
 optK (lenSlA (AV.strip t32)) fun t33 =>
 optK y1 fun _ =>
 optK (lloadA T_s_api_Node y1 3) fun t35 =>
 optK (lenSlA (AV.strip t35)) fun t36 =>
 optK (binA .eql t33 t36) fun t37 =>
 Q t37 S_3) fun j_3 =>
 optK (some c1) fun _ =>
 optK (lloadA T_s_string (some c1) 2) fun t6 =>
 optK (lenSlA (AV.strip t6)) fun t7 =>
 loopQ ([(.int .i64 0)], [(some c1)]) (fun v bx => ([v 8], [bx 1])) (fun nx v bx S =>
 optK (binA .lss (v 8) t7) fun t9 =>
 ifK t9
 (optK (idxSlA T_string (AV.strip t6) (v 8)) fun t11 =>
 optK (loadA T_string S t11) fun t12 =>
 callK Ca F_name_Right [(AV.strip (AV.strip t12))] S fun t14 S_2 =>
 optK (unA .not t14) fun t15 =>
 joinK (fun (x28 : AV) =>
 optK (pickA (AV.strip t15) (.bool true) x28) fun t29 =>
 ifK (AV.strip t29)
 (Q (.bool false) S_2)
 (optK (binA .add (v 8) (.int .i64 1)) fun t30 =>
 nx ([(AV.strip t30)], [(bx 1)]) S_2)) fun j_2 =>
 ifK (AV.strip t15)
 (j_2 (.tup []))
 (optK (binA .gtr (AV.strip (AV.strip (v 8))) (.int .i64 0)) fun t18 =>
 joinK (fun (x27 : AV) =>
 optK (pickA (AV.strip t18) x27 (.bool false)) fun t28 =>
 j_2 (AV.strip t28)) fun j =>
 gK (AV.strip t18)
 (optK (bx 1) fun _ =>
 optK (lloadA T_s_string (bx 1) 2) fun t21 =>
 optK (binA .sub (AV.strip (AV.strip (v 8))) (.int .i64 1)) fun t23 =>
 optK (idxSlA T_string (AV.strip t21) t23) fun t24 =>
 optK (loadA T_string S_2 t24) fun t25 =>
 optK (binA .geq (AV.strip t25) (AV.strip (AV.strip t12))) fun t27 =>
 j t27)
 (j (.tup []))
 (j (.tup []))))
 (j_3 (bx 1) S)) S0
theorem tree_names_eq (Ca) (a0a : Int) (a0b : Bool) (a0c : List (List AV)) (a0cr : Rt) (a0d : List (List AV)) (a0dr : Rt) (a0e : Int) (a0f : List (List AV)) (a0fr : Rt) (a0g : List UInt8) (S0 Q) : WF C Ca 144 (Drw C Ca 144) Tryz.f144 [(.agg [(.int .i64 a0a), (.bool a0b), (.vs 1 a0c a0cr), (.vs 7 a0d a0dr), (.int .i64 a0e), (.vs 2 a0f a0fr), (.str a0g)])] S0 Q = G_tree_names Ca a0a a0b a0c a0cr a0d a0dr a0e a0f a0fr a0g S0 Q := by kernel_rfl
theorem tree_names_ok {w0 : World} {a0a : Int} {a0b : Bool} {a0c : List (List AV)} {a0cr : Rt} {a0d : List (List AV)} {a0dr : Rt} {a0e : Int} {a0f : List (List AV)} {a0fr : Rt} {a0g : List UInt8} {S0 : St} {Q : AV → St → Prop} (h : G_tree_names (ACalls (En w0)) a0a a0b a0c a0cr a0d a0dr a0e a0f a0fr a0g S0 Q) : AC w0 F_tree_names [(.agg [(.int .i64 a0a), (.bool a0b), (.vs 1 a0c a0cr), (.vs 7 a0d a0dr), (.int .i64 a0e), (.vs 2 a0f a0fr), (.str a0g)])] S0 Q := fn_ok w0 Tryz.func144 (by kernel_rfl) (by rw [tree_names_eq]; exact h)
def G_cmp_isNaN_string (Ca : Nat → List AV → St → (AV → St → Prop) → Prop) (a0 : List UInt8) (S0 : St) (Q : AV → St → Prop) : Prop :=
 Q (.bool (!(a0 == a0))) S0
theorem cmp_isNaN_string_eq (Ca) (a0 : List UInt8) (S0 Q) : WF C Ca 146 (Drw C Ca 146) Tryz.f146 [(.str a0)] S0 Q = G_cmp_isNaN_string Ca a0 S0 Q := by kernel_rfl
theorem cmp_isNaN_string_ok {w0 : World} {a0 : List UInt8} {S0 : St} {Q : AV → St → Prop} (h : G_cmp_isNaN_string (ACalls (En w0)) a0 S0 Q) : AC w0 F_cmp_isNaN_string [(.str a0)] S0 Q := fn_ok w0 Tryz.func146 (by kernel_rfl) (by rw [cmp_isNaN_string_eq]; exact h)
def G_heap_heads_Less (Ca : Nat → List AV → St → (AV → St → Prop) → Prop) (a0 : Nat) (a0o : Nat) (a1 : Int) (a2 : Int) (S0 : St) (Q : AV → St → Prop) : Prop :=
 optK (loadA T_func_heap_Item_heap_Item_bool S0 (.ptr a0 (a0o + 1))) fun t10 =>
 optK (loadA T_s_heap_head S0 (.ptr a0 (a0o + 0))) fun t14 =>
 optK (idxSlA T_heap_head (AV.strip t14) (.int .i64 a1)) fun t16 =>
 optK (movePtr t16 0) fun t17 =>
 optK (loadA T_heap_Item S0 t17) fun t18 =>
 optK (loadA T_s_heap_head S0 (.ptr a0 (a0o + 0))) fun t22 =>
 optK (idxSlA T_heap_head (AV.strip t22) (.int .i64 a2)) fun t24 =>
 optK (movePtr t24 0) fun t25 =>
 optK (loadA T_heap_Item S0 t25) fun t26 =>
 optK (calleeA (AV.strip t10) [(AV.strip t18), (AV.strip t26)]) fun a =>
 Ca a.1 a.2 S0 fun t27 S =>
 Q t27 S
theorem heap_heads_Less_eq (Ca) (a0 : Nat) (a0o : Nat) (a1 : Int) (a2 : Int) (S0 Q) : WF C Ca 220 (Drw C Ca 220) Tryz.f220 [(.ptr a0 a0o), (.int .i64 a1), (.int .i64 a2)] S0 Q = G_heap_heads_Less Ca a0 a0o a1 a2 S0 Q := by kernel_rfl
theorem heap_heads_Less_ok {w0 : World} {a0 : Nat} {a0o : Nat} {a1 : Int} {a2 : Int} {S0 : St} {Q : AV → St → Prop} (h : G_heap_heads_Less (ACalls (En w0)) a0 a0o a1 a2 S0 Q) : AC w0 F_heap_heads_Less [(.ptr a0 a0o), (.int .i64 a1), (.int .i64 a2)] S0 Q := fn_ok w0 Tryz.func220 (by kernel_rfl) (by rw [heap_heads_Less_eq]; exact h)
def G_heap_heads_Pop (Ca : Nat → List AV → St → (AV → St → Prop) → Prop) (a0 : Nat) (a0o : Nat) (S0 : St) (Q : AV → St → Prop) : Prop :=
 optK (loadA T_s_heap_head S0 (.ptr a0 (a0o + 0))) fun t8 =>
 optK (lenSlA (AV.strip t8)) fun t9 =>
 optK (binA .sub t9 (.int .i64 1)) fun t10 =>
 optK (loadA T_s_heap_head S0 (.ptr a0 (a0o + 0))) fun t14 =>
 optK (idxSlA T_heap_head (AV.strip t14) (AV.strip t10)) fun t16 =>
 optK (loadA T_heap_head S0 t16) fun t17 =>
 optK (lstoreA T_heap_head (some [(.str []), (.int .i64 0), (.vs 1 [] .nil)]) 0 (AV.strip t17)) fun b4 =>
 optK (loadA T_s_heap_head S0 (.ptr a0 (a0o + 0))) fun t22 =>
 optK (cutA T_heap_head (AV.strip0 t22) none (some (AV.strip t10)) none) fun t24 =>
 optK (storeA T_s_heap_head (stripMem S0 (.ptr a0 (a0o + 0))) (.ptr a0 (a0o + 0)) t24) fun S =>
 optK (lloadA T_heap_head (some b4) 0) fun t27 =>
 optK (ifaceA T_heap_head t_heap_head (AV.strip t27)) fun t28 =>
 Q t28 S
theorem heap_heads_Pop_eq (Ca) (a0 : Nat) (a0o : Nat) (S0 Q) : WF C Ca 221 (Drw C Ca 221) Tryz.f221 [(.ptr a0 a0o)] S0 Q = G_heap_heads_Pop Ca a0 a0o S0 Q := by kernel_rfl
theorem heap_heads_Pop_ok {w0 : World} {a0 : Nat} {a0o : Nat} {S0 : St} {Q : AV → St → Prop} (h : G_heap_heads_Pop (ACalls (En w0)) a0 a0o S0 Q) : AC w0 F_heap_heads_Pop [(.ptr a0 a0o)] S0 Q := fn_ok w0 Tryz.func221 (by kernel_rfl) (by rw [heap_heads_Pop_eq]; exact h)
def G_heap_heads_Swap (Ca : Nat → List AV → St → (AV → St → Prop) → Prop) (a0 : Nat) (a0o : Nat) (a1 : Int) (a2 : Int) (S0 : St) (Q : AV → St → Prop) : Prop :=
 optK (loadA T_s_heap_head S0 (.ptr a0 (a0o + 0))) fun t9 =>
 optK (loadA T_s_heap_head S0 (.ptr a0 (a0o + 0))) fun t14 =>
 optK (loadA T_s_heap_head S0 (.ptr a0 (a0o + 0))) fun t19 =>
 optK (idxSlA T_heap_head (AV.strip t19) (.int .i64 a2)) fun t21 =>
 optK (loadA T_heap_head S0 t21) fun t22 =>
 optK (loadA T_s_heap_head S0 (.ptr a0 (a0o + 0))) fun t26 =>
 optK (idxSlA T_heap_head (AV.strip t26) (.int .i64 a1)) fun t28 =>
 optK (loadA T_heap_head S0 t28) fun t29 =>
 optK (idxSlA T_heap_head (AV.strip t9) (.int .i64 a1)) fun t30 =>
 optK (storeA T_heap_head S0 t30 (AV.strip t22)) fun S =>
 optK (idxSlA T_heap_head (AV.strip t14) (.int .i64 a2)) fun t31 =>
 optK (storeA T_heap_head S t31 (AV.strip t29)) fun S_2 =>
 Q (.tup []) S_2
theorem heap_heads_Swap_eq (Ca) (a0 : Nat) (a0o : Nat) (a1 : Int) (a2 : Int) (S0 Q) : WF C Ca 222 (Drw C Ca 222) Tryz.f222 [(.ptr a0 a0o), (.int .i64 a1), (.int .i64 a2)] S0 Q = G_heap_heads_Swap Ca a0 a0o a1 a2 S0 Q := by kernel_rfl
theorem heap_heads_Swap_ok {w0 : World} {a0 : Nat} {a0o : Nat} {a1 : Int} {a2 : Int} {S0 : St} {Q : AV → St → Prop} (h : G_heap_heads_Swap (ACalls (En w0)) a0 a0o a1 a2 S0 Q) : AC w0 F_heap_heads_Swap [(.ptr a0 a0o), (.int .i64 a1), (.int .i64 a2)] S0 Q := fn_ok w0 Tryz.func222 (by kernel_rfl) (by rw [heap_heads_Swap_eq]; exact h)
end Go.Av
