/- Parts of the proofs of this seat: abstract values over the model, and what the functions of the program do. No condition. -/
import Derived.Test.YtclomnkgpemnaaaDoorM8
set_option linter.all false
set_option linter.unusedVariables false
namespace Go.Av
open Go.Proofs
def G_slices_Clone_s_string_string (Ca : Nat → List AV → St → (AV → St → Prop) → Prop) (a0 : List (List AV)) (a0r : Rt) (S0 : St) (Q : AV → St → Prop) : Prop :=
 optK (binE .slice .eql (.vs 1 a0 (Rt.strip a0r)) (.vs 1 [] .nil)) fun t4 =>
 ifK t4
 (Q (.vs 1 [] .nil) S0)
 (optK (appendA T_string S0 (.vs 1 [] .full) (.vs 1 a0 (Rt.strip a0r))) fun t7 =>
 Q t7 S0)
theorem slices_Clone_s_string_string_eq (Ca) (a0 : List (List AV)) (a0r : Rt) (S0 Q) : WF C Ca 79 (Drw C Ca 79) Tryd.f79 [(.vs 1 a0 a0r)] S0 Q = G_slices_Clone_s_string_string Ca a0 a0r S0 Q := by kernel_rfl
theorem slices_Clone_s_string_string_ok {w0 : World} {a0 : List (List AV)} {a0r : Rt} {S0 : St} {Q : AV → St → Prop} (h : G_slices_Clone_s_string_string (ACalls (En w0)) a0 a0r S0 Q) : AC w0 F_slices_Clone_s_string_string [(.vs 1 a0 a0r)] S0 Q := fn_ok w0 Tryd.func79 (by kernel_rfl) (by rw [slices_Clone_s_string_string_eq]; exact h)
def G_extent_Read (Ca : Nat → List AV → St → (AV → St → Prop) → Prop) (a0 : Int) (a1 : List (List AV)) (a1r : Rt) (a2 : Int) (a3 : Int) (S0 : St) (Q : AV → St → Prop) : Prop :=
 joinK (fun (x19 : AV) =>
 optK (pickA (.bool (decide (a2 < 0))) (.bool true) x19) fun t20 =>
 joinK (fun (x23 : AV) =>
 optK (pickA (AV.strip (AV.strip t20)) (.bool true) x23) fun t24 =>
 ifK (AV.strip t24)
 (Q (.str []) S0)
 (joinK (fun (S_8 : St) =>
 Ca F_strings_Builder_Len [(.ptr S0.length 0)] S_8 fun t76 S_9 =>
 optK (binA .sub (.int .i64 (if (IntKind.i64.wrap (a0 - a2)) < a3 then (IntKind.i64.wrap (a0 - a2)) else a3)) t76) fun t77 =>
 callK Ca F_strings_Repeat [(.str [0]), t77] S_9 fun t78 S_10 =>
 callK Ca F_strings_Builder_WriteString [(.ptr S0.length 0), t78] S_10 fun t79 S_11 =>
 Ca F_strings_Builder_String [(.ptr S0.length 0)] S_11 fun t80 S_12 =>
 Q t80 S_12) fun j_4 =>
 loopQ ([(.int .i64 0)], []) (fun v bx => ([v 32], [])) (fun nx v bx S =>
 optK (binA .lss (v 32) (.int .i64 (List.length a1 : Int))) fun t33 =>
 ifK t33
 (joinK (fun (S_7 : St) =>
 optK (binA .add (v 32) (.int .i64 1)) fun t74 =>
 nx ([(AV.strip t74)], []) S_7) fun j_3 =>
 optK (idxSlA T_api_Extent (.vs 2 a1 (Rt.strip a1r)) (v 32)) fun t34 =>
 optK (loadA T_api_Extent S t34) fun t35 =>
 optK (lstoreA T_api_Extent (some [(.int .i64 0), (.str [])]) 0 (AV.strip t35)) fun b11 =>
 optK (some b11) fun _ =>
 optK (lloadA T_int (some b11) 0) fun t37 =>
 optK (some b11) fun _ =>
 optK (lloadA T_int (some b11) 0) fun t43 =>
 optK (some b11) fun _ =>
 optK (lloadA T_string (some b11) 1) fun t45 =>
 optK (lenStrA (AV.strip t45)) fun t46 =>
 optK (binA .add (AV.strip t43) t46) fun t47 =>
 optK (minA [t47, (.int .i64 (IntKind.i64.wrap (a2 + (if (IntKind.i64.wrap (a0 - a2)) < a3 then (IntKind.i64.wrap (a0 - a2)) else a3))))]) fun t51 =>
 Ca F_strings_Builder_Len [(.ptr S0.length 0)] S fun t39 S_2 =>
 optK (binA .add (.int .i64 a2) t39) fun t40 =>
 optK (maxA [(AV.strip t37), t40]) fun t41 =>
 optK (binA .geq (AV.strip t41) (AV.strip t51)) fun t54 =>
 ifK t54
 (j_3 S_2)
 (optK (binA .sub (AV.strip t41) (.int .i64 a2)) fun t57 =>
 Ca F_strings_Builder_Len [(.ptr S0.length 0)] S_2 fun t58 S_3 =>
 optK (binA .sub t57 t58) fun t59 =>
 callK Ca F_strings_Repeat [(.str [0]), t59] S_3 fun t60 S_4 =>
 callK Ca F_strings_Builder_WriteString [(.ptr S0.length 0), t60] S_4 fun t61 S_5 =>
 optK (some b11) fun _ =>
 optK (lloadA T_string (some b11) 1) fun t63 =>
 optK (stripBox (some b11) 1) fun _ =>
 optK (lloadA T_int (stripBox (some b11) 1) 0) fun t66 =>
 optK (binA .sub (AV.strip t41) (AV.strip t66)) fun t67 =>
 optK (stripBox (some b11) 1) fun _ =>
 optK (lloadA T_int (stripBox (some b11) 1) 0) fun t70 =>
 optK (binA .sub (AV.strip t51) (AV.strip t70)) fun t71 =>
 optK (cutStrA (AV.strip0 t63) (some t67) (some t71)) fun t72 =>
 callK Ca F_strings_Builder_WriteString [(.ptr S0.length 0), t72] S_5 fun t73 S_6 =>
 j_3 S_6))
 (j_4 S)) (S0 ++ [.cells T_strings_Builder.zero t_strings_Builder]))) fun j =>
 ifK (AV.strip (AV.strip t20))
 (j (.tup []))
 (j (.bool (decide (a3 < 1))))) fun j_2 =>
 ifK (.bool (decide (a2 < 0)))
 (j_2 (.tup []))
 (j_2 (.bool (decide (a2 ≥ a0))))
theorem extent_Read_eq (Ca) (a0 : Int) (a1 : List (List AV)) (a1r : Rt) (a2 : Int) (a3 : Int) (S0 Q) : WF C Ca 80 (Drw C Ca 80) Tryd.f80 [(.int .i64 a0), (.vs 2 a1 a1r), (.int .i64 a2), (.int .i64 a3)] S0 Q = G_extent_Read Ca a0 a1 a1r a2 a3 S0 Q := by kernel_rfl
theorem extent_Read_ok {w0 : World} {a0 : Int} {a1 : List (List AV)} {a1r : Rt} {a2 : Int} {a3 : Int} {S0 : St} {Q : AV → St → Prop} (h : G_extent_Read (ACalls (En w0)) a0 a1 a1r a2 a3 S0 Q) : AC w0 F_extent_Read [(.int .i64 a0), (.vs 2 a1 a1r), (.int .i64 a2), (.int .i64 a3)] S0 Q := fn_ok w0 Tryd.func80 (by kernel_rfl) (by rw [extent_Read_eq]; exact h)
def G_ref05_Put (Ca : Nat → List AV → St → (AV → St → Prop) → Prop) (a0a : Int) (a0b : Bool) (a0c : List (List AV)) (a0cr : Rt) (a0d : List (List AV)) (a0dr : Rt) (a0e : Int) (a0f : List (List AV)) (a0fr : Rt) (a0g : List UInt8) (S0 : St) (Q : AV → St → Prop) : Prop :=
 optK (boxA T_api_Node (.agg [(.int .i64 a0a), (.bool a0b), (.vs 1 a0c a0cr), (.vs 7 a0d a0dr), (.int .i64 a0e), (.vs 2 a0f a0fr), (.str a0g)])) fun c1 =>
 optK (some c1) fun _ =>
 optK (lloadA T_int (some c1) 0) fun t8 =>
 callK Ca F_ref02_Put [(.str []), (AV.strip t8), (.int .i64 1)] S0 fun t9 S =>
 joinK (fun (x3 : AV) (y1 : Option (List AV)) (S_7 : St) =>
 joinK (fun (x3_2 : AV) (y1_2 : Option (List AV)) (S_13 : St) =>
 joinK (fun (x3_3 : AV) (S_15 : St) =>
 Q (AV.strip x3_3) S_15) fun j_2 =>
 optK y1_2 fun _ =>
 optK (lloadA T_int y1_2 0) fun t77 =>
 optK (binA .eql (AV.strip t77) (.int .i64 3)) fun t78 =>
 ifK t78
 (optK y1_2 fun _ =>
 optK (lloadA T_string y1_2 6) fun t81 =>
 callK Ca F_ref05_text [(AV.strip x3_2), (AV.strip t81), (.int .i64 2)] S_13 fun t82 S_14 =>
 j_2 t82 S_14)
 (j_2 x3_2 S_13)) fun j_3 =>
 optK y1 fun _ =>
 optK (lloadA T_int y1 0) fun t44 =>
 optK (binA .eql (AV.strip t44) (.int .i64 2)) fun t45 =>
 ifK t45
 (joinK (fun (x5 : AV) =>
 optK y1 fun _ =>
 optK (lloadA T_s_string y1 2) fun t52 =>
 optK (lenSlA (AV.strip t52)) fun t53 =>
 callK Ca F_ref02_Put [(AV.strip x3), (AV.strip x5), (.int .i64 1)] S_7 fun t50 S_8 =>
 callK Ca F_ref02_Put [t50, t53, (.int .i64 2)] S_8 fun t54 S_9 =>
 loopQ ([t54, (.int .i64 0)], [y1]) (fun v_2 bx_2 => ([v_2 3, v_2 6], [bx_2 1])) (fun nx_2 v_2 bx_2 S_10 =>
 optK (bx_2 1) fun _ =>
 optK (lloadA T_s_string (bx_2 1) 2) fun t57 =>
 optK (lenSlA (AV.strip t57)) fun t58 =>
 optK (binA .lss (AV.strip (v_2 6)) t58) fun t59 =>
 ifK t59
 (optK (bx_2 1) fun _ =>
 optK (lloadA T_s_string (bx_2 1) 2) fun t64 =>
 optK (idxSlA T_string (AV.strip t64) (AV.strip (v_2 6))) fun t66 =>
 optK (loadA T_string S_10 t66) fun t67 =>
 optK (bx_2 1) fun _ =>
 optK (lloadA T_s_api_Node (bx_2 1) 3) fun t70 =>
 optK (idxSlA T_api_Node (AV.strip t70) (AV.strip (v_2 6))) fun t72 =>
 optK (loadA T_api_Node S_10 t72) fun t73 =>
 callK Ca F_ref05_text [(AV.strip (v_2 3)), (AV.strip t67), (.int .i64 1)] S_10 fun t68 S_11 =>
 (optK (loadA T_api_Node S_11 t72) fun t73_2 =>
 ((AV.strip t73_2) : AV) = (AV.strip t73)) ∧
 (callK Ca F_ref05_Put [(AV.strip t73)] S_11 fun t74 S_12 =>
 optK (binA .add t68 t74) fun t75 =>
 optK (binA .add (AV.strip (v_2 6)) (.int .i64 1)) fun t61 =>
 nx_2 ([t75, t61], [(bx_2 1)]) S_12))
 (j_3 (v_2 3) (bx_2 1) S_10)) S_9) fun j =>
 optK y1 fun _ =>
 optK (lloadA T_bool y1 1) fun t47 =>
 ifK (AV.strip t47)
 (j (.int .i64 1))
 (j (.int .i64 0)))
 (j_3 x3 y1 S_7)) fun j_4 =>
 optK (some c1) fun _ =>
 optK (lloadA T_int (some c1) 0) fun t11 =>
 optK (binA .eql (AV.strip t11) (.int .i64 1)) fun t12 =>
 ifK t12
 (optK (some c1) fun _ =>
 optK (lloadA T_int (some c1) 4) fun t15 =>
 optK (some c1) fun _ =>
 optK (lloadA T_s_api_Extent (some c1) 5) fun t18 =>
 optK (lenSlA (AV.strip t18)) fun t19 =>
 callK Ca F_ref02_Put [(AV.strip t9), (AV.strip t15), (.int .i64 4)] S fun t16 S_2 =>
 callK Ca F_ref02_Put [t16, t19, (.int .i64 4)] S_2 fun t20 S_3 =>
 loopQ ([t20, (.int .i64 0)], [(some c1)]) (fun v bx => ([v 3, v 4], [bx 1])) (fun nx v bx S_4 =>
 optK (bx 1) fun _ =>
 optK (lloadA T_s_api_Extent (bx 1) 5) fun t23 =>
 optK (lenSlA (AV.strip t23)) fun t24 =>
 optK (binA .lss (AV.strip (v 4)) t24) fun t25 =>
 ifK t25
 (optK (bx 1) fun _ =>
 optK (lloadA T_s_api_Extent (bx 1) 5) fun t30 =>
 optK (idxSlA T_api_Extent (AV.strip t30) (AV.strip (v 4))) fun t32 =>
 optK (movePtr t32 0) fun t33 =>
 optK (loadA T_int S_4 t33) fun t34 =>
 optK (bx 1) fun _ =>
 optK (lloadA T_s_api_Extent (bx 1) 5) fun t37 =>
 optK (idxSlA T_api_Extent (AV.strip t37) (AV.strip (v 4))) fun t39 =>
 optK (movePtr t39 1) fun t40 =>
 optK (loadA T_string S_4 t40) fun t41 =>
 callK Ca F_ref02_Put [(AV.strip (v 3)), (AV.strip t34), (.int .i64 4)] S_4 fun t35 S_5 =>
 (optK (loadA T_string S_5 t40) fun t41_2 =>
 ((AV.strip t41_2) : AV) = (AV.strip t41)) ∧
 (callK Ca F_ref05_text [t35, (AV.strip t41), (.int .i64 4)] S_5 fun t42 S_6 =>
 optK (binA .add (AV.strip (v 4)) (.int .i64 1)) fun t27 =>
 nx ([t42, t27], [(bx 1)]) S_6))
 (j_4 (v 3) (bx 1) S_4)) S_3)
 (j_4 t9 (some c1) S)
theorem ref05_Put_eq (Ca) (a0a : Int) (a0b : Bool) (a0c : List (List AV)) (a0cr : Rt) (a0d : List (List AV)) (a0dr : Rt) (a0e : Int) (a0f : List (List AV)) (a0fr : Rt) (a0g : List UInt8) (S0 Q) : WF C Ca 83 (Drw C Ca 83) Tryd.f83 [(.agg [(.int .i64 a0a), (.bool a0b), (.vs 1 a0c a0cr), (.vs 7 a0d a0dr), (.int .i64 a0e), (.vs 2 a0f a0fr), (.str a0g)])] S0 Q = G_ref05_Put Ca a0a a0b a0c a0cr a0d a0dr a0e a0f a0fr a0g S0 Q := by kernel_rfl
theorem ref05_Put_ok {w0 : World} {a0a : Int} {a0b : Bool} {a0c : List (List AV)} {a0cr : Rt} {a0d : List (List AV)} {a0dr : Rt} {a0e : Int} {a0f : List (List AV)} {a0fr : Rt} {a0g : List UInt8} {S0 : St} {Q : AV → St → Prop} (h : G_ref05_Put (ACalls (En w0)) a0a a0b a0c a0cr a0d a0dr a0e a0f a0fr a0g S0 Q) : AC w0 F_ref05_Put [(.agg [(.int .i64 a0a), (.bool a0b), (.vs 1 a0c a0cr), (.vs 7 a0d a0dr), (.int .i64 a0e), (.vs 2 a0f a0fr), (.str a0g)])] S0 Q := fn_ok w0 Tryd.func83 (by kernel_rfl) (by rw [ref05_Put_eq]; exact h)
def G_image_Decode (Ca : Nat → List AV → St → (AV → St → Prop) → Prop) (a0 : List UInt8) (S0 : St) (Q : AV → St → Prop) : Prop :=
 joinK (fun (x12 : AV) =>
 optK (pickA (.bool (decide ((List.length a0 : Int) > 4194304))) (.bool true) x12) fun t13 =>
 joinK (fun (x17 : AV) =>
 optK (pickA (AV.strip (AV.strip t13)) (.bool true) x17) fun t18 =>
 ifK (AV.strip t18)
 (Q (.tup [(.agg [(.int .i64 0), (.bool false), (.vs 1 [] .nil), (.vs 7 [] .nil), (.int .i64 0), (.vs 2 [] .nil), (.str [])]), (.int .i64 1)]) S0)
 (optK (cutStrA (.str a0) (some (.int .i64 7)) none) fun t21 =>
 callK Ca F_wire_Read [t21] S0 fun t22 S =>
 optK (buildA T_image_reader 1 [(0, t22), (2, (.int .i64 4096))]) fun t23 =>
 optK (boxA T_image_reader t23) fun c24 =>
 Ca F_image_reader_node [(.ptr S.length 0), (.int .i64 0)] (S ++ [.cells c24 t_image_reader]) fun t26 S_2 =>
 optK (lstoreA T_api_Node (some [(.int .i64 0), (.bool false), (.vs 1 [] .nil), (.vs 7 [] .nil), (.int .i64 0), (.vs 2 [] .nil), (.str [])]) 0 t26) fun b5 =>
 optK (loadA T_bool S_2 (.ptr S.length 1)) fun t30 =>
 joinK (fun (x37 : AV) (S_4 : St) =>
 optK (pickA (AV.strip (AV.strip t30)) (.bool true) x37) fun t38 =>
 joinK (fun (x42 : AV) (S_6 : St) =>
 optK (pickA (AV.strip (AV.strip t38)) (.bool true) x42) fun t43 =>
 ifK (AV.strip t43)
 (Q (.tup [(.agg [(.int .i64 0), (.bool false), (.vs 1 [] .nil), (.vs 7 [] .nil), (.int .i64 0), (.vs 2 [] .nil), (.str [])]), (.int .i64 1)]) S_6)
 (optK (lloadA T_api_Node (some b5) 0) fun t45 =>
 optK (lstoreA T_api_Node (some [(.int .i64 0), (.bool false), (.vs 1 [] .nil), (.vs 7 [] .nil), (.int .i64 0), (.vs 2 [] .nil), (.str [])]) 0 (AV.strip t45)) fun b2 =>
 optK ((lloadA T_api_Node (some b2) 0).map AV.strip) fun r2 =>
 Q (.tup [(AV.flat r2), (.int .i64 0)]) S_6)) fun j_3 =>
 ifK (AV.strip (AV.strip t38))
 (j_3 (.tup []) S_4)
 (optK (lloadA T_api_Node (some b5) 0) fun t40 =>
 callK Ca F_tree_Right [(AV.strip t40)] S_4 fun t41 S_5 =>
 optK (unA .not t41) fun t42 =>
 j_3 t42 S_5)) fun j_4 =>
 ifK (AV.strip (AV.strip t30))
 (j_4 (.tup []) S_2)
 (optK (loadA T_p_wire_Reader S_2 (.ptr S.length 0)) fun t35 =>
 callK Ca F_wire_Reader_Left [(AV.strip t35)] S_2 fun t36 S_3 =>
 optK (binA .gtr t36 (.int .i64 0)) fun t37 =>
 j_4 t37 S_3))) fun j =>
 ifK (AV.strip (AV.strip t13))
 (j (.tup []))
 (optK (cutStrA (.str a0) none (some (.int .i64 7))) fun t16 =>
 optK (binA .neq t16 (.str [115, 111, 99, 97, 103, 101, 49])) fun t17 =>
 j t17)) fun j_2 =>
 ifK (.bool (decide ((List.length a0 : Int) > 4194304)))
 (j_2 (.tup []))
 (j_2 (.bool (decide ((List.length a0 : Int) < 7))))
theorem image_Decode_eq (Ca) (a0 : List UInt8) (S0 Q) : WF C Ca 84 (Drw C Ca 84) Tryd.f84 [(.str a0)] S0 Q = G_image_Decode Ca a0 S0 Q := by kernel_rfl
theorem image_Decode_ok {w0 : World} {a0 : List UInt8} {S0 : St} {Q : AV → St → Prop} (h : G_image_Decode (ACalls (En w0)) a0 S0 Q) : AC w0 F_image_Decode [(.str a0)] S0 Q := fn_ok w0 Tryd.func84 (by kernel_rfl) (by rw [image_Decode_eq]; exact h)
def G_ref03_At (Ca : Nat → List AV → St → (AV → St → Prop) → Prop) (a0 : List (List AV)) (a0r : Rt) (a1 : Int) (S0 : St) (Q : AV → St → Prop) : Prop :=
 joinK (fun (S_2 : St) =>
 Q (.int .u8 0) S_2) fun j_2 =>
 loopQ ([(.int .i64 0)], []) (fun v bx => ([v 5], [])) (fun nx v bx S =>
 optK (binA .lss (AV.strip (v 5)) (.int .i64 (List.length a0 : Int))) fun t9 =>
 ifK t9
 (optK (idxSlA T_api_Extent (.vs 2 a0 (Rt.strip a0r)) (AV.strip (v 5))) fun t15 =>
 optK (movePtr t15 0) fun t16 =>
 optK (loadA T_int S t16) fun t17 =>
 optK (binA .geq (.int .i64 a1) (AV.strip t17)) fun t18 =>
 joinK (fun (x33 : AV) =>
 optK (pickA (AV.strip t18) x33 (.bool false)) fun t34 =>
 ifK (AV.strip t34)
 (optK (idxSlA T_api_Extent (.vs 2 a0 (Rt.strip a0r)) (AV.strip (v 5))) fun t37 =>
 optK (movePtr t37 1) fun t38 =>
 optK (loadA T_string S t38) fun t39 =>
 optK (idxSlA T_api_Extent (.vs 2 a0 (Rt.strip a0r)) (AV.strip (v 5))) fun t43 =>
 optK (movePtr t43 0) fun t44 =>
 optK (loadA T_int S t44) fun t45 =>
 optK (binA .sub (.int .i64 a1) (AV.strip t45)) fun t46 =>
 optK (charA (AV.strip t39) t46) fun t47 =>
 Q t47 S)
 (optK (binA .add (AV.strip (v 5)) (.int .i64 1)) fun t11 =>
 nx ([t11], []) S)) fun j =>
 ifK (AV.strip t18)
 (optK (idxSlA T_api_Extent (.vs 2 a0 (Rt.strip a0r)) (AV.strip (v 5))) fun t23 =>
 optK (movePtr t23 0) fun t24 =>
 optK (loadA T_int S t24) fun t25 =>
 optK (idxSlA T_api_Extent (.vs 2 a0 (Rt.strip a0r)) (AV.strip (v 5))) fun t28 =>
 optK (movePtr t28 1) fun t29 =>
 optK (loadA T_string S t29) fun t30 =>
 optK (lenStrA (AV.strip t30)) fun t31 =>
 optK (binA .add (AV.strip t25) t31) fun t32 =>
 optK (binA .lss (.int .i64 a1) t32) fun t33 =>
 j t33)
 (j (.tup [])))
 (j_2 S)) S0
theorem ref03_At_eq (Ca) (a0 : List (List AV)) (a0r : Rt) (a1 : Int) (S0 Q) : WF C Ca 85 (Drw C Ca 85) Tryd.f85 [(.vs 2 a0 a0r), (.int .i64 a1)] S0 Q = G_ref03_At Ca a0 a0r a1 S0 Q := by kernel_rfl
theorem ref03_At_ok {w0 : World} {a0 : List (List AV)} {a0r : Rt} {a1 : Int} {S0 : St} {Q : AV → St → Prop} (h : G_ref03_At (ACalls (En w0)) a0 a0r a1 S0 Q) : AC w0 F_ref03_At [(.vs 2 a0 a0r), (.int .i64 a1)] S0 Q := fn_ok w0 Tryd.func85 (by kernel_rfl) (by rw [ref03_At_eq]; exact h)
def G_slices_Clone_s_api_Node_api_Node (Ca : Nat → List AV → St → (AV → St → Prop) → Prop) (a0 : List (List AV)) (a0r : Rt) (S0 : St) (Q : AV → St → Prop) : Prop :=
 optK (binE .slice .eql (.vs 7 a0 (Rt.strip a0r)) (.vs 7 [] .nil)) fun t4 =>
 ifK t4
 (Q (.vs 7 [] .nil) S0)
 (optK (appendA T_api_Node S0 (.vs 7 [] .full) (.vs 7 a0 (Rt.strip a0r))) fun t7 =>
 Q t7 S0)
theorem slices_Clone_s_api_Node_api_Node_eq (Ca) (a0 : List (List AV)) (a0r : Rt) (S0 Q) : WF C Ca 87 (Drw C Ca 87) Tryd.f87 [(.vs 7 a0 a0r)] S0 Q = G_slices_Clone_s_api_Node_api_Node Ca a0 a0r S0 Q := by kernel_rfl
theorem slices_Clone_s_api_Node_api_Node_ok {w0 : World} {a0 : List (List AV)} {a0r : Rt} {S0 : St} {Q : AV → St → Prop} (h : G_slices_Clone_s_api_Node_api_Node (ACalls (En w0)) a0 a0r S0 Q) : AC w0 F_slices_Clone_s_api_Node_api_Node [(.vs 7 a0 a0r)] S0 Q := fn_ok w0 Tryd.func87 (by kernel_rfl) (by rw [slices_Clone_s_api_Node_api_Node_eq]; exact h)
def G_extent_Of (Ca : Nat → List AV → St → (AV → St → Prop) → Prop) (a0 : List UInt8) (S0 : St) (Q : AV → St → Prop) : Prop :=
 joinK (fun (x3_2 : AV) (S_4 : St) =>
 Q (AV.strip x3_2) S_4) fun j_4 =>
 loopQ ([(.str a0), (.vs 2 [] .nil), (.int .i64 0)], []) (fun v bx => ([v 0, v 3, v 4], [])) (fun nx v bx S =>
 optK (lenStrA (AV.strip (v 0))) fun t8 =>
 optK (binA .lss (AV.strip (v 4)) t8) fun t9 =>
 ifK t9
 (joinK (fun (x5 : AV) (S_3 : St) =>
 joinK (fun (x0 : AV) (x3 : AV) =>
 optK (binA .add (AV.strip x5) (.int .i64 1)) fun t36 =>
 nx ([x0, x3, t36], []) S_3) fun j_2 =>
 optK (binA .gtr (AV.strip x5) (AV.strip (v 4))) fun t25 =>
 ifK t25
 (optK (cutStrA (v 0) (some (AV.strip (v 4))) (some (AV.strip x5))) fun t31 =>
 optK (buildA T_api_Extent 1 [(0, (AV.strip (v 4))), (1, t31)]) fun t32 =>
 optK (elemVals 2 [t32]) fun e33 =>
 optK (appendA T_api_Extent S_3 (v 3) (.vs 2 e33 .full)) fun t34 =>
 j_2 (AV.strip (v 0)) t34)
 (j_2 (v 0) (v 3))) fun j_3 =>
 loopQ ([(AV.strip (v 4))], []) (fun v_2 bx_2 => ([v_2 5], [])) (fun nx_2 v_2 bx_2 S_2 =>
 optK (lenStrA (AV.strip (v 0))) fun t13 =>
 optK (binA .lss (AV.strip (v_2 5)) t13) fun t14 =>
 joinK (fun (x19 : AV) =>
 optK (pickA (AV.strip t14) x19 (.bool false)) fun t20 =>
 ifK (AV.strip t20)
 (optK (binA .add (AV.strip (v_2 5)) (.int .i64 1)) fun t22 =>
 nx_2 ([t22], []) S_2)
 (j_3 (v_2 5) S_2)) fun j =>
 ifK (AV.strip t14)
 (optK (charA (AV.strip (v 0)) (AV.strip (v_2 5))) fun t18 =>
 optK (binA .neq t18 (.int .u8 0)) fun t19 =>
 j t19)
 (j (.tup []))) S)
 (j_4 (v 3) S)) S0
theorem extent_Of_eq (Ca) (a0 : List UInt8) (S0 Q) : WF C Ca 88 (Drw C Ca 88) Tryd.f88 [(.str a0)] S0 Q = G_extent_Of Ca a0 S0 Q := by kernel_rfl
theorem extent_Of_ok {w0 : World} {a0 : List UInt8} {S0 : St} {Q : AV → St → Prop} (h : G_extent_Of (ACalls (En w0)) a0 S0 Q) : AC w0 F_extent_Of [(.str a0)] S0 Q := fn_ok w0 Tryd.func88 (by kernel_rfl) (by rw [extent_Of_eq]; exact h)
def G_ref04_One (Ca : Nat → List AV → St → (AV → St → Prop) → Prop) (a0a : Int) (a0b : Bool) (a0c : List (List AV)) (a0cr : Rt) (a0d : List (List AV)) (a0dr : Rt) (a0e : Int) (a0f : List (List AV)) (a0fr : Rt) (a0g : List UInt8) (S0 : St) (Q : AV → St → Prop) : Prop :=
 optK (boxA T_api_Node (.agg [(.int .i64 a0a), (.bool a0b), (.vs 1 a0c a0cr), (.vs 7 a0d a0dr), (.int .i64 a0e), (.vs 2 a0f a0fr), (.str a0g)])) fun c1 =>
 optK (some c1) fun _ =>
 optK (lloadA T_bool (some c1) 1) fun t8 =>
 optK (unA .not (AV.strip t8)) fun t9 =>
 joinK (fun (x14 : AV) =>
 optK (pickA (AV.strip t9) x14 (.bool false)) fun t15 =>
 joinK (fun (x20 : AV) =>
 optK (pickA (AV.strip (AV.strip t15)) x20 (.bool false)) fun t21 =>
 optK (some c1) fun _ =>
 optK (lloadA T_int (some c1) 4) fun t23 =>
 optK (binA .eql (AV.strip t23) (.int .i64 0)) fun t24 =>
 joinK (fun (x29 : AV) =>
 optK (pickA (AV.strip t24) x29 (.bool false)) fun t30 =>
 optK (some c1) fun _ =>
 optK (lloadA T_int (some c1) 0) fun t32 =>
 optK (binA .eql (AV.strip t32) (.int .i64 1)) fun t34 =>
 ifK t34
 (joinK (fun (x39 : AV) =>
 optK (pickA (AV.strip (AV.strip (AV.strip t21))) x39 (.bool false)) fun t40 =>
 joinK (fun (x46 : AV) (S_2 : St) =>
 optK (pickA (AV.strip (AV.strip t40)) x46 (.bool false)) fun t47 =>
 Q (AV.strip t47) S_2) fun j =>
 ifK (AV.strip (AV.strip t40))
 (optK (some c1) fun _ =>
 optK (lloadA T_int (some c1) 4) fun t43 =>
 optK (some c1) fun _ =>
 optK (lloadA T_s_api_Extent (some c1) 5) fun t45 =>
 callK Ca F_ref03_Right [(AV.strip t43), (AV.strip t45)] S0 fun t46 S =>
 j t46 S)
 (j (.tup []) S0)) fun j_2 =>
 ifK (AV.strip (AV.strip (AV.strip t21)))
 (optK (some c1) fun _ =>
 optK (lloadA T_string (some c1) 6) fun t38 =>
 optK (binA .eql (AV.strip t38) (.str [])) fun t39 =>
 j_2 t39)
 (j_2 (.tup [])))
 (optK (binA .eql (AV.strip t32) (.int .i64 2)) fun t49 =>
 ifK t49
 (joinK (fun (x54 : AV) =>
 optK (pickA (AV.strip (AV.strip (AV.strip t30))) x54 (.bool false)) fun t55 =>
 joinK (fun (x58 : AV) (S_4 : St) =>
 optK (pickA (AV.strip (AV.strip t55)) x58 (.bool false)) fun t59 =>
 Q (AV.strip t59) S_4) fun j_3 =>
 ifK (AV.strip (AV.strip t55))
 (optK (lloadA T_api_Node (some c1) 0) fun t57 =>
 callK Ca F_ref04_entries [(AV.strip t57)] S0 fun t58 S_3 =>
 j_3 t58 S_3)
 (j_3 (.tup []) S0)) fun j_4 =>
 ifK (AV.strip (AV.strip (AV.strip t30)))
 (optK (some c1) fun _ =>
 optK (lloadA T_string (some c1) 6) fun t53 =>
 optK (binA .eql (AV.strip t53) (.str [])) fun t54 =>
 j_4 t54)
 (j_4 (.tup [])))
 (optK (binA .eql (AV.strip t32) (.int .i64 3)) fun t61 =>
 ifK t61
 (optK (some c1) fun _ =>
 optK (lloadA T_string (some c1) 6) fun t64 =>
 callK Ca F_ref01_Split [(AV.strip t64)] S0 fun t65 S_5 =>
 optK (extractA t65 0) fun t66 =>
 optK (extractA (stripTup t65 0) 1) fun t67 =>
 joinK (fun (x70 : AV) =>
 optK (pickA (AV.strip (AV.strip (AV.strip t21))) x70 (.bool false)) fun t71 =>
 joinK (fun (x73 : AV) =>
 optK (pickA (AV.strip (AV.strip t71)) x73 (.bool false)) fun t74 =>
 joinK (fun (x79 : AV) =>
 optK (pickA (AV.strip (AV.strip t74)) x79 (.bool false)) fun t80 =>
 Q (AV.strip t80) S_5) fun j_5 =>
 ifK (AV.strip (AV.strip t74))
 (optK (some c1) fun _ =>
 optK (lloadA T_string (some c1) 6) fun t77 =>
 optK (lenStrA (AV.strip t77)) fun t78 =>
 optK (binA .leq t78 (.int .i64 256)) fun t79 =>
 j_5 t79)
 (j_5 (.tup []))) fun j_6 =>
 ifK (AV.strip (AV.strip t71))
 (j_6 (AV.strip t67))
 (j_6 (.tup []))) fun j_7 =>
 ifK (AV.strip (AV.strip (AV.strip t21)))
 (j_7 (AV.strip (AV.strip t30)))
 (j_7 (.tup [])))
 (optK (binA .eql (AV.strip t32) (.int .i64 4)) fun t82 =>
 ifK t82
 (joinK (fun (x85 : AV) =>
 optK (pickA (AV.strip (AV.strip (AV.strip t21))) x85 (.bool false)) fun t86 =>
 joinK (fun (x90 : AV) =>
 optK (pickA (AV.strip (AV.strip t86)) x90 (.bool false)) fun t91 =>
 Q (AV.strip t91) S0) fun j_8 =>
 ifK (AV.strip (AV.strip t86))
 (optK (some c1) fun _ =>
 optK (lloadA T_string (some c1) 6) fun t89 =>
 optK (binA .eql (AV.strip t89) (.str [])) fun t90 =>
 j_8 t90)
 (j_8 (.tup []))) fun j_9 =>
 ifK (AV.strip (AV.strip (AV.strip t21)))
 (j_9 (AV.strip (AV.strip t30)))
 (j_9 (.tup [])))
 (Q (.bool false) S0))))) fun j_10 =>
 ifK (AV.strip t24)
 (optK (some c1) fun _ =>
 optK (lloadA T_s_api_Extent (some c1) 5) fun t27 =>
 optK (lenSlA (AV.strip t27)) fun t28 =>
 optK (binA .eql t28 (.int .i64 0)) fun t29 =>
 j_10 t29)
 (j_10 (.tup []))) fun j_11 =>
 ifK (AV.strip (AV.strip t15))
 (optK (some c1) fun _ =>
 optK (lloadA T_s_api_Node (some c1) 3) fun t18 =>
 optK (lenSlA (AV.strip t18)) fun t19 =>
 optK (binA .eql t19 (.int .i64 0)) fun t20 =>
 j_11 t20)
 (j_11 (.tup []))) fun j_12 =>
 ifK (AV.strip t9)
 (optK (some c1) fun _ =>
 optK (lloadA T_s_string (some c1) 2) fun t12 =>
 optK (lenSlA (AV.strip t12)) fun t13 =>
 optK (binA .eql t13 (.int .i64 0)) fun t14 =>
 j_12 t14)
 (j_12 (.tup []))
theorem ref04_One_eq (Ca) (a0a : Int) (a0b : Bool) (a0c : List (List AV)) (a0cr : Rt) (a0d : List (List AV)) (a0dr : Rt) (a0e : Int) (a0f : List (List AV)) (a0fr : Rt) (a0g : List UInt8) (S0 Q) : WF C Ca 90 (Drw C Ca 90) Tryd.f90 [(.agg [(.int .i64 a0a), (.bool a0b), (.vs 1 a0c a0cr), (.vs 7 a0d a0dr), (.int .i64 a0e), (.vs 2 a0f a0fr), (.str a0g)])] S0 Q = G_ref04_One Ca a0a a0b a0c a0cr a0d a0dr a0e a0f a0fr a0g S0 Q := by kernel_rfl
theorem ref04_One_ok {w0 : World} {a0a : Int} {a0b : Bool} {a0c : List (List AV)} {a0cr : Rt} {a0d : List (List AV)} {a0dr : Rt} {a0e : Int} {a0f : List (List AV)} {a0fr : Rt} {a0g : List UInt8} {S0 : St} {Q : AV → St → Prop} (h : G_ref04_One (ACalls (En w0)) a0a a0b a0c a0cr a0d a0dr a0e a0f a0fr a0g S0 Q) : AC w0 F_ref04_One [(.agg [(.int .i64 a0a), (.bool a0b), (.vs 1 a0c a0cr), (.vs 7 a0d a0dr), (.int .i64 a0e), (.vs 2 a0f a0fr), (.str a0g)])] S0 Q := fn_ok w0 Tryd.func90 (by kernel_rfl) (by rw [ref04_One_eq]; exact h)
def G_tree_right (Ca : Nat → List AV → St → (AV → St → Prop) → Prop) (a0a : Int) (a0b : Bool) (a0c : List (List AV)) (a0cr : Rt) (a0d : List (List AV)) (a0dr : Rt) (a0e : Int) (a0f : List (List AV)) (a0fr : Rt) (a0g : List UInt8) (a1 : Int) (a2 : AV) (S0 : St) (Q : AV → St → Prop) : Prop :=
 optK (boxA T_api_Node (.agg [(.int .i64 a0a), (.bool a0b), (.vs 1 a0c a0cr), (.vs 7 a0d a0dr), (.int .i64 a0e), (.vs 2 a0f a0fr), (.str a0g)])) fun c3 =>
 optK (nilA (AV.strip a2)) fun t13 =>
 optK (loadA T_int S0 t13) fun t14 =>
 optK (binA .sub (AV.strip t14) (.int .i64 1)) fun t15 =>
 optK (nilA (AV.strip a2)) fun t16 =>
 optK (storeA T_int S0 t16 t15) fun S =>
 optK (nilA (AV.strip a2)) fun t18 =>
 optK (loadA T_int S t18) fun t19 =>
 optK (binA .lss (AV.strip t19) (.int .i64 0)) fun t20 =>
 joinK (fun (x23 : AV) =>
 optK (pickA (AV.strip t20) (.bool true) x23) fun t24 =>
 joinK (fun (x28 : AV) (S_3 : St) =>
 optK (pickA (AV.strip (AV.strip t24)) (.bool true) x28) fun t29 =>
 ifK (AV.strip t29)
 (Q (.bool false) S_3)
 (joinK (
 Q (.bool false) S_3) fun j_5 =>
 optK (some c3) fun _ =>
 optK (lloadA T_int (some c3) 0) fun t31 =>
 optK (binA .eql (AV.strip t31) (.int .i64 1)) fun t33 =>
 ifK t33
 (optK (some c3) fun _ =>
 optK (lloadA T_int (some c3) 4) fun t35 =>
 optK (some c3) fun _ =>
 optK (lloadA T_s_api_Extent (some c3) 5) fun t37 =>
 callK Ca F_extent_Right [(AV.strip t35), (AV.strip t37)] S_3 fun t38 S_4 =>
 Q t38 S_4)
 (optK (binA .eql (AV.strip t31) (.int .i64 3)) fun t40 =>
 ifK t40
 (optK (some c3) fun _ =>
 optK (lloadA T_string (some c3) 6) fun t43 =>
 callK Ca F_name_Split [(AV.strip t43)] S_3 fun t44 S_5 =>
 optK (extractA t44 0) fun t45 =>
 optK (extractA (stripTup t44 0) 1) fun t46 =>
 optK (extractA (stripTup (stripTup t44 0) 1) 2) fun t47 =>
 optK (binA .eql (AV.strip t47) (.int .i64 0)) fun t49 =>
 joinK (fun (x54 : AV) =>
 optK (pickA (AV.strip t49) x54 (.bool false)) fun t55 =>
 Q (AV.strip t55) S_5) fun j_3 =>
 ifK (AV.strip t49)
 (optK (some c3) fun _ =>
 optK (lloadA T_string (some c3) 6) fun t52 =>
 optK (lenStrA (AV.strip t52)) fun t53 =>
 optK (binA .leq t53 (.int .i64 256)) fun t54 =>
 j_3 t54)
 (j_3 (.tup [])))
 (optK (binA .eql (AV.strip t31) (.int .i64 4)) fun t57 =>
 ifK t57
 (Q (.bool true) S_3)
 (optK (binA .eql (AV.strip t31) (.int .i64 2)) fun t59 =>
 ifK t59
 (optK (lloadA T_api_Node (some c3) 0) fun t60 =>
 callK Ca F_tree_names [(AV.strip t60)] S_3 fun t61 S_6 =>
 optK (unA .not t61) fun t62 =>
 ifK t62
 (Q (.bool false) S_6)
 (joinK (fun (S_9 : St) =>
 Q (.bool true) S_9) fun j_4 =>
 optK (some c3) fun _ =>
 optK (lloadA T_s_api_Node (some c3) 3) fun t64 =>
 optK (lenSlA (AV.strip t64)) fun t65 =>
 loopQ ([(.int .i64 0)], []) (fun v bx => ([v 66], [])) (fun nx v bx S_7 =>
 optK (binA .lss (v 66) t65) fun t67 =>
 ifK t67
 (optK (idxSlA T_api_Node (AV.strip t64) (v 66)) fun t68 =>
 optK (loadA T_api_Node S_7 t68) fun t69 =>
 optK (lstoreA T_api_Node (some [(.int .i64 0), (.bool false), (.vs 1 [] .nil), (.vs 7 [] .nil), (.int .i64 0), (.vs 2 [] .nil), (.str [])]) 0 (AV.strip t69)) fun b11 =>
 optK (lloadA T_api_Node (some b11) 0) fun t70 =>
 callK Ca F_tree_right [(AV.strip t70), (.int .i64 (IntKind.i64.wrap (a1 + 1))), (AV.strip a2)] S_7 fun t74 S_8 =>
 optK (unA .not t74) fun t75 =>
 ifK t75
 (Q (.bool false) S_8)
 (optK (binA .add (v 66) (.int .i64 1)) fun t76 =>
 nx ([(AV.strip t76)], []) S_8))
 (j_4 S_7)) S_6))
 (j_5)))))) fun j =>
 ifK (AV.strip (AV.strip t24))
 (j (.tup []) S)
 (optK (lloadA T_api_Node (some c3) 0) fun t26 =>
 callK Ca F_tree_zero [(AV.strip t26)] S fun t27 S_2 =>
 optK (unA .not t27) fun t28 =>
 j t28 S_2)) fun j_2 =>
 ifK (AV.strip t20)
 (j_2 (.tup []))
 (j_2 (.bool (decide (a1 > 15))))
theorem tree_right_eq (Ca) (a0a : Int) (a0b : Bool) (a0c : List (List AV)) (a0cr : Rt) (a0d : List (List AV)) (a0dr : Rt) (a0e : Int) (a0f : List (List AV)) (a0fr : Rt) (a0g : List UInt8) (a1 : Int) (a2 : AV) (S0 Q) : WF C Ca 91 (Drw C Ca 91) Tryd.f91 [(.agg [(.int .i64 a0a), (.bool a0b), (.vs 1 a0c a0cr), (.vs 7 a0d a0dr), (.int .i64 a0e), (.vs 2 a0f a0fr), (.str a0g)]), (.int .i64 a1), a2] S0 Q = G_tree_right Ca a0a a0b a0c a0cr a0d a0dr a0e a0f a0fr a0g a1 a2 S0 Q := by kernel_rfl
theorem tree_right_ok {w0 : World} {a0a : Int} {a0b : Bool} {a0c : List (List AV)} {a0cr : Rt} {a0d : List (List AV)} {a0dr : Rt} {a0e : Int} {a0f : List (List AV)} {a0fr : Rt} {a0g : List UInt8} {a1 : Int} {a2 : AV} {S0 : St} {Q : AV → St → Prop} (h : G_tree_right (ACalls (En w0)) a0a a0b a0c a0cr a0d a0dr a0e a0f a0fr a0g a1 a2 S0 Q) : AC w0 F_tree_right [(.agg [(.int .i64 a0a), (.bool a0b), (.vs 1 a0c a0cr), (.vs 7 a0d a0dr), (.int .i64 a0e), (.vs 2 a0f a0fr), (.str a0g)]), (.int .i64 a1), a2] S0 Q := fn_ok w0 Tryd.func91 (by kernel_rfl) (by rw [tree_right_eq]; exact h)
def G_slices_Clone_s_api_Extent_api_Extent (Ca : Nat → List AV → St → (AV → St → Prop) → Prop) (a0 : List (List AV)) (a0r : Rt) (S0 : St) (Q : AV → St → Prop) : Prop :=
 optK (binE .slice .eql (.vs 2 a0 (Rt.strip a0r)) (.vs 2 [] .nil)) fun t4 =>
 ifK t4
 (Q (.vs 2 [] .nil) S0)
 (optK (appendA T_api_Extent S0 (.vs 2 [] .full) (.vs 2 a0 (Rt.strip a0r))) fun t7 =>
 Q t7 S0)
theorem slices_Clone_s_api_Extent_api_Extent_eq (Ca) (a0 : List (List AV)) (a0r : Rt) (S0 Q) : WF C Ca 92 (Drw C Ca 92) Tryd.f92 [(.vs 2 a0 a0r)] S0 Q = G_slices_Clone_s_api_Extent_api_Extent Ca a0 a0r S0 Q := by kernel_rfl
theorem slices_Clone_s_api_Extent_api_Extent_ok {w0 : World} {a0 : List (List AV)} {a0r : Rt} {S0 : St} {Q : AV → St → Prop} (h : G_slices_Clone_s_api_Extent_api_Extent (ACalls (En w0)) a0 a0r S0 Q) : AC w0 F_slices_Clone_s_api_Extent_api_Extent [(.vs 2 a0 a0r)] S0 Q := fn_ok w0 Tryd.func92 (by kernel_rfl) (by rw [slices_Clone_s_api_Extent_api_Extent_eq]; exact h)
def G_cmp_Less_string (Ca : Nat → List AV → St → (AV → St → Prop) → Prop) (a0 : List UInt8) (a1 : List UInt8) (S0 : St) (Q : AV → St → Prop) : Prop :=
 Ca F_cmp_isNaN_string [(.str a0)] S0 fun t6 S =>
 joinK (fun (x10 : AV) (S_3 : St) =>
 optK (pickA (AV.strip t6) x10 (.bool false)) fun t11 =>
 joinK (fun (x15 : AV) =>
 optK (pickA (AV.strip (AV.strip t11)) (.bool true) x15) fun t16 =>
 Q (AV.strip t16) S_3) fun j =>
 ifK (AV.strip (AV.strip t11))
 (j (.tup []))
 (j (.bool (Op.bytesLess a0 a1)))) fun j_2 =>
 ifK (AV.strip t6)
 (Ca F_cmp_isNaN_string [(.str a1)] S fun t9 S_2 =>
 optK (unA .not t9) fun t10 =>
 j_2 t10 S_2)
 (j_2 (.tup []) S)
theorem cmp_Less_string_eq (Ca) (a0 : List UInt8) (a1 : List UInt8) (S0 Q) : WF C Ca 93 (Drw C Ca 93) Tryd.f93 [(.str a0), (.str a1)] S0 Q = G_cmp_Less_string Ca a0 a1 S0 Q := by kernel_rfl
theorem cmp_Less_string_ok {w0 : World} {a0 : List UInt8} {a1 : List UInt8} {S0 : St} {Q : AV → St → Prop} (h : G_cmp_Less_string (ACalls (En w0)) a0 a1 S0 Q) : AC w0 F_cmp_Less_string [(.str a0), (.str a1)] S0 Q := fn_ok w0 Tryd.func93 (by kernel_rfl) (by rw [cmp_Less_string_eq]; exact h)
def G_slices_isNaN_string (Ca : Nat → List AV → St → (AV → St → Prop) → Prop) (a0 : List UInt8) (S0 : St) (Q : AV → St → Prop) : Prop :=
 Q (.bool (!(a0 == a0))) S0
theorem slices_isNaN_string_eq (Ca) (a0 : List UInt8) (S0 Q) : WF C Ca 94 (Drw C Ca 94) Tryd.f94 [(.str a0)] S0 Q = G_slices_isNaN_string Ca a0 S0 Q := by kernel_rfl
theorem slices_isNaN_string_ok {w0 : World} {a0 : List UInt8} {S0 : St} {Q : AV → St → Prop} (h : G_slices_isNaN_string (ACalls (En w0)) a0 S0 Q) : AC w0 F_slices_isNaN_string [(.str a0)] S0 Q := fn_ok w0 Tryd.func94 (by kernel_rfl) (by rw [slices_isNaN_string_eq]; exact h)
def G_ref01_Right (Ca : Nat → List AV → St → (AV → St → Prop) → Prop) (a0 : List UInt8) (S0 : St) (Q : AV → St → Prop) : Prop :=
 joinK (fun (x8 : AV) =>
 optK (pickA (.bool (a0 == [])) (.bool true) x8) fun t9 =>
 joinK (fun (x12 : AV) =>
 optK (pickA (AV.strip (AV.strip t9)) (.bool true) x12) fun t13 =>
 joinK (fun (x17 : AV) =>
 optK (pickA (AV.strip (AV.strip t13)) (.bool true) x17) fun t18 =>
 ifK (AV.strip t18)
 (Q (.bool false) S0)
 (joinK (fun (S_2 : St) =>
 Q (.bool true) S_2) fun j_5 =>
 loopQ ([(.int .i64 0)], []) (fun v bx => ([v 3], [])) (fun nx v bx S =>
 optK (binA .lss (AV.strip (v 3)) (.int .i64 (List.length a0 : Int))) fun t22 =>
 ifK t22
 (optK (charA (.str a0) (AV.strip (v 3))) fun t27 =>
 optK (binA .eql t27 (.int .u8 47)) fun t28 =>
 joinK (fun (x33 : AV) =>
 optK (pickA (AV.strip t28) (.bool true) x33) fun t34 =>
 ifK (AV.strip t34)
 (Q (.bool false) S)
 (optK (binA .add (AV.strip (v 3)) (.int .i64 1)) fun t24 =>
 nx ([t24], []) S)) fun j_4 =>
 ifK (AV.strip t28)
 (j_4 (.tup []))
 (optK (charA (.str a0) (AV.strip (v 3))) fun t32 =>
 optK (binA .eql t32 (.int .u8 0)) fun t33 =>
 j_4 t33))
 (j_5 S)) S0)) fun j =>
 ifK (AV.strip (AV.strip t13))
 (j (.tup []))
 (j (.bool (decide ((List.length a0 : Int) > 64))))) fun j_2 =>
 ifK (AV.strip (AV.strip t9))
 (j_2 (.tup []))
 (j_2 (.bool (a0 == [46, 46])))) fun j_3 =>
 ifK (.bool (a0 == []))
 (j_3 (.tup []))
 (j_3 (.bool (a0 == [46])))
theorem ref01_Right_eq (Ca) (a0 : List UInt8) (S0 Q) : WF C Ca 95 (Drw C Ca 95) Tryd.f95 [(.str a0)] S0 Q = G_ref01_Right Ca a0 S0 Q := by kernel_rfl
theorem ref01_Right_ok {w0 : World} {a0 : List UInt8} {S0 : St} {Q : AV → St → Prop} (h : G_ref01_Right (ACalls (En w0)) a0 S0 Q) : AC w0 F_ref01_Right [(.str a0)] S0 Q := fn_ok w0 Tryd.func95 (by kernel_rfl) (by rw [ref01_Right_eq]; exact h)
def G_name_Right (Ca : Nat → List AV → St → (AV → St → Prop) → Prop) (a0 : List UInt8) (S0 : St) (Q : AV → St → Prop) : Prop :=
 joinK (fun (x7 : AV) =>
 optK (pickA (.bool (!(a0 == []))) x7 (.bool false)) fun t8 =>
 joinK (fun (x11 : AV) =>
 optK (pickA (AV.strip (AV.strip t8)) x11 (.bool false)) fun t12 =>
 joinK (fun (x16 : AV) =>
 optK (pickA (AV.strip (AV.strip t12)) x16 (.bool false)) fun t17 =>
 joinK (fun (x21 : AV) (S_2 : St) =>
 optK (pickA (AV.strip (AV.strip t17)) x21 (.bool false)) fun t22 =>
 Q (AV.strip t22) S_2) fun j =>
 ifK (AV.strip (AV.strip t17))
 (Ca F_strings_ContainsAny [(.str a0), (.str [47, 0])] S0 fun t20 S =>
 optK (unA .not t20) fun t21 =>
 j t21 S)
 (j (.tup []) S0)) fun j_2 =>
 ifK (AV.strip (AV.strip t12))
 (j_2 (.bool (decide ((List.length a0 : Int) ≤ 64))))
 (j_2 (.tup []))) fun j_3 =>
 ifK (AV.strip (AV.strip t8))
 (j_3 (.bool (!(a0 == [46, 46]))))
 (j_3 (.tup []))) fun j_4 =>
 ifK (.bool (!(a0 == [])))
 (j_4 (.bool (!(a0 == [46]))))
 (j_4 (.tup []))
theorem name_Right_eq (Ca) (a0 : List UInt8) (S0 Q) : WF C Ca 98 (Drw C Ca 98) Tryd.f98 [(.str a0)] S0 Q = G_name_Right Ca a0 S0 Q := by kernel_rfl
theorem name_Right_ok {w0 : World} {a0 : List UInt8} {S0 : St} {Q : AV → St → Prop} (h : G_name_Right (ACalls (En w0)) a0 S0 Q) : AC w0 F_name_Right [(.str a0)] S0 Q := fn_ok w0 Tryd.func98 (by kernel_rfl) (by rw [name_Right_eq]; exact h)
def G_strings_Builder_Len (Ca : Nat → List AV → St → (AV → St → Prop) → Prop) (a0 : Nat) (a0o : Nat) (S0 : St) (Q : AV → St → Prop) : Prop :=
 optK (loadA T_s_uint8 S0 (.ptr a0 (a0o + 1))) fun t6 =>
 optK (lenSlA (AV.strip t6)) fun t7 =>
 Q t7 S0
theorem strings_Builder_Len_eq (Ca) (a0 : Nat) (a0o : Nat) (S0 Q) : WF C Ca 101 (Drw C Ca 101) Tryd.f101 [(.ptr a0 a0o)] S0 Q = G_strings_Builder_Len Ca a0 a0o S0 Q := by kernel_rfl
theorem strings_Builder_Len_ok {w0 : World} {a0 : Nat} {a0o : Nat} {S0 : St} {Q : AV → St → Prop} (h : G_strings_Builder_Len (ACalls (En w0)) a0 a0o S0 Q) : AC w0 F_strings_Builder_Len [(.ptr a0 a0o)] S0 Q := fn_ok w0 Tryd.func101 (by kernel_rfl) (by rw [strings_Builder_Len_eq]; exact h)
def G_strings_Builder_WriteString (Ca : Nat → List AV → St → (AV → St → Prop) → Prop) (a0 : Nat) (a0o : Nat) (a1 : List UInt8) (S0 : St) (Q : AV → St → Prop) : Prop :=
 Ca F_strings_Builder_copyCheck [(.ptr a0 a0o)] S0 fun t7 S =>
 optK (loadA T_s_uint8 S (.ptr a0 (a0o + 1))) fun t12 =>
 optK (appendA T_uint8 (stripMem S (.ptr a0 (a0o + 1))) (AV.strip0 t12) (.str a1)) fun t14 =>
 optK (storeA T_s_uint8 (stripMem S (.ptr a0 (a0o + 1))) (.ptr a0 (a0o + 1)) t14) fun S_2 =>
 Q (.tup [(.int .i64 (List.length a1 : Int)), .nilifc]) S_2
theorem strings_Builder_WriteString_eq (Ca) (a0 : Nat) (a0o : Nat) (a1 : List UInt8) (S0 Q) : WF C Ca 102 (Drw C Ca 102) Tryd.f102 [(.ptr a0 a0o), (.str a1)] S0 Q = G_strings_Builder_WriteString Ca a0 a0o a1 S0 Q := by kernel_rfl
theorem strings_Builder_WriteString_ok {w0 : World} {a0 : Nat} {a0o : Nat} {a1 : List UInt8} {S0 : St} {Q : AV → St → Prop} (h : G_strings_Builder_WriteString (ACalls (En w0)) a0 a0o a1 S0 Q) : AC w0 F_strings_Builder_WriteString [(.ptr a0 a0o), (.str a1)] S0 Q := fn_ok w0 Tryd.func102 (by kernel_rfl) (by rw [strings_Builder_WriteString_eq]; exact h)
def G_ref02_Put (Ca : Nat → List AV → St → (AV → St → Prop) → Prop) (a0 : List UInt8) (a1 : Int) (a2 : Int) (S0 : St) (Q : AV → St → Prop) : Prop :=
 optK (makeSliceA T_uint8 false S0 (.int .i64 a2) (.int .i64 a2)) fun p10 =>
 joinK (fun (S_3 : St) =>
 optK (convBytesA S_3 (AV.strip p10.1)) fun t27 =>
 optK (binA .add (.str a0) t27) fun t28 =>
 Q t28 S_3) fun j =>
 loopQ ([(.int .i64 a1), (.int .i64 (IntKind.i64.wrap (a2 - 1)))], []) (fun v bx => ([v 1, v 8], [])) (fun nx v bx S =>
 optK (binA .geq (AV.strip (v 8)) (.int .i64 0)) fun t14 =>
 ifK t14
 (optK (binA .rem (AV.strip (v 1)) (.int .i64 256)) fun t20 =>
 optK (convIntA .u8 t20) fun t21 =>
 optK (idxSlA T_uint8 (AV.strip p10.1) (AV.strip (v 8))) fun t22 =>
 optK (storeA T_uint8 S t22 t21) fun S_2 =>
 optK (binA .quo (AV.strip (v 1)) (.int .i64 256)) fun t24 =>
 optK (binA .sub (AV.strip (v 8)) (.int .i64 1)) fun t16 =>
 nx ([t24, t16], []) S_2)
 (j S)) p10.2
theorem ref02_Put_eq (Ca) (a0 : List UInt8) (a1 : Int) (a2 : Int) (S0 Q) : WF C Ca 106 (Drw C Ca 106) Tryd.f106 [(.str a0), (.int .i64 a1), (.int .i64 a2)] S0 Q = G_ref02_Put Ca a0 a1 a2 S0 Q := by kernel_rfl
theorem ref02_Put_ok {w0 : World} {a0 : List UInt8} {a1 : Int} {a2 : Int} {S0 : St} {Q : AV → St → Prop} (h : G_ref02_Put (ACalls (En w0)) a0 a1 a2 S0 Q) : AC w0 F_ref02_Put [(.str a0), (.int .i64 a1), (.int .i64 a2)] S0 Q := fn_ok w0 Tryd.func106 (by kernel_rfl) (by rw [ref02_Put_eq]; exact h)
def G_ref05_text (Ca : Nat → List AV → St → (AV → St → Prop) → Prop) (a0 : List UInt8) (a1 : List UInt8) (a2 : Int) (S0 : St) (Q : AV → St → Prop) : Prop :=
 Ca F_ref02_Put [(.str a0), (.int .i64 (List.length a1 : Int)), (.int .i64 a2)] S0 fun t11 S =>
 optK (binA .add t11 (.str a1)) fun t13 =>
 Q t13 S
theorem ref05_text_eq (Ca) (a0 : List UInt8) (a1 : List UInt8) (a2 : Int) (S0 Q) : WF C Ca 107 (Drw C Ca 107) Tryd.f107 [(.str a0), (.str a1), (.int .i64 a2)] S0 Q = G_ref05_text Ca a0 a1 a2 S0 Q := by kernel_rfl
theorem ref05_text_ok {w0 : World} {a0 : List UInt8} {a1 : List UInt8} {a2 : Int} {S0 : St} {Q : AV → St → Prop} (h : G_ref05_text (ACalls (En w0)) a0 a1 a2 S0 Q) : AC w0 F_ref05_text [(.str a0), (.str a1), (.int .i64 a2)] S0 Q := fn_ok w0 Tryd.func107 (by kernel_rfl) (by rw [ref05_text_eq]; exact h)
def G_wire_Read (Ca : Nat → List AV → St → (AV → St → Prop) → Prop) (a0 : List UInt8) (S0 : St) (Q : AV → St → Prop) : Prop :=
 optK (boxA T_wire_Reader (.agg [(.str a0)])) fun c5 =>
 Q (.ptr S0.length 0) (S0 ++ [.cells c5 t_wire_Reader])
theorem wire_Read_eq (Ca) (a0 : List UInt8) (S0 Q) : WF C Ca 108 (Drw C Ca 108) Tryd.f108 [(.str a0)] S0 Q = G_wire_Read Ca a0 S0 Q := by kernel_rfl
theorem wire_Read_ok {w0 : World} {a0 : List UInt8} {S0 : St} {Q : AV → St → Prop} (h : G_wire_Read (ACalls (En w0)) a0 S0 Q) : AC w0 F_wire_Read [(.str a0)] S0 Q := fn_ok w0 Tryd.func108 (by kernel_rfl) (by rw [wire_Read_eq]; exact h)
def G_image_reader_node (Ca : Nat → List AV → St → (AV → St → Prop) → Prop) (a0 : Nat) (a0o : Nat) (a1 : Int) (S0 : St) (Q : AV → St → Prop) : Prop :=
 joinK (fun (S_3 : St) =>
 optK (loadA T_bool S_3 (.ptr a0 (a0o + 1))) fun t32 =>
 ifK (AV.strip t32)
 (Q (.agg [(.int .i64 0), (.bool false), (.vs 1 [] .nil), (.vs 7 [] .nil), (.int .i64 0), (.vs 2 [] .nil), (.str [])]) S_3)
 (Ca F_image_reader_number [(.ptr a0 a0o), (.int .i64 1)] S_3 fun t35 S_4 =>
 optK (buildA T_api_Node 1 [(0, t35)]) fun t36 =>
 optK (lstoreA T_api_Node (some [(.int .i64 0), (.bool false), (.vs 1 [] .nil), (.vs 7 [] .nil), (.int .i64 0), (.vs 2 [] .nil), (.str [])]) 0 t36) fun b5 =>
 joinK (fun (y5 : Option (List AV)) (S_17 : St) =>
 optK (lloadA T_api_Node y5 0) fun t120 =>
 optK (lstoreA T_api_Node (some [(.int .i64 0), (.bool false), (.vs 1 [] .nil), (.vs 7 [] .nil), (.int .i64 0), (.vs 2 [] .nil), (.str [])]) 0 (AV.strip t120)) fun b4 =>
 optK ((lloadA T_api_Node (some b4) 0).map AV.strip) fun r4 =>
 Q r4 S_17) fun j_5 =>
 optK (some b5) fun _ =>
 optK (lloadA T_int (some b5) 0) fun t38 =>
 optK (binA .eql (AV.strip t38) (.int .i64 1)) fun t40 =>
 ifK t40
 (Ca F_image_reader_number [(.ptr a0 a0o), (.int .i64 4)] S_4 fun t42 S_5 =>
 optK (some b5) fun _ =>
 optK (lstoreA T_int (some b5) 4 t42) fun b5_2 =>
 Ca F_image_reader_number [(.ptr a0 a0o), (.int .i64 4)] S_5 fun t45 S_6 =>
 loopQ ([t45], [(some b5_2)]) (fun v bx => ([v 6], [bx 5])) (fun nx v bx S_7 =>
 optK (binA .gtr (AV.strip (v 6)) (.int .i64 0)) fun t47 =>
 joinK (fun (x53 : AV) =>
 optK (pickA (AV.strip t47) x53 (.bool false)) fun t54 =>
 ifK (AV.strip t54)
 (Ca F_image_reader_number [(.ptr a0 a0o), (.int .i64 4)] S_7 fun t58 S_8 =>
 optK (bx 5) fun _ =>
 optK (lloadA T_s_api_Extent (bx 5) 5) fun t60 =>
 Ca F_image_reader_text [(.ptr a0 a0o), (.int .i64 4)] S_8 fun t63 S_9 =>
 optK (buildA T_api_Extent 1 [(0, (AV.strip t58)), (1, t63)]) fun t64 =>
 optK (elemVals 2 [t64]) fun e65 =>
 optK (appendA T_api_Extent S_9 (AV.strip0 t60) (.vs 2 e65 .full)) fun t66 =>
 optK (stripBox (bx 5) 5) fun _ =>
 optK (lstoreA T_s_api_Extent (stripBox (bx 5) 5) 5 t66) fun b5_3 =>
 optK (binA .sub (AV.strip (v 6)) (.int .i64 1)) fun t56 =>
 nx ([t56], [(some b5_3)]) S_9)
 (j_5 (bx 5) S_7)) fun j_2 =>
 ifK (AV.strip t47)
 (optK (loadA T_bool S_7 (.ptr a0 (a0o + 1))) fun t52 =>
 optK (unA .not (AV.strip t52)) fun t53 =>
 j_2 t53)
 (j_2 (.tup []))) S_6)
 (optK (binA .eql (AV.strip t38) (.int .i64 2)) fun t69 =>
 ifK t69
 (Ca F_image_reader_number [(.ptr a0 a0o), (.int .i64 1)] S_4 fun t71 S_10 =>
 optK (binA .eql (AV.strip t71) (.int .i64 1)) fun t74 =>
 optK (loadA T_bool S_10 (.ptr a0 (a0o + 1))) fun t78 =>
 joinK (fun (x81 : AV) =>
 optK (pickA (AV.strip (AV.strip t78)) (.bool true) x81) fun t82 =>
 optK (some b5) fun _ =>
 optK (lstoreA T_bool (some b5) 1 t74) fun b5_4 =>
 optK (storeA T_bool S_10 (.ptr a0 (a0o + 1)) (AV.strip t82)) fun S_11 =>
 Ca F_image_reader_number [(.ptr a0 a0o), (.int .i64 2)] S_11 fun t87 S_12 =>
 loopQ ([t87], [(some b5_4)]) (fun v_2 bx_2 => ([v_2 9], [bx_2 5])) (fun nx_2 v_2 bx_2 S_13 =>
 optK (binA .gtr (AV.strip (v_2 9)) (.int .i64 0)) fun t89 =>
 joinK (fun (x95 : AV) =>
 optK (pickA (AV.strip t89) x95 (.bool false)) fun t96 =>
 ifK (AV.strip t96)
 (optK (bx_2 5) fun _ =>
 optK (lloadA T_s_string (bx_2 5) 2) fun t100 =>
 Ca F_image_reader_text [(.ptr a0 a0o), (.int .i64 1)] S_13 fun t102 S_14 =>
 optK (elemVals 1 [t102]) fun e103 =>
 optK (appendA T_string S_14 (AV.strip0 t100) (.vs 1 e103 .full)) fun t104 =>
 optK (stripBox (bx_2 5) 2) fun _ =>
 optK (lstoreA T_s_string (stripBox (bx_2 5) 2) 2 t104) fun b5_5 =>
 optK (some b5_5) fun _ =>
 optK (lloadA T_s_api_Node (some b5_5) 3) fun t107 =>
 Ca F_image_reader_node [(.ptr a0 a0o), (.int .i64 (IntKind.i64.wrap (a1 + 1)))] S_14 fun t111 S_15 =>
 optK (elemVals 7 [t111]) fun e112 =>
 optK (appendA T_api_Node S_15 (AV.strip0 t107) (.vs 7 e112 .full)) fun t113 =>
 optK (stripBox (some b5_5) 3) fun _ =>
 optK (lstoreA T_s_api_Node (stripBox (some b5_5) 3) 3 t113) fun b5_6 =>
 optK (binA .sub (AV.strip (v_2 9)) (.int .i64 1)) fun t98 =>
 nx_2 ([t98], [(some b5_6)]) S_15)
 (j_5 (bx_2 5) S_13)) fun j_3 =>
 ifK (AV.strip t89)
 (optK (loadA T_bool S_13 (.ptr a0 (a0o + 1))) fun t94 =>
 optK (unA .not (AV.strip t94)) fun t95 =>
 j_3 t95)
 (j_3 (.tup []))) S_12) fun j_4 =>
 ifK (AV.strip (AV.strip t78))
 (j_4 (.tup []))
 (optK (binA .gtr (AV.strip t71) (.int .i64 1)) fun t81 =>
 j_4 t81))
 (optK (binA .eql (AV.strip t38) (.int .i64 3)) fun t116 =>
 ifK t116
 (Ca F_image_reader_text [(.ptr a0 a0o), (.int .i64 2)] S_4 fun t118 S_16 =>
 optK (some b5) fun _ =>
 optK (lstoreA T_string (some b5) 6 t118) fun b5_7 =>
 j_5 (some b5_7) S_16)
 (j_5 (some b5) S_4))))) fun j_6 =>
 optK (loadA T_int S0 (.ptr a0 (a0o + 2))) fun t13 =>
 optK (binA .sub (AV.strip t13) (.int .i64 1)) fun t14 =>
 optK (storeA T_int S0 (.ptr a0 (a0o + 2)) t14) fun S =>
 optK (loadA T_int S (.ptr a0 (a0o + 2))) fun t20 =>
 optK (binA .lss (AV.strip t20) (.int .i64 0)) fun t21 =>
 joinK (fun (x24 : AV) =>
 optK (pickA (AV.strip t21) (.bool true) x24) fun t25 =>
 ifK (AV.strip t25)
 (optK (storeA T_bool S (.ptr a0 (a0o + 1)) (.bool true)) fun S_2 =>
 j_6 S_2)
 (j_6 S)) fun j =>
 ifK (AV.strip t21)
 (j (.tup []))
 (j (.bool (decide (a1 > 15))))
theorem image_reader_node_eq (Ca) (a0 : Nat) (a0o : Nat) (a1 : Int) (S0 Q) : WF C Ca 109 (Drw C Ca 109) Tryd.f109 [(.ptr a0 a0o), (.int .i64 a1)] S0 Q = G_image_reader_node Ca a0 a0o a1 S0 Q := by kernel_rfl
theorem image_reader_node_ok {w0 : World} {a0 : Nat} {a0o : Nat} {a1 : Int} {S0 : St} {Q : AV → St → Prop} (h : G_image_reader_node (ACalls (En w0)) a0 a0o a1 S0 Q) : AC w0 F_image_reader_node [(.ptr a0 a0o), (.int .i64 a1)] S0 Q := fn_ok w0 Tryd.func109 (by kernel_rfl) (by rw [image_reader_node_eq]; exact h)
def G_wire_Reader_Left (Ca : Nat → List AV → St → (AV → St → Prop) → Prop) (a0 : Nat) (a0o : Nat) (S0 : St) (Q : AV → St → Prop) : Prop :=
 optK (loadA T_string S0 (.ptr a0 (a0o + 0))) fun t6 =>
 optK (lenStrA (AV.strip t6)) fun t7 =>
 Q t7 S0
theorem wire_Reader_Left_eq (Ca) (a0 : Nat) (a0o : Nat) (S0 Q) : WF C Ca 110 (Drw C Ca 110) Tryd.f110 [(.ptr a0 a0o)] S0 Q = G_wire_Reader_Left Ca a0 a0o S0 Q := by kernel_rfl
theorem wire_Reader_Left_ok {w0 : World} {a0 : Nat} {a0o : Nat} {S0 : St} {Q : AV → St → Prop} (h : G_wire_Reader_Left (ACalls (En w0)) a0 a0o S0 Q) : AC w0 F_wire_Reader_Left [(.ptr a0 a0o)] S0 Q := fn_ok w0 Tryd.func110 (by kernel_rfl) (by rw [wire_Reader_Left_eq]; exact h)
def G_ref03_Right (Ca : Nat → List AV → St → (AV → St → Prop) → Prop) (a0 : Int) (a1 : List (List AV)) (a1r : Rt) (S0 : St) (Q : AV → St → Prop) : Prop :=
 joinK (fun (x10 : AV) =>
 optK (pickA (.bool (decide (a0 < 0))) (.bool true) x10) fun t11 =>
 ifK (AV.strip t11)
 (Q (.bool false) S0)
 (joinK (fun (S_2 : St) =>
 Q (.bool true) S_2) fun j_6 =>
 loopQ ([(.int .i64 0)], []) (fun v bx => ([v 5], [])) (fun nx v bx S =>
 optK (binA .lss (AV.strip (v 5)) (.int .i64 (List.length a1 : Int))) fun t15 =>
 ifK t15
 (optK (idxSlA T_api_Extent (.vs 2 a1 (Rt.strip a1r)) (AV.strip (v 5))) fun t20 =>
 optK (movePtr t20 0) fun t21 =>
 optK (loadA T_int S t21) fun t22 =>
 optK (binA .lss (AV.strip t22) (.int .i64 0)) fun t23 =>
 joinK (fun (x31 : AV) =>
 optK (pickA (AV.strip t23) (.bool true) x31) fun t32 =>
 joinK (fun (x40 : AV) =>
 optK (pickA (AV.strip (AV.strip t32)) (.bool true) x40) fun t41 =>
 joinK (fun (x56 : AV) =>
 optK (pickA (AV.strip (AV.strip t41)) (.bool true) x56) fun t57 =>
 ifK (AV.strip t57)
 (Q (.bool false) S)
 (optK (binA .gtr (AV.strip (v 5)) (.int .i64 0)) fun t59 =>
 joinK (fun (x80 : AV) =>
 optK (pickA (AV.strip t59) x80 (.bool false)) fun t81 =>
 ifK (AV.strip t81)
 (Q (.bool false) S)
 (optK (binA .add (AV.strip (v 5)) (.int .i64 1)) fun t17 =>
 nx ([t17], []) S)) fun j_5 =>
 ifK (AV.strip t59)
 (optK (idxSlA T_api_Extent (.vs 2 a1 (Rt.strip a1r)) (AV.strip (v 5))) fun t63 =>
 optK (movePtr t63 0) fun t64 =>
 optK (loadA T_int S t64) fun t65 =>
 optK (binA .sub (AV.strip (v 5)) (.int .i64 1)) fun t68 =>
 optK (idxSlA T_api_Extent (.vs 2 a1 (Rt.strip a1r)) t68) fun t69 =>
 optK (movePtr t69 0) fun t70 =>
 optK (loadA T_int S t70) fun t71 =>
 optK (binA .sub (AV.strip (v 5)) (.int .i64 1)) fun t74 =>
 optK (idxSlA T_api_Extent (.vs 2 a1 (Rt.strip a1r)) t74) fun t75 =>
 optK (movePtr t75 1) fun t76 =>
 optK (loadA T_string S t76) fun t77 =>
 optK (lenStrA (AV.strip t77)) fun t78 =>
 optK (binA .add (AV.strip t71) t78) fun t79 =>
 optK (binA .lss (AV.strip t65) t79) fun t80 =>
 j_5 t80)
 (j_5 (.tup [])))) fun j_2 =>
 ifK (AV.strip (AV.strip t41))
 (j_2 (.tup []))
 (optK (idxSlA T_api_Extent (.vs 2 a1 (Rt.strip a1r)) (AV.strip (v 5))) fun t45 =>
 optK (movePtr t45 0) fun t46 =>
 optK (loadA T_int S t46) fun t47 =>
 optK (idxSlA T_api_Extent (.vs 2 a1 (Rt.strip a1r)) (AV.strip (v 5))) fun t50 =>
 optK (movePtr t50 1) fun t51 =>
 optK (loadA T_string S t51) fun t52 =>
 optK (lenStrA (AV.strip t52)) fun t53 =>
 optK (binA .add (AV.strip t47) t53) fun t54 =>
 optK (binA .gtr t54 (.int .i64 a0)) fun t56 =>
 j_2 t56)) fun j_3 =>
 ifK (AV.strip (AV.strip t32))
 (j_3 (.tup []))
 (optK (idxSlA T_api_Extent (.vs 2 a1 (Rt.strip a1r)) (AV.strip (v 5))) fun t36 =>
 optK (movePtr t36 1) fun t37 =>
 optK (loadA T_string S t37) fun t38 =>
 optK (lenStrA (AV.strip t38)) fun t39 =>
 optK (binA .lss t39 (.int .i64 1)) fun t40 =>
 j_3 t40)) fun j_4 =>
 ifK (AV.strip t23)
 (j_4 (.tup []))
 (optK (idxSlA T_api_Extent (.vs 2 a1 (Rt.strip a1r)) (AV.strip (v 5))) fun t27 =>
 optK (movePtr t27 0) fun t28 =>
 optK (loadA T_int S t28) fun t29 =>
 optK (binA .gtr (AV.strip t29) (.int .i64 a0)) fun t31 =>
 j_4 t31))
 (j_6 S)) S0)) fun j =>
 ifK (.bool (decide (a0 < 0)))
 (j (.tup []))
 (j (.bool (decide (a0 > 1048576))))
theorem ref03_Right_eq (Ca) (a0 : Int) (a1 : List (List AV)) (a1r : Rt) (S0 Q) : WF C Ca 111 (Drw C Ca 111) Tryd.f111 [(.int .i64 a0), (.vs 2 a1 a1r)] S0 Q = G_ref03_Right Ca a0 a1 a1r S0 Q := by kernel_rfl
theorem ref03_Right_ok {w0 : World} {a0 : Int} {a1 : List (List AV)} {a1r : Rt} {S0 : St} {Q : AV → St → Prop} (h : G_ref03_Right (ACalls (En w0)) a0 a1 a1r S0 Q) : AC w0 F_ref03_Right [(.int .i64 a0), (.vs 2 a1 a1r)] S0 Q := fn_ok w0 Tryd.func111 (by kernel_rfl) (by rw [ref03_Right_eq]; exact h)
def G_ref04_entries (Ca : Nat → List AV → St → (AV → St → Prop) → Prop) (a0a : Int) (a0b : Bool) (a0c : List (List AV)) (a0cr : Rt) (a0d : List (List AV)) (a0dr : Rt) (a0e : Int) (a0f : List (List AV)) (a0fr : Rt) (a0g : List UInt8) (S0 : St) (Q : AV → St → Prop) : Prop :=
 optK (boxA T_api_Node (.agg [(.int .i64 a0a), (.bool a0b), (.vs 1 a0c a0cr), (.vs 7 a0d a0dr), (.int .i64 a0e), (.vs 2 a0f a0fr), (.str a0g)])) fun c1 =>
 optK (some c1) fun _ =>
 optK (lloadA T_s_string (some c1) 2) fun t5 =>
 optK (lenSlA (AV.strip t5)) fun t6 =>
 optK (some c1) fun _ =>
 optK (lloadA T_s_api_Node (some c1) 3) fun t8 =>
 optK (lenSlA (AV.strip t8)) fun t9 =>
 optK (binA .neq t6 t9) fun t10 =>
 ifK t10
 (Q (.bool false) S0)
 (joinK (fun (S_6 : St) =>
 Q (.bool true) S_6) fun j_3 =>
 loopQ ([(.int .i64 0)], [(some c1)]) (fun v bx => ([v 3], [bx 1])) (fun nx v bx S =>
 optK (bx 1) fun _ =>
 optK (lloadA T_s_string (bx 1) 2) fun t13 =>
 optK (lenSlA (AV.strip t13)) fun t14 =>
 optK (binA .lss (AV.strip (v 3)) t14) fun t15 =>
 ifK t15
 (optK (bx 1) fun _ =>
 optK (lloadA T_s_string (bx 1) 2) fun t19 =>
 optK (idxSlA T_string (AV.strip t19) (AV.strip (v 3))) fun t21 =>
 optK (loadA T_string S t21) fun t22 =>
 callK Ca F_ref01_Right [(AV.strip t22)] S fun t23 S_2 =>
 optK (unA .not t23) fun t24 =>
 joinK (fun (x42 : AV) (S_5 : St) =>
 optK (pickA (AV.strip t24) (.bool true) x42) fun t43 =>
 ifK (AV.strip t43)
 (Q (.bool false) S_5)
 (optK (binA .add (AV.strip (v 3)) (.int .i64 1)) fun t17 =>
 nx ([t17], [(bx 1)]) S_5)) fun j_2 =>
 ifK (AV.strip t24)
 (j_2 (.tup []) S_2)
 (optK (binA .gtr (AV.strip (v 3)) (.int .i64 0)) fun t27 =>
 joinK (fun (x41 : AV) (S_4 : St) =>
 optK (pickA (AV.strip t27) x41 (.bool false)) fun t42 =>
 j_2 (AV.strip t42) S_4) fun j =>
 gK (AV.strip t27)
 (optK (bx 1) fun _ =>
 optK (lloadA T_s_string (bx 1) 2) fun t30 =>
 optK (binA .sub (AV.strip (v 3)) (.int .i64 1)) fun t32 =>
 optK (idxSlA T_string (AV.strip t30) t32) fun t33 =>
 optK (loadA T_string S_2 t33) fun t34 =>
 optK (bx 1) fun _ =>
 optK (lloadA T_s_string (bx 1) 2) fun t36 =>
 optK (idxSlA T_string (AV.strip t36) (AV.strip (v 3))) fun t38 =>
 optK (loadA T_string S_2 t38) fun t39 =>
 callK Ca F_ref01_Less [(AV.strip t34), (AV.strip t39)] S_2 fun t40 S_3 =>
 optK (unA .not t40) fun t41 =>
 j t41 S_3)
 (j (.tup []) S_2)
 (j (.tup []) S_2)))
 (j_3 S)) S0)
theorem ref04_entries_eq (Ca) (a0a : Int) (a0b : Bool) (a0c : List (List AV)) (a0cr : Rt) (a0d : List (List AV)) (a0dr : Rt) (a0e : Int) (a0f : List (List AV)) (a0fr : Rt) (a0g : List UInt8) (S0 Q) : WF C Ca 112 (Drw C Ca 112) Tryd.f112 [(.agg [(.int .i64 a0a), (.bool a0b), (.vs 1 a0c a0cr), (.vs 7 a0d a0dr), (.int .i64 a0e), (.vs 2 a0f a0fr), (.str a0g)])] S0 Q = G_ref04_entries Ca a0a a0b a0c a0cr a0d a0dr a0e a0f a0fr a0g S0 Q := by kernel_rfl
theorem ref04_entries_ok {w0 : World} {a0a : Int} {a0b : Bool} {a0c : List (List AV)} {a0cr : Rt} {a0d : List (List AV)} {a0dr : Rt} {a0e : Int} {a0f : List (List AV)} {a0fr : Rt} {a0g : List UInt8} {S0 : St} {Q : AV → St → Prop} (h : G_ref04_entries (ACalls (En w0)) a0a a0b a0c a0cr a0d a0dr a0e a0f a0fr a0g S0 Q) : AC w0 F_ref04_entries [(.agg [(.int .i64 a0a), (.bool a0b), (.vs 1 a0c a0cr), (.vs 7 a0d a0dr), (.int .i64 a0e), (.vs 2 a0f a0fr), (.str a0g)])] S0 Q := fn_ok w0 Tryd.func112 (by kernel_rfl) (by rw [ref04_entries_eq]; exact h)
def G_tree_zero (Ca : Nat → List AV → St → (AV → St → Prop) → Prop) (a0a : Int) (a0b : Bool) (a0c : List (List AV)) (a0cr : Rt) (a0d : List (List AV)) (a0dr : Rt) (a0e : Int) (a0f : List (List AV)) (a0fr : Rt) (a0g : List UInt8) (S0 : St) (Q : AV → St → Prop) : Prop :=
 optK (boxA T_api_Node (.agg [(.int .i64 a0a), (.bool a0b), (.vs 1 a0c a0cr), (.vs 7 a0d a0dr), (.int .i64 a0e), (.vs 2 a0f a0fr), (.str a0g)])) fun c1 =>
 optK (some c1) fun _ =>
 optK (lloadA T_int (some c1) 0) fun t7 =>
 optK (binA .eql (AV.strip t7) (.int .i64 2)) fun t8 =>
 optK (some c1) fun _ =>
 optK (lloadA T_int (some c1) 0) fun t10 =>
 optK (binA .eql (AV.strip t10) (.int .i64 1)) fun t11 =>
 optK (some c1) fun _ =>
 optK (lloadA T_int (some c1) 0) fun t13 =>
 optK (binA .eql (AV.strip t13) (.int .i64 3)) fun t14 =>
 optK (unA .not (AV.strip t8)) fun t16 =>
 joinK (fun (x31 : AV) =>
 optK (pickA (AV.strip t16) x31 (.bool false)) fun t32 =>
 joinK (fun (x46 : AV) =>
 optK (pickA (AV.strip (AV.strip t32)) (.bool true) x46) fun t47 =>
 ifK (AV.strip t47)
 (Q (.bool false) S0)
 (joinK (fun (x52 : AV) =>
 optK (pickA (AV.strip (AV.strip t14)) (.bool true) x52) fun t53 =>
 Q (AV.strip t53) S0) fun j_7 =>
 ifK (AV.strip (AV.strip t14))
 (j_7 (.tup []))
 (optK (some c1) fun _ =>
 optK (lloadA T_string (some c1) 6) fun t51 =>
 optK (binA .eql (AV.strip t51) (.str [])) fun t52 =>
 j_7 t52))) fun j_5 =>
 ifK (AV.strip (AV.strip t32))
 (j_5 (.tup []))
 (optK (unA .not (AV.strip t11)) fun t35 =>
 joinK (fun (x45 : AV) =>
 optK (pickA (AV.strip t35) x45 (.bool false)) fun t46 =>
 j_5 (AV.strip t46)) fun j_4 =>
 gK (AV.strip t35)
 (optK (some c1) fun _ =>
 optK (lloadA T_int (some c1) 4) fun t38 =>
 optK (binA .neq (AV.strip t38) (.int .i64 0)) fun t39 =>
 joinK (fun (x44 : AV) =>
 optK (pickA (AV.strip t39) (.bool true) x44) fun t45 =>
 j_4 (AV.strip t45)) fun j_3 =>
 gK (AV.strip t39)
 (j_3 (.tup []))
 (optK (some c1) fun _ =>
 optK (lloadA T_s_api_Extent (some c1) 5) fun t42 =>
 optK (lenSlA (AV.strip t42)) fun t43 =>
 optK (binA .gtr t43 (.int .i64 0)) fun t44 =>
 j_3 t44)
 (j_3 (.tup [])))
 (j_4 (.tup []))
 (j_4 (.tup [])))) fun j_6 =>
 ifK (AV.strip t16)
 (optK (some c1) fun _ =>
 optK (lloadA T_bool (some c1) 1) fun t19 =>
 joinK (fun (x24 : AV) =>
 optK (pickA (AV.strip (AV.strip t19)) (.bool true) x24) fun t25 =>
 joinK (fun (x30 : AV) =>
 optK (pickA (AV.strip (AV.strip t25)) (.bool true) x30) fun t31 =>
 j_6 (AV.strip t31)) fun j =>
 gK (AV.strip (AV.strip t25))
 (j (.tup []))
 (optK (some c1) fun _ =>
 optK (lloadA T_s_api_Node (some c1) 3) fun t28 =>
 optK (lenSlA (AV.strip t28)) fun t29 =>
 optK (binA .gtr t29 (.int .i64 0)) fun t30 =>
 j t30)
 (j (.tup []))) fun j_2 =>
 gK (AV.strip (AV.strip t19))
 (j_2 (.tup []))
 (optK (some c1) fun _ =>
 optK (lloadA T_s_string (some c1) 2) fun t22 =>
 optK (lenSlA (AV.strip t22)) fun t23 =>
 optK (binA .gtr t23 (.int .i64 0)) fun t24 =>
 j_2 t24)
 (j_2 (.tup [])))
 (j_6 (.tup []))
theorem tree_zero_eq (Ca) (a0a : Int) (a0b : Bool) (a0c : List (List AV)) (a0cr : Rt) (a0d : List (List AV)) (a0dr : Rt) (a0e : Int) (a0f : List (List AV)) (a0fr : Rt) (a0g : List UInt8) (S0 Q) : WF C Ca 113 (Drw C Ca 113) Tryd.f113 [(.agg [(.int .i64 a0a), (.bool a0b), (.vs 1 a0c a0cr), (.vs 7 a0d a0dr), (.int .i64 a0e), (.vs 2 a0f a0fr), (.str a0g)])] S0 Q = G_tree_zero Ca a0a a0b a0c a0cr a0d a0dr a0e a0f a0fr a0g S0 Q := by kernel_rfl
theorem tree_zero_ok {w0 : World} {a0a : Int} {a0b : Bool} {a0c : List (List AV)} {a0cr : Rt} {a0d : List (List AV)} {a0dr : Rt} {a0e : Int} {a0f : List (List AV)} {a0fr : Rt} {a0g : List UInt8} {S0 : St} {Q : AV → St → Prop} (h : G_tree_zero (ACalls (En w0)) a0a a0b a0c a0cr a0d a0dr a0e a0f a0fr a0g S0 Q) : AC w0 F_tree_zero [(.agg [(.int .i64 a0a), (.bool a0b), (.vs 1 a0c a0cr), (.vs 7 a0d a0dr), (.int .i64 a0e), (.vs 2 a0f a0fr), (.str a0g)])] S0 Q := fn_ok w0 Tryd.func113 (by kernel_rfl) (by rw [tree_zero_eq]; exact h)
def G_extent_Right (Ca : Nat → List AV → St → (AV → St → Prop) → Prop) (a0 : Int) (a1 : List (List AV)) (a1r : Rt) (S0 : St) (Q : AV → St → Prop) : Prop :=
 joinK (fun (S_2 : St) =>
 joinK (fun (x44 : AV) =>
 optK (pickA (.bool (decide (a0 ≥ 0))) x44 (.bool false)) fun t45 =>
 Q (AV.strip t45) S_2) fun j_3 =>
 ifK (.bool (decide (a0 ≥ 0)))
 (j_3 (.bool (decide (a0 ≤ 1048576))))
 (j_3 (.tup []))) fun j_4 =>
 loopQ ([(.int .i64 0), (.int .i64 0)], []) (fun v bx => ([v 5, v 10], [])) (fun nx v bx S =>
 optK (binA .lss (v 10) (.int .i64 (List.length a1 : Int))) fun t11 =>
 ifK t11
 (optK (idxSlA T_api_Extent (.vs 2 a1 (Rt.strip a1r)) (v 10)) fun t12 =>
 optK (loadA T_api_Extent S t12) fun t13 =>
 optK (lstoreA T_api_Extent (some [(.int .i64 0), (.str [])]) 0 (AV.strip t13)) fun b7 =>
 optK (some b7) fun _ =>
 optK (lloadA T_int (some b7) 0) fun t15 =>
 optK (binA .lss (AV.strip t15) (AV.strip (v 5))) fun t17 =>
 joinK (fun (x21 : AV) =>
 optK (pickA (AV.strip t17) (.bool true) x21) fun t22 =>
 joinK (fun (x31 : AV) =>
 optK (pickA (AV.strip (AV.strip t22)) (.bool true) x31) fun t32 =>
 ifK (AV.strip t32)
 (Q (.bool false) S)
 (optK (some b7) fun _ =>
 optK (lloadA T_int (some b7) 0) fun t34 =>
 optK (some b7) fun _ =>
 optK (lloadA T_string (some b7) 1) fun t36 =>
 optK (lenStrA (AV.strip t36)) fun t37 =>
 optK (binA .add (AV.strip t34) t37) fun t38 =>
 optK (binA .add (v 10) (.int .i64 1)) fun t39 =>
 nx ([t38, (AV.strip t39)], []) S)) fun j =>
 ifK (AV.strip (AV.strip t22))
 (j (.tup []))
 (optK (some b7) fun _ =>
 optK (lloadA T_string (some b7) 1) fun t25 =>
 optK (lenStrA (AV.strip t25)) fun t26 =>
 optK (some b7) fun _ =>
 optK (lloadA T_int (some b7) 0) fun t29 =>
 optK (binA .sub (.int .i64 a0) (AV.strip t29)) fun t30 =>
 optK (binA .gtr t26 t30) fun t31 =>
 j t31)) fun j_2 =>
 ifK (AV.strip t17)
 (j_2 (.tup []))
 (optK (some b7) fun _ =>
 optK (lloadA T_string (some b7) 1) fun t20 =>
 optK (binA .eql (AV.strip t20) (.str [])) fun t21 =>
 j_2 t21))
 (j_4 S)) S0
theorem extent_Right_eq (Ca) (a0 : Int) (a1 : List (List AV)) (a1r : Rt) (S0 Q) : WF C Ca 114 (Drw C Ca 114) Tryd.f114 [(.int .i64 a0), (.vs 2 a1 a1r)] S0 Q = G_extent_Right Ca a0 a1 a1r S0 Q := by kernel_rfl
theorem extent_Right_ok {w0 : World} {a0 : Int} {a1 : List (List AV)} {a1r : Rt} {S0 : St} {Q : AV → St → Prop} (h : G_extent_Right (ACalls (En w0)) a0 a1 a1r S0 Q) : AC w0 F_extent_Right [(.int .i64 a0), (.vs 2 a1 a1r)] S0 Q := fn_ok w0 Tryd.func114 (by kernel_rfl) (by rw [extent_Right_eq]; exact h)
def G_tree_names (Ca : Nat → List AV → St → (AV → St → Prop) → Prop) (a0a : Int) (a0b : Bool) (a0c : List (List AV)) (a0cr : Rt) (a0d : List (List AV)) (a0dr : Rt) (a0e : Int) (a0f : List (List AV)) (a0fr : Rt) (a0g : List UInt8) (S0 : St) (Q : AV → St → Prop) : Prop :=
 optK (boxA T_api_Node (.agg [(.int .i64 a0a), (.bool a0b), (.vs 1 a0c a0cr), (.vs 7 a0d a0dr), (.int .i64 a0e), (.vs 2 a0f a0fr), (.str a0g)])) fun c1 =>
 joinK (fun (y1 : Option (List AV)) (S_3 : St) =>
 optK y1 fun _ =>
 optK (lloadA T_s_string y1 2) fun t32 =>
 optK (lenSlA (AV.strip t32)) fun t33 =>
 optK y1 fun _ =>
 optK (lloadA T_s_api_Node y1 3) fun t35 =>
 optK (lenSlA (AV.strip t35)) fun t36 =>
 optK (binA .eql t33 t36) fun t37 =>
 Q t37 S_3) fun j_3 =>
 optK (some c1) fun _ =>
 optK (lloadA T_s_string (some c1) 2) fun t6 =>
 optK (lenSlA (AV.strip t6)) fun t7 =>
 loopQ ([(.int .i64 0)], [(some c1)]) (fun v bx => ([v 8], [bx 1])) (fun nx v bx S =>
 optK (binA .lss (v 8) t7) fun t9 =>
 ifK t9
 (optK (idxSlA T_string (AV.strip t6) (v 8)) fun t11 =>
 optK (loadA T_string S t11) fun t12 =>
 callK Ca F_name_Right [(AV.strip (AV.strip t12))] S fun t14 S_2 =>
 optK (unA .not t14) fun t15 =>
 joinK (fun (x28 : AV) =>
 optK (pickA (AV.strip t15) (.bool true) x28) fun t29 =>
 ifK (AV.strip t29)
 (Q (.bool false) S_2)
 (optK (binA .add (v 8) (.int .i64 1)) fun t30 =>
 nx ([(AV.strip t30)], [(bx 1)]) S_2)) fun j_2 =>
 ifK (AV.strip t15)
 (j_2 (.tup []))
 (optK (binA .gtr (AV.strip (AV.strip (v 8))) (.int .i64 0)) fun t18 =>
 joinK (fun (x27 : AV) =>
 optK (pickA (AV.strip t18) x27 (.bool false)) fun t28 =>
 j_2 (AV.strip t28)) fun j =>
 gK (AV.strip t18)
 (optK (bx 1) fun _ =>
 optK (lloadA T_s_string (bx 1) 2) fun t21 =>
 optK (binA .sub (AV.strip (AV.strip (v 8))) (.int .i64 1)) fun t23 =>
 optK (idxSlA T_string (AV.strip t21) t23) fun t24 =>
 optK (loadA T_string S_2 t24) fun t25 =>
 optK (binA .geq (AV.strip t25) (AV.strip (AV.strip t12))) fun t27 =>
 j t27)
 (j (.tup []))
 (j (.tup []))))
 (j_3 (bx 1) S)) S0
theorem tree_names_eq (Ca) (a0a : Int) (a0b : Bool) (a0c : List (List AV)) (a0cr : Rt) (a0d : List (List AV)) (a0dr : Rt) (a0e : Int) (a0f : List (List AV)) (a0fr : Rt) (a0g : List UInt8) (S0 Q) : WF C Ca 115 (Drw C Ca 115) Tryd.f115 [(.agg [(.int .i64 a0a), (.bool a0b), (.vs 1 a0c a0cr), (.vs 7 a0d a0dr), (.int .i64 a0e), (.vs 2 a0f a0fr), (.str a0g)])] S0 Q = G_tree_names Ca a0a a0b a0c a0cr a0d a0dr a0e a0f a0fr a0g S0 Q := by kernel_rfl
theorem tree_names_ok {w0 : World} {a0a : Int} {a0b : Bool} {a0c : List (List AV)} {a0cr : Rt} {a0d : List (List AV)} {a0dr : Rt} {a0e : Int} {a0f : List (List AV)} {a0fr : Rt} {a0g : List UInt8} {S0 : St} {Q : AV → St → Prop} (h : G_tree_names (ACalls (En w0)) a0a a0b a0c a0cr a0d a0dr a0e a0f a0fr a0g S0 Q) : AC w0 F_tree_names [(.agg [(.int .i64 a0a), (.bool a0b), (.vs 1 a0c a0cr), (.vs 7 a0d a0dr), (.int .i64 a0e), (.vs 2 a0f a0fr), (.str a0g)])] S0 Q := fn_ok w0 Tryd.func115 (by kernel_rfl) (by rw [tree_names_eq]; exact h)
def G_cmp_isNaN_string (Ca : Nat → List AV → St → (AV → St → Prop) → Prop) (a0 : List UInt8) (S0 : St) (Q : AV → St → Prop) : Prop :=
 Q (.bool (!(a0 == a0))) S0
theorem cmp_isNaN_string_eq (Ca) (a0 : List UInt8) (S0 Q) : WF C Ca 116 (Drw C Ca 116) Tryd.f116 [(.str a0)] S0 Q = G_cmp_isNaN_string Ca a0 S0 Q := by kernel_rfl
theorem cmp_isNaN_string_ok {w0 : World} {a0 : List UInt8} {S0 : St} {Q : AV → St → Prop} (h : G_cmp_isNaN_string (ACalls (En w0)) a0 S0 Q) : AC w0 F_cmp_isNaN_string [(.str a0)] S0 Q := fn_ok w0 Tryd.func116 (by kernel_rfl) (by rw [cmp_isNaN_string_eq]; exact h)
def G_ref01_Less (Ca : Nat → List AV → St → (AV → St → Prop) → Prop) (a0 : List UInt8) (a1 : List UInt8) (S0 : St) (Q : AV → St → Prop) : Prop :=
 joinK (fun (S_2 : St) =>
 Q (.bool (decide ((List.length a0 : Int) < (List.length a1 : Int)))) S_2) fun j_2 =>
 loopQ ([(.int .i64 0)], []) (fun v bx => ([v 5], [])) (fun nx v bx S =>
 optK (binA .lss (AV.strip (v 5)) (.int .i64 (List.length a0 : Int))) fun t9 =>
 joinK (fun (x14 : AV) =>
 optK (pickA (AV.strip t9) x14 (.bool false)) fun t15 =>
 ifK (AV.strip t15)
 (optK (charA (.str a0) (AV.strip (v 5))) fun t20 =>
 optK (charA (.str a1) (AV.strip (v 5))) fun t23 =>
 optK (binA .neq t20 t23) fun t24 =>
 ifK t24
 (optK (charA (.str a0) (AV.strip (v 5))) fun t27 =>
 optK (charA (.str a1) (AV.strip (v 5))) fun t30 =>
 optK (binA .lss t27 t30) fun t31 =>
 Q t31 S)
 (optK (binA .add (AV.strip (v 5)) (.int .i64 1)) fun t17 =>
 nx ([t17], []) S))
 (j_2 S)) fun j =>
 ifK (AV.strip t9)
 (optK (binA .lss (AV.strip (v 5)) (.int .i64 (List.length a1 : Int))) fun t14 =>
 j t14)
 (j (.tup []))) S0
theorem ref01_Less_eq (Ca) (a0 : List UInt8) (a1 : List UInt8) (S0 Q) : WF C Ca 128 (Drw C Ca 128) Tryd.f128 [(.str a0), (.str a1)] S0 Q = G_ref01_Less Ca a0 a1 S0 Q := by kernel_rfl
theorem ref01_Less_ok {w0 : World} {a0 : List UInt8} {a1 : List UInt8} {S0 : St} {Q : AV → St → Prop} (h : G_ref01_Less (ACalls (En w0)) a0 a1 S0 Q) : AC w0 F_ref01_Less [(.str a0), (.str a1)] S0 Q := fn_ok w0 Tryd.func128 (by kernel_rfl) (by rw [ref01_Less_eq]; exact h)
def G_image_reader_number (Ca : Nat → List AV → St → (AV → St → Prop) → Prop) (a0 : Nat) (a0o : Nat) (a1 : Int) (S0 : St) (Q : AV → St → Prop) : Prop :=
 optK (loadA T_p_wire_Reader S0 (.ptr a0 (a0o + 0))) fun t11 =>
 callK Ca F_wire_Reader_Take [(AV.strip t11), (.int .i64 a1)] S0 fun t13 S =>
 optK (extractA t13 0) fun t14 =>
 optK (extractA (stripTup t13 0) 1) fun t15 =>
 optK (loadA T_bool S (.ptr a0 (a0o + 1))) fun t20 =>
 joinK (fun (x23 : AV) =>
 optK (pickA (AV.strip (AV.strip t20)) (.bool true) x23) fun t24 =>
 optK (storeA T_bool S (.ptr a0 (a0o + 1)) (AV.strip t24)) fun S_2 =>
 Q (AV.strip t14) S_2) fun j =>
 ifK (AV.strip (AV.strip t20))
 (j (.tup []))
 (optK (unA .not (AV.strip t15)) fun t23 =>
 j t23)
theorem image_reader_number_eq (Ca) (a0 : Nat) (a0o : Nat) (a1 : Int) (S0 Q) : WF C Ca 129 (Drw C Ca 129) Tryd.f129 [(.ptr a0 a0o), (.int .i64 a1)] S0 Q = G_image_reader_number Ca a0 a0o a1 S0 Q := by kernel_rfl
theorem image_reader_number_ok {w0 : World} {a0 : Nat} {a0o : Nat} {a1 : Int} {S0 : St} {Q : AV → St → Prop} (h : G_image_reader_number (ACalls (En w0)) a0 a0o a1 S0 Q) : AC w0 F_image_reader_number [(.ptr a0 a0o), (.int .i64 a1)] S0 Q := fn_ok w0 Tryd.func129 (by kernel_rfl) (by rw [image_reader_number_eq]; exact h)
end Go.Av
set_option linter.unusedVariables false
namespace Go.Av
open Go.Proofs
def G_image_reader_text (Ca : Nat → List AV → St → (AV → St → Prop) → Prop) (a0 : Nat) (a0o : Nat) (a1 : Int) (S0 : St) (Q : AV → St → Prop) : Prop :=
 optK (loadA T_p_wire_Reader S0 (.ptr a0 (a0o + 0))) fun t11 =>
 callK Ca F_wire_Reader_Text [(AV.strip t11), (.int .i64 a1)] S0 fun t13 S =>
 optK (extractA t13 0) fun t14 =>
 optK (extractA (stripTup t13 0) 1) fun t15 =>
 optK (loadA T_bool S (.ptr a0 (a0o + 1))) fun t20 =>
 joinK (fun (x23 : AV) =>
 optK (pickA (AV.strip (AV.strip t20)) (.bool true) x23) fun t24 =>
 optK (storeA T_bool S (.ptr a0 (a0o + 1)) (AV.strip t24)) fun S_2 =>
 Q (AV.strip t14) S_2) fun j =>
 ifK (AV.strip (AV.strip t20))
 (j (.tup []))
 (optK (unA .not (AV.strip t15)) fun t23 =>
 j t23)
theorem image_reader_text_eq (Ca) (a0 : Nat) (a0o : Nat) (a1 : Int) (S0 Q) : WF C Ca 130 (Drw C Ca 130) Tryd.f130 [(.ptr a0 a0o), (.int .i64 a1)] S0 Q = G_image_reader_text Ca a0 a0o a1 S0 Q := by kernel_rfl
theorem image_reader_text_ok {w0 : World} {a0 : Nat} {a0o : Nat} {a1 : Int} {S0 : St} {Q : AV → St → Prop} (h : G_image_reader_text (ACalls (En w0)) a0 a0o a1 S0 Q) : AC w0 F_image_reader_text [(.ptr a0 a0o), (.int .i64 a1)] S0 Q := fn_ok w0 Tryd.func130 (by kernel_rfl) (by rw [image_reader_text_eq]; exact h)
def G_wire_Reader_Take (Ca : Nat → List AV → St → (AV → St → Prop) → Prop) (a0 : Nat) (a0o : Nat) (a1 : Int) (S0 : St) (Q : AV → St → Prop) : Prop :=
 joinK (fun (x12 : AV) =>
 optK (pickA (.bool (decide (a1 < 1))) (.bool true) x12) fun t13 =>
 joinK (fun (x21 : AV) =>
 optK (pickA (AV.strip (AV.strip t13)) (.bool true) x21) fun t22 =>
 ifK (AV.strip t22)
 (Q (.tup [(.int .i64 0), (.bool false)]) S0)
 (joinK (fun (x6 : AV) (S_2 : St) =>
 optK (loadA T_string S_2 (.ptr a0 (a0o + 0))) fun t42 =>
 optK (cutStrA (AV.strip0 t42) (some (.int .i64 a1)) none) fun t44 =>
 optK (storeA T_string (stripMem S_2 (.ptr a0 (a0o + 0))) (.ptr a0 (a0o + 0)) t44) fun S_3 =>
 Q (.tup [(AV.flat (AV.strip x6)), (.bool true)]) S_3) fun j_3 =>
 loopQ ([(.int .i64 0), (.int .i64 0)], []) (fun v bx => ([v 6, v 24], [])) (fun nx v bx S =>
 optK (binA .lss (v 24) (.int .i64 a1)) fun t25 =>
 ifK t25
 (optK (binA .shl (AV.strip (v 6)) (.int .u64 8)) fun t28 =>
 optK (loadA T_string S (.ptr a0 (a0o + 0))) fun t32 =>
 optK (charA (AV.strip t32) (AV.strip (AV.strip (v 24)))) fun t34 =>
 optK (convIntA .i64 t34) fun t35 =>
 optK (binA .or t28 t35) fun t36 =>
 optK (binA .add (v 24) (.int .i64 1)) fun t37 =>
 nx ([t36, (AV.strip t37)], []) S)
 (j_3 (v 6) S)) S0)) fun j =>
 ifK (AV.strip (AV.strip t13))
 (j (.tup []))
 (optK (loadA T_string S0 (.ptr a0 (a0o + 0))) fun t19 =>
 optK (lenStrA (AV.strip t19)) fun t20 =>
 optK (binA .gtr (.int .i64 a1) t20) fun t21 =>
 j t21)) fun j_2 =>
 ifK (.bool (decide (a1 < 1)))
 (j_2 (.tup []))
 (j_2 (.bool (decide (a1 > 4))))
theorem wire_Reader_Take_eq (Ca) (a0 : Nat) (a0o : Nat) (a1 : Int) (S0 Q) : WF C Ca 142 (Drw C Ca 142) Tryd.f142 [(.ptr a0 a0o), (.int .i64 a1)] S0 Q = G_wire_Reader_Take Ca a0 a0o a1 S0 Q := by kernel_rfl
theorem wire_Reader_Take_ok {w0 : World} {a0 : Nat} {a0o : Nat} {a1 : Int} {S0 : St} {Q : AV → St → Prop} (h : G_wire_Reader_Take (ACalls (En w0)) a0 a0o a1 S0 Q) : AC w0 F_wire_Reader_Take [(.ptr a0 a0o), (.int .i64 a1)] S0 Q := fn_ok w0 Tryd.func142 (by kernel_rfl) (by rw [wire_Reader_Take_eq]; exact h)
def G_wire_Reader_Text (Ca : Nat → List AV → St → (AV → St → Prop) → Prop) (a0 : Nat) (a0o : Nat) (a1 : Int) (S0 : St) (Q : AV → St → Prop) : Prop :=
 optK (loadA T_string S0 (.ptr a0 (a0o + 0))) fun t13 =>
 Ca F_wire_Reader_Take [(.ptr a0 a0o), (.int .i64 a1)] S0 fun t17 S =>
 optK (extractA t17 0) fun t18 =>
 optK (extractA (stripTup t17 0) 1) fun t19 =>
 optK (unA .not (AV.strip t19)) fun t21 =>
 joinK (fun (x29 : AV) =>
 optK (pickA (AV.strip t21) (.bool true) x29) fun t30 =>
 ifK (AV.strip t30)
 (optK (storeA T_string S (.ptr a0 (a0o + 0)) (AV.strip (AV.strip t13))) fun S_2 =>
 Q (.tup [(.str []), (.bool false)]) S_2)
 (optK (loadA T_string S (.ptr a0 (a0o + 0))) fun t38 =>
 optK (cutStrA (AV.strip0 t38) none (some (AV.strip t18))) fun t40 =>
 optK (loadA T_string (stripMem S (.ptr a0 (a0o + 0))) (.ptr a0 (a0o + 0))) fun t45 =>
 optK (cutStrA (AV.strip0 t45) (some (AV.strip t18)) none) fun t47 =>
 optK (storeA T_string (stripMem (stripMem S (.ptr a0 (a0o + 0))) (.ptr a0 (a0o + 0))) (.ptr a0 (a0o + 0)) t47) fun S_3 =>
 Q (.tup [(AV.flat (AV.strip t40)), (.bool true)]) S_3)) fun j =>
 ifK (AV.strip t21)
 (j (.tup []))
 (optK (loadA T_string S (.ptr a0 (a0o + 0))) fun t27 =>
 optK (lenStrA (AV.strip t27)) fun t28 =>
 optK (binA .gtr (AV.strip t18) t28) fun t29 =>
 j t29)
theorem wire_Reader_Text_eq (Ca) (a0 : Nat) (a0o : Nat) (a1 : Int) (S0 Q) : WF C Ca 143 (Drw C Ca 143) Tryd.f143 [(.ptr a0 a0o), (.int .i64 a1)] S0 Q = G_wire_Reader_Text Ca a0 a0o a1 S0 Q := by kernel_rfl
theorem wire_Reader_Text_ok {w0 : World} {a0 : Nat} {a0o : Nat} {a1 : Int} {S0 : St} {Q : AV → St → Prop} (h : G_wire_Reader_Text (ACalls (En w0)) a0 a0o a1 S0 Q) : AC w0 F_wire_Reader_Text [(.ptr a0 a0o), (.int .i64 a1)] S0 Q := fn_ok w0 Tryd.func143 (by kernel_rfl) (by rw [wire_Reader_Text_eq]; exact h)
end Go.Av
