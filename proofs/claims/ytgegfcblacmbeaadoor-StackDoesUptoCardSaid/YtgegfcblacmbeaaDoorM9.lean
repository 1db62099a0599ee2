/- Parts of the proofs of this seat: abstract values over the model, and what the functions of the program do. No condition. -/
import Derived.Test.YtgegfcblacmbeaaDoorM8
set_option linter.all false
set_option linter.unusedVariables false
namespace Go.Av
open Go.Proofs
def G_ref04_entries (Ca : Nat → List AV → St → (AV → St → Prop) → Prop) (a0a : Int) (a0b : Bool) (a0c : List (List AV)) (a0cr : Rt) (a0d : List (List AV)) (a0dr : Rt) (a0e : Int) (a0f : List (List AV)) (a0fr : Rt) (a0g : List UInt8) (S0 : St) (Q : AV → St → Prop) : Prop :=
 optK (boxA T_api_Node (.agg [(.int .i64 a0a), (.bool a0b), (.vs 1 a0c a0cr), (.vs 7 a0d a0dr), (.int .i64 a0e), (.vs 2 a0f a0fr), (.str a0g)])) fun c1 =>
 optK (some c1) fun _ =>
 optK (lloadA T_s_string (some c1) 2) fun t5 =>
 optK (lenSlA (AV.strip t5)) fun t6 =>
 optK (some c1) fun _ =>
 optK (lloadA T_s_api_Node (some c1) 3) fun t8 =>
 optK (lenSlA (AV.strip t8)) fun t9 =>
 optK (binA .neq t6 t9) fun t10 =>
 ifK t10
 (Q (.bool false) S0)
 (joinK (fun (S_6 : St) =>
 Q (.bool true) S_6) fun j_3 =>
 loopQ ([(.int .i64 0)], [(some c1)]) (fun v bx => ([v 3], [bx 1])) (fun nx v bx S =>
 optK (bx 1) fun _ =>
 optK (lloadA T_s_string (bx 1) 2) fun t13 =>
 optK (lenSlA (AV.strip t13)) fun t14 =>
 optK (binA .lss (AV.strip (v 3)) t14) fun t15 =>
 ifK t15
 (optK (bx 1) fun _ =>
 optK (lloadA T_s_string (bx 1) 2) fun t19 =>
 optK (idxSlA T_string (AV.strip t19) (AV.strip (v 3))) fun t21 =>
 optK (loadA T_string S t21) fun t22 =>
 callK Ca F_ref01_Right [(AV.strip t22)] S fun t23 S_2 =>
 optK (unA .not t23) fun t24 =>
 joinK (fun (x42 : AV) (S_5 : St) =>
 optK (pickA (AV.strip t24) (.bool true) x42) fun t43 =>
 ifK (AV.strip t43)
 (Q (.bool false) S_5)
 (optK (binA .add (AV.strip (v 3)) (.int .i64 1)) fun t17 =>
 nx ([t17], [(bx 1)]) S_5)) fun j_2 =>
 ifK (AV.strip t24)
 (j_2 (.tup []) S_2)
 (optK (binA .gtr (AV.strip (v 3)) (.int .i64 0)) fun t27 =>
 joinK (fun (x41 : AV) (S_4 : St) =>
 optK (pickA (AV.strip t27) x41 (.bool false)) fun t42 =>
 j_2 (AV.strip t42) S_4) fun j =>
 gK (AV.strip t27)
 (optK (bx 1) fun _ =>
 optK (lloadA T_s_string (bx 1) 2) fun t30 =>
 optK (binA .sub (AV.strip (v 3)) (.int .i64 1)) fun t32 =>
 optK (idxSlA T_string (AV.strip t30) t32) fun t33 =>
 optK (loadA T_string S_2 t33) fun t34 =>
 optK (bx 1) fun _ =>
 optK (lloadA T_s_string (bx 1) 2) fun t36 =>
 optK (idxSlA T_string (AV.strip t36) (AV.strip (v 3))) fun t38 =>
 optK (loadA T_string S_2 t38) fun t39 =>
 callK Ca F_ref01_Less [(AV.strip t34), (AV.strip t39)] S_2 fun t40 S_3 =>
 optK (unA .not t40) fun t41 =>
 j t41 S_3)
 (j (.tup []) S_2)
 (j (.tup []) S_2)))
 (j_3 S)) S0)
theorem ref04_entries_eq (Ca) (a0a : Int) (a0b : Bool) (a0c : List (List AV)) (a0cr : Rt) (a0d : List (List AV)) (a0dr : Rt) (a0e : Int) (a0f : List (List AV)) (a0fr : Rt) (a0g : List UInt8) (S0 Q) : WF C Ca 80 (Drw C Ca 80) Tryd.f80 [(.agg [(.int .i64 a0a), (.bool a0b), (.vs 1 a0c a0cr), (.vs 7 a0d a0dr), (.int .i64 a0e), (.vs 2 a0f a0fr), (.str a0g)])] S0 Q = G_ref04_entries Ca a0a a0b a0c a0cr a0d a0dr a0e a0f a0fr a0g S0 Q := by kernel_rfl
theorem ref04_entries_ok {w0 : World} {a0a : Int} {a0b : Bool} {a0c : List (List AV)} {a0cr : Rt} {a0d : List (List AV)} {a0dr : Rt} {a0e : Int} {a0f : List (List AV)} {a0fr : Rt} {a0g : List UInt8} {S0 : St} {Q : AV → St → Prop} (h : G_ref04_entries (ACalls (En w0)) a0a a0b a0c a0cr a0d a0dr a0e a0f a0fr a0g S0 Q) : AC w0 F_ref04_entries [(.agg [(.int .i64 a0a), (.bool a0b), (.vs 1 a0c a0cr), (.vs 7 a0d a0dr), (.int .i64 a0e), (.vs 2 a0f a0fr), (.str a0g)])] S0 Q := fn_ok w0 Tryd.func80 (by kernel_rfl) (by rw [ref04_entries_eq]; exact h)
def G_slices_BinarySearch_s_string_string (Ca : Nat → List AV → St → (AV → St → Prop) → Prop) (a0 : List (List AV)) (a0r : Rt) (a1 : List UInt8) (S0 : St) (Q : AV → St → Prop) : Prop :=
 joinK (fun (x7 : AV) (S_3 : St) =>
 optK (binA .lss (AV.strip x7) (.int .i64 (List.length a0 : Int))) fun t34 =>
 joinK (fun (x52 : AV) (S_8 : St) =>
 optK (pickA (AV.strip t34) x52 (.bool false)) fun t53 =>
 Q (.tup [(AV.flat (AV.strip x7)), (AV.flat (AV.strip t53))]) S_8) fun j_3 =>
 ifK (AV.strip t34)
 (optK (idxSlA T_string (.vs 1 a0 (Rt.strip a0r)) (AV.strip x7)) fun t38 =>
 optK (loadA T_string S_3 t38) fun t39 =>
 optK (binA .eql (AV.strip t39) (.str a1)) fun t41 =>
 joinK (fun (x51 : AV) (S_7 : St) =>
 optK (pickA (AV.strip t41) (.bool true) x51) fun t52 =>
 j_3 (AV.strip t52) S_7) fun j_2 =>
 gK (AV.strip t41)
 (j_2 (.tup []) S_3)
 (optK (idxSlA T_string (.vs 1 a0 (Rt.strip a0r)) (AV.strip x7)) fun t45 =>
 optK (loadA T_string S_3 t45) fun t46 =>
 callK Ca F_slices_isNaN_string [(AV.strip t46)] S_3 fun t47 S_4 =>
 joinK (fun (x50 : AV) (S_6 : St) =>
 optK (pickA (AV.strip t47) x50 (.bool false)) fun t51 =>
 j_2 (AV.strip t51) S_6) fun j =>
 gK (AV.strip t47)
 (Ca F_slices_isNaN_string [(.str a1)] S_4 fun t50 S_5 =>
 j t50 S_5)
 (j (.tup []) S_4)
 (j (.tup []) S_4))
 (j_2 (.tup []) S_3))
 (j_3 (.tup []) S_3)) fun j_4 =>
 loopQ ([(.int .i64 0), (.int .i64 (List.length a0 : Int))], []) (fun v bx => ([v 7, v 8], [])) (fun nx v bx S =>
 optK (binA .lss (AV.strip (v 7)) (AV.strip (v 8))) fun t15 =>
 ifK t15
 (optK (binA .add (AV.strip (v 7)) (AV.strip (v 8))) fun t18 =>
 optK (convIntA .u64 t18) fun t19 =>
 optK (binA .shr t19 (.int .u64 1)) fun t20 =>
 optK (convIntA .i64 t20) fun t21 =>
 optK (idxSlA T_string (.vs 1 a0 (Rt.strip a0r)) (AV.strip t21)) fun t24 =>
 optK (loadA T_string S t24) fun t25 =>
 callK Ca F_cmp_Less_string [(AV.strip t25), (.str a1)] S fun t27 S_2 =>
 ifK t27
 (optK (binA .add (AV.strip t21) (.int .i64 1)) fun t29 =>
 nx ([t29, (v 8)], []) S_2)
 (nx ([(v 7), (AV.strip t21)], []) S_2))
 (j_4 (v 7) S)) S0
theorem slices_BinarySearch_s_string_string_eq (Ca) (a0 : List (List AV)) (a0r : Rt) (a1 : List UInt8) (S0 Q) : WF C Ca 81 (Drw C Ca 81) Tryd.f81 [(.vs 1 a0 a0r), (.str a1)] S0 Q = G_slices_BinarySearch_s_string_string Ca a0 a0r a1 S0 Q := by kernel_rfl
theorem slices_BinarySearch_s_string_string_ok {w0 : World} {a0 : List (List AV)} {a0r : Rt} {a1 : List UInt8} {S0 : St} {Q : AV → St → Prop} (h : G_slices_BinarySearch_s_string_string (ACalls (En w0)) a0 a0r a1 S0 Q) : AC w0 F_slices_BinarySearch_s_string_string [(.vs 1 a0 a0r), (.str a1)] S0 Q := fn_ok w0 Tryd.func81 (by kernel_rfl) (by rw [slices_BinarySearch_s_string_string_eq]; exact h)
def G_extent_Of (Ca : Nat → List AV → St → (AV → St → Prop) → Prop) (a0 : List UInt8) (S0 : St) (Q : AV → St → Prop) : Prop :=
 joinK (fun (x3_2 : AV) (S_4 : St) =>
 Q (AV.strip x3_2) S_4) fun j_4 =>
 loopQ ([(.str a0), (.vs 2 [] .nil), (.int .i64 0)], []) (fun v bx => ([v 0, v 3, v 4], [])) (fun nx v bx S =>
 optK (lenStrA (AV.strip (v 0))) fun t8 =>
 optK (binA .lss (AV.strip (v 4)) t8) fun t9 =>
 ifK t9
 (joinK (fun (x5 : AV) (S_3 : St) =>
 joinK (fun (x0 : AV) (x3 : AV) =>
 optK (binA .add (AV.strip x5) (.int .i64 1)) fun t36 =>
 nx ([x0, x3, t36], []) S_3) fun j_2 =>
 optK (binA .gtr (AV.strip x5) (AV.strip (v 4))) fun t25 =>
 ifK t25
 (optK (cutStrA (v 0) (some (AV.strip (v 4))) (some (AV.strip x5))) fun t31 =>
 optK (buildA T_api_Extent 1 [(0, (AV.strip (v 4))), (1, t31)]) fun t32 =>
 optK (elemVals 2 [t32]) fun e33 =>
 optK (appendA T_api_Extent S_3 (v 3) (.vs 2 e33 .full)) fun t34 =>
 j_2 (AV.strip (v 0)) t34)
 (j_2 (v 0) (v 3))) fun j_3 =>
 loopQ ([(AV.strip (v 4))], []) (fun v_2 bx_2 => ([v_2 5], [])) (fun nx_2 v_2 bx_2 S_2 =>
 optK (lenStrA (AV.strip (v 0))) fun t13 =>
 optK (binA .lss (AV.strip (v_2 5)) t13) fun t14 =>
 joinK (fun (x19 : AV) =>
 optK (pickA (AV.strip t14) x19 (.bool false)) fun t20 =>
 ifK (AV.strip t20)
 (optK (binA .add (AV.strip (v_2 5)) (.int .i64 1)) fun t22 =>
 nx_2 ([t22], []) S_2)
 (j_3 (v_2 5) S_2)) fun j =>
 ifK (AV.strip t14)
 (optK (charA (AV.strip (v 0)) (AV.strip (v_2 5))) fun t18 =>
 optK (binA .neq t18 (.int .u8 0)) fun t19 =>
 j t19)
 (j (.tup []))) S)
 (j_4 (v 3) S)) S0
theorem extent_Of_eq (Ca) (a0 : List UInt8) (S0 Q) : WF C Ca 82 (Drw C Ca 82) Tryd.f82 [(.str a0)] S0 Q = G_extent_Of Ca a0 S0 Q := by kernel_rfl
theorem extent_Of_ok {w0 : World} {a0 : List UInt8} {S0 : St} {Q : AV → St → Prop} (h : G_extent_Of (ACalls (En w0)) a0 S0 Q) : AC w0 F_extent_Of [(.str a0)] S0 Q := fn_ok w0 Tryd.func82 (by kernel_rfl) (by rw [extent_Of_eq]; exact h)
def G_ref03_At (Ca : Nat → List AV → St → (AV → St → Prop) → Prop) (a0 : List (List AV)) (a0r : Rt) (a1 : Int) (S0 : St) (Q : AV → St → Prop) : Prop :=
 joinK (fun (S_2 : St) =>
 Q (.int .u8 0) S_2) fun j_2 =>
 loopQ ([(.int .i64 0)], []) (fun v bx => ([v 5], [])) (fun nx v bx S =>
 optK (binA .lss (AV.strip (v 5)) (.int .i64 (List.length a0 : Int))) fun t9 =>
 ifK t9
 (optK (idxSlA T_api_Extent (.vs 2 a0 (Rt.strip a0r)) (AV.strip (v 5))) fun t15 =>
 optK (movePtr t15 0) fun t16 =>
 optK (loadA T_int S t16) fun t17 =>
 optK (binA .geq (.int .i64 a1) (AV.strip t17)) fun t18 =>
 joinK (fun (x33 : AV) =>
 optK (pickA (AV.strip t18) x33 (.bool false)) fun t34 =>
 ifK (AV.strip t34)
 (optK (idxSlA T_api_Extent (.vs 2 a0 (Rt.strip a0r)) (AV.strip (v 5))) fun t37 =>
 optK (movePtr t37 1) fun t38 =>
 optK (loadA T_string S t38) fun t39 =>
 optK (idxSlA T_api_Extent (.vs 2 a0 (Rt.strip a0r)) (AV.strip (v 5))) fun t43 =>
 optK (movePtr t43 0) fun t44 =>
 optK (loadA T_int S t44) fun t45 =>
 optK (binA .sub (.int .i64 a1) (AV.strip t45)) fun t46 =>
 optK (charA (AV.strip t39) t46) fun t47 =>
 Q t47 S)
 (optK (binA .add (AV.strip (v 5)) (.int .i64 1)) fun t11 =>
 nx ([t11], []) S)) fun j =>
 ifK (AV.strip t18)
 (optK (idxSlA T_api_Extent (.vs 2 a0 (Rt.strip a0r)) (AV.strip (v 5))) fun t23 =>
 optK (movePtr t23 0) fun t24 =>
 optK (loadA T_int S t24) fun t25 =>
 optK (idxSlA T_api_Extent (.vs 2 a0 (Rt.strip a0r)) (AV.strip (v 5))) fun t28 =>
 optK (movePtr t28 1) fun t29 =>
 optK (loadA T_string S t29) fun t30 =>
 optK (lenStrA (AV.strip t30)) fun t31 =>
 optK (binA .add (AV.strip t25) t31) fun t32 =>
 optK (binA .lss (.int .i64 a1) t32) fun t33 =>
 j t33)
 (j (.tup [])))
 (j_2 S)) S0
theorem ref03_At_eq (Ca) (a0 : List (List AV)) (a0r : Rt) (a1 : Int) (S0 Q) : WF C Ca 83 (Drw C Ca 83) Tryd.f83 [(.vs 2 a0 a0r), (.int .i64 a1)] S0 Q = G_ref03_At Ca a0 a0r a1 S0 Q := by kernel_rfl
theorem ref03_At_ok {w0 : World} {a0 : List (List AV)} {a0r : Rt} {a1 : Int} {S0 : St} {Q : AV → St → Prop} (h : G_ref03_At (ACalls (En w0)) a0 a0r a1 S0 Q) : AC w0 F_ref03_At [(.vs 2 a0 a0r), (.int .i64 a1)] S0 Q := fn_ok w0 Tryd.func83 (by kernel_rfl) (by rw [ref03_At_eq]; exact h)
def G_image_put (Ca : Nat → List AV → St → (AV → St → Prop) → Prop) (a0 : AV) (a1a : Int) (a1b : Bool) (a1c : List (List AV)) (a1cr : Rt) (a1d : List (List AV)) (a1dr : Rt) (a1e : Int) (a1f : List (List AV)) (a1fr : Rt) (a1g : List UInt8) (S0 : St) (Q : AV → St → Prop) : Prop :=
 optK (boxA T_api_Node (.agg [(.int .i64 a1a), (.bool a1b), (.vs 1 a1c a1cr), (.vs 7 a1d a1dr), (.int .i64 a1e), (.vs 2 a1f a1fr), (.str a1g)])) fun c3 =>
 optK (some c3) fun _ =>
 optK (lloadA T_int (some c3) 0) fun t11 =>
 callK Ca F_wire_Writer_Put [(AV.strip a0), (AV.strip t11), (.int .i64 1)] S0 fun t12 S =>
 optK (some c3) fun _ =>
 optK (lloadA T_int (some c3) 0) fun t14 =>
 optK (binA .eql (AV.strip t14) (.int .i64 1)) fun t16 =>
 ifK t16
 (optK (some c3) fun _ =>
 optK (lloadA T_int (some c3) 4) fun t19 =>
 callK Ca F_wire_Writer_Put [(AV.strip a0), (AV.strip t19), (.int .i64 4)] S fun t20 S_2 =>
 optK (some c3) fun _ =>
 optK (lloadA T_s_api_Extent (some c3) 5) fun t23 =>
 optK (lenSlA (AV.strip t23)) fun t24 =>
 callK Ca F_wire_Writer_Put [(AV.strip a0), t24, (.int .i64 4)] S_2 fun t25 S_3 =>
 optK (some c3) fun _ =>
 optK (lloadA T_s_api_Extent (some c3) 5) fun t27 =>
 optK (lenSlA (AV.strip t27)) fun t28 =>
 loopQ ([(.int .i64 0)], []) (fun v bx => ([v 29], [])) (fun nx v bx S_4 =>
 optK (binA .lss (v 29) t28) fun t30 =>
 ifK t30
 (optK (idxSlA T_api_Extent (AV.strip t27) (v 29)) fun t31 =>
 optK (loadA T_api_Extent S_4 t31) fun t32 =>
 optK (lstoreA T_api_Extent (some [(.int .i64 0), (.str [])]) 0 (AV.strip t32)) fun b5 =>
 optK (some b5) fun _ =>
 optK (lloadA T_int (some b5) 0) fun t35 =>
 callK Ca F_wire_Writer_Put [(AV.strip a0), (AV.strip t35), (.int .i64 4)] S_4 fun t36 S_5 =>
 optK (some b5) fun _ =>
 optK (lloadA T_string (some b5) 1) fun t39 =>
 callK Ca F_wire_Writer_Text [(AV.strip a0), (AV.strip t39), (.int .i64 4)] S_5 fun t40 S_6 =>
 optK (binA .add (v 29) (.int .i64 1)) fun t41 =>
 nx ([(AV.strip t41)], []) S_6)
 (Q (.tup []) S_4)) S_3)
 (optK (binA .eql (AV.strip t14) (.int .i64 2)) fun t43 =>
 ifK t43
 (joinK (fun (x6 : AV) =>
 callK Ca F_wire_Writer_Put [(AV.strip a0), (AV.strip x6), (.int .i64 1)] S fun t48 S_7 =>
 optK (some c3) fun _ =>
 optK (lloadA T_s_string (some c3) 2) fun t51 =>
 optK (lenSlA (AV.strip t51)) fun t52 =>
 callK Ca F_wire_Writer_Put [(AV.strip a0), t52, (.int .i64 2)] S_7 fun t53 S_8 =>
 optK (some c3) fun _ =>
 optK (lloadA T_s_string (some c3) 2) fun t55 =>
 optK (lenSlA (AV.strip t55)) fun t56 =>
 loopQ ([(.int .i64 0)], [(some c3)]) (fun v_2 bx_2 => ([v_2 57], [bx_2 3])) (fun nx_2 v_2 bx_2 S_9 =>
 optK (binA .lss (v_2 57) t56) fun t58 =>
 ifK t58
 (optK (idxSlA T_string (AV.strip t55) (v_2 57)) fun t60 =>
 optK (loadA T_string S_9 t60) fun t61 =>
 callK Ca F_wire_Writer_Text [(AV.strip a0), (AV.strip (AV.strip t61)), (.int .i64 1)] S_9 fun t64 S_10 =>
 optK (bx_2 3) fun _ =>
 optK (lloadA T_s_api_Node (bx_2 3) 3) fun t67 =>
 optK (idxSlA T_api_Node (AV.strip t67) (AV.strip (AV.strip (v_2 57)))) fun t69 =>
 optK (loadA T_api_Node S_10 t69) fun t70 =>
 callK Ca F_image_put [(AV.strip a0), (AV.strip t70)] S_10 fun t71 S_11 =>
 optK (binA .add (v_2 57) (.int .i64 1)) fun t72 =>
 nx_2 ([(AV.strip t72)], [(bx_2 3)]) S_11)
 (Q (.tup []) S_9)) S_8) fun j =>
 optK (some c3) fun _ =>
 optK (lloadA T_bool (some c3) 1) fun t45 =>
 ifK (AV.strip t45)
 (j (.int .i64 1))
 (j (.int .i64 0)))
 (optK (binA .eql (AV.strip t14) (.int .i64 3)) fun t74 =>
 ifK t74
 (optK (some c3) fun _ =>
 optK (lloadA T_string (some c3) 6) fun t77 =>
 callK Ca F_wire_Writer_Text [(AV.strip a0), (AV.strip t77), (.int .i64 2)] S fun t78 S_12 =>
 Q (.tup []) S_12)
 (Q (.tup []) S)))
theorem image_put_eq (Ca) (a0 : AV) (a1a : Int) (a1b : Bool) (a1c : List (List AV)) (a1cr : Rt) (a1d : List (List AV)) (a1dr : Rt) (a1e : Int) (a1f : List (List AV)) (a1fr : Rt) (a1g : List UInt8) (S0 Q) : WF C Ca 84 (Drw C Ca 84) Tryd.f84 [a0, (.agg [(.int .i64 a1a), (.bool a1b), (.vs 1 a1c a1cr), (.vs 7 a1d a1dr), (.int .i64 a1e), (.vs 2 a1f a1fr), (.str a1g)])] S0 Q = G_image_put Ca a0 a1a a1b a1c a1cr a1d a1dr a1e a1f a1fr a1g S0 Q := by kernel_rfl
theorem image_put_ok {w0 : World} {a0 : AV} {a1a : Int} {a1b : Bool} {a1c : List (List AV)} {a1cr : Rt} {a1d : List (List AV)} {a1dr : Rt} {a1e : Int} {a1f : List (List AV)} {a1fr : Rt} {a1g : List UInt8} {S0 : St} {Q : AV → St → Prop} (h : G_image_put (ACalls (En w0)) a0 a1a a1b a1c a1cr a1d a1dr a1e a1f a1fr a1g S0 Q) : AC w0 F_image_put [a0, (.agg [(.int .i64 a1a), (.bool a1b), (.vs 1 a1c a1cr), (.vs 7 a1d a1dr), (.int .i64 a1e), (.vs 2 a1f a1fr), (.str a1g)])] S0 Q := fn_ok w0 Tryd.func84 (by kernel_rfl) (by rw [image_put_eq]; exact h)
def G_wire_Writer_Bytes (Ca : Nat → List AV → St → (AV → St → Prop) → Prop) (a0 : Nat) (a0o : Nat) (S0 : St) (Q : AV → St → Prop) : Prop :=
 optK (loadA T_s_uint8 S0 (.ptr a0 (a0o + 0))) fun t6 =>
 optK (convBytesA S0 (AV.strip t6)) fun t7 =>
 Q t7 S0
theorem wire_Writer_Bytes_eq (Ca) (a0 : Nat) (a0o : Nat) (S0 Q) : WF C Ca 85 (Drw C Ca 85) Tryd.f85 [(.ptr a0 a0o)] S0 Q = G_wire_Writer_Bytes Ca a0 a0o S0 Q := by kernel_rfl
theorem wire_Writer_Bytes_ok {w0 : World} {a0 : Nat} {a0o : Nat} {S0 : St} {Q : AV → St → Prop} (h : G_wire_Writer_Bytes (ACalls (En w0)) a0 a0o S0 Q) : AC w0 F_wire_Writer_Bytes [(.ptr a0 a0o)] S0 Q := fn_ok w0 Tryd.func85 (by kernel_rfl) (by rw [wire_Writer_Bytes_eq]; exact h)
def G_ref05_Put (Ca : Nat → List AV → St → (AV → St → Prop) → Prop) (a0a : Int) (a0b : Bool) (a0c : List (List AV)) (a0cr : Rt) (a0d : List (List AV)) (a0dr : Rt) (a0e : Int) (a0f : List (List AV)) (a0fr : Rt) (a0g : List UInt8) (S0 : St) (Q : AV → St → Prop) : Prop :=
 optK (boxA T_api_Node (.agg [(.int .i64 a0a), (.bool a0b), (.vs 1 a0c a0cr), (.vs 7 a0d a0dr), (.int .i64 a0e), (.vs 2 a0f a0fr), (.str a0g)])) fun c1 =>
 optK (some c1) fun _ =>
 optK (lloadA T_int (some c1) 0) fun t8 =>
 callK Ca F_ref02_Put [(.str []), (AV.strip t8), (.int .i64 1)] S0 fun t9 S =>
 joinK (fun (x3 : AV) (y1 : Option (List AV)) (S_7 : St) =>
 joinK (fun (x3_2 : AV) (y1_2 : Option (List AV)) (S_13 : St) =>
 joinK (fun (x3_3 : AV) (S_15 : St) =>
 Q (AV.strip x3_3) S_15) fun j_2 =>
 optK y1_2 fun _ =>
 optK (lloadA T_int y1_2 0) fun t77 =>
 optK (binA .eql (AV.strip t77) (.int .i64 3)) fun t78 =>
 ifK t78
 (optK y1_2 fun _ =>
 optK (lloadA T_string y1_2 6) fun t81 =>
 callK Ca F_ref05_text [(AV.strip x3_2), (AV.strip t81), (.int .i64 2)] S_13 fun t82 S_14 =>
 j_2 t82 S_14)
 (j_2 x3_2 S_13)) fun j_3 =>
 optK y1 fun _ =>
 optK (lloadA T_int y1 0) fun t44 =>
 optK (binA .eql (AV.strip t44) (.int .i64 2)) fun t45 =>
 ifK t45
 (joinK (fun (x5 : AV) =>
 optK y1 fun _ =>
 optK (lloadA T_s_string y1 2) fun t52 =>
 optK (lenSlA (AV.strip t52)) fun t53 =>
 callK Ca F_ref02_Put [(AV.strip x3), (AV.strip x5), (.int .i64 1)] S_7 fun t50 S_8 =>
 callK Ca F_ref02_Put [t50, t53, (.int .i64 2)] S_8 fun t54 S_9 =>
 loopQ ([t54, (.int .i64 0)], [y1]) (fun v_2 bx_2 => ([v_2 3, v_2 6], [bx_2 1])) (fun nx_2 v_2 bx_2 S_10 =>
 optK (bx_2 1) fun _ =>
 optK (lloadA T_s_string (bx_2 1) 2) fun t57 =>
 optK (lenSlA (AV.strip t57)) fun t58 =>
 optK (binA .lss (AV.strip (v_2 6)) t58) fun t59 =>
 ifK t59
 (optK (bx_2 1) fun _ =>
 optK (lloadA T_s_string (bx_2 1) 2) fun t64 =>
 optK (idxSlA T_string (AV.strip t64) (AV.strip (v_2 6))) fun t66 =>
 optK (loadA T_string S_10 t66) fun t67 =>
 optK (bx_2 1) fun _ =>
 optK (lloadA T_s_api_Node (bx_2 1) 3) fun t70 =>
 optK (idxSlA T_api_Node (AV.strip t70) (AV.strip (v_2 6))) fun t72 =>
 optK (loadA T_api_Node S_10 t72) fun t73 =>
 callK Ca F_ref05_text [(AV.strip (v_2 3)), (AV.strip t67), (.int .i64 1)] S_10 fun t68 S_11 =>
 (optK (loadA T_api_Node S_11 t72) fun t73_2 =>
 ((AV.strip t73_2) : AV) = (AV.strip t73)) ∧
 (callK Ca F_ref05_Put [(AV.strip t73)] S_11 fun t74 S_12 =>
 optK (binA .add t68 t74) fun t75 =>
 optK (binA .add (AV.strip (v_2 6)) (.int .i64 1)) fun t61 =>
 nx_2 ([t75, t61], [(bx_2 1)]) S_12))
 (j_3 (v_2 3) (bx_2 1) S_10)) S_9) fun j =>
 optK y1 fun _ =>
 optK (lloadA T_bool y1 1) fun t47 =>
 ifK (AV.strip t47)
 (j (.int .i64 1))
 (j (.int .i64 0)))
 (j_3 x3 y1 S_7)) fun j_4 =>
 optK (some c1) fun _ =>
 optK (lloadA T_int (some c1) 0) fun t11 =>
 optK (binA .eql (AV.strip t11) (.int .i64 1)) fun t12 =>
 ifK t12
 (optK (some c1) fun _ =>
 optK (lloadA T_int (some c1) 4) fun t15 =>
 optK (some c1) fun _ =>
 optK (lloadA T_s_api_Extent (some c1) 5) fun t18 =>
 optK (lenSlA (AV.strip t18)) fun t19 =>
 callK Ca F_ref02_Put [(AV.strip t9), (AV.strip t15), (.int .i64 4)] S fun t16 S_2 =>
 callK Ca F_ref02_Put [t16, t19, (.int .i64 4)] S_2 fun t20 S_3 =>
 loopQ ([t20, (.int .i64 0)], [(some c1)]) (fun v bx => ([v 3, v 4], [bx 1])) (fun nx v bx S_4 =>
 optK (bx 1) fun _ =>
 optK (lloadA T_s_api_Extent (bx 1) 5) fun t23 =>
 optK (lenSlA (AV.strip t23)) fun t24 =>
 optK (binA .lss (AV.strip (v 4)) t24) fun t25 =>
 ifK t25
 (optK (bx 1) fun _ =>
 optK (lloadA T_s_api_Extent (bx 1) 5) fun t30 =>
 optK (idxSlA T_api_Extent (AV.strip t30) (AV.strip (v 4))) fun t32 =>
 optK (movePtr t32 0) fun t33 =>
 optK (loadA T_int S_4 t33) fun t34 =>
 optK (bx 1) fun _ =>
 optK (lloadA T_s_api_Extent (bx 1) 5) fun t37 =>
 optK (idxSlA T_api_Extent (AV.strip t37) (AV.strip (v 4))) fun t39 =>
 optK (movePtr t39 1) fun t40 =>
 optK (loadA T_string S_4 t40) fun t41 =>
 callK Ca F_ref02_Put [(AV.strip (v 3)), (AV.strip t34), (.int .i64 4)] S_4 fun t35 S_5 =>
 (optK (loadA T_string S_5 t40) fun t41_2 =>
 ((AV.strip t41_2) : AV) = (AV.strip t41)) ∧
 (callK Ca F_ref05_text [t35, (AV.strip t41), (.int .i64 4)] S_5 fun t42 S_6 =>
 optK (binA .add (AV.strip (v 4)) (.int .i64 1)) fun t27 =>
 nx ([t42, t27], [(bx 1)]) S_6))
 (j_4 (v 3) (bx 1) S_4)) S_3)
 (j_4 t9 (some c1) S)
theorem ref05_Put_eq (Ca) (a0a : Int) (a0b : Bool) (a0c : List (List AV)) (a0cr : Rt) (a0d : List (List AV)) (a0dr : Rt) (a0e : Int) (a0f : List (List AV)) (a0fr : Rt) (a0g : List UInt8) (S0 Q) : WF C Ca 86 (Drw C Ca 86) Tryd.f86 [(.agg [(.int .i64 a0a), (.bool a0b), (.vs 1 a0c a0cr), (.vs 7 a0d a0dr), (.int .i64 a0e), (.vs 2 a0f a0fr), (.str a0g)])] S0 Q = G_ref05_Put Ca a0a a0b a0c a0cr a0d a0dr a0e a0f a0fr a0g S0 Q := by kernel_rfl
theorem ref05_Put_ok {w0 : World} {a0a : Int} {a0b : Bool} {a0c : List (List AV)} {a0cr : Rt} {a0d : List (List AV)} {a0dr : Rt} {a0e : Int} {a0f : List (List AV)} {a0fr : Rt} {a0g : List UInt8} {S0 : St} {Q : AV → St → Prop} (h : G_ref05_Put (ACalls (En w0)) a0a a0b a0c a0cr a0d a0dr a0e a0f a0fr a0g S0 Q) : AC w0 F_ref05_Put [(.agg [(.int .i64 a0a), (.bool a0b), (.vs 1 a0c a0cr), (.vs 7 a0d a0dr), (.int .i64 a0e), (.vs 2 a0f a0fr), (.str a0g)])] S0 Q := fn_ok w0 Tryd.func86 (by kernel_rfl) (by rw [ref05_Put_eq]; exact h)
def G_wire_Read (Ca : Nat → List AV → St → (AV → St → Prop) → Prop) (a0 : List UInt8) (S0 : St) (Q : AV → St → Prop) : Prop :=
 optK (boxA T_wire_Reader (.agg [(.str a0)])) fun c5 =>
 Q (.ptr S0.length 0) (S0 ++ [.cells c5 t_wire_Reader])
theorem wire_Read_eq (Ca) (a0 : List UInt8) (S0 Q) : WF C Ca 87 (Drw C Ca 87) Tryd.f87 [(.str a0)] S0 Q = G_wire_Read Ca a0 S0 Q := by kernel_rfl
theorem wire_Read_ok {w0 : World} {a0 : List UInt8} {S0 : St} {Q : AV → St → Prop} (h : G_wire_Read (ACalls (En w0)) a0 S0 Q) : AC w0 F_wire_Read [(.str a0)] S0 Q := fn_ok w0 Tryd.func87 (by kernel_rfl) (by rw [wire_Read_eq]; exact h)
def G_image_reader_node (Ca : Nat → List AV → St → (AV → St → Prop) → Prop) (a0 : Nat) (a0o : Nat) (a1 : Int) (S0 : St) (Q : AV → St → Prop) : Prop :=
 joinK (fun (S_3 : St) =>
 optK (loadA T_bool S_3 (.ptr a0 (a0o + 1))) fun t32 =>
 ifK (AV.strip t32)
 (Q (.agg [(.int .i64 0), (.bool false), (.vs 1 [] .nil), (.vs 7 [] .nil), (.int .i64 0), (.vs 2 [] .nil), (.str [])]) S_3)
 (Ca F_image_reader_number [(.ptr a0 a0o), (.int .i64 1)] S_3 fun t35 S_4 =>
 optK (buildA T_api_Node 1 [(0, t35)]) fun t36 =>
 optK (lstoreA T_api_Node (some [(.int .i64 0), (.bool false), (.vs 1 [] .nil), (.vs 7 [] .nil), (.int .i64 0), (.vs 2 [] .nil), (.str [])]) 0 t36) fun b5 =>
 joinK (fun (y5 : Option (List AV)) (S_17 : St) =>
 optK (lloadA T_api_Node y5 0) fun t120 =>
 optK (lstoreA T_api_Node (some [(.int .i64 0), (.bool false), (.vs 1 [] .nil), (.vs 7 [] .nil), (.int .i64 0), (.vs 2 [] .nil), (.str [])]) 0 (AV.strip t120)) fun b4 =>
 optK ((lloadA T_api_Node (some b4) 0).map AV.strip) fun r4 =>
 Q r4 S_17) fun j_5 =>
 optK (some b5) fun _ =>
 optK (lloadA T_int (some b5) 0) fun t38 =>
 optK (binA .eql (AV.strip t38) (.int .i64 1)) fun t40 =>
 ifK t40
 (Ca F_image_reader_number [(.ptr a0 a0o), (.int .i64 4)] S_4 fun t42 S_5 =>
 optK (some b5) fun _ =>
 optK (lstoreA T_int (some b5) 4 t42) fun b5_2 =>
 Ca F_image_reader_number [(.ptr a0 a0o), (.int .i64 4)] S_5 fun t45 S_6 =>
 loopQ ([t45], [(some b5_2)]) (fun v bx => ([v 6], [bx 5])) (fun nx v bx S_7 =>
 optK (binA .gtr (AV.strip (v 6)) (.int .i64 0)) fun t47 =>
 joinK (fun (x53 : AV) =>
 optK (pickA (AV.strip t47) x53 (.bool false)) fun t54 =>
 ifK (AV.strip t54)
 (Ca F_image_reader_number [(.ptr a0 a0o), (.int .i64 4)] S_7 fun t58 S_8 =>
 optK (bx 5) fun _ =>
 optK (lloadA T_s_api_Extent (bx 5) 5) fun t60 =>
 Ca F_image_reader_text [(.ptr a0 a0o), (.int .i64 4)] S_8 fun t63 S_9 =>
 optK (buildA T_api_Extent 1 [(0, (AV.strip t58)), (1, t63)]) fun t64 =>
 optK (elemVals 2 [t64]) fun e65 =>
 optK (appendA T_api_Extent S_9 (AV.strip0 t60) (.vs 2 e65 .full)) fun t66 =>
 optK (stripBox (bx 5) 5) fun _ =>
 optK (lstoreA T_s_api_Extent (stripBox (bx 5) 5) 5 t66) fun b5_3 =>
 optK (binA .sub (AV.strip (v 6)) (.int .i64 1)) fun t56 =>
 nx ([t56], [(some b5_3)]) S_9)
 (j_5 (bx 5) S_7)) fun j_2 =>
 ifK (AV.strip t47)
 (optK (loadA T_bool S_7 (.ptr a0 (a0o + 1))) fun t52 =>
 optK (unA .not (AV.strip t52)) fun t53 =>
 j_2 t53)
 (j_2 (.tup []))) S_6)
 (optK (binA .eql (AV.strip t38) (.int .i64 2)) fun t69 =>
 ifK t69
 (Ca F_image_reader_number [(.ptr a0 a0o), (.int .i64 1)] S_4 fun t71 S_10 =>
 optK (binA .eql (AV.strip t71) (.int .i64 1)) fun t74 =>
 optK (loadA T_bool S_10 (.ptr a0 (a0o + 1))) fun t78 =>
 joinK (fun (x81 : AV) =>
 optK (pickA (AV.strip (AV.strip t78)) (.bool true) x81) fun t82 =>
 optK (some b5) fun _ =>
 optK (lstoreA T_bool (some b5) 1 t74) fun b5_4 =>
 optK (storeA T_bool S_10 (.ptr a0 (a0o + 1)) (AV.strip t82)) fun S_11 =>
 Ca F_image_reader_number [(.ptr a0 a0o), (.int .i64 2)] S_11 fun t87 S_12 =>
 loopQ ([t87], [(some b5_4)]) (fun v_2 bx_2 => ([v_2 9], [bx_2 5])) (fun nx_2 v_2 bx_2 S_13 =>
 optK (binA .gtr (AV.strip (v_2 9)) (.int .i64 0)) fun t89 =>
 joinK (fun (x95 : AV) =>
 optK (pickA (AV.strip t89) x95 (.bool false)) fun t96 =>
 ifK (AV.strip t96)
 (optK (bx_2 5) fun _ =>
 optK (lloadA T_s_string (bx_2 5) 2) fun t100 =>
 Ca F_image_reader_text [(.ptr a0 a0o), (.int .i64 1)] S_13 fun t102 S_14 =>
 optK (elemVals 1 [t102]) fun e103 =>
 optK (appendA T_string S_14 (AV.strip0 t100) (.vs 1 e103 .full)) fun t104 =>
 optK (stripBox (bx_2 5) 2) fun _ =>
 optK (lstoreA T_s_string (stripBox (bx_2 5) 2) 2 t104) fun b5_5 =>
 optK (some b5_5) fun _ =>
 optK (lloadA T_s_api_Node (some b5_5) 3) fun t107 =>
 Ca F_image_reader_node [(.ptr a0 a0o), (.int .i64 (IntKind.i64.wrap (a1 + 1)))] S_14 fun t111 S_15 =>
 optK (elemVals 7 [t111]) fun e112 =>
 optK (appendA T_api_Node S_15 (AV.strip0 t107) (.vs 7 e112 .full)) fun t113 =>
 optK (stripBox (some b5_5) 3) fun _ =>
 optK (lstoreA T_s_api_Node (stripBox (some b5_5) 3) 3 t113) fun b5_6 =>
 optK (binA .sub (AV.strip (v_2 9)) (.int .i64 1)) fun t98 =>
 nx_2 ([t98], [(some b5_6)]) S_15)
 (j_5 (bx_2 5) S_13)) fun j_3 =>
 ifK (AV.strip t89)
 (optK (loadA T_bool S_13 (.ptr a0 (a0o + 1))) fun t94 =>
 optK (unA .not (AV.strip t94)) fun t95 =>
 j_3 t95)
 (j_3 (.tup []))) S_12) fun j_4 =>
 ifK (AV.strip (AV.strip t78))
 (j_4 (.tup []))
 (optK (binA .gtr (AV.strip t71) (.int .i64 1)) fun t81 =>
 j_4 t81))
 (optK (binA .eql (AV.strip t38) (.int .i64 3)) fun t116 =>
 ifK t116
 (Ca F_image_reader_text [(.ptr a0 a0o), (.int .i64 2)] S_4 fun t118 S_16 =>
 optK (some b5) fun _ =>
 optK (lstoreA T_string (some b5) 6 t118) fun b5_7 =>
 j_5 (some b5_7) S_16)
 (j_5 (some b5) S_4))))) fun j_6 =>
 optK (loadA T_int S0 (.ptr a0 (a0o + 2))) fun t13 =>
 optK (binA .sub (AV.strip t13) (.int .i64 1)) fun t14 =>
 optK (storeA T_int S0 (.ptr a0 (a0o + 2)) t14) fun S =>
 optK (loadA T_int S (.ptr a0 (a0o + 2))) fun t20 =>
 optK (binA .lss (AV.strip t20) (.int .i64 0)) fun t21 =>
 joinK (fun (x24 : AV) =>
 optK (pickA (AV.strip t21) (.bool true) x24) fun t25 =>
 ifK (AV.strip t25)
 (optK (storeA T_bool S (.ptr a0 (a0o + 1)) (.bool true)) fun S_2 =>
 j_6 S_2)
 (j_6 S)) fun j =>
 ifK (AV.strip t21)
 (j (.tup []))
 (j (.bool (decide (a1 > 15))))
theorem image_reader_node_eq (Ca) (a0 : Nat) (a0o : Nat) (a1 : Int) (S0 Q) : WF C Ca 88 (Drw C Ca 88) Tryd.f88 [(.ptr a0 a0o), (.int .i64 a1)] S0 Q = G_image_reader_node Ca a0 a0o a1 S0 Q := by kernel_rfl
theorem image_reader_node_ok {w0 : World} {a0 : Nat} {a0o : Nat} {a1 : Int} {S0 : St} {Q : AV → St → Prop} (h : G_image_reader_node (ACalls (En w0)) a0 a0o a1 S0 Q) : AC w0 F_image_reader_node [(.ptr a0 a0o), (.int .i64 a1)] S0 Q := fn_ok w0 Tryd.func88 (by kernel_rfl) (by rw [image_reader_node_eq]; exact h)
def G_wire_Reader_Left (Ca : Nat → List AV → St → (AV → St → Prop) → Prop) (a0 : Nat) (a0o : Nat) (S0 : St) (Q : AV → St → Prop) : Prop :=
 optK (loadA T_string S0 (.ptr a0 (a0o + 0))) fun t6 =>
 optK (lenStrA (AV.strip t6)) fun t7 =>
 Q t7 S0
theorem wire_Reader_Left_eq (Ca) (a0 : Nat) (a0o : Nat) (S0 Q) : WF C Ca 89 (Drw C Ca 89) Tryd.f89 [(.ptr a0 a0o)] S0 Q = G_wire_Reader_Left Ca a0 a0o S0 Q := by kernel_rfl
theorem wire_Reader_Left_ok {w0 : World} {a0 : Nat} {a0o : Nat} {S0 : St} {Q : AV → St → Prop} (h : G_wire_Reader_Left (ACalls (En w0)) a0 a0o S0 Q) : AC w0 F_wire_Reader_Left [(.ptr a0 a0o)] S0 Q := fn_ok w0 Tryd.func89 (by kernel_rfl) (by rw [wire_Reader_Left_eq]; exact h)
def G_ref05_get (Ca : Nat → List AV → St → (AV → St → Prop) → Prop) (a0 : List UInt8) (a1 : Int) (S0 : St) (Q : AV → St → Prop) : Prop :=
 joinK (fun (x23 : AV) =>
 optK (pickA (.bool (decide (a1 > 15))) (.bool true) x23) fun t24 =>
 ifK (AV.strip t24)
 (Q (.agg [(.int .i64 0), (.bool false), (.vs 1 [] .nil), (.vs 7 [] .nil), (.int .i64 0), (.vs 2 [] .nil), (.str []), (.int .i64 (-1))]) S0)
 (optK (charA (.str a0) (.int .i64 0)) fun t27 =>
 optK (convIntA .i64 t27) fun t28 =>
 optK (buildA T_api_Node 1 [(0, t28)]) fun t29 =>
 optK (lstoreA T_api_Node (some [(.int .i64 0), (.bool false), (.vs 1 [] .nil), (.vs 7 [] .nil), (.int .i64 0), (.vs 2 [] .nil), (.str [])]) 0 t29) fun b6 =>
 joinK (fun (x7 : AV) (y4 : Option (List AV)) (y6 : Option (List AV)) (S_11 : St) =>
 optK (lloadA T_api_Node y6 0) fun t187 =>
 optK (buildA T_socageref05_Got 1 [(0, (AV.strip t187)), (1, (AV.strip x7))]) fun t189 =>
 optK (lstoreA T_socageref05_Got y4 0 t189) fun b4_4 =>
 optK ((lloadA T_socageref05_Got (some b4_4) 0).map AV.strip) fun r4_4 =>
 Q r4_4 S_11) fun j_6 =>
 optK (some b6) fun _ =>
 optK (lloadA T_int (some b6) 0) fun t31 =>
 optK (binA .eql (AV.strip t31) (.int .i64 1)) fun t32 =>
 ifK t32
 (Ca F_ref05_number [(.str a0), (.int .i64 1), (.int .i64 4)] S0 fun t34 S =>
 optK (some b6) fun _ =>
 optK (lstoreA T_int (some b6) 4 t34) fun b6_2 =>
 Ca F_ref05_number [(.str a0), (.int .i64 5), (.int .i64 4)] S fun t37 S_2 =>
 optK (binA .lss (AV.strip t37) (.int .i64 0)) fun t39 =>
 ifK t39
 (Q (.agg [(.int .i64 0), (.bool false), (.vs 1 [] .nil), (.vs 7 [] .nil), (.int .i64 0), (.vs 2 [] .nil), (.str []), (.int .i64 (-1))]) S_2)
 (loopQ ([(.str a0), (.int .i64 9), (.int .i64 0)], [(some [(.int .i64 0), (.bool false), (.vs 1 [] .nil), (.vs 7 [] .nil), (.int .i64 0), (.vs 2 [] .nil), (.str []), (.int .i64 0)]), (some [(.int .i64 0), (.bool false), (.vs 1 [] .nil), (.vs 7 [] .nil), (.int .i64 0), (.vs 2 [] .nil), (.str []), (.int .i64 (-1))]), (some b6_2)]) (fun v bx => ([v 0, v 7, v 9], [bx 4, bx 5, bx 6])) (fun nx v bx S_3 =>
 optK (binA .lss (AV.strip (v 9)) (AV.strip t37)) fun t43 =>
 ifK t43
 (callK Ca F_ref05_number [(AV.strip (v 0)), (AV.strip (v 7)), (.int .i64 4)] S_3 fun t48 S_4 =>
 optK (binA .add (AV.strip (v 7)) (.int .i64 4)) fun t51 =>
 callK Ca F_ref05_number [(AV.strip (v 0)), t51, (.int .i64 4)] S_4 fun t52 S_5 =>
 optK (binA .lss (AV.strip t52) (.int .i64 0)) fun t54 =>
 joinK (fun (x62 : AV) =>
 optK (pickA (AV.strip t54) (.bool true) x62) fun t63 =>
 ifK (AV.strip t63)
 (optK (lloadA T_socageref05_Got (bx 5) 0) fun t64 =>
 optK (lstoreA T_socageref05_Got (bx 4) 0 (AV.strip t64)) fun b4 =>
 optK ((lloadA T_socageref05_Got (some b4) 0).map AV.strip) fun r4 =>
 Q r4 S_5)
 (optK (bx 6) fun _ =>
 optK (binA .add (AV.strip (v 7)) (.int .i64 8)) fun t70 =>
 optK (binA .add (AV.strip (v 7)) (.int .i64 8)) fun t72 =>
 optK (binA .add t72 (AV.strip t52)) fun t74 =>
 optK (lloadA T_s_api_Extent (bx 6) 5) fun t66 =>
 optK (cutStrA (AV.strip (v 0)) (some t70) (some t74)) fun t75 =>
 optK (buildA T_api_Extent 1 [(0, (AV.strip t48)), (1, t75)]) fun t76 =>
 optK (elemVals 2 [t76]) fun e77 =>
 optK (appendA T_api_Extent S_5 (AV.strip0 t66) (.vs 2 e77 .full)) fun t78 =>
 optK (stripBox (bx 6) 5) fun _ =>
 optK (lstoreA T_s_api_Extent (stripBox (bx 6) 5) 5 t78) fun b6_3 =>
 optK (binA .add (AV.strip (v 7)) (.int .i64 8)) fun t81 =>
 optK (binA .add t81 (AV.strip t52)) fun t83 =>
 optK (binA .add (AV.strip (v 9)) (.int .i64 1)) fun t45 =>
 nx ([(v 0), t83, t45], [(bx 4), (bx 5), (some b6_3)]) S_5)) fun j_2 =>
 ifK (AV.strip t54)
 (j_2 (.tup []))
 (optK (binA .add (AV.strip (v 7)) (.int .i64 8)) fun t57 =>
 optK (binA .add t57 (AV.strip t52)) fun t59 =>
 optK (lenStrA (AV.strip (v 0))) fun t61 =>
 optK (binA .gtr t59 t61) fun t62 =>
 j_2 t62))
 (j_6 (v 7) (bx 4) (bx 6) S_3)) S_2))
 (optK (some b6) fun _ =>
 optK (lloadA T_int (some b6) 0) fun t85 =>
 optK (binA .eql (AV.strip t85) (.int .i64 2)) fun t86 =>
 ifK t86
 (Ca F_ref05_number [(.str a0), (.int .i64 2), (.int .i64 2)] S0 fun t88 S_6 =>
 optK (binA .lss (AV.strip t88) (.int .i64 0)) fun t90 =>
 joinK (fun (x94 : AV) =>
 optK (pickA (AV.strip t90) (.bool true) x94) fun t95 =>
 ifK (AV.strip t95)
 (Q (.agg [(.int .i64 0), (.bool false), (.vs 1 [] .nil), (.vs 7 [] .nil), (.int .i64 0), (.vs 2 [] .nil), (.str []), (.int .i64 (-1))]) S_6)
 (optK (charA (.str a0) (.int .i64 1)) fun t98 =>
 optK (binA .eql t98 (.int .u8 1)) fun t99 =>
 optK (some b6) fun _ =>
 optK (lstoreA T_bool (some b6) 1 t99) fun b6_4 =>
 loopQ ([(.str a0), (.int .i64 4), (.int .i64 0)], [(some [(.int .i64 0), (.bool false), (.vs 1 [] .nil), (.vs 7 [] .nil), (.int .i64 0), (.vs 2 [] .nil), (.str []), (.int .i64 0)]), (some [(.int .i64 0), (.bool false), (.vs 1 [] .nil), (.vs 7 [] .nil), (.int .i64 0), (.vs 2 [] .nil), (.str []), (.int .i64 (-1))]), (some b6_4)]) (fun v_2 bx_2 => ([v_2 0, v_2 7, v_2 13], [bx_2 4, bx_2 5, bx_2 6])) (fun nx_2 v_2 bx_2 S_7 =>
 optK (binA .lss (AV.strip (v_2 13)) (AV.strip t88)) fun t103 =>
 ifK t103
 (callK Ca F_ref05_number [(AV.strip (v_2 0)), (AV.strip (v_2 7)), (.int .i64 1)] S_7 fun t108 S_8 =>
 optK (binA .lss (AV.strip t108) (.int .i64 0)) fun t110 =>
 joinK (fun (x118 : AV) =>
 optK (pickA (AV.strip t110) (.bool true) x118) fun t119 =>
 ifK (AV.strip t119)
 (optK (lloadA T_socageref05_Got (bx_2 5) 0) fun t120 =>
 optK (lstoreA T_socageref05_Got (bx_2 4) 0 (AV.strip t120)) fun b4_2 =>
 optK ((lloadA T_socageref05_Got (some b4_2) 0).map AV.strip) fun r4_2 =>
 Q r4_2 S_8)
 (optK (bx_2 6) fun _ =>
 optK (binA .add (AV.strip (v_2 7)) (.int .i64 1)) fun t125 =>
 optK (binA .add (AV.strip (v_2 7)) (.int .i64 1)) fun t127 =>
 optK (binA .add t127 (AV.strip t108)) fun t129 =>
 optK (lloadA T_s_string (bx_2 6) 2) fun t122 =>
 optK (cutStrA (AV.strip (v_2 0)) (some t125) (some t129)) fun t130 =>
 optK (elemVals 1 [t130]) fun e131 =>
 optK (appendA T_string S_8 (AV.strip0 t122) (.vs 1 e131 .full)) fun t132 =>
 optK (stripBox (bx_2 6) 2) fun _ =>
 optK (lstoreA T_s_string (stripBox (bx_2 6) 2) 2 t132) fun b6_5 =>
 optK (binA .add (AV.strip (v_2 7)) (.int .i64 1)) fun t136 =>
 optK (binA .add t136 (AV.strip t108)) fun t138 =>
 optK (cutStrA (v_2 0) (some t138) none) fun t139 =>
 callK Ca F_ref05_get [t139, (.int .i64 (IntKind.i64.wrap (a1 + 1)))] S_8 fun t142 S_9 =>
 optK (lstoreA T_socageref05_Got (some [(.int .i64 0), (.bool false), (.vs 1 [] .nil), (.vs 7 [] .nil), (.int .i64 0), (.vs 2 [] .nil), (.str []), (.int .i64 0)]) 0 t142) fun b15 =>
 optK (some b15) fun _ =>
 optK (lloadA T_int (some b15) 7) fun t144 =>
 optK (binA .lss (AV.strip t144) (.int .i64 0)) fun t145 =>
 ifK t145
 (optK (lloadA T_socageref05_Got (bx_2 5) 0) fun t146 =>
 optK (lstoreA T_socageref05_Got (bx_2 4) 0 (AV.strip t146)) fun b4_3 =>
 optK ((lloadA T_socageref05_Got (some b4_3) 0).map AV.strip) fun r4_3 =>
 Q r4_3 S_9)
 (optK (some b6_5) fun _ =>
 optK (lloadA T_s_api_Node (some b6_5) 3) fun t148 =>
 optK (some b15) fun _ =>
 optK (lloadA T_api_Node (some b15) 0) fun t150 =>
 optK (elemVals 7 [(AV.strip t150)]) fun e151 =>
 optK (appendA T_api_Node S_9 (AV.strip0 t148) (.vs 7 e151 .full)) fun t152 =>
 optK (stripBox (some b6_5) 3) fun _ =>
 optK (lstoreA T_s_api_Node (stripBox (some b6_5) 3) 3 t152) fun b6_6 =>
 optK (binA .add (AV.strip (v_2 7)) (.int .i64 1)) fun t155 =>
 optK (binA .add t155 (AV.strip t108)) fun t157 =>
 optK (some b15) fun _ =>
 optK (lloadA T_int (some b15) 7) fun t159 =>
 optK (binA .add t157 (AV.strip t159)) fun t160 =>
 optK (binA .add (AV.strip (v_2 13)) (.int .i64 1)) fun t105 =>
 nx_2 ([(AV.strip (v_2 0)), t160, t105], [(bx_2 4), (bx_2 5), (some b6_6)]) S_9))) fun j_4 =>
 ifK (AV.strip t110)
 (j_4 (.tup []))
 (optK (binA .add (AV.strip (v_2 7)) (.int .i64 1)) fun t113 =>
 optK (binA .add t113 (AV.strip t108)) fun t115 =>
 optK (lenStrA (AV.strip (v_2 0))) fun t117 =>
 optK (binA .gtr t115 t117) fun t118 =>
 j_4 t118))
 (j_6 (v_2 7) (bx_2 4) (bx_2 6) S_7)) S_6)) fun j_3 =>
 ifK (AV.strip t90)
 (j_3 (.tup []))
 (optK (charA (.str a0) (.int .i64 1)) fun t93 =>
 optK (binA .gtr t93 (.int .u8 1)) fun t94 =>
 j_3 t94))
 (optK (some b6) fun _ =>
 optK (lloadA T_int (some b6) 0) fun t162 =>
 optK (binA .eql (AV.strip t162) (.int .i64 3)) fun t163 =>
 ifK t163
 (Ca F_ref05_number [(.str a0), (.int .i64 1), (.int .i64 2)] S0 fun t165 S_10 =>
 optK (binA .lss (AV.strip t165) (.int .i64 0)) fun t167 =>
 joinK (fun (x173 : AV) =>
 optK (pickA (AV.strip t167) (.bool true) x173) fun t174 =>
 ifK (AV.strip t174)
 (Q (.agg [(.int .i64 0), (.bool false), (.vs 1 [] .nil), (.vs 7 [] .nil), (.int .i64 0), (.vs 2 [] .nil), (.str []), (.int .i64 (-1))]) S_10)
 (optK (binA .add (.int .i64 3) (AV.strip t165)) fun t178 =>
 optK (cutStrA (.str a0) (some (.int .i64 3)) (some t178)) fun t179 =>
 optK (some b6) fun _ =>
 optK (lstoreA T_string (some b6) 6 t179) fun b6_7 =>
 optK (binA .add (.int .i64 3) (AV.strip t165)) fun t182 =>
 j_6 t182 (some [(.int .i64 0), (.bool false), (.vs 1 [] .nil), (.vs 7 [] .nil), (.int .i64 0), (.vs 2 [] .nil), (.str []), (.int .i64 0)]) (some b6_7) S_10)) fun j_5 =>
 ifK (AV.strip t167)
 (j_5 (.tup []))
 (optK (binA .add (.int .i64 3) (AV.strip t165)) fun t170 =>
 optK (binA .gtr t170 (.int .i64 (List.length a0 : Int))) fun t173 =>
 j_5 t173))
 (optK (some b6) fun _ =>
 optK (lloadA T_int (some b6) 0) fun t184 =>
 optK (binA .neq (AV.strip t184) (.int .i64 4)) fun t185 =>
 ifK t185
 (Q (.agg [(.int .i64 0), (.bool false), (.vs 1 [] .nil), (.vs 7 [] .nil), (.int .i64 0), (.vs 2 [] .nil), (.str []), (.int .i64 (-1))]) S0)
 (j_6 (.int .i64 1) (some [(.int .i64 0), (.bool false), (.vs 1 [] .nil), (.vs 7 [] .nil), (.int .i64 0), (.vs 2 [] .nil), (.str []), (.int .i64 0)]) (some b6) S0)))))) fun j =>
 ifK (.bool (decide (a1 > 15)))
 (j (.tup []))
 (j (.bool (decide ((List.length a0 : Int) < 1))))
theorem ref05_get_eq (Ca) (a0 : List UInt8) (a1 : Int) (S0 Q) : WF C Ca 90 (Drw C Ca 90) Tryd.f90 [(.str a0), (.int .i64 a1)] S0 Q = G_ref05_get Ca a0 a1 S0 Q := by kernel_rfl
theorem ref05_get_ok {w0 : World} {a0 : List UInt8} {a1 : Int} {S0 : St} {Q : AV → St → Prop} (h : G_ref05_get (ACalls (En w0)) a0 a1 S0 Q) : AC w0 F_ref05_get [(.str a0), (.int .i64 a1)] S0 Q := fn_ok w0 Tryd.func90 (by kernel_rfl) (by rw [ref05_get_eq]; exact h)
def G_branch_Branch_Look (Ca : Nat → List AV → St → (AV → St → Prop) → Prop) (a0 : Nat) (a0o : Nat) (a1 : Int) (a2 : List UInt8) (S0 : St) (Q : AV → St → Prop) : Prop :=
 Ca F_branch_Branch_at [(.ptr a0 a0o), (.int .i64 a1)] S0 fun t13 S =>
 optK (lstoreA T_branch_inode (some [(.int .i64 0), (.bool false), (.vs 1 [] .nil), (.vs 7 [] .nil), (.int .i64 0), (.vs 2 [] .nil), (.str []), (.vs 1 [] .nil)]) 0 t13) fun b8 =>
 optK (some b8) fun _ =>
 optK (some b8) fun _ =>
 optK (lloadA T_s_string (some b8) 2) fun t17 =>
 callK Ca F_slices_BinarySearch_s_string_string [(AV.strip t17), (.str a2)] S fun t19 S_2 =>
 optK (extractA t19 0) fun t20 =>
 optK (extractA (stripTup t19 0) 1) fun t21 =>
 optK (unA .not (AV.strip t21)) fun t23 =>
 ifK t23
 (Q (.tup [(.int .i64 0), (.bool false)]) S_2)
 (optK (some b8) fun _ =>
 optK (lloadA T_s_int (some b8) 7) fun t25 =>
 optK (idxSlA T_int (AV.strip t25) (AV.strip t20)) fun t27 =>
 optK (loadA T_int S_2 t27) fun t28 =>
 Q (.tup [(AV.flat (AV.strip t28)), (.bool true)]) S_2)
theorem branch_Branch_Look_eq (Ca) (a0 : Nat) (a0o : Nat) (a1 : Int) (a2 : List UInt8) (S0 Q) : WF C Ca 91 (Drw C Ca 91) Tryd.f91 [(.ptr a0 a0o), (.int .i64 a1), (.str a2)] S0 Q = G_branch_Branch_Look Ca a0 a0o a1 a2 S0 Q := by kernel_rfl
theorem branch_Branch_Look_ok {w0 : World} {a0 : Nat} {a0o : Nat} {a1 : Int} {a2 : List UInt8} {S0 : St} {Q : AV → St → Prop} (h : G_branch_Branch_Look (ACalls (En w0)) a0 a0o a1 a2 S0 Q) : AC w0 F_branch_Branch_Look [(.ptr a0 a0o), (.int .i64 a1), (.str a2)] S0 Q := fn_ok w0 Tryd.func91 (by kernel_rfl) (by rw [branch_Branch_Look_eq]; exact h)
def G_branch_Branch_Kind (Ca : Nat → List AV → St → (AV → St → Prop) → Prop) (a0 : Nat) (a0o : Nat) (a1 : Int) (S0 : St) (Q : AV → St → Prop) : Prop :=
 Ca F_branch_Branch_at [(.ptr a0 a0o), (.int .i64 a1)] S0 fun t7 S =>
 optK (partA T_api_Node t7 0) fun t8 =>
 optK (partA T_int (AV.strip t8) 0) fun t9 =>
 Q (AV.strip t9) S
theorem branch_Branch_Kind_eq (Ca) (a0 : Nat) (a0o : Nat) (a1 : Int) (S0 Q) : WF C Ca 92 (Drw C Ca 92) Tryd.f92 [(.ptr a0 a0o), (.int .i64 a1)] S0 Q = G_branch_Branch_Kind Ca a0 a0o a1 S0 Q := by kernel_rfl
theorem branch_Branch_Kind_ok {w0 : World} {a0 : Nat} {a0o : Nat} {a1 : Int} {S0 : St} {Q : AV → St → Prop} (h : G_branch_Branch_Kind (ACalls (En w0)) a0 a0o a1 S0 Q) : AC w0 F_branch_Branch_Kind [(.ptr a0 a0o), (.int .i64 a1)] S0 Q := fn_ok w0 Tryd.func92 (by kernel_rfl) (by rw [branch_Branch_Kind_eq]; exact h)
def G_branch_Branch_Opaque (Ca : Nat → List AV → St → (AV → St → Prop) → Prop) (a0 : Nat) (a0o : Nat) (a1 : Int) (S0 : St) (Q : AV → St → Prop) : Prop :=
 Ca F_branch_Branch_at [(.ptr a0 a0o), (.int .i64 a1)] S0 fun t7 S =>
 optK (partA T_api_Node t7 0) fun t8 =>
 optK (partA T_bool (AV.strip t8) 1) fun t9 =>
 Q (AV.strip t9) S
theorem branch_Branch_Opaque_eq (Ca) (a0 : Nat) (a0o : Nat) (a1 : Int) (S0 Q) : WF C Ca 93 (Drw C Ca 93) Tryd.f93 [(.ptr a0 a0o), (.int .i64 a1)] S0 Q = G_branch_Branch_Opaque Ca a0 a0o a1 S0 Q := by kernel_rfl
theorem branch_Branch_Opaque_ok {w0 : World} {a0 : Nat} {a0o : Nat} {a1 : Int} {S0 : St} {Q : AV → St → Prop} (h : G_branch_Branch_Opaque (ACalls (En w0)) a0 a0o a1 S0 Q) : AC w0 F_branch_Branch_Opaque [(.ptr a0 a0o), (.int .i64 a1)] S0 Q := fn_ok w0 Tryd.func93 (by kernel_rfl) (by rw [branch_Branch_Opaque_eq]; exact h)
def G_slices_Clone_s_api_Extent_api_Extent (Ca : Nat → List AV → St → (AV → St → Prop) → Prop) (a0 : List (List AV)) (a0r : Rt) (S0 : St) (Q : AV → St → Prop) : Prop :=
 optK (binE .slice .eql (.vs 2 a0 (Rt.strip a0r)) (.vs 2 [] .nil)) fun t4 =>
 ifK t4
 (Q (.vs 2 [] .nil) S0)
 (optK (appendA T_api_Extent S0 (.vs 2 [] .full) (.vs 2 a0 (Rt.strip a0r))) fun t7 =>
 Q t7 S0)
theorem slices_Clone_s_api_Extent_api_Extent_eq (Ca) (a0 : List (List AV)) (a0r : Rt) (S0 Q) : WF C Ca 100 (Drw C Ca 100) Tryd.f100 [(.vs 2 a0 a0r)] S0 Q = G_slices_Clone_s_api_Extent_api_Extent Ca a0 a0r S0 Q := by kernel_rfl
theorem slices_Clone_s_api_Extent_api_Extent_ok {w0 : World} {a0 : List (List AV)} {a0r : Rt} {S0 : St} {Q : AV → St → Prop} (h : G_slices_Clone_s_api_Extent_api_Extent (ACalls (En w0)) a0 a0r S0 Q) : AC w0 F_slices_Clone_s_api_Extent_api_Extent [(.vs 2 a0 a0r)] S0 Q := fn_ok w0 Tryd.func100 (by kernel_rfl) (by rw [slices_Clone_s_api_Extent_api_Extent_eq]; exact h)
def G_tree_zero (Ca : Nat → List AV → St → (AV → St → Prop) → Prop) (a0a : Int) (a0b : Bool) (a0c : List (List AV)) (a0cr : Rt) (a0d : List (List AV)) (a0dr : Rt) (a0e : Int) (a0f : List (List AV)) (a0fr : Rt) (a0g : List UInt8) (S0 : St) (Q : AV → St → Prop) : Prop :=
 optK (boxA T_api_Node (.agg [(.int .i64 a0a), (.bool a0b), (.vs 1 a0c a0cr), (.vs 7 a0d a0dr), (.int .i64 a0e), (.vs 2 a0f a0fr), (.str a0g)])) fun c1 =>
 optK (some c1) fun _ =>
 optK (lloadA T_int (some c1) 0) fun t7 =>
 optK (binA .eql (AV.strip t7) (.int .i64 2)) fun t8 =>
 optK (some c1) fun _ =>
 optK (lloadA T_int (some c1) 0) fun t10 =>
 optK (binA .eql (AV.strip t10) (.int .i64 1)) fun t11 =>
 optK (some c1) fun _ =>
 optK (lloadA T_int (some c1) 0) fun t13 =>
 optK (binA .eql (AV.strip t13) (.int .i64 3)) fun t14 =>
 optK (unA .not (AV.strip t8)) fun t16 =>
 joinK (fun (x31 : AV) =>
 optK (pickA (AV.strip t16) x31 (.bool false)) fun t32 =>
 joinK (fun (x46 : AV) =>
 optK (pickA (AV.strip (AV.strip t32)) (.bool true) x46) fun t47 =>
 ifK (AV.strip t47)
 (Q (.bool false) S0)
 (joinK (fun (x52 : AV) =>
 optK (pickA (AV.strip (AV.strip t14)) (.bool true) x52) fun t53 =>
 Q (AV.strip t53) S0) fun j_7 =>
 ifK (AV.strip (AV.strip t14))
 (j_7 (.tup []))
 (optK (some c1) fun _ =>
 optK (lloadA T_string (some c1) 6) fun t51 =>
 optK (binA .eql (AV.strip t51) (.str [])) fun t52 =>
 j_7 t52))) fun j_5 =>
 ifK (AV.strip (AV.strip t32))
 (j_5 (.tup []))
 (optK (unA .not (AV.strip t11)) fun t35 =>
 joinK (fun (x45 : AV) =>
 optK (pickA (AV.strip t35) x45 (.bool false)) fun t46 =>
 j_5 (AV.strip t46)) fun j_4 =>
 gK (AV.strip t35)
 (optK (some c1) fun _ =>
 optK (lloadA T_int (some c1) 4) fun t38 =>
 optK (binA .neq (AV.strip t38) (.int .i64 0)) fun t39 =>
 joinK (fun (x44 : AV) =>
 optK (pickA (AV.strip t39) (.bool true) x44) fun t45 =>
 j_4 (AV.strip t45)) fun j_3 =>
 gK (AV.strip t39)
 (j_3 (.tup []))
 (optK (some c1) fun _ =>
 optK (lloadA T_s_api_Extent (some c1) 5) fun t42 =>
 optK (lenSlA (AV.strip t42)) fun t43 =>
 optK (binA .gtr t43 (.int .i64 0)) fun t44 =>
 j_3 t44)
 (j_3 (.tup [])))
 (j_4 (.tup []))
 (j_4 (.tup [])))) fun j_6 =>
 ifK (AV.strip t16)
 (optK (some c1) fun _ =>
 optK (lloadA T_bool (some c1) 1) fun t19 =>
 joinK (fun (x24 : AV) =>
 optK (pickA (AV.strip (AV.strip t19)) (.bool true) x24) fun t25 =>
 joinK (fun (x30 : AV) =>
 optK (pickA (AV.strip (AV.strip t25)) (.bool true) x30) fun t31 =>
 j_6 (AV.strip t31)) fun j =>
 gK (AV.strip (AV.strip t25))
 (j (.tup []))
 (optK (some c1) fun _ =>
 optK (lloadA T_s_api_Node (some c1) 3) fun t28 =>
 optK (lenSlA (AV.strip t28)) fun t29 =>
 optK (binA .gtr t29 (.int .i64 0)) fun t30 =>
 j t30)
 (j (.tup []))) fun j_2 =>
 gK (AV.strip (AV.strip t19))
 (j_2 (.tup []))
 (optK (some c1) fun _ =>
 optK (lloadA T_s_string (some c1) 2) fun t22 =>
 optK (lenSlA (AV.strip t22)) fun t23 =>
 optK (binA .gtr t23 (.int .i64 0)) fun t24 =>
 j_2 t24)
 (j_2 (.tup [])))
 (j_6 (.tup []))
theorem tree_zero_eq (Ca) (a0a : Int) (a0b : Bool) (a0c : List (List AV)) (a0cr : Rt) (a0d : List (List AV)) (a0dr : Rt) (a0e : Int) (a0f : List (List AV)) (a0fr : Rt) (a0g : List UInt8) (S0 Q) : WF C Ca 101 (Drw C Ca 101) Tryd.f101 [(.agg [(.int .i64 a0a), (.bool a0b), (.vs 1 a0c a0cr), (.vs 7 a0d a0dr), (.int .i64 a0e), (.vs 2 a0f a0fr), (.str a0g)])] S0 Q = G_tree_zero Ca a0a a0b a0c a0cr a0d a0dr a0e a0f a0fr a0g S0 Q := by kernel_rfl
theorem tree_zero_ok {w0 : World} {a0a : Int} {a0b : Bool} {a0c : List (List AV)} {a0cr : Rt} {a0d : List (List AV)} {a0dr : Rt} {a0e : Int} {a0f : List (List AV)} {a0fr : Rt} {a0g : List UInt8} {S0 : St} {Q : AV → St → Prop} (h : G_tree_zero (ACalls (En w0)) a0a a0b a0c a0cr a0d a0dr a0e a0f a0fr a0g S0 Q) : AC w0 F_tree_zero [(.agg [(.int .i64 a0a), (.bool a0b), (.vs 1 a0c a0cr), (.vs 7 a0d a0dr), (.int .i64 a0e), (.vs 2 a0f a0fr), (.str a0g)])] S0 Q := fn_ok w0 Tryd.func101 (by kernel_rfl) (by rw [tree_zero_eq]; exact h)
def G_extent_Right (Ca : Nat → List AV → St → (AV → St → Prop) → Prop) (a0 : Int) (a1 : List (List AV)) (a1r : Rt) (S0 : St) (Q : AV → St → Prop) : Prop :=
 joinK (fun (S_2 : St) =>
 joinK (fun (x44 : AV) =>
 optK (pickA (.bool (decide (a0 ≥ 0))) x44 (.bool false)) fun t45 =>
 Q (AV.strip t45) S_2) fun j_3 =>
 ifK (.bool (decide (a0 ≥ 0)))
 (j_3 (.bool (decide (a0 ≤ 1048576))))
 (j_3 (.tup []))) fun j_4 =>
 loopQ ([(.int .i64 0), (.int .i64 0)], []) (fun v bx => ([v 5, v 10], [])) (fun nx v bx S =>
 optK (binA .lss (v 10) (.int .i64 (List.length a1 : Int))) fun t11 =>
 ifK t11
 (optK (idxSlA T_api_Extent (.vs 2 a1 (Rt.strip a1r)) (v 10)) fun t12 =>
 optK (loadA T_api_Extent S t12) fun t13 =>
 optK (lstoreA T_api_Extent (some [(.int .i64 0), (.str [])]) 0 (AV.strip t13)) fun b7 =>
 optK (some b7) fun _ =>
 optK (lloadA T_int (some b7) 0) fun t15 =>
 optK (binA .lss (AV.strip t15) (AV.strip (v 5))) fun t17 =>
 joinK (fun (x21 : AV) =>
 optK (pickA (AV.strip t17) (.bool true) x21) fun t22 =>
 joinK (fun (x31 : AV) =>
 optK (pickA (AV.strip (AV.strip t22)) (.bool true) x31) fun t32 =>
 ifK (AV.strip t32)
 (Q (.bool false) S)
 (optK (some b7) fun _ =>
 optK (lloadA T_int (some b7) 0) fun t34 =>
 optK (some b7) fun _ =>
 optK (lloadA T_string (some b7) 1) fun t36 =>
 optK (lenStrA (AV.strip t36)) fun t37 =>
 optK (binA .add (AV.strip t34) t37) fun t38 =>
 optK (binA .add (v 10) (.int .i64 1)) fun t39 =>
 nx ([t38, (AV.strip t39)], []) S)) fun j =>
 ifK (AV.strip (AV.strip t22))
 (j (.tup []))
 (optK (some b7) fun _ =>
 optK (lloadA T_string (some b7) 1) fun t25 =>
 optK (lenStrA (AV.strip t25)) fun t26 =>
 optK (some b7) fun _ =>
 optK (lloadA T_int (some b7) 0) fun t29 =>
 optK (binA .sub (.int .i64 a0) (AV.strip t29)) fun t30 =>
 optK (binA .gtr t26 t30) fun t31 =>
 j t31)) fun j_2 =>
 ifK (AV.strip t17)
 (j_2 (.tup []))
 (optK (some b7) fun _ =>
 optK (lloadA T_string (some b7) 1) fun t20 =>
 optK (binA .eql (AV.strip t20) (.str [])) fun t21 =>
 j_2 t21))
 (j_4 S)) S0
theorem extent_Right_eq (Ca) (a0 : Int) (a1 : List (List AV)) (a1r : Rt) (S0 Q) : WF C Ca 102 (Drw C Ca 102) Tryd.f102 [(.int .i64 a0), (.vs 2 a1 a1r)] S0 Q = G_extent_Right Ca a0 a1 a1r S0 Q := by kernel_rfl
theorem extent_Right_ok {w0 : World} {a0 : Int} {a1 : List (List AV)} {a1r : Rt} {S0 : St} {Q : AV → St → Prop} (h : G_extent_Right (ACalls (En w0)) a0 a1 a1r S0 Q) : AC w0 F_extent_Right [(.int .i64 a0), (.vs 2 a1 a1r)] S0 Q := fn_ok w0 Tryd.func102 (by kernel_rfl) (by rw [extent_Right_eq]; exact h)
def G_tree_names (Ca : Nat → List AV → St → (AV → St → Prop) → Prop) (a0a : Int) (a0b : Bool) (a0c : List (List AV)) (a0cr : Rt) (a0d : List (List AV)) (a0dr : Rt) (a0e : Int) (a0f : List (List AV)) (a0fr : Rt) (a0g : List UInt8) (S0 : St) (Q : AV → St → Prop) : Prop :=
 optK (boxA T_api_Node (.agg [(.int .i64 a0a), (.bool a0b), (.vs 1 a0c a0cr), (.vs 7 a0d a0dr), (.int .i64 a0e), (.vs 2 a0f a0fr), (.str a0g)])) fun c1 =>
 joinK (fun (y1 : Option (List AV)) (S_3 : St) =>
 optK y1 fun _ =>
 optK (lloadA T_s_string y1 2) fun t32 =>
 optK (lenSlA (AV.strip t32)) fun t33 =>
 optK y1 fun _ =>
 optK (lloadA T_s_api_Node y1 3) fun t35 =>
 optK (lenSlA (AV.strip t35)) fun t36 =>
 optK (binA .eql t33 t36) fun t37 =>
 Q t37 S_3) fun j_3 =>
 optK (some c1) fun _ =>
 optK (lloadA T_s_string (some c1) 2) fun t6 =>
 optK (lenSlA (AV.strip t6)) fun t7 =>
 loopQ ([(.int .i64 0)], [(some c1)]) (fun v bx => ([v 8], [bx 1])) (fun nx v bx S =>
 optK (binA .lss (v 8) t7) fun t9 =>
 ifK t9
 (optK (idxSlA T_string (AV.strip t6) (v 8)) fun t11 =>
 optK (loadA T_string S t11) fun t12 =>
 callK Ca F_name_Right [(AV.strip (AV.strip t12))] S fun t14 S_2 =>
 optK (unA .not t14) fun t15 =>
 joinK (fun (x28 : AV) =>
 optK (pickA (AV.strip t15) (.bool true) x28) fun t29 =>
 ifK (AV.strip t29)
 (Q (.bool false) S_2)
 (optK (binA .add (v 8) (.int .i64 1)) fun t30 =>
 nx ([(AV.strip t30)], [(bx 1)]) S_2)) fun j_2 =>
 ifK (AV.strip t15)
 (j_2 (.tup []))
 (optK (binA .gtr (AV.strip (AV.strip (v 8))) (.int .i64 0)) fun t18 =>
 joinK (fun (x27 : AV) =>
 optK (pickA (AV.strip t18) x27 (.bool false)) fun t28 =>
 j_2 (AV.strip t28)) fun j =>
 gK (AV.strip t18)
 (optK (bx 1) fun _ =>
 optK (lloadA T_s_string (bx 1) 2) fun t21 =>
 optK (binA .sub (AV.strip (AV.strip (v 8))) (.int .i64 1)) fun t23 =>
 optK (idxSlA T_string (AV.strip t21) t23) fun t24 =>
 optK (loadA T_string S_2 t24) fun t25 =>
 optK (binA .geq (AV.strip t25) (AV.strip (AV.strip t12))) fun t27 =>
 j t27)
 (j (.tup []))
 (j (.tup []))))
 (j_3 (bx 1) S)) S0
theorem tree_names_eq (Ca) (a0a : Int) (a0b : Bool) (a0c : List (List AV)) (a0cr : Rt) (a0d : List (List AV)) (a0dr : Rt) (a0e : Int) (a0f : List (List AV)) (a0fr : Rt) (a0g : List UInt8) (S0 Q) : WF C Ca 103 (Drw C Ca 103) Tryd.f103 [(.agg [(.int .i64 a0a), (.bool a0b), (.vs 1 a0c a0cr), (.vs 7 a0d a0dr), (.int .i64 a0e), (.vs 2 a0f a0fr), (.str a0g)])] S0 Q = G_tree_names Ca a0a a0b a0c a0cr a0d a0dr a0e a0f a0fr a0g S0 Q := by kernel_rfl
theorem tree_names_ok {w0 : World} {a0a : Int} {a0b : Bool} {a0c : List (List AV)} {a0cr : Rt} {a0d : List (List AV)} {a0dr : Rt} {a0e : Int} {a0f : List (List AV)} {a0fr : Rt} {a0g : List UInt8} {S0 : St} {Q : AV → St → Prop} (h : G_tree_names (ACalls (En w0)) a0a a0b a0c a0cr a0d a0dr a0e a0f a0fr a0g S0 Q) : AC w0 F_tree_names [(.agg [(.int .i64 a0a), (.bool a0b), (.vs 1 a0c a0cr), (.vs 7 a0d a0dr), (.int .i64 a0e), (.vs 2 a0f a0fr), (.str a0g)])] S0 Q := fn_ok w0 Tryd.func103 (by kernel_rfl) (by rw [tree_names_eq]; exact h)
def G_ref01_Less (Ca : Nat → List AV → St → (AV → St → Prop) → Prop) (a0 : List UInt8) (a1 : List UInt8) (S0 : St) (Q : AV → St → Prop) : Prop :=
 joinK (fun (S_2 : St) =>
 Q (.bool (decide ((List.length a0 : Int) < (List.length a1 : Int)))) S_2) fun j_2 =>
 loopQ ([(.int .i64 0)], []) (fun v bx => ([v 5], [])) (fun nx v bx S =>
 optK (binA .lss (AV.strip (v 5)) (.int .i64 (List.length a0 : Int))) fun t9 =>
 joinK (fun (x14 : AV) =>
 optK (pickA (AV.strip t9) x14 (.bool false)) fun t15 =>
 ifK (AV.strip t15)
 (optK (charA (.str a0) (AV.strip (v 5))) fun t20 =>
 optK (charA (.str a1) (AV.strip (v 5))) fun t23 =>
 optK (binA .neq t20 t23) fun t24 =>
 ifK t24
 (optK (charA (.str a0) (AV.strip (v 5))) fun t27 =>
 optK (charA (.str a1) (AV.strip (v 5))) fun t30 =>
 optK (binA .lss t27 t30) fun t31 =>
 Q t31 S)
 (optK (binA .add (AV.strip (v 5)) (.int .i64 1)) fun t17 =>
 nx ([t17], []) S))
 (j_2 S)) fun j =>
 ifK (AV.strip t9)
 (optK (binA .lss (AV.strip (v 5)) (.int .i64 (List.length a1 : Int))) fun t14 =>
 j t14)
 (j (.tup []))) S0
theorem ref01_Less_eq (Ca) (a0 : List UInt8) (a1 : List UInt8) (S0 Q) : WF C Ca 104 (Drw C Ca 104) Tryd.f104 [(.str a0), (.str a1)] S0 Q = G_ref01_Less Ca a0 a1 S0 Q := by kernel_rfl
theorem ref01_Less_ok {w0 : World} {a0 : List UInt8} {a1 : List UInt8} {S0 : St} {Q : AV → St → Prop} (h : G_ref01_Less (ACalls (En w0)) a0 a1 S0 Q) : AC w0 F_ref01_Less [(.str a0), (.str a1)] S0 Q := fn_ok w0 Tryd.func104 (by kernel_rfl) (by rw [ref01_Less_eq]; exact h)
def G_cmp_Less_string (Ca : Nat → List AV → St → (AV → St → Prop) → Prop) (a0 : List UInt8) (a1 : List UInt8) (S0 : St) (Q : AV → St → Prop) : Prop :=
 Ca F_cmp_isNaN_string [(.str a0)] S0 fun t6 S =>
 joinK (fun (x10 : AV) (S_3 : St) =>
 optK (pickA (AV.strip t6) x10 (.bool false)) fun t11 =>
 joinK (fun (x15 : AV) =>
 optK (pickA (AV.strip (AV.strip t11)) (.bool true) x15) fun t16 =>
 Q (AV.strip t16) S_3) fun j =>
 ifK (AV.strip (AV.strip t11))
 (j (.tup []))
 (j (.bool (Op.bytesLess a0 a1)))) fun j_2 =>
 ifK (AV.strip t6)
 (Ca F_cmp_isNaN_string [(.str a1)] S fun t9 S_2 =>
 optK (unA .not t9) fun t10 =>
 j_2 t10 S_2)
 (j_2 (.tup []) S)
theorem cmp_Less_string_eq (Ca) (a0 : List UInt8) (a1 : List UInt8) (S0 Q) : WF C Ca 105 (Drw C Ca 105) Tryd.f105 [(.str a0), (.str a1)] S0 Q = G_cmp_Less_string Ca a0 a1 S0 Q := by kernel_rfl
theorem cmp_Less_string_ok {w0 : World} {a0 : List UInt8} {a1 : List UInt8} {S0 : St} {Q : AV → St → Prop} (h : G_cmp_Less_string (ACalls (En w0)) a0 a1 S0 Q) : AC w0 F_cmp_Less_string [(.str a0), (.str a1)] S0 Q := fn_ok w0 Tryd.func105 (by kernel_rfl) (by rw [cmp_Less_string_eq]; exact h)
def G_slices_isNaN_string (Ca : Nat → List AV → St → (AV → St → Prop) → Prop) (a0 : List UInt8) (S0 : St) (Q : AV → St → Prop) : Prop :=
 Q (.bool (!(a0 == a0))) S0
theorem slices_isNaN_string_eq (Ca) (a0 : List UInt8) (S0 Q) : WF C Ca 106 (Drw C Ca 106) Tryd.f106 [(.str a0)] S0 Q = G_slices_isNaN_string Ca a0 S0 Q := by kernel_rfl
theorem slices_isNaN_string_ok {w0 : World} {a0 : List UInt8} {S0 : St} {Q : AV → St → Prop} (h : G_slices_isNaN_string (ACalls (En w0)) a0 S0 Q) : AC w0 F_slices_isNaN_string [(.str a0)] S0 Q := fn_ok w0 Tryd.func106 (by kernel_rfl) (by rw [slices_isNaN_string_eq]; exact h)
def G_wire_Writer_Put (Ca : Nat → List AV → St → (AV → St → Prop) → Prop) (a0 : Nat) (a0o : Nat) (a1 : Int) (a2 : Int) (S0 : St) (Q : AV → St → Prop) : Prop :=
 joinK (fun (x12 : AV) =>
 optK (pickA (.bool (decide (a2 < 1))) (.bool true) x12) fun t13 =>
 joinK (fun (x16 : AV) =>
 optK (pickA (AV.strip (AV.strip t13)) (.bool true) x16) fun t17 =>
 joinK (fun (x24 : AV) =>
 optK (pickA (AV.strip (AV.strip t17)) (.bool true) x24) fun t25 =>
 ifK (AV.strip t25)
 (Q (.bool false) S0)
 (joinK (fun (S_3 : St) =>
 Q (.bool true) S_3) fun j_4 =>
 loopQ ([(.int .i64 (IntKind.i64.wrap (a2 - 1)))], []) (fun v bx => ([v 7], [])) (fun nx v bx S =>
 optK (binA .geq (AV.strip (v 7)) (.int .i64 0)) fun t29 =>
 ifK t29
 (optK (loadA T_s_uint8 S (.ptr a0 (a0o + 0))) fun t36 =>
 optK (binA .mul (.int .i64 8) (AV.strip (v 7))) fun t39 =>
 optK (convIntA .u64 t39) fun t40 =>
 optK (binA .shr (.int .i64 a1) t40) fun t41 =>
 optK (convIntA .u8 t41) fun t42 =>
 optK (elemVals 1 [t42]) fun e43 =>
 optK (appendA T_uint8 (stripMem S (.ptr a0 (a0o + 0))) (AV.strip0 t36) (.vs 1 e43 .full)) fun t44 =>
 optK (storeA T_s_uint8 (stripMem S (.ptr a0 (a0o + 0))) (.ptr a0 (a0o + 0)) t44) fun S_2 =>
 optK (binA .sub (AV.strip (v 7)) (.int .i64 1)) fun t31 =>
 nx ([t31], []) S_2)
 (j_4 S)) S0)) fun j =>
 ifK (AV.strip (AV.strip t17))
 (j (.tup []))
 (optK (binA .shr (.int .i64 a1) (.int .u64 (IntKind.u64.wrap (IntKind.i64.wrap (8 * a2))))) fun t23 =>
 optK (binA .neq t23 (.int .i64 0)) fun t24 =>
 j t24)) fun j_2 =>
 ifK (AV.strip (AV.strip t13))
 (j_2 (.tup []))
 (j_2 (.bool (decide (a1 < 0))))) fun j_3 =>
 ifK (.bool (decide (a2 < 1)))
 (j_3 (.tup []))
 (j_3 (.bool (decide (a2 > 4))))
theorem wire_Writer_Put_eq (Ca) (a0 : Nat) (a0o : Nat) (a1 : Int) (a2 : Int) (S0 Q) : WF C Ca 107 (Drw C Ca 107) Tryd.f107 [(.ptr a0 a0o), (.int .i64 a1), (.int .i64 a2)] S0 Q = G_wire_Writer_Put Ca a0 a0o a1 a2 S0 Q := by kernel_rfl
theorem wire_Writer_Put_ok {w0 : World} {a0 : Nat} {a0o : Nat} {a1 : Int} {a2 : Int} {S0 : St} {Q : AV → St → Prop} (h : G_wire_Writer_Put (ACalls (En w0)) a0 a0o a1 a2 S0 Q) : AC w0 F_wire_Writer_Put [(.ptr a0 a0o), (.int .i64 a1), (.int .i64 a2)] S0 Q := fn_ok w0 Tryd.func107 (by kernel_rfl) (by rw [wire_Writer_Put_eq]; exact h)
def G_wire_Writer_Text (Ca : Nat → List AV → St → (AV → St → Prop) → Prop) (a0 : Nat) (a0o : Nat) (a1 : List UInt8) (a2 : Int) (S0 : St) (Q : AV → St → Prop) : Prop :=
 Ca F_wire_Writer_Put [(.ptr a0 a0o), (.int .i64 (List.length a1 : Int)), (.int .i64 a2)] S0 fun t11 S =>
 optK (unA .not t11) fun t12 =>
 ifK t12
 (Q (.bool false) S)
 (optK (loadA T_s_uint8 S (.ptr a0 (a0o + 0))) fun t17 =>
 optK (appendA T_uint8 (stripMem S (.ptr a0 (a0o + 0))) (AV.strip0 t17) (.str a1)) fun t19 =>
 optK (storeA T_s_uint8 (stripMem S (.ptr a0 (a0o + 0))) (.ptr a0 (a0o + 0)) t19) fun S_2 =>
 Q (.bool true) S_2)
theorem wire_Writer_Text_eq (Ca) (a0 : Nat) (a0o : Nat) (a1 : List UInt8) (a2 : Int) (S0 Q) : WF C Ca 108 (Drw C Ca 108) Tryd.f108 [(.ptr a0 a0o), (.str a1), (.int .i64 a2)] S0 Q = G_wire_Writer_Text Ca a0 a0o a1 a2 S0 Q := by kernel_rfl
theorem wire_Writer_Text_ok {w0 : World} {a0 : Nat} {a0o : Nat} {a1 : List UInt8} {a2 : Int} {S0 : St} {Q : AV → St → Prop} (h : G_wire_Writer_Text (ACalls (En w0)) a0 a0o a1 a2 S0 Q) : AC w0 F_wire_Writer_Text [(.ptr a0 a0o), (.str a1), (.int .i64 a2)] S0 Q := fn_ok w0 Tryd.func108 (by kernel_rfl) (by rw [wire_Writer_Text_eq]; exact h)
def G_ref02_Put (Ca : Nat → List AV → St → (AV → St → Prop) → Prop) (a0 : List UInt8) (a1 : Int) (a2 : Int) (S0 : St) (Q : AV → St → Prop) : Prop :=
 optK (makeSliceA T_uint8 false S0 (.int .i64 a2) (.int .i64 a2)) fun p10 =>
 joinK (fun (S_3 : St) =>
 optK (convBytesA S_3 (AV.strip p10.1)) fun t27 =>
 optK (binA .add (.str a0) t27) fun t28 =>
 Q t28 S_3) fun j =>
 loopQ ([(.int .i64 a1), (.int .i64 (IntKind.i64.wrap (a2 - 1)))], []) (fun v bx => ([v 1, v 8], [])) (fun nx v bx S =>
 optK (binA .geq (AV.strip (v 8)) (.int .i64 0)) fun t14 =>
 ifK t14
 (optK (binA .rem (AV.strip (v 1)) (.int .i64 256)) fun t20 =>
 optK (convIntA .u8 t20) fun t21 =>
 optK (idxSlA T_uint8 (AV.strip p10.1) (AV.strip (v 8))) fun t22 =>
 optK (storeA T_uint8 S t22 t21) fun S_2 =>
 optK (binA .quo (AV.strip (v 1)) (.int .i64 256)) fun t24 =>
 optK (binA .sub (AV.strip (v 8)) (.int .i64 1)) fun t16 =>
 nx ([t24, t16], []) S_2)
 (j S)) p10.2
theorem ref02_Put_eq (Ca) (a0 : List UInt8) (a1 : Int) (a2 : Int) (S0 Q) : WF C Ca 109 (Drw C Ca 109) Tryd.f109 [(.str a0), (.int .i64 a1), (.int .i64 a2)] S0 Q = G_ref02_Put Ca a0 a1 a2 S0 Q := by kernel_rfl
theorem ref02_Put_ok {w0 : World} {a0 : List UInt8} {a1 : Int} {a2 : Int} {S0 : St} {Q : AV → St → Prop} (h : G_ref02_Put (ACalls (En w0)) a0 a1 a2 S0 Q) : AC w0 F_ref02_Put [(.str a0), (.int .i64 a1), (.int .i64 a2)] S0 Q := fn_ok w0 Tryd.func109 (by kernel_rfl) (by rw [ref02_Put_eq]; exact h)
def G_ref05_text (Ca : Nat → List AV → St → (AV → St → Prop) → Prop) (a0 : List UInt8) (a1 : List UInt8) (a2 : Int) (S0 : St) (Q : AV → St → Prop) : Prop :=
 Ca F_ref02_Put [(.str a0), (.int .i64 (List.length a1 : Int)), (.int .i64 a2)] S0 fun t11 S =>
 optK (binA .add t11 (.str a1)) fun t13 =>
 Q t13 S
theorem ref05_text_eq (Ca) (a0 : List UInt8) (a1 : List UInt8) (a2 : Int) (S0 Q) : WF C Ca 110 (Drw C Ca 110) Tryd.f110 [(.str a0), (.str a1), (.int .i64 a2)] S0 Q = G_ref05_text Ca a0 a1 a2 S0 Q := by kernel_rfl
theorem ref05_text_ok {w0 : World} {a0 : List UInt8} {a1 : List UInt8} {a2 : Int} {S0 : St} {Q : AV → St → Prop} (h : G_ref05_text (ACalls (En w0)) a0 a1 a2 S0 Q) : AC w0 F_ref05_text [(.str a0), (.str a1), (.int .i64 a2)] S0 Q := fn_ok w0 Tryd.func110 (by kernel_rfl) (by rw [ref05_text_eq]; exact h)
def G_image_reader_number (Ca : Nat → List AV → St → (AV → St → Prop) → Prop) (a0 : Nat) (a0o : Nat) (a1 : Int) (S0 : St) (Q : AV → St → Prop) : Prop :=
 optK (loadA T_p_wire_Reader S0 (.ptr a0 (a0o + 0))) fun t11 =>
 callK Ca F_wire_Reader_Take [(AV.strip t11), (.int .i64 a1)] S0 fun t13 S =>
 optK (extractA t13 0) fun t14 =>
 optK (extractA (stripTup t13 0) 1) fun t15 =>
 optK (loadA T_bool S (.ptr a0 (a0o + 1))) fun t20 =>
 joinK (fun (x23 : AV) =>
 optK (pickA (AV.strip (AV.strip t20)) (.bool true) x23) fun t24 =>
 optK (storeA T_bool S (.ptr a0 (a0o + 1)) (AV.strip t24)) fun S_2 =>
 Q (AV.strip t14) S_2) fun j =>
 ifK (AV.strip (AV.strip t20))
 (j (.tup []))
 (optK (unA .not (AV.strip t15)) fun t23 =>
 j t23)
theorem image_reader_number_eq (Ca) (a0 : Nat) (a0o : Nat) (a1 : Int) (S0 Q) : WF C Ca 111 (Drw C Ca 111) Tryd.f111 [(.ptr a0 a0o), (.int .i64 a1)] S0 Q = G_image_reader_number Ca a0 a0o a1 S0 Q := by kernel_rfl
theorem image_reader_number_ok {w0 : World} {a0 : Nat} {a0o : Nat} {a1 : Int} {S0 : St} {Q : AV → St → Prop} (h : G_image_reader_number (ACalls (En w0)) a0 a0o a1 S0 Q) : AC w0 F_image_reader_number [(.ptr a0 a0o), (.int .i64 a1)] S0 Q := fn_ok w0 Tryd.func111 (by kernel_rfl) (by rw [image_reader_number_eq]; exact h)
def G_image_reader_text (Ca : Nat → List AV → St → (AV → St → Prop) → Prop) (a0 : Nat) (a0o : Nat) (a1 : Int) (S0 : St) (Q : AV → St → Prop) : Prop :=
 optK (loadA T_p_wire_Reader S0 (.ptr a0 (a0o + 0))) fun t11 =>
 callK Ca F_wire_Reader_Text [(AV.strip t11), (.int .i64 a1)] S0 fun t13 S =>
 optK (extractA t13 0) fun t14 =>
 optK (extractA (stripTup t13 0) 1) fun t15 =>
 optK (loadA T_bool S (.ptr a0 (a0o + 1))) fun t20 =>
 joinK (fun (x23 : AV) =>
 optK (pickA (AV.strip (AV.strip t20)) (.bool true) x23) fun t24 =>
 optK (storeA T_bool S (.ptr a0 (a0o + 1)) (AV.strip t24)) fun S_2 =>
 Q (AV.strip t14) S_2) fun j =>
 ifK (AV.strip (AV.strip t20))
 (j (.tup []))
 (optK (unA .not (AV.strip t15)) fun t23 =>
 j t23)
theorem image_reader_text_eq (Ca) (a0 : Nat) (a0o : Nat) (a1 : Int) (S0 Q) : WF C Ca 112 (Drw C Ca 112) Tryd.f112 [(.ptr a0 a0o), (.int .i64 a1)] S0 Q = G_image_reader_text Ca a0 a0o a1 S0 Q := by kernel_rfl
theorem image_reader_text_ok {w0 : World} {a0 : Nat} {a0o : Nat} {a1 : Int} {S0 : St} {Q : AV → St → Prop} (h : G_image_reader_text (ACalls (En w0)) a0 a0o a1 S0 Q) : AC w0 F_image_reader_text [(.ptr a0 a0o), (.int .i64 a1)] S0 Q := fn_ok w0 Tryd.func112 (by kernel_rfl) (by rw [image_reader_text_eq]; exact h)
def G_ref05_number (Ca : Nat → List AV → St → (AV → St → Prop) → Prop) (a0 : List UInt8) (a1 : Int) (a2 : Int) (S0 : St) (Q : AV → St → Prop) : Prop :=
 joinK (fun (x15 : AV) =>
 optK (pickA (.bool (decide (a1 < 0))) (.bool true) x15) fun t16 =>
 ifK (AV.strip t16)
 (Q (.int .i64 (-1)) S0)
 (optK (cutStrA (.str a0) (some (.int .i64 a1)) (some (.int .i64 (IntKind.i64.wrap (a1 + a2))))) fun t22 =>
 callK Ca F_ref02_Get [t22] S0 fun t23 S =>
 Q t23 S)) fun j =>
 ifK (.bool (decide (a1 < 0)))
 (j (.tup []))
 (j (.bool (decide ((IntKind.i64.wrap (a1 + a2)) > (List.length a0 : Int)))))
theorem ref05_number_eq (Ca) (a0 : List UInt8) (a1 : Int) (a2 : Int) (S0 Q) : WF C Ca 113 (Drw C Ca 113) Tryd.f113 [(.str a0), (.int .i64 a1), (.int .i64 a2)] S0 Q = G_ref05_number Ca a0 a1 a2 S0 Q := by kernel_rfl
theorem ref05_number_ok {w0 : World} {a0 : List UInt8} {a1 : Int} {a2 : Int} {S0 : St} {Q : AV → St → Prop} (h : G_ref05_number (ACalls (En w0)) a0 a1 a2 S0 Q) : AC w0 F_ref05_number [(.str a0), (.int .i64 a1), (.int .i64 a2)] S0 Q := fn_ok w0 Tryd.func113 (by kernel_rfl) (by rw [ref05_number_eq]; exact h)
def G_branch_Branch_at (Ca : Nat → List AV → St → (AV → St → Prop) → Prop) (a0 : Nat) (a0o : Nat) (a1 : Int) (S0 : St) (Q : AV → St → Prop) : Prop :=
 joinK (fun (x14 : AV) =>
 optK (pickA (.bool (decide (a1 < 0))) (.bool true) x14) fun t15 =>
 ifK (AV.strip t15)
 (Q (.agg [(.int .i64 0), (.bool false), (.vs 1 [] .nil), (.vs 7 [] .nil), (.int .i64 0), (.vs 2 [] .nil), (.str []), (.vs 1 [] .nil)]) S0)
 (optK (loadA T_s_branch_inode S0 (.ptr a0 (a0o + 0))) fun t20 =>
 optK (idxSlA T_branch_inode (AV.strip t20) (.int .i64 a1)) fun t22 =>
 optK (loadA T_branch_inode S0 t22) fun t23 =>
 optK (lstoreA T_branch_inode (some [(.int .i64 0), (.bool false), (.vs 1 [] .nil), (.vs 7 [] .nil), (.int .i64 0), (.vs 2 [] .nil), (.str []), (.vs 1 [] .nil)]) 0 (AV.strip t23)) fun b4 =>
 optK ((lloadA T_branch_inode (some b4) 0).map AV.strip) fun r4 =>
 Q r4 S0)) fun j =>
 ifK (.bool (decide (a1 < 0)))
 (j (.tup []))
 (optK (loadA T_s_branch_inode S0 (.ptr a0 (a0o + 0))) fun t12 =>
 optK (lenSlA (AV.strip t12)) fun t13 =>
 optK (binA .geq (.int .i64 a1) t13) fun t14 =>
 j t14)
theorem branch_Branch_at_eq (Ca) (a0 : Nat) (a0o : Nat) (a1 : Int) (S0 Q) : WF C Ca 114 (Drw C Ca 114) Tryd.f114 [(.ptr a0 a0o), (.int .i64 a1)] S0 Q = G_branch_Branch_at Ca a0 a0o a1 S0 Q := by kernel_rfl
theorem branch_Branch_at_ok {w0 : World} {a0 : Nat} {a0o : Nat} {a1 : Int} {S0 : St} {Q : AV → St → Prop} (h : G_branch_Branch_at (ACalls (En w0)) a0 a0o a1 S0 Q) : AC w0 F_branch_Branch_at [(.ptr a0 a0o), (.int .i64 a1)] S0 Q := fn_ok w0 Tryd.func114 (by kernel_rfl) (by rw [branch_Branch_at_eq]; exact h)
def G_cmp_isNaN_string (Ca : Nat → List AV → St → (AV → St → Prop) → Prop) (a0 : List UInt8) (S0 : St) (Q : AV → St → Prop) : Prop :=
 Q (.bool (!(a0 == a0))) S0
theorem cmp_isNaN_string_eq (Ca) (a0 : List UInt8) (S0 Q) : WF C Ca 124 (Drw C Ca 124) Tryd.f124 [(.str a0)] S0 Q = G_cmp_isNaN_string Ca a0 S0 Q := by kernel_rfl
theorem cmp_isNaN_string_ok {w0 : World} {a0 : List UInt8} {S0 : St} {Q : AV → St → Prop} (h : G_cmp_isNaN_string (ACalls (En w0)) a0 S0 Q) : AC w0 F_cmp_isNaN_string [(.str a0)] S0 Q := fn_ok w0 Tryd.func124 (by kernel_rfl) (by rw [cmp_isNaN_string_eq]; exact h)
def G_wire_Reader_Take (Ca : Nat → List AV → St → (AV → St → Prop) → Prop) (a0 : Nat) (a0o : Nat) (a1 : Int) (S0 : St) (Q : AV → St → Prop) : Prop :=
 joinK (fun (x12 : AV) =>
 optK (pickA (.bool (decide (a1 < 1))) (.bool true) x12) fun t13 =>
 joinK (fun (x21 : AV) =>
 optK (pickA (AV.strip (AV.strip t13)) (.bool true) x21) fun t22 =>
 ifK (AV.strip t22)
 (Q (.tup [(.int .i64 0), (.bool false)]) S0)
 (joinK (fun (x6 : AV) (S_2 : St) =>
 optK (loadA T_string S_2 (.ptr a0 (a0o + 0))) fun t42 =>
 optK (cutStrA (AV.strip0 t42) (some (.int .i64 a1)) none) fun t44 =>
 optK (storeA T_string (stripMem S_2 (.ptr a0 (a0o + 0))) (.ptr a0 (a0o + 0)) t44) fun S_3 =>
 Q (.tup [(AV.flat (AV.strip x6)), (.bool true)]) S_3) fun j_3 =>
 loopQ ([(.int .i64 0), (.int .i64 0)], []) (fun v bx => ([v 6, v 24], [])) (fun nx v bx S =>
 optK (binA .lss (v 24) (.int .i64 a1)) fun t25 =>
 ifK t25
 (optK (binA .shl (AV.strip (v 6)) (.int .u64 8)) fun t28 =>
 optK (loadA T_string S (.ptr a0 (a0o + 0))) fun t32 =>
 optK (charA (AV.strip t32) (AV.strip (AV.strip (v 24)))) fun t34 =>
 optK (convIntA .i64 t34) fun t35 =>
 optK (binA .or t28 t35) fun t36 =>
 optK (binA .add (v 24) (.int .i64 1)) fun t37 =>
 nx ([t36, (AV.strip t37)], []) S)
 (j_3 (v 6) S)) S0)) fun j =>
 ifK (AV.strip (AV.strip t13))
 (j (.tup []))
 (optK (loadA T_string S0 (.ptr a0 (a0o + 0))) fun t19 =>
 optK (lenStrA (AV.strip t19)) fun t20 =>
 optK (binA .gtr (.int .i64 a1) t20) fun t21 =>
 j t21)) fun j_2 =>
 ifK (.bool (decide (a1 < 1)))
 (j_2 (.tup []))
 (j_2 (.bool (decide (a1 > 4))))
theorem wire_Reader_Take_eq (Ca) (a0 : Nat) (a0o : Nat) (a1 : Int) (S0 Q) : WF C Ca 125 (Drw C Ca 125) Tryd.f125 [(.ptr a0 a0o), (.int .i64 a1)] S0 Q = G_wire_Reader_Take Ca a0 a0o a1 S0 Q := by kernel_rfl
theorem wire_Reader_Take_ok {w0 : World} {a0 : Nat} {a0o : Nat} {a1 : Int} {S0 : St} {Q : AV → St → Prop} (h : G_wire_Reader_Take (ACalls (En w0)) a0 a0o a1 S0 Q) : AC w0 F_wire_Reader_Take [(.ptr a0 a0o), (.int .i64 a1)] S0 Q := fn_ok w0 Tryd.func125 (by kernel_rfl) (by rw [wire_Reader_Take_eq]; exact h)
def G_wire_Reader_Text (Ca : Nat → List AV → St → (AV → St → Prop) → Prop) (a0 : Nat) (a0o : Nat) (a1 : Int) (S0 : St) (Q : AV → St → Prop) : Prop :=
 optK (loadA T_string S0 (.ptr a0 (a0o + 0))) fun t13 =>
 Ca F_wire_Reader_Take [(.ptr a0 a0o), (.int .i64 a1)] S0 fun t17 S =>
 optK (extractA t17 0) fun t18 =>
 optK (extractA (stripTup t17 0) 1) fun t19 =>
 optK (unA .not (AV.strip t19)) fun t21 =>
 joinK (fun (x29 : AV) =>
 optK (pickA (AV.strip t21) (.bool true) x29) fun t30 =>
 ifK (AV.strip t30)
 (optK (storeA T_string S (.ptr a0 (a0o + 0)) (AV.strip (AV.strip t13))) fun S_2 =>
 Q (.tup [(.str []), (.bool false)]) S_2)
 (optK (loadA T_string S (.ptr a0 (a0o + 0))) fun t38 =>
 optK (cutStrA (AV.strip0 t38) none (some (AV.strip t18))) fun t40 =>
 optK (loadA T_string (stripMem S (.ptr a0 (a0o + 0))) (.ptr a0 (a0o + 0))) fun t45 =>
 optK (cutStrA (AV.strip0 t45) (some (AV.strip t18)) none) fun t47 =>
 optK (storeA T_string (stripMem (stripMem S (.ptr a0 (a0o + 0))) (.ptr a0 (a0o + 0))) (.ptr a0 (a0o + 0)) t47) fun S_3 =>
 Q (.tup [(AV.flat (AV.strip t40)), (.bool true)]) S_3)) fun j =>
 ifK (AV.strip t21)
 (j (.tup []))
 (optK (loadA T_string S (.ptr a0 (a0o + 0))) fun t27 =>
 optK (lenStrA (AV.strip t27)) fun t28 =>
 optK (binA .gtr (AV.strip t18) t28) fun t29 =>
 j t29)
theorem wire_Reader_Text_eq (Ca) (a0 : Nat) (a0o : Nat) (a1 : Int) (S0 Q) : WF C Ca 126 (Drw C Ca 126) Tryd.f126 [(.ptr a0 a0o), (.int .i64 a1)] S0 Q = G_wire_Reader_Text Ca a0 a0o a1 S0 Q := by kernel_rfl
theorem wire_Reader_Text_ok {w0 : World} {a0 : Nat} {a0o : Nat} {a1 : Int} {S0 : St} {Q : AV → St → Prop} (h : G_wire_Reader_Text (ACalls (En w0)) a0 a0o a1 S0 Q) : AC w0 F_wire_Reader_Text [(.ptr a0 a0o), (.int .i64 a1)] S0 Q := fn_ok w0 Tryd.func126 (by kernel_rfl) (by rw [wire_Reader_Text_eq]; exact h)
def G_ref02_Get (Ca : Nat → List AV → St → (AV → St → Prop) → Prop) (a0 : List UInt8) (S0 : St) (Q : AV → St → Prop) : Prop :=
 joinK (fun (x3 : AV) (S_2 : St) =>
 Q (AV.strip x3) S_2) fun j =>
 loopQ ([(.int .i64 0), (.int .i64 0)], []) (fun v bx => ([v 3, v 4], [])) (fun nx v bx S =>
 optK (binA .lss (AV.strip (v 4)) (.int .i64 (List.length a0 : Int))) fun t8 =>
 ifK t8
 (optK (binA .mul (AV.strip (v 3)) (.int .i64 256)) fun t12 =>
 optK (charA (.str a0) (AV.strip (v 4))) fun t15 =>
 optK (convIntA .i64 t15) fun t16 =>
 optK (binA .add t12 t16) fun t17 =>
 optK (binA .add (AV.strip (v 4)) (.int .i64 1)) fun t10 =>
 nx ([t17, t10], []) S)
 (j (v 3) S)) S0
theorem ref02_Get_eq (Ca) (a0 : List UInt8) (S0 Q) : WF C Ca 127 (Drw C Ca 127) Tryd.f127 [(.str a0)] S0 Q = G_ref02_Get Ca a0 S0 Q := by kernel_rfl
theorem ref02_Get_ok {w0 : World} {a0 : List UInt8} {S0 : St} {Q : AV → St → Prop} (h : G_ref02_Get (ACalls (En w0)) a0 S0 Q) : AC w0 F_ref02_Get [(.str a0)] S0 Q := fn_ok w0 Tryd.func127 (by kernel_rfl) (by rw [ref02_Get_eq]; exact h)
end Go.Av
