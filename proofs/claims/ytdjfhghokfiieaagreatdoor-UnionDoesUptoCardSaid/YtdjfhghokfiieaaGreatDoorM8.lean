/- Parts of the proofs of this seat: abstract values over the model, and what the functions of the program do. No condition. -/
import Derived.Test.YtdjfhghokfiieaaGreatDoorM7
import Derived.Test.YtdjfhghokfiieaaGreatDoorM6
import Derived.Test.YtdjfhghokfiieaaGreatDoorProg
import Derived.KernelRfl
set_option linter.all false
set_option linter.unusedVariables false
set_option maxRecDepth 100000
namespace Go.Av
open Go.Proofs
abbrev t_int : Nat := 3
abbrev t_uint8 : Nat := 5
abbrev t_string : Nat := 9
abbrev t_s_api_Node : Nat := 22
abbrev t_walk_Target : Nat := 40
abbrev t_s_string : Nat := 44
abbrev t_api_Op : Nat := 49
abbrev t_api_Node : Nat := 73
abbrev t_walk_Walker : Nat := 141
abbrev t_api_Extent : Nat := 172
abbrev t_branch_Branch : Nat := 178
abbrev t_strings_Builder : Nat := 183
abbrev t_image_reader : Nat := 214
abbrev t_wire_Reader : Nat := 240
abbrev F_law12_UnionDoes : Nat := 4
abbrev F_law08_May : Nat := 9
abbrev F_law08_Stack : Nat := 10
abbrev F_walk_Walk : Nat := 12
abbrev F_union_Do : Nat := 13
abbrev F_law12_speaks : Nat := 14
abbrev F_ref12_Same : Nat := 15
abbrev F_ref12_Do : Nat := 16
abbrev F_law08_Above : Nat := 17
abbrev F_law12_IDs : Nat := 18
abbrev F_union_Is : Nat := 19
abbrev F_union_Follows : Nat := 20
abbrev F_union_Check : Nat := 21
abbrev F_union_Finish : Nat := 22
abbrev F_stack_Stack_Len : Nat := 29
abbrev F_stack_Of : Nat := 31
abbrev F_tree_Dir : Nat := 32
abbrev F_tree_Text : Nat := 33
abbrev F_law04_Small : Nat := 34
abbrev F_ref04_Right : Nat := 35
abbrev F_stack_Stack_ID : Nat := 36
abbrev F_walk_New : Nat := 37
abbrev F_seen_Root : Nat := 38
abbrev F_walk_Walker_Ask : Nat := 39
abbrev F_walk_Walker_Target : Nat := 40
abbrev F_seen_Look : Nat := 41
abbrev F_stack_Stack_At : Nat := 42
abbrev F_branch_Branch_Target : Nat := 43
abbrev F_walk_Walker_Tell : Nat := 44
abbrev F_union_fault : Nat := 45
abbrev F_ref12_fault : Nat := 46
abbrev F_ref11_Walk : Nat := 47
abbrev F_ref12_level : Nat := 48
abbrev F_ref03_Read : Nat := 49
abbrev F_branch_Branch_Size : Nat := 50
abbrev F_branch_Branch_Read : Nat := 51
abbrev F_stack_Stack_Add : Nat := 57
abbrev F_branch_New : Nat := 59
abbrev F_slices_Clone_s_string_string : Nat := 60
abbrev F_slices_Clone_s_api_Node_api_Node : Nat := 61
abbrev F_extent_Of : Nat := 62
abbrev F_law04_small : Nat := 63
abbrev F_ref04_all : Nat := 64
abbrev F_ref04_Count : Nat := 65
abbrev F_ref04_Depth : Nat := 66
abbrev F_name_Split : Nat := 67
abbrev F_branch_Branch_Opaque : Nat := 68
abbrev F_walk_Walker_at : Nat := 69
abbrev F_branch_Branch_Look : Nat := 70
abbrev F_branch_Branch_Kind : Nat := 71
abbrev F_branch_Branch_at : Nat := 72
abbrev F_walk_Walker_link : Nat := 73
abbrev F_name_Child : Nat := 74
abbrev F_ref01_Split : Nat := 75
abbrev F_ref11_along : Nat := 76
abbrev F_ref04_Find : Nat := 77
abbrev F_ref03_At : Nat := 78
abbrev F_extent_Read : Nat := 79
abbrev F_ref08_Seen : Nat := 84
abbrev F_strings_Split : Nat := 85
abbrev F_tree_Right : Nat := 91
abbrev F_branch_Branch_add : Nat := 92
abbrev F_ref04_One : Nat := 93
abbrev F_name_Right : Nat := 94
abbrev F_slices_BinarySearch_s_string_string : Nat := 95
abbrev F_ref01_Right : Nat := 96
abbrev F_ref11_here : Nat := 97
abbrev F_strings_Builder_Len : Nat := 98
abbrev F_strings_Builder_WriteString : Nat := 99
abbrev F_strings_Repeat : Nat := 100
abbrev F_strings_Builder_String : Nat := 101
abbrev F_heap_heads_Len : Nat := 104
abbrev F_ref01_Less : Nat := 107
abbrev F_ref08_Entries : Nat := 108
abbrev F_ref08_Dirs : Nat := 109
abbrev F_tree_right : Nat := 118
abbrev F_slices_Clone_s_api_Extent_api_Extent : Nat := 119
abbrev F_ref03_Right : Nat := 120
abbrev F_ref04_entries : Nat := 121
abbrev F_strings_ContainsAny : Nat := 122
abbrev F_cmp_Less_string : Nat := 123
abbrev F_slices_isNaN_string : Nat := 124
abbrev F_strings_Builder_copyCheck : Nat := 125
abbrev F_tree_zero : Nat := 142
abbrev F_extent_Right : Nat := 143
abbrev F_tree_names : Nat := 144
abbrev F_cmp_isNaN_string : Nat := 146
abbrev F_heap_heads_Less : Nat := 220
abbrev F_heap_heads_Pop : Nat := 221
abbrev F_heap_heads_Swap : Nat := 222
def T_func : TI := { size := 1, bytes := 8, agg := false, zero := [.nilfn], kind := .func, id := 1 }
@[simp] theorem T_func_size : T_func.size = 1 := rfl
@[simp] theorem T_func_agg : T_func.agg = false := rfl
@[simp] theorem T_func_zero : T_func.zero = [.nilfn] := rfl
@[simp] theorem T_func_kind : T_func.kind = .func := rfl
def T_int64 : TI := { size := 1, bytes := 8, agg := false, zero := [.int .i64 0], kind := .int .i64, id := 2 }
@[simp] theorem T_int64_size : T_int64.size = 1 := rfl
@[simp] theorem T_int64_agg : T_int64.agg = false := rfl
@[simp] theorem T_int64_zero : T_int64.zero = [.int .i64 0] := rfl
@[simp] theorem T_int64_kind : T_int64.kind = .int .i64 := rfl
def T_int : TI := { size := 1, bytes := 8, agg := false, zero := [.int .i64 0], kind := .int .i64, id := 3 }
@[simp] theorem T_int_size : T_int.size = 1 := rfl
@[simp] theorem T_int_agg : T_int.agg = false := rfl
@[simp] theorem T_int_zero : T_int.zero = [.int .i64 0] := rfl
@[simp] theorem T_int_kind : T_int.kind = .int .i64 := rfl
@[simp] theorem T_int_id : T_int.id = t_int := rfl
def T_bool : TI := { size := 1, bytes := 1, agg := false, zero := [.bool false], kind := .bool, id := 4 }
@[simp] theorem T_bool_size : T_bool.size = 1 := rfl
@[simp] theorem T_bool_agg : T_bool.agg = false := rfl
@[simp] theorem T_bool_zero : T_bool.zero = [.bool false] := rfl
@[simp] theorem T_bool_kind : T_bool.kind = .bool := rfl
def T_uint8 : TI := { size := 1, bytes := 1, agg := false, zero := [.int .u8 0], kind := .int .u8, id := 5 }
@[simp] theorem T_uint8_size : T_uint8.size = 1 := rfl
@[simp] theorem T_uint8_agg : T_uint8.agg = false := rfl
@[simp] theorem T_uint8_zero : T_uint8.zero = [.int .u8 0] := rfl
@[simp] theorem T_uint8_kind : T_uint8.kind = .int .u8 := rfl
@[simp] theorem T_uint8_id : T_uint8.id = t_uint8 := rfl
def T_abi_BoundsErrorCode : TI := { size := 1, bytes := 1, agg := false, zero := [.int .u8 0], kind := .int .u8, id := 6 }
@[simp] theorem T_abi_BoundsErrorCode_size : T_abi_BoundsErrorCode.size = 1 := rfl
@[simp] theorem T_abi_BoundsErrorCode_agg : T_abi_BoundsErrorCode.agg = false := rfl
@[simp] theorem T_abi_BoundsErrorCode_zero : T_abi_BoundsErrorCode.zero = [.int .u8 0] := rfl
@[simp] theorem T_abi_BoundsErrorCode_kind : T_abi_BoundsErrorCode.kind = .int .u8 := rfl
def T_struct_x_int64_y_int_signed_bool_code_abi_BoundsErrorCode : TI := { size := 4, bytes := 24, agg := true, zero := [.int .i64 0, .int .i64 0, .bool false, .int .u8 0], kind := .struct [(0, 2, 1), (1, 3, 1), (2, 4, 1), (3, 6, 1)], id := 7 }
@[simp] theorem T_struct_x_int64_y_int_signed_bool_code_abi_BoundsErrorCode_size : T_struct_x_int64_y_int_signed_bool_code_abi_BoundsErrorCode.size = 4 := rfl
@[simp] theorem T_struct_x_int64_y_int_signed_bool_code_abi_BoundsErrorCode_agg : T_struct_x_int64_y_int_signed_bool_code_abi_BoundsErrorCode.agg = true := rfl
@[simp] theorem T_struct_x_int64_y_int_signed_bool_code_abi_BoundsErrorCode_zero : T_struct_x_int64_y_int_signed_bool_code_abi_BoundsErrorCode.zero = [.int .i64 0, .int .i64 0, .bool false, .int .u8 0] := rfl
@[simp] theorem T_struct_x_int64_y_int_signed_bool_code_abi_BoundsErrorCode_kind : T_struct_x_int64_y_int_signed_bool_code_abi_BoundsErrorCode.kind = .struct [(0, 2, 1), (1, 3, 1), (2, 4, 1), (3, 6, 1)] := rfl
def T_runtime_boundsError : TI := { size := 4, bytes := 24, agg := true, zero := [.int .i64 0, .int .i64 0, .bool false, .int .u8 0], kind := .struct [(0, 2, 1), (1, 3, 1), (2, 4, 1), (3, 6, 1)], id := 8 }
@[simp] theorem T_runtime_boundsError_size : T_runtime_boundsError.size = 4 := rfl
@[simp] theorem T_runtime_boundsError_agg : T_runtime_boundsError.agg = true := rfl
@[simp] theorem T_runtime_boundsError_zero : T_runtime_boundsError.zero = [.int .i64 0, .int .i64 0, .bool false, .int .u8 0] := rfl
@[simp] theorem T_runtime_boundsError_kind : T_runtime_boundsError.kind = .struct [(0, 2, 1), (1, 3, 1), (2, 4, 1), (3, 6, 1)] := rfl
def T_string : TI := { size := 1, bytes := 16, agg := false, zero := [.str []], kind := .str, id := 9 }
@[simp] theorem T_string_size : T_string.size = 1 := rfl
@[simp] theorem T_string_agg : T_string.agg = false := rfl
@[simp] theorem T_string_zero : T_string.zero = [.str []] := rfl
@[simp] theorem T_string_kind : T_string.kind = .str := rfl
@[simp] theorem T_string_id : T_string.id = t_string := rfl
def T_runtime_errorString : TI := { size := 1, bytes := 16, agg := false, zero := [.str []], kind := .str, id := 10 }
@[simp] theorem T_runtime_errorString_size : T_runtime_errorString.size = 1 := rfl
@[simp] theorem T_runtime_errorString_agg : T_runtime_errorString.agg = false := rfl
@[simp] theorem T_runtime_errorString_zero : T_runtime_errorString.zero = [.str []] := rfl
@[simp] theorem T_runtime_errorString_kind : T_runtime_errorString.kind = .str := rfl
def T_runtime_plainError : TI := { size := 1, bytes := 16, agg := false, zero := [.str []], kind := .str, id := 11 }
@[simp] theorem T_runtime_plainError_size : T_runtime_plainError.size = 1 := rfl
@[simp] theorem T_runtime_plainError_agg : T_runtime_plainError.agg = false := rfl
@[simp] theorem T_runtime_plainError_zero : T_runtime_plainError.zero = [.str []] := rfl
@[simp] theorem T_runtime_plainError_kind : T_runtime_plainError.kind = .str := rfl
def T_uintptr : TI := { size := 1, bytes := 8, agg := false, zero := [.int .u64 0], kind := .int .u64, id := 12 }
@[simp] theorem T_uintptr_size : T_uintptr.size = 1 := rfl
@[simp] theorem T_uintptr_agg : T_uintptr.agg = false := rfl
@[simp] theorem T_uintptr_zero : T_uintptr.zero = [.int .u64 0] := rfl
@[simp] theorem T_uintptr_kind : T_uintptr.kind = .int .u64 := rfl
def T_struct_msg_string_addr_uintptr : TI := { size := 2, bytes := 24, agg := true, zero := [.str [], .int .u64 0], kind := .struct [(0, 9, 1), (1, 12, 1)], id := 13 }
@[simp] theorem T_struct_msg_string_addr_uintptr_size : T_struct_msg_string_addr_uintptr.size = 2 := rfl
@[simp] theorem T_struct_msg_string_addr_uintptr_agg : T_struct_msg_string_addr_uintptr.agg = true := rfl
@[simp] theorem T_struct_msg_string_addr_uintptr_zero : T_struct_msg_string_addr_uintptr.zero = [.str [], .int .u64 0] := rfl
@[simp] theorem T_struct_msg_string_addr_uintptr_kind : T_struct_msg_string_addr_uintptr.kind = .struct [(0, 9, 1), (1, 12, 1)] := rfl
def T_runtime_errorAddressString : TI := { size := 2, bytes := 24, agg := true, zero := [.str [], .int .u64 0], kind := .struct [(0, 9, 1), (1, 12, 1)], id := 14 }
@[simp] theorem T_runtime_errorAddressString_size : T_runtime_errorAddressString.size = 2 := rfl
@[simp] theorem T_runtime_errorAddressString_agg : T_runtime_errorAddressString.agg = true := rfl
@[simp] theorem T_runtime_errorAddressString_zero : T_runtime_errorAddressString.zero = [.str [], .int .u64 0] := rfl
@[simp] theorem T_runtime_errorAddressString_kind : T_runtime_errorAddressString.kind = .struct [(0, 9, 1), (1, 12, 1)] := rfl
def T_p_runtime_TypeAssertionError : TI := { size := 1, bytes := 8, agg := false, zero := [.nil], kind := .ptr 301, id := 15 }
@[simp] theorem T_p_runtime_TypeAssertionError_size : T_p_runtime_TypeAssertionError.size = 1 := rfl
@[simp] theorem T_p_runtime_TypeAssertionError_agg : T_p_runtime_TypeAssertionError.agg = false := rfl
@[simp] theorem T_p_runtime_TypeAssertionError_zero : T_p_runtime_TypeAssertionError.zero = [.nil] := rfl
@[simp] theorem T_p_runtime_TypeAssertionError_kind : T_p_runtime_TypeAssertionError.kind = .ptr 301 := rfl
def T_p_runtime_PanicNilError : TI := { size := 1, bytes := 8, agg := false, zero := [.nil], kind := .ptr 304, id := 16 }
@[simp] theorem T_p_runtime_PanicNilError_size : T_p_runtime_PanicNilError.size = 1 := rfl
@[simp] theorem T_p_runtime_PanicNilError_agg : T_p_runtime_PanicNilError.agg = false := rfl
@[simp] theorem T_p_runtime_PanicNilError_zero : T_p_runtime_PanicNilError.zero = [.nil] := rfl
@[simp] theorem T_p_runtime_PanicNilError_kind : T_p_runtime_PanicNilError.kind = .ptr 304 := rfl
def T_p_abi_Type : TI := { size := 1, bytes := 8, agg := false, zero := [.nil], kind := .ptr 311, id := 17 }
@[simp] theorem T_p_abi_Type_size : T_p_abi_Type.size = 1 := rfl
@[simp] theorem T_p_abi_Type_agg : T_p_abi_Type.agg = false := rfl
@[simp] theorem T_p_abi_Type_zero : T_p_abi_Type.zero = [.nil] := rfl
@[simp] theorem T_p_abi_Type_kind : T_p_abi_Type.kind = .ptr 311 := rfl
def T_struct_typ_p_abi_Type : TI := { size := 1, bytes := 8, agg := true, zero := [.nil], kind := .struct [(0, 17, 1)], id := 18 }
@[simp] theorem T_struct_typ_p_abi_Type_size : T_struct_typ_p_abi_Type.size = 1 := rfl
@[simp] theorem T_struct_typ_p_abi_Type_agg : T_struct_typ_p_abi_Type.agg = true := rfl
@[simp] theorem T_struct_typ_p_abi_Type_zero : T_struct_typ_p_abi_Type.zero = [.nil] := rfl
@[simp] theorem T_struct_typ_p_abi_Type_kind : T_struct_typ_p_abi_Type.kind = .struct [(0, 17, 1)] := rfl
def T_maps_unhashableTypeError : TI := { size := 1, bytes := 8, agg := true, zero := [.nil], kind := .struct [(0, 17, 1)], id := 19 }
@[simp] theorem T_maps_unhashableTypeError_size : T_maps_unhashableTypeError.size = 1 := rfl
@[simp] theorem T_maps_unhashableTypeError_agg : T_maps_unhashableTypeError.agg = true := rfl
@[simp] theorem T_maps_unhashableTypeError_zero : T_maps_unhashableTypeError.zero = [.nil] := rfl
@[simp] theorem T_maps_unhashableTypeError_kind : T_maps_unhashableTypeError.kind = .struct [(0, 17, 1)] := rfl
def T_interface : TI := { size := 1, bytes := 16, agg := false, zero := [.nilifc], kind := .iface, id := 20 }
@[simp] theorem T_interface_size : T_interface.size = 1 := rfl
@[simp] theorem T_interface_agg : T_interface.agg = false := rfl
@[simp] theorem T_interface_zero : T_interface.zero = [.nilifc] := rfl
@[simp] theorem T_interface_kind : T_interface.kind = .iface := rfl
def T_int32 : TI := { size := 1, bytes := 4, agg := false, zero := [.int .i32 0], kind := .int .i32, id := 21 }
@[simp] theorem T_int32_size : T_int32.size = 1 := rfl
@[simp] theorem T_int32_agg : T_int32.agg = false := rfl
@[simp] theorem T_int32_zero : T_int32.zero = [.int .i32 0] := rfl
@[simp] theorem T_int32_kind : T_int32.kind = .int .i32 := rfl
def T_s_api_Node : TI := { size := 1, bytes := 24, agg := false, zero := [.vs 7 [] .nil], kind := .slice 73, id := 22 }
@[simp] theorem T_s_api_Node_size : T_s_api_Node.size = 1 := rfl
@[simp] theorem T_s_api_Node_agg : T_s_api_Node.agg = false := rfl
@[simp] theorem T_s_api_Node_zero : T_s_api_Node.zero = [.vs 7 [] .nil] := rfl
@[simp] theorem T_s_api_Node_kind : T_s_api_Node.kind = .slice 73 := rfl
@[simp] theorem T_s_api_Node_id : T_s_api_Node.id = t_s_api_Node := rfl
def T_struct_Trees_s_api_Node_Path_string_Follow_bool : TI := { size := 3, bytes := 48, agg := true, zero := [.vs 7 [] .nil, .str [], .bool false], kind := .struct [(0, 22, 1), (1, 9, 1), (2, 4, 1)], id := 23 }
@[simp] theorem T_struct_Trees_s_api_Node_Path_string_Follow_bool_size : T_struct_Trees_s_api_Node_Path_string_Follow_bool.size = 3 := rfl
@[simp] theorem T_struct_Trees_s_api_Node_Path_string_Follow_bool_agg : T_struct_Trees_s_api_Node_Path_string_Follow_bool.agg = true := rfl
@[simp] theorem T_struct_Trees_s_api_Node_Path_string_Follow_bool_zero : T_struct_Trees_s_api_Node_Path_string_Follow_bool.zero = [.vs 7 [] .nil, .str [], .bool false] := rfl
@[simp] theorem T_struct_Trees_s_api_Node_Path_string_Follow_bool_kind : T_struct_Trees_s_api_Node_Path_string_Follow_bool.kind = .struct [(0, 22, 1), (1, 9, 1), (2, 4, 1)] := rfl
def T_socagelaw11_Case : TI := { size := 3, bytes := 48, agg := true, zero := [.vs 7 [] .nil, .str [], .bool false], kind := .struct [(0, 22, 1), (1, 9, 1), (2, 4, 1)], id := 24 }
@[simp] theorem T_socagelaw11_Case_size : T_socagelaw11_Case.size = 3 := rfl
@[simp] theorem T_socagelaw11_Case_agg : T_socagelaw11_Case.agg = true := rfl
@[simp] theorem T_socagelaw11_Case_zero : T_socagelaw11_Case.zero = [.vs 7 [] .nil, .str [], .bool false] := rfl
@[simp] theorem T_socagelaw11_Case_kind : T_socagelaw11_Case.kind = .struct [(0, 22, 1), (1, 9, 1), (2, 4, 1)] := rfl
def T_func_bool : TI := { size := 1, bytes := 8, agg := false, zero := [.nilfn], kind := .func, id := 25 }
@[simp] theorem T_func_bool_size : T_func_bool.size = 1 := rfl
@[simp] theorem T_func_bool_agg : T_func_bool.agg = false := rfl
@[simp] theorem T_func_bool_zero : T_func_bool.zero = [.nilfn] := rfl
@[simp] theorem T_func_bool_kind : T_func_bool.kind = .func := rfl
def T_func_s_api_Node_int : TI := { size := 1, bytes := 8, agg := false, zero := [.nilfn], kind := .func, id := 26 }
@[simp] theorem T_func_s_api_Node_int_size : T_func_s_api_Node_int.size = 1 := rfl
@[simp] theorem T_func_s_api_Node_int_agg : T_func_s_api_Node_int.agg = false := rfl
@[simp] theorem T_func_s_api_Node_int_zero : T_func_s_api_Node_int.zero = [.nilfn] := rfl
@[simp] theorem T_func_s_api_Node_int_kind : T_func_s_api_Node_int.kind = .func := rfl
def T_s_stack_mount : TI := { size := 1, bytes := 24, agg := false, zero := [.vs 2 [] .nil], kind := .slice 133, id := 27 }
@[simp] theorem T_s_stack_mount_size : T_s_stack_mount.size = 1 := rfl
@[simp] theorem T_s_stack_mount_agg : T_s_stack_mount.agg = false := rfl
@[simp] theorem T_s_stack_mount_zero : T_s_stack_mount.zero = [.vs 2 [] .nil] := rfl
@[simp] theorem T_s_stack_mount_kind : T_s_stack_mount.kind = .slice 133 := rfl
def T_struct_l_s_stack_mount_next_int : TI := { size := 2, bytes := 32, agg := true, zero := [.vs 2 [] .nil, .int .i64 0], kind := .struct [(0, 27, 1), (1, 3, 1)], id := 28 }
@[simp] theorem T_struct_l_s_stack_mount_next_int_size : T_struct_l_s_stack_mount_next_int.size = 2 := rfl
@[simp] theorem T_struct_l_s_stack_mount_next_int_agg : T_struct_l_s_stack_mount_next_int.agg = true := rfl
@[simp] theorem T_struct_l_s_stack_mount_next_int_zero : T_struct_l_s_stack_mount_next_int.zero = [.vs 2 [] .nil, .int .i64 0] := rfl
@[simp] theorem T_struct_l_s_stack_mount_next_int_kind : T_struct_l_s_stack_mount_next_int.kind = .struct [(0, 27, 1), (1, 3, 1)] := rfl
def T_stack_Stack : TI := { size := 2, bytes := 32, agg := true, zero := [.vs 2 [] .nil, .int .i64 0], kind := .struct [(0, 27, 1), (1, 3, 1)], id := 29 }
@[simp] theorem T_stack_Stack_size : T_stack_Stack.size = 2 := rfl
@[simp] theorem T_stack_Stack_agg : T_stack_Stack.agg = true := rfl
@[simp] theorem T_stack_Stack_zero : T_stack_Stack.zero = [.vs 2 [] .nil, .int .i64 0] := rfl
@[simp] theorem T_stack_Stack_kind : T_stack_Stack.kind = .struct [(0, 27, 1), (1, 3, 1)] := rfl
def T_func_s_api_Node_stack_Stack_bool : TI := { size := 1, bytes := 8, agg := false, zero := [.nilfn], kind := .func, id := 31 }
@[simp] theorem T_func_s_api_Node_stack_Stack_bool_size : T_func_s_api_Node_stack_Stack_bool.size = 1 := rfl
@[simp] theorem T_func_s_api_Node_stack_Stack_bool_agg : T_func_s_api_Node_stack_Stack_bool.agg = false := rfl
@[simp] theorem T_func_s_api_Node_stack_Stack_bool_zero : T_func_s_api_Node_stack_Stack_bool.zero = [.nilfn] := rfl
@[simp] theorem T_func_s_api_Node_stack_Stack_bool_kind : T_func_s_api_Node_stack_Stack_bool.kind = .func := rfl
def T_func_stack_Stack_string_bool : TI := { size := 1, bytes := 8, agg := false, zero := [.nilfn], kind := .func, id := 32 }
@[simp] theorem T_func_stack_Stack_string_bool_size : T_func_stack_Stack_string_bool.size = 1 := rfl
@[simp] theorem T_func_stack_Stack_string_bool_agg : T_func_stack_Stack_string_bool.agg = false := rfl
@[simp] theorem T_func_stack_Stack_string_bool_zero : T_func_stack_Stack_string_bool.zero = [.nilfn] := rfl
@[simp] theorem T_func_stack_Stack_string_bool_kind : T_func_stack_Stack_string_bool.kind = .func := rfl
def T_struct_Level_int_Inode_int : TI := { size := 2, bytes := 16, agg := true, zero := [.int .i64 0, .int .i64 0], kind := .struct [(0, 3, 1), (1, 3, 1)], id := 33 }
@[simp] theorem T_struct_Level_int_Inode_int_size : T_struct_Level_int_Inode_int.size = 2 := rfl
@[simp] theorem T_struct_Level_int_Inode_int_agg : T_struct_Level_int_Inode_int.agg = true := rfl
@[simp] theorem T_struct_Level_int_Inode_int_zero : T_struct_Level_int_Inode_int.zero = [.int .i64 0, .int .i64 0] := rfl
@[simp] theorem T_struct_Level_int_Inode_int_kind : T_struct_Level_int_Inode_int.kind = .struct [(0, 3, 1), (1, 3, 1)] := rfl
def T_seen_Spot : TI := { size := 2, bytes := 16, agg := true, zero := [.int .i64 0, .int .i64 0], kind := .struct [(0, 3, 1), (1, 3, 1)], id := 34 }
@[simp] theorem T_seen_Spot_size : T_seen_Spot.size = 2 := rfl
@[simp] theorem T_seen_Spot_agg : T_seen_Spot.agg = true := rfl
@[simp] theorem T_seen_Spot_zero : T_seen_Spot.zero = [.int .i64 0, .int .i64 0] := rfl
@[simp] theorem T_seen_Spot_kind : T_seen_Spot.kind = .struct [(0, 3, 1), (1, 3, 1)] := rfl
def T_s_seen_Spot : TI := { size := 1, bytes := 24, agg := false, zero := [.vs 2 [] .nil], kind := .slice 34, id := 35 }
@[simp] theorem T_s_seen_Spot_size : T_s_seen_Spot.size = 1 := rfl
@[simp] theorem T_s_seen_Spot_agg : T_s_seen_Spot.agg = false := rfl
@[simp] theorem T_s_seen_Spot_zero : T_s_seen_Spot.zero = [.vs 2 [] .nil] := rfl
@[simp] theorem T_s_seen_Spot_kind : T_s_seen_Spot.kind = .slice 34 := rfl
def T_seen_Place : TI := { size := 1, bytes := 24, agg := false, zero := [.vs 2 [] .nil], kind := .slice 34, id := 36 }
@[simp] theorem T_seen_Place_size : T_seen_Place.size = 1 := rfl
@[simp] theorem T_seen_Place_agg : T_seen_Place.agg = false := rfl
@[simp] theorem T_seen_Place_zero : T_seen_Place.zero = [.vs 2 [] .nil] := rfl
@[simp] theorem T_seen_Place_kind : T_seen_Place.kind = .slice 34 := rfl
def T_struct_Kind_int_seen_Spot_Dirs_seen_Place : TI := { size := 4, bytes := 48, agg := true, zero := [.int .i64 0, .int .i64 0, .int .i64 0, .vs 2 [] .nil], kind := .struct [(0, 3, 1), (1, 34, 2), (3, 36, 1)], id := 37 }
@[simp] theorem T_struct_Kind_int_seen_Spot_Dirs_seen_Place_size : T_struct_Kind_int_seen_Spot_Dirs_seen_Place.size = 4 := rfl
@[simp] theorem T_struct_Kind_int_seen_Spot_Dirs_seen_Place_agg : T_struct_Kind_int_seen_Spot_Dirs_seen_Place.agg = true := rfl
@[simp] theorem T_struct_Kind_int_seen_Spot_Dirs_seen_Place_zero : T_struct_Kind_int_seen_Spot_Dirs_seen_Place.zero = [.int .i64 0, .int .i64 0, .int .i64 0, .vs 2 [] .nil] := rfl
@[simp] theorem T_struct_Kind_int_seen_Spot_Dirs_seen_Place_kind : T_struct_Kind_int_seen_Spot_Dirs_seen_Place.kind = .struct [(0, 3, 1), (1, 34, 2), (3, 36, 1)] := rfl
def T_seen_Found : TI := { size := 4, bytes := 48, agg := true, zero := [.int .i64 0, .int .i64 0, .int .i64 0, .vs 2 [] .nil], kind := .struct [(0, 3, 1), (1, 34, 2), (3, 36, 1)], id := 38 }
@[simp] theorem T_seen_Found_size : T_seen_Found.size = 4 := rfl
@[simp] theorem T_seen_Found_agg : T_seen_Found.agg = true := rfl
@[simp] theorem T_seen_Found_zero : T_seen_Found.zero = [.int .i64 0, .int .i64 0, .int .i64 0, .vs 2 [] .nil] := rfl
@[simp] theorem T_seen_Found_kind : T_seen_Found.kind = .struct [(0, 3, 1), (1, 34, 2), (3, 36, 1)] := rfl
def T_struct_Path_string_seen_Found : TI := { size := 5, bytes := 64, agg := true, zero := [.str [], .int .i64 0, .int .i64 0, .int .i64 0, .vs 2 [] .nil], kind := .struct [(0, 9, 1), (1, 38, 4)], id := 39 }
@[simp] theorem T_struct_Path_string_seen_Found_size : T_struct_Path_string_seen_Found.size = 5 := rfl
@[simp] theorem T_struct_Path_string_seen_Found_agg : T_struct_Path_string_seen_Found.agg = true := rfl
@[simp] theorem T_struct_Path_string_seen_Found_zero : T_struct_Path_string_seen_Found.zero = [.str [], .int .i64 0, .int .i64 0, .int .i64 0, .vs 2 [] .nil] := rfl
@[simp] theorem T_struct_Path_string_seen_Found_kind : T_struct_Path_string_seen_Found.kind = .struct [(0, 9, 1), (1, 38, 4)] := rfl
def T_walk_Target : TI := { size := 5, bytes := 64, agg := true, zero := [.str [], .int .i64 0, .int .i64 0, .int .i64 0, .vs 2 [] .nil], kind := .struct [(0, 9, 1), (1, 38, 4)], id := 40 }
@[simp] theorem T_walk_Target_size : T_walk_Target.size = 5 := rfl
@[simp] theorem T_walk_Target_agg : T_walk_Target.agg = true := rfl
@[simp] theorem T_walk_Target_zero : T_walk_Target.zero = [.str [], .int .i64 0, .int .i64 0, .int .i64 0, .vs 2 [] .nil] := rfl
@[simp] theorem T_walk_Target_kind : T_walk_Target.kind = .struct [(0, 9, 1), (1, 38, 4)] := rfl
@[simp] theorem T_walk_Target_id : T_walk_Target.id = t_walk_Target := rfl
def T_api_Errno : TI := { size := 1, bytes := 8, agg := false, zero := [.int .i64 0], kind := .int .i64, id := 41 }
@[simp] theorem T_api_Errno_size : T_api_Errno.size = 1 := rfl
@[simp] theorem T_api_Errno_agg : T_api_Errno.agg = false := rfl
@[simp] theorem T_api_Errno_zero : T_api_Errno.zero = [.int .i64 0] := rfl
@[simp] theorem T_api_Errno_kind : T_api_Errno.kind = .int .i64 := rfl
def T_func_stack_Stack_string_bool_walk_Target_api_Errno : TI := { size := 1, bytes := 8, agg := false, zero := [.nilfn], kind := .func, id := 43 }
@[simp] theorem T_func_stack_Stack_string_bool_walk_Target_api_Errno_size : T_func_stack_Stack_string_bool_walk_Target_api_Errno.size = 1 := rfl
@[simp] theorem T_func_stack_Stack_string_bool_walk_Target_api_Errno_agg : T_func_stack_Stack_string_bool_walk_Target_api_Errno.agg = false := rfl
@[simp] theorem T_func_stack_Stack_string_bool_walk_Target_api_Errno_zero : T_func_stack_Stack_string_bool_walk_Target_api_Errno.zero = [.nilfn] := rfl
@[simp] theorem T_func_stack_Stack_string_bool_walk_Target_api_Errno_kind : T_func_stack_Stack_string_bool_walk_Target_api_Errno.kind = .func := rfl
def T_s_string : TI := { size := 1, bytes := 24, agg := false, zero := [.vs 1 [] .nil], kind := .slice 9, id := 44 }
@[simp] theorem T_s_string_size : T_s_string.size = 1 := rfl
@[simp] theorem T_s_string_agg : T_s_string.agg = false := rfl
@[simp] theorem T_s_string_zero : T_s_string.zero = [.vs 1 [] .nil] := rfl
@[simp] theorem T_s_string_kind : T_s_string.kind = .slice 9 := rfl
@[simp] theorem T_s_string_id : T_s_string.id = t_s_string := rfl
def T_struct_Err_api_Errno_Kind_int_Size_int_Where_int_45eddcb9 : TI := { size := 8, bytes := 88, agg := true, zero := [.int .i64 0, .int .i64 0, .int .i64 0, .int .i64 0, .int .i64 0, .str [], .vs 1 [] .nil, .bool false], kind := .struct [(0, 41, 1), (1, 3, 1), (2, 3, 1), (3, 3, 1), (4, 3, 1), (5, 9, 1), (6, 44, 1), (7, 4, 1)], id := 45 }
@[simp] theorem T_struct_Err_api_Errno_Kind_int_Size_int_Where_int_45eddcb9_size : T_struct_Err_api_Errno_Kind_int_Size_int_Where_int_45eddcb9.size = 8 := rfl
@[simp] theorem T_struct_Err_api_Errno_Kind_int_Size_int_Where_int_45eddcb9_agg : T_struct_Err_api_Errno_Kind_int_Size_int_Where_int_45eddcb9.agg = true := rfl
@[simp] theorem T_struct_Err_api_Errno_Kind_int_Size_int_Where_int_45eddcb9_zero : T_struct_Err_api_Errno_Kind_int_Size_int_Where_int_45eddcb9.zero = [.int .i64 0, .int .i64 0, .int .i64 0, .int .i64 0, .int .i64 0, .str [], .vs 1 [] .nil, .bool false] := rfl
@[simp] theorem T_struct_Err_api_Errno_Kind_int_Size_int_Where_int_45eddcb9_kind : T_struct_Err_api_Errno_Kind_int_Size_int_Where_int_45eddcb9.kind = .struct [(0, 41, 1), (1, 3, 1), (2, 3, 1), (3, 3, 1), (4, 3, 1), (5, 9, 1), (6, 44, 1), (7, 4, 1)] := rfl
def T_api_Result : TI := { size := 8, bytes := 88, agg := true, zero := [.int .i64 0, .int .i64 0, .int .i64 0, .int .i64 0, .int .i64 0, .str [], .vs 1 [] .nil, .bool false], kind := .struct [(0, 41, 1), (1, 3, 1), (2, 3, 1), (3, 3, 1), (4, 3, 1), (5, 9, 1), (6, 44, 1), (7, 4, 1)], id := 46 }
@[simp] theorem T_api_Result_size : T_api_Result.size = 8 := rfl
@[simp] theorem T_api_Result_agg : T_api_Result.agg = true := rfl
@[simp] theorem T_api_Result_zero : T_api_Result.zero = [.int .i64 0, .int .i64 0, .int .i64 0, .int .i64 0, .int .i64 0, .str [], .vs 1 [] .nil, .bool false] := rfl
@[simp] theorem T_api_Result_kind : T_api_Result.kind = .struct [(0, 41, 1), (1, 3, 1), (2, 3, 1), (3, 3, 1), (4, 3, 1), (5, 9, 1), (6, 44, 1), (7, 4, 1)] := rfl
def T_func_stack_Stack_api_Op_api_Result : TI := { size := 1, bytes := 8, agg := false, zero := [.nilfn], kind := .func, id := 47 }
@[simp] theorem T_func_stack_Stack_api_Op_api_Result_size : T_func_stack_Stack_api_Op_api_Result.size = 1 := rfl
@[simp] theorem T_func_stack_Stack_api_Op_api_Result_agg : T_func_stack_Stack_api_Op_api_Result.agg = false := rfl
@[simp] theorem T_func_stack_Stack_api_Op_api_Result_zero : T_func_stack_Stack_api_Op_api_Result.zero = [.nilfn] := rfl
@[simp] theorem T_func_stack_Stack_api_Op_api_Result_kind : T_func_stack_Stack_api_Op_api_Result.kind = .func := rfl
def T_struct_Kind_int_Path_string_Off_int_N_int_ID_int_affe776d : TI := { size := 6, bytes := 64, agg := true, zero := [.int .i64 0, .str [], .int .i64 0, .int .i64 0, .int .i64 0, .str []], kind := .struct [(0, 3, 1), (1, 9, 1), (2, 3, 1), (3, 3, 1), (4, 3, 1), (5, 9, 1)], id := 48 }
@[simp] theorem T_struct_Kind_int_Path_string_Off_int_N_int_ID_int_affe776d_size : T_struct_Kind_int_Path_string_Off_int_N_int_ID_int_affe776d.size = 6 := rfl
@[simp] theorem T_struct_Kind_int_Path_string_Off_int_N_int_ID_int_affe776d_agg : T_struct_Kind_int_Path_string_Off_int_N_int_ID_int_affe776d.agg = true := rfl
@[simp] theorem T_struct_Kind_int_Path_string_Off_int_N_int_ID_int_affe776d_zero : T_struct_Kind_int_Path_string_Off_int_N_int_ID_int_affe776d.zero = [.int .i64 0, .str [], .int .i64 0, .int .i64 0, .int .i64 0, .str []] := rfl
@[simp] theorem T_struct_Kind_int_Path_string_Off_int_N_int_ID_int_affe776d_kind : T_struct_Kind_int_Path_string_Off_int_N_int_ID_int_affe776d.kind = .struct [(0, 3, 1), (1, 9, 1), (2, 3, 1), (3, 3, 1), (4, 3, 1), (5, 9, 1)] := rfl
def T_api_Op : TI := { size := 6, bytes := 64, agg := true, zero := [.int .i64 0, .str [], .int .i64 0, .int .i64 0, .int .i64 0, .str []], kind := .struct [(0, 3, 1), (1, 9, 1), (2, 3, 1), (3, 3, 1), (4, 3, 1), (5, 9, 1)], id := 49 }
@[simp] theorem T_api_Op_size : T_api_Op.size = 6 := rfl
@[simp] theorem T_api_Op_agg : T_api_Op.agg = true := rfl
@[simp] theorem T_api_Op_zero : T_api_Op.zero = [.int .i64 0, .str [], .int .i64 0, .int .i64 0, .int .i64 0, .str []] := rfl
@[simp] theorem T_api_Op_kind : T_api_Op.kind = .struct [(0, 3, 1), (1, 9, 1), (2, 3, 1), (3, 3, 1), (4, 3, 1), (5, 9, 1)] := rfl
@[simp] theorem T_api_Op_id : T_api_Op.id = t_api_Op := rfl
def T_func_socagelaw11_Case_int_int_bool : TI := { size := 1, bytes := 8, agg := false, zero := [.nilfn], kind := .func, id := 50 }
@[simp] theorem T_func_socagelaw11_Case_int_int_bool_size : T_func_socagelaw11_Case_int_int_bool.size = 1 := rfl
@[simp] theorem T_func_socagelaw11_Case_int_int_bool_agg : T_func_socagelaw11_Case_int_int_bool.agg = false := rfl
@[simp] theorem T_func_socagelaw11_Case_int_int_bool_zero : T_func_socagelaw11_Case_int_int_bool.zero = [.nilfn] := rfl
@[simp] theorem T_func_socagelaw11_Case_int_int_bool_kind : T_func_socagelaw11_Case_int_int_bool.kind = .func := rfl
def T_func_api_Result_api_Result_bool : TI := { size := 1, bytes := 8, agg := false, zero := [.nilfn], kind := .func, id := 51 }
@[simp] theorem T_func_api_Result_api_Result_bool_size : T_func_api_Result_api_Result_bool.size = 1 := rfl
@[simp] theorem T_func_api_Result_api_Result_bool_agg : T_func_api_Result_api_Result_bool.agg = false := rfl
@[simp] theorem T_func_api_Result_api_Result_bool_zero : T_func_api_Result_api_Result_bool.zero = [.nilfn] := rfl
@[simp] theorem T_func_api_Result_api_Result_bool_kind : T_func_api_Result_api_Result_bool.kind = .func := rfl
def T_func_s_api_Node_s_int_api_Op_api_Result : TI := { size := 1, bytes := 8, agg := false, zero := [.nilfn], kind := .func, id := 52 }
@[simp] theorem T_func_s_api_Node_s_int_api_Op_api_Result_size : T_func_s_api_Node_s_int_api_Op_api_Result.size = 1 := rfl
@[simp] theorem T_func_s_api_Node_s_int_api_Op_api_Result_agg : T_func_s_api_Node_s_int_api_Op_api_Result.agg = false := rfl
@[simp] theorem T_func_s_api_Node_s_int_api_Op_api_Result_zero : T_func_s_api_Node_s_int_api_Op_api_Result.zero = [.nilfn] := rfl
@[simp] theorem T_func_s_api_Node_s_int_api_Op_api_Result_kind : T_func_s_api_Node_s_int_api_Op_api_Result.kind = .func := rfl
def T_func_s_api_Node_s_api_Node : TI := { size := 1, bytes := 8, agg := false, zero := [.nilfn], kind := .func, id := 53 }
@[simp] theorem T_func_s_api_Node_s_api_Node_size : T_func_s_api_Node_s_api_Node.size = 1 := rfl
@[simp] theorem T_func_s_api_Node_s_api_Node_agg : T_func_s_api_Node_s_api_Node.agg = false := rfl
@[simp] theorem T_func_s_api_Node_s_api_Node_zero : T_func_s_api_Node_s_api_Node.zero = [.nilfn] := rfl
@[simp] theorem T_func_s_api_Node_s_api_Node_kind : T_func_s_api_Node_s_api_Node.kind = .func := rfl
def T_s_int : TI := { size := 1, bytes := 24, agg := false, zero := [.vs 1 [] .nil], kind := .slice 3, id := 54 }
@[simp] theorem T_s_int_size : T_s_int.size = 1 := rfl
@[simp] theorem T_s_int_agg : T_s_int.agg = false := rfl
@[simp] theorem T_s_int_zero : T_s_int.zero = [.vs 1 [] .nil] := rfl
@[simp] theorem T_s_int_kind : T_s_int.kind = .slice 3 := rfl
def T_func_int_s_int : TI := { size := 1, bytes := 8, agg := false, zero := [.nilfn], kind := .func, id := 55 }
@[simp] theorem T_func_int_s_int_size : T_func_int_s_int.size = 1 := rfl
@[simp] theorem T_func_int_s_int_agg : T_func_int_s_int.agg = false := rfl
@[simp] theorem T_func_int_s_int_zero : T_func_int_s_int.zero = [.nilfn] := rfl
@[simp] theorem T_func_int_s_int_kind : T_func_int_s_int.kind = .func := rfl
def T_func_s_api_Node_api_Op_bool : TI := { size := 1, bytes := 8, agg := false, zero := [.nilfn], kind := .func, id := 56 }
@[simp] theorem T_func_s_api_Node_api_Op_bool_size : T_func_s_api_Node_api_Op_bool.size = 1 := rfl
@[simp] theorem T_func_s_api_Node_api_Op_bool_agg : T_func_s_api_Node_api_Op_bool.agg = false := rfl
@[simp] theorem T_func_s_api_Node_api_Op_bool_zero : T_func_s_api_Node_api_Op_bool.zero = [.nilfn] := rfl
@[simp] theorem T_func_s_api_Node_api_Op_bool_kind : T_func_s_api_Node_api_Op_bool.kind = .func := rfl
def T_func_int_bool : TI := { size := 1, bytes := 8, agg := false, zero := [.nilfn], kind := .func, id := 57 }
@[simp] theorem T_func_int_bool_size : T_func_int_bool.size = 1 := rfl
@[simp] theorem T_func_int_bool_agg : T_func_int_bool.agg = false := rfl
@[simp] theorem T_func_int_bool_zero : T_func_int_bool.zero = [.nilfn] := rfl
@[simp] theorem T_func_int_bool_kind : T_func_int_bool.kind = .func := rfl
def T_func_api_Op_api_Errno : TI := { size := 1, bytes := 8, agg := false, zero := [.nilfn], kind := .func, id := 58 }
@[simp] theorem T_func_api_Op_api_Errno_size : T_func_api_Op_api_Errno.size = 1 := rfl
@[simp] theorem T_func_api_Op_api_Errno_agg : T_func_api_Op_api_Errno.agg = false := rfl
@[simp] theorem T_func_api_Op_api_Errno_zero : T_func_api_Op_api_Errno.zero = [.nilfn] := rfl
@[simp] theorem T_func_api_Op_api_Errno_kind : T_func_api_Op_api_Errno.kind = .func := rfl
def T_func_stack_Stack_api_Op_walk_Target_api_Result : TI := { size := 1, bytes := 8, agg := false, zero := [.nilfn], kind := .func, id := 59 }
@[simp] theorem T_func_stack_Stack_api_Op_walk_Target_api_Result_size : T_func_stack_Stack_api_Op_walk_Target_api_Result.size = 1 := rfl
@[simp] theorem T_func_stack_Stack_api_Op_walk_Target_api_Result_agg : T_func_stack_Stack_api_Op_walk_Target_api_Result.agg = false := rfl
@[simp] theorem T_func_stack_Stack_api_Op_walk_Target_api_Result_zero : T_func_stack_Stack_api_Op_walk_Target_api_Result.zero = [.nilfn] := rfl
@[simp] theorem T_func_stack_Stack_api_Op_walk_Target_api_Result_kind : T_func_stack_Stack_api_Op_walk_Target_api_Result.kind = .func := rfl
def T_s_merge_Entry : TI := { size := 1, bytes := 24, agg := false, zero := [.vs 2 [] .nil], kind := .slice 68, id := 60 }
@[simp] theorem T_s_merge_Entry_size : T_s_merge_Entry.size = 1 := rfl
@[simp] theorem T_s_merge_Entry_agg : T_s_merge_Entry.agg = false := rfl
@[simp] theorem T_s_merge_Entry_zero : T_s_merge_Entry.zero = [.vs 2 [] .nil] := rfl
@[simp] theorem T_s_merge_Entry_kind : T_s_merge_Entry.kind = .slice 68 := rfl
def T_func_stack_Stack_string_string_s_merge_Entry_api_Errno : TI := { size := 1, bytes := 8, agg := false, zero := [.nilfn], kind := .func, id := 62 }
@[simp] theorem T_func_stack_Stack_string_string_s_merge_Entry_api_Errno_size : T_func_stack_Stack_string_string_s_merge_Entry_api_Errno.size = 1 := rfl
@[simp] theorem T_func_stack_Stack_string_string_s_merge_Entry_api_Errno_agg : T_func_stack_Stack_string_string_s_merge_Entry_api_Errno.agg = false := rfl
@[simp] theorem T_func_stack_Stack_string_string_s_merge_Entry_api_Errno_zero : T_func_stack_Stack_string_string_s_merge_Entry_api_Errno.zero = [.nilfn] := rfl
@[simp] theorem T_func_stack_Stack_string_string_s_merge_Entry_api_Errno_kind : T_func_stack_Stack_string_string_s_merge_Entry_api_Errno.kind = .func := rfl
def T_s_socageref10_Entry : TI := { size := 1, bytes := 24, agg := false, zero := [.vs 2 [] .nil], kind := .slice 69, id := 63 }
@[simp] theorem T_s_socageref10_Entry_size : T_s_socageref10_Entry.size = 1 := rfl
@[simp] theorem T_s_socageref10_Entry_agg : T_s_socageref10_Entry.agg = false := rfl
@[simp] theorem T_s_socageref10_Entry_zero : T_s_socageref10_Entry.zero = [.vs 2 [] .nil] := rfl
@[simp] theorem T_s_socageref10_Entry_kind : T_s_socageref10_Entry.kind = .slice 69 := rfl
def T_func_s_api_Node_string_s_string_s_socageref10_Entry_int : TI := { size := 1, bytes := 8, agg := false, zero := [.nilfn], kind := .func, id := 65 }
@[simp] theorem T_func_s_api_Node_string_s_string_s_socageref10_Entry_int_size : T_func_s_api_Node_string_s_string_s_socageref10_Entry_int.size = 1 := rfl
@[simp] theorem T_func_s_api_Node_string_s_string_s_socageref10_Entry_int_agg : T_func_s_api_Node_string_s_string_s_socageref10_Entry_int.agg = false := rfl
@[simp] theorem T_func_s_api_Node_string_s_string_s_socageref10_Entry_int_zero : T_func_s_api_Node_string_s_string_s_socageref10_Entry_int.zero = [.nilfn] := rfl
@[simp] theorem T_func_s_api_Node_string_s_string_s_socageref10_Entry_int_kind : T_func_s_api_Node_string_s_string_s_socageref10_Entry_int.kind = .func := rfl
def T_func_s_string_string : TI := { size := 1, bytes := 8, agg := false, zero := [.nilfn], kind := .func, id := 66 }
@[simp] theorem T_func_s_string_string_size : T_func_s_string_string.size = 1 := rfl
@[simp] theorem T_func_s_string_string_agg : T_func_s_string_string.agg = false := rfl
@[simp] theorem T_func_s_string_string_zero : T_func_s_string_string.zero = [.nilfn] := rfl
@[simp] theorem T_func_s_string_string_kind : T_func_s_string_string.kind = .func := rfl
def T_struct_Name_string_Kind_int : TI := { size := 2, bytes := 24, agg := true, zero := [.str [], .int .i64 0], kind := .struct [(0, 9, 1), (1, 3, 1)], id := 67 }
@[simp] theorem T_struct_Name_string_Kind_int_size : T_struct_Name_string_Kind_int.size = 2 := rfl
@[simp] theorem T_struct_Name_string_Kind_int_agg : T_struct_Name_string_Kind_int.agg = true := rfl
@[simp] theorem T_struct_Name_string_Kind_int_zero : T_struct_Name_string_Kind_int.zero = [.str [], .int .i64 0] := rfl
@[simp] theorem T_struct_Name_string_Kind_int_kind : T_struct_Name_string_Kind_int.kind = .struct [(0, 9, 1), (1, 3, 1)] := rfl
def T_merge_Entry : TI := { size := 2, bytes := 24, agg := true, zero := [.str [], .int .i64 0], kind := .struct [(0, 9, 1), (1, 3, 1)], id := 68 }
@[simp] theorem T_merge_Entry_size : T_merge_Entry.size = 2 := rfl
@[simp] theorem T_merge_Entry_agg : T_merge_Entry.agg = true := rfl
@[simp] theorem T_merge_Entry_zero : T_merge_Entry.zero = [.str [], .int .i64 0] := rfl
@[simp] theorem T_merge_Entry_kind : T_merge_Entry.kind = .struct [(0, 9, 1), (1, 3, 1)] := rfl
def T_socageref10_Entry : TI := { size := 2, bytes := 24, agg := true, zero := [.str [], .int .i64 0], kind := .struct [(0, 9, 1), (1, 3, 1)], id := 69 }
@[simp] theorem T_socageref10_Entry_size : T_socageref10_Entry.size = 2 := rfl
@[simp] theorem T_socageref10_Entry_agg : T_socageref10_Entry.agg = true := rfl
@[simp] theorem T_socageref10_Entry_zero : T_socageref10_Entry.zero = [.str [], .int .i64 0] := rfl
@[simp] theorem T_socageref10_Entry_kind : T_socageref10_Entry.kind = .struct [(0, 9, 1), (1, 3, 1)] := rfl
def T_func_s_api_Node_string_bool : TI := { size := 1, bytes := 8, agg := false, zero := [.nilfn], kind := .func, id := 70 }
@[simp] theorem T_func_s_api_Node_string_bool_size : T_func_s_api_Node_string_bool.size = 1 := rfl
@[simp] theorem T_func_s_api_Node_string_bool_agg : T_func_s_api_Node_string_bool.agg = false := rfl
@[simp] theorem T_func_s_api_Node_string_bool_zero : T_func_s_api_Node_string_bool.zero = [.nilfn] := rfl
@[simp] theorem T_func_s_api_Node_string_bool_kind : T_func_s_api_Node_string_bool.kind = .func := rfl
def T_s_api_Extent : TI := { size := 1, bytes := 24, agg := false, zero := [.vs 2 [] .nil], kind := .slice 172, id := 71 }
@[simp] theorem T_s_api_Extent_size : T_s_api_Extent.size = 1 := rfl
@[simp] theorem T_s_api_Extent_agg : T_s_api_Extent.agg = false := rfl
@[simp] theorem T_s_api_Extent_zero : T_s_api_Extent.zero = [.vs 2 [] .nil] := rfl
@[simp] theorem T_s_api_Extent_kind : T_s_api_Extent.kind = .slice 172 := rfl
def T_struct_Kind_int_Opaque_bool_Names_s_string_Items_8666df6f : TI := { size := 7, bytes := 112, agg := true, zero := [.int .i64 0, .bool false, .vs 1 [] .nil, .vs 7 [] .nil, .int .i64 0, .vs 2 [] .nil, .str []], kind := .struct [(0, 3, 1), (1, 4, 1), (2, 44, 1), (3, 22, 1), (4, 3, 1), (5, 71, 1), (6, 9, 1)], id := 72 }
@[simp] theorem T_struct_Kind_int_Opaque_bool_Names_s_string_Items_8666df6f_size : T_struct_Kind_int_Opaque_bool_Names_s_string_Items_8666df6f.size = 7 := rfl
@[simp] theorem T_struct_Kind_int_Opaque_bool_Names_s_string_Items_8666df6f_agg : T_struct_Kind_int_Opaque_bool_Names_s_string_Items_8666df6f.agg = true := rfl
@[simp] theorem T_struct_Kind_int_Opaque_bool_Names_s_string_Items_8666df6f_zero : T_struct_Kind_int_Opaque_bool_Names_s_string_Items_8666df6f.zero = [.int .i64 0, .bool false, .vs 1 [] .nil, .vs 7 [] .nil, .int .i64 0, .vs 2 [] .nil, .str []] := rfl
@[simp] theorem T_struct_Kind_int_Opaque_bool_Names_s_string_Items_8666df6f_kind : T_struct_Kind_int_Opaque_bool_Names_s_string_Items_8666df6f.kind = .struct [(0, 3, 1), (1, 4, 1), (2, 44, 1), (3, 22, 1), (4, 3, 1), (5, 71, 1), (6, 9, 1)] := rfl
def T_api_Node : TI := { size := 7, bytes := 112, agg := true, zero := [.int .i64 0, .bool false, .vs 1 [] .nil, .vs 7 [] .nil, .int .i64 0, .vs 2 [] .nil, .str []], kind := .struct [(0, 3, 1), (1, 4, 1), (2, 44, 1), (3, 22, 1), (4, 3, 1), (5, 71, 1), (6, 9, 1)], id := 73 }
@[simp] theorem T_api_Node_size : T_api_Node.size = 7 := rfl
@[simp] theorem T_api_Node_agg : T_api_Node.agg = true := rfl
@[simp] theorem T_api_Node_zero : T_api_Node.zero = [.int .i64 0, .bool false, .vs 1 [] .nil, .vs 7 [] .nil, .int .i64 0, .vs 2 [] .nil, .str []] := rfl
@[simp] theorem T_api_Node_kind : T_api_Node.kind = .struct [(0, 3, 1), (1, 4, 1), (2, 44, 1), (3, 22, 1), (4, 3, 1), (5, 71, 1), (6, 9, 1)] := rfl
@[simp] theorem T_api_Node_id : T_api_Node.id = t_api_Node := rfl
def T_func_api_Node_string_bool : TI := { size := 1, bytes := 8, agg := false, zero := [.nilfn], kind := .func, id := 75 }
@[simp] theorem T_func_api_Node_string_bool_size : T_func_api_Node_string_bool.size = 1 := rfl
@[simp] theorem T_func_api_Node_string_bool_agg : T_func_api_Node_string_bool.agg = false := rfl
@[simp] theorem T_func_api_Node_string_bool_zero : T_func_api_Node_string_bool.zero = [.nilfn] := rfl
@[simp] theorem T_func_api_Node_string_bool_kind : T_func_api_Node_string_bool.kind = .func := rfl
def T_func_string_stack_Stack_api_Errno : TI := { size := 1, bytes := 8, agg := false, zero := [.nilfn], kind := .func, id := 77 }
@[simp] theorem T_func_string_stack_Stack_api_Errno_size : T_func_string_stack_Stack_api_Errno.size = 1 := rfl
@[simp] theorem T_func_string_stack_Stack_api_Errno_agg : T_func_string_stack_Stack_api_Errno.agg = false := rfl
@[simp] theorem T_func_string_stack_Stack_api_Errno_zero : T_func_string_stack_Stack_api_Errno.zero = [.nilfn] := rfl
@[simp] theorem T_func_string_stack_Stack_api_Errno_kind : T_func_string_stack_Stack_api_Errno.kind = .func := rfl
def T_func_int : TI := { size := 1, bytes := 8, agg := false, zero := [.nilfn], kind := .func, id := 78 }
@[simp] theorem T_func_int_size : T_func_int.size = 1 := rfl
@[simp] theorem T_func_int_agg : T_func_int.agg = false := rfl
@[simp] theorem T_func_int_zero : T_func_int.zero = [.nilfn] := rfl
@[simp] theorem T_func_int_kind : T_func_int.kind = .func := rfl
def T_func_string_api_Node_bool : TI := { size := 1, bytes := 8, agg := false, zero := [.nilfn], kind := .func, id := 80 }
@[simp] theorem T_func_string_api_Node_bool_size : T_func_string_api_Node_bool.size = 1 := rfl
@[simp] theorem T_func_string_api_Node_bool_agg : T_func_string_api_Node_bool.agg = false := rfl
@[simp] theorem T_func_string_api_Node_bool_zero : T_func_string_api_Node_bool.zero = [.nilfn] := rfl
@[simp] theorem T_func_string_api_Node_bool_kind : T_func_string_api_Node_bool.kind = .func := rfl
def T_func_s_api_Node_string_uint8_bool : TI := { size := 1, bytes := 8, agg := false, zero := [.nilfn], kind := .func, id := 81 }
@[simp] theorem T_func_s_api_Node_string_uint8_bool_size : T_func_s_api_Node_string_uint8_bool.size = 1 := rfl
@[simp] theorem T_func_s_api_Node_string_uint8_bool_agg : T_func_s_api_Node_string_uint8_bool.agg = false := rfl
@[simp] theorem T_func_s_api_Node_string_uint8_bool_zero : T_func_s_api_Node_string_uint8_bool.zero = [.nilfn] := rfl
@[simp] theorem T_func_s_api_Node_string_uint8_bool_kind : T_func_s_api_Node_string_uint8_bool.kind = .func := rfl
def T_func_api_Node_stack_Stack_api_Errno : TI := { size := 1, bytes := 8, agg := false, zero := [.nilfn], kind := .func, id := 82 }
@[simp] theorem T_func_api_Node_stack_Stack_api_Errno_size : T_func_api_Node_stack_Stack_api_Errno.size = 1 := rfl
@[simp] theorem T_func_api_Node_stack_Stack_api_Errno_agg : T_func_api_Node_stack_Stack_api_Errno.agg = false := rfl
@[simp] theorem T_func_api_Node_stack_Stack_api_Errno_zero : T_func_api_Node_stack_Stack_api_Errno.zero = [.nilfn] := rfl
@[simp] theorem T_func_api_Node_stack_Stack_api_Errno_kind : T_func_api_Node_stack_Stack_api_Errno.kind = .func := rfl
def T_func_s_string_api_Node_api_Node : TI := { size := 1, bytes := 8, agg := false, zero := [.nilfn], kind := .func, id := 83 }
@[simp] theorem T_func_s_string_api_Node_api_Node_size : T_func_s_string_api_Node_api_Node.size = 1 := rfl
@[simp] theorem T_func_s_string_api_Node_api_Node_agg : T_func_s_string_api_Node_api_Node.agg = false := rfl
@[simp] theorem T_func_s_string_api_Node_api_Node_zero : T_func_s_string_api_Node_api_Node.zero = [.nilfn] := rfl
@[simp] theorem T_func_s_string_api_Node_api_Node_kind : T_func_s_string_api_Node_api_Node.kind = .func := rfl
def T_func_string_api_Node : TI := { size := 1, bytes := 8, agg := false, zero := [.nilfn], kind := .func, id := 84 }
@[simp] theorem T_func_string_api_Node_size : T_func_string_api_Node.size = 1 := rfl
@[simp] theorem T_func_string_api_Node_agg : T_func_string_api_Node.agg = false := rfl
@[simp] theorem T_func_string_api_Node_zero : T_func_string_api_Node.zero = [.nilfn] := rfl
@[simp] theorem T_func_string_api_Node_kind : T_func_string_api_Node.kind = .func := rfl
def T_func_api_Node_int : TI := { size := 1, bytes := 8, agg := false, zero := [.nilfn], kind := .func, id := 85 }
@[simp] theorem T_func_api_Node_int_size : T_func_api_Node_int.size = 1 := rfl
@[simp] theorem T_func_api_Node_int_agg : T_func_api_Node_int.agg = false := rfl
@[simp] theorem T_func_api_Node_int_zero : T_func_api_Node_int.zero = [.nilfn] := rfl
@[simp] theorem T_func_api_Node_int_kind : T_func_api_Node_int.kind = .func := rfl
def T_func_api_Node_bool : TI := { size := 1, bytes := 8, agg := false, zero := [.nilfn], kind := .func, id := 86 }
@[simp] theorem T_func_api_Node_bool_size : T_func_api_Node_bool.size = 1 := rfl
@[simp] theorem T_func_api_Node_bool_agg : T_func_api_Node_bool.agg = false := rfl
@[simp] theorem T_func_api_Node_bool_zero : T_func_api_Node_bool.zero = [.nilfn] := rfl
@[simp] theorem T_func_api_Node_bool_kind : T_func_api_Node_bool.kind = .func := rfl
def T_func_int_int : TI := { size := 1, bytes := 8, agg := false, zero := [.nilfn], kind := .func, id := 87 }
@[simp] theorem T_func_int_int_size : T_func_int_int.size = 1 := rfl
@[simp] theorem T_func_int_int_agg : T_func_int_int.agg = false := rfl
@[simp] theorem T_func_int_int_zero : T_func_int_int.zero = [.nilfn] := rfl
@[simp] theorem T_func_int_int_kind : T_func_int_int.kind = .func := rfl
def T_p_walk_Walker : TI := { size := 1, bytes := 8, agg := false, zero := [.nil], kind := .ptr 141, id := 88 }
@[simp] theorem T_p_walk_Walker_size : T_p_walk_Walker.size = 1 := rfl
@[simp] theorem T_p_walk_Walker_agg : T_p_walk_Walker.agg = false := rfl
@[simp] theorem T_p_walk_Walker_zero : T_p_walk_Walker.zero = [.nil] := rfl
@[simp] theorem T_p_walk_Walker_kind : T_p_walk_Walker.kind = .ptr 141 := rfl
def T_func_seen_Place_string_bool_p_walk_Walker_api_Errno : TI := { size := 1, bytes := 8, agg := false, zero := [.nilfn], kind := .func, id := 90 }
@[simp] theorem T_func_seen_Place_string_bool_p_walk_Walker_api_Errno_size : T_func_seen_Place_string_bool_p_walk_Walker_api_Errno.size = 1 := rfl
@[simp] theorem T_func_seen_Place_string_bool_p_walk_Walker_api_Errno_agg : T_func_seen_Place_string_bool_p_walk_Walker_api_Errno.agg = false := rfl
@[simp] theorem T_func_seen_Place_string_bool_p_walk_Walker_api_Errno_zero : T_func_seen_Place_string_bool_p_walk_Walker_api_Errno.zero = [.nilfn] := rfl
@[simp] theorem T_func_seen_Place_string_bool_p_walk_Walker_api_Errno_kind : T_func_seen_Place_string_bool_p_walk_Walker_api_Errno.kind = .func := rfl
def T_func_stack_Stack_seen_Place : TI := { size := 1, bytes := 8, agg := false, zero := [.nilfn], kind := .func, id := 91 }
@[simp] theorem T_func_stack_Stack_seen_Place_size : T_func_stack_Stack_seen_Place.size = 1 := rfl
@[simp] theorem T_func_stack_Stack_seen_Place_agg : T_func_stack_Stack_seen_Place.agg = false := rfl
@[simp] theorem T_func_stack_Stack_seen_Place_zero : T_func_stack_Stack_seen_Place.zero = [.nilfn] := rfl
@[simp] theorem T_func_stack_Stack_seen_Place_kind : T_func_stack_Stack_seen_Place.kind = .func := rfl
def T_func_string_seen_Place_string_bool : TI := { size := 1, bytes := 8, agg := false, zero := [.nilfn], kind := .func, id := 93 }
@[simp] theorem T_func_string_seen_Place_string_bool_size : T_func_string_seen_Place_string_bool.size = 1 := rfl
@[simp] theorem T_func_string_seen_Place_string_bool_agg : T_func_string_seen_Place_string_bool.agg = false := rfl
@[simp] theorem T_func_string_seen_Place_string_bool_zero : T_func_string_seen_Place_string_bool.zero = [.nilfn] := rfl
@[simp] theorem T_func_string_seen_Place_string_bool_kind : T_func_string_seen_Place_string_bool.kind = .func := rfl
def T_func_walk_Target : TI := { size := 1, bytes := 8, agg := false, zero := [.nilfn], kind := .func, id := 94 }
@[simp] theorem T_func_walk_Target_size : T_func_walk_Target.size = 1 := rfl
@[simp] theorem T_func_walk_Target_agg : T_func_walk_Target.agg = false := rfl
@[simp] theorem T_func_walk_Target_zero : T_func_walk_Target.zero = [.nilfn] := rfl
@[simp] theorem T_func_walk_Target_kind : T_func_walk_Target.kind = .func := rfl
def T_func_stack_Stack_seen_Place_string_seen_Found_bool : TI := { size := 1, bytes := 8, agg := false, zero := [.nilfn], kind := .func, id := 96 }
@[simp] theorem T_func_stack_Stack_seen_Place_string_seen_Found_bool_size : T_func_stack_Stack_seen_Place_string_seen_Found_bool.size = 1 := rfl
@[simp] theorem T_func_stack_Stack_seen_Place_string_seen_Found_bool_agg : T_func_stack_Stack_seen_Place_string_seen_Found_bool.agg = false := rfl
@[simp] theorem T_func_stack_Stack_seen_Place_string_seen_Found_bool_zero : T_func_stack_Stack_seen_Place_string_seen_Found_bool.zero = [.nilfn] := rfl
@[simp] theorem T_func_stack_Stack_seen_Place_string_seen_Found_bool_kind : T_func_stack_Stack_seen_Place_string_seen_Found_bool.kind = .func := rfl
def T_p_branch_Branch : TI := { size := 1, bytes := 8, agg := false, zero := [.nil], kind := .ptr 178, id := 97 }
@[simp] theorem T_p_branch_Branch_size : T_p_branch_Branch.size = 1 := rfl
@[simp] theorem T_p_branch_Branch_agg : T_p_branch_Branch.agg = false := rfl
@[simp] theorem T_p_branch_Branch_zero : T_p_branch_Branch.zero = [.nil] := rfl
@[simp] theorem T_p_branch_Branch_kind : T_p_branch_Branch.kind = .ptr 178 := rfl
def T_func_int_p_branch_Branch : TI := { size := 1, bytes := 8, agg := false, zero := [.nilfn], kind := .func, id := 98 }
@[simp] theorem T_func_int_p_branch_Branch_size : T_func_int_p_branch_Branch.size = 1 := rfl
@[simp] theorem T_func_int_p_branch_Branch_agg : T_func_int_p_branch_Branch.agg = false := rfl
@[simp] theorem T_func_int_p_branch_Branch_zero : T_func_int_p_branch_Branch.zero = [.nilfn] := rfl
@[simp] theorem T_func_int_p_branch_Branch_kind : T_func_int_p_branch_Branch.kind = .func := rfl
def T_func_int_string : TI := { size := 1, bytes := 8, agg := false, zero := [.nilfn], kind := .func, id := 99 }
@[simp] theorem T_func_int_string_size : T_func_int_string.size = 1 := rfl
@[simp] theorem T_func_int_string_agg : T_func_int_string.agg = false := rfl
@[simp] theorem T_func_int_string_zero : T_func_int_string.zero = [.nilfn] := rfl
@[simp] theorem T_func_int_string_kind : T_func_int_string.kind = .func := rfl
def T_func_seen_Found_bool_string_api_Errno : TI := { size := 1, bytes := 8, agg := false, zero := [.nilfn], kind := .func, id := 100 }
@[simp] theorem T_func_seen_Found_bool_string_api_Errno_size : T_func_seen_Found_bool_string_api_Errno.size = 1 := rfl
@[simp] theorem T_func_seen_Found_bool_string_api_Errno_agg : T_func_seen_Found_bool_string_api_Errno.agg = false := rfl
@[simp] theorem T_func_seen_Found_bool_string_api_Errno_zero : T_func_seen_Found_bool_string_api_Errno.zero = [.nilfn] := rfl
@[simp] theorem T_func_seen_Found_bool_string_api_Errno_kind : T_func_seen_Found_bool_string_api_Errno.kind = .func := rfl
def T_func_api_Errno_api_Result : TI := { size := 1, bytes := 8, agg := false, zero := [.nilfn], kind := .func, id := 101 }
@[simp] theorem T_func_api_Errno_api_Result_size : T_func_api_Errno_api_Result.size = 1 := rfl
@[simp] theorem T_func_api_Errno_api_Result_agg : T_func_api_Errno_api_Result.agg = false := rfl
@[simp] theorem T_func_api_Errno_api_Result_zero : T_func_api_Errno_api_Result.zero = [.nilfn] := rfl
@[simp] theorem T_func_api_Errno_api_Result_kind : T_func_api_Errno_api_Result.kind = .func := rfl
def T_func_int_api_Result : TI := { size := 1, bytes := 8, agg := false, zero := [.nilfn], kind := .func, id := 102 }
@[simp] theorem T_func_int_api_Result_size : T_func_int_api_Result.size = 1 := rfl
@[simp] theorem T_func_int_api_Result_agg : T_func_int_api_Result.agg = false := rfl
@[simp] theorem T_func_int_api_Result_zero : T_func_int_api_Result.zero = [.nilfn] := rfl
@[simp] theorem T_func_int_api_Result_kind : T_func_int_api_Result.kind = .func := rfl
def T_struct_Names_s_string_Nodes_s_api_Node_Err_int : TI := { size := 3, bytes := 56, agg := true, zero := [.vs 1 [] .nil, .vs 7 [] .nil, .int .i64 0], kind := .struct [(0, 44, 1), (1, 22, 1), (2, 3, 1)], id := 103 }
@[simp] theorem T_struct_Names_s_string_Nodes_s_api_Node_Err_int_size : T_struct_Names_s_string_Nodes_s_api_Node_Err_int.size = 3 := rfl
@[simp] theorem T_struct_Names_s_string_Nodes_s_api_Node_Err_int_agg : T_struct_Names_s_string_Nodes_s_api_Node_Err_int.agg = true := rfl
@[simp] theorem T_struct_Names_s_string_Nodes_s_api_Node_Err_int_zero : T_struct_Names_s_string_Nodes_s_api_Node_Err_int.zero = [.vs 1 [] .nil, .vs 7 [] .nil, .int .i64 0] := rfl
@[simp] theorem T_struct_Names_s_string_Nodes_s_api_Node_Err_int_kind : T_struct_Names_s_string_Nodes_s_api_Node_Err_int.kind = .struct [(0, 44, 1), (1, 22, 1), (2, 3, 1)] := rfl
def T_socageref11_At : TI := { size := 3, bytes := 56, agg := true, zero := [.vs 1 [] .nil, .vs 7 [] .nil, .int .i64 0], kind := .struct [(0, 44, 1), (1, 22, 1), (2, 3, 1)], id := 104 }
@[simp] theorem T_socageref11_At_size : T_socageref11_At.size = 3 := rfl
@[simp] theorem T_socageref11_At_agg : T_socageref11_At.agg = true := rfl
@[simp] theorem T_socageref11_At_zero : T_socageref11_At.zero = [.vs 1 [] .nil, .vs 7 [] .nil, .int .i64 0] := rfl
@[simp] theorem T_socageref11_At_kind : T_socageref11_At.kind = .struct [(0, 44, 1), (1, 22, 1), (2, 3, 1)] := rfl
def T_func_s_api_Node_string_bool_socageref11_At : TI := { size := 1, bytes := 8, agg := false, zero := [.nilfn], kind := .func, id := 105 }
@[simp] theorem T_func_s_api_Node_string_bool_socageref11_At_size : T_func_s_api_Node_string_bool_socageref11_At.size = 1 := rfl
@[simp] theorem T_func_s_api_Node_string_bool_socageref11_At_agg : T_func_s_api_Node_string_bool_socageref11_At.agg = false := rfl
@[simp] theorem T_func_s_api_Node_string_bool_socageref11_At_zero : T_func_s_api_Node_string_bool_socageref11_At.zero = [.nilfn] := rfl
@[simp] theorem T_func_s_api_Node_string_bool_socageref11_At_kind : T_func_s_api_Node_string_bool_socageref11_At.kind = .func := rfl
def T_func_s_api_Node_s_string_int : TI := { size := 1, bytes := 8, agg := false, zero := [.nilfn], kind := .func, id := 106 }
@[simp] theorem T_func_s_api_Node_s_string_int_size : T_func_s_api_Node_s_string_int.size = 1 := rfl
@[simp] theorem T_func_s_api_Node_s_string_int_agg : T_func_s_api_Node_s_string_int.agg = false := rfl
@[simp] theorem T_func_s_api_Node_s_string_int_zero : T_func_s_api_Node_s_string_int.zero = [.nilfn] := rfl
@[simp] theorem T_func_s_api_Node_s_string_int_kind : T_func_s_api_Node_s_string_int.kind = .func := rfl
def T_func_int_s_api_Extent_int_int_string : TI := { size := 1, bytes := 8, agg := false, zero := [.nilfn], kind := .func, id := 107 }
@[simp] theorem T_func_int_s_api_Extent_int_int_string_size : T_func_int_s_api_Extent_int_int_string.size = 1 := rfl
@[simp] theorem T_func_int_s_api_Extent_int_int_string_agg : T_func_int_s_api_Extent_int_int_string.agg = false := rfl
@[simp] theorem T_func_int_s_api_Extent_int_int_string_zero : T_func_int_s_api_Extent_int_int_string.zero = [.nilfn] := rfl
@[simp] theorem T_func_int_s_api_Extent_int_int_string_kind : T_func_int_s_api_Extent_int_int_string.kind = .func := rfl
def T_func_int_int_int_string : TI := { size := 1, bytes := 8, agg := false, zero := [.nilfn], kind := .func, id := 108 }
@[simp] theorem T_func_int_int_int_string_size : T_func_int_int_int_string.size = 1 := rfl
@[simp] theorem T_func_int_int_int_string_agg : T_func_int_int_int_string.agg = false := rfl
@[simp] theorem T_func_int_int_int_string_zero : T_func_int_int_int_string.zero = [.nilfn] := rfl
@[simp] theorem T_func_int_int_int_string_kind : T_func_int_int_int_string.kind = .func := rfl
def T_func_stack_Stack_seen_Place_s_merge_Entry : TI := { size := 1, bytes := 8, agg := false, zero := [.nilfn], kind := .func, id := 109 }
@[simp] theorem T_func_stack_Stack_seen_Place_s_merge_Entry_size : T_func_stack_Stack_seen_Place_s_merge_Entry.size = 1 := rfl
@[simp] theorem T_func_stack_Stack_seen_Place_s_merge_Entry_agg : T_func_stack_Stack_seen_Place_s_merge_Entry.agg = false := rfl
@[simp] theorem T_func_stack_Stack_seen_Place_s_merge_Entry_zero : T_func_stack_Stack_seen_Place_s_merge_Entry.zero = [.nilfn] := rfl
@[simp] theorem T_func_stack_Stack_seen_Place_s_merge_Entry_kind : T_func_stack_Stack_seen_Place_s_merge_Entry.kind = .func := rfl
def T_func_s_api_Node_s_socageref10_Entry : TI := { size := 1, bytes := 8, agg := false, zero := [.nilfn], kind := .func, id := 110 }
@[simp] theorem T_func_s_api_Node_s_socageref10_Entry_size : T_func_s_api_Node_s_socageref10_Entry.size = 1 := rfl
@[simp] theorem T_func_s_api_Node_s_socageref10_Entry_agg : T_func_s_api_Node_s_socageref10_Entry.agg = false := rfl
@[simp] theorem T_func_s_api_Node_s_socageref10_Entry_zero : T_func_s_api_Node_s_socageref10_Entry.zero = [.nilfn] := rfl
@[simp] theorem T_func_s_api_Node_s_socageref10_Entry_kind : T_func_s_api_Node_s_socageref10_Entry.kind = .func := rfl
def T_struct_Shards_int_Room_int_Cursors_int : TI := { size := 3, bytes := 24, agg := true, zero := [.int .i64 0, .int .i64 0, .int .i64 0], kind := .struct [(0, 3, 1), (1, 3, 1), (2, 3, 1)], id := 111 }
@[simp] theorem T_struct_Shards_int_Room_int_Cursors_int_size : T_struct_Shards_int_Room_int_Cursors_int.size = 3 := rfl
@[simp] theorem T_struct_Shards_int_Room_int_Cursors_int_agg : T_struct_Shards_int_Room_int_Cursors_int.agg = true := rfl
@[simp] theorem T_struct_Shards_int_Room_int_Cursors_int_zero : T_struct_Shards_int_Room_int_Cursors_int.zero = [.int .i64 0, .int .i64 0, .int .i64 0] := rfl
@[simp] theorem T_struct_Shards_int_Room_int_Cursors_int_kind : T_struct_Shards_int_Room_int_Cursors_int.kind = .struct [(0, 3, 1), (1, 3, 1), (2, 3, 1)] := rfl
def T_server_Config : TI := { size := 3, bytes := 24, agg := true, zero := [.int .i64 0, .int .i64 0, .int .i64 0], kind := .struct [(0, 3, 1), (1, 3, 1), (2, 3, 1)], id := 112 }
@[simp] theorem T_server_Config_size : T_server_Config.size = 3 := rfl
@[simp] theorem T_server_Config_agg : T_server_Config.agg = true := rfl
@[simp] theorem T_server_Config_zero : T_server_Config.zero = [.int .i64 0, .int .i64 0, .int .i64 0] := rfl
@[simp] theorem T_server_Config_kind : T_server_Config.kind = .struct [(0, 3, 1), (1, 3, 1), (2, 3, 1)] := rfl
def T_s_s_api_Op : TI := { size := 1, bytes := 24, agg := false, zero := [.vs 1 [] .nil], kind := .slice 118, id := 113 }
@[simp] theorem T_s_s_api_Op_size : T_s_s_api_Op.size = 1 := rfl
@[simp] theorem T_s_s_api_Op_agg : T_s_s_api_Op.agg = false := rfl
@[simp] theorem T_s_s_api_Op_zero : T_s_s_api_Op.zero = [.vs 1 [] .nil] := rfl
@[simp] theorem T_s_s_api_Op_kind : T_s_s_api_Op.kind = .slice 118 := rfl
def T_struct_Config_server_Config_Images_s_string_Clie_8f63a109 : TI := { size := 6, bytes := 96, agg := true, zero := [.int .i64 0, .int .i64 0, .int .i64 0, .vs 1 [] .nil, .vs 1 [] .nil, .vs 1 [] .nil], kind := .struct [(0, 112, 3), (3, 44, 1), (4, 113, 1), (5, 54, 1)], id := 114 }
@[simp] theorem T_struct_Config_server_Config_Images_s_string_Clie_8f63a109_size : T_struct_Config_server_Config_Images_s_string_Clie_8f63a109.size = 6 := rfl
@[simp] theorem T_struct_Config_server_Config_Images_s_string_Clie_8f63a109_agg : T_struct_Config_server_Config_Images_s_string_Clie_8f63a109.agg = true := rfl
@[simp] theorem T_struct_Config_server_Config_Images_s_string_Clie_8f63a109_zero : T_struct_Config_server_Config_Images_s_string_Clie_8f63a109.zero = [.int .i64 0, .int .i64 0, .int .i64 0, .vs 1 [] .nil, .vs 1 [] .nil, .vs 1 [] .nil] := rfl
@[simp] theorem T_struct_Config_server_Config_Images_s_string_Clie_8f63a109_kind : T_struct_Config_server_Config_Images_s_string_Clie_8f63a109.kind = .struct [(0, 112, 3), (3, 44, 1), (4, 113, 1), (5, 54, 1)] := rfl
def T_script_Script : TI := { size := 6, bytes := 96, agg := true, zero := [.int .i64 0, .int .i64 0, .int .i64 0, .vs 1 [] .nil, .vs 1 [] .nil, .vs 1 [] .nil], kind := .struct [(0, 112, 3), (3, 44, 1), (4, 113, 1), (5, 54, 1)], id := 115 }
@[simp] theorem T_script_Script_size : T_script_Script.size = 6 := rfl
@[simp] theorem T_script_Script_agg : T_script_Script.agg = true := rfl
@[simp] theorem T_script_Script_zero : T_script_Script.zero = [.int .i64 0, .int .i64 0, .int .i64 0, .vs 1 [] .nil, .vs 1 [] .nil, .vs 1 [] .nil] := rfl
@[simp] theorem T_script_Script_kind : T_script_Script.kind = .struct [(0, 112, 3), (3, 44, 1), (4, 113, 1), (5, 54, 1)] := rfl
def T_func_string_script_Script_int : TI := { size := 1, bytes := 8, agg := false, zero := [.nilfn], kind := .func, id := 117 }
@[simp] theorem T_func_string_script_Script_int_size : T_func_string_script_Script_int.size = 1 := rfl
@[simp] theorem T_func_string_script_Script_int_agg : T_func_string_script_Script_int.agg = false := rfl
@[simp] theorem T_func_string_script_Script_int_zero : T_func_string_script_Script_int.zero = [.nilfn] := rfl
@[simp] theorem T_func_string_script_Script_int_kind : T_func_string_script_Script_int.kind = .func := rfl
def T_s_api_Op : TI := { size := 1, bytes := 24, agg := false, zero := [.vs 6 [] .nil], kind := .slice 49, id := 118 }
@[simp] theorem T_s_api_Op_size : T_s_api_Op.size = 1 := rfl
@[simp] theorem T_s_api_Op_agg : T_s_api_Op.agg = false := rfl
@[simp] theorem T_s_api_Op_zero : T_s_api_Op.zero = [.vs 6 [] .nil] := rfl
@[simp] theorem T_s_api_Op_kind : T_s_api_Op.kind = .slice 49 := rfl
def T_func_api_Node_string : TI := { size := 1, bytes := 8, agg := false, zero := [.nilfn], kind := .func, id := 119 }
@[simp] theorem T_func_api_Node_string_size : T_func_api_Node_string.size = 1 := rfl
@[simp] theorem T_func_api_Node_string_agg : T_func_api_Node_string.agg = false := rfl
@[simp] theorem T_func_api_Node_string_zero : T_func_api_Node_string.zero = [.nilfn] := rfl
@[simp] theorem T_func_api_Node_string_kind : T_func_api_Node_string.kind = .func := rfl
def T_func_string_p_branch_Branch_api_Errno : TI := { size := 1, bytes := 8, agg := false, zero := [.nilfn], kind := .func, id := 121 }
@[simp] theorem T_func_string_p_branch_Branch_api_Errno_size : T_func_string_p_branch_Branch_api_Errno.size = 1 := rfl
@[simp] theorem T_func_string_p_branch_Branch_api_Errno_agg : T_func_string_p_branch_Branch_api_Errno.agg = false := rfl
@[simp] theorem T_func_string_p_branch_Branch_api_Errno_zero : T_func_string_p_branch_Branch_api_Errno.zero = [.nilfn] := rfl
@[simp] theorem T_func_string_p_branch_Branch_api_Errno_kind : T_func_string_p_branch_Branch_api_Errno.kind = .func := rfl
def T_func_p_branch_Branch_stack_Stack_int_api_Errno : TI := { size := 1, bytes := 8, agg := false, zero := [.nilfn], kind := .func, id := 123 }
@[simp] theorem T_func_p_branch_Branch_stack_Stack_int_api_Errno_size : T_func_p_branch_Branch_stack_Stack_int_api_Errno.size = 1 := rfl
@[simp] theorem T_func_p_branch_Branch_stack_Stack_int_api_Errno_agg : T_func_p_branch_Branch_stack_Stack_int_api_Errno.agg = false := rfl
@[simp] theorem T_func_p_branch_Branch_stack_Stack_int_api_Errno_zero : T_func_p_branch_Branch_stack_Stack_int_api_Errno.zero = [.nilfn] := rfl
@[simp] theorem T_func_p_branch_Branch_stack_Stack_int_api_Errno_kind : T_func_p_branch_Branch_stack_Stack_int_api_Errno.kind = .func := rfl
def T_struct_Node_api_Node_Len_int : TI := { size := 8, bytes := 120, agg := true, zero := [.int .i64 0, .bool false, .vs 1 [] .nil, .vs 7 [] .nil, .int .i64 0, .vs 2 [] .nil, .str [], .int .i64 0], kind := .struct [(0, 73, 7), (7, 3, 1)], id := 124 }
@[simp] theorem T_struct_Node_api_Node_Len_int_size : T_struct_Node_api_Node_Len_int.size = 8 := rfl
@[simp] theorem T_struct_Node_api_Node_Len_int_agg : T_struct_Node_api_Node_Len_int.agg = true := rfl
@[simp] theorem T_struct_Node_api_Node_Len_int_zero : T_struct_Node_api_Node_Len_int.zero = [.int .i64 0, .bool false, .vs 1 [] .nil, .vs 7 [] .nil, .int .i64 0, .vs 2 [] .nil, .str [], .int .i64 0] := rfl
@[simp] theorem T_struct_Node_api_Node_Len_int_kind : T_struct_Node_api_Node_Len_int.kind = .struct [(0, 73, 7), (7, 3, 1)] := rfl
def T_socageref05_Got : TI := { size := 8, bytes := 120, agg := true, zero := [.int .i64 0, .bool false, .vs 1 [] .nil, .vs 7 [] .nil, .int .i64 0, .vs 2 [] .nil, .str [], .int .i64 0], kind := .struct [(0, 73, 7), (7, 3, 1)], id := 125 }
@[simp] theorem T_socageref05_Got_size : T_socageref05_Got.size = 8 := rfl
@[simp] theorem T_socageref05_Got_agg : T_socageref05_Got.agg = true := rfl
@[simp] theorem T_socageref05_Got_zero : T_socageref05_Got.zero = [.int .i64 0, .bool false, .vs 1 [] .nil, .vs 7 [] .nil, .int .i64 0, .vs 2 [] .nil, .str [], .int .i64 0] := rfl
@[simp] theorem T_socageref05_Got_kind : T_socageref05_Got.kind = .struct [(0, 73, 7), (7, 3, 1)] := rfl
def T_func_string_int_socageref05_Got : TI := { size := 1, bytes := 8, agg := false, zero := [.nilfn], kind := .func, id := 126 }
@[simp] theorem T_func_string_int_socageref05_Got_size : T_func_string_int_socageref05_Got.size = 1 := rfl
@[simp] theorem T_func_string_int_socageref05_Got_agg : T_func_string_int_socageref05_Got.agg = false := rfl
@[simp] theorem T_func_string_int_socageref05_Got_zero : T_func_string_int_socageref05_Got.zero = [.nilfn] := rfl
@[simp] theorem T_func_string_int_socageref05_Got_kind : T_func_string_int_socageref05_Got.kind = .func := rfl
def T_func_api_Node_p_branch_Branch_api_Errno : TI := { size := 1, bytes := 8, agg := false, zero := [.nilfn], kind := .func, id := 127 }
@[simp] theorem T_func_api_Node_p_branch_Branch_api_Errno_size : T_func_api_Node_p_branch_Branch_api_Errno.size = 1 := rfl
@[simp] theorem T_func_api_Node_p_branch_Branch_api_Errno_agg : T_func_api_Node_p_branch_Branch_api_Errno.agg = false := rfl
@[simp] theorem T_func_api_Node_p_branch_Branch_api_Errno_zero : T_func_api_Node_p_branch_Branch_api_Errno.zero = [.nilfn] := rfl
@[simp] theorem T_func_api_Node_p_branch_Branch_api_Errno_kind : T_func_api_Node_p_branch_Branch_api_Errno.kind = .func := rfl
def T_func_s_string_s_string : TI := { size := 1, bytes := 8, agg := false, zero := [.nilfn], kind := .func, id := 128 }
@[simp] theorem T_func_s_string_s_string_size : T_func_s_string_s_string.size = 1 := rfl
@[simp] theorem T_func_s_string_s_string_agg : T_func_s_string_s_string.agg = false := rfl
@[simp] theorem T_func_s_string_s_string_zero : T_func_s_string_s_string.zero = [.nilfn] := rfl
@[simp] theorem T_func_s_string_s_string_kind : T_func_s_string_s_string.kind = .func := rfl
def T_func_string_s_api_Extent : TI := { size := 1, bytes := 8, agg := false, zero := [.nilfn], kind := .func, id := 129 }
@[simp] theorem T_func_string_s_api_Extent_size : T_func_string_s_api_Extent.size = 1 := rfl
@[simp] theorem T_func_string_s_api_Extent_agg : T_func_string_s_api_Extent.agg = false := rfl
@[simp] theorem T_func_string_s_api_Extent_zero : T_func_string_s_api_Extent.zero = [.nilfn] := rfl
@[simp] theorem T_func_string_s_api_Extent_kind : T_func_string_s_api_Extent.kind = .func := rfl
def T_func_api_Node_int_p_int_bool : TI := { size := 1, bytes := 8, agg := false, zero := [.nilfn], kind := .func, id := 130 }
@[simp] theorem T_func_api_Node_int_p_int_bool_size : T_func_api_Node_int_p_int_bool.size = 1 := rfl
@[simp] theorem T_func_api_Node_int_p_int_bool_agg : T_func_api_Node_int_p_int_bool.agg = false := rfl
@[simp] theorem T_func_api_Node_int_p_int_bool_zero : T_func_api_Node_int_p_int_bool.zero = [.nilfn] := rfl
@[simp] theorem T_func_api_Node_int_p_int_bool_kind : T_func_api_Node_int_p_int_bool.kind = .func := rfl
def T_p_int : TI := { size := 1, bytes := 8, agg := false, zero := [.nil], kind := .ptr 3, id := 131 }
@[simp] theorem T_p_int_size : T_p_int.size = 1 := rfl
@[simp] theorem T_p_int_agg : T_p_int.agg = false := rfl
@[simp] theorem T_p_int_zero : T_p_int.zero = [.nil] := rfl
@[simp] theorem T_p_int_kind : T_p_int.kind = .ptr 3 := rfl
def T_struct_id_int_p_branch_Branch : TI := { size := 2, bytes := 16, agg := true, zero := [.int .i64 0, .nil], kind := .struct [(0, 3, 1), (1, 97, 1)], id := 132 }
@[simp] theorem T_struct_id_int_p_branch_Branch_size : T_struct_id_int_p_branch_Branch.size = 2 := rfl
@[simp] theorem T_struct_id_int_p_branch_Branch_agg : T_struct_id_int_p_branch_Branch.agg = true := rfl
@[simp] theorem T_struct_id_int_p_branch_Branch_zero : T_struct_id_int_p_branch_Branch.zero = [.int .i64 0, .nil] := rfl
@[simp] theorem T_struct_id_int_p_branch_Branch_kind : T_struct_id_int_p_branch_Branch.kind = .struct [(0, 3, 1), (1, 97, 1)] := rfl
def T_stack_mount : TI := { size := 2, bytes := 16, agg := true, zero := [.int .i64 0, .nil], kind := .struct [(0, 3, 1), (1, 97, 1)], id := 133 }
@[simp] theorem T_stack_mount_size : T_stack_mount.size = 2 := rfl
@[simp] theorem T_stack_mount_agg : T_stack_mount.agg = true := rfl
@[simp] theorem T_stack_mount_zero : T_stack_mount.zero = [.int .i64 0, .nil] := rfl
@[simp] theorem T_stack_mount_kind : T_stack_mount.kind = .struct [(0, 3, 1), (1, 97, 1)] := rfl
def T_func_string_s_string_bool_api_Errno : TI := { size := 1, bytes := 8, agg := false, zero := [.nilfn], kind := .func, id := 135 }
@[simp] theorem T_func_string_s_string_bool_api_Errno_size : T_func_string_s_string_bool_api_Errno.size = 1 := rfl
@[simp] theorem T_func_string_s_string_bool_api_Errno_agg : T_func_string_s_string_bool_api_Errno.agg = false := rfl
@[simp] theorem T_func_string_s_string_bool_api_Errno_zero : T_func_string_s_string_bool_api_Errno.zero = [.nilfn] := rfl
@[simp] theorem T_func_string_s_string_bool_api_Errno_kind : T_func_string_s_string_bool_api_Errno.kind = .func := rfl
def T_struct_path_string_seen_Place : TI := { size := 2, bytes := 40, agg := true, zero := [.str [], .vs 2 [] .nil], kind := .struct [(0, 9, 1), (1, 36, 1)], id := 136 }
@[simp] theorem T_struct_path_string_seen_Place_size : T_struct_path_string_seen_Place.size = 2 := rfl
@[simp] theorem T_struct_path_string_seen_Place_agg : T_struct_path_string_seen_Place.agg = true := rfl
@[simp] theorem T_struct_path_string_seen_Place_zero : T_struct_path_string_seen_Place.zero = [.str [], .vs 2 [] .nil] := rfl
@[simp] theorem T_struct_path_string_seen_Place_kind : T_struct_path_string_seen_Place.kind = .struct [(0, 9, 1), (1, 36, 1)] := rfl
def T_walk_dir : TI := { size := 2, bytes := 40, agg := true, zero := [.str [], .vs 2 [] .nil], kind := .struct [(0, 9, 1), (1, 36, 1)], id := 137 }
@[simp] theorem T_walk_dir_size : T_walk_dir.size = 2 := rfl
@[simp] theorem T_walk_dir_agg : T_walk_dir.agg = true := rfl
@[simp] theorem T_walk_dir_zero : T_walk_dir.zero = [.str [], .vs 2 [] .nil] := rfl
@[simp] theorem T_walk_dir_kind : T_walk_dir.kind = .struct [(0, 9, 1), (1, 36, 1)] := rfl
def T_s_walk_dir : TI := { size := 1, bytes := 24, agg := false, zero := [.vs 2 [] .nil], kind := .slice 137, id := 138 }
@[simp] theorem T_s_walk_dir_size : T_s_walk_dir.size = 1 := rfl
@[simp] theorem T_s_walk_dir_agg : T_s_walk_dir.agg = false := rfl
@[simp] theorem T_s_walk_dir_zero : T_s_walk_dir.zero = [.vs 2 [] .nil] := rfl
@[simp] theorem T_s_walk_dir_kind : T_s_walk_dir.kind = .slice 137 := rfl
def T_p_walk_Target : TI := { size := 1, bytes := 8, agg := false, zero := [.nil], kind := .ptr 40, id := 139 }
@[simp] theorem T_p_walk_Target_size : T_p_walk_Target.size = 1 := rfl
@[simp] theorem T_p_walk_Target_agg : T_p_walk_Target.agg = false := rfl
@[simp] theorem T_p_walk_Target_zero : T_p_walk_Target.zero = [.nil] := rfl
@[simp] theorem T_p_walk_Target_kind : T_p_walk_Target.kind = .ptr 40 := rfl
def T_struct_todo_s_string_dirs_s_walk_dir_follow_bool_b4679ffd : TI := { size := 5, bytes := 72, agg := true, zero := [.vs 1 [] .nil, .vs 2 [] .nil, .bool false, .int .i64 0, .nil], kind := .struct [(0, 44, 1), (1, 138, 1), (2, 4, 1), (3, 3, 1), (4, 139, 1)], id := 140 }
@[simp] theorem T_struct_todo_s_string_dirs_s_walk_dir_follow_bool_b4679ffd_size : T_struct_todo_s_string_dirs_s_walk_dir_follow_bool_b4679ffd.size = 5 := rfl
@[simp] theorem T_struct_todo_s_string_dirs_s_walk_dir_follow_bool_b4679ffd_agg : T_struct_todo_s_string_dirs_s_walk_dir_follow_bool_b4679ffd.agg = true := rfl
@[simp] theorem T_struct_todo_s_string_dirs_s_walk_dir_follow_bool_b4679ffd_zero : T_struct_todo_s_string_dirs_s_walk_dir_follow_bool_b4679ffd.zero = [.vs 1 [] .nil, .vs 2 [] .nil, .bool false, .int .i64 0, .nil] := rfl
@[simp] theorem T_struct_todo_s_string_dirs_s_walk_dir_follow_bool_b4679ffd_kind : T_struct_todo_s_string_dirs_s_walk_dir_follow_bool_b4679ffd.kind = .struct [(0, 44, 1), (1, 138, 1), (2, 4, 1), (3, 3, 1), (4, 139, 1)] := rfl
def T_walk_Walker : TI := { size := 5, bytes := 72, agg := true, zero := [.vs 1 [] .nil, .vs 2 [] .nil, .bool false, .int .i64 0, .nil], kind := .struct [(0, 44, 1), (1, 138, 1), (2, 4, 1), (3, 3, 1), (4, 139, 1)], id := 141 }
@[simp] theorem T_walk_Walker_size : T_walk_Walker.size = 5 := rfl
@[simp] theorem T_walk_Walker_agg : T_walk_Walker.agg = true := rfl
@[simp] theorem T_walk_Walker_zero : T_walk_Walker.zero = [.vs 1 [] .nil, .vs 2 [] .nil, .bool false, .int .i64 0, .nil] := rfl
@[simp] theorem T_walk_Walker_kind : T_walk_Walker.kind = .struct [(0, 44, 1), (1, 138, 1), (2, 4, 1), (3, 3, 1), (4, 139, 1)] := rfl
@[simp] theorem T_walk_Walker_id : T_walk_Walker.id = t_walk_Walker := rfl
def T_func_walk_dir : TI := { size := 1, bytes := 8, agg := false, zero := [.nilfn], kind := .func, id := 142 }
@[simp] theorem T_func_walk_dir_size : T_func_walk_dir.size = 1 := rfl
@[simp] theorem T_func_walk_dir_agg : T_func_walk_dir.agg = false := rfl
@[simp] theorem T_func_walk_dir_zero : T_func_walk_dir.zero = [.nilfn] := rfl
@[simp] theorem T_func_walk_dir_kind : T_func_walk_dir.kind = .func := rfl
def T_func_int_string_int_bool : TI := { size := 1, bytes := 8, agg := false, zero := [.nilfn], kind := .func, id := 144 }
@[simp] theorem T_func_int_string_int_bool_size : T_func_int_string_int_bool.size = 1 := rfl
@[simp] theorem T_func_int_string_int_bool_agg : T_func_int_string_int_bool.agg = false := rfl
@[simp] theorem T_func_int_string_int_bool_zero : T_func_int_string_int_bool.zero = [.nilfn] := rfl
@[simp] theorem T_func_int_string_int_bool_kind : T_func_int_string_int_bool.kind = .func := rfl
def T_struct_api_Node_ids_s_int : TI := { size := 8, bytes := 136, agg := true, zero := [.int .i64 0, .bool false, .vs 1 [] .nil, .vs 7 [] .nil, .int .i64 0, .vs 2 [] .nil, .str [], .vs 1 [] .nil], kind := .struct [(0, 73, 7), (7, 54, 1)], id := 145 }
@[simp] theorem T_struct_api_Node_ids_s_int_size : T_struct_api_Node_ids_s_int.size = 8 := rfl
@[simp] theorem T_struct_api_Node_ids_s_int_agg : T_struct_api_Node_ids_s_int.agg = true := rfl
@[simp] theorem T_struct_api_Node_ids_s_int_zero : T_struct_api_Node_ids_s_int.zero = [.int .i64 0, .bool false, .vs 1 [] .nil, .vs 7 [] .nil, .int .i64 0, .vs 2 [] .nil, .str [], .vs 1 [] .nil] := rfl
@[simp] theorem T_struct_api_Node_ids_s_int_kind : T_struct_api_Node_ids_s_int.kind = .struct [(0, 73, 7), (7, 54, 1)] := rfl
def T_branch_inode : TI := { size := 8, bytes := 136, agg := true, zero := [.int .i64 0, .bool false, .vs 1 [] .nil, .vs 7 [] .nil, .int .i64 0, .vs 2 [] .nil, .str [], .vs 1 [] .nil], kind := .struct [(0, 73, 7), (7, 54, 1)], id := 146 }
@[simp] theorem T_branch_inode_size : T_branch_inode.size = 8 := rfl
@[simp] theorem T_branch_inode_agg : T_branch_inode.agg = true := rfl
@[simp] theorem T_branch_inode_zero : T_branch_inode.zero = [.int .i64 0, .bool false, .vs 1 [] .nil, .vs 7 [] .nil, .int .i64 0, .vs 2 [] .nil, .str [], .vs 1 [] .nil] := rfl
@[simp] theorem T_branch_inode_kind : T_branch_inode.kind = .struct [(0, 73, 7), (7, 54, 1)] := rfl
def T_func_int_branch_inode : TI := { size := 1, bytes := 8, agg := false, zero := [.nilfn], kind := .func, id := 147 }
@[simp] theorem T_func_int_branch_inode_size : T_func_int_branch_inode.size = 1 := rfl
@[simp] theorem T_func_int_branch_inode_agg : T_func_int_branch_inode.agg = false := rfl
@[simp] theorem T_func_int_branch_inode_zero : T_func_int_branch_inode.zero = [.nilfn] := rfl
@[simp] theorem T_func_int_branch_inode_kind : T_func_int_branch_inode.kind = .func := rfl
def T_func_string_api_Errno : TI := { size := 1, bytes := 8, agg := false, zero := [.nilfn], kind := .func, id := 148 }
@[simp] theorem T_func_string_api_Errno_size : T_func_string_api_Errno.size = 1 := rfl
@[simp] theorem T_func_string_api_Errno_agg : T_func_string_api_Errno.agg = false := rfl
@[simp] theorem T_func_string_api_Errno_zero : T_func_string_api_Errno.zero = [.nilfn] := rfl
@[simp] theorem T_func_string_api_Errno_kind : T_func_string_api_Errno.kind = .func := rfl
def T_func_string_string_string : TI := { size := 1, bytes := 8, agg := false, zero := [.nilfn], kind := .func, id := 149 }
@[simp] theorem T_func_string_string_string_size : T_func_string_string_string.size = 1 := rfl
@[simp] theorem T_func_string_string_string_agg : T_func_string_string_string.agg = false := rfl
@[simp] theorem T_func_string_string_string_zero : T_func_string_string_string.zero = [.nilfn] := rfl
@[simp] theorem T_func_string_string_string_kind : T_func_string_string_string.kind = .func := rfl
def T_func_string_s_string_bool : TI := { size := 1, bytes := 8, agg := false, zero := [.nilfn], kind := .func, id := 151 }
@[simp] theorem T_func_string_s_string_bool_size : T_func_string_s_string_bool.size = 1 := rfl
@[simp] theorem T_func_string_s_string_bool_agg : T_func_string_s_string_bool.agg = false := rfl
@[simp] theorem T_func_string_s_string_bool_zero : T_func_string_s_string_bool.zero = [.nilfn] := rfl
@[simp] theorem T_func_string_s_string_bool_kind : T_func_string_s_string_bool.kind = .func := rfl
def T_func_s_api_Node_s_string_s_string_bool_int_socageref11_At : TI := { size := 1, bytes := 8, agg := false, zero := [.nilfn], kind := .func, id := 152 }
@[simp] theorem T_func_s_api_Node_s_string_s_string_bool_int_socageref11_At_size : T_func_s_api_Node_s_string_s_string_bool_int_socageref11_At.size = 1 := rfl
@[simp] theorem T_func_s_api_Node_s_string_s_string_bool_int_socageref11_At_agg : T_func_s_api_Node_s_string_s_string_bool_int_socageref11_At.agg = false := rfl
@[simp] theorem T_func_s_api_Node_s_string_s_string_bool_int_socageref11_At_zero : T_func_s_api_Node_s_string_s_string_bool_int_socageref11_At.zero = [.nilfn] := rfl
@[simp] theorem T_func_s_api_Node_s_string_s_string_bool_int_socageref11_At_kind : T_func_s_api_Node_s_string_s_string_bool_int_socageref11_At.kind = .func := rfl
def T_func_api_Node_string_int : TI := { size := 1, bytes := 8, agg := false, zero := [.nilfn], kind := .func, id := 153 }
@[simp] theorem T_func_api_Node_string_int_size : T_func_api_Node_string_int.size = 1 := rfl
@[simp] theorem T_func_api_Node_string_int_agg : T_func_api_Node_string_int.agg = false := rfl
@[simp] theorem T_func_api_Node_string_int_zero : T_func_api_Node_string_int.zero = [.nilfn] := rfl
@[simp] theorem T_func_api_Node_string_int_kind : T_func_api_Node_string_int.kind = .func := rfl
def T_s_uint8 : TI := { size := 1, bytes := 24, agg := false, zero := [.vs 1 [] .nil], kind := .slice 5, id := 154 }
@[simp] theorem T_s_uint8_size : T_s_uint8.size = 1 := rfl
@[simp] theorem T_s_uint8_agg : T_s_uint8.agg = false := rfl
@[simp] theorem T_s_uint8_zero : T_s_uint8.zero = [.vs 1 [] .nil] := rfl
@[simp] theorem T_s_uint8_kind : T_s_uint8.kind = .slice 5 := rfl
def T_func_s_api_Extent_int_uint8 : TI := { size := 1, bytes := 8, agg := false, zero := [.nilfn], kind := .func, id := 155 }
@[simp] theorem T_func_s_api_Extent_int_uint8_size : T_func_s_api_Extent_int_uint8.size = 1 := rfl
@[simp] theorem T_func_s_api_Extent_int_uint8_agg : T_func_s_api_Extent_int_uint8.agg = false := rfl
@[simp] theorem T_func_s_api_Extent_int_uint8_zero : T_func_s_api_Extent_int_uint8.zero = [.nilfn] := rfl
@[simp] theorem T_func_s_api_Extent_int_uint8_kind : T_func_s_api_Extent_int_uint8.kind = .func := rfl
def T_s_s_string : TI := { size := 1, bytes := 24, agg := false, zero := [.vs 1 [] .nil], kind := .slice 44, id := 156 }
@[simp] theorem T_s_s_string_size : T_s_s_string.size = 1 := rfl
@[simp] theorem T_s_s_string_agg : T_s_s_string.agg = false := rfl
@[simp] theorem T_s_s_string_zero : T_s_s_string.zero = [.vs 1 [] .nil] := rfl
@[simp] theorem T_s_s_string_kind : T_s_s_string.kind = .slice 44 := rfl
def T_func_int_s_string : TI := { size := 1, bytes := 8, agg := false, zero := [.nilfn], kind := .func, id := 157 }
@[simp] theorem T_func_int_s_string_size : T_func_int_s_string.size = 1 := rfl
@[simp] theorem T_func_int_s_string_agg : T_func_int_s_string.agg = false := rfl
@[simp] theorem T_func_int_s_string_zero : T_func_int_s_string.zero = [.nilfn] := rfl
@[simp] theorem T_func_int_s_string_kind : T_func_int_s_string.kind = .func := rfl
def T_s_heap_Item : TI := { size := 1, bytes := 24, agg := false, zero := [.vs 2 [] .nil], kind := .slice 162, id := 158 }
@[simp] theorem T_s_heap_Item_size : T_s_heap_Item.size = 1 := rfl
@[simp] theorem T_s_heap_Item_agg : T_s_heap_Item.agg = false := rfl
@[simp] theorem T_s_heap_Item_zero : T_s_heap_Item.zero = [.vs 2 [] .nil] := rfl
@[simp] theorem T_s_heap_Item_kind : T_s_heap_Item.kind = .slice 162 := rfl
def T_func_s_heap_Item_s_heap_Item : TI := { size := 1, bytes := 8, agg := false, zero := [.nilfn], kind := .func, id := 159 }
@[simp] theorem T_func_s_heap_Item_s_heap_Item_size : T_func_s_heap_Item_s_heap_Item.size = 1 := rfl
@[simp] theorem T_func_s_heap_Item_s_heap_Item_agg : T_func_s_heap_Item_s_heap_Item.agg = false := rfl
@[simp] theorem T_func_s_heap_Item_s_heap_Item_zero : T_func_s_heap_Item_s_heap_Item.zero = [.nilfn] := rfl
@[simp] theorem T_func_s_heap_Item_s_heap_Item_kind : T_func_s_heap_Item_s_heap_Item.kind = .func := rfl
def T_func_s_string_s_heap_Item : TI := { size := 1, bytes := 8, agg := false, zero := [.nilfn], kind := .func, id := 160 }
@[simp] theorem T_func_s_string_s_heap_Item_size : T_func_s_string_s_heap_Item.size = 1 := rfl
@[simp] theorem T_func_s_string_s_heap_Item_agg : T_func_s_string_s_heap_Item.agg = false := rfl
@[simp] theorem T_func_s_string_s_heap_Item_zero : T_func_s_string_s_heap_Item.zero = [.nilfn] := rfl
@[simp] theorem T_func_s_string_s_heap_Item_kind : T_func_s_string_s_heap_Item.kind = .func := rfl
def T_struct_Name_string_Row_int : TI := { size := 2, bytes := 24, agg := true, zero := [.str [], .int .i64 0], kind := .struct [(0, 9, 1), (1, 3, 1)], id := 161 }
@[simp] theorem T_struct_Name_string_Row_int_size : T_struct_Name_string_Row_int.size = 2 := rfl
@[simp] theorem T_struct_Name_string_Row_int_agg : T_struct_Name_string_Row_int.agg = true := rfl
@[simp] theorem T_struct_Name_string_Row_int_zero : T_struct_Name_string_Row_int.zero = [.str [], .int .i64 0] := rfl
@[simp] theorem T_struct_Name_string_Row_int_kind : T_struct_Name_string_Row_int.kind = .struct [(0, 9, 1), (1, 3, 1)] := rfl
def T_heap_Item : TI := { size := 2, bytes := 24, agg := true, zero := [.str [], .int .i64 0], kind := .struct [(0, 9, 1), (1, 3, 1)], id := 162 }
@[simp] theorem T_heap_Item_size : T_heap_Item.size = 2 := rfl
@[simp] theorem T_heap_Item_agg : T_heap_Item.agg = true := rfl
@[simp] theorem T_heap_Item_zero : T_heap_Item.zero = [.str [], .int .i64 0] := rfl
@[simp] theorem T_heap_Item_kind : T_heap_Item.kind = .struct [(0, 9, 1), (1, 3, 1)] := rfl
def T_func_s_string_string_s_string : TI := { size := 1, bytes := 8, agg := false, zero := [.nilfn], kind := .func, id := 163 }
@[simp] theorem T_func_s_string_string_s_string_size : T_func_s_string_string_s_string.size = 1 := rfl
@[simp] theorem T_func_s_string_string_s_string_agg : T_func_s_string_string_s_string.agg = false := rfl
@[simp] theorem T_func_s_string_string_s_string_zero : T_func_s_string_string_s_string.zero = [.nilfn] := rfl
@[simp] theorem T_func_s_string_string_s_string_kind : T_func_s_string_string_s_string.kind = .func := rfl
def T_func_s_api_Node_string_s_api_Node : TI := { size := 1, bytes := 8, agg := false, zero := [.nilfn], kind := .func, id := 164 }
@[simp] theorem T_func_s_api_Node_string_s_api_Node_size : T_func_s_api_Node_string_s_api_Node.size = 1 := rfl
@[simp] theorem T_func_s_api_Node_string_s_api_Node_agg : T_func_s_api_Node_string_s_api_Node.agg = false := rfl
@[simp] theorem T_func_s_api_Node_string_s_api_Node_zero : T_func_s_api_Node_string_s_api_Node.zero = [.nilfn] := rfl
@[simp] theorem T_func_s_api_Node_string_s_api_Node_kind : T_func_s_api_Node_string_s_api_Node.kind = .func := rfl
def T_func_string_string_s_string : TI := { size := 1, bytes := 8, agg := false, zero := [.nilfn], kind := .func, id := 165 }
@[simp] theorem T_func_string_string_s_string_size : T_func_string_string_s_string.size = 1 := rfl
@[simp] theorem T_func_string_string_s_string_agg : T_func_string_string_s_string.agg = false := rfl
@[simp] theorem T_func_string_string_s_string_zero : T_func_string_string_s_string.zero = [.nilfn] := rfl
@[simp] theorem T_func_string_string_s_string_kind : T_func_string_string_s_string.kind = .func := rfl
def T_struct_script_Script_part_int : TI := { size := 7, bytes := 104, agg := true, zero := [.int .i64 0, .int .i64 0, .int .i64 0, .vs 1 [] .nil, .vs 1 [] .nil, .vs 1 [] .nil, .int .i64 0], kind := .struct [(0, 115, 6), (6, 3, 1)], id := 166 }
@[simp] theorem T_struct_script_Script_part_int_size : T_struct_script_Script_part_int.size = 7 := rfl
@[simp] theorem T_struct_script_Script_part_int_agg : T_struct_script_Script_part_int.agg = true := rfl
@[simp] theorem T_struct_script_Script_part_int_zero : T_struct_script_Script_part_int.zero = [.int .i64 0, .int .i64 0, .int .i64 0, .vs 1 [] .nil, .vs 1 [] .nil, .vs 1 [] .nil, .int .i64 0] := rfl
@[simp] theorem T_struct_script_Script_part_int_kind : T_struct_script_Script_part_int.kind = .struct [(0, 115, 6), (6, 3, 1)] := rfl
def T_script_reader : TI := { size := 7, bytes := 104, agg := true, zero := [.int .i64 0, .int .i64 0, .int .i64 0, .vs 1 [] .nil, .vs 1 [] .nil, .vs 1 [] .nil, .int .i64 0], kind := .struct [(0, 115, 6), (6, 3, 1)], id := 167 }
@[simp] theorem T_script_reader_size : T_script_reader.size = 7 := rfl
@[simp] theorem T_script_reader_agg : T_script_reader.agg = true := rfl
@[simp] theorem T_script_reader_zero : T_script_reader.zero = [.int .i64 0, .int .i64 0, .int .i64 0, .vs 1 [] .nil, .vs 1 [] .nil, .vs 1 [] .nil, .int .i64 0] := rfl
@[simp] theorem T_script_reader_kind : T_script_reader.kind = .struct [(0, 115, 6), (6, 3, 1)] := rfl
def T_func_string_bool : TI := { size := 1, bytes := 8, agg := false, zero := [.nilfn], kind := .func, id := 168 }
@[simp] theorem T_func_string_bool_size : T_func_string_bool.size = 1 := rfl
@[simp] theorem T_func_string_bool_agg : T_func_string_bool.agg = false := rfl
@[simp] theorem T_func_string_bool_zero : T_func_string_bool.zero = [.nilfn] := rfl
@[simp] theorem T_func_string_bool_kind : T_func_string_bool.kind = .func := rfl
def T_func_string_int_int_string : TI := { size := 1, bytes := 8, agg := false, zero := [.nilfn], kind := .func, id := 169 }
@[simp] theorem T_func_string_int_int_string_size : T_func_string_int_int_string.size = 1 := rfl
@[simp] theorem T_func_string_int_int_string_agg : T_func_string_int_int_string.agg = false := rfl
@[simp] theorem T_func_string_int_int_string_zero : T_func_string_int_int_string.zero = [.nilfn] := rfl
@[simp] theorem T_func_string_int_int_string_kind : T_func_string_int_int_string.kind = .func := rfl
def T_func_string_string_int_string : TI := { size := 1, bytes := 8, agg := false, zero := [.nilfn], kind := .func, id := 170 }
@[simp] theorem T_func_string_string_int_string_size : T_func_string_string_int_string.size = 1 := rfl
@[simp] theorem T_func_string_string_int_string_agg : T_func_string_string_int_string.agg = false := rfl
@[simp] theorem T_func_string_string_int_string_zero : T_func_string_string_int_string.zero = [.nilfn] := rfl
@[simp] theorem T_func_string_string_int_string_kind : T_func_string_string_int_string.kind = .func := rfl
def T_struct_Off_int_Data_string : TI := { size := 2, bytes := 24, agg := true, zero := [.int .i64 0, .str []], kind := .struct [(0, 3, 1), (1, 9, 1)], id := 171 }
@[simp] theorem T_struct_Off_int_Data_string_size : T_struct_Off_int_Data_string.size = 2 := rfl
@[simp] theorem T_struct_Off_int_Data_string_agg : T_struct_Off_int_Data_string.agg = true := rfl
@[simp] theorem T_struct_Off_int_Data_string_zero : T_struct_Off_int_Data_string.zero = [.int .i64 0, .str []] := rfl
@[simp] theorem T_struct_Off_int_Data_string_kind : T_struct_Off_int_Data_string.kind = .struct [(0, 3, 1), (1, 9, 1)] := rfl
def T_api_Extent : TI := { size := 2, bytes := 24, agg := true, zero := [.int .i64 0, .str []], kind := .struct [(0, 3, 1), (1, 9, 1)], id := 172 }
@[simp] theorem T_api_Extent_size : T_api_Extent.size = 2 := rfl
@[simp] theorem T_api_Extent_agg : T_api_Extent.agg = true := rfl
@[simp] theorem T_api_Extent_zero : T_api_Extent.zero = [.int .i64 0, .str []] := rfl
@[simp] theorem T_api_Extent_kind : T_api_Extent.kind = .struct [(0, 3, 1), (1, 9, 1)] := rfl
@[simp] theorem T_api_Extent_id : T_api_Extent.id = t_api_Extent := rfl
def T_func_string_api_Node_api_Errno : TI := { size := 1, bytes := 8, agg := false, zero := [.nilfn], kind := .func, id := 174 }
@[simp] theorem T_func_string_api_Node_api_Errno_size : T_func_string_api_Node_api_Errno.size = 1 := rfl
@[simp] theorem T_func_string_api_Node_api_Errno_agg : T_func_string_api_Node_api_Errno.agg = false := rfl
@[simp] theorem T_func_string_api_Node_api_Errno_zero : T_func_string_api_Node_api_Errno.zero = [.nilfn] := rfl
@[simp] theorem T_func_string_api_Node_api_Errno_kind : T_func_string_api_Node_api_Errno.kind = .func := rfl
def T_func_string_int_int_int : TI := { size := 1, bytes := 8, agg := false, zero := [.nilfn], kind := .func, id := 175 }
@[simp] theorem T_func_string_int_int_int_size : T_func_string_int_int_int.size = 1 := rfl
@[simp] theorem T_func_string_int_int_int_agg : T_func_string_int_int_int.agg = false := rfl
@[simp] theorem T_func_string_int_int_int_zero : T_func_string_int_int_int.zero = [.nilfn] := rfl
@[simp] theorem T_func_string_int_int_int_kind : T_func_string_int_int_int.kind = .func := rfl
def T_s_branch_inode : TI := { size := 1, bytes := 24, agg := false, zero := [.vs 8 [] .nil], kind := .slice 146, id := 176 }
@[simp] theorem T_s_branch_inode_size : T_s_branch_inode.size = 1 := rfl
@[simp] theorem T_s_branch_inode_agg : T_s_branch_inode.agg = false := rfl
@[simp] theorem T_s_branch_inode_zero : T_s_branch_inode.zero = [.vs 8 [] .nil] := rfl
@[simp] theorem T_s_branch_inode_kind : T_s_branch_inode.kind = .slice 146 := rfl
def T_struct_table_s_branch_inode : TI := { size := 1, bytes := 24, agg := true, zero := [.vs 8 [] .nil], kind := .struct [(0, 176, 1)], id := 177 }
@[simp] theorem T_struct_table_s_branch_inode_size : T_struct_table_s_branch_inode.size = 1 := rfl
@[simp] theorem T_struct_table_s_branch_inode_agg : T_struct_table_s_branch_inode.agg = true := rfl
@[simp] theorem T_struct_table_s_branch_inode_zero : T_struct_table_s_branch_inode.zero = [.vs 8 [] .nil] := rfl
@[simp] theorem T_struct_table_s_branch_inode_kind : T_struct_table_s_branch_inode.kind = .struct [(0, 176, 1)] := rfl
def T_branch_Branch : TI := { size := 1, bytes := 24, agg := true, zero := [.vs 8 [] .nil], kind := .struct [(0, 176, 1)], id := 178 }
@[simp] theorem T_branch_Branch_size : T_branch_Branch.size = 1 := rfl
@[simp] theorem T_branch_Branch_agg : T_branch_Branch.agg = true := rfl
@[simp] theorem T_branch_Branch_zero : T_branch_Branch.zero = [.vs 8 [] .nil] := rfl
@[simp] theorem T_branch_Branch_kind : T_branch_Branch.kind = .struct [(0, 176, 1)] := rfl
@[simp] theorem T_branch_Branch_id : T_branch_Branch.id = t_branch_Branch := rfl
def T_func_s_string_string_int_bool : TI := { size := 1, bytes := 8, agg := false, zero := [.nilfn], kind := .func, id := 179 }
@[simp] theorem T_func_s_string_string_int_bool_size : T_func_s_string_string_int_bool.size = 1 := rfl
@[simp] theorem T_func_s_string_string_int_bool_agg : T_func_s_string_string_int_bool.agg = false := rfl
@[simp] theorem T_func_s_string_string_int_bool_zero : T_func_s_string_string_int_bool.zero = [.nilfn] := rfl
@[simp] theorem T_func_s_string_string_int_bool_kind : T_func_s_string_string_int_bool.kind = .func := rfl
def T_func_s_api_Node_s_string_s_api_Node : TI := { size := 1, bytes := 8, agg := false, zero := [.nilfn], kind := .func, id := 180 }
@[simp] theorem T_func_s_api_Node_s_string_s_api_Node_size : T_func_s_api_Node_s_string_s_api_Node.size = 1 := rfl
@[simp] theorem T_func_s_api_Node_s_string_s_api_Node_agg : T_func_s_api_Node_s_string_s_api_Node.agg = false := rfl
@[simp] theorem T_func_s_api_Node_s_string_s_api_Node_zero : T_func_s_api_Node_s_string_s_api_Node.zero = [.nilfn] := rfl
@[simp] theorem T_func_s_api_Node_s_string_s_api_Node_kind : T_func_s_api_Node_s_string_s_api_Node.kind = .func := rfl
def T_p_strings_Builder : TI := { size := 1, bytes := 8, agg := false, zero := [.nil], kind := .ptr 183, id := 181 }
@[simp] theorem T_p_strings_Builder_size : T_p_strings_Builder.size = 1 := rfl
@[simp] theorem T_p_strings_Builder_agg : T_p_strings_Builder.agg = false := rfl
@[simp] theorem T_p_strings_Builder_zero : T_p_strings_Builder.zero = [.nil] := rfl
@[simp] theorem T_p_strings_Builder_kind : T_p_strings_Builder.kind = .ptr 183 := rfl
def T_struct_addr_p_strings_Builder_buf_s_uint8 : TI := { size := 2, bytes := 32, agg := true, zero := [.nil, .vs 1 [] .nil], kind := .struct [(0, 181, 1), (1, 154, 1)], id := 182 }
@[simp] theorem T_struct_addr_p_strings_Builder_buf_s_uint8_size : T_struct_addr_p_strings_Builder_buf_s_uint8.size = 2 := rfl
@[simp] theorem T_struct_addr_p_strings_Builder_buf_s_uint8_agg : T_struct_addr_p_strings_Builder_buf_s_uint8.agg = true := rfl
@[simp] theorem T_struct_addr_p_strings_Builder_buf_s_uint8_zero : T_struct_addr_p_strings_Builder_buf_s_uint8.zero = [.nil, .vs 1 [] .nil] := rfl
@[simp] theorem T_struct_addr_p_strings_Builder_buf_s_uint8_kind : T_struct_addr_p_strings_Builder_buf_s_uint8.kind = .struct [(0, 181, 1), (1, 154, 1)] := rfl
def T_strings_Builder : TI := { size := 2, bytes := 32, agg := true, zero := [.nil, .vs 1 [] .nil], kind := .struct [(0, 181, 1), (1, 154, 1)], id := 183 }
@[simp] theorem T_strings_Builder_size : T_strings_Builder.size = 2 := rfl
@[simp] theorem T_strings_Builder_agg : T_strings_Builder.agg = true := rfl
@[simp] theorem T_strings_Builder_zero : T_strings_Builder.zero = [.nil, .vs 1 [] .nil] := rfl
@[simp] theorem T_strings_Builder_kind : T_strings_Builder.kind = .struct [(0, 181, 1), (1, 154, 1)] := rfl
@[simp] theorem T_strings_Builder_id : T_strings_Builder.id = t_strings_Builder := rfl
def T_interface_Error_string : TI := { size := 1, bytes := 16, agg := false, zero := [.nilifc], kind := .iface, id := 184 }
@[simp] theorem T_interface_Error_string_size : T_interface_Error_string.size = 1 := rfl
@[simp] theorem T_interface_Error_string_agg : T_interface_Error_string.agg = false := rfl
@[simp] theorem T_interface_Error_string_zero : T_interface_Error_string.zero = [.nilifc] := rfl
@[simp] theorem T_interface_Error_string_kind : T_interface_Error_string.kind = .iface := rfl
def T_error : TI := { size := 1, bytes := 16, agg := false, zero := [.nilifc], kind := .iface, id := 185 }
@[simp] theorem T_error_size : T_error.size = 1 := rfl
@[simp] theorem T_error_agg : T_error.agg = false := rfl
@[simp] theorem T_error_zero : T_error.zero = [.nilifc] := rfl
@[simp] theorem T_error_kind : T_error.kind = .iface := rfl
def T_func_string_int_error : TI := { size := 1, bytes := 8, agg := false, zero := [.nilfn], kind := .func, id := 187 }
@[simp] theorem T_func_string_int_error_size : T_func_string_int_error.size = 1 := rfl
@[simp] theorem T_func_string_int_error_agg : T_func_string_int_error.agg = false := rfl
@[simp] theorem T_func_string_int_error_zero : T_func_string_int_error.zero = [.nilfn] := rfl
@[simp] theorem T_func_string_int_error_kind : T_func_string_int_error.kind = .func := rfl
def T_func_string_int_string : TI := { size := 1, bytes := 8, agg := false, zero := [.nilfn], kind := .func, id := 188 }
@[simp] theorem T_func_string_int_string_size : T_func_string_int_string.size = 1 := rfl
@[simp] theorem T_func_string_int_string_agg : T_func_string_int_string.agg = false := rfl
@[simp] theorem T_func_string_int_string_zero : T_func_string_int_string.zero = [.nilfn] := rfl
@[simp] theorem T_func_string_int_string_kind : T_func_string_int_string.kind = .func := rfl
def T_func_string : TI := { size := 1, bytes := 8, agg := false, zero := [.nilfn], kind := .func, id := 189 }
@[simp] theorem T_func_string_size : T_func_string.size = 1 := rfl
@[simp] theorem T_func_string_agg : T_func_string.agg = false := rfl
@[simp] theorem T_func_string_zero : T_func_string.zero = [.nilfn] := rfl
@[simp] theorem T_func_string_kind : T_func_string.kind = .func := rfl
def T_p_heap_heads : TI := { size := 1, bytes := 8, agg := false, zero := [.nil], kind := .ptr 195, id := 190 }
@[simp] theorem T_p_heap_heads_size : T_p_heap_heads.size = 1 := rfl
@[simp] theorem T_p_heap_heads_agg : T_p_heap_heads.agg = false := rfl
@[simp] theorem T_p_heap_heads_zero : T_p_heap_heads.zero = [.nil] := rfl
@[simp] theorem T_p_heap_heads_kind : T_p_heap_heads.kind = .ptr 195 := rfl
def T_func_heap_Item_heap_Item_bool : TI := { size := 1, bytes := 8, agg := false, zero := [.nilfn], kind := .func, id := 191 }
@[simp] theorem T_func_heap_Item_heap_Item_bool_size : T_func_heap_Item_heap_Item_bool.size = 1 := rfl
@[simp] theorem T_func_heap_Item_heap_Item_bool_agg : T_func_heap_Item_heap_Item_bool.agg = false := rfl
@[simp] theorem T_func_heap_Item_heap_Item_bool_zero : T_func_heap_Item_heap_Item_bool.zero = [.nilfn] := rfl
@[simp] theorem T_func_heap_Item_heap_Item_bool_kind : T_func_heap_Item_heap_Item_bool.kind = .func := rfl
def T_func_heap_Item_bool : TI := { size := 1, bytes := 8, agg := false, zero := [.nilfn], kind := .func, id := 192 }
@[simp] theorem T_func_heap_Item_bool_size : T_func_heap_Item_bool.size = 1 := rfl
@[simp] theorem T_func_heap_Item_bool_agg : T_func_heap_Item_bool.agg = false := rfl
@[simp] theorem T_func_heap_Item_bool_zero : T_func_heap_Item_bool.zero = [.nilfn] := rfl
@[simp] theorem T_func_heap_Item_bool_kind : T_func_heap_Item_bool.kind = .func := rfl
def T_s_heap_head : TI := { size := 1, bytes := 24, agg := false, zero := [.vs 3 [] .nil], kind := .slice 197, id := 193 }
@[simp] theorem T_s_heap_head_size : T_s_heap_head.size = 1 := rfl
@[simp] theorem T_s_heap_head_agg : T_s_heap_head.agg = false := rfl
@[simp] theorem T_s_heap_head_zero : T_s_heap_head.zero = [.vs 3 [] .nil] := rfl
@[simp] theorem T_s_heap_head_kind : T_s_heap_head.kind = .slice 197 := rfl
def T_struct_l_s_heap_head_less_func_heap_Item_heap_Item_bool : TI := { size := 2, bytes := 32, agg := true, zero := [.vs 3 [] .nil, .nilfn], kind := .struct [(0, 193, 1), (1, 191, 1)], id := 194 }
@[simp] theorem T_struct_l_s_heap_head_less_func_heap_Item_heap_Item_bool_size : T_struct_l_s_heap_head_less_func_heap_Item_heap_Item_bool.size = 2 := rfl
@[simp] theorem T_struct_l_s_heap_head_less_func_heap_Item_heap_Item_bool_agg : T_struct_l_s_heap_head_less_func_heap_Item_heap_Item_bool.agg = true := rfl
@[simp] theorem T_struct_l_s_heap_head_less_func_heap_Item_heap_Item_bool_zero : T_struct_l_s_heap_head_less_func_heap_Item_heap_Item_bool.zero = [.vs 3 [] .nil, .nilfn] := rfl
@[simp] theorem T_struct_l_s_heap_head_less_func_heap_Item_heap_Item_bool_kind : T_struct_l_s_heap_head_less_func_heap_Item_heap_Item_bool.kind = .struct [(0, 193, 1), (1, 191, 1)] := rfl
def T_heap_heads : TI := { size := 2, bytes := 32, agg := true, zero := [.vs 3 [] .nil, .nilfn], kind := .struct [(0, 193, 1), (1, 191, 1)], id := 195 }
@[simp] theorem T_heap_heads_size : T_heap_heads.size = 2 := rfl
@[simp] theorem T_heap_heads_agg : T_heap_heads.agg = true := rfl
@[simp] theorem T_heap_heads_zero : T_heap_heads.zero = [.vs 3 [] .nil, .nilfn] := rfl
@[simp] theorem T_heap_heads_kind : T_heap_heads.kind = .struct [(0, 193, 1), (1, 191, 1)] := rfl
def T_struct_heap_Item_rest_s_string : TI := { size := 3, bytes := 48, agg := true, zero := [.str [], .int .i64 0, .vs 1 [] .nil], kind := .struct [(0, 162, 2), (2, 44, 1)], id := 196 }
@[simp] theorem T_struct_heap_Item_rest_s_string_size : T_struct_heap_Item_rest_s_string.size = 3 := rfl
@[simp] theorem T_struct_heap_Item_rest_s_string_agg : T_struct_heap_Item_rest_s_string.agg = true := rfl
@[simp] theorem T_struct_heap_Item_rest_s_string_zero : T_struct_heap_Item_rest_s_string.zero = [.str [], .int .i64 0, .vs 1 [] .nil] := rfl
@[simp] theorem T_struct_heap_Item_rest_s_string_kind : T_struct_heap_Item_rest_s_string.kind = .struct [(0, 162, 2), (2, 44, 1)] := rfl
def T_heap_head : TI := { size := 3, bytes := 48, agg := true, zero := [.str [], .int .i64 0, .vs 1 [] .nil], kind := .struct [(0, 162, 2), (2, 44, 1)], id := 197 }
@[simp] theorem T_heap_head_size : T_heap_head.size = 3 := rfl
@[simp] theorem T_heap_head_agg : T_heap_head.agg = true := rfl
@[simp] theorem T_heap_head_zero : T_heap_head.zero = [.str [], .int .i64 0, .vs 1 [] .nil] := rfl
@[simp] theorem T_heap_head_kind : T_heap_head.kind = .struct [(0, 162, 2), (2, 44, 1)] := rfl
def T_func_heap_Interface : TI := { size := 1, bytes := 8, agg := false, zero := [.nilfn], kind := .func, id := 198 }
@[simp] theorem T_func_heap_Interface_size : T_func_heap_Interface.size = 1 := rfl
@[simp] theorem T_func_heap_Interface_agg : T_func_heap_Interface.agg = false := rfl
@[simp] theorem T_func_heap_Interface_zero : T_func_heap_Interface.zero = [.nilfn] := rfl
@[simp] theorem T_func_heap_Interface_kind : T_func_heap_Interface.kind = .func := rfl
def T_p_heap_head : TI := { size := 1, bytes := 8, agg := false, zero := [.nil], kind := .ptr 197, id := 199 }
@[simp] theorem T_p_heap_head_size : T_p_heap_head.size = 1 := rfl
@[simp] theorem T_p_heap_head_agg : T_p_heap_head.agg = false := rfl
@[simp] theorem T_p_heap_head_zero : T_p_heap_head.zero = [.nil] := rfl
@[simp] theorem T_p_heap_head_kind : T_p_heap_head.kind = .ptr 197 := rfl
def T_func_heap_Interface_interface : TI := { size := 1, bytes := 8, agg := false, zero := [.nilfn], kind := .func, id := 200 }
@[simp] theorem T_func_heap_Interface_interface_size : T_func_heap_Interface_interface.size = 1 := rfl
@[simp] theorem T_func_heap_Interface_interface_agg : T_func_heap_Interface_interface.agg = false := rfl
@[simp] theorem T_func_heap_Interface_interface_zero : T_func_heap_Interface_interface.zero = [.nilfn] := rfl
@[simp] theorem T_func_heap_Interface_interface_kind : T_func_heap_Interface_interface.kind = .func := rfl
def T_func_heap_Interface_int : TI := { size := 1, bytes := 8, agg := false, zero := [.nilfn], kind := .func, id := 201 }
@[simp] theorem T_func_heap_Interface_int_size : T_func_heap_Interface_int.size = 1 := rfl
@[simp] theorem T_func_heap_Interface_int_agg : T_func_heap_Interface_int.agg = false := rfl
@[simp] theorem T_func_heap_Interface_int_zero : T_func_heap_Interface_int.zero = [.nilfn] := rfl
@[simp] theorem T_func_heap_Interface_int_kind : T_func_heap_Interface_int.kind = .func := rfl
def T_func_string_string_bool : TI := { size := 1, bytes := 8, agg := false, zero := [.nilfn], kind := .func, id := 202 }
@[simp] theorem T_func_string_string_bool_size : T_func_string_string_bool.size = 1 := rfl
@[simp] theorem T_func_string_string_bool_agg : T_func_string_string_bool.agg = false := rfl
@[simp] theorem T_func_string_string_bool_zero : T_func_string_string_bool.zero = [.nilfn] := rfl
@[simp] theorem T_func_string_string_bool_kind : T_func_string_string_bool.kind = .func := rfl
def T_func_string_string_int_int_s_string : TI := { size := 1, bytes := 8, agg := false, zero := [.nilfn], kind := .func, id := 203 }
@[simp] theorem T_func_string_string_int_int_s_string_size : T_func_string_string_int_int_s_string.size = 1 := rfl
@[simp] theorem T_func_string_string_int_int_s_string_agg : T_func_string_string_int_int_s_string.agg = false := rfl
@[simp] theorem T_func_string_string_int_int_s_string_zero : T_func_string_string_int_int_s_string.zero = [.nilfn] := rfl
@[simp] theorem T_func_string_string_int_int_s_string_kind : T_func_string_string_int_int_s_string.kind = .func := rfl
def T_p_script_reader : TI := { size := 1, bytes := 8, agg := false, zero := [.nil], kind := .ptr 167, id := 204 }
@[simp] theorem T_p_script_reader_size : T_p_script_reader.size = 1 := rfl
@[simp] theorem T_p_script_reader_agg : T_p_script_reader.agg = false := rfl
@[simp] theorem T_p_script_reader_zero : T_p_script_reader.zero = [.nil] := rfl
@[simp] theorem T_p_script_reader_kind : T_p_script_reader.kind = .ptr 167 := rfl
def T_func_s_string_s_int_bool : TI := { size := 1, bytes := 8, agg := false, zero := [.nilfn], kind := .func, id := 206 }
@[simp] theorem T_func_s_string_s_int_bool_size : T_func_s_string_s_int_bool.size = 1 := rfl
@[simp] theorem T_func_s_string_s_int_bool_agg : T_func_s_string_s_int_bool.agg = false := rfl
@[simp] theorem T_func_s_string_s_int_bool_zero : T_func_s_string_s_int_bool.zero = [.nilfn] := rfl
@[simp] theorem T_func_s_string_s_int_bool_kind : T_func_s_string_s_int_bool.kind = .func := rfl
def T_func_string_string_bool_a09ce2 : TI := { size := 1, bytes := 8, agg := false, zero := [.nilfn], kind := .func, id := 207 }
@[simp] theorem T_func_string_string_bool_a09ce2_size : T_func_string_string_bool_a09ce2.size = 1 := rfl
@[simp] theorem T_func_string_string_bool_a09ce2_agg : T_func_string_string_bool_a09ce2.agg = false := rfl
@[simp] theorem T_func_string_string_bool_a09ce2_zero : T_func_string_string_bool_a09ce2.zero = [.nilfn] := rfl
@[simp] theorem T_func_string_string_bool_a09ce2_kind : T_func_string_string_bool_a09ce2.kind = .func := rfl
def T_func_string_api_Op_bool : TI := { size := 1, bytes := 8, agg := false, zero := [.nilfn], kind := .func, id := 209 }
@[simp] theorem T_func_string_api_Op_bool_size : T_func_string_api_Op_bool.size = 1 := rfl
@[simp] theorem T_func_string_api_Op_bool_agg : T_func_string_api_Op_bool.agg = false := rfl
@[simp] theorem T_func_string_api_Op_bool_zero : T_func_string_api_Op_bool.zero = [.nilfn] := rfl
@[simp] theorem T_func_string_api_Op_bool_kind : T_func_string_api_Op_bool.kind = .func := rfl
def T_p_image_reader : TI := { size := 1, bytes := 8, agg := false, zero := [.nil], kind := .ptr 214, id := 210 }
@[simp] theorem T_p_image_reader_size : T_p_image_reader.size = 1 := rfl
@[simp] theorem T_p_image_reader_agg : T_p_image_reader.agg = false := rfl
@[simp] theorem T_p_image_reader_zero : T_p_image_reader.zero = [.nil] := rfl
@[simp] theorem T_p_image_reader_kind : T_p_image_reader.kind = .ptr 214 := rfl
def T_p_wire_Reader : TI := { size := 1, bytes := 8, agg := false, zero := [.nil], kind := .ptr 240, id := 211 }
@[simp] theorem T_p_wire_Reader_size : T_p_wire_Reader.size = 1 := rfl
@[simp] theorem T_p_wire_Reader_agg : T_p_wire_Reader.agg = false := rfl
@[simp] theorem T_p_wire_Reader_zero : T_p_wire_Reader.zero = [.nil] := rfl
@[simp] theorem T_p_wire_Reader_kind : T_p_wire_Reader.kind = .ptr 240 := rfl
def T_func_string_p_wire_Reader : TI := { size := 1, bytes := 8, agg := false, zero := [.nilfn], kind := .func, id := 212 }
@[simp] theorem T_func_string_p_wire_Reader_size : T_func_string_p_wire_Reader.size = 1 := rfl
@[simp] theorem T_func_string_p_wire_Reader_agg : T_func_string_p_wire_Reader.agg = false := rfl
@[simp] theorem T_func_string_p_wire_Reader_zero : T_func_string_p_wire_Reader.zero = [.nilfn] := rfl
@[simp] theorem T_func_string_p_wire_Reader_kind : T_func_string_p_wire_Reader.kind = .func := rfl
def T_struct_p_wire_Reader_bad_bool_left_int : TI := { size := 3, bytes := 24, agg := true, zero := [.nil, .bool false, .int .i64 0], kind := .struct [(0, 211, 1), (1, 4, 1), (2, 3, 1)], id := 213 }
@[simp] theorem T_struct_p_wire_Reader_bad_bool_left_int_size : T_struct_p_wire_Reader_bad_bool_left_int.size = 3 := rfl
@[simp] theorem T_struct_p_wire_Reader_bad_bool_left_int_agg : T_struct_p_wire_Reader_bad_bool_left_int.agg = true := rfl
@[simp] theorem T_struct_p_wire_Reader_bad_bool_left_int_zero : T_struct_p_wire_Reader_bad_bool_left_int.zero = [.nil, .bool false, .int .i64 0] := rfl
@[simp] theorem T_struct_p_wire_Reader_bad_bool_left_int_kind : T_struct_p_wire_Reader_bad_bool_left_int.kind = .struct [(0, 211, 1), (1, 4, 1), (2, 3, 1)] := rfl
def T_image_reader : TI := { size := 3, bytes := 24, agg := true, zero := [.nil, .bool false, .int .i64 0], kind := .struct [(0, 211, 1), (1, 4, 1), (2, 3, 1)], id := 214 }
@[simp] theorem T_image_reader_size : T_image_reader.size = 3 := rfl
@[simp] theorem T_image_reader_agg : T_image_reader.agg = true := rfl
@[simp] theorem T_image_reader_zero : T_image_reader.zero = [.nil, .bool false, .int .i64 0] := rfl
@[simp] theorem T_image_reader_kind : T_image_reader.kind = .struct [(0, 211, 1), (1, 4, 1), (2, 3, 1)] := rfl
@[simp] theorem T_image_reader_id : T_image_reader.id = t_image_reader := rfl
def T_func_int_api_Node : TI := { size := 1, bytes := 8, agg := false, zero := [.nilfn], kind := .func, id := 215 }
@[simp] theorem T_func_int_api_Node_size : T_func_int_api_Node.size = 1 := rfl
@[simp] theorem T_func_int_api_Node_agg : T_func_int_api_Node.agg = false := rfl
@[simp] theorem T_func_int_api_Node_zero : T_func_int_api_Node.zero = [.nilfn] := rfl
@[simp] theorem T_func_int_api_Node_kind : T_func_int_api_Node.kind = .func := rfl
def T_func_string_int : TI := { size := 1, bytes := 8, agg := false, zero := [.nilfn], kind := .func, id := 216 }
@[simp] theorem T_func_string_int_size : T_func_string_int.size = 1 := rfl
@[simp] theorem T_func_string_int_agg : T_func_string_int.agg = false := rfl
@[simp] theorem T_func_string_int_zero : T_func_string_int.zero = [.nilfn] := rfl
@[simp] theorem T_func_string_int_kind : T_func_string_int.kind = .func := rfl
def T_func_s_api_Extent_s_api_Extent : TI := { size := 1, bytes := 8, agg := false, zero := [.nilfn], kind := .func, id := 217 }
@[simp] theorem T_func_s_api_Extent_s_api_Extent_size : T_func_s_api_Extent_s_api_Extent.size = 1 := rfl
@[simp] theorem T_func_s_api_Extent_s_api_Extent_agg : T_func_s_api_Extent_s_api_Extent.agg = false := rfl
@[simp] theorem T_func_s_api_Extent_s_api_Extent_zero : T_func_s_api_Extent_s_api_Extent.zero = [.nilfn] := rfl
@[simp] theorem T_func_s_api_Extent_s_api_Extent_kind : T_func_s_api_Extent_s_api_Extent.kind = .func := rfl
def T_func_int_s_api_Extent_bool : TI := { size := 1, bytes := 8, agg := false, zero := [.nilfn], kind := .func, id := 218 }
@[simp] theorem T_func_int_s_api_Extent_bool_size : T_func_int_s_api_Extent_bool.size = 1 := rfl
@[simp] theorem T_func_int_s_api_Extent_bool_agg : T_func_int_s_api_Extent_bool.agg = false := rfl
@[simp] theorem T_func_int_s_api_Extent_bool_zero : T_func_int_s_api_Extent_bool.zero = [.nilfn] := rfl
@[simp] theorem T_func_int_s_api_Extent_bool_kind : T_func_int_s_api_Extent_bool.kind = .func := rfl
def T_uint : TI := { size := 1, bytes := 8, agg := false, zero := [.int .u64 0], kind := .int .u64, id := 219 }
@[simp] theorem T_uint_size : T_uint.size = 1 := rfl
@[simp] theorem T_uint_agg : T_uint.agg = false := rfl
@[simp] theorem T_uint_zero : T_uint.zero = [.int .u64 0] := rfl
@[simp] theorem T_uint_kind : T_uint.kind = .int .u64 := rfl
def T_func_uint_uint_uint_uint : TI := { size := 1, bytes := 8, agg := false, zero := [.nilfn], kind := .func, id := 221 }
@[simp] theorem T_func_uint_uint_uint_uint_size : T_func_uint_uint_uint_uint.size = 1 := rfl
@[simp] theorem T_func_uint_uint_uint_uint_agg : T_func_uint_uint_uint_uint.agg = false := rfl
@[simp] theorem T_func_uint_uint_uint_uint_zero : T_func_uint_uint_uint_uint.zero = [.nilfn] := rfl
@[simp] theorem T_func_uint_uint_uint_uint_kind : T_func_uint_uint_uint_uint.kind = .func := rfl
def T_func_int_f2d63e : TI := { size := 1, bytes := 8, agg := false, zero := [.nilfn], kind := .func, id := 222 }
@[simp] theorem T_func_int_f2d63e_size : T_func_int_f2d63e.size = 1 := rfl
@[simp] theorem T_func_int_f2d63e_agg : T_func_int_f2d63e.agg = false := rfl
@[simp] theorem T_func_int_f2d63e_zero : T_func_int_f2d63e.zero = [.nilfn] := rfl
@[simp] theorem T_func_int_f2d63e_kind : T_func_int_f2d63e.kind = .func := rfl
def T_p_uint8 : TI := { size := 1, bytes := 8, agg := false, zero := [.nil], kind := .ptr 5, id := 223 }
@[simp] theorem T_p_uint8_size : T_p_uint8.size = 1 := rfl
@[simp] theorem T_p_uint8_agg : T_p_uint8.agg = false := rfl
@[simp] theorem T_p_uint8_zero : T_p_uint8.zero = [.nil] := rfl
@[simp] theorem T_p_uint8_kind : T_p_uint8.kind = .ptr 5 := rfl
def T_interface_Len_int_Less_int_int_bool_Pop_interfac_d7b234c6 : TI := { size := 1, bytes := 16, agg := false, zero := [.nilifc], kind := .iface, id := 224 }
@[simp] theorem T_interface_Len_int_Less_int_int_bool_Pop_interfac_d7b234c6_size : T_interface_Len_int_Less_int_int_bool_Pop_interfac_d7b234c6.size = 1 := rfl
@[simp] theorem T_interface_Len_int_Less_int_int_bool_Pop_interfac_d7b234c6_agg : T_interface_Len_int_Less_int_int_bool_Pop_interfac_d7b234c6.agg = false := rfl
@[simp] theorem T_interface_Len_int_Less_int_int_bool_Pop_interfac_d7b234c6_zero : T_interface_Len_int_Less_int_int_bool_Pop_interfac_d7b234c6.zero = [.nilifc] := rfl
@[simp] theorem T_interface_Len_int_Less_int_int_bool_Pop_interfac_d7b234c6_kind : T_interface_Len_int_Less_int_int_bool_Pop_interfac_d7b234c6.kind = .iface := rfl
def T_heap_Interface : TI := { size := 1, bytes := 16, agg := false, zero := [.nilifc], kind := .iface, id := 225 }
@[simp] theorem T_heap_Interface_size : T_heap_Interface.size = 1 := rfl
@[simp] theorem T_heap_Interface_agg : T_heap_Interface.agg = false := rfl
@[simp] theorem T_heap_Interface_zero : T_heap_Interface.zero = [.nilifc] := rfl
@[simp] theorem T_heap_Interface_kind : T_heap_Interface.kind = .iface := rfl
def T_func_heap_Interface_int_int_bool : TI := { size := 1, bytes := 8, agg := false, zero := [.nilfn], kind := .func, id := 226 }
@[simp] theorem T_func_heap_Interface_int_int_bool_size : T_func_heap_Interface_int_int_bool.size = 1 := rfl
@[simp] theorem T_func_heap_Interface_int_int_bool_agg : T_func_heap_Interface_int_int_bool.agg = false := rfl
@[simp] theorem T_func_heap_Interface_int_int_bool_zero : T_func_heap_Interface_int_int_bool.zero = [.nilfn] := rfl
@[simp] theorem T_func_heap_Interface_int_int_bool_kind : T_func_heap_Interface_int_int_bool.kind = .func := rfl
def T_func_int_int_7d0cc0 : TI := { size := 1, bytes := 8, agg := false, zero := [.nilfn], kind := .func, id := 227 }
@[simp] theorem T_func_int_int_7d0cc0_size : T_func_int_int_7d0cc0.size = 1 := rfl
@[simp] theorem T_func_int_int_7d0cc0_agg : T_func_int_int_7d0cc0.agg = false := rfl
@[simp] theorem T_func_int_int_7d0cc0_zero : T_func_int_int_7d0cc0.zero = [.nilfn] := rfl
@[simp] theorem T_func_int_int_7d0cc0_kind : T_func_int_int_7d0cc0.kind = .func := rfl
def T_func_interface : TI := { size := 1, bytes := 8, agg := false, zero := [.nilfn], kind := .func, id := 228 }
@[simp] theorem T_func_interface_size : T_func_interface.size = 1 := rfl
@[simp] theorem T_func_interface_agg : T_func_interface.agg = false := rfl
@[simp] theorem T_func_interface_zero : T_func_interface.zero = [.nilfn] := rfl
@[simp] theorem T_func_interface_kind : T_func_interface.kind = .func := rfl
def T_func_string_int_s_string : TI := { size := 1, bytes := 8, agg := false, zero := [.nilfn], kind := .func, id := 229 }
@[simp] theorem T_func_string_int_s_string_size : T_func_string_int_s_string.size = 1 := rfl
@[simp] theorem T_func_string_int_s_string_agg : T_func_string_int_s_string.agg = false := rfl
@[simp] theorem T_func_string_int_s_string_zero : T_func_string_int_s_string.zero = [.nilfn] := rfl
@[simp] theorem T_func_string_int_s_string_kind : T_func_string_int_s_string.kind = .func := rfl
def T_func_string_string_int : TI := { size := 1, bytes := 8, agg := false, zero := [.nilfn], kind := .func, id := 230 }
@[simp] theorem T_func_string_string_int_size : T_func_string_string_int.size = 1 := rfl
@[simp] theorem T_func_string_string_int_agg : T_func_string_string_int.agg = false := rfl
@[simp] theorem T_func_string_string_int_zero : T_func_string_string_int.zero = [.nilfn] := rfl
@[simp] theorem T_func_string_string_int_kind : T_func_string_string_int.kind = .func := rfl
def T_func_string_int_bool : TI := { size := 1, bytes := 8, agg := false, zero := [.nilfn], kind := .func, id := 231 }
@[simp] theorem T_func_string_int_bool_size : T_func_string_int_bool.size = 1 := rfl
@[simp] theorem T_func_string_int_bool_agg : T_func_string_int_bool.agg = false := rfl
@[simp] theorem T_func_string_int_bool_zero : T_func_string_int_bool.zero = [.nilfn] := rfl
@[simp] theorem T_func_string_int_bool_kind : T_func_string_int_bool.kind = .func := rfl
def T_func_string_uint8_int : TI := { size := 1, bytes := 8, agg := false, zero := [.nilfn], kind := .func, id := 232 }
@[simp] theorem T_func_string_uint8_int_size : T_func_string_uint8_int.size = 1 := rfl
@[simp] theorem T_func_string_uint8_int_agg : T_func_string_uint8_int.agg = false := rfl
@[simp] theorem T_func_string_uint8_int_zero : T_func_string_uint8_int.zero = [.nilfn] := rfl
@[simp] theorem T_func_string_uint8_int_kind : T_func_string_uint8_int.kind = .func := rfl
def T_func_string_string_string_string_bool : TI := { size := 1, bytes := 8, agg := false, zero := [.nilfn], kind := .func, id := 234 }
@[simp] theorem T_func_string_string_string_string_bool_size : T_func_string_string_string_string_bool.size = 1 := rfl
@[simp] theorem T_func_string_string_string_string_bool_agg : T_func_string_string_string_string_bool.agg = false := rfl
@[simp] theorem T_func_string_string_string_string_bool_zero : T_func_string_string_string_string_bool.zero = [.nilfn] := rfl
@[simp] theorem T_func_string_string_string_string_bool_kind : T_func_string_string_string_string_bool.kind = .func := rfl
def T_10_string : TI := { size := 10, bytes := 160, agg := true, zero := [.str [], .str [], .str [], .str [], .str [], .str [], .str [], .str [], .str [], .str []], kind := .array 10 9, id := 235 }
@[simp] theorem T_10_string_size : T_10_string.size = 10 := rfl
@[simp] theorem T_10_string_agg : T_10_string.agg = true := rfl
@[simp] theorem T_10_string_zero : T_10_string.zero = [.str [], .str [], .str [], .str [], .str [], .str [], .str [], .str [], .str [], .str []] := rfl
@[simp] theorem T_10_string_kind : T_10_string.kind = .array 10 9 := rfl
def T_func_10_string : TI := { size := 1, bytes := 8, agg := false, zero := [.nilfn], kind := .func, id := 236 }
@[simp] theorem T_func_10_string_size : T_func_10_string.size = 1 := rfl
@[simp] theorem T_func_10_string_agg : T_func_10_string.agg = false := rfl
@[simp] theorem T_func_10_string_zero : T_func_10_string.zero = [.nilfn] := rfl
@[simp] theorem T_func_10_string_kind : T_func_10_string.kind = .func := rfl
def T_func_string_int_bool_s_int_string_bool : TI := { size := 1, bytes := 8, agg := false, zero := [.nilfn], kind := .func, id := 238 }
@[simp] theorem T_func_string_int_bool_s_int_string_bool_size : T_func_string_int_bool_s_int_string_bool.size = 1 := rfl
@[simp] theorem T_func_string_int_bool_s_int_string_bool_agg : T_func_string_int_bool_s_int_string_bool.agg = false := rfl
@[simp] theorem T_func_string_int_bool_s_int_string_bool_zero : T_func_string_int_bool_s_int_string_bool.zero = [.nilfn] := rfl
@[simp] theorem T_func_string_int_bool_s_int_string_bool_kind : T_func_string_int_bool_s_int_string_bool.kind = .func := rfl
def T_struct_s_string : TI := { size := 1, bytes := 16, agg := true, zero := [.str []], kind := .struct [(0, 9, 1)], id := 239 }
@[simp] theorem T_struct_s_string_size : T_struct_s_string.size = 1 := rfl
@[simp] theorem T_struct_s_string_agg : T_struct_s_string.agg = true := rfl
@[simp] theorem T_struct_s_string_zero : T_struct_s_string.zero = [.str []] := rfl
@[simp] theorem T_struct_s_string_kind : T_struct_s_string.kind = .struct [(0, 9, 1)] := rfl
def T_wire_Reader : TI := { size := 1, bytes := 16, agg := true, zero := [.str []], kind := .struct [(0, 9, 1)], id := 240 }
@[simp] theorem T_wire_Reader_size : T_wire_Reader.size = 1 := rfl
@[simp] theorem T_wire_Reader_agg : T_wire_Reader.agg = true := rfl
@[simp] theorem T_wire_Reader_zero : T_wire_Reader.zero = [.str []] := rfl
@[simp] theorem T_wire_Reader_kind : T_wire_Reader.kind = .struct [(0, 9, 1)] := rfl
@[simp] theorem T_wire_Reader_id : T_wire_Reader.id = t_wire_Reader := rfl
def T_func_int_api_Extent_bool : TI := { size := 1, bytes := 8, agg := false, zero := [.nilfn], kind := .func, id := 241 }
@[simp] theorem T_func_int_api_Extent_bool_size : T_func_int_api_Extent_bool.size = 1 := rfl
@[simp] theorem T_func_int_api_Extent_bool_agg : T_func_int_api_Extent_bool.agg = false := rfl
@[simp] theorem T_func_int_api_Extent_bool_zero : T_func_int_api_Extent_bool.zero = [.nilfn] := rfl
@[simp] theorem T_func_int_api_Extent_bool_kind : T_func_int_api_Extent_bool.kind = .func := rfl
def T_func_unsafe_Pointer_unsafe_Pointer : TI := { size := 1, bytes := 8, agg := false, zero := [.nilfn], kind := .func, id := 243 }
@[simp] theorem T_func_unsafe_Pointer_unsafe_Pointer_size : T_func_unsafe_Pointer_unsafe_Pointer.size = 1 := rfl
@[simp] theorem T_func_unsafe_Pointer_unsafe_Pointer_agg : T_func_unsafe_Pointer_unsafe_Pointer.agg = false := rfl
@[simp] theorem T_func_unsafe_Pointer_unsafe_Pointer_zero : T_func_unsafe_Pointer_unsafe_Pointer.zero = [.nilfn] := rfl
@[simp] theorem T_func_unsafe_Pointer_unsafe_Pointer_kind : T_func_unsafe_Pointer_unsafe_Pointer.kind = .func := rfl
def T_uint32 : TI := { size := 1, bytes := 4, agg := false, zero := [.int .u32 0], kind := .int .u32, id := 244 }
@[simp] theorem T_uint32_size : T_uint32.size = 1 := rfl
@[simp] theorem T_uint32_agg : T_uint32.agg = false := rfl
@[simp] theorem T_uint32_zero : T_uint32.zero = [.int .u32 0] := rfl
@[simp] theorem T_uint32_kind : T_uint32.kind = .int .u32 := rfl
def T_func_uint32_uint32_uint32_uint32 : TI := { size := 1, bytes := 8, agg := false, zero := [.nilfn], kind := .func, id := 246 }
@[simp] theorem T_func_uint32_uint32_uint32_uint32_size : T_func_uint32_uint32_uint32_uint32.size = 1 := rfl
@[simp] theorem T_func_uint32_uint32_uint32_uint32_agg : T_func_uint32_uint32_uint32_uint32.agg = false := rfl
@[simp] theorem T_func_uint32_uint32_uint32_uint32_zero : T_func_uint32_uint32_uint32_uint32.zero = [.nilfn] := rfl
@[simp] theorem T_func_uint32_uint32_uint32_uint32_kind : T_func_uint32_uint32_uint32_uint32.kind = .func := rfl
def T_uint64 : TI := { size := 1, bytes := 8, agg := false, zero := [.int .u64 0], kind := .int .u64, id := 247 }
@[simp] theorem T_uint64_size : T_uint64.size = 1 := rfl
@[simp] theorem T_uint64_agg : T_uint64.agg = false := rfl
@[simp] theorem T_uint64_zero : T_uint64.zero = [.int .u64 0] := rfl
@[simp] theorem T_uint64_kind : T_uint64.kind = .int .u64 := rfl
def T_func_uint64_uint64_uint64_uint64 : TI := { size := 1, bytes := 8, agg := false, zero := [.nilfn], kind := .func, id := 249 }
@[simp] theorem T_func_uint64_uint64_uint64_uint64_size : T_func_uint64_uint64_uint64_uint64.size = 1 := rfl
@[simp] theorem T_func_uint64_uint64_uint64_uint64_agg : T_func_uint64_uint64_uint64_uint64.agg = false := rfl
@[simp] theorem T_func_uint64_uint64_uint64_uint64_zero : T_func_uint64_uint64_uint64_uint64.zero = [.nilfn] := rfl
@[simp] theorem T_func_uint64_uint64_uint64_uint64_kind : T_func_uint64_uint64_uint64_uint64.kind = .func := rfl
def T_func_int_int_bool : TI := { size := 1, bytes := 8, agg := false, zero := [.nilfn], kind := .func, id := 250 }
@[simp] theorem T_func_int_int_bool_size : T_func_int_int_bool.size = 1 := rfl
@[simp] theorem T_func_int_int_bool_agg : T_func_int_int_bool.agg = false := rfl
@[simp] theorem T_func_int_int_bool_zero : T_func_int_int_bool.zero = [.nilfn] := rfl
@[simp] theorem T_func_int_int_bool_kind : T_func_int_int_bool.kind = .func := rfl
def T_func_string_int32_int : TI := { size := 1, bytes := 8, agg := false, zero := [.nilfn], kind := .func, id := 252 }
@[simp] theorem T_func_string_int32_int_size : T_func_string_int32_int.size = 1 := rfl
@[simp] theorem T_func_string_int32_int_agg : T_func_string_int32_int.agg = false := rfl
@[simp] theorem T_func_string_int32_int_zero : T_func_string_int32_int.zero = [.nilfn] := rfl
@[simp] theorem T_func_string_int32_int_kind : T_func_string_int32_int.kind = .func := rfl
def T_func_string_string_int_s_string : TI := { size := 1, bytes := 8, agg := false, zero := [.nilfn], kind := .func, id := 253 }
@[simp] theorem T_func_string_string_int_s_string_size : T_func_string_string_int_s_string.size = 1 := rfl
@[simp] theorem T_func_string_string_int_s_string_agg : T_func_string_string_int_s_string.agg = false := rfl
@[simp] theorem T_func_string_string_int_s_string_zero : T_func_string_string_int_s_string.zero = [.nilfn] := rfl
@[simp] theorem T_func_string_string_int_s_string_kind : T_func_string_string_int_s_string.kind = .func := rfl
def T_func_int_int_bool_ea9af1 : TI := { size := 1, bytes := 8, agg := false, zero := [.nilfn], kind := .func, id := 254 }
@[simp] theorem T_func_int_int_bool_ea9af1_size : T_func_int_int_bool_ea9af1.size = 1 := rfl
@[simp] theorem T_func_int_int_bool_ea9af1_agg : T_func_int_int_bool_ea9af1.agg = false := rfl
@[simp] theorem T_func_int_int_bool_ea9af1_zero : T_func_int_int_bool_ea9af1.zero = [.nilfn] := rfl
@[simp] theorem T_func_int_int_bool_ea9af1_kind : T_func_int_int_bool_ea9af1.kind = .func := rfl
def T_func_int_string_bool : TI := { size := 1, bytes := 8, agg := false, zero := [.nilfn], kind := .func, id := 255 }
@[simp] theorem T_func_int_string_bool_size : T_func_int_string_bool.size = 1 := rfl
@[simp] theorem T_func_int_string_bool_agg : T_func_int_string_bool.agg = false := rfl
@[simp] theorem T_func_int_string_bool_zero : T_func_int_string_bool.zero = [.nilfn] := rfl
@[simp] theorem T_func_int_string_bool_kind : T_func_int_string_bool.kind = .func := rfl
def T_func_string_int32_int_396748 : TI := { size := 1, bytes := 8, agg := false, zero := [.nilfn], kind := .func, id := 256 }
@[simp] theorem T_func_string_int32_int_396748_size : T_func_string_int32_int_396748.size = 1 := rfl
@[simp] theorem T_func_string_int32_int_396748_agg : T_func_string_int32_int_396748.agg = false := rfl
@[simp] theorem T_func_string_int32_int_396748_zero : T_func_string_int32_int_396748.zero = [.nilfn] := rfl
@[simp] theorem T_func_string_int32_int_396748_kind : T_func_string_int32_int_396748.kind = .func := rfl
def T_func_string_strings_asciiSet_bool : TI := { size := 1, bytes := 8, agg := false, zero := [.nilfn], kind := .func, id := 260 }
@[simp] theorem T_func_string_strings_asciiSet_bool_size : T_func_string_strings_asciiSet_bool.size = 1 := rfl
@[simp] theorem T_func_string_strings_asciiSet_bool_agg : T_func_string_strings_asciiSet_bool.agg = false := rfl
@[simp] theorem T_func_string_strings_asciiSet_bool_zero : T_func_string_strings_asciiSet_bool.zero = [.nilfn] := rfl
@[simp] theorem T_func_string_strings_asciiSet_bool_kind : T_func_string_strings_asciiSet_bool.kind = .func := rfl
def T_func_uint8_bool : TI := { size := 1, bytes := 8, agg := false, zero := [.nilfn], kind := .func, id := 261 }
@[simp] theorem T_func_uint8_bool_size : T_func_uint8_bool.size = 1 := rfl
@[simp] theorem T_func_uint8_bool_agg : T_func_uint8_bool.agg = false := rfl
@[simp] theorem T_func_uint8_bool_zero : T_func_uint8_bool.zero = [.nilfn] := rfl
@[simp] theorem T_func_uint8_bool_kind : T_func_uint8_bool.kind = .func := rfl
def T_func_int_s_uint8 : TI := { size := 1, bytes := 8, agg := false, zero := [.nilfn], kind := .func, id := 262 }
@[simp] theorem T_func_int_s_uint8_size : T_func_int_s_uint8.size = 1 := rfl
@[simp] theorem T_func_int_s_uint8_agg : T_func_int_s_uint8.agg = false := rfl
@[simp] theorem T_func_int_s_uint8_zero : T_func_int_s_uint8.zero = [.nilfn] := rfl
@[simp] theorem T_func_int_s_uint8_kind : T_func_int_s_uint8.kind = .func := rfl
def T_func_string_string_int_int_error_error : TI := { size := 1, bytes := 8, agg := false, zero := [.nilfn], kind := .func, id := 263 }
@[simp] theorem T_func_string_string_int_int_error_error_size : T_func_string_string_int_int_error_error.size = 1 := rfl
@[simp] theorem T_func_string_string_int_int_error_error_agg : T_func_string_string_int_int_error_error.agg = false := rfl
@[simp] theorem T_func_string_string_int_int_error_error_zero : T_func_string_string_int_int_error_error.zero = [.nilfn] := rfl
@[simp] theorem T_func_string_string_int_int_error_error_kind : T_func_string_string_int_int_error_error.kind = .func := rfl
def T_func_int32_bool : TI := { size := 1, bytes := 8, agg := false, zero := [.nilfn], kind := .func, id := 264 }
@[simp] theorem T_func_int32_bool_size : T_func_int32_bool.size = 1 := rfl
@[simp] theorem T_func_int32_bool_agg : T_func_int32_bool.agg = false := rfl
@[simp] theorem T_func_int32_bool_zero : T_func_int32_bool.zero = [.nilfn] := rfl
@[simp] theorem T_func_int32_bool_kind : T_func_int32_bool.kind = .func := rfl
def T_p_strings_asciiSet : TI := { size := 1, bytes := 8, agg := false, zero := [.nil], kind := .ptr 258, id := 265 }
@[simp] theorem T_p_strings_asciiSet_size : T_p_strings_asciiSet.size = 1 := rfl
@[simp] theorem T_p_strings_asciiSet_agg : T_p_strings_asciiSet.agg = false := rfl
@[simp] theorem T_p_strings_asciiSet_zero : T_p_strings_asciiSet.zero = [.nil] := rfl
@[simp] theorem T_p_strings_asciiSet_kind : T_p_strings_asciiSet.kind = .ptr 258 := rfl
def T_struct_lo_uint8_hi_uint8 : TI := { size := 2, bytes := 2, agg := true, zero := [.int .u8 0, .int .u8 0], kind := .struct [(0, 5, 1), (1, 5, 1)], id := 267 }
@[simp] theorem T_struct_lo_uint8_hi_uint8_size : T_struct_lo_uint8_hi_uint8.size = 2 := rfl
@[simp] theorem T_struct_lo_uint8_hi_uint8_agg : T_struct_lo_uint8_hi_uint8.agg = true := rfl
@[simp] theorem T_struct_lo_uint8_hi_uint8_zero : T_struct_lo_uint8_hi_uint8.zero = [.int .u8 0, .int .u8 0] := rfl
@[simp] theorem T_struct_lo_uint8_hi_uint8_kind : T_struct_lo_uint8_hi_uint8.kind = .struct [(0, 5, 1), (1, 5, 1)] := rfl
def T_utf8_acceptRange : TI := { size := 2, bytes := 2, agg := true, zero := [.int .u8 0, .int .u8 0], kind := .struct [(0, 5, 1), (1, 5, 1)], id := 268 }
@[simp] theorem T_utf8_acceptRange_size : T_utf8_acceptRange.size = 2 := rfl
@[simp] theorem T_utf8_acceptRange_agg : T_utf8_acceptRange.agg = true := rfl
@[simp] theorem T_utf8_acceptRange_zero : T_utf8_acceptRange.zero = [.int .u8 0, .int .u8 0] := rfl
@[simp] theorem T_utf8_acceptRange_kind : T_utf8_acceptRange.kind = .struct [(0, 5, 1), (1, 5, 1)] := rfl
def T_16_utf8_acceptRange : TI := { size := 32, bytes := 32, agg := true, zero := [.int .u8 0, .int .u8 0, .int .u8 0, .int .u8 0, .int .u8 0, .int .u8 0, .int .u8 0, .int .u8 0, .int .u8 0, .int .u8 0, .int .u8 0, .int .u8 0, .int .u8 0, .int .u8 0, .int .u8 0, .int .u8 0, .int .u8 0, .int .u8 0, .int .u8 0, .int .u8 0, .int .u8 0, .int .u8 0, .int .u8 0, .int .u8 0, .int .u8 0, .int .u8 0, .int .u8 0, .int .u8 0, .int .u8 0, .int .u8 0, .int .u8 0, .int .u8 0], kind := .array 16 268, id := 269 }
@[simp] theorem T_16_utf8_acceptRange_size : T_16_utf8_acceptRange.size = 32 := rfl
@[simp] theorem T_16_utf8_acceptRange_agg : T_16_utf8_acceptRange.agg = true := rfl
@[simp] theorem T_16_utf8_acceptRange_zero : T_16_utf8_acceptRange.zero = [.int .u8 0, .int .u8 0, .int .u8 0, .int .u8 0, .int .u8 0, .int .u8 0, .int .u8 0, .int .u8 0, .int .u8 0, .int .u8 0, .int .u8 0, .int .u8 0, .int .u8 0, .int .u8 0, .int .u8 0, .int .u8 0, .int .u8 0, .int .u8 0, .int .u8 0, .int .u8 0, .int .u8 0, .int .u8 0, .int .u8 0, .int .u8 0, .int .u8 0, .int .u8 0, .int .u8 0, .int .u8 0, .int .u8 0, .int .u8 0, .int .u8 0, .int .u8 0] := rfl
@[simp] theorem T_16_utf8_acceptRange_kind : T_16_utf8_acceptRange.kind = .array 16 268 := rfl
def T_func_string_uint32_uint32 : TI := { size := 1, bytes := 8, agg := false, zero := [.nilfn], kind := .func, id := 270 }
@[simp] theorem T_func_string_uint32_uint32_size : T_func_string_uint32_uint32.size = 1 := rfl
@[simp] theorem T_func_string_uint32_uint32_agg : T_func_string_uint32_uint32.agg = false := rfl
@[simp] theorem T_func_string_uint32_uint32_zero : T_func_string_uint32_uint32.zero = [.nilfn] := rfl
@[simp] theorem T_func_string_uint32_uint32_kind : T_func_string_uint32_uint32.kind = .func := rfl
def T_strconv_Error : TI := { size := 1, bytes := 8, agg := false, zero := [.int .i64 0], kind := .int .i64, id := 271 }
@[simp] theorem T_strconv_Error_size : T_strconv_Error.size = 1 := rfl
@[simp] theorem T_strconv_Error_agg : T_strconv_Error.agg = false := rfl
@[simp] theorem T_strconv_Error_zero : T_strconv_Error.zero = [.int .i64 0] := rfl
@[simp] theorem T_strconv_Error_kind : T_strconv_Error.kind = .int .i64 := rfl
def T_func_string_int_int_int64_error : TI := { size := 1, bytes := 8, agg := false, zero := [.nilfn], kind := .func, id := 273 }
@[simp] theorem T_func_string_int_int_int64_error_size : T_func_string_int_int_int64_error.size = 1 := rfl
@[simp] theorem T_func_string_int_int_int64_error_agg : T_func_string_int_int_int64_error.agg = false := rfl
@[simp] theorem T_func_string_int_int_int64_error_zero : T_func_string_int_int_int64_error.zero = [.nilfn] := rfl
@[simp] theorem T_func_string_int_int_int64_error_kind : T_func_string_int_int_int64_error.kind = .func := rfl
def T_p_strconv_NumError : TI := { size := 1, bytes := 8, agg := false, zero := [.nil], kind := .ptr 282, id := 274 }
@[simp] theorem T_p_strconv_NumError_size : T_p_strconv_NumError.size = 1 := rfl
@[simp] theorem T_p_strconv_NumError_agg : T_p_strconv_NumError.agg = false := rfl
@[simp] theorem T_p_strconv_NumError_zero : T_p_strconv_NumError.zero = [.nil] := rfl
@[simp] theorem T_p_strconv_NumError_kind : T_p_strconv_NumError.kind = .ptr 282 := rfl
def T_func_string_string_p_strconv_NumError : TI := { size := 1, bytes := 8, agg := false, zero := [.nilfn], kind := .func, id := 275 }
@[simp] theorem T_func_string_string_p_strconv_NumError_size : T_func_string_string_p_strconv_NumError.size = 1 := rfl
@[simp] theorem T_func_string_string_p_strconv_NumError_agg : T_func_string_string_p_strconv_NumError.agg = false := rfl
@[simp] theorem T_func_string_string_p_strconv_NumError_zero : T_func_string_string_p_strconv_NumError.zero = [.nilfn] := rfl
@[simp] theorem T_func_string_string_p_strconv_NumError_kind : T_func_string_string_p_strconv_NumError.kind = .func := rfl
def T_func_string_string_int_p_strconv_NumError : TI := { size := 1, bytes := 8, agg := false, zero := [.nilfn], kind := .func, id := 276 }
@[simp] theorem T_func_string_string_int_p_strconv_NumError_size : T_func_string_string_int_p_strconv_NumError.size = 1 := rfl
@[simp] theorem T_func_string_string_int_p_strconv_NumError_agg : T_func_string_string_int_p_strconv_NumError.agg = false := rfl
@[simp] theorem T_func_string_string_int_p_strconv_NumError_zero : T_func_string_string_int_p_strconv_NumError.zero = [.nilfn] := rfl
@[simp] theorem T_func_string_string_int_p_strconv_NumError_kind : T_func_string_string_int_p_strconv_NumError.kind = .func := rfl
def T_func_int64_int_string : TI := { size := 1, bytes := 8, agg := false, zero := [.nilfn], kind := .func, id := 277 }
@[simp] theorem T_func_int64_int_string_size : T_func_int64_int_string.size = 1 := rfl
@[simp] theorem T_func_int64_int_string_agg : T_func_int64_int_string.agg = false := rfl
@[simp] theorem T_func_int64_int_string_zero : T_func_int64_int_string.zero = [.nilfn] := rfl
@[simp] theorem T_func_int64_int_string_kind : T_func_int64_int_string.kind = .func := rfl
def T_func_string_int_int_uint64_error : TI := { size := 1, bytes := 8, agg := false, zero := [.nilfn], kind := .func, id := 279 }
@[simp] theorem T_func_string_int_int_uint64_error_size : T_func_string_int_int_uint64_error.size = 1 := rfl
@[simp] theorem T_func_string_int_int_uint64_error_agg : T_func_string_int_int_uint64_error.agg = false := rfl
@[simp] theorem T_func_string_int_int_uint64_error_zero : T_func_string_int_int_uint64_error.zero = [.nilfn] := rfl
@[simp] theorem T_func_string_int_int_uint64_error_kind : T_func_string_int_int_uint64_error.kind = .func := rfl
def T_func_string_string : TI := { size := 1, bytes := 8, agg := false, zero := [.nilfn], kind := .func, id := 280 }
@[simp] theorem T_func_string_string_size : T_func_string_string.size = 1 := rfl
@[simp] theorem T_func_string_string_agg : T_func_string_string.agg = false := rfl
@[simp] theorem T_func_string_string_zero : T_func_string_string.zero = [.nilfn] := rfl
@[simp] theorem T_func_string_string_kind : T_func_string_string.kind = .func := rfl
def T_struct_Func_string_Num_string_Err_error : TI := { size := 3, bytes := 48, agg := true, zero := [.str [], .str [], .nilifc], kind := .struct [(0, 9, 1), (1, 9, 1), (2, 185, 1)], id := 281 }
@[simp] theorem T_struct_Func_string_Num_string_Err_error_size : T_struct_Func_string_Num_string_Err_error.size = 3 := rfl
@[simp] theorem T_struct_Func_string_Num_string_Err_error_agg : T_struct_Func_string_Num_string_Err_error.agg = true := rfl
@[simp] theorem T_struct_Func_string_Num_string_Err_error_zero : T_struct_Func_string_Num_string_Err_error.zero = [.str [], .str [], .nilifc] := rfl
@[simp] theorem T_struct_Func_string_Num_string_Err_error_kind : T_struct_Func_string_Num_string_Err_error.kind = .struct [(0, 9, 1), (1, 9, 1), (2, 185, 1)] := rfl
def T_strconv_NumError : TI := { size := 3, bytes := 48, agg := true, zero := [.str [], .str [], .nilifc], kind := .struct [(0, 9, 1), (1, 9, 1), (2, 185, 1)], id := 282 }
@[simp] theorem T_strconv_NumError_size : T_strconv_NumError.size = 3 := rfl
@[simp] theorem T_strconv_NumError_agg : T_strconv_NumError.agg = true := rfl
@[simp] theorem T_strconv_NumError_zero : T_strconv_NumError.zero = [.str [], .str [], .nilifc] := rfl
@[simp] theorem T_strconv_NumError_kind : T_strconv_NumError.kind = .struct [(0, 9, 1), (1, 9, 1), (2, 185, 1)] := rfl
def T_func_string_error : TI := { size := 1, bytes := 8, agg := false, zero := [.nilfn], kind := .func, id := 283 }
@[simp] theorem T_func_string_error_size : T_func_string_error.size = 1 := rfl
@[simp] theorem T_func_string_error_agg : T_func_string_error.agg = false := rfl
@[simp] theorem T_func_string_error_zero : T_func_string_error.zero = [.nilfn] := rfl
@[simp] theorem T_func_string_error_kind : T_func_string_error.kind = .func := rfl
def T_24_uint8 : TI := { size := 24, bytes := 24, agg := true, zero := [.int .u8 0, .int .u8 0, .int .u8 0, .int .u8 0, .int .u8 0, .int .u8 0, .int .u8 0, .int .u8 0, .int .u8 0, .int .u8 0, .int .u8 0, .int .u8 0, .int .u8 0, .int .u8 0, .int .u8 0, .int .u8 0, .int .u8 0, .int .u8 0, .int .u8 0, .int .u8 0, .int .u8 0, .int .u8 0, .int .u8 0, .int .u8 0], kind := .array 24 5, id := 284 }
@[simp] theorem T_24_uint8_size : T_24_uint8.size = 24 := rfl
@[simp] theorem T_24_uint8_agg : T_24_uint8.agg = true := rfl
@[simp] theorem T_24_uint8_zero : T_24_uint8.zero = [.int .u8 0, .int .u8 0, .int .u8 0, .int .u8 0, .int .u8 0, .int .u8 0, .int .u8 0, .int .u8 0, .int .u8 0, .int .u8 0, .int .u8 0, .int .u8 0, .int .u8 0, .int .u8 0, .int .u8 0, .int .u8 0, .int .u8 0, .int .u8 0, .int .u8 0, .int .u8 0, .int .u8 0, .int .u8 0, .int .u8 0, .int .u8 0] := rfl
@[simp] theorem T_24_uint8_kind : T_24_uint8.kind = .array 24 5 := rfl
def T_func_uint64_int : TI := { size := 1, bytes := 8, agg := false, zero := [.nilfn], kind := .func, id := 285 }
@[simp] theorem T_func_uint64_int_size : T_func_uint64_int.size = 1 := rfl
@[simp] theorem T_func_uint64_int_agg : T_func_uint64_int.agg = false := rfl
@[simp] theorem T_func_uint64_int_zero : T_func_uint64_int.zero = [.nilfn] := rfl
@[simp] theorem T_func_uint64_int_kind : T_func_uint64_int.kind = .func := rfl
def T_func_s_uint8_uint64 : TI := { size := 1, bytes := 8, agg := false, zero := [.nilfn], kind := .func, id := 286 }
@[simp] theorem T_func_s_uint8_uint64_size : T_func_s_uint8_uint64.size = 1 := rfl
@[simp] theorem T_func_s_uint8_uint64_agg : T_func_s_uint8_uint64.agg = false := rfl
@[simp] theorem T_func_s_uint8_uint64_zero : T_func_s_uint8_uint64.zero = [.nilfn] := rfl
@[simp] theorem T_func_s_uint8_uint64_kind : T_func_s_uint8_uint64.kind = .func := rfl
def T_func_s_uint8_uint64_int_bool_bool_s_uint8_string : TI := { size := 1, bytes := 8, agg := false, zero := [.nilfn], kind := .func, id := 288 }
@[simp] theorem T_func_s_uint8_uint64_int_bool_bool_s_uint8_string_size : T_func_s_uint8_uint64_int_bool_bool_s_uint8_string.size = 1 := rfl
@[simp] theorem T_func_s_uint8_uint64_int_bool_bool_s_uint8_string_agg : T_func_s_uint8_uint64_int_bool_bool_s_uint8_string.agg = false := rfl
@[simp] theorem T_func_s_uint8_uint64_int_bool_bool_s_uint8_string_zero : T_func_s_uint8_uint64_int_bool_bool_s_uint8_string.zero = [.nilfn] := rfl
@[simp] theorem T_func_s_uint8_uint64_int_bool_bool_s_uint8_string_kind : T_func_s_uint8_uint64_int_bool_bool_s_uint8_string.kind = .func := rfl
def T_func_uint8_uint8 : TI := { size := 1, bytes := 8, agg := false, zero := [.nilfn], kind := .func, id := 289 }
@[simp] theorem T_func_uint8_uint8_size : T_func_uint8_uint8.size = 1 := rfl
@[simp] theorem T_func_uint8_uint8_agg : T_func_uint8_uint8.agg = false := rfl
@[simp] theorem T_func_uint8_uint8_zero : T_func_uint8_uint8.zero = [.nilfn] := rfl
@[simp] theorem T_func_uint8_uint8_kind : T_func_uint8_uint8.kind = .func := rfl
def T_p_errors_errorString : TI := { size := 1, bytes := 8, agg := false, zero := [.nil], kind := .ptr 292, id := 290 }
@[simp] theorem T_p_errors_errorString_size : T_p_errors_errorString.size = 1 := rfl
@[simp] theorem T_p_errors_errorString_agg : T_p_errors_errorString.agg = false := rfl
@[simp] theorem T_p_errors_errorString_zero : T_p_errors_errorString.zero = [.nil] := rfl
@[simp] theorem T_p_errors_errorString_kind : T_p_errors_errorString.kind = .ptr 292 := rfl
def T_struct_s_string_fa3a19 : TI := { size := 1, bytes := 16, agg := true, zero := [.str []], kind := .struct [(0, 9, 1)], id := 291 }
@[simp] theorem T_struct_s_string_fa3a19_size : T_struct_s_string_fa3a19.size = 1 := rfl
@[simp] theorem T_struct_s_string_fa3a19_agg : T_struct_s_string_fa3a19.agg = true := rfl
@[simp] theorem T_struct_s_string_fa3a19_zero : T_struct_s_string_fa3a19.zero = [.str []] := rfl
@[simp] theorem T_struct_s_string_fa3a19_kind : T_struct_s_string_fa3a19.kind = .struct [(0, 9, 1)] := rfl
def T_errors_errorString : TI := { size := 1, bytes := 16, agg := true, zero := [.str []], kind := .struct [(0, 9, 1)], id := 292 }
@[simp] theorem T_errors_errorString_size : T_errors_errorString.size = 1 := rfl
@[simp] theorem T_errors_errorString_agg : T_errors_errorString.agg = true := rfl
@[simp] theorem T_errors_errorString_zero : T_errors_errorString.zero = [.str []] := rfl
@[simp] theorem T_errors_errorString_kind : T_errors_errorString.kind = .struct [(0, 9, 1)] := rfl
def T_func_bool_int : TI := { size := 1, bytes := 8, agg := false, zero := [.nilfn], kind := .func, id := 293 }
@[simp] theorem T_func_bool_int_size : T_func_bool_int.size = 1 := rfl
@[simp] theorem T_func_bool_int_agg : T_func_bool_int.agg = false := rfl
@[simp] theorem T_func_bool_int_zero : T_func_bool_int.zero = [.nilfn] := rfl
@[simp] theorem T_func_bool_int_kind : T_func_bool_int.kind = .func := rfl
def T_20_uint64 : TI := { size := 20, bytes := 160, agg := true, zero := [.int .u64 0, .int .u64 0, .int .u64 0, .int .u64 0, .int .u64 0, .int .u64 0, .int .u64 0, .int .u64 0, .int .u64 0, .int .u64 0, .int .u64 0, .int .u64 0, .int .u64 0, .int .u64 0, .int .u64 0, .int .u64 0, .int .u64 0, .int .u64 0, .int .u64 0, .int .u64 0], kind := .array 20 247, id := 294 }
@[simp] theorem T_20_uint64_size : T_20_uint64.size = 20 := rfl
@[simp] theorem T_20_uint64_agg : T_20_uint64.agg = true := rfl
@[simp] theorem T_20_uint64_zero : T_20_uint64.zero = [.int .u64 0, .int .u64 0, .int .u64 0, .int .u64 0, .int .u64 0, .int .u64 0, .int .u64 0, .int .u64 0, .int .u64 0, .int .u64 0, .int .u64 0, .int .u64 0, .int .u64 0, .int .u64 0, .int .u64 0, .int .u64 0, .int .u64 0, .int .u64 0, .int .u64 0, .int .u64 0] := rfl
@[simp] theorem T_20_uint64_kind : T_20_uint64.kind = .array 20 247 := rfl
def T_func_uint_int : TI := { size := 1, bytes := 8, agg := false, zero := [.nilfn], kind := .func, id := 296 }
@[simp] theorem T_func_uint_int_size : T_func_uint_int.size = 1 := rfl
@[simp] theorem T_func_uint_int_agg : T_func_uint_int.agg = false := rfl
@[simp] theorem T_func_uint_int_zero : T_func_uint_int.zero = [.nilfn] := rfl
@[simp] theorem T_func_uint_int_kind : T_func_uint_int.kind = .func := rfl
def T_func_uint32_int : TI := { size := 1, bytes := 8, agg := false, zero := [.nilfn], kind := .func, id := 297 }
@[simp] theorem T_func_uint32_int_size : T_func_uint32_int.size = 1 := rfl
@[simp] theorem T_func_uint32_int_agg : T_func_uint32_int.agg = false := rfl
@[simp] theorem T_func_uint32_int_zero : T_func_uint32_int.zero = [.nilfn] := rfl
@[simp] theorem T_func_uint32_int_kind : T_func_uint32_int.kind = .func := rfl
def T_32_uint8 : TI := { size := 32, bytes := 32, agg := true, zero := [.int .u8 0, .int .u8 0, .int .u8 0, .int .u8 0, .int .u8 0, .int .u8 0, .int .u8 0, .int .u8 0, .int .u8 0, .int .u8 0, .int .u8 0, .int .u8 0, .int .u8 0, .int .u8 0, .int .u8 0, .int .u8 0, .int .u8 0, .int .u8 0, .int .u8 0, .int .u8 0, .int .u8 0, .int .u8 0, .int .u8 0, .int .u8 0, .int .u8 0, .int .u8 0, .int .u8 0, .int .u8 0, .int .u8 0, .int .u8 0, .int .u8 0, .int .u8 0], kind := .array 32 5, id := 298 }
@[simp] theorem T_32_uint8_size : T_32_uint8.size = 32 := rfl
@[simp] theorem T_32_uint8_agg : T_32_uint8.agg = true := rfl
@[simp] theorem T_32_uint8_zero : T_32_uint8.zero = [.int .u8 0, .int .u8 0, .int .u8 0, .int .u8 0, .int .u8 0, .int .u8 0, .int .u8 0, .int .u8 0, .int .u8 0, .int .u8 0, .int .u8 0, .int .u8 0, .int .u8 0, .int .u8 0, .int .u8 0, .int .u8 0, .int .u8 0, .int .u8 0, .int .u8 0, .int .u8 0, .int .u8 0, .int .u8 0, .int .u8 0, .int .u8 0, .int .u8 0, .int .u8 0, .int .u8 0, .int .u8 0, .int .u8 0, .int .u8 0, .int .u8 0, .int .u8 0] := rfl
@[simp] theorem T_32_uint8_kind : T_32_uint8.kind = .array 32 5 := rfl
def T_64_uint8 : TI := { size := 64, bytes := 64, agg := true, zero := [.int .u8 0, .int .u8 0, .int .u8 0, .int .u8 0, .int .u8 0, .int .u8 0, .int .u8 0, .int .u8 0, .int .u8 0, .int .u8 0, .int .u8 0, .int .u8 0, .int .u8 0, .int .u8 0, .int .u8 0, .int .u8 0, .int .u8 0, .int .u8 0, .int .u8 0, .int .u8 0, .int .u8 0, .int .u8 0, .int .u8 0, .int .u8 0, .int .u8 0, .int .u8 0, .int .u8 0, .int .u8 0, .int .u8 0, .int .u8 0, .int .u8 0, .int .u8 0, .int .u8 0, .int .u8 0, .int .u8 0, .int .u8 0, .int .u8 0, .int .u8 0, .int .u8 0, .int .u8 0, .int .u8 0, .int .u8 0, .int .u8 0, .int .u8 0, .int .u8 0, .int .u8 0, .int .u8 0, .int .u8 0, .int .u8 0, .int .u8 0, .int .u8 0, .int .u8 0, .int .u8 0, .int .u8 0, .int .u8 0, .int .u8 0, .int .u8 0, .int .u8 0, .int .u8 0, .int .u8 0, .int .u8 0, .int .u8 0, .int .u8 0, .int .u8 0], kind := .array 64 5, id := 299 }
@[simp] theorem T_64_uint8_size : T_64_uint8.size = 64 := rfl
@[simp] theorem T_64_uint8_agg : T_64_uint8.agg = true := rfl
@[simp] theorem T_64_uint8_zero : T_64_uint8.zero = [.int .u8 0, .int .u8 0, .int .u8 0, .int .u8 0, .int .u8 0, .int .u8 0, .int .u8 0, .int .u8 0, .int .u8 0, .int .u8 0, .int .u8 0, .int .u8 0, .int .u8 0, .int .u8 0, .int .u8 0, .int .u8 0, .int .u8 0, .int .u8 0, .int .u8 0, .int .u8 0, .int .u8 0, .int .u8 0, .int .u8 0, .int .u8 0, .int .u8 0, .int .u8 0, .int .u8 0, .int .u8 0, .int .u8 0, .int .u8 0, .int .u8 0, .int .u8 0, .int .u8 0, .int .u8 0, .int .u8 0, .int .u8 0, .int .u8 0, .int .u8 0, .int .u8 0, .int .u8 0, .int .u8 0, .int .u8 0, .int .u8 0, .int .u8 0, .int .u8 0, .int .u8 0, .int .u8 0, .int .u8 0, .int .u8 0, .int .u8 0, .int .u8 0, .int .u8 0, .int .u8 0, .int .u8 0, .int .u8 0, .int .u8 0, .int .u8 0, .int .u8 0, .int .u8 0, .int .u8 0, .int .u8 0, .int .u8 0, .int .u8 0, .int .u8 0] := rfl
@[simp] theorem T_64_uint8_kind : T_64_uint8.kind = .array 64 5 := rfl
def T_struct_interface_p_abi_Type_concrete_p_abi_Type__3af7698d : TI := { size := 4, bytes := 40, agg := true, zero := [.nil, .nil, .nil, .str []], kind := .struct [(0, 17, 1), (1, 17, 1), (2, 17, 1), (3, 9, 1)], id := 300 }
@[simp] theorem T_struct_interface_p_abi_Type_concrete_p_abi_Type__3af7698d_size : T_struct_interface_p_abi_Type_concrete_p_abi_Type__3af7698d.size = 4 := rfl
@[simp] theorem T_struct_interface_p_abi_Type_concrete_p_abi_Type__3af7698d_agg : T_struct_interface_p_abi_Type_concrete_p_abi_Type__3af7698d.agg = true := rfl
@[simp] theorem T_struct_interface_p_abi_Type_concrete_p_abi_Type__3af7698d_zero : T_struct_interface_p_abi_Type_concrete_p_abi_Type__3af7698d.zero = [.nil, .nil, .nil, .str []] := rfl
@[simp] theorem T_struct_interface_p_abi_Type_concrete_p_abi_Type__3af7698d_kind : T_struct_interface_p_abi_Type_concrete_p_abi_Type__3af7698d.kind = .struct [(0, 17, 1), (1, 17, 1), (2, 17, 1), (3, 9, 1)] := rfl
def T_runtime_TypeAssertionError : TI := { size := 4, bytes := 40, agg := true, zero := [.nil, .nil, .nil, .str []], kind := .struct [(0, 17, 1), (1, 17, 1), (2, 17, 1), (3, 9, 1)], id := 301 }
@[simp] theorem T_runtime_TypeAssertionError_size : T_runtime_TypeAssertionError.size = 4 := rfl
@[simp] theorem T_runtime_TypeAssertionError_agg : T_runtime_TypeAssertionError.agg = true := rfl
@[simp] theorem T_runtime_TypeAssertionError_zero : T_runtime_TypeAssertionError.zero = [.nil, .nil, .nil, .str []] := rfl
@[simp] theorem T_runtime_TypeAssertionError_kind : T_runtime_TypeAssertionError.kind = .struct [(0, 17, 1), (1, 17, 1), (2, 17, 1), (3, 9, 1)] := rfl
def T_0_p_runtime_PanicNilError : TI := { size := 0, bytes := 0, agg := true, zero := [], kind := .array 0 16, id := 302 }
@[simp] theorem T_0_p_runtime_PanicNilError_size : T_0_p_runtime_PanicNilError.size = 0 := rfl
@[simp] theorem T_0_p_runtime_PanicNilError_agg : T_0_p_runtime_PanicNilError.agg = true := rfl
@[simp] theorem T_0_p_runtime_PanicNilError_zero : T_0_p_runtime_PanicNilError.zero = [] := rfl
@[simp] theorem T_0_p_runtime_PanicNilError_kind : T_0_p_runtime_PanicNilError.kind = .array 0 16 := rfl
def T_struct_0_p_runtime_PanicNilError : TI := { size := 0, bytes := 0, agg := true, zero := [], kind := .struct [(0, 302, 0)], id := 303 }
@[simp] theorem T_struct_0_p_runtime_PanicNilError_size : T_struct_0_p_runtime_PanicNilError.size = 0 := rfl
@[simp] theorem T_struct_0_p_runtime_PanicNilError_agg : T_struct_0_p_runtime_PanicNilError.agg = true := rfl
@[simp] theorem T_struct_0_p_runtime_PanicNilError_zero : T_struct_0_p_runtime_PanicNilError.zero = [] := rfl
@[simp] theorem T_struct_0_p_runtime_PanicNilError_kind : T_struct_0_p_runtime_PanicNilError.kind = .struct [(0, 302, 0)] := rfl
def T_runtime_PanicNilError : TI := { size := 0, bytes := 0, agg := true, zero := [], kind := .struct [(0, 302, 0)], id := 304 }
@[simp] theorem T_runtime_PanicNilError_size : T_runtime_PanicNilError.size = 0 := rfl
@[simp] theorem T_runtime_PanicNilError_agg : T_runtime_PanicNilError.agg = true := rfl
@[simp] theorem T_runtime_PanicNilError_zero : T_runtime_PanicNilError.zero = [] := rfl
@[simp] theorem T_runtime_PanicNilError_kind : T_runtime_PanicNilError.kind = .struct [(0, 302, 0)] := rfl
def T_abi_TFlag : TI := { size := 1, bytes := 1, agg := false, zero := [.int .u8 0], kind := .int .u8, id := 305 }
@[simp] theorem T_abi_TFlag_size : T_abi_TFlag.size = 1 := rfl
@[simp] theorem T_abi_TFlag_agg : T_abi_TFlag.agg = false := rfl
@[simp] theorem T_abi_TFlag_zero : T_abi_TFlag.zero = [.int .u8 0] := rfl
@[simp] theorem T_abi_TFlag_kind : T_abi_TFlag.kind = .int .u8 := rfl
def T_abi_Kind : TI := { size := 1, bytes := 1, agg := false, zero := [.int .u8 0], kind := .int .u8, id := 306 }
@[simp] theorem T_abi_Kind_size : T_abi_Kind.size = 1 := rfl
@[simp] theorem T_abi_Kind_agg : T_abi_Kind.agg = false := rfl
@[simp] theorem T_abi_Kind_zero : T_abi_Kind.zero = [.int .u8 0] := rfl
@[simp] theorem T_abi_Kind_kind : T_abi_Kind.kind = .int .u8 := rfl
def T_func_unsafe_Pointer_unsafe_Pointer_bool : TI := { size := 1, bytes := 8, agg := false, zero := [.nilfn], kind := .func, id := 307 }
@[simp] theorem T_func_unsafe_Pointer_unsafe_Pointer_bool_size : T_func_unsafe_Pointer_unsafe_Pointer_bool.size = 1 := rfl
@[simp] theorem T_func_unsafe_Pointer_unsafe_Pointer_bool_agg : T_func_unsafe_Pointer_unsafe_Pointer_bool.agg = false := rfl
@[simp] theorem T_func_unsafe_Pointer_unsafe_Pointer_bool_zero : T_func_unsafe_Pointer_unsafe_Pointer_bool.zero = [.nilfn] := rfl
@[simp] theorem T_func_unsafe_Pointer_unsafe_Pointer_bool_kind : T_func_unsafe_Pointer_unsafe_Pointer_bool.kind = .func := rfl
def T_abi_NameOff : TI := { size := 1, bytes := 4, agg := false, zero := [.int .i32 0], kind := .int .i32, id := 308 }
@[simp] theorem T_abi_NameOff_size : T_abi_NameOff.size = 1 := rfl
@[simp] theorem T_abi_NameOff_agg : T_abi_NameOff.agg = false := rfl
@[simp] theorem T_abi_NameOff_zero : T_abi_NameOff.zero = [.int .i32 0] := rfl
@[simp] theorem T_abi_NameOff_kind : T_abi_NameOff.kind = .int .i32 := rfl
def T_abi_TypeOff : TI := { size := 1, bytes := 4, agg := false, zero := [.int .i32 0], kind := .int .i32, id := 309 }
@[simp] theorem T_abi_TypeOff_size : T_abi_TypeOff.size = 1 := rfl
@[simp] theorem T_abi_TypeOff_agg : T_abi_TypeOff.agg = false := rfl
@[simp] theorem T_abi_TypeOff_zero : T_abi_TypeOff.zero = [.int .i32 0] := rfl
@[simp] theorem T_abi_TypeOff_kind : T_abi_TypeOff.kind = .int .i32 := rfl
def T_struct_Size_uintptr_PtrBytes_uintptr_Hash_uint32_7c8ec20b : TI := { size := 11, bytes := 48, agg := true, zero := [.int .u64 0, .int .u64 0, .int .u32 0, .int .u8 0, .int .u8 0, .int .u8 0, .int .u8 0, .nilfn, .nil, .int .i32 0, .int .i32 0], kind := .struct [(0, 12, 1), (1, 12, 1), (2, 244, 1), (3, 305, 1), (4, 5, 1), (5, 5, 1), (6, 306, 1), (7, 307, 1), (8, 223, 1), (9, 308, 1), (10, 309, 1)], id := 310 }
@[simp] theorem T_struct_Size_uintptr_PtrBytes_uintptr_Hash_uint32_7c8ec20b_size : T_struct_Size_uintptr_PtrBytes_uintptr_Hash_uint32_7c8ec20b.size = 11 := rfl
@[simp] theorem T_struct_Size_uintptr_PtrBytes_uintptr_Hash_uint32_7c8ec20b_agg : T_struct_Size_uintptr_PtrBytes_uintptr_Hash_uint32_7c8ec20b.agg = true := rfl
@[simp] theorem T_struct_Size_uintptr_PtrBytes_uintptr_Hash_uint32_7c8ec20b_zero : T_struct_Size_uintptr_PtrBytes_uintptr_Hash_uint32_7c8ec20b.zero = [.int .u64 0, .int .u64 0, .int .u32 0, .int .u8 0, .int .u8 0, .int .u8 0, .int .u8 0, .nilfn, .nil, .int .i32 0, .int .i32 0] := rfl
@[simp] theorem T_struct_Size_uintptr_PtrBytes_uintptr_Hash_uint32_7c8ec20b_kind : T_struct_Size_uintptr_PtrBytes_uintptr_Hash_uint32_7c8ec20b.kind = .struct [(0, 12, 1), (1, 12, 1), (2, 244, 1), (3, 305, 1), (4, 5, 1), (5, 5, 1), (6, 306, 1), (7, 307, 1), (8, 223, 1), (9, 308, 1), (10, 309, 1)] := rfl
def T_abi_Type : TI := { size := 11, bytes := 48, agg := true, zero := [.int .u64 0, .int .u64 0, .int .u32 0, .int .u8 0, .int .u8 0, .int .u8 0, .int .u8 0, .nilfn, .nil, .int .i32 0, .int .i32 0], kind := .struct [(0, 12, 1), (1, 12, 1), (2, 244, 1), (3, 305, 1), (4, 5, 1), (5, 5, 1), (6, 306, 1), (7, 307, 1), (8, 223, 1), (9, 308, 1), (10, 309, 1)], id := 311 }
@[simp] theorem T_abi_Type_size : T_abi_Type.size = 11 := rfl
@[simp] theorem T_abi_Type_agg : T_abi_Type.agg = true := rfl
@[simp] theorem T_abi_Type_zero : T_abi_Type.zero = [.int .u64 0, .int .u64 0, .int .u32 0, .int .u8 0, .int .u8 0, .int .u8 0, .int .u8 0, .nilfn, .nil, .int .i32 0, .int .i32 0] := rfl
@[simp] theorem T_abi_Type_kind : T_abi_Type.kind = .struct [(0, 12, 1), (1, 12, 1), (2, 244, 1), (3, 305, 1), (4, 5, 1), (5, 5, 1), (6, 306, 1), (7, 307, 1), (8, 223, 1), (9, 308, 1), (10, 309, 1)] := rfl
def T_func_interface_1cb4d9 : TI := { size := 1, bytes := 8, agg := false, zero := [.nilfn], kind := .func, id := 312 }
@[simp] theorem T_func_interface_1cb4d9_size : T_func_interface_1cb4d9.size = 1 := rfl
@[simp] theorem T_func_interface_1cb4d9_agg : T_func_interface_1cb4d9.agg = false := rfl
@[simp] theorem T_func_interface_1cb4d9_zero : T_func_interface_1cb4d9.zero = [.nilfn] := rfl
@[simp] theorem T_func_interface_1cb4d9_kind : T_func_interface_1cb4d9.kind = .func := rfl
def tyOf : Nat → TI
  | 1 => T_func
  | 2 => T_int64
  | 3 => T_int
  | 4 => T_bool
  | 5 => T_uint8
  | 6 => T_abi_BoundsErrorCode
  | 7 => T_struct_x_int64_y_int_signed_bool_code_abi_BoundsErrorCode
  | 8 => T_runtime_boundsError
  | 9 => T_string
  | 10 => T_runtime_errorString
  | 11 => T_runtime_plainError
  | 12 => T_uintptr
  | 13 => T_struct_msg_string_addr_uintptr
  | 14 => T_runtime_errorAddressString
  | 15 => T_p_runtime_TypeAssertionError
  | 16 => T_p_runtime_PanicNilError
  | 17 => T_p_abi_Type
  | 18 => T_struct_typ_p_abi_Type
  | 19 => T_maps_unhashableTypeError
  | 20 => T_interface
  | 21 => T_int32
  | 22 => T_s_api_Node
  | 23 => T_struct_Trees_s_api_Node_Path_string_Follow_bool
  | 24 => T_socagelaw11_Case
  | 25 => T_func_bool
  | 26 => T_func_s_api_Node_int
  | 27 => T_s_stack_mount
  | 28 => T_struct_l_s_stack_mount_next_int
  | 29 => T_stack_Stack
  | 31 => T_func_s_api_Node_stack_Stack_bool
  | 32 => T_func_stack_Stack_string_bool
  | 33 => T_struct_Level_int_Inode_int
  | 34 => T_seen_Spot
  | 35 => T_s_seen_Spot
  | 36 => T_seen_Place
  | 37 => T_struct_Kind_int_seen_Spot_Dirs_seen_Place
  | 38 => T_seen_Found
  | 39 => T_struct_Path_string_seen_Found
  | 40 => T_walk_Target
  | 41 => T_api_Errno
  | 43 => T_func_stack_Stack_string_bool_walk_Target_api_Errno
  | 44 => T_s_string
  | 45 => T_struct_Err_api_Errno_Kind_int_Size_int_Where_int_45eddcb9
  | 46 => T_api_Result
  | 47 => T_func_stack_Stack_api_Op_api_Result
  | 48 => T_struct_Kind_int_Path_string_Off_int_N_int_ID_int_affe776d
  | 49 => T_api_Op
  | 50 => T_func_socagelaw11_Case_int_int_bool
  | 51 => T_func_api_Result_api_Result_bool
  | 52 => T_func_s_api_Node_s_int_api_Op_api_Result
  | 53 => T_func_s_api_Node_s_api_Node
  | 54 => T_s_int
  | 55 => T_func_int_s_int
  | 56 => T_func_s_api_Node_api_Op_bool
  | 57 => T_func_int_bool
  | 58 => T_func_api_Op_api_Errno
  | 59 => T_func_stack_Stack_api_Op_walk_Target_api_Result
  | 60 => T_s_merge_Entry
  | 62 => T_func_stack_Stack_string_string_s_merge_Entry_api_Errno
  | 63 => T_s_socageref10_Entry
  | 65 => T_func_s_api_Node_string_s_string_s_socageref10_Entry_int
  | 66 => T_func_s_string_string
  | 67 => T_struct_Name_string_Kind_int
  | 68 => T_merge_Entry
  | 69 => T_socageref10_Entry
  | 70 => T_func_s_api_Node_string_bool
  | 71 => T_s_api_Extent
  | 72 => T_struct_Kind_int_Opaque_bool_Names_s_string_Items_8666df6f
  | 73 => T_api_Node
  | 75 => T_func_api_Node_string_bool
  | 77 => T_func_string_stack_Stack_api_Errno
  | 78 => T_func_int
  | 80 => T_func_string_api_Node_bool
  | 81 => T_func_s_api_Node_string_uint8_bool
  | 82 => T_func_api_Node_stack_Stack_api_Errno
  | 83 => T_func_s_string_api_Node_api_Node
  | 84 => T_func_string_api_Node
  | 85 => T_func_api_Node_int
  | 86 => T_func_api_Node_bool
  | 87 => T_func_int_int
  | 88 => T_p_walk_Walker
  | 90 => T_func_seen_Place_string_bool_p_walk_Walker_api_Errno
  | 91 => T_func_stack_Stack_seen_Place
  | 93 => T_func_string_seen_Place_string_bool
  | 94 => T_func_walk_Target
  | 96 => T_func_stack_Stack_seen_Place_string_seen_Found_bool
  | 97 => T_p_branch_Branch
  | 98 => T_func_int_p_branch_Branch
  | 99 => T_func_int_string
  | 100 => T_func_seen_Found_bool_string_api_Errno
  | 101 => T_func_api_Errno_api_Result
  | 102 => T_func_int_api_Result
  | 103 => T_struct_Names_s_string_Nodes_s_api_Node_Err_int
  | 104 => T_socageref11_At
  | 105 => T_func_s_api_Node_string_bool_socageref11_At
  | 106 => T_func_s_api_Node_s_string_int
  | 107 => T_func_int_s_api_Extent_int_int_string
  | 108 => T_func_int_int_int_string
  | 109 => T_func_stack_Stack_seen_Place_s_merge_Entry
  | 110 => T_func_s_api_Node_s_socageref10_Entry
  | 111 => T_struct_Shards_int_Room_int_Cursors_int
  | 112 => T_server_Config
  | 113 => T_s_s_api_Op
  | 114 => T_struct_Config_server_Config_Images_s_string_Clie_8f63a109
  | 115 => T_script_Script
  | 117 => T_func_string_script_Script_int
  | 118 => T_s_api_Op
  | 119 => T_func_api_Node_string
  | 121 => T_func_string_p_branch_Branch_api_Errno
  | 123 => T_func_p_branch_Branch_stack_Stack_int_api_Errno
  | 124 => T_struct_Node_api_Node_Len_int
  | 125 => T_socageref05_Got
  | 126 => T_func_string_int_socageref05_Got
  | 127 => T_func_api_Node_p_branch_Branch_api_Errno
  | 128 => T_func_s_string_s_string
  | 129 => T_func_string_s_api_Extent
  | 130 => T_func_api_Node_int_p_int_bool
  | 131 => T_p_int
  | 132 => T_struct_id_int_p_branch_Branch
  | 133 => T_stack_mount
  | 135 => T_func_string_s_string_bool_api_Errno
  | 136 => T_struct_path_string_seen_Place
  | 137 => T_walk_dir
  | 138 => T_s_walk_dir
  | 139 => T_p_walk_Target
  | 140 => T_struct_todo_s_string_dirs_s_walk_dir_follow_bool_b4679ffd
  | 141 => T_walk_Walker
  | 142 => T_func_walk_dir
  | 144 => T_func_int_string_int_bool
  | 145 => T_struct_api_Node_ids_s_int
  | 146 => T_branch_inode
  | 147 => T_func_int_branch_inode
  | 148 => T_func_string_api_Errno
  | 149 => T_func_string_string_string
  | 151 => T_func_string_s_string_bool
  | 152 => T_func_s_api_Node_s_string_s_string_bool_int_socageref11_At
  | 153 => T_func_api_Node_string_int
  | 154 => T_s_uint8
  | 155 => T_func_s_api_Extent_int_uint8
  | 156 => T_s_s_string
  | 157 => T_func_int_s_string
  | 158 => T_s_heap_Item
  | 159 => T_func_s_heap_Item_s_heap_Item
  | 160 => T_func_s_string_s_heap_Item
  | 161 => T_struct_Name_string_Row_int
  | 162 => T_heap_Item
  | 163 => T_func_s_string_string_s_string
  | 164 => T_func_s_api_Node_string_s_api_Node
  | 165 => T_func_string_string_s_string
  | 166 => T_struct_script_Script_part_int
  | 167 => T_script_reader
  | 168 => T_func_string_bool
  | 169 => T_func_string_int_int_string
  | 170 => T_func_string_string_int_string
  | 171 => T_struct_Off_int_Data_string
  | 172 => T_api_Extent
  | 174 => T_func_string_api_Node_api_Errno
  | 175 => T_func_string_int_int_int
  | 176 => T_s_branch_inode
  | 177 => T_struct_table_s_branch_inode
  | 178 => T_branch_Branch
  | 179 => T_func_s_string_string_int_bool
  | 180 => T_func_s_api_Node_s_string_s_api_Node
  | 181 => T_p_strings_Builder
  | 182 => T_struct_addr_p_strings_Builder_buf_s_uint8
  | 183 => T_strings_Builder
  | 184 => T_interface_Error_string
  | 185 => T_error
  | 187 => T_func_string_int_error
  | 188 => T_func_string_int_string
  | 189 => T_func_string
  | 190 => T_p_heap_heads
  | 191 => T_func_heap_Item_heap_Item_bool
  | 192 => T_func_heap_Item_bool
  | 193 => T_s_heap_head
  | 194 => T_struct_l_s_heap_head_less_func_heap_Item_heap_Item_bool
  | 195 => T_heap_heads
  | 196 => T_struct_heap_Item_rest_s_string
  | 197 => T_heap_head
  | 198 => T_func_heap_Interface
  | 199 => T_p_heap_head
  | 200 => T_func_heap_Interface_interface
  | 201 => T_func_heap_Interface_int
  | 202 => T_func_string_string_bool
  | 203 => T_func_string_string_int_int_s_string
  | 204 => T_p_script_reader
  | 206 => T_func_s_string_s_int_bool
  | 207 => T_func_string_string_bool_a09ce2
  | 209 => T_func_string_api_Op_bool
  | 210 => T_p_image_reader
  | 211 => T_p_wire_Reader
  | 212 => T_func_string_p_wire_Reader
  | 213 => T_struct_p_wire_Reader_bad_bool_left_int
  | 214 => T_image_reader
  | 215 => T_func_int_api_Node
  | 216 => T_func_string_int
  | 217 => T_func_s_api_Extent_s_api_Extent
  | 218 => T_func_int_s_api_Extent_bool
  | 219 => T_uint
  | 221 => T_func_uint_uint_uint_uint
  | 222 => T_func_int_f2d63e
  | 223 => T_p_uint8
  | 224 => T_interface_Len_int_Less_int_int_bool_Pop_interfac_d7b234c6
  | 225 => T_heap_Interface
  | 226 => T_func_heap_Interface_int_int_bool
  | 227 => T_func_int_int_7d0cc0
  | 228 => T_func_interface
  | 229 => T_func_string_int_s_string
  | 230 => T_func_string_string_int
  | 231 => T_func_string_int_bool
  | 232 => T_func_string_uint8_int
  | 234 => T_func_string_string_string_string_bool
  | 235 => T_10_string
  | 236 => T_func_10_string
  | 238 => T_func_string_int_bool_s_int_string_bool
  | 239 => T_struct_s_string
  | 240 => T_wire_Reader
  | 241 => T_func_int_api_Extent_bool
  | 243 => T_func_unsafe_Pointer_unsafe_Pointer
  | 244 => T_uint32
  | 246 => T_func_uint32_uint32_uint32_uint32
  | 247 => T_uint64
  | 249 => T_func_uint64_uint64_uint64_uint64
  | 250 => T_func_int_int_bool
  | 252 => T_func_string_int32_int
  | 253 => T_func_string_string_int_s_string
  | 254 => T_func_int_int_bool_ea9af1
  | 255 => T_func_int_string_bool
  | 256 => T_func_string_int32_int_396748
  | 260 => T_func_string_strings_asciiSet_bool
  | 261 => T_func_uint8_bool
  | 262 => T_func_int_s_uint8
  | 263 => T_func_string_string_int_int_error_error
  | 264 => T_func_int32_bool
  | 265 => T_p_strings_asciiSet
  | 267 => T_struct_lo_uint8_hi_uint8
  | 268 => T_utf8_acceptRange
  | 269 => T_16_utf8_acceptRange
  | 270 => T_func_string_uint32_uint32
  | 271 => T_strconv_Error
  | 273 => T_func_string_int_int_int64_error
  | 274 => T_p_strconv_NumError
  | 275 => T_func_string_string_p_strconv_NumError
  | 276 => T_func_string_string_int_p_strconv_NumError
  | 277 => T_func_int64_int_string
  | 279 => T_func_string_int_int_uint64_error
  | 280 => T_func_string_string
  | 281 => T_struct_Func_string_Num_string_Err_error
  | 282 => T_strconv_NumError
  | 283 => T_func_string_error
  | 284 => T_24_uint8
  | 285 => T_func_uint64_int
  | 286 => T_func_s_uint8_uint64
  | 288 => T_func_s_uint8_uint64_int_bool_bool_s_uint8_string
  | 289 => T_func_uint8_uint8
  | 290 => T_p_errors_errorString
  | 291 => T_struct_s_string_fa3a19
  | 292 => T_errors_errorString
  | 293 => T_func_bool_int
  | 294 => T_20_uint64
  | 296 => T_func_uint_int
  | 297 => T_func_uint32_int
  | 298 => T_32_uint8
  | 299 => T_64_uint8
  | 300 => T_struct_interface_p_abi_Type_concrete_p_abi_Type__3af7698d
  | 301 => T_runtime_TypeAssertionError
  | 302 => T_0_p_runtime_PanicNilError
  | 303 => T_struct_0_p_runtime_PanicNilError
  | 304 => T_runtime_PanicNilError
  | 305 => T_abi_TFlag
  | 306 => T_abi_Kind
  | 307 => T_func_unsafe_Pointer_unsafe_Pointer_bool
  | 308 => T_abi_NameOff
  | 309 => T_abi_TypeOff
  | 310 => T_struct_Size_uintptr_PtrBytes_uintptr_Hash_uint32_7c8ec20b
  | 311 => T_abi_Type
  | 312 => T_func_interface_1cb4d9
  | n => { size := 0, bytes := 0, agg := false, zero := [], kind := match n with | 0 | 30 | 42 | 61 | 64 | 74 | 76 | 79 | 89 | 92 | 95 | 116 | 120 | 122 | 134 | 143 | 150 | 173 | 186 | 205 | 208 | 220 | 233 | 237 | 245 | 248 | 251 | 259 | 272 | 278 | 287 => .tuple | _ => .other }
def locOf : Nat → Nat → Bool
  | 3, 3 => true
  | 3, 7 => true
  | 3, 9 => true
  | 3, 11 => true
  | 3, 12 => true
  | 4, 3 => true
  | 4, 5 => true
  | 6, 5 => true
  | 6, 14 => true
  | 6, 16 => true
  | 7, 9 => true
  | 7, 12 => true
  | 7, 16 => true
  | 7, 18 => true
  | 8, 1 => true
  | 9, 4 => true
  | 10, 2 => true
  | 10, 5 => true
  | 10, 6 => true
  | 11, 2 => true
  | 11, 9 => true
  | 11, 11 => true
  | 11, 13 => true
  | 12, 3 => true
  | 12, 6 => true
  | 12, 14 => true
  | 13, 2 => true
  | 13, 3 => true
  | 13, 4 => true
  | 13, 6 => true
  | 14, 1 => true
  | 14, 3 => true
  | 14, 4 => true
  | 14, 5 => true
  | 15, 2 => true
  | 15, 3 => true
  | 16, 5 => true
  | 16, 6 => true
  | 16, 7 => true
  | 16, 10 => true
  | 21, 1 => true
  | 22, 3 => true
  | 22, 4 => true
  | 22, 5 => true
  | 22, 6 => true
  | 23, 2 => true
  | 23, 7 => true
  | 24, 7 => true
  | 26, 1 => true
  | 26, 3 => true
  | 27, 1 => true
  | 28, 2 => true
  | 28, 4 => true
  | 29, 1 => true
  | 30, 2 => true
  | 30, 4 => true
  | 31, 2 => true
  | 31, 4 => true
  | 31, 6 => true
  | 32, 4 => true
  | 33, 2 => true
  | 34, 1 => true
  | 35, 1 => true
  | 36, 2 => true
  | 38, 1 => true
  | 40, 2 => true
  | 40, 3 => true
  | 40, 4 => true
  | 41, 3 => true
  | 41, 6 => true
  | 41, 8 => true
  | 41, 10 => true
  | 42, 2 => true
  | 44, 5 => true
  | 45, 2 => true
  | 46, 2 => true
  | 47, 6 => true
  | 48, 6 => true
  | 51, 9 => true
  | 52, 2 => true
  | 52, 7 => true
  | 52, 11 => true
  | 54, 2 => true
  | 55, 1 => true
  | 56, 4 => true
  | 57, 2 => true
  | 57, 4 => true
  | 58, 4 => true
  | 58, 5 => true
  | 58, 6 => true
  | 58, 15 => true
  | 59, 1 => true
  | 63, 3 => true
  | 63, 8 => true
  | 63, 10 => true
  | 64, 1 => true
  | 65, 1 => true
  | 66, 1 => true
  | 69, 2 => true
  | 70, 8 => true
  | 72, 4 => true
  | 76, 10 => true
  | 77, 2 => true
  | 79, 11 => true
  | 81, 5 => true
  | 86, 12 => true
  | 89, 2 => true
  | 89, 5 => true
  | 91, 1 => true
  | 92, 3 => true
  | 92, 6 => true
  | 92, 8 => true
  | 93, 1 => true
  | 102, 2 => true
  | 102, 3 => true
  | 113, 2 => true
  | 115, 4 => true
  | 115, 5 => true
  | 118, 3 => true
  | 118, 11 => true
  | 121, 1 => true
  | 138, 0 => true
  | 142, 1 => true
  | 143, 7 => true
  | 144, 1 => true
  | 221, 4 => true
  | _, _ => false
def liveOf : Nat → Nat → List Nat × List Nat
  | 6, 17 => ([69], [5])
  | 7, 7 => ([7, 32], [])
  | 9, 4 => ([10], [])
  | 10, 4 => ([14], [2])
  | 11, 5 => ([30], [2])
  | 12, 4 => ([], [3, 6])
  | 15, 4 => ([5], [2, 3])
  | 17, 3 => ([3, 7], [])
  | 18, 3 => ([3, 6], [])
  | 25, 3 => ([3, 4], [])
  | 28, 3 => ([11], [2, 4])
  | 31, 3 => ([11], [2, 4])
  | 38, 3 => ([3, 7], [1])
  | 39, 1 => ([], [])
  | 41, 3 => ([17], [3, 8])
  | 48, 2 => ([5], [])
  | 48, 7 => ([7, 8], [6])
  | 49, 5 => ([9, 10], [])
  | 52, 3 => ([22], [2])
  | 52, 11 => ([9, 45], [2])
  | 53, 3 => ([3, 4], [])
  | 53, 6 => ([3, 5], [])
  | 53, 11 => ([6, 7], [])
  | 54, 4 => ([16], [2])
  | 55, 5 => ([3, 4], [1])
  | 55, 14 => ([3, 6], [1])
  | 58, 13 => ([0, 7, 9], [4, 5, 6])
  | 58, 28 => ([0, 7, 13], [4, 5, 6])
  | 62, 3 => ([0, 3, 4], [])
  | 62, 5 => ([5], [])
  | 63, 3 => ([27], [])
  | 63, 11 => ([59], [])
  | 64, 2 => ([3], [1])
  | 65, 3 => ([3, 4], [1])
  | 66, 3 => ([3, 4], [1])
  | 67, 4 => ([2, 17], [])
  | 75, 6 => ([0, 4, 5, 6], [])
  | 77, 2 => ([5], [2])
  | 78, 2 => ([5], [])
  | 79, 6 => ([32], [])
  | 81, 3 => ([3, 8], [])
  | 82, 4 => ([4, 13], [])
  | 82, 12 => ([7], [])
  | 83, 4 => ([5, 6, 7], [])
  | 84, 7 => ([6], [])
  | 87, 3 => ([1, 8], [])
  | 92, 5 => ([29], [6])
  | 95, 3 => ([7, 8], [])
  | 96, 4 => ([3], [])
  | 97, 3 => ([5, 6], [])
  | 103, 2 => ([3], [])
  | 107, 2 => ([5], [])
  | 108, 3 => ([5, 6], [])
  | 109, 3 => ([3, 4], [])
  | 111, 3 => ([4, 11], [])
  | 112, 5 => ([4, 5], [])
  | 113, 5 => ([24], [2])
  | 115, 11 => ([6], [5])
  | 115, 19 => ([9], [5])
  | 117, 3 => ([3, 4], [])
  | 118, 16 => ([66], [])
  | 120, 4 => ([5], [])
  | 121, 4 => ([3], [1])
  | 129, 2 => ([7], [])
  | 130, 0 => ([1], [])
  | 139, 9 => ([11, 31], [])
  | 143, 3 => ([5, 10], [])
  | 144, 2 => ([8], [1])
  | 161, 5 => ([6, 24], [])
  | _, _ => ([], [])
def hasL : List Nat := [1, 2, 3, 4, 5, 6, 7, 8, 9, 10, 11, 12, 13, 14, 15, 16, 17, 18, 19, 20, 21, 22, 23, 24, 25, 26, 27, 28, 29, 31, 32, 33, 34, 35, 36, 37, 38, 39, 40, 41, 43, 44, 45, 46, 47, 48, 49, 50, 51, 52, 53, 54, 55, 56, 57, 58, 59, 60, 62, 63, 65, 66, 67, 68, 69, 70, 71, 72, 73, 75, 77, 78, 80, 81, 82, 83, 84, 85, 86, 87, 88, 90, 91, 93, 94, 96, 97, 98, 99, 100, 101, 102, 103, 104, 105, 106, 107, 108, 109, 110, 111, 112, 113, 114, 115, 117, 118, 119, 121, 123, 124, 125, 126, 127, 128, 129, 130, 131, 132, 133, 135, 136, 137, 138, 139, 140, 141, 142, 144, 145, 146, 147, 148, 149, 151, 152, 153, 154, 155, 156, 157, 158, 159, 160, 161, 162, 163, 164, 165, 166, 167, 168, 169, 170, 171, 172, 174, 175, 176, 177, 178, 179, 180, 181, 182, 183, 184, 185, 187, 188, 189, 190, 191, 192, 193, 194, 195, 196, 197, 198, 199, 200, 201, 202, 203, 204, 206, 207, 209, 210, 211, 212, 213, 214, 215, 216, 217, 218, 219, 221, 222, 223, 224, 225, 226, 227, 228, 229, 230, 231, 232, 234, 235, 236, 238, 239, 240, 241, 243, 244, 246, 247, 249, 250, 252, 253, 254, 255, 256, 260, 261, 262, 263, 264, 265, 267, 268, 269, 270, 271, 273, 274, 275, 276, 277, 279, 280, 281, 282, 283, 284, 285, 286, 288, 289, 290, 291, 292, 293, 294, 296, 297, 298, 299, 300, 301, 302, 303, 304, 305, 306, 307, 308, 309, 310, 311, 312]
def hasM : Nat := 16687334811602855391387615964064075062048385859815887404842643338710588047016849065632335921150
def hasOf (t : Nat) : Bool := Nat.testBit hasM t
def eqkL : List Nat := [7, 8, 33, 34, 48, 49, 67, 68, 69, 111, 112, 161, 162, 171, 172, 239, 240, 267, 268, 291, 292]
def eqkOf : Nat → Bool
  | 7 => true
  | 8 => true
  | 33 => true
  | 34 => true
  | 48 => true
  | 49 => true
  | 67 => true
  | 68 => true
  | 69 => true
  | 111 => true
  | 112 => true
  | 161 => true
  | 162 => true
  | 171 => true
  | 172 => true
  | 239 => true
  | 240 => true
  | 267 => true
  | 268 => true
  | 291 => true
  | 292 => true
  | _ => false
def byrefOf : Nat → Bool
  | 146 => true
  | 197 => true
  | _ => false
def methOf (t : Nat) (m : String) : Option Nat :=
  match t with
  | 190 => if m = "Len" then some F_heap_heads_Len else if m = "Less" then some F_heap_heads_Less else if m = "Pop" then some F_heap_heads_Pop else if m = "Swap" then some F_heap_heads_Swap else none
  | _ => none
def tkOf : Nat → Nat → Bool
  | 67, 2 => true
  | 67, 3 => true
  | 67, 4 => true
  | 67, 38 => true
  | 67, 40 => true
  | 67, 43 => true
  | _, _ => false
def C : Ctx := { ty := tyOf, has := hasOf, eqk := eqkOf, loc := locOf, byref := byrefOf, meth := methOf, live := liveOf, tk := tkOf }
@[simp] theorem C_meth : C.meth = methOf := rfl
noncomputable def En (w0 : World) : Env := ⟨Tryz.prog, C, w0⟩
theorem hasOf_mem : ∀ t, hasOf t = true → hasL.elem t = true := by
  intro t h
  by_cases c : t < 313
  · have h2 := List.all_eq_true.1 (show (List.range 313).all (fun t => !(hasOf t) || hasL.elem t) = true by kernel_rfl) t (List.mem_range.2 c)
    rw [h] at h2
    simpa using h2
  · unfold hasOf at h
    rw [Nat.testBit_lt_two_pow (Nat.lt_of_lt_of_le (show hasM < 2 ^ 313 from of_decide_eq_true (by kernel_rfl)) (Nat.pow_le_pow_right (by decide) (Nat.le_of_not_lt c)))] at h
    cases h
theorem eqkOf_mem : ∀ t, eqkOf t = true → eqkL.elem t = true := by
  intro t h
  unfold eqkOf at h
  split at h <;> first | rfl | cases h
theorem tabOk : hasL.all (fun t => tyCheck Tryz.prog t (tyOf t)) = true := by kernel_rfl
theorem eqkOk : eqkL.all (fun t => eqkCheck Tryz.prog t (tyOf t).zero) = true := by kernel_rfl
theorem meth0 (v : Value) (w : World) : (method (Tryz.prog.types.size + Made.depth) 190 v "Len").run Tryz.prog w = .ok (104, v) w := by kernel_rfl
theorem meth1 (v : Value) (w : World) : (method (Tryz.prog.types.size + Made.depth) 190 v "Less").run Tryz.prog w = .ok (220, v) w := by kernel_rfl
theorem meth2 (v : Value) (w : World) : (method (Tryz.prog.types.size + Made.depth) 190 v "Pop").run Tryz.prog w = .ok (221, v) w := by kernel_rfl
theorem meth3 (v : Value) (w : World) : (method (Tryz.prog.types.size + Made.depth) 190 v "Swap").run Tryz.prog w = .ok (222, v) w := by kernel_rfl
theorem methOk : ∀ t m g, methOf t m = some g → ∀ v w, (method (Tryz.prog.types.size + Made.depth) t v m).run Tryz.prog w = .ok (g, v) w := by
  intro t m g h v w
  unfold methOf at h
  split at h
  · split at h
    · rename_i e; subst e; cases h; exact meth0 v w
    split at h
    · rename_i e; subst e; cases h; exact meth1 v w
    split at h
    · rename_i e; subst e; cases h; exact meth2 v w
    split at h
    · rename_i e; subst e; cases h; exact meth3 v w
    cases h
  · cases h
theorem agree (w0 : World) : Agree (En w0) := agree_of (En w0) hasL eqkL hasOf_mem eqkOf_mem tabOk eqkOk methOk
theorem mixed : Tryz.prog.follows .mixedOrders = true := by kernel_rfl
theorem Ca_sound (w0 : World) : CaSound (En w0) (ACalls (En w0)) := fun _ _ _ _ h => h
theorem Ca_mono (w0 : World) : CaMono (ACalls (En w0)) := fun g xs S Q Q' h hq => ⟨h.1, fun G w hr hro args' hl ha => (h.2 G w hr hro args' hl ha).mono fun e w' ⟨v, r, S', G', h1, h2, h3⟩ => ⟨v, r, S', G', h1, hq _ _ h2, h3⟩⟩
theorem fn_ok (w0 : World) {n : Nat} {fn : Func} (hf : Tryz.prog.funcs[n]? = some fn) (hname : (fn.name == "runtime.NumGoroutine") = false) {args : List AV} {S : St} {Q : AV → St → Prop}
    (h : WF C (ACalls (En w0)) n (Drw C (ACalls (En w0)) n) fn args S Q) : ACalls (En w0) n args S Q :=
  WF_sound (E := En w0) (agree w0) (Ca_sound w0) (Ca_mono w0) (Drw_sound (agree w0) (Ca_sound w0) (Ca_mono w0) mixed) (Drw_mono (Ca_mono w0)) hf hname h
abbrev AC (w0 : World) := ACalls (En w0)
theorem AC_mono {w0 : World} {g : Nat} {xs : List AV} {S : St} {Q Q' : AV → St → Prop} (h : AC w0 g xs S Q) (hq : ∀ r S', Q r S' → Q' r S') : AC w0 g xs S Q' := Ca_mono w0 g xs S Q Q' h hq
abbrev un_int := @Tryz.underlying3
abbrev un_bool := @Tryz.underlying4
abbrev un_uint8 := @Tryz.underlying5
abbrev ag_uint8 := @Tryz.isAgg5
abbrev sz_uint8 := @Tryz.sizeOf5
abbrev zv_uint8 := @Tryz.zeroValue5
abbrev un_string := @Tryz.underlying9
abbrev un_s_api_Node := @Tryz.underlying22
abbrev un_s_string := @Tryz.underlying44
abbrev un_api_Op := @Tryz.underlying49
abbrev un_s_api_Extent := @Tryz.underlying71
abbrev un_api_Node := @Tryz.underlying73
abbrev un_api_Extent := @Tryz.underlying172
theorem ce_string : Tryz.prog.cellsOf t_string = 1 := by kernel_rfl
theorem ce_api_Node : Tryz.prog.cellsOf t_api_Node = 7 := by kernel_rfl
theorem ce_api_Extent : Tryz.prog.cellsOf t_api_Extent = 2 := by kernel_rfl
abbrev fn_strings_Split := @Tryz.func85
abbrev fn_strings_Repeat := @Tryz.func100
abbrev fn_strings_ContainsAny := @Tryz.func122
end Go.Av
