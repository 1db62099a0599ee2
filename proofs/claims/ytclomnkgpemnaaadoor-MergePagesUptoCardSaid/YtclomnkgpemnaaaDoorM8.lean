/- Parts of the proofs of this seat: abstract values over the model, and what the functions of the program do. No condition. -/
import Derived.Test.YtclomnkgpemnaaaDoorM7
import Derived.Test.YtclomnkgpemnaaaDoorM6
import Derived.Test.YtclomnkgpemnaaaDoorProg
import Derived.KernelRfl
set_option linter.all false
set_option linter.unusedVariables false
set_option maxRecDepth 100000
namespace Go.Av
open Go.Proofs
abbrev t_int : Nat := 3
abbrev t_uint8 : Nat := 5
abbrev t_string : Nat := 9
abbrev t_s_string : Nat := 23
abbrev t_s_uint8 : Nat := 79
abbrev t_branch_Branch : Nat := 111
abbrev t_api_Extent : Nat := 148
abbrev t_heap_Item : Nat := 160
abbrev t_image_reader : Nat := 178
abbrev t_p_heap_heads : Nat := 183
abbrev t_heap_heads : Nat := 188
abbrev t_heap_head : Nat := 190
abbrev t_wire_Reader : Nat := 200
abbrev F_law10_MergePages : Nat := 8
abbrev F_seen_Root : Nat := 17
abbrev F_branch_New : Nat := 25
abbrev F_branch_Branch_Look : Nat := 27
abbrev F_stack_Stack_At : Nat := 38
abbrev F_law10_speaks : Nat := 40
abbrev F_merge_Page : Nat := 41
abbrev F_branch_Branch_Kind : Nat := 43
abbrev F_branch_Branch_Opaque : Nat := 44
abbrev F_branch_Branch_Names : Nat := 47
abbrev F_stack_Of : Nat := 53
abbrev F_tree_Dir : Nat := 54
abbrev F_tree_Text : Nat := 55
abbrev F_tree_White : Nat := 56
abbrev F_stack_Stack_Len : Nat := 57
abbrev F_tree_Link : Nat := 61
abbrev F_tree_Right : Nat := 66
abbrev F_branch_Branch_add : Nat := 67
abbrev F_branch_Branch_at : Nat := 68
abbrev F_slices_BinarySearch_s_string_string : Nat := 69
abbrev F_name_Split : Nat := 73
abbrev F_merge_List : Nat := 77
abbrev F_merge_Names : Nat := 78
abbrev F_slices_Clone_s_string_string : Nat := 79
abbrev F_stack_Stack_Add : Nat := 86
abbrev F_slices_Clone_s_api_Node_api_Node : Nat := 87
abbrev F_extent_Of : Nat := 88
abbrev F_tree_right : Nat := 91
abbrev F_slices_Clone_s_api_Extent_api_Extent : Nat := 92
abbrev F_cmp_Less_string : Nat := 93
abbrev F_slices_isNaN_string : Nat := 94
abbrev F_strings_Split : Nat := 97
abbrev F_name_Right : Nat := 98
abbrev F_heap_First : Nat := 99
abbrev F_heap_Merge : Nat := 100
abbrev F_tree_zero : Nat := 113
abbrev F_extent_Right : Nat := 114
abbrev F_tree_names : Nat := 115
abbrev F_cmp_isNaN_string : Nat := 116
abbrev F_strings_ContainsAny : Nat := 118
abbrev F_heap_Item_less : Nat := 119
abbrev F_cheap_Init : Nat := 120
abbrev F_heap_heads_Len : Nat := 121
abbrev F_cheap_Pop : Nat := 122
abbrev F_cheap_Fix : Nat := 123
abbrev F_cheap_down : Nat := 135
abbrev F_cheap_up : Nat := 136
abbrev F_heap_heads_Less : Nat := 180
abbrev F_heap_heads_Pop : Nat := 181
abbrev F_heap_heads_Swap : Nat := 182
def T_func : TI := { size := 1, bytes := 8, agg := false, zero := [.nilfn], kind := .func, id := 1 }
@[simp] theorem T_func_size : T_func.size = 1 := rfl
@[simp] theorem T_func_agg : T_func.agg = false := rfl
@[simp] theorem T_func_zero : T_func.zero = [.nilfn] := rfl
@[simp] theorem T_func_kind : T_func.kind = .func := rfl
def T_int64 : TI := { size := 1, bytes := 8, agg := false, zero := [.int .i64 0], kind := .int .i64, id := 2 }
@[simp] theorem T_int64_size : T_int64.size = 1 := rfl
@[simp] theorem T_int64_agg : T_int64.agg = false := rfl
@[simp] theorem T_int64_zero : T_int64.zero = [.int .i64 0] := rfl
@[simp] theorem T_int64_kind : T_int64.kind = .int .i64 := rfl
def T_int : TI := { size := 1, bytes := 8, agg := false, zero := [.int .i64 0], kind := .int .i64, id := 3 }
@[simp] theorem T_int_size : T_int.size = 1 := rfl
@[simp] theorem T_int_agg : T_int.agg = false := rfl
@[simp] theorem T_int_zero : T_int.zero = [.int .i64 0] := rfl
@[simp] theorem T_int_kind : T_int.kind = .int .i64 := rfl
@[simp] theorem T_int_id : T_int.id = t_int := rfl
def T_bool : TI := { size := 1, bytes := 1, agg := false, zero := [.bool false], kind := .bool, id := 4 }
@[simp] theorem T_bool_size : T_bool.size = 1 := rfl
@[simp] theorem T_bool_agg : T_bool.agg = false := rfl
@[simp] theorem T_bool_zero : T_bool.zero = [.bool false] := rfl
@[simp] theorem T_bool_kind : T_bool.kind = .bool := rfl
def T_uint8 : TI := { size := 1, bytes := 1, agg := false, zero := [.int .u8 0], kind := .int .u8, id := 5 }
@[simp] theorem T_uint8_size : T_uint8.size = 1 := rfl
@[simp] theorem T_uint8_agg : T_uint8.agg = false := rfl
@[simp] theorem T_uint8_zero : T_uint8.zero = [.int .u8 0] := rfl
@[simp] theorem T_uint8_kind : T_uint8.kind = .int .u8 := rfl
@[simp] theorem T_uint8_id : T_uint8.id = t_uint8 := rfl
def T_abi_BoundsErrorCode : TI := { size := 1, bytes := 1, agg := false, zero := [.int .u8 0], kind := .int .u8, id := 6 }
@[simp] theorem T_abi_BoundsErrorCode_size : T_abi_BoundsErrorCode.size = 1 := rfl
@[simp] theorem T_abi_BoundsErrorCode_agg : T_abi_BoundsErrorCode.agg = false := rfl
@[simp] theorem T_abi_BoundsErrorCode_zero : T_abi_BoundsErrorCode.zero = [.int .u8 0] := rfl
@[simp] theorem T_abi_BoundsErrorCode_kind : T_abi_BoundsErrorCode.kind = .int .u8 := rfl
def T_struct_x_int64_y_int_signed_bool_code_abi_BoundsErrorCode : TI := { size := 4, bytes := 24, agg := true, zero := [.int .i64 0, .int .i64 0, .bool false, .int .u8 0], kind := .struct [(0, 2, 1), (1, 3, 1), (2, 4, 1), (3, 6, 1)], id := 7 }
@[simp] theorem T_struct_x_int64_y_int_signed_bool_code_abi_BoundsErrorCode_size : T_struct_x_int64_y_int_signed_bool_code_abi_BoundsErrorCode.size = 4 := rfl
@[simp] theorem T_struct_x_int64_y_int_signed_bool_code_abi_BoundsErrorCode_agg : T_struct_x_int64_y_int_signed_bool_code_abi_BoundsErrorCode.agg = true := rfl
@[simp] theorem T_struct_x_int64_y_int_signed_bool_code_abi_BoundsErrorCode_zero : T_struct_x_int64_y_int_signed_bool_code_abi_BoundsErrorCode.zero = [.int .i64 0, .int .i64 0, .bool false, .int .u8 0] := rfl
@[simp] theorem T_struct_x_int64_y_int_signed_bool_code_abi_BoundsErrorCode_kind : T_struct_x_int64_y_int_signed_bool_code_abi_BoundsErrorCode.kind = .struct [(0, 2, 1), (1, 3, 1), (2, 4, 1), (3, 6, 1)] := rfl
def T_runtime_boundsError : TI := { size := 4, bytes := 24, agg := true, zero := [.int .i64 0, .int .i64 0, .bool false, .int .u8 0], kind := .struct [(0, 2, 1), (1, 3, 1), (2, 4, 1), (3, 6, 1)], id := 8 }
@[simp] theorem T_runtime_boundsError_size : T_runtime_boundsError.size = 4 := rfl
@[simp] theorem T_runtime_boundsError_agg : T_runtime_boundsError.agg = true := rfl
@[simp] theorem T_runtime_boundsError_zero : T_runtime_boundsError.zero = [.int .i64 0, .int .i64 0, .bool false, .int .u8 0] := rfl
@[simp] theorem T_runtime_boundsError_kind : T_runtime_boundsError.kind = .struct [(0, 2, 1), (1, 3, 1), (2, 4, 1), (3, 6, 1)] := rfl
def T_string : TI := { size := 1, bytes := 16, agg := false, zero := [.str []], kind := .str, id := 9 }
@[simp] theorem T_string_size : T_string.size = 1 := rfl
@[simp] theorem T_string_agg : T_string.agg = false := rfl
@[simp] theorem T_string_zero : T_string.zero = [.str []] := rfl
@[simp] theorem T_string_kind : T_string.kind = .str := rfl
@[simp] theorem T_string_id : T_string.id = t_string := rfl
def T_runtime_errorString : TI := { size := 1, bytes := 16, agg := false, zero := [.str []], kind := .str, id := 10 }
@[simp] theorem T_runtime_errorString_size : T_runtime_errorString.size = 1 := rfl
@[simp] theorem T_runtime_errorString_agg : T_runtime_errorString.agg = false := rfl
@[simp] theorem T_runtime_errorString_zero : T_runtime_errorString.zero = [.str []] := rfl
@[simp] theorem T_runtime_errorString_kind : T_runtime_errorString.kind = .str := rfl
def T_runtime_plainError : TI := { size := 1, bytes := 16, agg := false, zero := [.str []], kind := .str, id := 11 }
@[simp] theorem T_runtime_plainError_size : T_runtime_plainError.size = 1 := rfl
@[simp] theorem T_runtime_plainError_agg : T_runtime_plainError.agg = false := rfl
@[simp] theorem T_runtime_plainError_zero : T_runtime_plainError.zero = [.str []] := rfl
@[simp] theorem T_runtime_plainError_kind : T_runtime_plainError.kind = .str := rfl
def T_uintptr : TI := { size := 1, bytes := 8, agg := false, zero := [.int .u64 0], kind := .int .u64, id := 12 }
@[simp] theorem T_uintptr_size : T_uintptr.size = 1 := rfl
@[simp] theorem T_uintptr_agg : T_uintptr.agg = false := rfl
@[simp] theorem T_uintptr_zero : T_uintptr.zero = [.int .u64 0] := rfl
@[simp] theorem T_uintptr_kind : T_uintptr.kind = .int .u64 := rfl
def T_struct_msg_string_addr_uintptr : TI := { size := 2, bytes := 24, agg := true, zero := [.str [], .int .u64 0], kind := .struct [(0, 9, 1), (1, 12, 1)], id := 13 }
@[simp] theorem T_struct_msg_string_addr_uintptr_size : T_struct_msg_string_addr_uintptr.size = 2 := rfl
@[simp] theorem T_struct_msg_string_addr_uintptr_agg : T_struct_msg_string_addr_uintptr.agg = true := rfl
@[simp] theorem T_struct_msg_string_addr_uintptr_zero : T_struct_msg_string_addr_uintptr.zero = [.str [], .int .u64 0] := rfl
@[simp] theorem T_struct_msg_string_addr_uintptr_kind : T_struct_msg_string_addr_uintptr.kind = .struct [(0, 9, 1), (1, 12, 1)] := rfl
def T_runtime_errorAddressString : TI := { size := 2, bytes := 24, agg := true, zero := [.str [], .int .u64 0], kind := .struct [(0, 9, 1), (1, 12, 1)], id := 14 }
@[simp] theorem T_runtime_errorAddressString_size : T_runtime_errorAddressString.size = 2 := rfl
@[simp] theorem T_runtime_errorAddressString_agg : T_runtime_errorAddressString.agg = true := rfl
@[simp] theorem T_runtime_errorAddressString_zero : T_runtime_errorAddressString.zero = [.str [], .int .u64 0] := rfl
@[simp] theorem T_runtime_errorAddressString_kind : T_runtime_errorAddressString.kind = .struct [(0, 9, 1), (1, 12, 1)] := rfl
def T_p_runtime_TypeAssertionError : TI := { size := 1, bytes := 8, agg := false, zero := [.nil], kind := .ptr 238, id := 15 }
@[simp] theorem T_p_runtime_TypeAssertionError_size : T_p_runtime_TypeAssertionError.size = 1 := rfl
@[simp] theorem T_p_runtime_TypeAssertionError_agg : T_p_runtime_TypeAssertionError.agg = false := rfl
@[simp] theorem T_p_runtime_TypeAssertionError_zero : T_p_runtime_TypeAssertionError.zero = [.nil] := rfl
@[simp] theorem T_p_runtime_TypeAssertionError_kind : T_p_runtime_TypeAssertionError.kind = .ptr 238 := rfl
def T_p_runtime_PanicNilError : TI := { size := 1, bytes := 8, agg := false, zero := [.nil], kind := .ptr 241, id := 16 }
@[simp] theorem T_p_runtime_PanicNilError_size : T_p_runtime_PanicNilError.size = 1 := rfl
@[simp] theorem T_p_runtime_PanicNilError_agg : T_p_runtime_PanicNilError.agg = false := rfl
@[simp] theorem T_p_runtime_PanicNilError_zero : T_p_runtime_PanicNilError.zero = [.nil] := rfl
@[simp] theorem T_p_runtime_PanicNilError_kind : T_p_runtime_PanicNilError.kind = .ptr 241 := rfl
def T_p_abi_Type : TI := { size := 1, bytes := 8, agg := false, zero := [.nil], kind := .ptr 248, id := 17 }
@[simp] theorem T_p_abi_Type_size : T_p_abi_Type.size = 1 := rfl
@[simp] theorem T_p_abi_Type_agg : T_p_abi_Type.agg = false := rfl
@[simp] theorem T_p_abi_Type_zero : T_p_abi_Type.zero = [.nil] := rfl
@[simp] theorem T_p_abi_Type_kind : T_p_abi_Type.kind = .ptr 248 := rfl
def T_struct_typ_p_abi_Type : TI := { size := 1, bytes := 8, agg := true, zero := [.nil], kind := .struct [(0, 17, 1)], id := 18 }
@[simp] theorem T_struct_typ_p_abi_Type_size : T_struct_typ_p_abi_Type.size = 1 := rfl
@[simp] theorem T_struct_typ_p_abi_Type_agg : T_struct_typ_p_abi_Type.agg = true := rfl
@[simp] theorem T_struct_typ_p_abi_Type_zero : T_struct_typ_p_abi_Type.zero = [.nil] := rfl
@[simp] theorem T_struct_typ_p_abi_Type_kind : T_struct_typ_p_abi_Type.kind = .struct [(0, 17, 1)] := rfl
def T_maps_unhashableTypeError : TI := { size := 1, bytes := 8, agg := true, zero := [.nil], kind := .struct [(0, 17, 1)], id := 19 }
@[simp] theorem T_maps_unhashableTypeError_size : T_maps_unhashableTypeError.size = 1 := rfl
@[simp] theorem T_maps_unhashableTypeError_agg : T_maps_unhashableTypeError.agg = true := rfl
@[simp] theorem T_maps_unhashableTypeError_zero : T_maps_unhashableTypeError.zero = [.nil] := rfl
@[simp] theorem T_maps_unhashableTypeError_kind : T_maps_unhashableTypeError.kind = .struct [(0, 17, 1)] := rfl
def T_interface : TI := { size := 1, bytes := 16, agg := false, zero := [.nilifc], kind := .iface, id := 20 }
@[simp] theorem T_interface_size : T_interface.size = 1 := rfl
@[simp] theorem T_interface_agg : T_interface.agg = false := rfl
@[simp] theorem T_interface_zero : T_interface.zero = [.nilifc] := rfl
@[simp] theorem T_interface_kind : T_interface.kind = .iface := rfl
def T_int32 : TI := { size := 1, bytes := 4, agg := false, zero := [.int .i32 0], kind := .int .i32, id := 21 }
@[simp] theorem T_int32_size : T_int32.size = 1 := rfl
@[simp] theorem T_int32_agg : T_int32.agg = false := rfl
@[simp] theorem T_int32_zero : T_int32.zero = [.int .i32 0] := rfl
@[simp] theorem T_int32_kind : T_int32.kind = .int .i32 := rfl
def T_s_api_Node : TI := { size := 1, bytes := 24, agg := false, zero := [.vs 7 [] .nil], kind := .slice 51, id := 22 }
@[simp] theorem T_s_api_Node_size : T_s_api_Node.size = 1 := rfl
@[simp] theorem T_s_api_Node_agg : T_s_api_Node.agg = false := rfl
@[simp] theorem T_s_api_Node_zero : T_s_api_Node.zero = [.vs 7 [] .nil] := rfl
@[simp] theorem T_s_api_Node_kind : T_s_api_Node.kind = .slice 51 := rfl
def T_s_string : TI := { size := 1, bytes := 24, agg := false, zero := [.vs 1 [] .nil], kind := .slice 9, id := 23 }
@[simp] theorem T_s_string_size : T_s_string.size = 1 := rfl
@[simp] theorem T_s_string_agg : T_s_string.agg = false := rfl
@[simp] theorem T_s_string_zero : T_s_string.zero = [.vs 1 [] .nil] := rfl
@[simp] theorem T_s_string_kind : T_s_string.kind = .slice 9 := rfl
@[simp] theorem T_s_string_id : T_s_string.id = t_s_string := rfl
def T_func_bool : TI := { size := 1, bytes := 8, agg := false, zero := [.nilfn], kind := .func, id := 24 }
@[simp] theorem T_func_bool_size : T_func_bool.size = 1 := rfl
@[simp] theorem T_func_bool_agg : T_func_bool.agg = false := rfl
@[simp] theorem T_func_bool_zero : T_func_bool.zero = [.nilfn] := rfl
@[simp] theorem T_func_bool_kind : T_func_bool.kind = .func := rfl
def T_func_s_api_Node_int : TI := { size := 1, bytes := 8, agg := false, zero := [.nilfn], kind := .func, id := 25 }
@[simp] theorem T_func_s_api_Node_int_size : T_func_s_api_Node_int.size = 1 := rfl
@[simp] theorem T_func_s_api_Node_int_agg : T_func_s_api_Node_int.agg = false := rfl
@[simp] theorem T_func_s_api_Node_int_zero : T_func_s_api_Node_int.zero = [.nilfn] := rfl
@[simp] theorem T_func_s_api_Node_int_kind : T_func_s_api_Node_int.kind = .func := rfl
def T_s_stack_mount : TI := { size := 1, bytes := 24, agg := false, zero := [.vs 2 [] .nil], kind := .slice 133, id := 26 }
@[simp] theorem T_s_stack_mount_size : T_s_stack_mount.size = 1 := rfl
@[simp] theorem T_s_stack_mount_agg : T_s_stack_mount.agg = false := rfl
@[simp] theorem T_s_stack_mount_zero : T_s_stack_mount.zero = [.vs 2 [] .nil] := rfl
@[simp] theorem T_s_stack_mount_kind : T_s_stack_mount.kind = .slice 133 := rfl
def T_struct_l_s_stack_mount_next_int : TI := { size := 2, bytes := 32, agg := true, zero := [.vs 2 [] .nil, .int .i64 0], kind := .struct [(0, 26, 1), (1, 3, 1)], id := 27 }
@[simp] theorem T_struct_l_s_stack_mount_next_int_size : T_struct_l_s_stack_mount_next_int.size = 2 := rfl
@[simp] theorem T_struct_l_s_stack_mount_next_int_agg : T_struct_l_s_stack_mount_next_int.agg = true := rfl
@[simp] theorem T_struct_l_s_stack_mount_next_int_zero : T_struct_l_s_stack_mount_next_int.zero = [.vs 2 [] .nil, .int .i64 0] := rfl
@[simp] theorem T_struct_l_s_stack_mount_next_int_kind : T_struct_l_s_stack_mount_next_int.kind = .struct [(0, 26, 1), (1, 3, 1)] := rfl
def T_stack_Stack : TI := { size := 2, bytes := 32, agg := true, zero := [.vs 2 [] .nil, .int .i64 0], kind := .struct [(0, 26, 1), (1, 3, 1)], id := 28 }
@[simp] theorem T_stack_Stack_size : T_stack_Stack.size = 2 := rfl
@[simp] theorem T_stack_Stack_agg : T_stack_Stack.agg = true := rfl
@[simp] theorem T_stack_Stack_zero : T_stack_Stack.zero = [.vs 2 [] .nil, .int .i64 0] := rfl
@[simp] theorem T_stack_Stack_kind : T_stack_Stack.kind = .struct [(0, 26, 1), (1, 3, 1)] := rfl
def T_func_s_api_Node_stack_Stack_bool : TI := { size := 1, bytes := 8, agg := false, zero := [.nilfn], kind := .func, id := 30 }
@[simp] theorem T_func_s_api_Node_stack_Stack_bool_size : T_func_s_api_Node_stack_Stack_bool.size = 1 := rfl
@[simp] theorem T_func_s_api_Node_stack_Stack_bool_agg : T_func_s_api_Node_stack_Stack_bool.agg = false := rfl
@[simp] theorem T_func_s_api_Node_stack_Stack_bool_zero : T_func_s_api_Node_stack_Stack_bool.zero = [.nilfn] := rfl
@[simp] theorem T_func_s_api_Node_stack_Stack_bool_kind : T_func_s_api_Node_stack_Stack_bool.kind = .func := rfl
def T_func_stack_Stack_seen_Place_s_api_Node_s_string_bool : TI := { size := 1, bytes := 8, agg := false, zero := [.nilfn], kind := .func, id := 31 }
@[simp] theorem T_func_stack_Stack_seen_Place_s_api_Node_s_string_bool_size : T_func_stack_Stack_seen_Place_s_api_Node_s_string_bool.size = 1 := rfl
@[simp] theorem T_func_stack_Stack_seen_Place_s_api_Node_s_string_bool_agg : T_func_stack_Stack_seen_Place_s_api_Node_s_string_bool.agg = false := rfl
@[simp] theorem T_func_stack_Stack_seen_Place_s_api_Node_s_string_bool_zero : T_func_stack_Stack_seen_Place_s_api_Node_s_string_bool.zero = [.nilfn] := rfl
@[simp] theorem T_func_stack_Stack_seen_Place_s_api_Node_s_string_bool_kind : T_func_stack_Stack_seen_Place_s_api_Node_s_string_bool.kind = .func := rfl
def T_s_seen_Spot : TI := { size := 1, bytes := 24, agg := false, zero := [.vs 2 [] .nil], kind := .slice 40, id := 32 }
@[simp] theorem T_s_seen_Spot_size : T_s_seen_Spot.size = 1 := rfl
@[simp] theorem T_s_seen_Spot_agg : T_s_seen_Spot.agg = false := rfl
@[simp] theorem T_s_seen_Spot_zero : T_s_seen_Spot.zero = [.vs 2 [] .nil] := rfl
@[simp] theorem T_s_seen_Spot_kind : T_s_seen_Spot.kind = .slice 40 := rfl
def T_seen_Place : TI := { size := 1, bytes := 24, agg := false, zero := [.vs 2 [] .nil], kind := .slice 40, id := 33 }
@[simp] theorem T_seen_Place_size : T_seen_Place.size = 1 := rfl
@[simp] theorem T_seen_Place_agg : T_seen_Place.agg = false := rfl
@[simp] theorem T_seen_Place_zero : T_seen_Place.zero = [.vs 2 [] .nil] := rfl
@[simp] theorem T_seen_Place_kind : T_seen_Place.kind = .slice 40 := rfl
def T_func_stack_Stack_seen_Place : TI := { size := 1, bytes := 8, agg := false, zero := [.nilfn], kind := .func, id := 34 }
@[simp] theorem T_func_stack_Stack_seen_Place_size : T_func_stack_Stack_seen_Place.size = 1 := rfl
@[simp] theorem T_func_stack_Stack_seen_Place_agg : T_func_stack_Stack_seen_Place.agg = false := rfl
@[simp] theorem T_func_stack_Stack_seen_Place_zero : T_func_stack_Stack_seen_Place.zero = [.nilfn] := rfl
@[simp] theorem T_func_stack_Stack_seen_Place_kind : T_func_stack_Stack_seen_Place.kind = .func := rfl
def T_func_s_api_Node_s_api_Node : TI := { size := 1, bytes := 8, agg := false, zero := [.nilfn], kind := .func, id := 35 }
@[simp] theorem T_func_s_api_Node_s_api_Node_size : T_func_s_api_Node_s_api_Node.size = 1 := rfl
@[simp] theorem T_func_s_api_Node_s_api_Node_agg : T_func_s_api_Node_s_api_Node.agg = false := rfl
@[simp] theorem T_func_s_api_Node_s_api_Node_zero : T_func_s_api_Node_s_api_Node.zero = [.nilfn] := rfl
@[simp] theorem T_func_s_api_Node_s_api_Node_kind : T_func_s_api_Node_s_api_Node.kind = .func := rfl
def T_func_s_api_Node_s_string_bool : TI := { size := 1, bytes := 8, agg := false, zero := [.nilfn], kind := .func, id := 36 }
@[simp] theorem T_func_s_api_Node_s_string_bool_size : T_func_s_api_Node_s_string_bool.size = 1 := rfl
@[simp] theorem T_func_s_api_Node_s_string_bool_agg : T_func_s_api_Node_s_string_bool.agg = false := rfl
@[simp] theorem T_func_s_api_Node_s_string_bool_zero : T_func_s_api_Node_s_string_bool.zero = [.nilfn] := rfl
@[simp] theorem T_func_s_api_Node_s_string_bool_kind : T_func_s_api_Node_s_string_bool.kind = .func := rfl
def T_struct_Trees_s_api_Node_Path_string_Follow_bool : TI := { size := 3, bytes := 48, agg := true, zero := [.vs 7 [] .nil, .str [], .bool false], kind := .struct [(0, 22, 1), (1, 9, 1), (2, 4, 1)], id := 37 }
@[simp] theorem T_struct_Trees_s_api_Node_Path_string_Follow_bool_size : T_struct_Trees_s_api_Node_Path_string_Follow_bool.size = 3 := rfl
@[simp] theorem T_struct_Trees_s_api_Node_Path_string_Follow_bool_agg : T_struct_Trees_s_api_Node_Path_string_Follow_bool.agg = true := rfl
@[simp] theorem T_struct_Trees_s_api_Node_Path_string_Follow_bool_zero : T_struct_Trees_s_api_Node_Path_string_Follow_bool.zero = [.vs 7 [] .nil, .str [], .bool false] := rfl
@[simp] theorem T_struct_Trees_s_api_Node_Path_string_Follow_bool_kind : T_struct_Trees_s_api_Node_Path_string_Follow_bool.kind = .struct [(0, 22, 1), (1, 9, 1), (2, 4, 1)] := rfl
def T_socagelaw11_Case : TI := { size := 3, bytes := 48, agg := true, zero := [.vs 7 [] .nil, .str [], .bool false], kind := .struct [(0, 22, 1), (1, 9, 1), (2, 4, 1)], id := 38 }
@[simp] theorem T_socagelaw11_Case_size : T_socagelaw11_Case.size = 3 := rfl
@[simp] theorem T_socagelaw11_Case_agg : T_socagelaw11_Case.agg = true := rfl
@[simp] theorem T_socagelaw11_Case_zero : T_socagelaw11_Case.zero = [.vs 7 [] .nil, .str [], .bool false] := rfl
@[simp] theorem T_socagelaw11_Case_kind : T_socagelaw11_Case.kind = .struct [(0, 22, 1), (1, 9, 1), (2, 4, 1)] := rfl
def T_struct_Level_int_Inode_int : TI := { size := 2, bytes := 16, agg := true, zero := [.int .i64 0, .int .i64 0], kind := .struct [(0, 3, 1), (1, 3, 1)], id := 39 }
@[simp] theorem T_struct_Level_int_Inode_int_size : T_struct_Level_int_Inode_int.size = 2 := rfl
@[simp] theorem T_struct_Level_int_Inode_int_agg : T_struct_Level_int_Inode_int.agg = true := rfl
@[simp] theorem T_struct_Level_int_Inode_int_zero : T_struct_Level_int_Inode_int.zero = [.int .i64 0, .int .i64 0] := rfl
@[simp] theorem T_struct_Level_int_Inode_int_kind : T_struct_Level_int_Inode_int.kind = .struct [(0, 3, 1), (1, 3, 1)] := rfl
def T_seen_Spot : TI := { size := 2, bytes := 16, agg := true, zero := [.int .i64 0, .int .i64 0], kind := .struct [(0, 3, 1), (1, 3, 1)], id := 40 }
@[simp] theorem T_seen_Spot_size : T_seen_Spot.size = 2 := rfl
@[simp] theorem T_seen_Spot_agg : T_seen_Spot.agg = true := rfl
@[simp] theorem T_seen_Spot_zero : T_seen_Spot.zero = [.int .i64 0, .int .i64 0] := rfl
@[simp] theorem T_seen_Spot_kind : T_seen_Spot.kind = .struct [(0, 3, 1), (1, 3, 1)] := rfl
def T_struct_Kind_int_seen_Spot_Dirs_seen_Place : TI := { size := 4, bytes := 48, agg := true, zero := [.int .i64 0, .int .i64 0, .int .i64 0, .vs 2 [] .nil], kind := .struct [(0, 3, 1), (1, 40, 2), (3, 33, 1)], id := 41 }
@[simp] theorem T_struct_Kind_int_seen_Spot_Dirs_seen_Place_size : T_struct_Kind_int_seen_Spot_Dirs_seen_Place.size = 4 := rfl
@[simp] theorem T_struct_Kind_int_seen_Spot_Dirs_seen_Place_agg : T_struct_Kind_int_seen_Spot_Dirs_seen_Place.agg = true := rfl
@[simp] theorem T_struct_Kind_int_seen_Spot_Dirs_seen_Place_zero : T_struct_Kind_int_seen_Spot_Dirs_seen_Place.zero = [.int .i64 0, .int .i64 0, .int .i64 0, .vs 2 [] .nil] := rfl
@[simp] theorem T_struct_Kind_int_seen_Spot_Dirs_seen_Place_kind : T_struct_Kind_int_seen_Spot_Dirs_seen_Place.kind = .struct [(0, 3, 1), (1, 40, 2), (3, 33, 1)] := rfl
def T_seen_Found : TI := { size := 4, bytes := 48, agg := true, zero := [.int .i64 0, .int .i64 0, .int .i64 0, .vs 2 [] .nil], kind := .struct [(0, 3, 1), (1, 40, 2), (3, 33, 1)], id := 42 }
@[simp] theorem T_seen_Found_size : T_seen_Found.size = 4 := rfl
@[simp] theorem T_seen_Found_agg : T_seen_Found.agg = true := rfl
@[simp] theorem T_seen_Found_zero : T_seen_Found.zero = [.int .i64 0, .int .i64 0, .int .i64 0, .vs 2 [] .nil] := rfl
@[simp] theorem T_seen_Found_kind : T_seen_Found.kind = .struct [(0, 3, 1), (1, 40, 2), (3, 33, 1)] := rfl
def T_struct_Path_string_seen_Found : TI := { size := 5, bytes := 64, agg := true, zero := [.str [], .int .i64 0, .int .i64 0, .int .i64 0, .vs 2 [] .nil], kind := .struct [(0, 9, 1), (1, 42, 4)], id := 43 }
@[simp] theorem T_struct_Path_string_seen_Found_size : T_struct_Path_string_seen_Found.size = 5 := rfl
@[simp] theorem T_struct_Path_string_seen_Found_agg : T_struct_Path_string_seen_Found.agg = true := rfl
@[simp] theorem T_struct_Path_string_seen_Found_zero : T_struct_Path_string_seen_Found.zero = [.str [], .int .i64 0, .int .i64 0, .int .i64 0, .vs 2 [] .nil] := rfl
@[simp] theorem T_struct_Path_string_seen_Found_kind : T_struct_Path_string_seen_Found.kind = .struct [(0, 9, 1), (1, 42, 4)] := rfl
def T_walk_Target : TI := { size := 5, bytes := 64, agg := true, zero := [.str [], .int .i64 0, .int .i64 0, .int .i64 0, .vs 2 [] .nil], kind := .struct [(0, 9, 1), (1, 42, 4)], id := 44 }
@[simp] theorem T_walk_Target_size : T_walk_Target.size = 5 := rfl
@[simp] theorem T_walk_Target_agg : T_walk_Target.agg = true := rfl
@[simp] theorem T_walk_Target_zero : T_walk_Target.zero = [.str [], .int .i64 0, .int .i64 0, .int .i64 0, .vs 2 [] .nil] := rfl
@[simp] theorem T_walk_Target_kind : T_walk_Target.kind = .struct [(0, 9, 1), (1, 42, 4)] := rfl
def T_api_Errno : TI := { size := 1, bytes := 8, agg := false, zero := [.int .i64 0], kind := .int .i64, id := 45 }
@[simp] theorem T_api_Errno_size : T_api_Errno.size = 1 := rfl
@[simp] theorem T_api_Errno_agg : T_api_Errno.agg = false := rfl
@[simp] theorem T_api_Errno_zero : T_api_Errno.zero = [.int .i64 0] := rfl
@[simp] theorem T_api_Errno_kind : T_api_Errno.kind = .int .i64 := rfl
def T_func_stack_Stack_string_bool_walk_Target_api_Errno : TI := { size := 1, bytes := 8, agg := false, zero := [.nilfn], kind := .func, id := 47 }
@[simp] theorem T_func_stack_Stack_string_bool_walk_Target_api_Errno_size : T_func_stack_Stack_string_bool_walk_Target_api_Errno.size = 1 := rfl
@[simp] theorem T_func_stack_Stack_string_bool_walk_Target_api_Errno_agg : T_func_stack_Stack_string_bool_walk_Target_api_Errno.agg = false := rfl
@[simp] theorem T_func_stack_Stack_string_bool_walk_Target_api_Errno_zero : T_func_stack_Stack_string_bool_walk_Target_api_Errno.zero = [.nilfn] := rfl
@[simp] theorem T_func_stack_Stack_string_bool_walk_Target_api_Errno_kind : T_func_stack_Stack_string_bool_walk_Target_api_Errno.kind = .func := rfl
def T_func_socagelaw11_Case_bool : TI := { size := 1, bytes := 8, agg := false, zero := [.nilfn], kind := .func, id := 48 }
@[simp] theorem T_func_socagelaw11_Case_bool_size : T_func_socagelaw11_Case_bool.size = 1 := rfl
@[simp] theorem T_func_socagelaw11_Case_bool_agg : T_func_socagelaw11_Case_bool.agg = false := rfl
@[simp] theorem T_func_socagelaw11_Case_bool_zero : T_func_socagelaw11_Case_bool.zero = [.nilfn] := rfl
@[simp] theorem T_func_socagelaw11_Case_bool_kind : T_func_socagelaw11_Case_bool.kind = .func := rfl
def T_s_api_Extent : TI := { size := 1, bytes := 24, agg := false, zero := [.vs 2 [] .nil], kind := .slice 148, id := 49 }
@[simp] theorem T_s_api_Extent_size : T_s_api_Extent.size = 1 := rfl
@[simp] theorem T_s_api_Extent_agg : T_s_api_Extent.agg = false := rfl
@[simp] theorem T_s_api_Extent_zero : T_s_api_Extent.zero = [.vs 2 [] .nil] := rfl
@[simp] theorem T_s_api_Extent_kind : T_s_api_Extent.kind = .slice 148 := rfl
def T_struct_Kind_int_Opaque_bool_Names_s_string_Items_8666df6f : TI := { size := 7, bytes := 112, agg := true, zero := [.int .i64 0, .bool false, .vs 1 [] .nil, .vs 7 [] .nil, .int .i64 0, .vs 2 [] .nil, .str []], kind := .struct [(0, 3, 1), (1, 4, 1), (2, 23, 1), (3, 22, 1), (4, 3, 1), (5, 49, 1), (6, 9, 1)], id := 50 }
@[simp] theorem T_struct_Kind_int_Opaque_bool_Names_s_string_Items_8666df6f_size : T_struct_Kind_int_Opaque_bool_Names_s_string_Items_8666df6f.size = 7 := rfl
@[simp] theorem T_struct_Kind_int_Opaque_bool_Names_s_string_Items_8666df6f_agg : T_struct_Kind_int_Opaque_bool_Names_s_string_Items_8666df6f.agg = true := rfl
@[simp] theorem T_struct_Kind_int_Opaque_bool_Names_s_string_Items_8666df6f_zero : T_struct_Kind_int_Opaque_bool_Names_s_string_Items_8666df6f.zero = [.int .i64 0, .bool false, .vs 1 [] .nil, .vs 7 [] .nil, .int .i64 0, .vs 2 [] .nil, .str []] := rfl
@[simp] theorem T_struct_Kind_int_Opaque_bool_Names_s_string_Items_8666df6f_kind : T_struct_Kind_int_Opaque_bool_Names_s_string_Items_8666df6f.kind = .struct [(0, 3, 1), (1, 4, 1), (2, 23, 1), (3, 22, 1), (4, 3, 1), (5, 49, 1), (6, 9, 1)] := rfl
def T_api_Node : TI := { size := 7, bytes := 112, agg := true, zero := [.int .i64 0, .bool false, .vs 1 [] .nil, .vs 7 [] .nil, .int .i64 0, .vs 2 [] .nil, .str []], kind := .struct [(0, 3, 1), (1, 4, 1), (2, 23, 1), (3, 22, 1), (4, 3, 1), (5, 49, 1), (6, 9, 1)], id := 51 }
@[simp] theorem T_api_Node_size : T_api_Node.size = 7 := rfl
@[simp] theorem T_api_Node_agg : T_api_Node.agg = true := rfl
@[simp] theorem T_api_Node_zero : T_api_Node.zero = [.int .i64 0, .bool false, .vs 1 [] .nil, .vs 7 [] .nil, .int .i64 0, .vs 2 [] .nil, .str []] := rfl
@[simp] theorem T_api_Node_kind : T_api_Node.kind = .struct [(0, 3, 1), (1, 4, 1), (2, 23, 1), (3, 22, 1), (4, 3, 1), (5, 49, 1), (6, 9, 1)] := rfl
def T_func_api_Node_int : TI := { size := 1, bytes := 8, agg := false, zero := [.nilfn], kind := .func, id := 52 }
@[simp] theorem T_func_api_Node_int_size : T_func_api_Node_int.size = 1 := rfl
@[simp] theorem T_func_api_Node_int_agg : T_func_api_Node_int.agg = false := rfl
@[simp] theorem T_func_api_Node_int_zero : T_func_api_Node_int.zero = [.nilfn] := rfl
@[simp] theorem T_func_api_Node_int_kind : T_func_api_Node_int.kind = .func := rfl
def T_func_api_Node_bool : TI := { size := 1, bytes := 8, agg := false, zero := [.nilfn], kind := .func, id := 53 }
@[simp] theorem T_func_api_Node_bool_size : T_func_api_Node_bool.size = 1 := rfl
@[simp] theorem T_func_api_Node_bool_agg : T_func_api_Node_bool.agg = false := rfl
@[simp] theorem T_func_api_Node_bool_zero : T_func_api_Node_bool.zero = [.nilfn] := rfl
@[simp] theorem T_func_api_Node_bool_kind : T_func_api_Node_bool.kind = .func := rfl
def T_p_branch_Branch : TI := { size := 1, bytes := 8, agg := false, zero := [.nil], kind := .ptr 111, id := 54 }
@[simp] theorem T_p_branch_Branch_size : T_p_branch_Branch.size = 1 := rfl
@[simp] theorem T_p_branch_Branch_agg : T_p_branch_Branch.agg = false := rfl
@[simp] theorem T_p_branch_Branch_zero : T_p_branch_Branch.zero = [.nil] := rfl
@[simp] theorem T_p_branch_Branch_kind : T_p_branch_Branch.kind = .ptr 111 := rfl
def T_func_api_Node_p_branch_Branch_api_Errno : TI := { size := 1, bytes := 8, agg := false, zero := [.nilfn], kind := .func, id := 56 }
@[simp] theorem T_func_api_Node_p_branch_Branch_api_Errno_size : T_func_api_Node_p_branch_Branch_api_Errno.size = 1 := rfl
@[simp] theorem T_func_api_Node_p_branch_Branch_api_Errno_agg : T_func_api_Node_p_branch_Branch_api_Errno.agg = false := rfl
@[simp] theorem T_func_api_Node_p_branch_Branch_api_Errno_zero : T_func_api_Node_p_branch_Branch_api_Errno.zero = [.nilfn] := rfl
@[simp] theorem T_func_api_Node_p_branch_Branch_api_Errno_kind : T_func_api_Node_p_branch_Branch_api_Errno.kind = .func := rfl
def T_func_api_Node_s_api_Node : TI := { size := 1, bytes := 8, agg := false, zero := [.nilfn], kind := .func, id := 57 }
@[simp] theorem T_func_api_Node_s_api_Node_size : T_func_api_Node_s_api_Node.size = 1 := rfl
@[simp] theorem T_func_api_Node_s_api_Node_agg : T_func_api_Node_s_api_Node.agg = false := rfl
@[simp] theorem T_func_api_Node_s_api_Node_zero : T_func_api_Node_s_api_Node.zero = [.nilfn] := rfl
@[simp] theorem T_func_api_Node_s_api_Node_kind : T_func_api_Node_s_api_Node.kind = .func := rfl
def T_func_int_string_int_bool : TI := { size := 1, bytes := 8, agg := false, zero := [.nilfn], kind := .func, id := 59 }
@[simp] theorem T_func_int_string_int_bool_size : T_func_int_string_int_bool.size = 1 := rfl
@[simp] theorem T_func_int_string_int_bool_agg : T_func_int_string_int_bool.agg = false := rfl
@[simp] theorem T_func_int_string_int_bool_zero : T_func_int_string_int_bool.zero = [.nilfn] := rfl
@[simp] theorem T_func_int_string_int_bool_kind : T_func_int_string_int_bool.kind = .func := rfl
def T_func_api_Node_string_int : TI := { size := 1, bytes := 8, agg := false, zero := [.nilfn], kind := .func, id := 60 }
@[simp] theorem T_func_api_Node_string_int_size : T_func_api_Node_string_int.size = 1 := rfl
@[simp] theorem T_func_api_Node_string_int_agg : T_func_api_Node_string_int.agg = false := rfl
@[simp] theorem T_func_api_Node_string_int_zero : T_func_api_Node_string_int.zero = [.nilfn] := rfl
@[simp] theorem T_func_api_Node_string_int_kind : T_func_api_Node_string_int.kind = .func := rfl
def T_func_s_api_Node_int_int_int : TI := { size := 1, bytes := 8, agg := false, zero := [.nilfn], kind := .func, id := 61 }
@[simp] theorem T_func_s_api_Node_int_int_int_size : T_func_s_api_Node_int_int_int.size = 1 := rfl
@[simp] theorem T_func_s_api_Node_int_int_int_agg : T_func_s_api_Node_int_int_int.agg = false := rfl
@[simp] theorem T_func_s_api_Node_int_int_int_zero : T_func_s_api_Node_int_int_int.zero = [.nilfn] := rfl
@[simp] theorem T_func_s_api_Node_int_int_int_kind : T_func_s_api_Node_int_int_int.kind = .func := rfl
def T_func_api_Node_string_int_bool : TI := { size := 1, bytes := 8, agg := false, zero := [.nilfn], kind := .func, id := 62 }
@[simp] theorem T_func_api_Node_string_int_bool_size : T_func_api_Node_string_int_bool.size = 1 := rfl
@[simp] theorem T_func_api_Node_string_int_bool_agg : T_func_api_Node_string_int_bool.agg = false := rfl
@[simp] theorem T_func_api_Node_string_int_bool_zero : T_func_api_Node_string_int_bool.zero = [.nilfn] := rfl
@[simp] theorem T_func_api_Node_string_int_bool_kind : T_func_api_Node_string_int_bool.kind = .func := rfl
def T_func_stack_Stack_walk_Target_api_Errno_socageref11_At_int : TI := { size := 1, bytes := 8, agg := false, zero := [.nilfn], kind := .func, id := 63 }
@[simp] theorem T_func_stack_Stack_walk_Target_api_Errno_socageref11_At_int_size : T_func_stack_Stack_walk_Target_api_Errno_socageref11_At_int.size = 1 := rfl
@[simp] theorem T_func_stack_Stack_walk_Target_api_Errno_socageref11_At_int_agg : T_func_stack_Stack_walk_Target_api_Errno_socageref11_At_int.agg = false := rfl
@[simp] theorem T_func_stack_Stack_walk_Target_api_Errno_socageref11_At_int_zero : T_func_stack_Stack_walk_Target_api_Errno_socageref11_At_int.zero = [.nilfn] := rfl
@[simp] theorem T_func_stack_Stack_walk_Target_api_Errno_socageref11_At_int_kind : T_func_stack_Stack_walk_Target_api_Errno_socageref11_At_int.kind = .func := rfl
def T_struct_Names_s_string_Nodes_s_api_Node_Err_int : TI := { size := 3, bytes := 56, agg := true, zero := [.vs 1 [] .nil, .vs 7 [] .nil, .int .i64 0], kind := .struct [(0, 23, 1), (1, 22, 1), (2, 3, 1)], id := 64 }
@[simp] theorem T_struct_Names_s_string_Nodes_s_api_Node_Err_int_size : T_struct_Names_s_string_Nodes_s_api_Node_Err_int.size = 3 := rfl
@[simp] theorem T_struct_Names_s_string_Nodes_s_api_Node_Err_int_agg : T_struct_Names_s_string_Nodes_s_api_Node_Err_int.agg = true := rfl
@[simp] theorem T_struct_Names_s_string_Nodes_s_api_Node_Err_int_zero : T_struct_Names_s_string_Nodes_s_api_Node_Err_int.zero = [.vs 1 [] .nil, .vs 7 [] .nil, .int .i64 0] := rfl
@[simp] theorem T_struct_Names_s_string_Nodes_s_api_Node_Err_int_kind : T_struct_Names_s_string_Nodes_s_api_Node_Err_int.kind = .struct [(0, 23, 1), (1, 22, 1), (2, 3, 1)] := rfl
def T_socageref11_At : TI := { size := 3, bytes := 56, agg := true, zero := [.vs 1 [] .nil, .vs 7 [] .nil, .int .i64 0], kind := .struct [(0, 23, 1), (1, 22, 1), (2, 3, 1)], id := 65 }
@[simp] theorem T_socageref11_At_size : T_socageref11_At.size = 3 := rfl
@[simp] theorem T_socageref11_At_agg : T_socageref11_At.agg = true := rfl
@[simp] theorem T_socageref11_At_zero : T_socageref11_At.zero = [.vs 1 [] .nil, .vs 7 [] .nil, .int .i64 0] := rfl
@[simp] theorem T_socageref11_At_kind : T_socageref11_At.kind = .struct [(0, 23, 1), (1, 22, 1), (2, 3, 1)] := rfl
def T_func_s_api_Node_string_bool_socageref11_At : TI := { size := 1, bytes := 8, agg := false, zero := [.nilfn], kind := .func, id := 66 }
@[simp] theorem T_func_s_api_Node_string_bool_socageref11_At_size : T_func_s_api_Node_string_bool_socageref11_At.size = 1 := rfl
@[simp] theorem T_func_s_api_Node_string_bool_socageref11_At_agg : T_func_s_api_Node_string_bool_socageref11_At.agg = false := rfl
@[simp] theorem T_func_s_api_Node_string_bool_socageref11_At_zero : T_func_s_api_Node_string_bool_socageref11_At.zero = [.nilfn] := rfl
@[simp] theorem T_func_s_api_Node_string_bool_socageref11_At_kind : T_func_s_api_Node_string_bool_socageref11_At.kind = .func := rfl
def T_p_walk_Walker : TI := { size := 1, bytes := 8, agg := false, zero := [.nil], kind := .ptr 128, id := 67 }
@[simp] theorem T_p_walk_Walker_size : T_p_walk_Walker.size = 1 := rfl
@[simp] theorem T_p_walk_Walker_agg : T_p_walk_Walker.agg = false := rfl
@[simp] theorem T_p_walk_Walker_zero : T_p_walk_Walker.zero = [.nil] := rfl
@[simp] theorem T_p_walk_Walker_kind : T_p_walk_Walker.kind = .ptr 128 := rfl
def T_func_seen_Place_string_bool_p_walk_Walker_api_Errno : TI := { size := 1, bytes := 8, agg := false, zero := [.nilfn], kind := .func, id := 69 }
@[simp] theorem T_func_seen_Place_string_bool_p_walk_Walker_api_Errno_size : T_func_seen_Place_string_bool_p_walk_Walker_api_Errno.size = 1 := rfl
@[simp] theorem T_func_seen_Place_string_bool_p_walk_Walker_api_Errno_agg : T_func_seen_Place_string_bool_p_walk_Walker_api_Errno.agg = false := rfl
@[simp] theorem T_func_seen_Place_string_bool_p_walk_Walker_api_Errno_zero : T_func_seen_Place_string_bool_p_walk_Walker_api_Errno.zero = [.nilfn] := rfl
@[simp] theorem T_func_seen_Place_string_bool_p_walk_Walker_api_Errno_kind : T_func_seen_Place_string_bool_p_walk_Walker_api_Errno.kind = .func := rfl
def T_func_string_seen_Place_string_bool : TI := { size := 1, bytes := 8, agg := false, zero := [.nilfn], kind := .func, id := 71 }
@[simp] theorem T_func_string_seen_Place_string_bool_size : T_func_string_seen_Place_string_bool.size = 1 := rfl
@[simp] theorem T_func_string_seen_Place_string_bool_agg : T_func_string_seen_Place_string_bool.agg = false := rfl
@[simp] theorem T_func_string_seen_Place_string_bool_zero : T_func_string_seen_Place_string_bool.zero = [.nilfn] := rfl
@[simp] theorem T_func_string_seen_Place_string_bool_kind : T_func_string_seen_Place_string_bool.kind = .func := rfl
def T_func_seen_Found_bool_string_api_Errno : TI := { size := 1, bytes := 8, agg := false, zero := [.nilfn], kind := .func, id := 72 }
@[simp] theorem T_func_seen_Found_bool_string_api_Errno_size : T_func_seen_Found_bool_string_api_Errno.size = 1 := rfl
@[simp] theorem T_func_seen_Found_bool_string_api_Errno_agg : T_func_seen_Found_bool_string_api_Errno.agg = false := rfl
@[simp] theorem T_func_seen_Found_bool_string_api_Errno_zero : T_func_seen_Found_bool_string_api_Errno.zero = [.nilfn] := rfl
@[simp] theorem T_func_seen_Found_bool_string_api_Errno_kind : T_func_seen_Found_bool_string_api_Errno.kind = .func := rfl
def T_func_walk_Target : TI := { size := 1, bytes := 8, agg := false, zero := [.nilfn], kind := .func, id := 73 }
@[simp] theorem T_func_walk_Target_size : T_func_walk_Target.size = 1 := rfl
@[simp] theorem T_func_walk_Target_agg : T_func_walk_Target.agg = false := rfl
@[simp] theorem T_func_walk_Target_zero : T_func_walk_Target.zero = [.nilfn] := rfl
@[simp] theorem T_func_walk_Target_kind : T_func_walk_Target.kind = .func := rfl
def T_func_int : TI := { size := 1, bytes := 8, agg := false, zero := [.nilfn], kind := .func, id := 74 }
@[simp] theorem T_func_int_size : T_func_int.size = 1 := rfl
@[simp] theorem T_func_int_agg : T_func_int.agg = false := rfl
@[simp] theorem T_func_int_zero : T_func_int.zero = [.nilfn] := rfl
@[simp] theorem T_func_int_kind : T_func_int.kind = .func := rfl
def T_func_stack_Stack_seen_Place_string_seen_Found_bool : TI := { size := 1, bytes := 8, agg := false, zero := [.nilfn], kind := .func, id := 76 }
@[simp] theorem T_func_stack_Stack_seen_Place_string_seen_Found_bool_size : T_func_stack_Stack_seen_Place_string_seen_Found_bool.size = 1 := rfl
@[simp] theorem T_func_stack_Stack_seen_Place_string_seen_Found_bool_agg : T_func_stack_Stack_seen_Place_string_seen_Found_bool.agg = false := rfl
@[simp] theorem T_func_stack_Stack_seen_Place_string_seen_Found_bool_zero : T_func_stack_Stack_seen_Place_string_seen_Found_bool.zero = [.nilfn] := rfl
@[simp] theorem T_func_stack_Stack_seen_Place_string_seen_Found_bool_kind : T_func_stack_Stack_seen_Place_string_seen_Found_bool.kind = .func := rfl
def T_func_int_p_branch_Branch : TI := { size := 1, bytes := 8, agg := false, zero := [.nilfn], kind := .func, id := 77 }
@[simp] theorem T_func_int_p_branch_Branch_size : T_func_int_p_branch_Branch.size = 1 := rfl
@[simp] theorem T_func_int_p_branch_Branch_agg : T_func_int_p_branch_Branch.agg = false := rfl
@[simp] theorem T_func_int_p_branch_Branch_zero : T_func_int_p_branch_Branch.zero = [.nilfn] := rfl
@[simp] theorem T_func_int_p_branch_Branch_kind : T_func_int_p_branch_Branch.kind = .func := rfl
def T_func_int_string : TI := { size := 1, bytes := 8, agg := false, zero := [.nilfn], kind := .func, id := 78 }
@[simp] theorem T_func_int_string_size : T_func_int_string.size = 1 := rfl
@[simp] theorem T_func_int_string_agg : T_func_int_string.agg = false := rfl
@[simp] theorem T_func_int_string_zero : T_func_int_string.zero = [.nilfn] := rfl
@[simp] theorem T_func_int_string_kind : T_func_int_string.kind = .func := rfl
def T_s_uint8 : TI := { size := 1, bytes := 24, agg := false, zero := [.vs 1 [] .nil], kind := .slice 5, id := 79 }
@[simp] theorem T_s_uint8_size : T_s_uint8.size = 1 := rfl
@[simp] theorem T_s_uint8_agg : T_s_uint8.agg = false := rfl
@[simp] theorem T_s_uint8_zero : T_s_uint8.zero = [.vs 1 [] .nil] := rfl
@[simp] theorem T_s_uint8_kind : T_s_uint8.kind = .slice 5 := rfl
@[simp] theorem T_s_uint8_id : T_s_uint8.id = t_s_uint8 := rfl
def T_s_merge_Entry : TI := { size := 1, bytes := 24, agg := false, zero := [.vs 2 [] .nil], kind := .slice 82, id := 80 }
@[simp] theorem T_s_merge_Entry_size : T_s_merge_Entry.size = 1 := rfl
@[simp] theorem T_s_merge_Entry_agg : T_s_merge_Entry.agg = false := rfl
@[simp] theorem T_s_merge_Entry_zero : T_s_merge_Entry.zero = [.vs 2 [] .nil] := rfl
@[simp] theorem T_s_merge_Entry_kind : T_s_merge_Entry.kind = .slice 82 := rfl
def T_struct_Name_string_Kind_int : TI := { size := 2, bytes := 24, agg := true, zero := [.str [], .int .i64 0], kind := .struct [(0, 9, 1), (1, 3, 1)], id := 81 }
@[simp] theorem T_struct_Name_string_Kind_int_size : T_struct_Name_string_Kind_int.size = 2 := rfl
@[simp] theorem T_struct_Name_string_Kind_int_agg : T_struct_Name_string_Kind_int.agg = true := rfl
@[simp] theorem T_struct_Name_string_Kind_int_zero : T_struct_Name_string_Kind_int.zero = [.str [], .int .i64 0] := rfl
@[simp] theorem T_struct_Name_string_Kind_int_kind : T_struct_Name_string_Kind_int.kind = .struct [(0, 9, 1), (1, 3, 1)] := rfl
def T_merge_Entry : TI := { size := 2, bytes := 24, agg := true, zero := [.str [], .int .i64 0], kind := .struct [(0, 9, 1), (1, 3, 1)], id := 82 }
@[simp] theorem T_merge_Entry_size : T_merge_Entry.size = 2 := rfl
@[simp] theorem T_merge_Entry_agg : T_merge_Entry.agg = true := rfl
@[simp] theorem T_merge_Entry_zero : T_merge_Entry.zero = [.str [], .int .i64 0] := rfl
@[simp] theorem T_merge_Entry_kind : T_merge_Entry.kind = .struct [(0, 9, 1), (1, 3, 1)] := rfl
def T_func_s_merge_Entry_int_int_s_merge_Entry_bool : TI := { size := 1, bytes := 8, agg := false, zero := [.nilfn], kind := .func, id := 84 }
@[simp] theorem T_func_s_merge_Entry_int_int_s_merge_Entry_bool_size : T_func_s_merge_Entry_int_int_s_merge_Entry_bool.size = 1 := rfl
@[simp] theorem T_func_s_merge_Entry_int_int_s_merge_Entry_bool_agg : T_func_s_merge_Entry_int_int_s_merge_Entry_bool.agg = false := rfl
@[simp] theorem T_func_s_merge_Entry_int_int_s_merge_Entry_bool_zero : T_func_s_merge_Entry_int_int_s_merge_Entry_bool.zero = [.nilfn] := rfl
@[simp] theorem T_func_s_merge_Entry_int_int_s_merge_Entry_bool_kind : T_func_s_merge_Entry_int_int_s_merge_Entry_bool.kind = .func := rfl
def T_func_s_string_s_uint8_bool : TI := { size := 1, bytes := 8, agg := false, zero := [.nilfn], kind := .func, id := 85 }
@[simp] theorem T_func_s_string_s_uint8_bool_size : T_func_s_string_s_uint8_bool.size = 1 := rfl
@[simp] theorem T_func_s_string_s_uint8_bool_agg : T_func_s_string_s_uint8_bool.agg = false := rfl
@[simp] theorem T_func_s_string_s_uint8_bool_zero : T_func_s_string_s_uint8_bool.zero = [.nilfn] := rfl
@[simp] theorem T_func_s_string_s_uint8_bool_kind : T_func_s_string_s_uint8_bool.kind = .func := rfl
def T_func_s_string_int_int_bool : TI := { size := 1, bytes := 8, agg := false, zero := [.nilfn], kind := .func, id := 86 }
@[simp] theorem T_func_s_string_int_int_bool_size : T_func_s_string_int_int_bool.size = 1 := rfl
@[simp] theorem T_func_s_string_int_int_bool_agg : T_func_s_string_int_int_bool.agg = false := rfl
@[simp] theorem T_func_s_string_int_int_bool_zero : T_func_s_string_int_int_bool.zero = [.nilfn] := rfl
@[simp] theorem T_func_s_string_int_int_bool_kind : T_func_s_string_int_int_bool.kind = .func := rfl
def T_func_int_int : TI := { size := 1, bytes := 8, agg := false, zero := [.nilfn], kind := .func, id := 87 }
@[simp] theorem T_func_int_int_size : T_func_int_int.size = 1 := rfl
@[simp] theorem T_func_int_int_agg : T_func_int_int.agg = false := rfl
@[simp] theorem T_func_int_int_zero : T_func_int_int.zero = [.nilfn] := rfl
@[simp] theorem T_func_int_int_kind : T_func_int_int.kind = .func := rfl
def T_func_int_bool : TI := { size := 1, bytes := 8, agg := false, zero := [.nilfn], kind := .func, id := 88 }
@[simp] theorem T_func_int_bool_size : T_func_int_bool.size = 1 := rfl
@[simp] theorem T_func_int_bool_agg : T_func_int_bool.agg = false := rfl
@[simp] theorem T_func_int_bool_zero : T_func_int_bool.zero = [.nilfn] := rfl
@[simp] theorem T_func_int_bool_kind : T_func_int_bool.kind = .func := rfl
def T_func_s_string_s_string_bool : TI := { size := 1, bytes := 8, agg := false, zero := [.nilfn], kind := .func, id := 89 }
@[simp] theorem T_func_s_string_s_string_bool_size : T_func_s_string_s_string_bool.size = 1 := rfl
@[simp] theorem T_func_s_string_s_string_bool_agg : T_func_s_string_s_string_bool.agg = false := rfl
@[simp] theorem T_func_s_string_s_string_bool_zero : T_func_s_string_s_string_bool.zero = [.nilfn] := rfl
@[simp] theorem T_func_s_string_s_string_bool_kind : T_func_s_string_s_string_bool.kind = .func := rfl
def T_func_int_s_string : TI := { size := 1, bytes := 8, agg := false, zero := [.nilfn], kind := .func, id := 90 }
@[simp] theorem T_func_int_s_string_size : T_func_int_s_string.size = 1 := rfl
@[simp] theorem T_func_int_s_string_agg : T_func_int_s_string.agg = false := rfl
@[simp] theorem T_func_int_s_string_zero : T_func_int_s_string.zero = [.nilfn] := rfl
@[simp] theorem T_func_int_s_string_kind : T_func_int_s_string.kind = .func := rfl
def T_func_int_int_int_string : TI := { size := 1, bytes := 8, agg := false, zero := [.nilfn], kind := .func, id := 91 }
@[simp] theorem T_func_int_int_int_string_size : T_func_int_int_int_string.size = 1 := rfl
@[simp] theorem T_func_int_int_int_string_agg : T_func_int_int_int_string.agg = false := rfl
@[simp] theorem T_func_int_int_int_string_zero : T_func_int_int_int_string.zero = [.nilfn] := rfl
@[simp] theorem T_func_int_int_int_string_kind : T_func_int_int_int_string.kind = .func := rfl
def T_func_api_Node_int_bool : TI := { size := 1, bytes := 8, agg := false, zero := [.nilfn], kind := .func, id := 92 }
@[simp] theorem T_func_api_Node_int_bool_size : T_func_api_Node_int_bool.size = 1 := rfl
@[simp] theorem T_func_api_Node_int_bool_agg : T_func_api_Node_int_bool.agg = false := rfl
@[simp] theorem T_func_api_Node_int_bool_zero : T_func_api_Node_int_bool.zero = [.nilfn] := rfl
@[simp] theorem T_func_api_Node_int_bool_kind : T_func_api_Node_int_bool.kind = .func := rfl
def T_func_stack_Stack_seen_Place_s_api_Node_bool : TI := { size := 1, bytes := 8, agg := false, zero := [.nilfn], kind := .func, id := 93 }
@[simp] theorem T_func_stack_Stack_seen_Place_s_api_Node_bool_size : T_func_stack_Stack_seen_Place_s_api_Node_bool.size = 1 := rfl
@[simp] theorem T_func_stack_Stack_seen_Place_s_api_Node_bool_agg : T_func_stack_Stack_seen_Place_s_api_Node_bool.agg = false := rfl
@[simp] theorem T_func_stack_Stack_seen_Place_s_api_Node_bool_zero : T_func_stack_Stack_seen_Place_s_api_Node_bool.zero = [.nilfn] := rfl
@[simp] theorem T_func_stack_Stack_seen_Place_s_api_Node_bool_kind : T_func_stack_Stack_seen_Place_s_api_Node_bool.kind = .func := rfl
def T_func_s_api_Node_bool : TI := { size := 1, bytes := 8, agg := false, zero := [.nilfn], kind := .func, id := 94 }
@[simp] theorem T_func_s_api_Node_bool_size : T_func_s_api_Node_bool.size = 1 := rfl
@[simp] theorem T_func_s_api_Node_bool_agg : T_func_s_api_Node_bool.agg = false := rfl
@[simp] theorem T_func_s_api_Node_bool_zero : T_func_s_api_Node_bool.zero = [.nilfn] := rfl
@[simp] theorem T_func_s_api_Node_bool_kind : T_func_s_api_Node_bool.kind = .func := rfl
def T_func_api_Node_string_bool : TI := { size := 1, bytes := 8, agg := false, zero := [.nilfn], kind := .func, id := 96 }
@[simp] theorem T_func_api_Node_string_bool_size : T_func_api_Node_string_bool.size = 1 := rfl
@[simp] theorem T_func_api_Node_string_bool_agg : T_func_api_Node_string_bool.agg = false := rfl
@[simp] theorem T_func_api_Node_string_bool_zero : T_func_api_Node_string_bool.zero = [.nilfn] := rfl
@[simp] theorem T_func_api_Node_string_bool_kind : T_func_api_Node_string_bool.kind = .func := rfl
def T_func_string_p_branch_Branch_api_Errno : TI := { size := 1, bytes := 8, agg := false, zero := [.nilfn], kind := .func, id := 97 }
@[simp] theorem T_func_string_p_branch_Branch_api_Errno_size : T_func_string_p_branch_Branch_api_Errno.size = 1 := rfl
@[simp] theorem T_func_string_p_branch_Branch_api_Errno_agg : T_func_string_p_branch_Branch_api_Errno.agg = false := rfl
@[simp] theorem T_func_string_p_branch_Branch_api_Errno_zero : T_func_string_p_branch_Branch_api_Errno.zero = [.nilfn] := rfl
@[simp] theorem T_func_string_p_branch_Branch_api_Errno_kind : T_func_string_p_branch_Branch_api_Errno.kind = .func := rfl
def T_func_int_s_api_Extent_int_int_string : TI := { size := 1, bytes := 8, agg := false, zero := [.nilfn], kind := .func, id := 98 }
@[simp] theorem T_func_int_s_api_Extent_int_int_string_size : T_func_int_s_api_Extent_int_int_string.size = 1 := rfl
@[simp] theorem T_func_int_s_api_Extent_int_int_string_agg : T_func_int_s_api_Extent_int_int_string.agg = false := rfl
@[simp] theorem T_func_int_s_api_Extent_int_int_string_zero : T_func_int_s_api_Extent_int_int_string.zero = [.nilfn] := rfl
@[simp] theorem T_func_int_s_api_Extent_int_int_string_kind : T_func_int_s_api_Extent_int_int_string.kind = .func := rfl
def T_func_api_Node_int_int_bool : TI := { size := 1, bytes := 8, agg := false, zero := [.nilfn], kind := .func, id := 99 }
@[simp] theorem T_func_api_Node_int_int_bool_size : T_func_api_Node_int_int_bool.size = 1 := rfl
@[simp] theorem T_func_api_Node_int_int_bool_agg : T_func_api_Node_int_int_bool.agg = false := rfl
@[simp] theorem T_func_api_Node_int_int_bool_zero : T_func_api_Node_int_int_bool.zero = [.nilfn] := rfl
@[simp] theorem T_func_api_Node_int_int_bool_kind : T_func_api_Node_int_int_bool.kind = .func := rfl
def T_func_api_Node_stack_Stack_api_Errno : TI := { size := 1, bytes := 8, agg := false, zero := [.nilfn], kind := .func, id := 101 }
@[simp] theorem T_func_api_Node_stack_Stack_api_Errno_size : T_func_api_Node_stack_Stack_api_Errno.size = 1 := rfl
@[simp] theorem T_func_api_Node_stack_Stack_api_Errno_agg : T_func_api_Node_stack_Stack_api_Errno.agg = false := rfl
@[simp] theorem T_func_api_Node_stack_Stack_api_Errno_zero : T_func_api_Node_stack_Stack_api_Errno.zero = [.nilfn] := rfl
@[simp] theorem T_func_api_Node_stack_Stack_api_Errno_kind : T_func_api_Node_stack_Stack_api_Errno.kind = .func := rfl
def T_func_s_string_api_Node_api_Node : TI := { size := 1, bytes := 8, agg := false, zero := [.nilfn], kind := .func, id := 102 }
@[simp] theorem T_func_s_string_api_Node_api_Node_size : T_func_s_string_api_Node_api_Node.size = 1 := rfl
@[simp] theorem T_func_s_string_api_Node_api_Node_agg : T_func_s_string_api_Node_api_Node.agg = false := rfl
@[simp] theorem T_func_s_string_api_Node_api_Node_zero : T_func_s_string_api_Node_api_Node.zero = [.nilfn] := rfl
@[simp] theorem T_func_s_string_api_Node_api_Node_kind : T_func_s_string_api_Node_api_Node.kind = .func := rfl
def T_func_string_api_Node : TI := { size := 1, bytes := 8, agg := false, zero := [.nilfn], kind := .func, id := 103 }
@[simp] theorem T_func_string_api_Node_size : T_func_string_api_Node.size = 1 := rfl
@[simp] theorem T_func_string_api_Node_agg : T_func_string_api_Node.agg = false := rfl
@[simp] theorem T_func_string_api_Node_zero : T_func_string_api_Node.zero = [.nilfn] := rfl
@[simp] theorem T_func_string_api_Node_kind : T_func_string_api_Node.kind = .func := rfl
def T_func_api_Node : TI := { size := 1, bytes := 8, agg := false, zero := [.nilfn], kind := .func, id := 104 }
@[simp] theorem T_func_api_Node_size : T_func_api_Node.size = 1 := rfl
@[simp] theorem T_func_api_Node_agg : T_func_api_Node.agg = false := rfl
@[simp] theorem T_func_api_Node_zero : T_func_api_Node.zero = [.nilfn] := rfl
@[simp] theorem T_func_api_Node_kind : T_func_api_Node.kind = .func := rfl
def T_func_s_api_Node_string_s_api_Node : TI := { size := 1, bytes := 8, agg := false, zero := [.nilfn], kind := .func, id := 105 }
@[simp] theorem T_func_s_api_Node_string_s_api_Node_size : T_func_s_api_Node_string_s_api_Node.size = 1 := rfl
@[simp] theorem T_func_s_api_Node_string_s_api_Node_agg : T_func_s_api_Node_string_s_api_Node.agg = false := rfl
@[simp] theorem T_func_s_api_Node_string_s_api_Node_zero : T_func_s_api_Node_string_s_api_Node.zero = [.nilfn] := rfl
@[simp] theorem T_func_s_api_Node_string_s_api_Node_kind : T_func_s_api_Node_string_s_api_Node.kind = .func := rfl
def T_func_s_api_Node_string_int : TI := { size := 1, bytes := 8, agg := false, zero := [.nilfn], kind := .func, id := 106 }
@[simp] theorem T_func_s_api_Node_string_int_size : T_func_s_api_Node_string_int.size = 1 := rfl
@[simp] theorem T_func_s_api_Node_string_int_agg : T_func_s_api_Node_string_int.agg = false := rfl
@[simp] theorem T_func_s_api_Node_string_int_zero : T_func_s_api_Node_string_int.zero = [.nilfn] := rfl
@[simp] theorem T_func_s_api_Node_string_int_kind : T_func_s_api_Node_string_int.kind = .func := rfl
def T_func_api_Node_int_p_int_bool : TI := { size := 1, bytes := 8, agg := false, zero := [.nilfn], kind := .func, id := 107 }
@[simp] theorem T_func_api_Node_int_p_int_bool_size : T_func_api_Node_int_p_int_bool.size = 1 := rfl
@[simp] theorem T_func_api_Node_int_p_int_bool_agg : T_func_api_Node_int_p_int_bool.agg = false := rfl
@[simp] theorem T_func_api_Node_int_p_int_bool_zero : T_func_api_Node_int_p_int_bool.zero = [.nilfn] := rfl
@[simp] theorem T_func_api_Node_int_p_int_bool_kind : T_func_api_Node_int_p_int_bool.kind = .func := rfl
def T_p_int : TI := { size := 1, bytes := 8, agg := false, zero := [.nil], kind := .ptr 3, id := 108 }
@[simp] theorem T_p_int_size : T_p_int.size = 1 := rfl
@[simp] theorem T_p_int_agg : T_p_int.agg = false := rfl
@[simp] theorem T_p_int_zero : T_p_int.zero = [.nil] := rfl
@[simp] theorem T_p_int_kind : T_p_int.kind = .ptr 3 := rfl
def T_s_branch_inode : TI := { size := 1, bytes := 24, agg := false, zero := [.vs 8 [] .nil], kind := .slice 114, id := 109 }
@[simp] theorem T_s_branch_inode_size : T_s_branch_inode.size = 1 := rfl
@[simp] theorem T_s_branch_inode_agg : T_s_branch_inode.agg = false := rfl
@[simp] theorem T_s_branch_inode_zero : T_s_branch_inode.zero = [.vs 8 [] .nil] := rfl
@[simp] theorem T_s_branch_inode_kind : T_s_branch_inode.kind = .slice 114 := rfl
def T_struct_table_s_branch_inode : TI := { size := 1, bytes := 24, agg := true, zero := [.vs 8 [] .nil], kind := .struct [(0, 109, 1)], id := 110 }
@[simp] theorem T_struct_table_s_branch_inode_size : T_struct_table_s_branch_inode.size = 1 := rfl
@[simp] theorem T_struct_table_s_branch_inode_agg : T_struct_table_s_branch_inode.agg = true := rfl
@[simp] theorem T_struct_table_s_branch_inode_zero : T_struct_table_s_branch_inode.zero = [.vs 8 [] .nil] := rfl
@[simp] theorem T_struct_table_s_branch_inode_kind : T_struct_table_s_branch_inode.kind = .struct [(0, 109, 1)] := rfl
def T_branch_Branch : TI := { size := 1, bytes := 24, agg := true, zero := [.vs 8 [] .nil], kind := .struct [(0, 109, 1)], id := 111 }
@[simp] theorem T_branch_Branch_size : T_branch_Branch.size = 1 := rfl
@[simp] theorem T_branch_Branch_agg : T_branch_Branch.agg = true := rfl
@[simp] theorem T_branch_Branch_zero : T_branch_Branch.zero = [.vs 8 [] .nil] := rfl
@[simp] theorem T_branch_Branch_kind : T_branch_Branch.kind = .struct [(0, 109, 1)] := rfl
@[simp] theorem T_branch_Branch_id : T_branch_Branch.id = t_branch_Branch := rfl
def T_s_int : TI := { size := 1, bytes := 24, agg := false, zero := [.vs 1 [] .nil], kind := .slice 3, id := 112 }
@[simp] theorem T_s_int_size : T_s_int.size = 1 := rfl
@[simp] theorem T_s_int_agg : T_s_int.agg = false := rfl
@[simp] theorem T_s_int_zero : T_s_int.zero = [.vs 1 [] .nil] := rfl
@[simp] theorem T_s_int_kind : T_s_int.kind = .slice 3 := rfl
def T_struct_api_Node_ids_s_int : TI := { size := 8, bytes := 136, agg := true, zero := [.int .i64 0, .bool false, .vs 1 [] .nil, .vs 7 [] .nil, .int .i64 0, .vs 2 [] .nil, .str [], .vs 1 [] .nil], kind := .struct [(0, 51, 7), (7, 112, 1)], id := 113 }
@[simp] theorem T_struct_api_Node_ids_s_int_size : T_struct_api_Node_ids_s_int.size = 8 := rfl
@[simp] theorem T_struct_api_Node_ids_s_int_agg : T_struct_api_Node_ids_s_int.agg = true := rfl
@[simp] theorem T_struct_api_Node_ids_s_int_zero : T_struct_api_Node_ids_s_int.zero = [.int .i64 0, .bool false, .vs 1 [] .nil, .vs 7 [] .nil, .int .i64 0, .vs 2 [] .nil, .str [], .vs 1 [] .nil] := rfl
@[simp] theorem T_struct_api_Node_ids_s_int_kind : T_struct_api_Node_ids_s_int.kind = .struct [(0, 51, 7), (7, 112, 1)] := rfl
def T_branch_inode : TI := { size := 8, bytes := 136, agg := true, zero := [.int .i64 0, .bool false, .vs 1 [] .nil, .vs 7 [] .nil, .int .i64 0, .vs 2 [] .nil, .str [], .vs 1 [] .nil], kind := .struct [(0, 51, 7), (7, 112, 1)], id := 114 }
@[simp] theorem T_branch_inode_size : T_branch_inode.size = 8 := rfl
@[simp] theorem T_branch_inode_agg : T_branch_inode.agg = true := rfl
@[simp] theorem T_branch_inode_zero : T_branch_inode.zero = [.int .i64 0, .bool false, .vs 1 [] .nil, .vs 7 [] .nil, .int .i64 0, .vs 2 [] .nil, .str [], .vs 1 [] .nil] := rfl
@[simp] theorem T_branch_inode_kind : T_branch_inode.kind = .struct [(0, 51, 7), (7, 112, 1)] := rfl
def T_func_int_branch_inode : TI := { size := 1, bytes := 8, agg := false, zero := [.nilfn], kind := .func, id := 115 }
@[simp] theorem T_func_int_branch_inode_size : T_func_int_branch_inode.size = 1 := rfl
@[simp] theorem T_func_int_branch_inode_agg : T_func_int_branch_inode.agg = false := rfl
@[simp] theorem T_func_int_branch_inode_zero : T_func_int_branch_inode.zero = [.nilfn] := rfl
@[simp] theorem T_func_int_branch_inode_kind : T_func_int_branch_inode.kind = .func := rfl
def T_func_s_string_string_int_bool : TI := { size := 1, bytes := 8, agg := false, zero := [.nilfn], kind := .func, id := 116 }
@[simp] theorem T_func_s_string_string_int_bool_size : T_func_s_string_string_int_bool.size = 1 := rfl
@[simp] theorem T_func_s_string_string_int_bool_agg : T_func_s_string_string_int_bool.agg = false := rfl
@[simp] theorem T_func_s_string_string_int_bool_zero : T_func_s_string_string_int_bool.zero = [.nilfn] := rfl
@[simp] theorem T_func_s_string_string_int_bool_kind : T_func_s_string_string_int_bool.kind = .func := rfl
def T_func_s_string_string : TI := { size := 1, bytes := 8, agg := false, zero := [.nilfn], kind := .func, id := 117 }
@[simp] theorem T_func_s_string_string_size : T_func_s_string_string.size = 1 := rfl
@[simp] theorem T_func_s_string_string_agg : T_func_s_string_string.agg = false := rfl
@[simp] theorem T_func_s_string_string_zero : T_func_s_string_string.zero = [.nilfn] := rfl
@[simp] theorem T_func_s_string_string_kind : T_func_s_string_string.kind = .func := rfl
def T_func_string_s_string_bool : TI := { size := 1, bytes := 8, agg := false, zero := [.nilfn], kind := .func, id := 119 }
@[simp] theorem T_func_string_s_string_bool_size : T_func_string_s_string_bool.size = 1 := rfl
@[simp] theorem T_func_string_s_string_bool_agg : T_func_string_s_string_bool.agg = false := rfl
@[simp] theorem T_func_string_s_string_bool_zero : T_func_string_s_string_bool.zero = [.nilfn] := rfl
@[simp] theorem T_func_string_s_string_bool_kind : T_func_string_s_string_bool.kind = .func := rfl
def T_func_s_api_Node_s_string_s_string_bool_int_socageref11_At : TI := { size := 1, bytes := 8, agg := false, zero := [.nilfn], kind := .func, id := 120 }
@[simp] theorem T_func_s_api_Node_s_string_s_string_bool_int_socageref11_At_size : T_func_s_api_Node_s_string_s_string_bool_int_socageref11_At.size = 1 := rfl
@[simp] theorem T_func_s_api_Node_s_string_s_string_bool_int_socageref11_At_agg : T_func_s_api_Node_s_string_s_string_bool_int_socageref11_At.agg = false := rfl
@[simp] theorem T_func_s_api_Node_s_string_s_string_bool_int_socageref11_At_zero : T_func_s_api_Node_s_string_s_string_bool_int_socageref11_At.zero = [.nilfn] := rfl
@[simp] theorem T_func_s_api_Node_s_string_s_string_bool_int_socageref11_At_kind : T_func_s_api_Node_s_string_s_string_bool_int_socageref11_At.kind = .func := rfl
def T_func_string_s_string_bool_api_Errno : TI := { size := 1, bytes := 8, agg := false, zero := [.nilfn], kind := .func, id := 122 }
@[simp] theorem T_func_string_s_string_bool_api_Errno_size : T_func_string_s_string_bool_api_Errno.size = 1 := rfl
@[simp] theorem T_func_string_s_string_bool_api_Errno_agg : T_func_string_s_string_bool_api_Errno.agg = false := rfl
@[simp] theorem T_func_string_s_string_bool_api_Errno_zero : T_func_string_s_string_bool_api_Errno.zero = [.nilfn] := rfl
@[simp] theorem T_func_string_s_string_bool_api_Errno_kind : T_func_string_s_string_bool_api_Errno.kind = .func := rfl
def T_struct_path_string_seen_Place : TI := { size := 2, bytes := 40, agg := true, zero := [.str [], .vs 2 [] .nil], kind := .struct [(0, 9, 1), (1, 33, 1)], id := 123 }
@[simp] theorem T_struct_path_string_seen_Place_size : T_struct_path_string_seen_Place.size = 2 := rfl
@[simp] theorem T_struct_path_string_seen_Place_agg : T_struct_path_string_seen_Place.agg = true := rfl
@[simp] theorem T_struct_path_string_seen_Place_zero : T_struct_path_string_seen_Place.zero = [.str [], .vs 2 [] .nil] := rfl
@[simp] theorem T_struct_path_string_seen_Place_kind : T_struct_path_string_seen_Place.kind = .struct [(0, 9, 1), (1, 33, 1)] := rfl
def T_walk_dir : TI := { size := 2, bytes := 40, agg := true, zero := [.str [], .vs 2 [] .nil], kind := .struct [(0, 9, 1), (1, 33, 1)], id := 124 }
@[simp] theorem T_walk_dir_size : T_walk_dir.size = 2 := rfl
@[simp] theorem T_walk_dir_agg : T_walk_dir.agg = true := rfl
@[simp] theorem T_walk_dir_zero : T_walk_dir.zero = [.str [], .vs 2 [] .nil] := rfl
@[simp] theorem T_walk_dir_kind : T_walk_dir.kind = .struct [(0, 9, 1), (1, 33, 1)] := rfl
def T_s_walk_dir : TI := { size := 1, bytes := 24, agg := false, zero := [.vs 2 [] .nil], kind := .slice 124, id := 125 }
@[simp] theorem T_s_walk_dir_size : T_s_walk_dir.size = 1 := rfl
@[simp] theorem T_s_walk_dir_agg : T_s_walk_dir.agg = false := rfl
@[simp] theorem T_s_walk_dir_zero : T_s_walk_dir.zero = [.vs 2 [] .nil] := rfl
@[simp] theorem T_s_walk_dir_kind : T_s_walk_dir.kind = .slice 124 := rfl
def T_p_walk_Target : TI := { size := 1, bytes := 8, agg := false, zero := [.nil], kind := .ptr 44, id := 126 }
@[simp] theorem T_p_walk_Target_size : T_p_walk_Target.size = 1 := rfl
@[simp] theorem T_p_walk_Target_agg : T_p_walk_Target.agg = false := rfl
@[simp] theorem T_p_walk_Target_zero : T_p_walk_Target.zero = [.nil] := rfl
@[simp] theorem T_p_walk_Target_kind : T_p_walk_Target.kind = .ptr 44 := rfl
def T_struct_todo_s_string_dirs_s_walk_dir_follow_bool_b4679ffd : TI := { size := 5, bytes := 72, agg := true, zero := [.vs 1 [] .nil, .vs 2 [] .nil, .bool false, .int .i64 0, .nil], kind := .struct [(0, 23, 1), (1, 125, 1), (2, 4, 1), (3, 3, 1), (4, 126, 1)], id := 127 }
@[simp] theorem T_struct_todo_s_string_dirs_s_walk_dir_follow_bool_b4679ffd_size : T_struct_todo_s_string_dirs_s_walk_dir_follow_bool_b4679ffd.size = 5 := rfl
@[simp] theorem T_struct_todo_s_string_dirs_s_walk_dir_follow_bool_b4679ffd_agg : T_struct_todo_s_string_dirs_s_walk_dir_follow_bool_b4679ffd.agg = true := rfl
@[simp] theorem T_struct_todo_s_string_dirs_s_walk_dir_follow_bool_b4679ffd_zero : T_struct_todo_s_string_dirs_s_walk_dir_follow_bool_b4679ffd.zero = [.vs 1 [] .nil, .vs 2 [] .nil, .bool false, .int .i64 0, .nil] := rfl
@[simp] theorem T_struct_todo_s_string_dirs_s_walk_dir_follow_bool_b4679ffd_kind : T_struct_todo_s_string_dirs_s_walk_dir_follow_bool_b4679ffd.kind = .struct [(0, 23, 1), (1, 125, 1), (2, 4, 1), (3, 3, 1), (4, 126, 1)] := rfl
def T_walk_Walker : TI := { size := 5, bytes := 72, agg := true, zero := [.vs 1 [] .nil, .vs 2 [] .nil, .bool false, .int .i64 0, .nil], kind := .struct [(0, 23, 1), (1, 125, 1), (2, 4, 1), (3, 3, 1), (4, 126, 1)], id := 128 }
@[simp] theorem T_walk_Walker_size : T_walk_Walker.size = 5 := rfl
@[simp] theorem T_walk_Walker_agg : T_walk_Walker.agg = true := rfl
@[simp] theorem T_walk_Walker_zero : T_walk_Walker.zero = [.vs 1 [] .nil, .vs 2 [] .nil, .bool false, .int .i64 0, .nil] := rfl
@[simp] theorem T_walk_Walker_kind : T_walk_Walker.kind = .struct [(0, 23, 1), (1, 125, 1), (2, 4, 1), (3, 3, 1), (4, 126, 1)] := rfl
def T_func_walk_dir : TI := { size := 1, bytes := 8, agg := false, zero := [.nilfn], kind := .func, id := 129 }
@[simp] theorem T_func_walk_dir_size : T_func_walk_dir.size = 1 := rfl
@[simp] theorem T_func_walk_dir_agg : T_func_walk_dir.agg = false := rfl
@[simp] theorem T_func_walk_dir_zero : T_func_walk_dir.zero = [.nilfn] := rfl
@[simp] theorem T_func_walk_dir_kind : T_func_walk_dir.kind = .func := rfl
def T_func_string_api_Errno : TI := { size := 1, bytes := 8, agg := false, zero := [.nilfn], kind := .func, id := 130 }
@[simp] theorem T_func_string_api_Errno_size : T_func_string_api_Errno.size = 1 := rfl
@[simp] theorem T_func_string_api_Errno_agg : T_func_string_api_Errno.agg = false := rfl
@[simp] theorem T_func_string_api_Errno_zero : T_func_string_api_Errno.zero = [.nilfn] := rfl
@[simp] theorem T_func_string_api_Errno_kind : T_func_string_api_Errno.kind = .func := rfl
def T_func_string_string_string : TI := { size := 1, bytes := 8, agg := false, zero := [.nilfn], kind := .func, id := 131 }
@[simp] theorem T_func_string_string_string_size : T_func_string_string_string.size = 1 := rfl
@[simp] theorem T_func_string_string_string_agg : T_func_string_string_string.agg = false := rfl
@[simp] theorem T_func_string_string_string_zero : T_func_string_string_string.zero = [.nilfn] := rfl
@[simp] theorem T_func_string_string_string_kind : T_func_string_string_string.kind = .func := rfl
def T_struct_id_int_p_branch_Branch : TI := { size := 2, bytes := 16, agg := true, zero := [.int .i64 0, .nil], kind := .struct [(0, 3, 1), (1, 54, 1)], id := 132 }
@[simp] theorem T_struct_id_int_p_branch_Branch_size : T_struct_id_int_p_branch_Branch.size = 2 := rfl
@[simp] theorem T_struct_id_int_p_branch_Branch_agg : T_struct_id_int_p_branch_Branch.agg = true := rfl
@[simp] theorem T_struct_id_int_p_branch_Branch_zero : T_struct_id_int_p_branch_Branch.zero = [.int .i64 0, .nil] := rfl
@[simp] theorem T_struct_id_int_p_branch_Branch_kind : T_struct_id_int_p_branch_Branch.kind = .struct [(0, 3, 1), (1, 54, 1)] := rfl
def T_stack_mount : TI := { size := 2, bytes := 16, agg := true, zero := [.int .i64 0, .nil], kind := .struct [(0, 3, 1), (1, 54, 1)], id := 133 }
@[simp] theorem T_stack_mount_size : T_stack_mount.size = 2 := rfl
@[simp] theorem T_stack_mount_agg : T_stack_mount.agg = true := rfl
@[simp] theorem T_stack_mount_zero : T_stack_mount.zero = [.int .i64 0, .nil] := rfl
@[simp] theorem T_stack_mount_kind : T_stack_mount.kind = .struct [(0, 3, 1), (1, 54, 1)] := rfl
def T_func_stack_Stack_seen_Place_s_merge_Entry : TI := { size := 1, bytes := 8, agg := false, zero := [.nilfn], kind := .func, id := 134 }
@[simp] theorem T_func_stack_Stack_seen_Place_s_merge_Entry_size : T_func_stack_Stack_seen_Place_s_merge_Entry.size = 1 := rfl
@[simp] theorem T_func_stack_Stack_seen_Place_s_merge_Entry_agg : T_func_stack_Stack_seen_Place_s_merge_Entry.agg = false := rfl
@[simp] theorem T_func_stack_Stack_seen_Place_s_merge_Entry_zero : T_func_stack_Stack_seen_Place_s_merge_Entry.zero = [.nilfn] := rfl
@[simp] theorem T_func_stack_Stack_seen_Place_s_merge_Entry_kind : T_func_stack_Stack_seen_Place_s_merge_Entry.kind = .func := rfl
def T_func_s_merge_Entry_s_string : TI := { size := 1, bytes := 8, agg := false, zero := [.nilfn], kind := .func, id := 135 }
@[simp] theorem T_func_s_merge_Entry_s_string_size : T_func_s_merge_Entry_s_string.size = 1 := rfl
@[simp] theorem T_func_s_merge_Entry_s_string_agg : T_func_s_merge_Entry_s_string.agg = false := rfl
@[simp] theorem T_func_s_merge_Entry_s_string_zero : T_func_s_merge_Entry_s_string.zero = [.nilfn] := rfl
@[simp] theorem T_func_s_merge_Entry_s_string_kind : T_func_s_merge_Entry_s_string.kind = .func := rfl
def T_func_s_string_s_string : TI := { size := 1, bytes := 8, agg := false, zero := [.nilfn], kind := .func, id := 136 }
@[simp] theorem T_func_s_string_s_string_size : T_func_s_string_s_string.size = 1 := rfl
@[simp] theorem T_func_s_string_s_string_agg : T_func_s_string_s_string.agg = false := rfl
@[simp] theorem T_func_s_string_s_string_zero : T_func_s_string_s_string.zero = [.nilfn] := rfl
@[simp] theorem T_func_s_string_s_string_kind : T_func_s_string_s_string.kind = .func := rfl
def T_func_s_merge_Entry_s_socageref10_Entry_bool : TI := { size := 1, bytes := 8, agg := false, zero := [.nilfn], kind := .func, id := 137 }
@[simp] theorem T_func_s_merge_Entry_s_socageref10_Entry_bool_size : T_func_s_merge_Entry_s_socageref10_Entry_bool.size = 1 := rfl
@[simp] theorem T_func_s_merge_Entry_s_socageref10_Entry_bool_agg : T_func_s_merge_Entry_s_socageref10_Entry_bool.agg = false := rfl
@[simp] theorem T_func_s_merge_Entry_s_socageref10_Entry_bool_zero : T_func_s_merge_Entry_s_socageref10_Entry_bool.zero = [.nilfn] := rfl
@[simp] theorem T_func_s_merge_Entry_s_socageref10_Entry_bool_kind : T_func_s_merge_Entry_s_socageref10_Entry_bool.kind = .func := rfl
def T_s_socageref10_Entry : TI := { size := 1, bytes := 24, agg := false, zero := [.vs 2 [] .nil], kind := .slice 170, id := 138 }
@[simp] theorem T_s_socageref10_Entry_size : T_s_socageref10_Entry.size = 1 := rfl
@[simp] theorem T_s_socageref10_Entry_agg : T_s_socageref10_Entry.agg = false := rfl
@[simp] theorem T_s_socageref10_Entry_zero : T_s_socageref10_Entry.zero = [.vs 2 [] .nil] := rfl
@[simp] theorem T_s_socageref10_Entry_kind : T_s_socageref10_Entry.kind = .slice 170 := rfl
def T_func_s_api_Node_s_socageref10_Entry : TI := { size := 1, bytes := 8, agg := false, zero := [.nilfn], kind := .func, id := 139 }
@[simp] theorem T_func_s_api_Node_s_socageref10_Entry_size : T_func_s_api_Node_s_socageref10_Entry.size = 1 := rfl
@[simp] theorem T_func_s_api_Node_s_socageref10_Entry_agg : T_func_s_api_Node_s_socageref10_Entry.agg = false := rfl
@[simp] theorem T_func_s_api_Node_s_socageref10_Entry_zero : T_func_s_api_Node_s_socageref10_Entry.zero = [.nilfn] := rfl
@[simp] theorem T_func_s_api_Node_s_socageref10_Entry_kind : T_func_s_api_Node_s_socageref10_Entry.kind = .func := rfl
def T_func_api_Node_string : TI := { size := 1, bytes := 8, agg := false, zero := [.nilfn], kind := .func, id := 140 }
@[simp] theorem T_func_api_Node_string_size : T_func_api_Node_string.size = 1 := rfl
@[simp] theorem T_func_api_Node_string_agg : T_func_api_Node_string.agg = false := rfl
@[simp] theorem T_func_api_Node_string_zero : T_func_api_Node_string.zero = [.nilfn] := rfl
@[simp] theorem T_func_api_Node_string_kind : T_func_api_Node_string.kind = .func := rfl
def T_func_string_api_Node_api_Errno : TI := { size := 1, bytes := 8, agg := false, zero := [.nilfn], kind := .func, id := 142 }
@[simp] theorem T_func_string_api_Node_api_Errno_size : T_func_string_api_Node_api_Errno.size = 1 := rfl
@[simp] theorem T_func_string_api_Node_api_Errno_agg : T_func_string_api_Node_api_Errno.agg = false := rfl
@[simp] theorem T_func_string_api_Node_api_Errno_zero : T_func_string_api_Node_api_Errno.zero = [.nilfn] := rfl
@[simp] theorem T_func_string_api_Node_api_Errno_kind : T_func_string_api_Node_api_Errno.kind = .func := rfl
def T_func_s_api_Extent_int_uint8 : TI := { size := 1, bytes := 8, agg := false, zero := [.nilfn], kind := .func, id := 143 }
@[simp] theorem T_func_s_api_Extent_int_uint8_size : T_func_s_api_Extent_int_uint8.size = 1 := rfl
@[simp] theorem T_func_s_api_Extent_int_uint8_agg : T_func_s_api_Extent_int_uint8.agg = false := rfl
@[simp] theorem T_func_s_api_Extent_int_uint8_zero : T_func_s_api_Extent_int_uint8.zero = [.nilfn] := rfl
@[simp] theorem T_func_s_api_Extent_int_uint8_kind : T_func_s_api_Extent_int_uint8.kind = .func := rfl
def T_func_p_branch_Branch_stack_Stack_int_api_Errno : TI := { size := 1, bytes := 8, agg := false, zero := [.nilfn], kind := .func, id := 145 }
@[simp] theorem T_func_p_branch_Branch_stack_Stack_int_api_Errno_size : T_func_p_branch_Branch_stack_Stack_int_api_Errno.size = 1 := rfl
@[simp] theorem T_func_p_branch_Branch_stack_Stack_int_api_Errno_agg : T_func_p_branch_Branch_stack_Stack_int_api_Errno.agg = false := rfl
@[simp] theorem T_func_p_branch_Branch_stack_Stack_int_api_Errno_zero : T_func_p_branch_Branch_stack_Stack_int_api_Errno.zero = [.nilfn] := rfl
@[simp] theorem T_func_p_branch_Branch_stack_Stack_int_api_Errno_kind : T_func_p_branch_Branch_stack_Stack_int_api_Errno.kind = .func := rfl
def T_func_string_s_api_Extent : TI := { size := 1, bytes := 8, agg := false, zero := [.nilfn], kind := .func, id := 146 }
@[simp] theorem T_func_string_s_api_Extent_size : T_func_string_s_api_Extent.size = 1 := rfl
@[simp] theorem T_func_string_s_api_Extent_agg : T_func_string_s_api_Extent.agg = false := rfl
@[simp] theorem T_func_string_s_api_Extent_zero : T_func_string_s_api_Extent.zero = [.nilfn] := rfl
@[simp] theorem T_func_string_s_api_Extent_kind : T_func_string_s_api_Extent.kind = .func := rfl
def T_struct_Off_int_Data_string : TI := { size := 2, bytes := 24, agg := true, zero := [.int .i64 0, .str []], kind := .struct [(0, 3, 1), (1, 9, 1)], id := 147 }
@[simp] theorem T_struct_Off_int_Data_string_size : T_struct_Off_int_Data_string.size = 2 := rfl
@[simp] theorem T_struct_Off_int_Data_string_agg : T_struct_Off_int_Data_string.agg = true := rfl
@[simp] theorem T_struct_Off_int_Data_string_zero : T_struct_Off_int_Data_string.zero = [.int .i64 0, .str []] := rfl
@[simp] theorem T_struct_Off_int_Data_string_kind : T_struct_Off_int_Data_string.kind = .struct [(0, 3, 1), (1, 9, 1)] := rfl
def T_api_Extent : TI := { size := 2, bytes := 24, agg := true, zero := [.int .i64 0, .str []], kind := .struct [(0, 3, 1), (1, 9, 1)], id := 148 }
@[simp] theorem T_api_Extent_size : T_api_Extent.size = 2 := rfl
@[simp] theorem T_api_Extent_agg : T_api_Extent.agg = true := rfl
@[simp] theorem T_api_Extent_zero : T_api_Extent.zero = [.int .i64 0, .str []] := rfl
@[simp] theorem T_api_Extent_kind : T_api_Extent.kind = .struct [(0, 3, 1), (1, 9, 1)] := rfl
@[simp] theorem T_api_Extent_id : T_api_Extent.id = t_api_Extent := rfl
def T_func_s_api_Extent_s_api_Extent : TI := { size := 1, bytes := 8, agg := false, zero := [.nilfn], kind := .func, id := 149 }
@[simp] theorem T_func_s_api_Extent_s_api_Extent_size : T_func_s_api_Extent_s_api_Extent.size = 1 := rfl
@[simp] theorem T_func_s_api_Extent_s_api_Extent_agg : T_func_s_api_Extent_s_api_Extent.agg = false := rfl
@[simp] theorem T_func_s_api_Extent_s_api_Extent_zero : T_func_s_api_Extent_s_api_Extent.zero = [.nilfn] := rfl
@[simp] theorem T_func_s_api_Extent_s_api_Extent_kind : T_func_s_api_Extent_s_api_Extent.kind = .func := rfl
def T_uint : TI := { size := 1, bytes := 8, agg := false, zero := [.int .u64 0], kind := .int .u64, id := 150 }
@[simp] theorem T_uint_size : T_uint.size = 1 := rfl
@[simp] theorem T_uint_agg : T_uint.agg = false := rfl
@[simp] theorem T_uint_zero : T_uint.zero = [.int .u64 0] := rfl
@[simp] theorem T_uint_kind : T_uint.kind = .int .u64 := rfl
def T_func_string_string_bool : TI := { size := 1, bytes := 8, agg := false, zero := [.nilfn], kind := .func, id := 151 }
@[simp] theorem T_func_string_string_bool_size : T_func_string_string_bool.size = 1 := rfl
@[simp] theorem T_func_string_string_bool_agg : T_func_string_string_bool.agg = false := rfl
@[simp] theorem T_func_string_string_bool_zero : T_func_string_string_bool.zero = [.nilfn] := rfl
@[simp] theorem T_func_string_string_bool_kind : T_func_string_string_bool.kind = .func := rfl
def T_func_string_bool : TI := { size := 1, bytes := 8, agg := false, zero := [.nilfn], kind := .func, id := 152 }
@[simp] theorem T_func_string_bool_size : T_func_string_bool.size = 1 := rfl
@[simp] theorem T_func_string_bool_agg : T_func_string_bool.agg = false := rfl
@[simp] theorem T_func_string_bool_zero : T_func_string_bool.zero = [.nilfn] := rfl
@[simp] theorem T_func_string_bool_kind : T_func_string_bool.kind = .func := rfl
def T_func_s_api_Node_s_string_s_api_Node : TI := { size := 1, bytes := 8, agg := false, zero := [.nilfn], kind := .func, id := 153 }
@[simp] theorem T_func_s_api_Node_s_string_s_api_Node_size : T_func_s_api_Node_s_string_s_api_Node.size = 1 := rfl
@[simp] theorem T_func_s_api_Node_s_string_s_api_Node_agg : T_func_s_api_Node_s_string_s_api_Node.agg = false := rfl
@[simp] theorem T_func_s_api_Node_s_string_s_api_Node_zero : T_func_s_api_Node_s_string_s_api_Node.zero = [.nilfn] := rfl
@[simp] theorem T_func_s_api_Node_s_string_s_api_Node_kind : T_func_s_api_Node_s_string_s_api_Node.kind = .func := rfl
def T_func_string_string_s_string : TI := { size := 1, bytes := 8, agg := false, zero := [.nilfn], kind := .func, id := 154 }
@[simp] theorem T_func_string_string_s_string_size : T_func_string_string_s_string.size = 1 := rfl
@[simp] theorem T_func_string_string_s_string_agg : T_func_string_string_s_string.agg = false := rfl
@[simp] theorem T_func_string_string_s_string_zero : T_func_string_string_s_string.zero = [.nilfn] := rfl
@[simp] theorem T_func_string_string_s_string_kind : T_func_string_string_s_string.kind = .func := rfl
def T_s_s_string : TI := { size := 1, bytes := 24, agg := false, zero := [.vs 1 [] .nil], kind := .slice 23, id := 155 }
@[simp] theorem T_s_s_string_size : T_s_s_string.size = 1 := rfl
@[simp] theorem T_s_s_string_agg : T_s_s_string.agg = false := rfl
@[simp] theorem T_s_s_string_zero : T_s_s_string.zero = [.vs 1 [] .nil] := rfl
@[simp] theorem T_s_s_string_kind : T_s_s_string.kind = .slice 23 := rfl
def T_s_heap_Item : TI := { size := 1, bytes := 24, agg := false, zero := [.vs 2 [] .nil], kind := .slice 160, id := 156 }
@[simp] theorem T_s_heap_Item_size : T_s_heap_Item.size = 1 := rfl
@[simp] theorem T_s_heap_Item_agg : T_s_heap_Item.agg = false := rfl
@[simp] theorem T_s_heap_Item_zero : T_s_heap_Item.zero = [.vs 2 [] .nil] := rfl
@[simp] theorem T_s_heap_Item_kind : T_s_heap_Item.kind = .slice 160 := rfl
def T_func_s_heap_Item_s_heap_Item : TI := { size := 1, bytes := 8, agg := false, zero := [.nilfn], kind := .func, id := 157 }
@[simp] theorem T_func_s_heap_Item_s_heap_Item_size : T_func_s_heap_Item_s_heap_Item.size = 1 := rfl
@[simp] theorem T_func_s_heap_Item_s_heap_Item_agg : T_func_s_heap_Item_s_heap_Item.agg = false := rfl
@[simp] theorem T_func_s_heap_Item_s_heap_Item_zero : T_func_s_heap_Item_s_heap_Item.zero = [.nilfn] := rfl
@[simp] theorem T_func_s_heap_Item_s_heap_Item_kind : T_func_s_heap_Item_s_heap_Item.kind = .func := rfl
def T_func_s_string_s_heap_Item : TI := { size := 1, bytes := 8, agg := false, zero := [.nilfn], kind := .func, id := 158 }
@[simp] theorem T_func_s_string_s_heap_Item_size : T_func_s_string_s_heap_Item.size = 1 := rfl
@[simp] theorem T_func_s_string_s_heap_Item_agg : T_func_s_string_s_heap_Item.agg = false := rfl
@[simp] theorem T_func_s_string_s_heap_Item_zero : T_func_s_string_s_heap_Item.zero = [.nilfn] := rfl
@[simp] theorem T_func_s_string_s_heap_Item_kind : T_func_s_string_s_heap_Item.kind = .func := rfl
def T_struct_Name_string_Row_int : TI := { size := 2, bytes := 24, agg := true, zero := [.str [], .int .i64 0], kind := .struct [(0, 9, 1), (1, 3, 1)], id := 159 }
@[simp] theorem T_struct_Name_string_Row_int_size : T_struct_Name_string_Row_int.size = 2 := rfl
@[simp] theorem T_struct_Name_string_Row_int_agg : T_struct_Name_string_Row_int.agg = true := rfl
@[simp] theorem T_struct_Name_string_Row_int_zero : T_struct_Name_string_Row_int.zero = [.str [], .int .i64 0] := rfl
@[simp] theorem T_struct_Name_string_Row_int_kind : T_struct_Name_string_Row_int.kind = .struct [(0, 9, 1), (1, 3, 1)] := rfl
def T_heap_Item : TI := { size := 2, bytes := 24, agg := true, zero := [.str [], .int .i64 0], kind := .struct [(0, 9, 1), (1, 3, 1)], id := 160 }
@[simp] theorem T_heap_Item_size : T_heap_Item.size = 2 := rfl
@[simp] theorem T_heap_Item_agg : T_heap_Item.agg = true := rfl
@[simp] theorem T_heap_Item_zero : T_heap_Item.zero = [.str [], .int .i64 0] := rfl
@[simp] theorem T_heap_Item_kind : T_heap_Item.kind = .struct [(0, 9, 1), (1, 3, 1)] := rfl
@[simp] theorem T_heap_Item_id : T_heap_Item.id = t_heap_Item := rfl
def T_p_strings_Builder : TI := { size := 1, bytes := 8, agg := false, zero := [.nil], kind := .ptr 163, id := 161 }
@[simp] theorem T_p_strings_Builder_size : T_p_strings_Builder.size = 1 := rfl
@[simp] theorem T_p_strings_Builder_agg : T_p_strings_Builder.agg = false := rfl
@[simp] theorem T_p_strings_Builder_zero : T_p_strings_Builder.zero = [.nil] := rfl
@[simp] theorem T_p_strings_Builder_kind : T_p_strings_Builder.kind = .ptr 163 := rfl
def T_struct_addr_p_strings_Builder_buf_s_uint8 : TI := { size := 2, bytes := 32, agg := true, zero := [.nil, .vs 1 [] .nil], kind := .struct [(0, 161, 1), (1, 79, 1)], id := 162 }
@[simp] theorem T_struct_addr_p_strings_Builder_buf_s_uint8_size : T_struct_addr_p_strings_Builder_buf_s_uint8.size = 2 := rfl
@[simp] theorem T_struct_addr_p_strings_Builder_buf_s_uint8_agg : T_struct_addr_p_strings_Builder_buf_s_uint8.agg = true := rfl
@[simp] theorem T_struct_addr_p_strings_Builder_buf_s_uint8_zero : T_struct_addr_p_strings_Builder_buf_s_uint8.zero = [.nil, .vs 1 [] .nil] := rfl
@[simp] theorem T_struct_addr_p_strings_Builder_buf_s_uint8_kind : T_struct_addr_p_strings_Builder_buf_s_uint8.kind = .struct [(0, 161, 1), (1, 79, 1)] := rfl
def T_strings_Builder : TI := { size := 2, bytes := 32, agg := true, zero := [.nil, .vs 1 [] .nil], kind := .struct [(0, 161, 1), (1, 79, 1)], id := 163 }
@[simp] theorem T_strings_Builder_size : T_strings_Builder.size = 2 := rfl
@[simp] theorem T_strings_Builder_agg : T_strings_Builder.agg = true := rfl
@[simp] theorem T_strings_Builder_zero : T_strings_Builder.zero = [.nil, .vs 1 [] .nil] := rfl
@[simp] theorem T_strings_Builder_kind : T_strings_Builder.kind = .struct [(0, 161, 1), (1, 79, 1)] := rfl
def T_interface_Error_string : TI := { size := 1, bytes := 16, agg := false, zero := [.nilifc], kind := .iface, id := 164 }
@[simp] theorem T_interface_Error_string_size : T_interface_Error_string.size = 1 := rfl
@[simp] theorem T_interface_Error_string_agg : T_interface_Error_string.agg = false := rfl
@[simp] theorem T_interface_Error_string_zero : T_interface_Error_string.zero = [.nilifc] := rfl
@[simp] theorem T_interface_Error_string_kind : T_interface_Error_string.kind = .iface := rfl
def T_error : TI := { size := 1, bytes := 16, agg := false, zero := [.nilifc], kind := .iface, id := 165 }
@[simp] theorem T_error_size : T_error.size = 1 := rfl
@[simp] theorem T_error_agg : T_error.agg = false := rfl
@[simp] theorem T_error_zero : T_error.zero = [.nilifc] := rfl
@[simp] theorem T_error_kind : T_error.kind = .iface := rfl
def T_func_string_int_error : TI := { size := 1, bytes := 8, agg := false, zero := [.nilfn], kind := .func, id := 167 }
@[simp] theorem T_func_string_int_error_size : T_func_string_int_error.size = 1 := rfl
@[simp] theorem T_func_string_int_error_agg : T_func_string_int_error.agg = false := rfl
@[simp] theorem T_func_string_int_error_zero : T_func_string_int_error.zero = [.nilfn] := rfl
@[simp] theorem T_func_string_int_error_kind : T_func_string_int_error.kind = .func := rfl
def T_func_string_int_string : TI := { size := 1, bytes := 8, agg := false, zero := [.nilfn], kind := .func, id := 168 }
@[simp] theorem T_func_string_int_string_size : T_func_string_int_string.size = 1 := rfl
@[simp] theorem T_func_string_int_string_agg : T_func_string_int_string.agg = false := rfl
@[simp] theorem T_func_string_int_string_zero : T_func_string_int_string.zero = [.nilfn] := rfl
@[simp] theorem T_func_string_int_string_kind : T_func_string_int_string.kind = .func := rfl
def T_func_string : TI := { size := 1, bytes := 8, agg := false, zero := [.nilfn], kind := .func, id := 169 }
@[simp] theorem T_func_string_size : T_func_string.size = 1 := rfl
@[simp] theorem T_func_string_agg : T_func_string.agg = false := rfl
@[simp] theorem T_func_string_zero : T_func_string.zero = [.nilfn] := rfl
@[simp] theorem T_func_string_kind : T_func_string.kind = .func := rfl
def T_socageref10_Entry : TI := { size := 2, bytes := 24, agg := true, zero := [.str [], .int .i64 0], kind := .struct [(0, 9, 1), (1, 3, 1)], id := 170 }
@[simp] theorem T_socageref10_Entry_size : T_socageref10_Entry.size = 2 := rfl
@[simp] theorem T_socageref10_Entry_agg : T_socageref10_Entry.agg = true := rfl
@[simp] theorem T_socageref10_Entry_zero : T_socageref10_Entry.zero = [.str [], .int .i64 0] := rfl
@[simp] theorem T_socageref10_Entry_kind : T_socageref10_Entry.kind = .struct [(0, 9, 1), (1, 3, 1)] := rfl
def T_func_s_string_string_s_string : TI := { size := 1, bytes := 8, agg := false, zero := [.nilfn], kind := .func, id := 171 }
@[simp] theorem T_func_s_string_string_s_string_size : T_func_s_string_string_s_string.size = 1 := rfl
@[simp] theorem T_func_s_string_string_s_string_agg : T_func_s_string_string_s_string.agg = false := rfl
@[simp] theorem T_func_s_string_string_s_string_zero : T_func_s_string_string_s_string.zero = [.nilfn] := rfl
@[simp] theorem T_func_s_string_string_s_string_kind : T_func_s_string_string_s_string.kind = .func := rfl
def T_func_string_int_int_string : TI := { size := 1, bytes := 8, agg := false, zero := [.nilfn], kind := .func, id := 172 }
@[simp] theorem T_func_string_int_int_string_size : T_func_string_int_int_string.size = 1 := rfl
@[simp] theorem T_func_string_int_int_string_agg : T_func_string_int_int_string.agg = false := rfl
@[simp] theorem T_func_string_int_int_string_zero : T_func_string_int_int_string.zero = [.nilfn] := rfl
@[simp] theorem T_func_string_int_int_string_kind : T_func_string_int_int_string.kind = .func := rfl
def T_func_string_string_int_string : TI := { size := 1, bytes := 8, agg := false, zero := [.nilfn], kind := .func, id := 173 }
@[simp] theorem T_func_string_string_int_string_size : T_func_string_string_int_string.size = 1 := rfl
@[simp] theorem T_func_string_string_int_string_agg : T_func_string_string_int_string.agg = false := rfl
@[simp] theorem T_func_string_string_int_string_zero : T_func_string_string_int_string.zero = [.nilfn] := rfl
@[simp] theorem T_func_string_string_int_string_kind : T_func_string_string_int_string.kind = .func := rfl
def T_p_image_reader : TI := { size := 1, bytes := 8, agg := false, zero := [.nil], kind := .ptr 178, id := 174 }
@[simp] theorem T_p_image_reader_size : T_p_image_reader.size = 1 := rfl
@[simp] theorem T_p_image_reader_agg : T_p_image_reader.agg = false := rfl
@[simp] theorem T_p_image_reader_zero : T_p_image_reader.zero = [.nil] := rfl
@[simp] theorem T_p_image_reader_kind : T_p_image_reader.kind = .ptr 178 := rfl
def T_p_wire_Reader : TI := { size := 1, bytes := 8, agg := false, zero := [.nil], kind := .ptr 200, id := 175 }
@[simp] theorem T_p_wire_Reader_size : T_p_wire_Reader.size = 1 := rfl
@[simp] theorem T_p_wire_Reader_agg : T_p_wire_Reader.agg = false := rfl
@[simp] theorem T_p_wire_Reader_zero : T_p_wire_Reader.zero = [.nil] := rfl
@[simp] theorem T_p_wire_Reader_kind : T_p_wire_Reader.kind = .ptr 200 := rfl
def T_func_string_p_wire_Reader : TI := { size := 1, bytes := 8, agg := false, zero := [.nilfn], kind := .func, id := 176 }
@[simp] theorem T_func_string_p_wire_Reader_size : T_func_string_p_wire_Reader.size = 1 := rfl
@[simp] theorem T_func_string_p_wire_Reader_agg : T_func_string_p_wire_Reader.agg = false := rfl
@[simp] theorem T_func_string_p_wire_Reader_zero : T_func_string_p_wire_Reader.zero = [.nilfn] := rfl
@[simp] theorem T_func_string_p_wire_Reader_kind : T_func_string_p_wire_Reader.kind = .func := rfl
def T_struct_p_wire_Reader_bad_bool_left_int : TI := { size := 3, bytes := 24, agg := true, zero := [.nil, .bool false, .int .i64 0], kind := .struct [(0, 175, 1), (1, 4, 1), (2, 3, 1)], id := 177 }
@[simp] theorem T_struct_p_wire_Reader_bad_bool_left_int_size : T_struct_p_wire_Reader_bad_bool_left_int.size = 3 := rfl
@[simp] theorem T_struct_p_wire_Reader_bad_bool_left_int_agg : T_struct_p_wire_Reader_bad_bool_left_int.agg = true := rfl
@[simp] theorem T_struct_p_wire_Reader_bad_bool_left_int_zero : T_struct_p_wire_Reader_bad_bool_left_int.zero = [.nil, .bool false, .int .i64 0] := rfl
@[simp] theorem T_struct_p_wire_Reader_bad_bool_left_int_kind : T_struct_p_wire_Reader_bad_bool_left_int.kind = .struct [(0, 175, 1), (1, 4, 1), (2, 3, 1)] := rfl
def T_image_reader : TI := { size := 3, bytes := 24, agg := true, zero := [.nil, .bool false, .int .i64 0], kind := .struct [(0, 175, 1), (1, 4, 1), (2, 3, 1)], id := 178 }
@[simp] theorem T_image_reader_size : T_image_reader.size = 3 := rfl
@[simp] theorem T_image_reader_agg : T_image_reader.agg = true := rfl
@[simp] theorem T_image_reader_zero : T_image_reader.zero = [.nil, .bool false, .int .i64 0] := rfl
@[simp] theorem T_image_reader_kind : T_image_reader.kind = .struct [(0, 175, 1), (1, 4, 1), (2, 3, 1)] := rfl
@[simp] theorem T_image_reader_id : T_image_reader.id = t_image_reader := rfl
def T_func_int_api_Node : TI := { size := 1, bytes := 8, agg := false, zero := [.nilfn], kind := .func, id := 179 }
@[simp] theorem T_func_int_api_Node_size : T_func_int_api_Node.size = 1 := rfl
@[simp] theorem T_func_int_api_Node_agg : T_func_int_api_Node.agg = false := rfl
@[simp] theorem T_func_int_api_Node_zero : T_func_int_api_Node.zero = [.nilfn] := rfl
@[simp] theorem T_func_int_api_Node_kind : T_func_int_api_Node.kind = .func := rfl
def T_func_int_s_api_Extent_bool : TI := { size := 1, bytes := 8, agg := false, zero := [.nilfn], kind := .func, id := 180 }
@[simp] theorem T_func_int_s_api_Extent_bool_size : T_func_int_s_api_Extent_bool.size = 1 := rfl
@[simp] theorem T_func_int_s_api_Extent_bool_agg : T_func_int_s_api_Extent_bool.agg = false := rfl
@[simp] theorem T_func_int_s_api_Extent_bool_zero : T_func_int_s_api_Extent_bool.zero = [.nilfn] := rfl
@[simp] theorem T_func_int_s_api_Extent_bool_kind : T_func_int_s_api_Extent_bool.kind = .func := rfl
def T_func_int_api_Extent_bool : TI := { size := 1, bytes := 8, agg := false, zero := [.nilfn], kind := .func, id := 181 }
@[simp] theorem T_func_int_api_Extent_bool_size : T_func_int_api_Extent_bool.size = 1 := rfl
@[simp] theorem T_func_int_api_Extent_bool_agg : T_func_int_api_Extent_bool.agg = false := rfl
@[simp] theorem T_func_int_api_Extent_bool_zero : T_func_int_api_Extent_bool.zero = [.nilfn] := rfl
@[simp] theorem T_func_int_api_Extent_bool_kind : T_func_int_api_Extent_bool.kind = .func := rfl
def T_func_string_string_int_int_s_string : TI := { size := 1, bytes := 8, agg := false, zero := [.nilfn], kind := .func, id := 182 }
@[simp] theorem T_func_string_string_int_int_s_string_size : T_func_string_string_int_int_s_string.size = 1 := rfl
@[simp] theorem T_func_string_string_int_int_s_string_agg : T_func_string_string_int_int_s_string.agg = false := rfl
@[simp] theorem T_func_string_string_int_int_s_string_zero : T_func_string_string_int_int_s_string.zero = [.nilfn] := rfl
@[simp] theorem T_func_string_string_int_int_s_string_kind : T_func_string_string_int_int_s_string.kind = .func := rfl
def T_p_heap_heads : TI := { size := 1, bytes := 8, agg := false, zero := [.nil], kind := .ptr 188, id := 183 }
@[simp] theorem T_p_heap_heads_size : T_p_heap_heads.size = 1 := rfl
@[simp] theorem T_p_heap_heads_agg : T_p_heap_heads.agg = false := rfl
@[simp] theorem T_p_heap_heads_zero : T_p_heap_heads.zero = [.nil] := rfl
@[simp] theorem T_p_heap_heads_kind : T_p_heap_heads.kind = .ptr 188 := rfl
@[simp] theorem T_p_heap_heads_id : T_p_heap_heads.id = t_p_heap_heads := rfl
def T_func_heap_Item_heap_Item_bool : TI := { size := 1, bytes := 8, agg := false, zero := [.nilfn], kind := .func, id := 184 }
@[simp] theorem T_func_heap_Item_heap_Item_bool_size : T_func_heap_Item_heap_Item_bool.size = 1 := rfl
@[simp] theorem T_func_heap_Item_heap_Item_bool_agg : T_func_heap_Item_heap_Item_bool.agg = false := rfl
@[simp] theorem T_func_heap_Item_heap_Item_bool_zero : T_func_heap_Item_heap_Item_bool.zero = [.nilfn] := rfl
@[simp] theorem T_func_heap_Item_heap_Item_bool_kind : T_func_heap_Item_heap_Item_bool.kind = .func := rfl
def T_func_heap_Item_bool : TI := { size := 1, bytes := 8, agg := false, zero := [.nilfn], kind := .func, id := 185 }
@[simp] theorem T_func_heap_Item_bool_size : T_func_heap_Item_bool.size = 1 := rfl
@[simp] theorem T_func_heap_Item_bool_agg : T_func_heap_Item_bool.agg = false := rfl
@[simp] theorem T_func_heap_Item_bool_zero : T_func_heap_Item_bool.zero = [.nilfn] := rfl
@[simp] theorem T_func_heap_Item_bool_kind : T_func_heap_Item_bool.kind = .func := rfl
def T_s_heap_head : TI := { size := 1, bytes := 24, agg := false, zero := [.vs 3 [] .nil], kind := .slice 190, id := 186 }
@[simp] theorem T_s_heap_head_size : T_s_heap_head.size = 1 := rfl
@[simp] theorem T_s_heap_head_agg : T_s_heap_head.agg = false := rfl
@[simp] theorem T_s_heap_head_zero : T_s_heap_head.zero = [.vs 3 [] .nil] := rfl
@[simp] theorem T_s_heap_head_kind : T_s_heap_head.kind = .slice 190 := rfl
def T_struct_l_s_heap_head_less_func_heap_Item_heap_Item_bool : TI := { size := 2, bytes := 32, agg := true, zero := [.vs 3 [] .nil, .nilfn], kind := .struct [(0, 186, 1), (1, 184, 1)], id := 187 }
@[simp] theorem T_struct_l_s_heap_head_less_func_heap_Item_heap_Item_bool_size : T_struct_l_s_heap_head_less_func_heap_Item_heap_Item_bool.size = 2 := rfl
@[simp] theorem T_struct_l_s_heap_head_less_func_heap_Item_heap_Item_bool_agg : T_struct_l_s_heap_head_less_func_heap_Item_heap_Item_bool.agg = true := rfl
@[simp] theorem T_struct_l_s_heap_head_less_func_heap_Item_heap_Item_bool_zero : T_struct_l_s_heap_head_less_func_heap_Item_heap_Item_bool.zero = [.vs 3 [] .nil, .nilfn] := rfl
@[simp] theorem T_struct_l_s_heap_head_less_func_heap_Item_heap_Item_bool_kind : T_struct_l_s_heap_head_less_func_heap_Item_heap_Item_bool.kind = .struct [(0, 186, 1), (1, 184, 1)] := rfl
def T_heap_heads : TI := { size := 2, bytes := 32, agg := true, zero := [.vs 3 [] .nil, .nilfn], kind := .struct [(0, 186, 1), (1, 184, 1)], id := 188 }
@[simp] theorem T_heap_heads_size : T_heap_heads.size = 2 := rfl
@[simp] theorem T_heap_heads_agg : T_heap_heads.agg = true := rfl
@[simp] theorem T_heap_heads_zero : T_heap_heads.zero = [.vs 3 [] .nil, .nilfn] := rfl
@[simp] theorem T_heap_heads_kind : T_heap_heads.kind = .struct [(0, 186, 1), (1, 184, 1)] := rfl
@[simp] theorem T_heap_heads_id : T_heap_heads.id = t_heap_heads := rfl
def T_struct_heap_Item_rest_s_string : TI := { size := 3, bytes := 48, agg := true, zero := [.str [], .int .i64 0, .vs 1 [] .nil], kind := .struct [(0, 160, 2), (2, 23, 1)], id := 189 }
@[simp] theorem T_struct_heap_Item_rest_s_string_size : T_struct_heap_Item_rest_s_string.size = 3 := rfl
@[simp] theorem T_struct_heap_Item_rest_s_string_agg : T_struct_heap_Item_rest_s_string.agg = true := rfl
@[simp] theorem T_struct_heap_Item_rest_s_string_zero : T_struct_heap_Item_rest_s_string.zero = [.str [], .int .i64 0, .vs 1 [] .nil] := rfl
@[simp] theorem T_struct_heap_Item_rest_s_string_kind : T_struct_heap_Item_rest_s_string.kind = .struct [(0, 160, 2), (2, 23, 1)] := rfl
def T_heap_head : TI := { size := 3, bytes := 48, agg := true, zero := [.str [], .int .i64 0, .vs 1 [] .nil], kind := .struct [(0, 160, 2), (2, 23, 1)], id := 190 }
@[simp] theorem T_heap_head_size : T_heap_head.size = 3 := rfl
@[simp] theorem T_heap_head_agg : T_heap_head.agg = true := rfl
@[simp] theorem T_heap_head_zero : T_heap_head.zero = [.str [], .int .i64 0, .vs 1 [] .nil] := rfl
@[simp] theorem T_heap_head_kind : T_heap_head.kind = .struct [(0, 160, 2), (2, 23, 1)] := rfl
@[simp] theorem T_heap_head_id : T_heap_head.id = t_heap_head := rfl
def T_func_heap_Interface : TI := { size := 1, bytes := 8, agg := false, zero := [.nilfn], kind := .func, id := 191 }
@[simp] theorem T_func_heap_Interface_size : T_func_heap_Interface.size = 1 := rfl
@[simp] theorem T_func_heap_Interface_agg : T_func_heap_Interface.agg = false := rfl
@[simp] theorem T_func_heap_Interface_zero : T_func_heap_Interface.zero = [.nilfn] := rfl
@[simp] theorem T_func_heap_Interface_kind : T_func_heap_Interface.kind = .func := rfl
def T_p_heap_head : TI := { size := 1, bytes := 8, agg := false, zero := [.nil], kind := .ptr 190, id := 192 }
@[simp] theorem T_p_heap_head_size : T_p_heap_head.size = 1 := rfl
@[simp] theorem T_p_heap_head_agg : T_p_heap_head.agg = false := rfl
@[simp] theorem T_p_heap_head_zero : T_p_heap_head.zero = [.nil] := rfl
@[simp] theorem T_p_heap_head_kind : T_p_heap_head.kind = .ptr 190 := rfl
def T_func_heap_Interface_interface : TI := { size := 1, bytes := 8, agg := false, zero := [.nilfn], kind := .func, id := 193 }
@[simp] theorem T_func_heap_Interface_interface_size : T_func_heap_Interface_interface.size = 1 := rfl
@[simp] theorem T_func_heap_Interface_interface_agg : T_func_heap_Interface_interface.agg = false := rfl
@[simp] theorem T_func_heap_Interface_interface_zero : T_func_heap_Interface_interface.zero = [.nilfn] := rfl
@[simp] theorem T_func_heap_Interface_interface_kind : T_func_heap_Interface_interface.kind = .func := rfl
def T_func_heap_Interface_int : TI := { size := 1, bytes := 8, agg := false, zero := [.nilfn], kind := .func, id := 194 }
@[simp] theorem T_func_heap_Interface_int_size : T_func_heap_Interface_int.size = 1 := rfl
@[simp] theorem T_func_heap_Interface_int_agg : T_func_heap_Interface_int.agg = false := rfl
@[simp] theorem T_func_heap_Interface_int_zero : T_func_heap_Interface_int.zero = [.nilfn] := rfl
@[simp] theorem T_func_heap_Interface_int_kind : T_func_heap_Interface_int.kind = .func := rfl
def T_func_uint_uint_uint_uint : TI := { size := 1, bytes := 8, agg := false, zero := [.nilfn], kind := .func, id := 196 }
@[simp] theorem T_func_uint_uint_uint_uint_size : T_func_uint_uint_uint_uint.size = 1 := rfl
@[simp] theorem T_func_uint_uint_uint_uint_agg : T_func_uint_uint_uint_uint.agg = false := rfl
@[simp] theorem T_func_uint_uint_uint_uint_zero : T_func_uint_uint_uint_uint.zero = [.nilfn] := rfl
@[simp] theorem T_func_uint_uint_uint_uint_kind : T_func_uint_uint_uint_uint.kind = .func := rfl
def T_func_int_f2d63e : TI := { size := 1, bytes := 8, agg := false, zero := [.nilfn], kind := .func, id := 197 }
@[simp] theorem T_func_int_f2d63e_size : T_func_int_f2d63e.size = 1 := rfl
@[simp] theorem T_func_int_f2d63e_agg : T_func_int_f2d63e.agg = false := rfl
@[simp] theorem T_func_int_f2d63e_zero : T_func_int_f2d63e.zero = [.nilfn] := rfl
@[simp] theorem T_func_int_f2d63e_kind : T_func_int_f2d63e.kind = .func := rfl
def T_p_uint8 : TI := { size := 1, bytes := 8, agg := false, zero := [.nil], kind := .ptr 5, id := 198 }
@[simp] theorem T_p_uint8_size : T_p_uint8.size = 1 := rfl
@[simp] theorem T_p_uint8_agg : T_p_uint8.agg = false := rfl
@[simp] theorem T_p_uint8_zero : T_p_uint8.zero = [.nil] := rfl
@[simp] theorem T_p_uint8_kind : T_p_uint8.kind = .ptr 5 := rfl
def T_struct_s_string : TI := { size := 1, bytes := 16, agg := true, zero := [.str []], kind := .struct [(0, 9, 1)], id := 199 }
@[simp] theorem T_struct_s_string_size : T_struct_s_string.size = 1 := rfl
@[simp] theorem T_struct_s_string_agg : T_struct_s_string.agg = true := rfl
@[simp] theorem T_struct_s_string_zero : T_struct_s_string.zero = [.str []] := rfl
@[simp] theorem T_struct_s_string_kind : T_struct_s_string.kind = .struct [(0, 9, 1)] := rfl
def T_wire_Reader : TI := { size := 1, bytes := 16, agg := true, zero := [.str []], kind := .struct [(0, 9, 1)], id := 200 }
@[simp] theorem T_wire_Reader_size : T_wire_Reader.size = 1 := rfl
@[simp] theorem T_wire_Reader_agg : T_wire_Reader.agg = true := rfl
@[simp] theorem T_wire_Reader_zero : T_wire_Reader.zero = [.str []] := rfl
@[simp] theorem T_wire_Reader_kind : T_wire_Reader.kind = .struct [(0, 9, 1)] := rfl
@[simp] theorem T_wire_Reader_id : T_wire_Reader.id = t_wire_Reader := rfl
def T_func_string_int_s_string : TI := { size := 1, bytes := 8, agg := false, zero := [.nilfn], kind := .func, id := 201 }
@[simp] theorem T_func_string_int_s_string_size : T_func_string_int_s_string.size = 1 := rfl
@[simp] theorem T_func_string_int_s_string_agg : T_func_string_int_s_string.agg = false := rfl
@[simp] theorem T_func_string_int_s_string_zero : T_func_string_int_s_string.zero = [.nilfn] := rfl
@[simp] theorem T_func_string_int_s_string_kind : T_func_string_int_s_string.kind = .func := rfl
def T_func_string_string_int : TI := { size := 1, bytes := 8, agg := false, zero := [.nilfn], kind := .func, id := 202 }
@[simp] theorem T_func_string_string_int_size : T_func_string_string_int.size = 1 := rfl
@[simp] theorem T_func_string_string_int_agg : T_func_string_string_int.agg = false := rfl
@[simp] theorem T_func_string_string_int_zero : T_func_string_string_int.zero = [.nilfn] := rfl
@[simp] theorem T_func_string_string_int_kind : T_func_string_string_int.kind = .func := rfl
def T_interface_Len_int_Less_int_int_bool_Pop_interfac_d7b234c6 : TI := { size := 1, bytes := 16, agg := false, zero := [.nilifc], kind := .iface, id := 203 }
@[simp] theorem T_interface_Len_int_Less_int_int_bool_Pop_interfac_d7b234c6_size : T_interface_Len_int_Less_int_int_bool_Pop_interfac_d7b234c6.size = 1 := rfl
@[simp] theorem T_interface_Len_int_Less_int_int_bool_Pop_interfac_d7b234c6_agg : T_interface_Len_int_Less_int_int_bool_Pop_interfac_d7b234c6.agg = false := rfl
@[simp] theorem T_interface_Len_int_Less_int_int_bool_Pop_interfac_d7b234c6_zero : T_interface_Len_int_Less_int_int_bool_Pop_interfac_d7b234c6.zero = [.nilifc] := rfl
@[simp] theorem T_interface_Len_int_Less_int_int_bool_Pop_interfac_d7b234c6_kind : T_interface_Len_int_Less_int_int_bool_Pop_interfac_d7b234c6.kind = .iface := rfl
def T_heap_Interface : TI := { size := 1, bytes := 16, agg := false, zero := [.nilifc], kind := .iface, id := 204 }
@[simp] theorem T_heap_Interface_size : T_heap_Interface.size = 1 := rfl
@[simp] theorem T_heap_Interface_agg : T_heap_Interface.agg = false := rfl
@[simp] theorem T_heap_Interface_zero : T_heap_Interface.zero = [.nilifc] := rfl
@[simp] theorem T_heap_Interface_kind : T_heap_Interface.kind = .iface := rfl
def T_func_heap_Interface_int_int_bool : TI := { size := 1, bytes := 8, agg := false, zero := [.nilfn], kind := .func, id := 205 }
@[simp] theorem T_func_heap_Interface_int_int_bool_size : T_func_heap_Interface_int_int_bool.size = 1 := rfl
@[simp] theorem T_func_heap_Interface_int_int_bool_agg : T_func_heap_Interface_int_int_bool.agg = false := rfl
@[simp] theorem T_func_heap_Interface_int_int_bool_zero : T_func_heap_Interface_int_int_bool.zero = [.nilfn] := rfl
@[simp] theorem T_func_heap_Interface_int_int_bool_kind : T_func_heap_Interface_int_int_bool.kind = .func := rfl
def T_func_int_int_7d0cc0 : TI := { size := 1, bytes := 8, agg := false, zero := [.nilfn], kind := .func, id := 206 }
@[simp] theorem T_func_int_int_7d0cc0_size : T_func_int_int_7d0cc0.size = 1 := rfl
@[simp] theorem T_func_int_int_7d0cc0_agg : T_func_int_int_7d0cc0.agg = false := rfl
@[simp] theorem T_func_int_int_7d0cc0_zero : T_func_int_int_7d0cc0.zero = [.nilfn] := rfl
@[simp] theorem T_func_int_int_7d0cc0_kind : T_func_int_int_7d0cc0.kind = .func := rfl
def T_func_interface : TI := { size := 1, bytes := 8, agg := false, zero := [.nilfn], kind := .func, id := 207 }
@[simp] theorem T_func_interface_size : T_func_interface.size = 1 := rfl
@[simp] theorem T_func_interface_agg : T_func_interface.agg = false := rfl
@[simp] theorem T_func_interface_zero : T_func_interface.zero = [.nilfn] := rfl
@[simp] theorem T_func_interface_kind : T_func_interface.kind = .func := rfl
def T_func_unsafe_Pointer_unsafe_Pointer : TI := { size := 1, bytes := 8, agg := false, zero := [.nilfn], kind := .func, id := 209 }
@[simp] theorem T_func_unsafe_Pointer_unsafe_Pointer_size : T_func_unsafe_Pointer_unsafe_Pointer.size = 1 := rfl
@[simp] theorem T_func_unsafe_Pointer_unsafe_Pointer_agg : T_func_unsafe_Pointer_unsafe_Pointer.agg = false := rfl
@[simp] theorem T_func_unsafe_Pointer_unsafe_Pointer_zero : T_func_unsafe_Pointer_unsafe_Pointer.zero = [.nilfn] := rfl
@[simp] theorem T_func_unsafe_Pointer_unsafe_Pointer_kind : T_func_unsafe_Pointer_unsafe_Pointer.kind = .func := rfl
def T_uint32 : TI := { size := 1, bytes := 4, agg := false, zero := [.int .u32 0], kind := .int .u32, id := 210 }
@[simp] theorem T_uint32_size : T_uint32.size = 1 := rfl
@[simp] theorem T_uint32_agg : T_uint32.agg = false := rfl
@[simp] theorem T_uint32_zero : T_uint32.zero = [.int .u32 0] := rfl
@[simp] theorem T_uint32_kind : T_uint32.kind = .int .u32 := rfl
def T_func_uint32_uint32_uint32_uint32 : TI := { size := 1, bytes := 8, agg := false, zero := [.nilfn], kind := .func, id := 212 }
@[simp] theorem T_func_uint32_uint32_uint32_uint32_size : T_func_uint32_uint32_uint32_uint32.size = 1 := rfl
@[simp] theorem T_func_uint32_uint32_uint32_uint32_agg : T_func_uint32_uint32_uint32_uint32.agg = false := rfl
@[simp] theorem T_func_uint32_uint32_uint32_uint32_zero : T_func_uint32_uint32_uint32_uint32.zero = [.nilfn] := rfl
@[simp] theorem T_func_uint32_uint32_uint32_uint32_kind : T_func_uint32_uint32_uint32_uint32.kind = .func := rfl
def T_uint64 : TI := { size := 1, bytes := 8, agg := false, zero := [.int .u64 0], kind := .int .u64, id := 213 }
@[simp] theorem T_uint64_size : T_uint64.size = 1 := rfl
@[simp] theorem T_uint64_agg : T_uint64.agg = false := rfl
@[simp] theorem T_uint64_zero : T_uint64.zero = [.int .u64 0] := rfl
@[simp] theorem T_uint64_kind : T_uint64.kind = .int .u64 := rfl
def T_func_uint64_uint64_uint64_uint64 : TI := { size := 1, bytes := 8, agg := false, zero := [.nilfn], kind := .func, id := 215 }
@[simp] theorem T_func_uint64_uint64_uint64_uint64_size : T_func_uint64_uint64_uint64_uint64.size = 1 := rfl
@[simp] theorem T_func_uint64_uint64_uint64_uint64_agg : T_func_uint64_uint64_uint64_uint64.agg = false := rfl
@[simp] theorem T_func_uint64_uint64_uint64_uint64_zero : T_func_uint64_uint64_uint64_uint64.zero = [.nilfn] := rfl
@[simp] theorem T_func_uint64_uint64_uint64_uint64_kind : T_func_uint64_uint64_uint64_uint64.kind = .func := rfl
def T_func_int_int_bool : TI := { size := 1, bytes := 8, agg := false, zero := [.nilfn], kind := .func, id := 216 }
@[simp] theorem T_func_int_int_bool_size : T_func_int_int_bool.size = 1 := rfl
@[simp] theorem T_func_int_int_bool_agg : T_func_int_int_bool.agg = false := rfl
@[simp] theorem T_func_int_int_bool_zero : T_func_int_int_bool.zero = [.nilfn] := rfl
@[simp] theorem T_func_int_int_bool_kind : T_func_int_int_bool.kind = .func := rfl
def T_func_int_string_bool : TI := { size := 1, bytes := 8, agg := false, zero := [.nilfn], kind := .func, id := 217 }
@[simp] theorem T_func_int_string_bool_size : T_func_int_string_bool.size = 1 := rfl
@[simp] theorem T_func_int_string_bool_agg : T_func_int_string_bool.agg = false := rfl
@[simp] theorem T_func_int_string_bool_zero : T_func_int_string_bool.zero = [.nilfn] := rfl
@[simp] theorem T_func_int_string_bool_kind : T_func_int_string_bool.kind = .func := rfl
def T_func_string_int : TI := { size := 1, bytes := 8, agg := false, zero := [.nilfn], kind := .func, id := 218 }
@[simp] theorem T_func_string_int_size : T_func_string_int.size = 1 := rfl
@[simp] theorem T_func_string_int_agg : T_func_string_int.agg = false := rfl
@[simp] theorem T_func_string_int_zero : T_func_string_int.zero = [.nilfn] := rfl
@[simp] theorem T_func_string_int_kind : T_func_string_int.kind = .func := rfl
def T_func_string_int32_int : TI := { size := 1, bytes := 8, agg := false, zero := [.nilfn], kind := .func, id := 220 }
@[simp] theorem T_func_string_int32_int_size : T_func_string_int32_int.size = 1 := rfl
@[simp] theorem T_func_string_int32_int_agg : T_func_string_int32_int.agg = false := rfl
@[simp] theorem T_func_string_int32_int_zero : T_func_string_int32_int.zero = [.nilfn] := rfl
@[simp] theorem T_func_string_int32_int_kind : T_func_string_int32_int.kind = .func := rfl
def T_func_string_uint8_int : TI := { size := 1, bytes := 8, agg := false, zero := [.nilfn], kind := .func, id := 221 }
@[simp] theorem T_func_string_uint8_int_size : T_func_string_uint8_int.size = 1 := rfl
@[simp] theorem T_func_string_uint8_int_agg : T_func_string_uint8_int.agg = false := rfl
@[simp] theorem T_func_string_uint8_int_zero : T_func_string_uint8_int.zero = [.nilfn] := rfl
@[simp] theorem T_func_string_uint8_int_kind : T_func_string_uint8_int.kind = .func := rfl
def T_func_string_int32_int_396748 : TI := { size := 1, bytes := 8, agg := false, zero := [.nilfn], kind := .func, id := 222 }
@[simp] theorem T_func_string_int32_int_396748_size : T_func_string_int32_int_396748.size = 1 := rfl
@[simp] theorem T_func_string_int32_int_396748_agg : T_func_string_int32_int_396748.agg = false := rfl
@[simp] theorem T_func_string_int32_int_396748_zero : T_func_string_int32_int_396748.zero = [.nilfn] := rfl
@[simp] theorem T_func_string_int32_int_396748_kind : T_func_string_int32_int_396748.kind = .func := rfl
def T_func_string_strings_asciiSet_bool : TI := { size := 1, bytes := 8, agg := false, zero := [.nilfn], kind := .func, id := 226 }
@[simp] theorem T_func_string_strings_asciiSet_bool_size : T_func_string_strings_asciiSet_bool.size = 1 := rfl
@[simp] theorem T_func_string_strings_asciiSet_bool_agg : T_func_string_strings_asciiSet_bool.agg = false := rfl
@[simp] theorem T_func_string_strings_asciiSet_bool_zero : T_func_string_strings_asciiSet_bool.zero = [.nilfn] := rfl
@[simp] theorem T_func_string_strings_asciiSet_bool_kind : T_func_string_strings_asciiSet_bool.kind = .func := rfl
def T_func_uint8_bool : TI := { size := 1, bytes := 8, agg := false, zero := [.nilfn], kind := .func, id := 227 }
@[simp] theorem T_func_uint8_bool_size : T_func_uint8_bool.size = 1 := rfl
@[simp] theorem T_func_uint8_bool_agg : T_func_uint8_bool.agg = false := rfl
@[simp] theorem T_func_uint8_bool_zero : T_func_uint8_bool.zero = [.nilfn] := rfl
@[simp] theorem T_func_uint8_bool_kind : T_func_uint8_bool.kind = .func := rfl
def T_func_int_int_bool_03c5c4 : TI := { size := 1, bytes := 8, agg := false, zero := [.nilfn], kind := .func, id := 228 }
@[simp] theorem T_func_int_int_bool_03c5c4_size : T_func_int_int_bool_03c5c4.size = 1 := rfl
@[simp] theorem T_func_int_int_bool_03c5c4_agg : T_func_int_int_bool_03c5c4.agg = false := rfl
@[simp] theorem T_func_int_int_bool_03c5c4_zero : T_func_int_int_bool_03c5c4.zero = [.nilfn] := rfl
@[simp] theorem T_func_int_int_bool_03c5c4_kind : T_func_int_int_bool_03c5c4.kind = .func := rfl
def T_func_int_s_uint8 : TI := { size := 1, bytes := 8, agg := false, zero := [.nilfn], kind := .func, id := 229 }
@[simp] theorem T_func_int_s_uint8_size : T_func_int_s_uint8.size = 1 := rfl
@[simp] theorem T_func_int_s_uint8_agg : T_func_int_s_uint8.agg = false := rfl
@[simp] theorem T_func_int_s_uint8_zero : T_func_int_s_uint8.zero = [.nilfn] := rfl
@[simp] theorem T_func_int_s_uint8_kind : T_func_int_s_uint8.kind = .func := rfl
def T_func_int32_bool : TI := { size := 1, bytes := 8, agg := false, zero := [.nilfn], kind := .func, id := 230 }
@[simp] theorem T_func_int32_bool_size : T_func_int32_bool.size = 1 := rfl
@[simp] theorem T_func_int32_bool_agg : T_func_int32_bool.agg = false := rfl
@[simp] theorem T_func_int32_bool_zero : T_func_int32_bool.zero = [.nilfn] := rfl
@[simp] theorem T_func_int32_bool_kind : T_func_int32_bool.kind = .func := rfl
def T_p_strings_asciiSet : TI := { size := 1, bytes := 8, agg := false, zero := [.nil], kind := .ptr 224, id := 231 }
@[simp] theorem T_p_strings_asciiSet_size : T_p_strings_asciiSet.size = 1 := rfl
@[simp] theorem T_p_strings_asciiSet_agg : T_p_strings_asciiSet.agg = false := rfl
@[simp] theorem T_p_strings_asciiSet_zero : T_p_strings_asciiSet.zero = [.nil] := rfl
@[simp] theorem T_p_strings_asciiSet_kind : T_p_strings_asciiSet.kind = .ptr 224 := rfl
def T_struct_lo_uint8_hi_uint8 : TI := { size := 2, bytes := 2, agg := true, zero := [.int .u8 0, .int .u8 0], kind := .struct [(0, 5, 1), (1, 5, 1)], id := 233 }
@[simp] theorem T_struct_lo_uint8_hi_uint8_size : T_struct_lo_uint8_hi_uint8.size = 2 := rfl
@[simp] theorem T_struct_lo_uint8_hi_uint8_agg : T_struct_lo_uint8_hi_uint8.agg = true := rfl
@[simp] theorem T_struct_lo_uint8_hi_uint8_zero : T_struct_lo_uint8_hi_uint8.zero = [.int .u8 0, .int .u8 0] := rfl
@[simp] theorem T_struct_lo_uint8_hi_uint8_kind : T_struct_lo_uint8_hi_uint8.kind = .struct [(0, 5, 1), (1, 5, 1)] := rfl
def T_utf8_acceptRange : TI := { size := 2, bytes := 2, agg := true, zero := [.int .u8 0, .int .u8 0], kind := .struct [(0, 5, 1), (1, 5, 1)], id := 234 }
@[simp] theorem T_utf8_acceptRange_size : T_utf8_acceptRange.size = 2 := rfl
@[simp] theorem T_utf8_acceptRange_agg : T_utf8_acceptRange.agg = true := rfl
@[simp] theorem T_utf8_acceptRange_zero : T_utf8_acceptRange.zero = [.int .u8 0, .int .u8 0] := rfl
@[simp] theorem T_utf8_acceptRange_kind : T_utf8_acceptRange.kind = .struct [(0, 5, 1), (1, 5, 1)] := rfl
def T_16_utf8_acceptRange : TI := { size := 32, bytes := 32, agg := true, zero := [.int .u8 0, .int .u8 0, .int .u8 0, .int .u8 0, .int .u8 0, .int .u8 0, .int .u8 0, .int .u8 0, .int .u8 0, .int .u8 0, .int .u8 0, .int .u8 0, .int .u8 0, .int .u8 0, .int .u8 0, .int .u8 0, .int .u8 0, .int .u8 0, .int .u8 0, .int .u8 0, .int .u8 0, .int .u8 0, .int .u8 0, .int .u8 0, .int .u8 0, .int .u8 0, .int .u8 0, .int .u8 0, .int .u8 0, .int .u8 0, .int .u8 0, .int .u8 0], kind := .array 16 234, id := 235 }
@[simp] theorem T_16_utf8_acceptRange_size : T_16_utf8_acceptRange.size = 32 := rfl
@[simp] theorem T_16_utf8_acceptRange_agg : T_16_utf8_acceptRange.agg = true := rfl
@[simp] theorem T_16_utf8_acceptRange_zero : T_16_utf8_acceptRange.zero = [.int .u8 0, .int .u8 0, .int .u8 0, .int .u8 0, .int .u8 0, .int .u8 0, .int .u8 0, .int .u8 0, .int .u8 0, .int .u8 0, .int .u8 0, .int .u8 0, .int .u8 0, .int .u8 0, .int .u8 0, .int .u8 0, .int .u8 0, .int .u8 0, .int .u8 0, .int .u8 0, .int .u8 0, .int .u8 0, .int .u8 0, .int .u8 0, .int .u8 0, .int .u8 0, .int .u8 0, .int .u8 0, .int .u8 0, .int .u8 0, .int .u8 0, .int .u8 0] := rfl
@[simp] theorem T_16_utf8_acceptRange_kind : T_16_utf8_acceptRange.kind = .array 16 234 := rfl
def T_func_string_uint32_uint32 : TI := { size := 1, bytes := 8, agg := false, zero := [.nilfn], kind := .func, id := 236 }
@[simp] theorem T_func_string_uint32_uint32_size : T_func_string_uint32_uint32.size = 1 := rfl
@[simp] theorem T_func_string_uint32_uint32_agg : T_func_string_uint32_uint32.agg = false := rfl
@[simp] theorem T_func_string_uint32_uint32_zero : T_func_string_uint32_uint32.zero = [.nilfn] := rfl
@[simp] theorem T_func_string_uint32_uint32_kind : T_func_string_uint32_uint32.kind = .func := rfl
def T_struct_interface_p_abi_Type_concrete_p_abi_Type__3af7698d : TI := { size := 4, bytes := 40, agg := true, zero := [.nil, .nil, .nil, .str []], kind := .struct [(0, 17, 1), (1, 17, 1), (2, 17, 1), (3, 9, 1)], id := 237 }
@[simp] theorem T_struct_interface_p_abi_Type_concrete_p_abi_Type__3af7698d_size : T_struct_interface_p_abi_Type_concrete_p_abi_Type__3af7698d.size = 4 := rfl
@[simp] theorem T_struct_interface_p_abi_Type_concrete_p_abi_Type__3af7698d_agg : T_struct_interface_p_abi_Type_concrete_p_abi_Type__3af7698d.agg = true := rfl
@[simp] theorem T_struct_interface_p_abi_Type_concrete_p_abi_Type__3af7698d_zero : T_struct_interface_p_abi_Type_concrete_p_abi_Type__3af7698d.zero = [.nil, .nil, .nil, .str []] := rfl
@[simp] theorem T_struct_interface_p_abi_Type_concrete_p_abi_Type__3af7698d_kind : T_struct_interface_p_abi_Type_concrete_p_abi_Type__3af7698d.kind = .struct [(0, 17, 1), (1, 17, 1), (2, 17, 1), (3, 9, 1)] := rfl
def T_runtime_TypeAssertionError : TI := { size := 4, bytes := 40, agg := true, zero := [.nil, .nil, .nil, .str []], kind := .struct [(0, 17, 1), (1, 17, 1), (2, 17, 1), (3, 9, 1)], id := 238 }
@[simp] theorem T_runtime_TypeAssertionError_size : T_runtime_TypeAssertionError.size = 4 := rfl
@[simp] theorem T_runtime_TypeAssertionError_agg : T_runtime_TypeAssertionError.agg = true := rfl
@[simp] theorem T_runtime_TypeAssertionError_zero : T_runtime_TypeAssertionError.zero = [.nil, .nil, .nil, .str []] := rfl
@[simp] theorem T_runtime_TypeAssertionError_kind : T_runtime_TypeAssertionError.kind = .struct [(0, 17, 1), (1, 17, 1), (2, 17, 1), (3, 9, 1)] := rfl
def T_0_p_runtime_PanicNilError : TI := { size := 0, bytes := 0, agg := true, zero := [], kind := .array 0 16, id := 239 }
@[simp] theorem T_0_p_runtime_PanicNilError_size : T_0_p_runtime_PanicNilError.size = 0 := rfl
@[simp] theorem T_0_p_runtime_PanicNilError_agg : T_0_p_runtime_PanicNilError.agg = true := rfl
@[simp] theorem T_0_p_runtime_PanicNilError_zero : T_0_p_runtime_PanicNilError.zero = [] := rfl
@[simp] theorem T_0_p_runtime_PanicNilError_kind : T_0_p_runtime_PanicNilError.kind = .array 0 16 := rfl
def T_struct_0_p_runtime_PanicNilError : TI := { size := 0, bytes := 0, agg := true, zero := [], kind := .struct [(0, 239, 0)], id := 240 }
@[simp] theorem T_struct_0_p_runtime_PanicNilError_size : T_struct_0_p_runtime_PanicNilError.size = 0 := rfl
@[simp] theorem T_struct_0_p_runtime_PanicNilError_agg : T_struct_0_p_runtime_PanicNilError.agg = true := rfl
@[simp] theorem T_struct_0_p_runtime_PanicNilError_zero : T_struct_0_p_runtime_PanicNilError.zero = [] := rfl
@[simp] theorem T_struct_0_p_runtime_PanicNilError_kind : T_struct_0_p_runtime_PanicNilError.kind = .struct [(0, 239, 0)] := rfl
def T_runtime_PanicNilError : TI := { size := 0, bytes := 0, agg := true, zero := [], kind := .struct [(0, 239, 0)], id := 241 }
@[simp] theorem T_runtime_PanicNilError_size : T_runtime_PanicNilError.size = 0 := rfl
@[simp] theorem T_runtime_PanicNilError_agg : T_runtime_PanicNilError.agg = true := rfl
@[simp] theorem T_runtime_PanicNilError_zero : T_runtime_PanicNilError.zero = [] := rfl
@[simp] theorem T_runtime_PanicNilError_kind : T_runtime_PanicNilError.kind = .struct [(0, 239, 0)] := rfl
def T_abi_TFlag : TI := { size := 1, bytes := 1, agg := false, zero := [.int .u8 0], kind := .int .u8, id := 242 }
@[simp] theorem T_abi_TFlag_size : T_abi_TFlag.size = 1 := rfl
@[simp] theorem T_abi_TFlag_agg : T_abi_TFlag.agg = false := rfl
@[simp] theorem T_abi_TFlag_zero : T_abi_TFlag.zero = [.int .u8 0] := rfl
@[simp] theorem T_abi_TFlag_kind : T_abi_TFlag.kind = .int .u8 := rfl
def T_abi_Kind : TI := { size := 1, bytes := 1, agg := false, zero := [.int .u8 0], kind := .int .u8, id := 243 }
@[simp] theorem T_abi_Kind_size : T_abi_Kind.size = 1 := rfl
@[simp] theorem T_abi_Kind_agg : T_abi_Kind.agg = false := rfl
@[simp] theorem T_abi_Kind_zero : T_abi_Kind.zero = [.int .u8 0] := rfl
@[simp] theorem T_abi_Kind_kind : T_abi_Kind.kind = .int .u8 := rfl
def T_func_unsafe_Pointer_unsafe_Pointer_bool : TI := { size := 1, bytes := 8, agg := false, zero := [.nilfn], kind := .func, id := 244 }
@[simp] theorem T_func_unsafe_Pointer_unsafe_Pointer_bool_size : T_func_unsafe_Pointer_unsafe_Pointer_bool.size = 1 := rfl
@[simp] theorem T_func_unsafe_Pointer_unsafe_Pointer_bool_agg : T_func_unsafe_Pointer_unsafe_Pointer_bool.agg = false := rfl
@[simp] theorem T_func_unsafe_Pointer_unsafe_Pointer_bool_zero : T_func_unsafe_Pointer_unsafe_Pointer_bool.zero = [.nilfn] := rfl
@[simp] theorem T_func_unsafe_Pointer_unsafe_Pointer_bool_kind : T_func_unsafe_Pointer_unsafe_Pointer_bool.kind = .func := rfl
def T_abi_NameOff : TI := { size := 1, bytes := 4, agg := false, zero := [.int .i32 0], kind := .int .i32, id := 245 }
@[simp] theorem T_abi_NameOff_size : T_abi_NameOff.size = 1 := rfl
@[simp] theorem T_abi_NameOff_agg : T_abi_NameOff.agg = false := rfl
@[simp] theorem T_abi_NameOff_zero : T_abi_NameOff.zero = [.int .i32 0] := rfl
@[simp] theorem T_abi_NameOff_kind : T_abi_NameOff.kind = .int .i32 := rfl
def T_abi_TypeOff : TI := { size := 1, bytes := 4, agg := false, zero := [.int .i32 0], kind := .int .i32, id := 246 }
@[simp] theorem T_abi_TypeOff_size : T_abi_TypeOff.size = 1 := rfl
@[simp] theorem T_abi_TypeOff_agg : T_abi_TypeOff.agg = false := rfl
@[simp] theorem T_abi_TypeOff_zero : T_abi_TypeOff.zero = [.int .i32 0] := rfl
@[simp] theorem T_abi_TypeOff_kind : T_abi_TypeOff.kind = .int .i32 := rfl
def T_struct_Size_uintptr_PtrBytes_uintptr_Hash_uint32_7c8ec20b : TI := { size := 11, bytes := 48, agg := true, zero := [.int .u64 0, .int .u64 0, .int .u32 0, .int .u8 0, .int .u8 0, .int .u8 0, .int .u8 0, .nilfn, .nil, .int .i32 0, .int .i32 0], kind := .struct [(0, 12, 1), (1, 12, 1), (2, 210, 1), (3, 242, 1), (4, 5, 1), (5, 5, 1), (6, 243, 1), (7, 244, 1), (8, 198, 1), (9, 245, 1), (10, 246, 1)], id := 247 }
@[simp] theorem T_struct_Size_uintptr_PtrBytes_uintptr_Hash_uint32_7c8ec20b_size : T_struct_Size_uintptr_PtrBytes_uintptr_Hash_uint32_7c8ec20b.size = 11 := rfl
@[simp] theorem T_struct_Size_uintptr_PtrBytes_uintptr_Hash_uint32_7c8ec20b_agg : T_struct_Size_uintptr_PtrBytes_uintptr_Hash_uint32_7c8ec20b.agg = true := rfl
@[simp] theorem T_struct_Size_uintptr_PtrBytes_uintptr_Hash_uint32_7c8ec20b_zero : T_struct_Size_uintptr_PtrBytes_uintptr_Hash_uint32_7c8ec20b.zero = [.int .u64 0, .int .u64 0, .int .u32 0, .int .u8 0, .int .u8 0, .int .u8 0, .int .u8 0, .nilfn, .nil, .int .i32 0, .int .i32 0] := rfl
@[simp] theorem T_struct_Size_uintptr_PtrBytes_uintptr_Hash_uint32_7c8ec20b_kind : T_struct_Size_uintptr_PtrBytes_uintptr_Hash_uint32_7c8ec20b.kind = .struct [(0, 12, 1), (1, 12, 1), (2, 210, 1), (3, 242, 1), (4, 5, 1), (5, 5, 1), (6, 243, 1), (7, 244, 1), (8, 198, 1), (9, 245, 1), (10, 246, 1)] := rfl
def T_abi_Type : TI := { size := 11, bytes := 48, agg := true, zero := [.int .u64 0, .int .u64 0, .int .u32 0, .int .u8 0, .int .u8 0, .int .u8 0, .int .u8 0, .nilfn, .nil, .int .i32 0, .int .i32 0], kind := .struct [(0, 12, 1), (1, 12, 1), (2, 210, 1), (3, 242, 1), (4, 5, 1), (5, 5, 1), (6, 243, 1), (7, 244, 1), (8, 198, 1), (9, 245, 1), (10, 246, 1)], id := 248 }
@[simp] theorem T_abi_Type_size : T_abi_Type.size = 11 := rfl
@[simp] theorem T_abi_Type_agg : T_abi_Type.agg = true := rfl
@[simp] theorem T_abi_Type_zero : T_abi_Type.zero = [.int .u64 0, .int .u64 0, .int .u32 0, .int .u8 0, .int .u8 0, .int .u8 0, .int .u8 0, .nilfn, .nil, .int .i32 0, .int .i32 0] := rfl
@[simp] theorem T_abi_Type_kind : T_abi_Type.kind = .struct [(0, 12, 1), (1, 12, 1), (2, 210, 1), (3, 242, 1), (4, 5, 1), (5, 5, 1), (6, 243, 1), (7, 244, 1), (8, 198, 1), (9, 245, 1), (10, 246, 1)] := rfl
def T_func_interface_1cb4d9 : TI := { size := 1, bytes := 8, agg := false, zero := [.nilfn], kind := .func, id := 249 }
@[simp] theorem T_func_interface_1cb4d9_size : T_func_interface_1cb4d9.size = 1 := rfl
@[simp] theorem T_func_interface_1cb4d9_agg : T_func_interface_1cb4d9.agg = false := rfl
@[simp] theorem T_func_interface_1cb4d9_zero : T_func_interface_1cb4d9.zero = [.nilfn] := rfl
@[simp] theorem T_func_interface_1cb4d9_kind : T_func_interface_1cb4d9.kind = .func := rfl
def tyOf : Nat → TI
  | 1 => T_func
  | 2 => T_int64
  | 3 => T_int
  | 4 => T_bool
  | 5 => T_uint8
  | 6 => T_abi_BoundsErrorCode
  | 7 => T_struct_x_int64_y_int_signed_bool_code_abi_BoundsErrorCode
  | 8 => T_runtime_boundsError
  | 9 => T_string
  | 10 => T_runtime_errorString
  | 11 => T_runtime_plainError
  | 12 => T_uintptr
  | 13 => T_struct_msg_string_addr_uintptr
  | 14 => T_runtime_errorAddressString
  | 15 => T_p_runtime_TypeAssertionError
  | 16 => T_p_runtime_PanicNilError
  | 17 => T_p_abi_Type
  | 18 => T_struct_typ_p_abi_Type
  | 19 => T_maps_unhashableTypeError
  | 20 => T_interface
  | 21 => T_int32
  | 22 => T_s_api_Node
  | 23 => T_s_string
  | 24 => T_func_bool
  | 25 => T_func_s_api_Node_int
  | 26 => T_s_stack_mount
  | 27 => T_struct_l_s_stack_mount_next_int
  | 28 => T_stack_Stack
  | 30 => T_func_s_api_Node_stack_Stack_bool
  | 31 => T_func_stack_Stack_seen_Place_s_api_Node_s_string_bool
  | 32 => T_s_seen_Spot
  | 33 => T_seen_Place
  | 34 => T_func_stack_Stack_seen_Place
  | 35 => T_func_s_api_Node_s_api_Node
  | 36 => T_func_s_api_Node_s_string_bool
  | 37 => T_struct_Trees_s_api_Node_Path_string_Follow_bool
  | 38 => T_socagelaw11_Case
  | 39 => T_struct_Level_int_Inode_int
  | 40 => T_seen_Spot
  | 41 => T_struct_Kind_int_seen_Spot_Dirs_seen_Place
  | 42 => T_seen_Found
  | 43 => T_struct_Path_string_seen_Found
  | 44 => T_walk_Target
  | 45 => T_api_Errno
  | 47 => T_func_stack_Stack_string_bool_walk_Target_api_Errno
  | 48 => T_func_socagelaw11_Case_bool
  | 49 => T_s_api_Extent
  | 50 => T_struct_Kind_int_Opaque_bool_Names_s_string_Items_8666df6f
  | 51 => T_api_Node
  | 52 => T_func_api_Node_int
  | 53 => T_func_api_Node_bool
  | 54 => T_p_branch_Branch
  | 56 => T_func_api_Node_p_branch_Branch_api_Errno
  | 57 => T_func_api_Node_s_api_Node
  | 59 => T_func_int_string_int_bool
  | 60 => T_func_api_Node_string_int
  | 61 => T_func_s_api_Node_int_int_int
  | 62 => T_func_api_Node_string_int_bool
  | 63 => T_func_stack_Stack_walk_Target_api_Errno_socageref11_At_int
  | 64 => T_struct_Names_s_string_Nodes_s_api_Node_Err_int
  | 65 => T_socageref11_At
  | 66 => T_func_s_api_Node_string_bool_socageref11_At
  | 67 => T_p_walk_Walker
  | 69 => T_func_seen_Place_string_bool_p_walk_Walker_api_Errno
  | 71 => T_func_string_seen_Place_string_bool
  | 72 => T_func_seen_Found_bool_string_api_Errno
  | 73 => T_func_walk_Target
  | 74 => T_func_int
  | 76 => T_func_stack_Stack_seen_Place_string_seen_Found_bool
  | 77 => T_func_int_p_branch_Branch
  | 78 => T_func_int_string
  | 79 => T_s_uint8
  | 80 => T_s_merge_Entry
  | 81 => T_struct_Name_string_Kind_int
  | 82 => T_merge_Entry
  | 84 => T_func_s_merge_Entry_int_int_s_merge_Entry_bool
  | 85 => T_func_s_string_s_uint8_bool
  | 86 => T_func_s_string_int_int_bool
  | 87 => T_func_int_int
  | 88 => T_func_int_bool
  | 89 => T_func_s_string_s_string_bool
  | 90 => T_func_int_s_string
  | 91 => T_func_int_int_int_string
  | 92 => T_func_api_Node_int_bool
  | 93 => T_func_stack_Stack_seen_Place_s_api_Node_bool
  | 94 => T_func_s_api_Node_bool
  | 96 => T_func_api_Node_string_bool
  | 97 => T_func_string_p_branch_Branch_api_Errno
  | 98 => T_func_int_s_api_Extent_int_int_string
  | 99 => T_func_api_Node_int_int_bool
  | 101 => T_func_api_Node_stack_Stack_api_Errno
  | 102 => T_func_s_string_api_Node_api_Node
  | 103 => T_func_string_api_Node
  | 104 => T_func_api_Node
  | 105 => T_func_s_api_Node_string_s_api_Node
  | 106 => T_func_s_api_Node_string_int
  | 107 => T_func_api_Node_int_p_int_bool
  | 108 => T_p_int
  | 109 => T_s_branch_inode
  | 110 => T_struct_table_s_branch_inode
  | 111 => T_branch_Branch
  | 112 => T_s_int
  | 113 => T_struct_api_Node_ids_s_int
  | 114 => T_branch_inode
  | 115 => T_func_int_branch_inode
  | 116 => T_func_s_string_string_int_bool
  | 117 => T_func_s_string_string
  | 119 => T_func_string_s_string_bool
  | 120 => T_func_s_api_Node_s_string_s_string_bool_int_socageref11_At
  | 122 => T_func_string_s_string_bool_api_Errno
  | 123 => T_struct_path_string_seen_Place
  | 124 => T_walk_dir
  | 125 => T_s_walk_dir
  | 126 => T_p_walk_Target
  | 127 => T_struct_todo_s_string_dirs_s_walk_dir_follow_bool_b4679ffd
  | 128 => T_walk_Walker
  | 129 => T_func_walk_dir
  | 130 => T_func_string_api_Errno
  | 131 => T_func_string_string_string
  | 132 => T_struct_id_int_p_branch_Branch
  | 133 => T_stack_mount
  | 134 => T_func_stack_Stack_seen_Place_s_merge_Entry
  | 135 => T_func_s_merge_Entry_s_string
  | 136 => T_func_s_string_s_string
  | 137 => T_func_s_merge_Entry_s_socageref10_Entry_bool
  | 138 => T_s_socageref10_Entry
  | 139 => T_func_s_api_Node_s_socageref10_Entry
  | 140 => T_func_api_Node_string
  | 142 => T_func_string_api_Node_api_Errno
  | 143 => T_func_s_api_Extent_int_uint8
  | 145 => T_func_p_branch_Branch_stack_Stack_int_api_Errno
  | 146 => T_func_string_s_api_Extent
  | 147 => T_struct_Off_int_Data_string
  | 148 => T_api_Extent
  | 149 => T_func_s_api_Extent_s_api_Extent
  | 150 => T_uint
  | 151 => T_func_string_string_bool
  | 152 => T_func_string_bool
  | 153 => T_func_s_api_Node_s_string_s_api_Node
  | 154 => T_func_string_string_s_string
  | 155 => T_s_s_string
  | 156 => T_s_heap_Item
  | 157 => T_func_s_heap_Item_s_heap_Item
  | 158 => T_func_s_string_s_heap_Item
  | 159 => T_struct_Name_string_Row_int
  | 160 => T_heap_Item
  | 161 => T_p_strings_Builder
  | 162 => T_struct_addr_p_strings_Builder_buf_s_uint8
  | 163 => T_strings_Builder
  | 164 => T_interface_Error_string
  | 165 => T_error
  | 167 => T_func_string_int_error
  | 168 => T_func_string_int_string
  | 169 => T_func_string
  | 170 => T_socageref10_Entry
  | 171 => T_func_s_string_string_s_string
  | 172 => T_func_string_int_int_string
  | 173 => T_func_string_string_int_string
  | 174 => T_p_image_reader
  | 175 => T_p_wire_Reader
  | 176 => T_func_string_p_wire_Reader
  | 177 => T_struct_p_wire_Reader_bad_bool_left_int
  | 178 => T_image_reader
  | 179 => T_func_int_api_Node
  | 180 => T_func_int_s_api_Extent_bool
  | 181 => T_func_int_api_Extent_bool
  | 182 => T_func_string_string_int_int_s_string
  | 183 => T_p_heap_heads
  | 184 => T_func_heap_Item_heap_Item_bool
  | 185 => T_func_heap_Item_bool
  | 186 => T_s_heap_head
  | 187 => T_struct_l_s_heap_head_less_func_heap_Item_heap_Item_bool
  | 188 => T_heap_heads
  | 189 => T_struct_heap_Item_rest_s_string
  | 190 => T_heap_head
  | 191 => T_func_heap_Interface
  | 192 => T_p_heap_head
  | 193 => T_func_heap_Interface_interface
  | 194 => T_func_heap_Interface_int
  | 196 => T_func_uint_uint_uint_uint
  | 197 => T_func_int_f2d63e
  | 198 => T_p_uint8
  | 199 => T_struct_s_string
  | 200 => T_wire_Reader
  | 201 => T_func_string_int_s_string
  | 202 => T_func_string_string_int
  | 203 => T_interface_Len_int_Less_int_int_bool_Pop_interfac_d7b234c6
  | 204 => T_heap_Interface
  | 205 => T_func_heap_Interface_int_int_bool
  | 206 => T_func_int_int_7d0cc0
  | 207 => T_func_interface
  | 209 => T_func_unsafe_Pointer_unsafe_Pointer
  | 210 => T_uint32
  | 212 => T_func_uint32_uint32_uint32_uint32
  | 213 => T_uint64
  | 215 => T_func_uint64_uint64_uint64_uint64
  | 216 => T_func_int_int_bool
  | 217 => T_func_int_string_bool
  | 218 => T_func_string_int
  | 220 => T_func_string_int32_int
  | 221 => T_func_string_uint8_int
  | 222 => T_func_string_int32_int_396748
  | 226 => T_func_string_strings_asciiSet_bool
  | 227 => T_func_uint8_bool
  | 228 => T_func_int_int_bool_03c5c4
  | 229 => T_func_int_s_uint8
  | 230 => T_func_int32_bool
  | 231 => T_p_strings_asciiSet
  | 233 => T_struct_lo_uint8_hi_uint8
  | 234 => T_utf8_acceptRange
  | 235 => T_16_utf8_acceptRange
  | 236 => T_func_string_uint32_uint32
  | 237 => T_struct_interface_p_abi_Type_concrete_p_abi_Type__3af7698d
  | 238 => T_runtime_TypeAssertionError
  | 239 => T_0_p_runtime_PanicNilError
  | 240 => T_struct_0_p_runtime_PanicNilError
  | 241 => T_runtime_PanicNilError
  | 242 => T_abi_TFlag
  | 243 => T_abi_Kind
  | 244 => T_func_unsafe_Pointer_unsafe_Pointer_bool
  | 245 => T_abi_NameOff
  | 246 => T_abi_TypeOff
  | 247 => T_struct_Size_uintptr_PtrBytes_uintptr_Hash_uint32_7c8ec20b
  | 248 => T_abi_Type
  | 249 => T_func_interface_1cb4d9
  | n => { size := 0, bytes := 0, agg := false, zero := [], kind := match n with | 0 | 29 | 46 | 55 | 58 | 68 | 70 | 75 | 83 | 95 | 100 | 118 | 121 | 141 | 144 | 166 | 195 | 211 | 214 | 219 | 225 => .tuple | _ => .other }
def locOf : Nat → Nat → Bool
  | 3, 5 => true
  | 4, 1 => true
  | 4, 3 => true
  | 4, 5 => true
  | 4, 9 => true
  | 5, 3 => true
  | 5, 11 => true
  | 6, 1 => true
  | 6, 3 => true
  | 6, 5 => true
  | 7, 1 => true
  | 7, 3 => true
  | 7, 5 => true
  | 7, 16 => true
  | 8, 16 => true
  | 9, 15 => true
  | 10, 2 => true
  | 10, 9 => true
  | 11, 3 => true
  | 12, 3 => true
  | 12, 16 => true
  | 13, 1 => true
  | 13, 4 => true
  | 13, 6 => true
  | 14, 4 => true
  | 15, 2 => true
  | 15, 5 => true
  | 15, 6 => true
  | 16, 4 => true
  | 16, 11 => true
  | 17, 1 => true
  | 20, 1 => true
  | 20, 3 => true
  | 20, 5 => true
  | 20, 7 => true
  | 21, 3 => true
  | 21, 6 => true
  | 21, 14 => true
  | 23, 1 => true
  | 24, 1 => true
  | 25, 1 => true
  | 26, 1 => true
  | 27, 8 => true
  | 28, 2 => true
  | 30, 4 => true
  | 30, 5 => true
  | 30, 7 => true
  | 31, 6 => true
  | 34, 5 => true
  | 35, 2 => true
  | 35, 3 => true
  | 35, 4 => true
  | 37, 3 => true
  | 37, 6 => true
  | 37, 8 => true
  | 37, 10 => true
  | 38, 2 => true
  | 40, 1 => true
  | 48, 9 => true
  | 49, 3 => true
  | 49, 9 => true
  | 49, 10 => true
  | 50, 1 => true
  | 51, 4 => true
  | 53, 2 => true
  | 53, 4 => true
  | 53, 6 => true
  | 54, 4 => true
  | 55, 2 => true
  | 56, 0 => true
  | 57, 1 => true
  | 58, 3 => true
  | 58, 8 => true
  | 61, 2 => true
  | 62, 3 => true
  | 62, 8 => true
  | 62, 10 => true
  | 63, 1 => true
  | 64, 1 => true
  | 65, 1 => true
  | 66, 1 => true
  | 67, 3 => true
  | 67, 6 => true
  | 67, 8 => true
  | 68, 4 => true
  | 72, 10 => true
  | 74, 2 => true
  | 77, 2 => true
  | 77, 7 => true
  | 77, 11 => true
  | 78, 5 => true
  | 80, 11 => true
  | 81, 7 => true
  | 83, 1 => true
  | 84, 2 => true
  | 84, 5 => true
  | 86, 2 => true
  | 86, 4 => true
  | 90, 1 => true
  | 91, 3 => true
  | 91, 11 => true
  | 99, 5 => true
  | 109, 4 => true
  | 109, 5 => true
  | 112, 1 => true
  | 113, 1 => true
  | 114, 7 => true
  | 115, 1 => true
  | 119, 2 => true
  | 119, 3 => true
  | 181, 4 => true
  | _, _ => false
def liveOf : Nat → Nat → List Nat × List Nat
  | 3, 9 => ([1, 30], [])
  | 3, 14 => ([42], [])
  | 4, 12 => ([53], [3, 5])
  | 5, 10 => ([49], [])
  | 5, 13 => ([62], [11])
  | 7, 13 => ([75], [3, 5])
  | 8, 7 => ([5, 29], [])
  | 8, 13 => ([6, 9, 43], [])
  | 8, 20 => ([87], [])
  | 8, 26 => ([102], [])
  | 9, 7 => ([7, 23], [])
  | 9, 19 => ([73], [])
  | 10, 12 => ([46], [])
  | 12, 12 => ([81], [])
  | 14, 4 => ([10], [])
  | 15, 4 => ([14], [2])
  | 16, 4 => ([22], [4])
  | 17, 3 => ([3, 7], [1])
  | 18, 3 => ([3, 4], [])
  | 19, 3 => ([3, 7], [])
  | 21, 4 => ([], [3, 6])
  | 26, 3 => ([3, 4], [1])
  | 28, 2 => ([5], [2])
  | 29, 3 => ([7, 8], [])
  | 33, 1 => ([], [])
  | 37, 3 => ([17], [3, 8])
  | 46, 4 => ([5], [])
  | 49, 5 => ([22], [3])
  | 52, 5 => ([9, 10], [])
  | 53, 3 => ([11], [2, 4])
  | 58, 4 => ([17], [3])
  | 59, 7 => ([6], [])
  | 60, 2 => ([5], [])
  | 62, 3 => ([27], [])
  | 62, 11 => ([59], [])
  | 63, 2 => ([3], [1])
  | 64, 3 => ([3, 4], [1])
  | 65, 3 => ([3, 4], [1])
  | 67, 5 => ([29], [6])
  | 69, 3 => ([7, 8], [])
  | 70, 3 => ([3, 4], [])
  | 71, 6 => ([0, 4, 5, 6], [])
  | 73, 4 => ([2, 17], [])
  | 77, 3 => ([22], [2])
  | 77, 11 => ([9, 45], [2])
  | 78, 3 => ([3, 11], [])
  | 80, 6 => ([32], [])
  | 81, 5 => ([24], [])
  | 82, 3 => ([3, 4], [])
  | 82, 6 => ([3, 5], [])
  | 82, 11 => ([6, 7], [])
  | 83, 5 => ([3, 4], [1])
  | 83, 14 => ([3, 6], [1])
  | 85, 2 => ([5], [])
  | 88, 3 => ([0, 3, 4], [])
  | 88, 5 => ([5], [])
  | 89, 3 => ([5, 6], [])
  | 91, 16 => ([66], [])
  | 95, 4 => ([3], [])
  | 96, 3 => ([5, 6], [])
  | 99, 3 => ([3, 8], [])
  | 100, 4 => ([4, 13], [])
  | 100, 12 => ([7], [])
  | 105, 4 => ([5, 6, 7], [])
  | 106, 3 => ([1, 8], [])
  | 109, 11 => ([6], [5])
  | 109, 19 => ([9], [5])
  | 111, 4 => ([5], [])
  | 112, 4 => ([3], [1])
  | 114, 3 => ([5, 10], [])
  | 115, 2 => ([8], [1])
  | 120, 2 => ([3], [])
  | 128, 2 => ([5], [])
  | 135, 2 => ([7], [])
  | 136, 0 => ([1], [])
  | 142, 5 => ([6, 24], [])
  | _, _ => ([], [])
def hasL : List Nat := [1, 2, 3, 4, 5, 6, 7, 8, 9, 10, 11, 12, 13, 14, 15, 16, 17, 18, 19, 20, 21, 22, 23, 24, 25, 26, 27, 28, 30, 31, 32, 33, 34, 35, 36, 37, 38, 39, 40, 41, 42, 43, 44, 45, 47, 48, 49, 50, 51, 52, 53, 54, 56, 57, 59, 60, 61, 62, 63, 64, 65, 66, 67, 69, 71, 72, 73, 74, 76, 77, 78, 79, 80, 81, 82, 84, 85, 86, 87, 88, 89, 90, 91, 92, 93, 94, 96, 97, 98, 99, 101, 102, 103, 104, 105, 106, 107, 108, 109, 110, 111, 112, 113, 114, 115, 116, 117, 119, 120, 122, 123, 124, 125, 126, 127, 128, 129, 130, 131, 132, 133, 134, 135, 136, 137, 138, 139, 140, 142, 143, 145, 146, 147, 148, 149, 150, 151, 152, 153, 154, 155, 156, 157, 158, 159, 160, 161, 162, 163, 164, 165, 167, 168, 169, 170, 171, 172, 173, 174, 175, 176, 177, 178, 179, 180, 181, 182, 183, 184, 185, 186, 187, 188, 189, 190, 191, 192, 193, 194, 196, 197, 198, 199, 200, 201, 202, 203, 204, 205, 206, 207, 209, 210, 212, 213, 215, 216, 217, 218, 220, 221, 222, 226, 227, 228, 229, 230, 231, 233, 234, 235, 236, 237, 238, 239, 240, 241, 242, 243, 244, 245, 246, 247, 248, 249]
def hasM : Nat := 1809244397354376586165886444188085081356707334348575167880798866488648794110
def hasOf (t : Nat) : Bool := Nat.testBit hasM t
def eqkL : List Nat := [7, 8, 39, 40, 81, 82, 147, 148, 159, 160, 170, 199, 200, 233, 234]
def eqkOf : Nat → Bool
  | 7 => true
  | 8 => true
  | 39 => true
  | 40 => true
  | 81 => true
  | 82 => true
  | 147 => true
  | 148 => true
  | 159 => true
  | 160 => true
  | 170 => true
  | 199 => true
  | 200 => true
  | 233 => true
  | 234 => true
  | _ => false
def byrefOf : Nat → Bool
  | 114 => true
  | 190 => true
  | _ => false
def methOf (t : Nat) (m : String) : Option Nat :=
  match t with
  | 183 => if m = "Len" then some F_heap_heads_Len else if m = "Less" then some F_heap_heads_Less else if m = "Pop" then some F_heap_heads_Pop else if m = "Swap" then some F_heap_heads_Swap else none
  | _ => none
@[simp] theorem meth_p_heap_heads_Len : methOf t_p_heap_heads "Len" = some F_heap_heads_Len := by simp [methOf]
@[simp] theorem meth_p_heap_heads_Less : methOf t_p_heap_heads "Less" = some F_heap_heads_Less := by simp [methOf]
@[simp] theorem meth_p_heap_heads_Pop : methOf t_p_heap_heads "Pop" = some F_heap_heads_Pop := by simp [methOf]
@[simp] theorem meth_p_heap_heads_Swap : methOf t_p_heap_heads "Swap" = some F_heap_heads_Swap := by simp [methOf]
def tkOf : Nat → Nat → Bool
  | 73, 2 => true
  | 73, 3 => true
  | 73, 4 => true
  | 73, 38 => true
  | 73, 40 => true
  | 73, 43 => true
  | _, _ => false
def C : Ctx := { ty := tyOf, has := hasOf, eqk := eqkOf, loc := locOf, byref := byrefOf, meth := methOf, live := liveOf, tk := tkOf }
@[simp] theorem C_meth : C.meth = methOf := rfl
noncomputable def En (w0 : World) : Env := ⟨Tryd.prog, C, w0⟩
theorem hasOf_mem : ∀ t, hasOf t = true → hasL.elem t = true := by
  intro t h
  by_cases c : t < 250
  · have h2 := List.all_eq_true.1 (show (List.range 250).all (fun t => !(hasOf t) || hasL.elem t) = true by kernel_rfl) t (List.mem_range.2 c)
    rw [h] at h2
    simpa using h2
  · unfold hasOf at h
    rw [Nat.testBit_lt_two_pow (Nat.lt_of_lt_of_le (show hasM < 2 ^ 250 from of_decide_eq_true (by kernel_rfl)) (Nat.pow_le_pow_right (by decide) (Nat.le_of_not_lt c)))] at h
    cases h
theorem eqkOf_mem : ∀ t, eqkOf t = true → eqkL.elem t = true := by
  intro t h
  unfold eqkOf at h
  split at h <;> first | rfl | cases h
theorem tabOk : hasL.all (fun t => tyCheck Tryd.prog t (tyOf t)) = true := by kernel_rfl
theorem eqkOk : eqkL.all (fun t => eqkCheck Tryd.prog t (tyOf t).zero) = true := by kernel_rfl
theorem meth0 (v : Value) (w : World) : (method (Tryd.prog.types.size + Made.depth) 183 v "Len").run Tryd.prog w = .ok (121, v) w := by kernel_rfl
theorem meth1 (v : Value) (w : World) : (method (Tryd.prog.types.size + Made.depth) 183 v "Less").run Tryd.prog w = .ok (180, v) w := by kernel_rfl
theorem meth2 (v : Value) (w : World) : (method (Tryd.prog.types.size + Made.depth) 183 v "Pop").run Tryd.prog w = .ok (181, v) w := by kernel_rfl
theorem meth3 (v : Value) (w : World) : (method (Tryd.prog.types.size + Made.depth) 183 v "Swap").run Tryd.prog w = .ok (182, v) w := by kernel_rfl
theorem methOk : ∀ t m g, methOf t m = some g → ∀ v w, (method (Tryd.prog.types.size + Made.depth) t v m).run Tryd.prog w = .ok (g, v) w := by
  intro t m g h v w
  unfold methOf at h
  split at h
  · split at h
    · rename_i e; subst e; cases h; exact meth0 v w
    split at h
    · rename_i e; subst e; cases h; exact meth1 v w
    split at h
    · rename_i e; subst e; cases h; exact meth2 v w
    split at h
    · rename_i e; subst e; cases h; exact meth3 v w
    cases h
  · cases h
theorem agree (w0 : World) : Agree (En w0) := agree_of (En w0) hasL eqkL hasOf_mem eqkOf_mem tabOk eqkOk methOk
theorem mixed : Tryd.prog.follows .mixedOrders = true := by kernel_rfl
theorem Ca_sound (w0 : World) : CaSound (En w0) (ACalls (En w0)) := fun _ _ _ _ h => h
theorem Ca_mono (w0 : World) : CaMono (ACalls (En w0)) := fun g xs S Q Q' h hq => ⟨h.1, fun G w hr hro args' hl ha => (h.2 G w hr hro args' hl ha).mono fun e w' ⟨v, r, S', G', h1, h2, h3⟩ => ⟨v, r, S', G', h1, hq _ _ h2, h3⟩⟩
theorem fn_ok (w0 : World) {n : Nat} {fn : Func} (hf : Tryd.prog.funcs[n]? = some fn) (hname : (fn.name == "runtime.NumGoroutine") = false) {args : List AV} {S : St} {Q : AV → St → Prop}
    (h : WF C (ACalls (En w0)) n (Drw C (ACalls (En w0)) n) fn args S Q) : ACalls (En w0) n args S Q :=
  WF_sound (E := En w0) (agree w0) (Ca_sound w0) (Ca_mono w0) (Drw_sound (agree w0) (Ca_sound w0) (Ca_mono w0) mixed) (Drw_mono (Ca_mono w0)) hf hname h
abbrev AC (w0 : World) := ACalls (En w0)
def byrefOf0 : Nat → Bool
  | 82 => true
  | 114 => true
  | 190 => true
  | _ => false
def C0 : Ctx := { ty := tyOf, has := hasOf, eqk := eqkOf, loc := locOf, byref := byrefOf0, meth := methOf, live := liveOf, tk := tkOf }
noncomputable def En0 (w0 : World) : Env := ⟨Tryd.prog, C0, w0⟩
theorem agree0 (w0 : World) : Agree (En0 w0) := agree_of (En0 w0) hasL eqkL hasOf_mem eqkOf_mem tabOk eqkOk methOk
theorem fn_ok0 (w0 : World) {n : Nat} {fn : Func} (hf : Tryd.prog.funcs[n]? = some fn) (hname : (fn.name == "runtime.NumGoroutine") = false) {args : List AV} {S : St} {Q : AV → St → Prop}
    (h : WF C0 (ACalls (En w0)) n (Drw C0 (ACalls (En w0)) n) fn args S Q) : ACalls (En w0) n args S Q :=
  ACalls.ctx (E := En0 w0) (E' := En w0) rfl rfl (WF_sound (E := En0 w0) (Ca := ACalls (En w0)) (agree0 w0) (fun _ _ _ _ h => ACalls.ctx (E := En w0) (E' := En0 w0) rfl rfl h) (Ca_mono w0) (Drw_sound (Ca := ACalls (En w0)) (agree0 w0) (fun _ _ _ _ h => ACalls.ctx (E := En w0) (E' := En0 w0) rfl rfl h) (Ca_mono w0) mixed) (Drw_mono (Ca_mono w0)) hf hname h)
abbrev un_int := @Tryd.underlying3
abbrev un_uint8 := @Tryd.underlying5
abbrev un_string := @Tryd.underlying9
abbrev un_s_string := @Tryd.underlying23
abbrev un_s_uint8 := @Tryd.underlying79
theorem ce_uint8 : Tryd.prog.cellsOf t_uint8 = 1 := by kernel_rfl
theorem ce_string : Tryd.prog.cellsOf t_string = 1 := by kernel_rfl
abbrev fn_slices_Clone_s_string_string := @Tryd.func79
abbrev fn_strings_Split := @Tryd.func97
abbrev fn_strings_ContainsAny := @Tryd.func118
end Go.Av
set_option linter.unusedVariables false
namespace Go.Av
open Go.Proofs
def G_seen_Root (Ca : Nat → List AV → St → (AV → St → Prop) → Prop) (a0a : List (List AV)) (a0ar : Rt) (a0b : Int) (S0 : St) (Q : AV → St → Prop) : Prop :=
 optK (boxA T_stack_Stack (.agg [(.vs 2 a0a a0ar), (.int .i64 a0b)])) fun c1 =>
 joinK (fun (x3 : AV) (S_5 : St) =>
 Q (AV.strip x3) S_5) fun j =>
 optK (lloadA T_stack_Stack (some c1) 0) fun t5 =>
 callK Ca F_stack_Stack_Len [(AV.strip t5)] S0 fun t6 S =>
 loopQ ([(.vs 2 [] .nil), (.int .i64 0)], [(some c1)]) (fun v bx => ([v 3, v 7], [bx 1])) (fun nx v bx S_2 =>
 optK (binA .lss (v 7) t6) fun t8 =>
 ifK t8
 (optK (buildA T_seen_Spot 1 [(0, (AV.strip (AV.strip (v 7)))), (1, (.int .i64 0))]) fun t12 =>
 optK (elemVals 2 [t12]) fun e13 =>
 optK (appendA T_seen_Spot S_2 (v 3) (.vs 2 e13 .full)) fun t14 =>
 optK (lloadA T_stack_Stack (bx 1) 0) fun t15 =>
 callK Ca F_stack_Stack_At [(AV.strip t15), (AV.strip (AV.strip (v 7)))] S_2 fun t17 S_3 =>
 callK Ca F_branch_Branch_Opaque [t17, (.int .i64 0)] S_3 fun t18 S_4 =>
 ifK t18
 (j t14 S_4)
 (optK (binA .add (v 7) (.int .i64 1)) fun t19 =>
 nx ([t14, (AV.strip t19)], [(bx 1)]) S_4))
 (j (v 3) S_2)) S
theorem seen_Root_eq (Ca) (a0a : List (List AV)) (a0ar : Rt) (a0b : Int) (S0 Q) : WF C Ca 17 (Drw C Ca 17) Tryd.f17 [(.agg [(.vs 2 a0a a0ar), (.int .i64 a0b)])] S0 Q = G_seen_Root Ca a0a a0ar a0b S0 Q := by kernel_rfl
theorem seen_Root_ok {w0 : World} {a0a : List (List AV)} {a0ar : Rt} {a0b : Int} {S0 : St} {Q : AV → St → Prop} (h : G_seen_Root (ACalls (En w0)) a0a a0ar a0b S0 Q) : AC w0 F_seen_Root [(.agg [(.vs 2 a0a a0ar), (.int .i64 a0b)])] S0 Q := fn_ok w0 Tryd.func17 (by kernel_rfl) (by rw [seen_Root_eq]; exact h)
def G_branch_New (Ca : Nat → List AV → St → (AV → St → Prop) → Prop) (a0a : Int) (a0b : Bool) (a0c : List (List AV)) (a0cr : Rt) (a0d : List (List AV)) (a0dr : Rt) (a0e : Int) (a0f : List (List AV)) (a0fr : Rt) (a0g : List UInt8) (S0 : St) (Q : AV → St → Prop) : Prop :=
 optK (boxA T_api_Node (.agg [(.int .i64 a0a), (.bool a0b), (.vs 1 a0c a0cr), (.vs 7 a0d a0dr), (.int .i64 a0e), (.vs 2 a0f a0fr), (.str a0g)])) fun c1 =>
 optK (lloadA T_api_Node (some c1) 0) fun t5 =>
 callK Ca F_tree_Right [(AV.strip t5)] S0 fun t6 S =>
 optK (unA .not t6) fun t7 =>
 ifK t7
 (Q (.tup [.nil, (.int .i64 1)]) S)
 (optK (boxA T_branch_Branch (.agg [(.vs 8 [] .nil)])) fun c9 =>
 optK (lloadA T_api_Node (some c1) 0) fun t11 =>
 callK Ca F_branch_Branch_add [(.ptr S.length 0), (AV.strip t11)] (S ++ [.cells c9 t_branch_Branch]) fun t12 S_2 =>
 Q (.tup [(.ptr S.length 0), (.int .i64 0)]) S_2)
theorem branch_New_eq (Ca) (a0a : Int) (a0b : Bool) (a0c : List (List AV)) (a0cr : Rt) (a0d : List (List AV)) (a0dr : Rt) (a0e : Int) (a0f : List (List AV)) (a0fr : Rt) (a0g : List UInt8) (S0 Q) : WF C Ca 25 (Drw C Ca 25) Tryd.f25 [(.agg [(.int .i64 a0a), (.bool a0b), (.vs 1 a0c a0cr), (.vs 7 a0d a0dr), (.int .i64 a0e), (.vs 2 a0f a0fr), (.str a0g)])] S0 Q = G_branch_New Ca a0a a0b a0c a0cr a0d a0dr a0e a0f a0fr a0g S0 Q := by kernel_rfl
theorem branch_New_ok {w0 : World} {a0a : Int} {a0b : Bool} {a0c : List (List AV)} {a0cr : Rt} {a0d : List (List AV)} {a0dr : Rt} {a0e : Int} {a0f : List (List AV)} {a0fr : Rt} {a0g : List UInt8} {S0 : St} {Q : AV → St → Prop} (h : G_branch_New (ACalls (En w0)) a0a a0b a0c a0cr a0d a0dr a0e a0f a0fr a0g S0 Q) : AC w0 F_branch_New [(.agg [(.int .i64 a0a), (.bool a0b), (.vs 1 a0c a0cr), (.vs 7 a0d a0dr), (.int .i64 a0e), (.vs 2 a0f a0fr), (.str a0g)])] S0 Q := fn_ok w0 Tryd.func25 (by kernel_rfl) (by rw [branch_New_eq]; exact h)
def G_branch_Branch_Look (Ca : Nat → List AV → St → (AV → St → Prop) → Prop) (a0 : Nat) (a0o : Nat) (a1 : Int) (a2 : List UInt8) (S0 : St) (Q : AV → St → Prop) : Prop :=
 Ca F_branch_Branch_at [(.ptr a0 a0o), (.int .i64 a1)] S0 fun t13 S =>
 optK (lstoreA T_branch_inode (some [(.int .i64 0), (.bool false), (.vs 1 [] .nil), (.vs 7 [] .nil), (.int .i64 0), (.vs 2 [] .nil), (.str []), (.vs 1 [] .nil)]) 0 t13) fun b8 =>
 optK (some b8) fun _ =>
 optK (some b8) fun _ =>
 optK (lloadA T_s_string (some b8) 2) fun t17 =>
 callK Ca F_slices_BinarySearch_s_string_string [(AV.strip t17), (.str a2)] S fun t19 S_2 =>
 optK (extractA t19 0) fun t20 =>
 optK (extractA (stripTup t19 0) 1) fun t21 =>
 optK (unA .not (AV.strip t21)) fun t23 =>
 ifK t23
 (Q (.tup [(.int .i64 0), (.bool false)]) S_2)
 (optK (some b8) fun _ =>
 optK (lloadA T_s_int (some b8) 7) fun t25 =>
 optK (idxSlA T_int (AV.strip t25) (AV.strip t20)) fun t27 =>
 optK (loadA T_int S_2 t27) fun t28 =>
 Q (.tup [(AV.flat (AV.strip t28)), (.bool true)]) S_2)
theorem branch_Branch_Look_eq (Ca) (a0 : Nat) (a0o : Nat) (a1 : Int) (a2 : List UInt8) (S0 Q) : WF C Ca 27 (Drw C Ca 27) Tryd.f27 [(.ptr a0 a0o), (.int .i64 a1), (.str a2)] S0 Q = G_branch_Branch_Look Ca a0 a0o a1 a2 S0 Q := by kernel_rfl
theorem branch_Branch_Look_ok {w0 : World} {a0 : Nat} {a0o : Nat} {a1 : Int} {a2 : List UInt8} {S0 : St} {Q : AV → St → Prop} (h : G_branch_Branch_Look (ACalls (En w0)) a0 a0o a1 a2 S0 Q) : AC w0 F_branch_Branch_Look [(.ptr a0 a0o), (.int .i64 a1), (.str a2)] S0 Q := fn_ok w0 Tryd.func27 (by kernel_rfl) (by rw [branch_Branch_Look_eq]; exact h)
end Go.Av
set_option linter.unusedVariables false
namespace Go.Av
open Go.Proofs
def G_stack_Stack_At (Ca : Nat → List AV → St → (AV → St → Prop) → Prop) (a0a : List (List AV)) (a0ar : Rt) (a0b : Int) (a1 : Int) (S0 : St) (Q : AV → St → Prop) : Prop :=
 optK (boxA T_stack_Stack (.agg [(.vs 2 a0a a0ar), (.int .i64 a0b)])) fun c2 =>
 joinK (fun (x12 : AV) =>
 optK (pickA (.bool (decide (a1 < 0))) (.bool true) x12) fun t13 =>
 ifK (AV.strip t13)
 (Q .nil S0)
 (optK (some c2) fun _ =>
 optK (lloadA T_s_stack_mount (some c2) 0) fun t15 =>
 optK (idxSlA T_stack_mount (AV.strip t15) (.int .i64 a1)) fun t17 =>
 optK (movePtr t17 1) fun t18 =>
 optK (loadA T_p_branch_Branch S0 t18) fun t19 =>
 Q (AV.strip t19) S0)) fun j =>
 ifK (.bool (decide (a1 < 0)))
 (j (.tup []))
 (optK (some c2) fun _ =>
 optK (lloadA T_s_stack_mount (some c2) 0) fun t10 =>
 optK (lenSlA (AV.strip t10)) fun t11 =>
 optK (binA .geq (.int .i64 a1) t11) fun t12 =>
 j t12)
theorem stack_Stack_At_eq (Ca) (a0a : List (List AV)) (a0ar : Rt) (a0b : Int) (a1 : Int) (S0 Q) : WF C Ca 38 (Drw C Ca 38) Tryd.f38 [(.agg [(.vs 2 a0a a0ar), (.int .i64 a0b)]), (.int .i64 a1)] S0 Q = G_stack_Stack_At Ca a0a a0ar a0b a1 S0 Q := by kernel_rfl
theorem stack_Stack_At_ok {w0 : World} {a0a : List (List AV)} {a0ar : Rt} {a0b : Int} {a1 : Int} {S0 : St} {Q : AV → St → Prop} (h : G_stack_Stack_At (ACalls (En w0)) a0a a0ar a0b a1 S0 Q) : AC w0 F_stack_Stack_At [(.agg [(.vs 2 a0a a0ar), (.int .i64 a0b)]), (.int .i64 a1)] S0 Q := fn_ok w0 Tryd.func38 (by kernel_rfl) (by rw [stack_Stack_At_eq]; exact h)
def G_law10_speaks (Ca : Nat → List AV → St → (AV → St → Prop) → Prop) (S0 : St) (Q : AV → St → Prop) : Prop :=
 Ca F_tree_Text [(.str [120])] S0 fun t6 S =>
 Ca F_tree_Text [(.str [121])] S fun t7 S_2 =>
 optK (elemVals 7 [t6, t7]) fun e8 =>
 Ca F_tree_Dir [(.vs 1 [[(.str [97])], [(.str [98])]] .full), (.vs 7 e8 .full)] S_2 fun t9 S_3 =>
 Ca F_tree_White [] S_3 fun t11 S_4 =>
 Ca F_tree_Link [(.str [98])] S_4 fun t12 S_5 =>
 optK (elemVals 7 [t11, t12]) fun e13 =>
 Ca F_tree_Dir [(.vs 1 [[(.str [97])], [(.str [99])]] .full), (.vs 7 e13 .full)] S_5 fun t14 S_6 =>
 optK (elemVals 7 [t9, t14]) fun e15 =>
 Ca F_stack_Of [(.vs 7 e15 .full)] S_6 fun t16 S_7 =>
 optK (extractA t16 0) fun t17 =>
 optK (extractA (stripTup t16 0) 1) fun t18 =>
 optK (lstoreA T_stack_Stack (some [(.vs 2 [] .nil), (.int .i64 0)]) 0 t17) fun b1 =>
 optK (binA .neq (AV.strip t18) (.int .i64 0)) fun t20 =>
 joinK (fun (x24 : AV) (S_9 : St) =>
 optK (pickA (AV.strip t20) (.bool true) x24) fun t25 =>
 ifK (AV.strip t25)
 (Q (.bool false) S_9)
 (optK (lloadA T_stack_Stack (some b1) 0) fun t26 =>
 optK (lloadA T_stack_Stack (some b1) 0) fun t27 =>
 callK Ca F_seen_Root [(AV.strip t27)] S_9 fun t28 S_10 =>
 callK Ca F_merge_List [(AV.strip t26), t28] S_10 fun t29 S_11 =>
 optK (lenSlA (AV.strip t29)) fun t31 =>
 optK (binA .eql t31 (.int .i64 2)) fun t32 =>
 joinK (fun (x38 : AV) =>
 optK (pickA (AV.strip t32) x38 (.bool false)) fun t39 =>
 joinK (fun (x45 : AV) =>
 optK (pickA (AV.strip (AV.strip t39)) x45 (.bool false)) fun t46 =>
 joinK (fun (x51 : AV) (S_13 : St) =>
 optK (pickA (AV.strip (AV.strip t46)) x51 (.bool false)) fun t52 =>
 Q (AV.strip t52) S_13) fun j_2 =>
 ifK (AV.strip (AV.strip t46))
 (callK Ca F_merge_Names [(AV.strip t29)] S_11 fun t49 S_12 =>
 optK (lenSlA t49) fun t50 =>
 optK (binA .eql t50 (.int .i64 2)) fun t51 =>
 j_2 t51 S_12)
 (j_2 (.tup []) S_11)) fun j_3 =>
 ifK (AV.strip (AV.strip t39))
 (optK (idxSlA T_merge_Entry (AV.strip t29) (.int .i64 1)) fun t42 =>
 optK (loadA T_merge_Entry S_11 t42) fun t43 =>
 optK (binE (.agg T_merge_Entry.zero) .eql (AV.strip t43) (.agg [(.str [99]), (.int .i64 3)])) fun t45 =>
 j_3 t45)
 (j_3 (.tup []))) fun j_4 =>
 ifK (AV.strip t32)
 (optK (idxSlA T_merge_Entry (AV.strip t29) (.int .i64 0)) fun t35 =>
 optK (loadA T_merge_Entry S_11 t35) fun t36 =>
 optK (binE (.agg T_merge_Entry.zero) .eql (AV.strip t36) (.agg [(.str [98]), (.int .i64 1)])) fun t38 =>
 j_4 t38)
 (j_4 (.tup [])))) fun j =>
 ifK (AV.strip t20)
 (j (.tup []) S_7)
 (optK (lloadA T_stack_Stack (some b1) 0) fun t22 =>
 callK Ca F_stack_Stack_Len [(AV.strip t22)] S_7 fun t23 S_8 =>
 optK (binA .neq t23 (.int .i64 2)) fun t24 =>
 j t24 S_8)
theorem law10_speaks_eq (Ca) (S0 Q) : WF C Ca 40 (Drw C Ca 40) Tryd.f40 [] S0 Q = G_law10_speaks Ca  S0 Q := by kernel_rfl
theorem law10_speaks_ok {w0 : World} {S0 : St} {Q : AV → St → Prop} (h : G_law10_speaks (ACalls (En w0))  S0 Q) : AC w0 F_law10_speaks [] S0 Q := fn_ok w0 Tryd.func40 (by kernel_rfl) (by rw [law10_speaks_eq]; exact h)
def G_branch_Branch_Kind (Ca : Nat → List AV → St → (AV → St → Prop) → Prop) (a0 : Nat) (a0o : Nat) (a1 : Int) (S0 : St) (Q : AV → St → Prop) : Prop :=
 Ca F_branch_Branch_at [(.ptr a0 a0o), (.int .i64 a1)] S0 fun t7 S =>
 optK (partA T_api_Node t7 0) fun t8 =>
 optK (partA T_int (AV.strip t8) 0) fun t9 =>
 Q (AV.strip t9) S
theorem branch_Branch_Kind_eq (Ca) (a0 : Nat) (a0o : Nat) (a1 : Int) (S0 Q) : WF C Ca 43 (Drw C Ca 43) Tryd.f43 [(.ptr a0 a0o), (.int .i64 a1)] S0 Q = G_branch_Branch_Kind Ca a0 a0o a1 S0 Q := by kernel_rfl
theorem branch_Branch_Kind_ok {w0 : World} {a0 : Nat} {a0o : Nat} {a1 : Int} {S0 : St} {Q : AV → St → Prop} (h : G_branch_Branch_Kind (ACalls (En w0)) a0 a0o a1 S0 Q) : AC w0 F_branch_Branch_Kind [(.ptr a0 a0o), (.int .i64 a1)] S0 Q := fn_ok w0 Tryd.func43 (by kernel_rfl) (by rw [branch_Branch_Kind_eq]; exact h)
def G_branch_Branch_Opaque (Ca : Nat → List AV → St → (AV → St → Prop) → Prop) (a0 : Nat) (a0o : Nat) (a1 : Int) (S0 : St) (Q : AV → St → Prop) : Prop :=
 Ca F_branch_Branch_at [(.ptr a0 a0o), (.int .i64 a1)] S0 fun t7 S =>
 optK (partA T_api_Node t7 0) fun t8 =>
 optK (partA T_bool (AV.strip t8) 1) fun t9 =>
 Q (AV.strip t9) S
theorem branch_Branch_Opaque_eq (Ca) (a0 : Nat) (a0o : Nat) (a1 : Int) (S0 Q) : WF C Ca 44 (Drw C Ca 44) Tryd.f44 [(.ptr a0 a0o), (.int .i64 a1)] S0 Q = G_branch_Branch_Opaque Ca a0 a0o a1 S0 Q := by kernel_rfl
theorem branch_Branch_Opaque_ok {w0 : World} {a0 : Nat} {a0o : Nat} {a1 : Int} {S0 : St} {Q : AV → St → Prop} (h : G_branch_Branch_Opaque (ACalls (En w0)) a0 a0o a1 S0 Q) : AC w0 F_branch_Branch_Opaque [(.ptr a0 a0o), (.int .i64 a1)] S0 Q := fn_ok w0 Tryd.func44 (by kernel_rfl) (by rw [branch_Branch_Opaque_eq]; exact h)
def G_branch_Branch_Names (Ca : Nat → List AV → St → (AV → St → Prop) → Prop) (a0 : Nat) (a0o : Nat) (a1 : Int) (S0 : St) (Q : AV → St → Prop) : Prop :=
 Ca F_branch_Branch_at [(.ptr a0 a0o), (.int .i64 a1)] S0 fun t7 S =>
 optK (partA T_api_Node t7 0) fun t8 =>
 optK (partA T_s_string (AV.strip t8) 2) fun t9 =>
 callK Ca F_slices_Clone_s_string_string [(AV.strip t9)] S fun t10 S_2 =>
 Q t10 S_2
theorem branch_Branch_Names_eq (Ca) (a0 : Nat) (a0o : Nat) (a1 : Int) (S0 Q) : WF C Ca 47 (Drw C Ca 47) Tryd.f47 [(.ptr a0 a0o), (.int .i64 a1)] S0 Q = G_branch_Branch_Names Ca a0 a0o a1 S0 Q := by kernel_rfl
theorem branch_Branch_Names_ok {w0 : World} {a0 : Nat} {a0o : Nat} {a1 : Int} {S0 : St} {Q : AV → St → Prop} (h : G_branch_Branch_Names (ACalls (En w0)) a0 a0o a1 S0 Q) : AC w0 F_branch_Branch_Names [(.ptr a0 a0o), (.int .i64 a1)] S0 Q := fn_ok w0 Tryd.func47 (by kernel_rfl) (by rw [branch_Branch_Names_eq]; exact h)
def G_stack_Of (Ca : Nat → List AV → St → (AV → St → Prop) → Prop) (a0 : List (List AV)) (a0r : Rt) (S0 : St) (Q : AV → St → Prop) : Prop :=
 joinK (fun (y2 : Option (List AV)) (y4 : Option (List AV)) (S_4 : St) =>
 optK (lloadA T_stack_Stack y4 0) fun t36 =>
 optK (lstoreA T_stack_Stack y2 0 (AV.strip t36)) fun b2_3 =>
 optK ((lloadA T_stack_Stack (some b2_3) 0).map AV.strip) fun r2_3 =>
 Q (.tup [(AV.flat r2_3), (.int .i64 0)]) S_4) fun j =>
 loopQ ([(.int .i64 0)], [(some [(.vs 2 [] .nil), (.int .i64 0)]), (some [(.vs 2 [] .nil), (.int .i64 0)])]) (fun v bx => ([v 11], [bx 2, bx 4])) (fun nx v bx S =>
 optK (binA .lss (v 11) (.int .i64 (List.length a0 : Int))) fun t12 =>
 ifK t12
 (optK (idxSlA T_api_Node (.vs 7 a0 (Rt.strip a0r)) (v 11)) fun t13 =>
 optK (loadA T_api_Node S t13) fun t14 =>
 optK (lstoreA T_api_Node (some [(.int .i64 0), (.bool false), (.vs 1 [] .nil), (.vs 7 [] .nil), (.int .i64 0), (.vs 2 [] .nil), (.str [])]) 0 (AV.strip t14)) fun b6 =>
 optK (lloadA T_api_Node (some b6) 0) fun t16 =>
 callK Ca F_branch_New [(AV.strip t16)] S fun t17 S_2 =>
 optK (extractA t17 0) fun t18 =>
 optK (extractA (stripTup t17 0) 1) fun t19 =>
 optK (binA .neq (AV.strip t19) (.int .i64 0)) fun t21 =>
 ifK t21
 (optK (lstoreA T_stack_Stack (bx 2) 0 (.agg [(.vs 2 [] .nil), (.int .i64 0)])) fun b2 =>
 optK ((lloadA T_stack_Stack (some b2) 0).map AV.strip) fun r2 =>
 Q (.tup [(AV.flat r2), (AV.flat (AV.strip t19))]) S_2)
 (optK (lloadA T_stack_Stack (bx 4) 0) fun t25 =>
 callK Ca F_stack_Stack_Add [(AV.strip t25), (AV.strip t18)] S_2 fun t27 S_3 =>
 optK (extractA t27 0) fun t28 =>
 optK (extractA (stripTup t27 0) 1) fun t29 =>
 optK (extractA (stripTup (stripTup t27 0) 1) 2) fun t30 =>
 optK (lstoreA T_stack_Stack (bx 4) 0 t28) fun b4 =>
 optK (binA .neq (AV.strip t30) (.int .i64 0)) fun t32 =>
 ifK t32
 (optK (lstoreA T_stack_Stack (bx 2) 0 (.agg [(.vs 2 [] .nil), (.int .i64 0)])) fun b2_2 =>
 optK ((lloadA T_stack_Stack (some b2_2) 0).map AV.strip) fun r2_2 =>
 Q (.tup [(AV.flat r2_2), (AV.flat (AV.strip t30))]) S_3)
 (optK (binA .add (v 11) (.int .i64 1)) fun t35 =>
 nx ([(AV.strip t35)], [(bx 2), (some b4)]) S_3)))
 (j (bx 2) (bx 4) S)) S0
theorem stack_Of_eq (Ca) (a0 : List (List AV)) (a0r : Rt) (S0 Q) : WF C Ca 53 (Drw C Ca 53) Tryd.f53 [(.vs 7 a0 a0r)] S0 Q = G_stack_Of Ca a0 a0r S0 Q := by kernel_rfl
theorem stack_Of_ok {w0 : World} {a0 : List (List AV)} {a0r : Rt} {S0 : St} {Q : AV → St → Prop} (h : G_stack_Of (ACalls (En w0)) a0 a0r S0 Q) : AC w0 F_stack_Of [(.vs 7 a0 a0r)] S0 Q := fn_ok w0 Tryd.func53 (by kernel_rfl) (by rw [stack_Of_eq]; exact h)
def G_tree_Dir (Ca : Nat → List AV → St → (AV → St → Prop) → Prop) (a0 : List (List AV)) (a0r : Rt) (a1 : List (List AV)) (a1r : Rt) (S0 : St) (Q : AV → St → Prop) : Prop :=
 Ca F_slices_Clone_s_string_string [(.vs 1 a0 (Rt.strip (Rt.strip a0r)))] S0 fun t6 S =>
 Ca F_slices_Clone_s_api_Node_api_Node [(.vs 7 a1 (Rt.strip (Rt.strip a1r)))] S fun t8 S_2 =>
 optK (buildA T_api_Node 1 [(0, (.int .i64 2)), (2, t6), (3, t8)]) fun t9 =>
 optK (lstoreA T_api_Node (some [(.int .i64 0), (.bool false), (.vs 1 [] .nil), (.vs 7 [] .nil), (.int .i64 0), (.vs 2 [] .nil), (.str [])]) 0 t9) fun b4 =>
 optK ((lloadA T_api_Node (some b4) 0).map AV.strip) fun r4 =>
 Q r4 S_2
theorem tree_Dir_eq (Ca) (a0 : List (List AV)) (a0r : Rt) (a1 : List (List AV)) (a1r : Rt) (S0 Q) : WF C Ca 54 (Drw C Ca 54) Tryd.f54 [(.vs 1 a0 a0r), (.vs 7 a1 a1r)] S0 Q = G_tree_Dir Ca a0 a0r a1 a1r S0 Q := by kernel_rfl
theorem tree_Dir_ok {w0 : World} {a0 : List (List AV)} {a0r : Rt} {a1 : List (List AV)} {a1r : Rt} {S0 : St} {Q : AV → St → Prop} (h : G_tree_Dir (ACalls (En w0)) a0 a0r a1 a1r S0 Q) : AC w0 F_tree_Dir [(.vs 1 a0 a0r), (.vs 7 a1 a1r)] S0 Q := fn_ok w0 Tryd.func54 (by kernel_rfl) (by rw [tree_Dir_eq]; exact h)
def G_tree_Text (Ca : Nat → List AV → St → (AV → St → Prop) → Prop) (a0 : List UInt8) (S0 : St) (Q : AV → St → Prop) : Prop :=
 Ca F_extent_Of [(.str a0)] S0 fun t6 S =>
 optK (buildA T_api_Node 1 [(0, (.int .i64 1)), (4, (.int .i64 (List.length a0 : Int))), (5, t6)]) fun t7 =>
 optK (lstoreA T_api_Node (some [(.int .i64 0), (.bool false), (.vs 1 [] .nil), (.vs 7 [] .nil), (.int .i64 0), (.vs 2 [] .nil), (.str [])]) 0 t7) fun b2 =>
 optK ((lloadA T_api_Node (some b2) 0).map AV.strip) fun r2 =>
 Q r2 S
theorem tree_Text_eq (Ca) (a0 : List UInt8) (S0 Q) : WF C Ca 55 (Drw C Ca 55) Tryd.f55 [(.str a0)] S0 Q = G_tree_Text Ca a0 S0 Q := by kernel_rfl
theorem tree_Text_ok {w0 : World} {a0 : List UInt8} {S0 : St} {Q : AV → St → Prop} (h : G_tree_Text (ACalls (En w0)) a0 S0 Q) : AC w0 F_tree_Text [(.str a0)] S0 Q := fn_ok w0 Tryd.func55 (by kernel_rfl) (by rw [tree_Text_eq]; exact h)
def G_tree_White (Ca : Nat → List AV → St → (AV → St → Prop) → Prop) (S0 : St) (Q : AV → St → Prop) : Prop :=
 Q (.agg [(.int .i64 4), (.bool false), (.vs 1 [] .nil), (.vs 7 [] .nil), (.int .i64 0), (.vs 2 [] .nil), (.str [])]) S0
theorem tree_White_eq (Ca) (S0 Q) : WF C Ca 56 (Drw C Ca 56) Tryd.f56 [] S0 Q = G_tree_White Ca  S0 Q := by kernel_rfl
theorem tree_White_ok {w0 : World} {S0 : St} {Q : AV → St → Prop} (h : G_tree_White (ACalls (En w0))  S0 Q) : AC w0 F_tree_White [] S0 Q := fn_ok w0 Tryd.func56 (by kernel_rfl) (by rw [tree_White_eq]; exact h)
def G_stack_Stack_Len (Ca : Nat → List AV → St → (AV → St → Prop) → Prop) (a0a : List (List AV)) (a0ar : Rt) (a0b : Int) (S0 : St) (Q : AV → St → Prop) : Prop :=
 optK (boxA T_stack_Stack (.agg [(.vs 2 a0a a0ar), (.int .i64 a0b)])) fun c1 =>
 optK (some c1) fun _ =>
 optK (lloadA T_s_stack_mount (some c1) 0) fun t4 =>
 optK (lenSlA (AV.strip t4)) fun t5 =>
 Q t5 S0
theorem stack_Stack_Len_eq (Ca) (a0a : List (List AV)) (a0ar : Rt) (a0b : Int) (S0 Q) : WF C Ca 57 (Drw C Ca 57) Tryd.f57 [(.agg [(.vs 2 a0a a0ar), (.int .i64 a0b)])] S0 Q = G_stack_Stack_Len Ca a0a a0ar a0b S0 Q := by kernel_rfl
theorem stack_Stack_Len_ok {w0 : World} {a0a : List (List AV)} {a0ar : Rt} {a0b : Int} {S0 : St} {Q : AV → St → Prop} (h : G_stack_Stack_Len (ACalls (En w0)) a0a a0ar a0b S0 Q) : AC w0 F_stack_Stack_Len [(.agg [(.vs 2 a0a a0ar), (.int .i64 a0b)])] S0 Q := fn_ok w0 Tryd.func57 (by kernel_rfl) (by rw [stack_Stack_Len_eq]; exact h)
def G_tree_Link (Ca : Nat → List AV → St → (AV → St → Prop) → Prop) (a0 : List UInt8) (S0 : St) (Q : AV → St → Prop) : Prop :=
 Q (.agg [(.int .i64 3), (.bool false), (.vs 1 [] .nil), (.vs 7 [] .nil), (.int .i64 0), (.vs 2 [] .nil), (.str a0)]) S0
theorem tree_Link_eq (Ca) (a0 : List UInt8) (S0 Q) : WF C Ca 61 (Drw C Ca 61) Tryd.f61 [(.str a0)] S0 Q = G_tree_Link Ca a0 S0 Q := by kernel_rfl
theorem tree_Link_ok {w0 : World} {a0 : List UInt8} {S0 : St} {Q : AV → St → Prop} (h : G_tree_Link (ACalls (En w0)) a0 S0 Q) : AC w0 F_tree_Link [(.str a0)] S0 Q := fn_ok w0 Tryd.func61 (by kernel_rfl) (by rw [tree_Link_eq]; exact h)
def G_tree_Right (Ca : Nat → List AV → St → (AV → St → Prop) → Prop) (a0a : Int) (a0b : Bool) (a0c : List (List AV)) (a0cr : Rt) (a0d : List (List AV)) (a0dr : Rt) (a0e : Int) (a0f : List (List AV)) (a0fr : Rt) (a0g : List UInt8) (S0 : St) (Q : AV → St → Prop) : Prop :=
 optK (boxA T_api_Node (.agg [(.int .i64 a0a), (.bool a0b), (.vs 1 a0c a0cr), (.vs 7 a0d a0dr), (.int .i64 a0e), (.vs 2 a0f a0fr), (.str a0g)])) fun c1 =>
 optK (storeA T_int (S0 ++ [.cells T_int.zero t_int]) (.ptr S0.length 0) (.int .i64 4096)) fun S =>
 optK (some c1) fun _ =>
 optK (lloadA T_int (some c1) 0) fun t5 =>
 optK (binA .eql (AV.strip t5) (.int .i64 2)) fun t6 =>
 joinK (fun (x9 : AV) (S_3 : St) =>
 optK (pickA (AV.strip t6) x9 (.bool false)) fun t10 =>
 Q (AV.strip t10) S_3) fun j =>
 ifK (AV.strip t6)
 (optK (lloadA T_api_Node (some c1) 0) fun t8 =>
 callK Ca F_tree_right [(AV.strip t8), (.int .i64 0), (.ptr S0.length 0)] S fun t9 S_2 =>
 j t9 S_2)
 (j (.tup []) S)
theorem tree_Right_eq (Ca) (a0a : Int) (a0b : Bool) (a0c : List (List AV)) (a0cr : Rt) (a0d : List (List AV)) (a0dr : Rt) (a0e : Int) (a0f : List (List AV)) (a0fr : Rt) (a0g : List UInt8) (S0 Q) : WF C Ca 66 (Drw C Ca 66) Tryd.f66 [(.agg [(.int .i64 a0a), (.bool a0b), (.vs 1 a0c a0cr), (.vs 7 a0d a0dr), (.int .i64 a0e), (.vs 2 a0f a0fr), (.str a0g)])] S0 Q = G_tree_Right Ca a0a a0b a0c a0cr a0d a0dr a0e a0f a0fr a0g S0 Q := by kernel_rfl
theorem tree_Right_ok {w0 : World} {a0a : Int} {a0b : Bool} {a0c : List (List AV)} {a0cr : Rt} {a0d : List (List AV)} {a0dr : Rt} {a0e : Int} {a0f : List (List AV)} {a0fr : Rt} {a0g : List UInt8} {S0 : St} {Q : AV → St → Prop} (h : G_tree_Right (ACalls (En w0)) a0a a0b a0c a0cr a0d a0dr a0e a0f a0fr a0g S0 Q) : AC w0 F_tree_Right [(.agg [(.int .i64 a0a), (.bool a0b), (.vs 1 a0c a0cr), (.vs 7 a0d a0dr), (.int .i64 a0e), (.vs 2 a0f a0fr), (.str a0g)])] S0 Q := fn_ok w0 Tryd.func66 (by kernel_rfl) (by rw [tree_Right_eq]; exact h)
def G_branch_Branch_add (Ca : Nat → List AV → St → (AV → St → Prop) → Prop) (a0 : Nat) (a0o : Nat) (a1a : Int) (a1b : Bool) (a1c : List (List AV)) (a1cr : Rt) (a1d : List (List AV)) (a1dr : Rt) (a1e : Int) (a1f : List (List AV)) (a1fr : Rt) (a1g : List UInt8) (S0 : St) (Q : AV → St → Prop) : Prop :=
 optK (boxA T_api_Node (.agg [(.int .i64 a1a), (.bool a1b), (.vs 1 a1c a1cr), (.vs 7 a1d a1dr), (.int .i64 a1e), (.vs 2 a1f a1fr), (.str a1g)])) fun c3 =>
 optK (loadA T_s_branch_inode S0 (.ptr a0 (a0o + 0))) fun t12 =>
 optK (lenSlA (AV.strip t12)) fun t13 =>
 optK (loadA T_s_branch_inode S0 (.ptr a0 (a0o + 0))) fun t18 =>
 optK (appendR T_branch_inode (stripMem S0 (.ptr a0 (a0o + 0))) (AV.strip0 t18) (.vs 8 [[(.int .i64 0), (.bool false), (.vs 1 [] .nil), (.vs 7 [] .nil), (.int .i64 0), (.vs 2 [] .nil), (.str []), (.vs 1 [] .nil)]] .full)) fun p21 =>
 optK (storeA T_s_branch_inode p21.2 (.ptr a0 (a0o + 0)) p21.1) fun S =>
 optK (lloadA T_api_Node (some c3) 0) fun t24 =>
 optK (buildA T_branch_inode 1 [(0, (AV.strip t24))]) fun t25 =>
 optK (lstoreA T_branch_inode (some [(.int .i64 0), (.bool false), (.vs 1 [] .nil), (.vs 7 [] .nil), (.int .i64 0), (.vs 2 [] .nil), (.str []), (.vs 1 [] .nil)]) 0 t25) fun b6 =>
 joinK (fun (y6 : Option (List AV)) (S_4 : St) =>
 optK (some c3) fun _ =>
 optK (lloadA T_s_string (some c3) 2) fun t43 =>
 optK (some c3) fun _ =>
 optK (lloadA T_s_api_Extent (some c3) 5) fun t46 =>
 optK y6 fun _ =>
 optK y6 fun _ =>
 callK Ca F_slices_Clone_s_string_string [(AV.strip t43)] S_4 fun t44 S_5 =>
 callK Ca F_slices_Clone_s_api_Extent_api_Extent [(AV.strip t46)] S_5 fun t47 S_6 =>
 optK (lstoreA T_s_api_Node y6 3 (.vs 7 [] .nil)) fun b6_3 =>
 optK (some b6_3) fun _ =>
 optK (some b6_3) fun _ =>
 optK (lstoreA T_s_string (some b6_3) 2 t44) fun b6_4 =>
 optK (some b6_4) fun _ =>
 optK (some b6_4) fun _ =>
 optK (lstoreA T_s_api_Extent (some b6_4) 5 t47) fun b6_5 =>
 optK (loadA T_s_branch_inode S_6 (.ptr a0 (a0o + 0))) fun t57 =>
 optK (lloadA T_branch_inode (some b6_5) 0) fun t59 =>
 optK (idxSlA T_branch_inode (AV.strip t57) (AV.strip t13)) fun t60 =>
 optK (storeA T_branch_inode S_6 t60 (AV.strip t59)) fun S_7 =>
 Q (AV.strip t13) S_7) fun j =>
 optK (some c3) fun _ =>
 optK (lloadA T_s_api_Node (some c3) 3) fun t27 =>
 optK (lenSlA (AV.strip t27)) fun t28 =>
 loopQ ([(.int .i64 0)], [(some b6)]) (fun v bx => ([v 29], [bx 6])) (fun nx v bx S_2 =>
 optK (binA .lss (v 29) t28) fun t30 =>
 ifK t30
 (optK (idxSlA T_api_Node (AV.strip t27) (v 29)) fun t31 =>
 optK (loadA T_api_Node S_2 t31) fun t32 =>
 optK (lstoreA T_api_Node (some [(.int .i64 0), (.bool false), (.vs 1 [] .nil), (.vs 7 [] .nil), (.int .i64 0), (.vs 2 [] .nil), (.str [])]) 0 (AV.strip t32)) fun b8 =>
 optK (bx 6) fun _ =>
 optK (lloadA T_api_Node (some b8) 0) fun t36 =>
 optK (lloadA T_s_int (bx 6) 7) fun t34 =>
 callK Ca F_branch_Branch_add [(.ptr a0 a0o), (AV.strip t36)] S_2 fun t37 S_3 =>
 optK (elemVals 1 [t37]) fun e38 =>
 optK (appendA T_int S_3 (AV.strip0 t34) (.vs 1 e38 .full)) fun t39 =>
 optK (stripBox (bx 6) 7) fun _ =>
 optK (lstoreA T_s_int (stripBox (bx 6) 7) 7 t39) fun b6_2 =>
 optK (binA .add (v 29) (.int .i64 1)) fun t41 =>
 nx ([(AV.strip t41)], [(some b6_2)]) S_3)
 (j (bx 6) S_2)) S
theorem branch_Branch_add_eq (Ca) (a0 : Nat) (a0o : Nat) (a1a : Int) (a1b : Bool) (a1c : List (List AV)) (a1cr : Rt) (a1d : List (List AV)) (a1dr : Rt) (a1e : Int) (a1f : List (List AV)) (a1fr : Rt) (a1g : List UInt8) (S0 Q) : WF C Ca 67 (Drw C Ca 67) Tryd.f67 [(.ptr a0 a0o), (.agg [(.int .i64 a1a), (.bool a1b), (.vs 1 a1c a1cr), (.vs 7 a1d a1dr), (.int .i64 a1e), (.vs 2 a1f a1fr), (.str a1g)])] S0 Q = G_branch_Branch_add Ca a0 a0o a1a a1b a1c a1cr a1d a1dr a1e a1f a1fr a1g S0 Q := by kernel_rfl
theorem branch_Branch_add_ok {w0 : World} {a0 : Nat} {a0o : Nat} {a1a : Int} {a1b : Bool} {a1c : List (List AV)} {a1cr : Rt} {a1d : List (List AV)} {a1dr : Rt} {a1e : Int} {a1f : List (List AV)} {a1fr : Rt} {a1g : List UInt8} {S0 : St} {Q : AV → St → Prop} (h : G_branch_Branch_add (ACalls (En w0)) a0 a0o a1a a1b a1c a1cr a1d a1dr a1e a1f a1fr a1g S0 Q) : AC w0 F_branch_Branch_add [(.ptr a0 a0o), (.agg [(.int .i64 a1a), (.bool a1b), (.vs 1 a1c a1cr), (.vs 7 a1d a1dr), (.int .i64 a1e), (.vs 2 a1f a1fr), (.str a1g)])] S0 Q := fn_ok w0 Tryd.func67 (by kernel_rfl) (by rw [branch_Branch_add_eq]; exact h)
def G_branch_Branch_at (Ca : Nat → List AV → St → (AV → St → Prop) → Prop) (a0 : Nat) (a0o : Nat) (a1 : Int) (S0 : St) (Q : AV → St → Prop) : Prop :=
 joinK (fun (x14 : AV) =>
 optK (pickA (.bool (decide (a1 < 0))) (.bool true) x14) fun t15 =>
 ifK (AV.strip t15)
 (Q (.agg [(.int .i64 0), (.bool false), (.vs 1 [] .nil), (.vs 7 [] .nil), (.int .i64 0), (.vs 2 [] .nil), (.str []), (.vs 1 [] .nil)]) S0)
 (optK (loadA T_s_branch_inode S0 (.ptr a0 (a0o + 0))) fun t20 =>
 optK (idxSlA T_branch_inode (AV.strip t20) (.int .i64 a1)) fun t22 =>
 optK (loadA T_branch_inode S0 t22) fun t23 =>
 optK (lstoreA T_branch_inode (some [(.int .i64 0), (.bool false), (.vs 1 [] .nil), (.vs 7 [] .nil), (.int .i64 0), (.vs 2 [] .nil), (.str []), (.vs 1 [] .nil)]) 0 (AV.strip t23)) fun b4 =>
 optK ((lloadA T_branch_inode (some b4) 0).map AV.strip) fun r4 =>
 Q r4 S0)) fun j =>
 ifK (.bool (decide (a1 < 0)))
 (j (.tup []))
 (optK (loadA T_s_branch_inode S0 (.ptr a0 (a0o + 0))) fun t12 =>
 optK (lenSlA (AV.strip t12)) fun t13 =>
 optK (binA .geq (.int .i64 a1) t13) fun t14 =>
 j t14)
theorem branch_Branch_at_eq (Ca) (a0 : Nat) (a0o : Nat) (a1 : Int) (S0 Q) : WF C Ca 68 (Drw C Ca 68) Tryd.f68 [(.ptr a0 a0o), (.int .i64 a1)] S0 Q = G_branch_Branch_at Ca a0 a0o a1 S0 Q := by kernel_rfl
theorem branch_Branch_at_ok {w0 : World} {a0 : Nat} {a0o : Nat} {a1 : Int} {S0 : St} {Q : AV → St → Prop} (h : G_branch_Branch_at (ACalls (En w0)) a0 a0o a1 S0 Q) : AC w0 F_branch_Branch_at [(.ptr a0 a0o), (.int .i64 a1)] S0 Q := fn_ok w0 Tryd.func68 (by kernel_rfl) (by rw [branch_Branch_at_eq]; exact h)
def G_slices_BinarySearch_s_string_string (Ca : Nat → List AV → St → (AV → St → Prop) → Prop) (a0 : List (List AV)) (a0r : Rt) (a1 : List UInt8) (S0 : St) (Q : AV → St → Prop) : Prop :=
 joinK (fun (x7 : AV) (S_3 : St) =>
 optK (binA .lss (AV.strip x7) (.int .i64 (List.length a0 : Int))) fun t34 =>
 joinK (fun (x52 : AV) (S_8 : St) =>
 optK (pickA (AV.strip t34) x52 (.bool false)) fun t53 =>
 Q (.tup [(AV.flat (AV.strip x7)), (AV.flat (AV.strip t53))]) S_8) fun j_3 =>
 ifK (AV.strip t34)
 (optK (idxSlA T_string (.vs 1 a0 (Rt.strip a0r)) (AV.strip x7)) fun t38 =>
 optK (loadA T_string S_3 t38) fun t39 =>
 optK (binA .eql (AV.strip t39) (.str a1)) fun t41 =>
 joinK (fun (x51 : AV) (S_7 : St) =>
 optK (pickA (AV.strip t41) (.bool true) x51) fun t52 =>
 j_3 (AV.strip t52) S_7) fun j_2 =>
 gK (AV.strip t41)
 (j_2 (.tup []) S_3)
 (optK (idxSlA T_string (.vs 1 a0 (Rt.strip a0r)) (AV.strip x7)) fun t45 =>
 optK (loadA T_string S_3 t45) fun t46 =>
 callK Ca F_slices_isNaN_string [(AV.strip t46)] S_3 fun t47 S_4 =>
 joinK (fun (x50 : AV) (S_6 : St) =>
 optK (pickA (AV.strip t47) x50 (.bool false)) fun t51 =>
 j_2 (AV.strip t51) S_6) fun j =>
 gK (AV.strip t47)
 (Ca F_slices_isNaN_string [(.str a1)] S_4 fun t50 S_5 =>
 j t50 S_5)
 (j (.tup []) S_4)
 (j (.tup []) S_4))
 (j_2 (.tup []) S_3))
 (j_3 (.tup []) S_3)) fun j_4 =>
 loopQ ([(.int .i64 0), (.int .i64 (List.length a0 : Int))], []) (fun v bx => ([v 7, v 8], [])) (fun nx v bx S =>
 optK (binA .lss (AV.strip (v 7)) (AV.strip (v 8))) fun t15 =>
 ifK t15
 (optK (binA .add (AV.strip (v 7)) (AV.strip (v 8))) fun t18 =>
 optK (convIntA .u64 t18) fun t19 =>
 optK (binA .shr t19 (.int .u64 1)) fun t20 =>
 optK (convIntA .i64 t20) fun t21 =>
 optK (idxSlA T_string (.vs 1 a0 (Rt.strip a0r)) (AV.strip t21)) fun t24 =>
 optK (loadA T_string S t24) fun t25 =>
 callK Ca F_cmp_Less_string [(AV.strip t25), (.str a1)] S fun t27 S_2 =>
 ifK t27
 (optK (binA .add (AV.strip t21) (.int .i64 1)) fun t29 =>
 nx ([t29, (v 8)], []) S_2)
 (nx ([(v 7), (AV.strip t21)], []) S_2))
 (j_4 (v 7) S)) S0
theorem slices_BinarySearch_s_string_string_eq (Ca) (a0 : List (List AV)) (a0r : Rt) (a1 : List UInt8) (S0 Q) : WF C Ca 69 (Drw C Ca 69) Tryd.f69 [(.vs 1 a0 a0r), (.str a1)] S0 Q = G_slices_BinarySearch_s_string_string Ca a0 a0r a1 S0 Q := by kernel_rfl
theorem slices_BinarySearch_s_string_string_ok {w0 : World} {a0 : List (List AV)} {a0r : Rt} {a1 : List UInt8} {S0 : St} {Q : AV → St → Prop} (h : G_slices_BinarySearch_s_string_string (ACalls (En w0)) a0 a0r a1 S0 Q) : AC w0 F_slices_BinarySearch_s_string_string [(.vs 1 a0 a0r), (.str a1)] S0 Q := fn_ok w0 Tryd.func69 (by kernel_rfl) (by rw [slices_BinarySearch_s_string_string_eq]; exact h)
def G_name_Split (Ca : Nat → List AV → St → (AV → St → Prop) → Prop) (a0 : List UInt8) (S0 : St) (Q : AV → St → Prop) : Prop :=
 joinK (fun (x12 : AV) =>
 optK (pickA (.bool (a0 == [])) (.bool true) x12) fun t13 =>
 ifK (AV.strip t13)
 (Q (.tup [(.vs 1 [] .nil), (.bool false), (.int .i64 1)]) S0)
 (joinK (fun (x2_2 : AV) (S_6 : St) =>
 optK (charA (.str a0) (.int .i64 0)) fun t42 =>
 optK (binA .eql t42 (.int .u8 47)) fun t43 =>
 Q (.tup [(AV.flat x2_2), (AV.flat t43), (.int .i64 0)]) S_6) fun j_5 =>
 Ca F_strings_Split [(.str a0), (.str [47])] S0 fun t15 S =>
 optK (lenSlA t15) fun t16 =>
 loopQ ([(.vs 1 [] .nil), (.int .i64 0)], []) (fun v bx => ([v 2, v 17], [])) (fun nx v bx S_2 =>
 optK (binA .lss (v 17) t16) fun t18 =>
 ifK t18
 (joinK (fun (x2 : AV) (S_5 : St) =>
 optK (binA .add (v 17) (.int .i64 1)) fun t39 =>
 nx ([x2, (AV.strip t39)], []) S_5) fun j_4 =>
 optK (idxSlA T_string t15 (v 17)) fun t19 =>
 optK (loadA T_string S_2 t19) fun t20 =>
 optK (binA .eql (AV.strip (AV.strip t20)) (.str [])) fun t23 =>
 joinK (fun (x26 : AV) =>
 optK (pickA (AV.strip t23) (.bool true) x26) fun t27 =>
 ifK (AV.strip t27)
 (j_4 (v 2) S_2)
 (optK (binA .eql (AV.strip (AV.strip t20)) (.str [46, 46])) fun t30 =>
 joinK (fun (x33 : AV) (S_4 : St) =>
 optK (pickA (AV.strip t30) (.bool true) x33) fun t34 =>
 ifK (AV.strip t34)
 (optK (elemVals 1 [(AV.strip (AV.strip t20))]) fun e37 =>
 optK (appendA T_string S_4 (v 2) (.vs 1 e37 .full)) fun t38 =>
 j_4 t38 S_4)
 (Q (.tup [(.vs 1 [] .nil), (.bool false), (.int .i64 1)]) S_4)) fun j_2 =>
 ifK (AV.strip t30)
 (j_2 (.tup []) S_2)
 (callK Ca F_name_Right [(AV.strip (AV.strip t20))] S_2 fun t33 S_3 =>
 j_2 t33 S_3))) fun j_3 =>
 ifK (AV.strip t23)
 (j_3 (.tup []))
 (optK (binA .eql (AV.strip (AV.strip t20)) (.str [46])) fun t26 =>
 j_3 t26))
 (j_5 (v 2) S_2)) S)) fun j =>
 ifK (.bool (a0 == []))
 (j (.tup []))
 (j (.bool (decide ((List.length a0 : Int) > 1024))))
theorem name_Split_eq (Ca) (a0 : List UInt8) (S0 Q) : WF C Ca 73 (Drw C Ca 73) Tryd.f73 [(.str a0)] S0 Q = G_name_Split Ca a0 S0 Q := by kernel_rfl
theorem name_Split_ok {w0 : World} {a0 : List UInt8} {S0 : St} {Q : AV → St → Prop} (h : G_name_Split (ACalls (En w0)) a0 S0 Q) : AC w0 F_name_Split [(.str a0)] S0 Q := fn_ok w0 Tryd.func73 (by kernel_rfl) (by rw [name_Split_eq]; exact h)
end Go.Av
set_option linter.unusedVariables false
namespace Go.Av
open Go.Proofs
def G_merge_List (Ca : Nat → List AV → St → (AV → St → Prop) → Prop) (a0a : List (List AV)) (a0ar : Rt) (a0b : Int) (a1 : List (List AV)) (a1r : Rt) (S0 : St) (Q : AV → St → Prop) : Prop :=
 optK (boxA T_stack_Stack (.agg [(.vs 2 a0a a0ar), (.int .i64 a0b)])) fun c2 =>
 optK (makeSliceA T_s_string false S0 (.int .i64 (List.length a1 : Int)) (.int .i64 (List.length a1 : Int))) fun p19 =>
 joinK (fun (y2 : Option (List AV)) (S_6 : St) =>
 joinK (fun (x9_2 : AV) (S_14 : St) =>
 Q (AV.strip x9_2) S_14) fun j_3 =>
 callK Ca F_heap_Merge [(AV.strip p19.1)] S_6 fun t42 S_7 =>
 callK Ca F_heap_First [t42] S_7 fun t43 S_8 =>
 optK (lenSlA t43) fun t44 =>
 loopQ ([(.vs 2 [] .nil), (.int .i64 0)], [y2]) (fun v_2 bx_2 => ([v_2 9, v_2 45], [bx_2 2])) (fun nx_2 v_2 bx_2 S_9 =>
 optK (binA .lss (v_2 45) t44) fun t46 =>
 ifK t46
 (joinK (fun (x9 : AV) (S_13 : St) =>
 optK (binA .add (v_2 45) (.int .i64 1)) fun t83 =>
 nx_2 ([x9, (AV.strip t83)], [(bx_2 2)]) S_13) fun j_2 =>
 optK (idxSlA T_heap_Item t43 (v_2 45)) fun t47 =>
 optK (loadA T_heap_Item S_9 t47) fun t48 =>
 optK (lstoreA T_heap_Item (some [(.str []), (.int .i64 0)]) 0 (AV.strip t48)) fun b11 =>
 optK (lloadA T_stack_Stack (bx_2 2) 0) fun t49 =>
 optK (some b11) fun _ =>
 optK (lloadA T_int (some b11) 1) fun t52 =>
 optK (idxSlA T_seen_Spot (.vs 2 a1 (Rt.strip a1r)) (AV.strip t52)) fun t53 =>
 optK (movePtr t53 0) fun t54 =>
 optK (loadA T_int S_9 t54) fun t55 =>
 optK (some b11) fun _ =>
 optK (lloadA T_int (some b11) 1) fun t59 =>
 optK (idxSlA T_seen_Spot (.vs 2 a1 (Rt.strip a1r)) (AV.strip t59)) fun t60 =>
 optK (movePtr t60 1) fun t61 =>
 optK (loadA T_int S_9 t61) fun t62 =>
 callK Ca F_stack_Stack_At [(AV.strip t49), (AV.strip t55)] S_9 fun t56 S_10 =>
 (optK (loadA T_int S_10 t61) fun t62_2 =>
 ((AV.strip t62_2) : AV) = (AV.strip t62)) ∧
 (optK (some b11) fun _ =>
 optK (lloadA T_string (some b11) 0) fun t67 =>
 callK Ca F_branch_Branch_Look [(AV.strip t56), (AV.strip (AV.strip t62)), (AV.strip t67)] S_10 fun t68 S_11 =>
 optK (extractA t68 0) fun t69 =>
 optK (extractA (stripTup t68 0) 1) fun t70 =>
 callK Ca F_branch_Branch_Kind [(AV.strip t56), (AV.strip t69)] S_11 fun t73 S_12 =>
 optK (binA .neq (AV.strip t73) (.int .i64 4)) fun t75 =>
 ifK t75
 (optK (some b11) fun _ =>
 optK (lloadA T_string (some b11) 0) fun t78 =>
 optK (buildA T_merge_Entry 1 [(0, (AV.strip t78)), (1, (AV.strip t73))]) fun t80 =>
 optK (elemVals 2 [t80]) fun e81 =>
 optK (appendA T_merge_Entry S_12 (v_2 9) (.vs 2 e81 .full)) fun t82 =>
 j_2 t82 S_12)
 (j_2 (v_2 9) S_12)))
 (j_3 (v_2 9) S_9)) S_8) fun j_4 =>
 loopQ ([(.int .i64 0)], [(some c2)]) (fun v bx => ([v 22], [bx 2])) (fun nx v bx S =>
 optK (binA .lss (v 22) (.int .i64 (List.length a1 : Int))) fun t23 =>
 ifK t23
 (joinK (fun (S_5 : St) =>
 optK (binA .add (v 22) (.int .i64 1)) fun t40 =>
 nx ([(AV.strip t40)], [(bx 2)]) S_5) fun j =>
 optK (idxSlA T_seen_Spot (.vs 2 a1 (Rt.strip a1r)) (v 22)) fun t25 =>
 optK (loadA T_seen_Spot S t25) fun t26 =>
 optK (lstoreA T_seen_Spot (some [(.int .i64 0), (.int .i64 0)]) 0 (AV.strip t26)) fun b7 =>
 optK (lloadA T_stack_Stack (bx 2) 0) fun t27 =>
 optK (some b7) fun _ =>
 optK (lloadA T_int (some b7) 0) fun t29 =>
 callK Ca F_stack_Stack_At [(AV.strip t27), (AV.strip t29)] S fun t30 S_2 =>
 optK (binE .ptr .neq (AV.strip t30) .nil) fun t32 =>
 ifK t32
 (optK (some b7) fun _ =>
 optK (lloadA T_int (some b7) 1) fun t37 =>
 callK Ca F_branch_Branch_Names [(AV.strip t30), (AV.strip t37)] S_2 fun t38 S_3 =>
 optK (idxSlA T_s_string (AV.strip p19.1) (AV.strip (AV.strip (v 22)))) fun t39 =>
 optK (storeA T_s_string S_3 t39 t38) fun S_4 =>
 j S_4)
 (j S_2))
 (j_4 (bx 2) S)) p19.2
theorem merge_List_eq (Ca) (a0a : List (List AV)) (a0ar : Rt) (a0b : Int) (a1 : List (List AV)) (a1r : Rt) (S0 Q) : WF C Ca 77 (Drw C Ca 77) Tryd.f77 [(.agg [(.vs 2 a0a a0ar), (.int .i64 a0b)]), (.vs 2 a1 a1r)] S0 Q = G_merge_List Ca a0a a0ar a0b a1 a1r S0 Q := by kernel_rfl
theorem merge_List_ok {w0 : World} {a0a : List (List AV)} {a0ar : Rt} {a0b : Int} {a1 : List (List AV)} {a1r : Rt} {S0 : St} {Q : AV → St → Prop} (h : G_merge_List (ACalls (En w0)) a0a a0ar a0b a1 a1r S0 Q) : AC w0 F_merge_List [(.agg [(.vs 2 a0a a0ar), (.int .i64 a0b)]), (.vs 2 a1 a1r)] S0 Q := fn_ok w0 Tryd.func77 (by kernel_rfl) (by rw [merge_List_eq]; exact h)
def G_merge_Names (Ca : Nat → List AV → St → (AV → St → Prop) → Prop) (a0 : List (List AV)) (a0r : Rt) (S0 : St) (Q : AV → St → Prop) : Prop :=
 optK (makeSliceA T_string false S0 (.int .i64 0) (.int .i64 (List.length a0 : Int))) fun p8 =>
 joinK (fun (x3 : AV) (S_2 : St) =>
 Q (AV.strip x3) S_2) fun j =>
 loopQ ([p8.1, (.int .i64 0)], []) (fun v bx => ([v 3, v 11], [])) (fun nx v bx S =>
 optK (binA .lss (v 11) (.int .i64 (List.length a0 : Int))) fun t12 =>
 ifK t12
 (optK (idxSlA T_merge_Entry (.vs 2 a0 (Rt.strip a0r)) (v 11)) fun t13 =>
 optK (loadA T_merge_Entry S t13) fun t14 =>
 optK (lstoreA T_merge_Entry (some [(.str []), (.int .i64 0)]) 0 (AV.strip t14)) fun b5 =>
 optK (some b5) fun _ =>
 optK (lloadA T_string (some b5) 0) fun t17 =>
 optK (elemVals 1 [(AV.strip t17)]) fun e18 =>
 optK (appendA T_string S (v 3) (.vs 1 e18 .full)) fun t19 =>
 optK (binA .add (v 11) (.int .i64 1)) fun t20 =>
 nx ([t19, (AV.strip t20)], []) S)
 (j (v 3) S)) p8.2
theorem merge_Names_eq (Ca) (a0 : List (List AV)) (a0r : Rt) (S0 Q) : WF C Ca 78 (Drw C Ca 78) Tryd.f78 [(.vs 2 a0 a0r)] S0 Q = G_merge_Names Ca a0 a0r S0 Q := by kernel_rfl
theorem merge_Names_ok {w0 : World} {a0 : List (List AV)} {a0r : Rt} {S0 : St} {Q : AV → St → Prop} (h : G_merge_Names (ACalls (En w0)) a0 a0r S0 Q) : AC w0 F_merge_Names [(.vs 2 a0 a0r)] S0 Q := fn_ok w0 Tryd.func78 (by kernel_rfl) (by rw [merge_Names_eq]; exact h)
def G_slices_Clone_s_string_string (Ca : Nat → List AV → St → (AV → St → Prop) → Prop) (a0 : List (List AV)) (a0r : Rt) (S0 : St) (Q : AV → St → Prop) : Prop :=
 optK (binE .slice .eql (.vs 1 a0 (Rt.strip a0r)) (.vs 1 [] .nil)) fun t4 =>
 ifK t4
 (Q (.vs 1 [] .nil) S0)
 (optK (appendA T_string S0 (.vs 1 [] .full) (.vs 1 a0 (Rt.strip a0r))) fun t7 =>
 Q t7 S0)
theorem slices_Clone_s_string_string_eq (Ca) (a0 : List (List AV)) (a0r : Rt) (S0 Q) : WF C Ca 79 (Drw C Ca 79) Tryd.f79 [(.vs 1 a0 a0r)] S0 Q = G_slices_Clone_s_string_string Ca a0 a0r S0 Q := by kernel_rfl
theorem slices_Clone_s_string_string_ok {w0 : World} {a0 : List (List AV)} {a0r : Rt} {S0 : St} {Q : AV → St → Prop} (h : G_slices_Clone_s_string_string (ACalls (En w0)) a0 a0r S0 Q) : AC w0 F_slices_Clone_s_string_string [(.vs 1 a0 a0r)] S0 Q := fn_ok w0 Tryd.func79 (by kernel_rfl) (by rw [slices_Clone_s_string_string_eq]; exact h)
def G_stack_Stack_Add (Ca : Nat → List AV → St → (AV → St → Prop) → Prop) (a0a : List (List AV)) (a0ar : Rt) (a0b : Int) (a1 : AV) (S0 : St) (Q : AV → St → Prop) : Prop :=
 optK (boxA T_stack_Stack (.agg [(.vs 2 a0a a0ar), (.int .i64 a0b)])) fun c2 =>
 optK (some c2) fun _ =>
 optK (lloadA T_s_stack_mount (some c2) 0) fun t8 =>
 optK (lenSlA (AV.strip t8)) fun t9 =>
 optK (binA .geq t9 (.int .i64 64)) fun t10 =>
 ifK t10
 (optK (lloadA T_stack_Stack (some c2) 0) fun t11 =>
 optK (lstoreA T_stack_Stack (some [(.vs 2 [] .nil), (.int .i64 0)]) 0 (AV.strip t11)) fun b4 =>
 optK ((lloadA T_stack_Stack (some b4) 0).map AV.strip) fun r4 =>
 Q (.tup [(AV.flat r4), (.int .i64 0), (.int .i64 6)]) S0)
 (optK (some c2) fun _ =>
 optK (lloadA T_int (some c2) 1) fun t13 =>
 optK (buildA T_stack_mount 1 [(0, (AV.strip t13)), (1, (AV.strip a1))]) fun t15 =>
 optK (elemVals 2 [t15]) fun e16 =>
 optK (some c2) fun _ =>
 optK (lloadA T_s_stack_mount (some c2) 0) fun t18 =>
 optK (some c2) fun _ =>
 optK (lloadA T_int (some c2) 1) fun t21 =>
 optK (binA .add (AV.strip t21) (.int .i64 1)) fun t22 =>
 optK (some c2) fun _ =>
 optK (lloadA T_int (some c2) 1) fun t25 =>
 optK (appendA T_stack_mount S0 (.vs 2 e16 .full) (AV.strip t18)) fun t19 =>
 optK (buildA T_stack_Stack 1 [(0, t19), (1, t22)]) fun t23 =>
 optK (lstoreA T_stack_Stack (some [(.vs 2 [] .nil), (.int .i64 0)]) 0 t23) fun b4_2 =>
 optK ((lloadA T_stack_Stack (some b4_2) 0).map AV.strip) fun r4_2 =>
 Q (.tup [(AV.flat r4_2), (AV.flat (AV.strip t25)), (.int .i64 0)]) S0)
theorem stack_Stack_Add_eq (Ca) (a0a : List (List AV)) (a0ar : Rt) (a0b : Int) (a1 : AV) (S0 Q) : WF C Ca 86 (Drw C Ca 86) Tryd.f86 [(.agg [(.vs 2 a0a a0ar), (.int .i64 a0b)]), a1] S0 Q = G_stack_Stack_Add Ca a0a a0ar a0b a1 S0 Q := by kernel_rfl
theorem stack_Stack_Add_ok {w0 : World} {a0a : List (List AV)} {a0ar : Rt} {a0b : Int} {a1 : AV} {S0 : St} {Q : AV → St → Prop} (h : G_stack_Stack_Add (ACalls (En w0)) a0a a0ar a0b a1 S0 Q) : AC w0 F_stack_Stack_Add [(.agg [(.vs 2 a0a a0ar), (.int .i64 a0b)]), a1] S0 Q := fn_ok w0 Tryd.func86 (by kernel_rfl) (by rw [stack_Stack_Add_eq]; exact h)
def G_slices_Clone_s_api_Node_api_Node (Ca : Nat → List AV → St → (AV → St → Prop) → Prop) (a0 : List (List AV)) (a0r : Rt) (S0 : St) (Q : AV → St → Prop) : Prop :=
 optK (binE .slice .eql (.vs 7 a0 (Rt.strip a0r)) (.vs 7 [] .nil)) fun t4 =>
 ifK t4
 (Q (.vs 7 [] .nil) S0)
 (optK (appendA T_api_Node S0 (.vs 7 [] .full) (.vs 7 a0 (Rt.strip a0r))) fun t7 =>
 Q t7 S0)
theorem slices_Clone_s_api_Node_api_Node_eq (Ca) (a0 : List (List AV)) (a0r : Rt) (S0 Q) : WF C Ca 87 (Drw C Ca 87) Tryd.f87 [(.vs 7 a0 a0r)] S0 Q = G_slices_Clone_s_api_Node_api_Node Ca a0 a0r S0 Q := by kernel_rfl
theorem slices_Clone_s_api_Node_api_Node_ok {w0 : World} {a0 : List (List AV)} {a0r : Rt} {S0 : St} {Q : AV → St → Prop} (h : G_slices_Clone_s_api_Node_api_Node (ACalls (En w0)) a0 a0r S0 Q) : AC w0 F_slices_Clone_s_api_Node_api_Node [(.vs 7 a0 a0r)] S0 Q := fn_ok w0 Tryd.func87 (by kernel_rfl) (by rw [slices_Clone_s_api_Node_api_Node_eq]; exact h)
def G_extent_Of (Ca : Nat → List AV → St → (AV → St → Prop) → Prop) (a0 : List UInt8) (S0 : St) (Q : AV → St → Prop) : Prop :=
 joinK (fun (x3_2 : AV) (S_4 : St) =>
 Q (AV.strip x3_2) S_4) fun j_4 =>
 loopQ ([(.str a0), (.vs 2 [] .nil), (.int .i64 0)], []) (fun v bx => ([v 0, v 3, v 4], [])) (fun nx v bx S =>
 optK (lenStrA (AV.strip (v 0))) fun t8 =>
 optK (binA .lss (AV.strip (v 4)) t8) fun t9 =>
 ifK t9
 (joinK (fun (x5 : AV) (S_3 : St) =>
 joinK (fun (x0 : AV) (x3 : AV) =>
 optK (binA .add (AV.strip x5) (.int .i64 1)) fun t36 =>
 nx ([x0, x3, t36], []) S_3) fun j_2 =>
 optK (binA .gtr (AV.strip x5) (AV.strip (v 4))) fun t25 =>
 ifK t25
 (optK (cutStrA (v 0) (some (AV.strip (v 4))) (some (AV.strip x5))) fun t31 =>
 optK (buildA T_api_Extent 1 [(0, (AV.strip (v 4))), (1, t31)]) fun t32 =>
 optK (elemVals 2 [t32]) fun e33 =>
 optK (appendA T_api_Extent S_3 (v 3) (.vs 2 e33 .full)) fun t34 =>
 j_2 (AV.strip (v 0)) t34)
 (j_2 (v 0) (v 3))) fun j_3 =>
 loopQ ([(AV.strip (v 4))], []) (fun v_2 bx_2 => ([v_2 5], [])) (fun nx_2 v_2 bx_2 S_2 =>
 optK (lenStrA (AV.strip (v 0))) fun t13 =>
 optK (binA .lss (AV.strip (v_2 5)) t13) fun t14 =>
 joinK (fun (x19 : AV) =>
 optK (pickA (AV.strip t14) x19 (.bool false)) fun t20 =>
 ifK (AV.strip t20)
 (optK (binA .add (AV.strip (v_2 5)) (.int .i64 1)) fun t22 =>
 nx_2 ([t22], []) S_2)
 (j_3 (v_2 5) S_2)) fun j =>
 ifK (AV.strip t14)
 (optK (charA (AV.strip (v 0)) (AV.strip (v_2 5))) fun t18 =>
 optK (binA .neq t18 (.int .u8 0)) fun t19 =>
 j t19)
 (j (.tup []))) S)
 (j_4 (v 3) S)) S0
theorem extent_Of_eq (Ca) (a0 : List UInt8) (S0 Q) : WF C Ca 88 (Drw C Ca 88) Tryd.f88 [(.str a0)] S0 Q = G_extent_Of Ca a0 S0 Q := by kernel_rfl
theorem extent_Of_ok {w0 : World} {a0 : List UInt8} {S0 : St} {Q : AV → St → Prop} (h : G_extent_Of (ACalls (En w0)) a0 S0 Q) : AC w0 F_extent_Of [(.str a0)] S0 Q := fn_ok w0 Tryd.func88 (by kernel_rfl) (by rw [extent_Of_eq]; exact h)
def G_tree_right (Ca : Nat → List AV → St → (AV → St → Prop) → Prop) (a0a : Int) (a0b : Bool) (a0c : List (List AV)) (a0cr : Rt) (a0d : List (List AV)) (a0dr : Rt) (a0e : Int) (a0f : List (List AV)) (a0fr : Rt) (a0g : List UInt8) (a1 : Int) (a2 : AV) (S0 : St) (Q : AV → St → Prop) : Prop :=
 optK (boxA T_api_Node (.agg [(.int .i64 a0a), (.bool a0b), (.vs 1 a0c a0cr), (.vs 7 a0d a0dr), (.int .i64 a0e), (.vs 2 a0f a0fr), (.str a0g)])) fun c3 =>
 optK (nilA (AV.strip a2)) fun t13 =>
 optK (loadA T_int S0 t13) fun t14 =>
 optK (binA .sub (AV.strip t14) (.int .i64 1)) fun t15 =>
 optK (nilA (AV.strip a2)) fun t16 =>
 optK (storeA T_int S0 t16 t15) fun S =>
 optK (nilA (AV.strip a2)) fun t18 =>
 optK (loadA T_int S t18) fun t19 =>
 optK (binA .lss (AV.strip t19) (.int .i64 0)) fun t20 =>
 joinK (fun (x23 : AV) =>
 optK (pickA (AV.strip t20) (.bool true) x23) fun t24 =>
 joinK (fun (x28 : AV) (S_3 : St) =>
 optK (pickA (AV.strip (AV.strip t24)) (.bool true) x28) fun t29 =>
 ifK (AV.strip t29)
 (Q (.bool false) S_3)
 (joinK (
 Q (.bool false) S_3) fun j_5 =>
 optK (some c3) fun _ =>
 optK (lloadA T_int (some c3) 0) fun t31 =>
 optK (binA .eql (AV.strip t31) (.int .i64 1)) fun t33 =>
 ifK t33
 (optK (some c3) fun _ =>
 optK (lloadA T_int (some c3) 4) fun t35 =>
 optK (some c3) fun _ =>
 optK (lloadA T_s_api_Extent (some c3) 5) fun t37 =>
 callK Ca F_extent_Right [(AV.strip t35), (AV.strip t37)] S_3 fun t38 S_4 =>
 Q t38 S_4)
 (optK (binA .eql (AV.strip t31) (.int .i64 3)) fun t40 =>
 ifK t40
 (optK (some c3) fun _ =>
 optK (lloadA T_string (some c3) 6) fun t43 =>
 callK Ca F_name_Split [(AV.strip t43)] S_3 fun t44 S_5 =>
 optK (extractA t44 0) fun t45 =>
 optK (extractA (stripTup t44 0) 1) fun t46 =>
 optK (extractA (stripTup (stripTup t44 0) 1) 2) fun t47 =>
 optK (binA .eql (AV.strip t47) (.int .i64 0)) fun t49 =>
 joinK (fun (x54 : AV) =>
 optK (pickA (AV.strip t49) x54 (.bool false)) fun t55 =>
 Q (AV.strip t55) S_5) fun j_3 =>
 ifK (AV.strip t49)
 (optK (some c3) fun _ =>
 optK (lloadA T_string (some c3) 6) fun t52 =>
 optK (lenStrA (AV.strip t52)) fun t53 =>
 optK (binA .leq t53 (.int .i64 256)) fun t54 =>
 j_3 t54)
 (j_3 (.tup [])))
 (optK (binA .eql (AV.strip t31) (.int .i64 4)) fun t57 =>
 ifK t57
 (Q (.bool true) S_3)
 (optK (binA .eql (AV.strip t31) (.int .i64 2)) fun t59 =>
 ifK t59
 (optK (lloadA T_api_Node (some c3) 0) fun t60 =>
 callK Ca F_tree_names [(AV.strip t60)] S_3 fun t61 S_6 =>
 optK (unA .not t61) fun t62 =>
 ifK t62
 (Q (.bool false) S_6)
 (joinK (fun (S_9 : St) =>
 Q (.bool true) S_9) fun j_4 =>
 optK (some c3) fun _ =>
 optK (lloadA T_s_api_Node (some c3) 3) fun t64 =>
 optK (lenSlA (AV.strip t64)) fun t65 =>
 loopQ ([(.int .i64 0)], []) (fun v bx => ([v 66], [])) (fun nx v bx S_7 =>
 optK (binA .lss (v 66) t65) fun t67 =>
 ifK t67
 (optK (idxSlA T_api_Node (AV.strip t64) (v 66)) fun t68 =>
 optK (loadA T_api_Node S_7 t68) fun t69 =>
 optK (lstoreA T_api_Node (some [(.int .i64 0), (.bool false), (.vs 1 [] .nil), (.vs 7 [] .nil), (.int .i64 0), (.vs 2 [] .nil), (.str [])]) 0 (AV.strip t69)) fun b11 =>
 optK (lloadA T_api_Node (some b11) 0) fun t70 =>
 callK Ca F_tree_right [(AV.strip t70), (.int .i64 (IntKind.i64.wrap (a1 + 1))), (AV.strip a2)] S_7 fun t74 S_8 =>
 optK (unA .not t74) fun t75 =>
 ifK t75
 (Q (.bool false) S_8)
 (optK (binA .add (v 66) (.int .i64 1)) fun t76 =>
 nx ([(AV.strip t76)], []) S_8))
 (j_4 S_7)) S_6))
 (j_5)))))) fun j =>
 ifK (AV.strip (AV.strip t24))
 (j (.tup []) S)
 (optK (lloadA T_api_Node (some c3) 0) fun t26 =>
 callK Ca F_tree_zero [(AV.strip t26)] S fun t27 S_2 =>
 optK (unA .not t27) fun t28 =>
 j t28 S_2)) fun j_2 =>
 ifK (AV.strip t20)
 (j_2 (.tup []))
 (j_2 (.bool (decide (a1 > 15))))
theorem tree_right_eq (Ca) (a0a : Int) (a0b : Bool) (a0c : List (List AV)) (a0cr : Rt) (a0d : List (List AV)) (a0dr : Rt) (a0e : Int) (a0f : List (List AV)) (a0fr : Rt) (a0g : List UInt8) (a1 : Int) (a2 : AV) (S0 Q) : WF C Ca 91 (Drw C Ca 91) Tryd.f91 [(.agg [(.int .i64 a0a), (.bool a0b), (.vs 1 a0c a0cr), (.vs 7 a0d a0dr), (.int .i64 a0e), (.vs 2 a0f a0fr), (.str a0g)]), (.int .i64 a1), a2] S0 Q = G_tree_right Ca a0a a0b a0c a0cr a0d a0dr a0e a0f a0fr a0g a1 a2 S0 Q := by kernel_rfl
theorem tree_right_ok {w0 : World} {a0a : Int} {a0b : Bool} {a0c : List (List AV)} {a0cr : Rt} {a0d : List (List AV)} {a0dr : Rt} {a0e : Int} {a0f : List (List AV)} {a0fr : Rt} {a0g : List UInt8} {a1 : Int} {a2 : AV} {S0 : St} {Q : AV → St → Prop} (h : G_tree_right (ACalls (En w0)) a0a a0b a0c a0cr a0d a0dr a0e a0f a0fr a0g a1 a2 S0 Q) : AC w0 F_tree_right [(.agg [(.int .i64 a0a), (.bool a0b), (.vs 1 a0c a0cr), (.vs 7 a0d a0dr), (.int .i64 a0e), (.vs 2 a0f a0fr), (.str a0g)]), (.int .i64 a1), a2] S0 Q := fn_ok w0 Tryd.func91 (by kernel_rfl) (by rw [tree_right_eq]; exact h)
def G_slices_Clone_s_api_Extent_api_Extent (Ca : Nat → List AV → St → (AV → St → Prop) → Prop) (a0 : List (List AV)) (a0r : Rt) (S0 : St) (Q : AV → St → Prop) : Prop :=
 optK (binE .slice .eql (.vs 2 a0 (Rt.strip a0r)) (.vs 2 [] .nil)) fun t4 =>
 ifK t4
 (Q (.vs 2 [] .nil) S0)
 (optK (appendA T_api_Extent S0 (.vs 2 [] .full) (.vs 2 a0 (Rt.strip a0r))) fun t7 =>
 Q t7 S0)
theorem slices_Clone_s_api_Extent_api_Extent_eq (Ca) (a0 : List (List AV)) (a0r : Rt) (S0 Q) : WF C Ca 92 (Drw C Ca 92) Tryd.f92 [(.vs 2 a0 a0r)] S0 Q = G_slices_Clone_s_api_Extent_api_Extent Ca a0 a0r S0 Q := by kernel_rfl
theorem slices_Clone_s_api_Extent_api_Extent_ok {w0 : World} {a0 : List (List AV)} {a0r : Rt} {S0 : St} {Q : AV → St → Prop} (h : G_slices_Clone_s_api_Extent_api_Extent (ACalls (En w0)) a0 a0r S0 Q) : AC w0 F_slices_Clone_s_api_Extent_api_Extent [(.vs 2 a0 a0r)] S0 Q := fn_ok w0 Tryd.func92 (by kernel_rfl) (by rw [slices_Clone_s_api_Extent_api_Extent_eq]; exact h)
def G_cmp_Less_string (Ca : Nat → List AV → St → (AV → St → Prop) → Prop) (a0 : List UInt8) (a1 : List UInt8) (S0 : St) (Q : AV → St → Prop) : Prop :=
 Ca F_cmp_isNaN_string [(.str a0)] S0 fun t6 S =>
 joinK (fun (x10 : AV) (S_3 : St) =>
 optK (pickA (AV.strip t6) x10 (.bool false)) fun t11 =>
 joinK (fun (x15 : AV) =>
 optK (pickA (AV.strip (AV.strip t11)) (.bool true) x15) fun t16 =>
 Q (AV.strip t16) S_3) fun j =>
 ifK (AV.strip (AV.strip t11))
 (j (.tup []))
 (j (.bool (Op.bytesLess a0 a1)))) fun j_2 =>
 ifK (AV.strip t6)
 (Ca F_cmp_isNaN_string [(.str a1)] S fun t9 S_2 =>
 optK (unA .not t9) fun t10 =>
 j_2 t10 S_2)
 (j_2 (.tup []) S)
theorem cmp_Less_string_eq (Ca) (a0 : List UInt8) (a1 : List UInt8) (S0 Q) : WF C Ca 93 (Drw C Ca 93) Tryd.f93 [(.str a0), (.str a1)] S0 Q = G_cmp_Less_string Ca a0 a1 S0 Q := by kernel_rfl
theorem cmp_Less_string_ok {w0 : World} {a0 : List UInt8} {a1 : List UInt8} {S0 : St} {Q : AV → St → Prop} (h : G_cmp_Less_string (ACalls (En w0)) a0 a1 S0 Q) : AC w0 F_cmp_Less_string [(.str a0), (.str a1)] S0 Q := fn_ok w0 Tryd.func93 (by kernel_rfl) (by rw [cmp_Less_string_eq]; exact h)
def G_slices_isNaN_string (Ca : Nat → List AV → St → (AV → St → Prop) → Prop) (a0 : List UInt8) (S0 : St) (Q : AV → St → Prop) : Prop :=
 Q (.bool (!(a0 == a0))) S0
theorem slices_isNaN_string_eq (Ca) (a0 : List UInt8) (S0 Q) : WF C Ca 94 (Drw C Ca 94) Tryd.f94 [(.str a0)] S0 Q = G_slices_isNaN_string Ca a0 S0 Q := by kernel_rfl
theorem slices_isNaN_string_ok {w0 : World} {a0 : List UInt8} {S0 : St} {Q : AV → St → Prop} (h : G_slices_isNaN_string (ACalls (En w0)) a0 S0 Q) : AC w0 F_slices_isNaN_string [(.str a0)] S0 Q := fn_ok w0 Tryd.func94 (by kernel_rfl) (by rw [slices_isNaN_string_eq]; exact h)
def G_name_Right (Ca : Nat → List AV → St → (AV → St → Prop) → Prop) (a0 : List UInt8) (S0 : St) (Q : AV → St → Prop) : Prop :=
 joinK (fun (x7 : AV) =>
 optK (pickA (.bool (!(a0 == []))) x7 (.bool false)) fun t8 =>
 joinK (fun (x11 : AV) =>
 optK (pickA (AV.strip (AV.strip t8)) x11 (.bool false)) fun t12 =>
 joinK (fun (x16 : AV) =>
 optK (pickA (AV.strip (AV.strip t12)) x16 (.bool false)) fun t17 =>
 joinK (fun (x21 : AV) (S_2 : St) =>
 optK (pickA (AV.strip (AV.strip t17)) x21 (.bool false)) fun t22 =>
 Q (AV.strip t22) S_2) fun j =>
 ifK (AV.strip (AV.strip t17))
 (Ca F_strings_ContainsAny [(.str a0), (.str [47, 0])] S0 fun t20 S =>
 optK (unA .not t20) fun t21 =>
 j t21 S)
 (j (.tup []) S0)) fun j_2 =>
 ifK (AV.strip (AV.strip t12))
 (j_2 (.bool (decide ((List.length a0 : Int) ≤ 64))))
 (j_2 (.tup []))) fun j_3 =>
 ifK (AV.strip (AV.strip t8))
 (j_3 (.bool (!(a0 == [46, 46]))))
 (j_3 (.tup []))) fun j_4 =>
 ifK (.bool (!(a0 == [])))
 (j_4 (.bool (!(a0 == [46]))))
 (j_4 (.tup []))
theorem name_Right_eq (Ca) (a0 : List UInt8) (S0 Q) : WF C Ca 98 (Drw C Ca 98) Tryd.f98 [(.str a0)] S0 Q = G_name_Right Ca a0 S0 Q := by kernel_rfl
theorem name_Right_ok {w0 : World} {a0 : List UInt8} {S0 : St} {Q : AV → St → Prop} (h : G_name_Right (ACalls (En w0)) a0 S0 Q) : AC w0 F_name_Right [(.str a0)] S0 Q := fn_ok w0 Tryd.func98 (by kernel_rfl) (by rw [name_Right_eq]; exact h)
def G_heap_First (Ca : Nat → List AV → St → (AV → St → Prop) → Prop) (a0 : List (List AV)) (a0r : Rt) (S0 : St) (Q : AV → St → Prop) : Prop :=
 joinK (fun (x3_2 : AV) (S_2 : St) =>
 Q (AV.strip x3_2) S_2) fun j_3 =>
 loopQ ([(.vs 2 [] .nil), (.int .i64 0)], []) (fun v bx => ([v 3, v 8], [])) (fun nx v bx S =>
 optK (binA .lss (v 8) (.int .i64 (List.length a0 : Int))) fun t9 =>
 ifK t9
 (joinK (fun (x3 : AV) =>
 optK (binA .add (v 8) (.int .i64 1)) fun t30 =>
 nx ([x3, (AV.strip t30)], []) S) fun j_2 =>
 optK (idxSlA T_heap_Item (.vs 2 a0 (Rt.strip a0r)) (v 8)) fun t11 =>
 optK (loadA T_heap_Item S t11) fun t12 =>
 optK (lstoreA T_heap_Item (some [(.str []), (.int .i64 0)]) 0 (AV.strip t12)) fun b5 =>
 optK (binA .eql (AV.strip (AV.strip (v 8))) (.int .i64 0)) fun t14 =>
 joinK (fun (x24 : AV) =>
 optK (pickA (AV.strip t14) (.bool true) x24) fun t25 =>
 ifK (AV.strip t25)
 (optK (lloadA T_heap_Item (some b5) 0) fun t27 =>
 optK (elemVals 2 [(AV.strip t27)]) fun e28 =>
 optK (appendA T_heap_Item S (v 3) (.vs 2 e28 .full)) fun t29 =>
 j_2 t29)
 (j_2 (v 3))) fun j =>
 ifK (AV.strip t14)
 (j (.tup []))
 (optK (binA .sub (AV.strip (AV.strip (v 8))) (.int .i64 1)) fun t18 =>
 optK (idxSlA T_heap_Item (.vs 2 a0 (Rt.strip a0r)) t18) fun t19 =>
 optK (movePtr t19 0) fun t20 =>
 optK (loadA T_string S t20) fun t21 =>
 optK (some b5) fun _ =>
 optK (lloadA T_string (some b5) 0) fun t23 =>
 optK (binA .neq (AV.strip t21) (AV.strip t23)) fun t24 =>
 j t24))
 (j_3 (v 3) S)) S0
theorem heap_First_eq (Ca) (a0 : List (List AV)) (a0r : Rt) (S0 Q) : WF C Ca 99 (Drw C Ca 99) Tryd.f99 [(.vs 2 a0 a0r)] S0 Q = G_heap_First Ca a0 a0r S0 Q := by kernel_rfl
theorem heap_First_ok {w0 : World} {a0 : List (List AV)} {a0r : Rt} {S0 : St} {Q : AV → St → Prop} (h : G_heap_First (ACalls (En w0)) a0 a0r S0 Q) : AC w0 F_heap_First [(.vs 2 a0 a0r)] S0 Q := fn_ok w0 Tryd.func99 (by kernel_rfl) (by rw [heap_First_eq]; exact h)
def G_heap_Merge (Ca : Nat → List AV → St → (AV → St → Prop) → Prop) (a0 : List (List AV)) (a0r : Rt) (S0 : St) (Q : AV → St → Prop) : Prop :=
 optK (boxA T_heap_heads (.agg [(.vs 3 [] .nil), (.fn F_heap_Item_less [] [])])) fun c10 =>
 joinK (fun (x4_2 : AV) (S_4 : St) =>
 optK (ifaceA T_p_heap_heads t_p_heap_heads (.ptr S0.length 0)) fun t44 =>
 callK Ca F_cheap_Init [t44] S_4 fun t45 S_5 =>
 optK (makeSliceA T_heap_Item false S_5 (.int .i64 0) (AV.strip x4_2)) fun p47 =>
 joinK (fun (x7 : AV) (S_12 : St) =>
 Q (AV.strip x7) S_12) fun j_2 =>
 loopQ ([p47.1], []) (fun v_2 bx_2 => ([v_2 7], [])) (fun nx_2 v_2 bx_2 S_6 =>
 Ca F_heap_heads_Len [(.ptr S0.length 0)] S_6 fun t49 S_7 =>
 optK (binA .gtr t49 (.int .i64 0)) fun t50 =>
 ifK t50
 (optK (loadA T_s_heap_head S_7 (.ptr S0.length 0)) fun t54 =>
 optK (idxSlA T_heap_head (AV.strip t54) (.int .i64 0)) fun t55 =>
 optK (nilA (AV.strip t55)) fun t58 =>
 optK (movePtr t58 0) fun t59 =>
 optK (loadA T_heap_Item S_7 t59) fun t60 =>
 optK (elemVals 2 [(AV.strip t60)]) fun e61 =>
 optK (appendA T_heap_Item S_7 (v_2 7) (.vs 2 e61 .full)) fun t62 =>
 optK (nilA (AV.strip t55)) fun t64 =>
 optK (movePtr t64 2) fun t65 =>
 optK (loadA T_s_string S_7 t65) fun t66 =>
 optK (lenSlA (AV.strip t66)) fun t67 =>
 optK (binA .eql t67 (.int .i64 0)) fun t68 =>
 ifK t68
 (optK (ifaceA T_p_heap_heads t_p_heap_heads (.ptr S0.length 0)) fun t70 =>
 callK Ca F_cheap_Pop [t70] S_7 fun t71 S_8 =>
 nx_2 ([t62], []) S_8)
 (optK (nilA (AV.strip t55)) fun t75 =>
 optK (movePtr t75 2) fun t76 =>
 optK (loadA T_s_string S_7 t76) fun t77 =>
 optK (idxSlA T_string (AV.strip t77) (.int .i64 0)) fun t78 =>
 optK (loadA T_string S_7 t78) fun t79 =>
 optK (nilA (AV.strip t55)) fun t81 =>
 optK (movePtr t81 2) fun t82 =>
 optK (loadA T_s_string S_7 t82) fun t83 =>
 optK (nilA (AV.strip t55)) fun t85 =>
 optK (movePtr t85 0) fun t86 =>
 optK (movePtr t86 0) fun t87 =>
 optK (cutA T_string (AV.strip t83) (some (.int .i64 1)) none none) fun t84 =>
 optK (storeA T_string S_7 t87 (AV.strip t79)) fun S_9 =>
 optK (nilA (AV.strip t55)) fun t88 =>
 optK (movePtr t88 2) fun t89 =>
 optK (storeA T_s_string S_9 t89 t84) fun S_10 =>
 optK (ifaceA T_p_heap_heads t_p_heap_heads (.ptr S0.length 0)) fun t91 =>
 callK Ca F_cheap_Fix [t91, (.int .i64 0)] S_10 fun t92 S_11 =>
 nx_2 ([t62], []) S_11))
 (j_2 (v_2 7) S_7)) p47.2) fun j_3 =>
 loopQ ([(.int .i64 0), (.int .i64 0)], []) (fun v bx => ([v 4, v 13], [])) (fun nx v bx S =>
 optK (binA .lss (v 13) (.int .i64 (List.length a0 : Int))) fun t14 =>
 ifK t14
 (joinK (fun (x4 : AV) (S_3 : St) =>
 optK (binA .add (v 13) (.int .i64 1)) fun t42 =>
 nx ([x4, (AV.strip t42)], []) S_3) fun j =>
 optK (idxSlA T_s_string (.vs 1 a0 (Rt.strip a0r)) (v 13)) fun t16 =>
 optK (loadA T_s_string S t16) fun t17 =>
 optK (lenSlA (AV.strip (AV.strip t17))) fun t20 =>
 optK (binA .add (AV.strip (v 4)) t20) fun t21 =>
 optK (lenSlA (AV.strip (AV.strip t17))) fun t23 =>
 optK (binA .gtr t23 (.int .i64 0)) fun t24 =>
 ifK t24
 (optK (idxSlA T_string (AV.strip (AV.strip t17)) (.int .i64 0)) fun t31 =>
 optK (loadA T_string S t31) fun t32 =>
 optK (buildA T_heap_Item 1 [(0, (AV.strip t32)), (1, (AV.strip (AV.strip (v 13))))]) fun t34 =>
 optK (cutA T_string (AV.strip (AV.strip t17)) (some (.int .i64 1)) none none) fun t36 =>
 optK (buildA T_heap_head 1 [(0, t34), (1, t36)]) fun t37 =>
 optK (elemVals 3 [t37]) fun e38 =>
 optK (loadA T_s_heap_head S (.ptr S0.length 0)) fun t29 =>
 (optK (loadA T_string (stripMem S (.ptr S0.length 0)) t31) fun t32_2 =>
 ((AV.strip t32_2) : AV) = (AV.strip t32)) ∧
 (optK (appendR T_heap_head (stripMem S (.ptr S0.length 0)) (AV.strip0 t29) (.vs 3 e38 .full)) fun p39 =>
 optK (storeA T_s_heap_head p39.2 (.ptr S0.length 0) p39.1) fun S_2 =>
 j t21 S_2))
 (j t21 S))
 (j_3 (v 4) S)) (S0 ++ [.cells c10 t_heap_heads])
theorem heap_Merge_eq (Ca) (a0 : List (List AV)) (a0r : Rt) (S0 Q) : WF C Ca 100 (Drw C Ca 100) Tryd.f100 [(.vs 1 a0 a0r)] S0 Q = G_heap_Merge Ca a0 a0r S0 Q := by kernel_rfl
theorem heap_Merge_ok {w0 : World} {a0 : List (List AV)} {a0r : Rt} {S0 : St} {Q : AV → St → Prop} (h : G_heap_Merge (ACalls (En w0)) a0 a0r S0 Q) : AC w0 F_heap_Merge [(.vs 1 a0 a0r)] S0 Q := fn_ok w0 Tryd.func100 (by kernel_rfl) (by rw [heap_Merge_eq]; exact h)
def G_tree_zero (Ca : Nat → List AV → St → (AV → St → Prop) → Prop) (a0a : Int) (a0b : Bool) (a0c : List (List AV)) (a0cr : Rt) (a0d : List (List AV)) (a0dr : Rt) (a0e : Int) (a0f : List (List AV)) (a0fr : Rt) (a0g : List UInt8) (S0 : St) (Q : AV → St → Prop) : Prop :=
 optK (boxA T_api_Node (.agg [(.int .i64 a0a), (.bool a0b), (.vs 1 a0c a0cr), (.vs 7 a0d a0dr), (.int .i64 a0e), (.vs 2 a0f a0fr), (.str a0g)])) fun c1 =>
 optK (some c1) fun _ =>
 optK (lloadA T_int (some c1) 0) fun t7 =>
 optK (binA .eql (AV.strip t7) (.int .i64 2)) fun t8 =>
 optK (some c1) fun _ =>
 optK (lloadA T_int (some c1) 0) fun t10 =>
 optK (binA .eql (AV.strip t10) (.int .i64 1)) fun t11 =>
 optK (some c1) fun _ =>
 optK (lloadA T_int (some c1) 0) fun t13 =>
 optK (binA .eql (AV.strip t13) (.int .i64 3)) fun t14 =>
 optK (unA .not (AV.strip t8)) fun t16 =>
 joinK (fun (x31 : AV) =>
 optK (pickA (AV.strip t16) x31 (.bool false)) fun t32 =>
 joinK (fun (x46 : AV) =>
 optK (pickA (AV.strip (AV.strip t32)) (.bool true) x46) fun t47 =>
 ifK (AV.strip t47)
 (Q (.bool false) S0)
 (joinK (fun (x52 : AV) =>
 optK (pickA (AV.strip (AV.strip t14)) (.bool true) x52) fun t53 =>
 Q (AV.strip t53) S0) fun j_7 =>
 ifK (AV.strip (AV.strip t14))
 (j_7 (.tup []))
 (optK (some c1) fun _ =>
 optK (lloadA T_string (some c1) 6) fun t51 =>
 optK (binA .eql (AV.strip t51) (.str [])) fun t52 =>
 j_7 t52))) fun j_5 =>
 ifK (AV.strip (AV.strip t32))
 (j_5 (.tup []))
 (optK (unA .not (AV.strip t11)) fun t35 =>
 joinK (fun (x45 : AV) =>
 optK (pickA (AV.strip t35) x45 (.bool false)) fun t46 =>
 j_5 (AV.strip t46)) fun j_4 =>
 gK (AV.strip t35)
 (optK (some c1) fun _ =>
 optK (lloadA T_int (some c1) 4) fun t38 =>
 optK (binA .neq (AV.strip t38) (.int .i64 0)) fun t39 =>
 joinK (fun (x44 : AV) =>
 optK (pickA (AV.strip t39) (.bool true) x44) fun t45 =>
 j_4 (AV.strip t45)) fun j_3 =>
 gK (AV.strip t39)
 (j_3 (.tup []))
 (optK (some c1) fun _ =>
 optK (lloadA T_s_api_Extent (some c1) 5) fun t42 =>
 optK (lenSlA (AV.strip t42)) fun t43 =>
 optK (binA .gtr t43 (.int .i64 0)) fun t44 =>
 j_3 t44)
 (j_3 (.tup [])))
 (j_4 (.tup []))
 (j_4 (.tup [])))) fun j_6 =>
 ifK (AV.strip t16)
 (optK (some c1) fun _ =>
 optK (lloadA T_bool (some c1) 1) fun t19 =>
 joinK (fun (x24 : AV) =>
 optK (pickA (AV.strip (AV.strip t19)) (.bool true) x24) fun t25 =>
 joinK (fun (x30 : AV) =>
 optK (pickA (AV.strip (AV.strip t25)) (.bool true) x30) fun t31 =>
 j_6 (AV.strip t31)) fun j =>
 gK (AV.strip (AV.strip t25))
 (j (.tup []))
 (optK (some c1) fun _ =>
 optK (lloadA T_s_api_Node (some c1) 3) fun t28 =>
 optK (lenSlA (AV.strip t28)) fun t29 =>
 optK (binA .gtr t29 (.int .i64 0)) fun t30 =>
 j t30)
 (j (.tup []))) fun j_2 =>
 gK (AV.strip (AV.strip t19))
 (j_2 (.tup []))
 (optK (some c1) fun _ =>
 optK (lloadA T_s_string (some c1) 2) fun t22 =>
 optK (lenSlA (AV.strip t22)) fun t23 =>
 optK (binA .gtr t23 (.int .i64 0)) fun t24 =>
 j_2 t24)
 (j_2 (.tup [])))
 (j_6 (.tup []))
theorem tree_zero_eq (Ca) (a0a : Int) (a0b : Bool) (a0c : List (List AV)) (a0cr : Rt) (a0d : List (List AV)) (a0dr : Rt) (a0e : Int) (a0f : List (List AV)) (a0fr : Rt) (a0g : List UInt8) (S0 Q) : WF C Ca 113 (Drw C Ca 113) Tryd.f113 [(.agg [(.int .i64 a0a), (.bool a0b), (.vs 1 a0c a0cr), (.vs 7 a0d a0dr), (.int .i64 a0e), (.vs 2 a0f a0fr), (.str a0g)])] S0 Q = G_tree_zero Ca a0a a0b a0c a0cr a0d a0dr a0e a0f a0fr a0g S0 Q := by kernel_rfl
theorem tree_zero_ok {w0 : World} {a0a : Int} {a0b : Bool} {a0c : List (List AV)} {a0cr : Rt} {a0d : List (List AV)} {a0dr : Rt} {a0e : Int} {a0f : List (List AV)} {a0fr : Rt} {a0g : List UInt8} {S0 : St} {Q : AV → St → Prop} (h : G_tree_zero (ACalls (En w0)) a0a a0b a0c a0cr a0d a0dr a0e a0f a0fr a0g S0 Q) : AC w0 F_tree_zero [(.agg [(.int .i64 a0a), (.bool a0b), (.vs 1 a0c a0cr), (.vs 7 a0d a0dr), (.int .i64 a0e), (.vs 2 a0f a0fr), (.str a0g)])] S0 Q := fn_ok w0 Tryd.func113 (by kernel_rfl) (by rw [tree_zero_eq]; exact h)
def G_extent_Right (Ca : Nat → List AV → St → (AV → St → Prop) → Prop) (a0 : Int) (a1 : List (List AV)) (a1r : Rt) (S0 : St) (Q : AV → St → Prop) : Prop :=
 joinK (fun (S_2 : St) =>
 joinK (fun (x44 : AV) =>
 optK (pickA (.bool (decide (a0 ≥ 0))) x44 (.bool false)) fun t45 =>
 Q (AV.strip t45) S_2) fun j_3 =>
 ifK (.bool (decide (a0 ≥ 0)))
 (j_3 (.bool (decide (a0 ≤ 1048576))))
 (j_3 (.tup []))) fun j_4 =>
 loopQ ([(.int .i64 0), (.int .i64 0)], []) (fun v bx => ([v 5, v 10], [])) (fun nx v bx S =>
 optK (binA .lss (v 10) (.int .i64 (List.length a1 : Int))) fun t11 =>
 ifK t11
 (optK (idxSlA T_api_Extent (.vs 2 a1 (Rt.strip a1r)) (v 10)) fun t12 =>
 optK (loadA T_api_Extent S t12) fun t13 =>
 optK (lstoreA T_api_Extent (some [(.int .i64 0), (.str [])]) 0 (AV.strip t13)) fun b7 =>
 optK (some b7) fun _ =>
 optK (lloadA T_int (some b7) 0) fun t15 =>
 optK (binA .lss (AV.strip t15) (AV.strip (v 5))) fun t17 =>
 joinK (fun (x21 : AV) =>
 optK (pickA (AV.strip t17) (.bool true) x21) fun t22 =>
 joinK (fun (x31 : AV) =>
 optK (pickA (AV.strip (AV.strip t22)) (.bool true) x31) fun t32 =>
 ifK (AV.strip t32)
 (Q (.bool false) S)
 (optK (some b7) fun _ =>
 optK (lloadA T_int (some b7) 0) fun t34 =>
 optK (some b7) fun _ =>
 optK (lloadA T_string (some b7) 1) fun t36 =>
 optK (lenStrA (AV.strip t36)) fun t37 =>
 optK (binA .add (AV.strip t34) t37) fun t38 =>
 optK (binA .add (v 10) (.int .i64 1)) fun t39 =>
 nx ([t38, (AV.strip t39)], []) S)) fun j =>
 ifK (AV.strip (AV.strip t22))
 (j (.tup []))
 (optK (some b7) fun _ =>
 optK (lloadA T_string (some b7) 1) fun t25 =>
 optK (lenStrA (AV.strip t25)) fun t26 =>
 optK (some b7) fun _ =>
 optK (lloadA T_int (some b7) 0) fun t29 =>
 optK (binA .sub (.int .i64 a0) (AV.strip t29)) fun t30 =>
 optK (binA .gtr t26 t30) fun t31 =>
 j t31)) fun j_2 =>
 ifK (AV.strip t17)
 (j_2 (.tup []))
 (optK (some b7) fun _ =>
 optK (lloadA T_string (some b7) 1) fun t20 =>
 optK (binA .eql (AV.strip t20) (.str [])) fun t21 =>
 j_2 t21))
 (j_4 S)) S0
theorem extent_Right_eq (Ca) (a0 : Int) (a1 : List (List AV)) (a1r : Rt) (S0 Q) : WF C Ca 114 (Drw C Ca 114) Tryd.f114 [(.int .i64 a0), (.vs 2 a1 a1r)] S0 Q = G_extent_Right Ca a0 a1 a1r S0 Q := by kernel_rfl
theorem extent_Right_ok {w0 : World} {a0 : Int} {a1 : List (List AV)} {a1r : Rt} {S0 : St} {Q : AV → St → Prop} (h : G_extent_Right (ACalls (En w0)) a0 a1 a1r S0 Q) : AC w0 F_extent_Right [(.int .i64 a0), (.vs 2 a1 a1r)] S0 Q := fn_ok w0 Tryd.func114 (by kernel_rfl) (by rw [extent_Right_eq]; exact h)
def G_tree_names (Ca : Nat → List AV → St → (AV → St → Prop) → Prop) (a0a : Int) (a0b : Bool) (a0c : List (List AV)) (a0cr : Rt) (a0d : List (List AV)) (a0dr : Rt) (a0e : Int) (a0f : List (List AV)) (a0fr : Rt) (a0g : List UInt8) (S0 : St) (Q : AV → St → Prop) : Prop :=
 optK (boxA T_api_Node (.agg [(.int .i64 a0a), (.bool a0b), (.vs 1 a0c a0cr), (.vs 7 a0d a0dr), (.int .i64 a0e), (.vs 2 a0f a0fr), (.str a0g)])) fun c1 =>
 joinK (fun (y1 : Option (List AV)) (S_3 : St) =>
 optK y1 fun _ =>
 optK (lloadA T_s_string y1 2) fun t32 =>
 optK (lenSlA (AV.strip t32)) fun t33 =>
 optK y1 fun _ =>
 optK (lloadA T_s_api_Node y1 3) fun t35 =>
 optK (lenSlA (AV.strip t35)) fun t36 =>
 optK (binA .eql t33 t36) fun t37 =>
 Q t37 S_3) fun j_3 =>
 optK (some c1) fun _ =>
 optK (lloadA T_s_string (some c1) 2) fun t6 =>
 optK (lenSlA (AV.strip t6)) fun t7 =>
 loopQ ([(.int .i64 0)], [(some c1)]) (fun v bx => ([v 8], [bx 1])) (fun nx v bx S =>
 optK (binA .lss (v 8) t7) fun t9 =>
 ifK t9
 (optK (idxSlA T_string (AV.strip t6) (v 8)) fun t11 =>
 optK (loadA T_string S t11) fun t12 =>
 callK Ca F_name_Right [(AV.strip (AV.strip t12))] S fun t14 S_2 =>
 optK (unA .not t14) fun t15 =>
 joinK (fun (x28 : AV) =>
 optK (pickA (AV.strip t15) (.bool true) x28) fun t29 =>
 ifK (AV.strip t29)
 (Q (.bool false) S_2)
 (optK (binA .add (v 8) (.int .i64 1)) fun t30 =>
 nx ([(AV.strip t30)], [(bx 1)]) S_2)) fun j_2 =>
 ifK (AV.strip t15)
 (j_2 (.tup []))
 (optK (binA .gtr (AV.strip (AV.strip (v 8))) (.int .i64 0)) fun t18 =>
 joinK (fun (x27 : AV) =>
 optK (pickA (AV.strip t18) x27 (.bool false)) fun t28 =>
 j_2 (AV.strip t28)) fun j =>
 gK (AV.strip t18)
 (optK (bx 1) fun _ =>
 optK (lloadA T_s_string (bx 1) 2) fun t21 =>
 optK (binA .sub (AV.strip (AV.strip (v 8))) (.int .i64 1)) fun t23 =>
 optK (idxSlA T_string (AV.strip t21) t23) fun t24 =>
 optK (loadA T_string S_2 t24) fun t25 =>
 optK (binA .geq (AV.strip t25) (AV.strip (AV.strip t12))) fun t27 =>
 j t27)
 (j (.tup []))
 (j (.tup []))))
 (j_3 (bx 1) S)) S0
theorem tree_names_eq (Ca) (a0a : Int) (a0b : Bool) (a0c : List (List AV)) (a0cr : Rt) (a0d : List (List AV)) (a0dr : Rt) (a0e : Int) (a0f : List (List AV)) (a0fr : Rt) (a0g : List UInt8) (S0 Q) : WF C Ca 115 (Drw C Ca 115) Tryd.f115 [(.agg [(.int .i64 a0a), (.bool a0b), (.vs 1 a0c a0cr), (.vs 7 a0d a0dr), (.int .i64 a0e), (.vs 2 a0f a0fr), (.str a0g)])] S0 Q = G_tree_names Ca a0a a0b a0c a0cr a0d a0dr a0e a0f a0fr a0g S0 Q := by kernel_rfl
theorem tree_names_ok {w0 : World} {a0a : Int} {a0b : Bool} {a0c : List (List AV)} {a0cr : Rt} {a0d : List (List AV)} {a0dr : Rt} {a0e : Int} {a0f : List (List AV)} {a0fr : Rt} {a0g : List UInt8} {S0 : St} {Q : AV → St → Prop} (h : G_tree_names (ACalls (En w0)) a0a a0b a0c a0cr a0d a0dr a0e a0f a0fr a0g S0 Q) : AC w0 F_tree_names [(.agg [(.int .i64 a0a), (.bool a0b), (.vs 1 a0c a0cr), (.vs 7 a0d a0dr), (.int .i64 a0e), (.vs 2 a0f a0fr), (.str a0g)])] S0 Q := fn_ok w0 Tryd.func115 (by kernel_rfl) (by rw [tree_names_eq]; exact h)
def G_cmp_isNaN_string (Ca : Nat → List AV → St → (AV → St → Prop) → Prop) (a0 : List UInt8) (S0 : St) (Q : AV → St → Prop) : Prop :=
 Q (.bool (!(a0 == a0))) S0
theorem cmp_isNaN_string_eq (Ca) (a0 : List UInt8) (S0 Q) : WF C Ca 116 (Drw C Ca 116) Tryd.f116 [(.str a0)] S0 Q = G_cmp_isNaN_string Ca a0 S0 Q := by kernel_rfl
theorem cmp_isNaN_string_ok {w0 : World} {a0 : List UInt8} {S0 : St} {Q : AV → St → Prop} (h : G_cmp_isNaN_string (ACalls (En w0)) a0 S0 Q) : AC w0 F_cmp_isNaN_string [(.str a0)] S0 Q := fn_ok w0 Tryd.func116 (by kernel_rfl) (by rw [cmp_isNaN_string_eq]; exact h)
def G_heap_Item_less (Ca : Nat → List AV → St → (AV → St → Prop) → Prop) (a0a : List UInt8) (a0b : Int) (a1a : List UInt8) (a1b : Int) (S0 : St) (Q : AV → St → Prop) : Prop :=
 optK (boxA T_heap_Item (.agg [(.str a0a), (.int .i64 a0b)])) fun c2 =>
 optK (boxA T_heap_Item (.agg [(.str a1a), (.int .i64 a1b)])) fun c3 =>
 optK (some c2) fun _ =>
 optK (lloadA T_string (some c2) 0) fun t6 =>
 optK (some c3) fun _ =>
 optK (lloadA T_string (some c3) 0) fun t8 =>
 optK (binA .neq (AV.strip t6) (AV.strip t8)) fun t9 =>
 ifK t9
 (optK (some c2) fun _ =>
 optK (lloadA T_string (some c2) 0) fun t11 =>
 optK (some c3) fun _ =>
 optK (lloadA T_string (some c3) 0) fun t13 =>
 optK (binA .lss (AV.strip t11) (AV.strip t13)) fun t14 =>
 Q t14 S0)
 (optK (some c2) fun _ =>
 optK (lloadA T_int (some c2) 1) fun t16 =>
 optK (some c3) fun _ =>
 optK (lloadA T_int (some c3) 1) fun t18 =>
 optK (binA .lss (AV.strip t16) (AV.strip t18)) fun t19 =>
 Q t19 S0)
theorem heap_Item_less_eq (Ca) (a0a : List UInt8) (a0b : Int) (a1a : List UInt8) (a1b : Int) (S0 Q) : WF C Ca 119 (Drw C Ca 119) Tryd.f119 [(.agg [(.str a0a), (.int .i64 a0b)]), (.agg [(.str a1a), (.int .i64 a1b)])] S0 Q = G_heap_Item_less Ca a0a a0b a1a a1b S0 Q := by kernel_rfl
theorem heap_Item_less_ok {w0 : World} {a0a : List UInt8} {a0b : Int} {a1a : List UInt8} {a1b : Int} {S0 : St} {Q : AV → St → Prop} (h : G_heap_Item_less (ACalls (En w0)) a0a a0b a1a a1b S0 Q) : AC w0 F_heap_Item_less [(.agg [(.str a0a), (.int .i64 a0b)]), (.agg [(.str a1a), (.int .i64 a1b)])] S0 Q := fn_ok w0 Tryd.func119 (by kernel_rfl) (by rw [heap_Item_less_eq]; exact h)
def G_cheap_Init (Ca : Nat → List AV → St → (AV → St → Prop) → Prop) (a0 : AV) (S0 : St) (Q : AV → St → Prop) : Prop :=
 optK (invokeA C (AV.strip a0) "Len" []) fun a =>
 Ca a.1 a.2 S0 fun t5 S =>
 optK (binA .quo (AV.strip t5) (.int .i64 2)) fun t7 =>
 optK (binA .sub t7 (.int .i64 1)) fun t8 =>
 loopQ ([t8], []) (fun v bx => ([v 3], [])) (fun nx v bx S_2 =>
 optK (binA .geq (AV.strip (v 3)) (.int .i64 0)) fun t10 =>
 ifK t10
 (callK Ca F_cheap_down [(AV.strip a0), (AV.strip (v 3)), (AV.strip t5)] S_2 fun t16 S_3 =>
 optK (binA .sub (AV.strip (v 3)) (.int .i64 1)) fun t12 =>
 nx ([t12], []) S_3)
 (Q (.tup []) S_2)) S
theorem cheap_Init_eq (Ca) (a0 : AV) (S0 Q) : WF C Ca 120 (Drw C Ca 120) Tryd.f120 [a0] S0 Q = G_cheap_Init Ca a0 S0 Q := by kernel_rfl
theorem cheap_Init_ok {w0 : World} {a0 : AV} {S0 : St} {Q : AV → St → Prop} (h : G_cheap_Init (ACalls (En w0)) a0 S0 Q) : AC w0 F_cheap_Init [a0] S0 Q := fn_ok w0 Tryd.func120 (by kernel_rfl) (by rw [cheap_Init_eq]; exact h)
def G_heap_heads_Len (Ca : Nat → List AV → St → (AV → St → Prop) → Prop) (a0 : Nat) (a0o : Nat) (S0 : St) (Q : AV → St → Prop) : Prop :=
 optK (loadA T_s_heap_head S0 (.ptr a0 (a0o + 0))) fun t6 =>
 optK (lenSlA (AV.strip t6)) fun t7 =>
 Q t7 S0
theorem heap_heads_Len_eq (Ca) (a0 : Nat) (a0o : Nat) (S0 Q) : WF C Ca 121 (Drw C Ca 121) Tryd.f121 [(.ptr a0 a0o)] S0 Q = G_heap_heads_Len Ca a0 a0o S0 Q := by kernel_rfl
theorem heap_heads_Len_ok {w0 : World} {a0 : Nat} {a0o : Nat} {S0 : St} {Q : AV → St → Prop} (h : G_heap_heads_Len (ACalls (En w0)) a0 a0o S0 Q) : AC w0 F_heap_heads_Len [(.ptr a0 a0o)] S0 Q := fn_ok w0 Tryd.func121 (by kernel_rfl) (by rw [heap_heads_Len_eq]; exact h)
def G_cheap_Pop (Ca : Nat → List AV → St → (AV → St → Prop) → Prop) (a0 : AV) (S0 : St) (Q : AV → St → Prop) : Prop :=
 optK (invokeA C (AV.strip a0) "Len" []) fun a =>
 Ca a.1 a.2 S0 fun t5 S =>
 optK (binA .sub t5 (.int .i64 1)) fun t6 =>
 optK (invokeA C (AV.strip a0) "Swap" [(.int .i64 0), (AV.strip t6)]) fun a_2 =>
 Ca a_2.1 a_2.2 S fun t9 S_2 =>
 callK Ca F_cheap_down [(AV.strip a0), (.int .i64 0), (AV.strip t6)] S_2 fun t12 S_3 =>
 optK (invokeA C (AV.strip a0) "Pop" []) fun a_3 =>
 Ca a_3.1 a_3.2 S_3 fun t14 S_4 =>
 Q t14 S_4
theorem cheap_Pop_eq (Ca) (a0 : AV) (S0 Q) : WF C Ca 122 (Drw C Ca 122) Tryd.f122 [a0] S0 Q = G_cheap_Pop Ca a0 S0 Q := by kernel_rfl
theorem cheap_Pop_ok {w0 : World} {a0 : AV} {S0 : St} {Q : AV → St → Prop} (h : G_cheap_Pop (ACalls (En w0)) a0 S0 Q) : AC w0 F_cheap_Pop [a0] S0 Q := fn_ok w0 Tryd.func122 (by kernel_rfl) (by rw [cheap_Pop_eq]; exact h)
def G_cheap_Fix (Ca : Nat → List AV → St → (AV → St → Prop) → Prop) (a0 : AV) (a1 : Int) (S0 : St) (Q : AV → St → Prop) : Prop :=
 optK (invokeA C (AV.strip a0) "Len" []) fun a =>
 Ca a.1 a.2 S0 fun t7 S =>
 callK Ca F_cheap_down [(AV.strip a0), (.int .i64 a1), t7] S fun t8 S_2 =>
 optK (unA .not t8) fun t9 =>
 ifK t9
 (callK Ca F_cheap_up [(AV.strip a0), (.int .i64 a1)] S_2 fun t12 S_3 =>
 Q (.tup []) S_3)
 (Q (.tup []) S_2)
theorem cheap_Fix_eq (Ca) (a0 : AV) (a1 : Int) (S0 Q) : WF C Ca 123 (Drw C Ca 123) Tryd.f123 [a0, (.int .i64 a1)] S0 Q = G_cheap_Fix Ca a0 a1 S0 Q := by kernel_rfl
theorem cheap_Fix_ok {w0 : World} {a0 : AV} {a1 : Int} {S0 : St} {Q : AV → St → Prop} (h : G_cheap_Fix (ACalls (En w0)) a0 a1 S0 Q) : AC w0 F_cheap_Fix [a0, (.int .i64 a1)] S0 Q := fn_ok w0 Tryd.func123 (by kernel_rfl) (by rw [cheap_Fix_eq]; exact h)
end Go.Av
