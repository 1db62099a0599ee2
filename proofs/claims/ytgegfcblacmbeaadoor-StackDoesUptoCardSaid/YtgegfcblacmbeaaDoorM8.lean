/- Parts of the proofs of this seat: abstract values over the model, and what the functions of the program do. No condition. -/
import Derived.Test.YtgegfcblacmbeaaDoorM7
import Derived.Test.YtgegfcblacmbeaaDoorM6
import Derived.Test.YtgegfcblacmbeaaDoorProg
import Derived.KernelRfl
set_option linter.all false
set_option linter.unusedVariables false
set_option maxRecDepth 100000
/-! The seat: its types, and that they agree with its program. -/
namespace Go.Av
open Go.Proofs
abbrev t_int : Nat := 3
abbrev t_bool : Nat := 4
abbrev t_uint8 : Nat := 5
abbrev t_string : Nat := 9
abbrev t_s_string : Nat := 23
abbrev t_s_socagelaw07_Act : Nat := 36
abbrev t_s_stack_mount : Nat := 37
abbrev t_stack_Stack : Nat := 39
abbrev t_s_int : Nat := 40
abbrev t_socagelaw07_Act : Nat := 45
abbrev t_p_branch_Branch : Nat := 48
abbrev t_s_api_Node : Nat := 51
abbrev t_s_api_Extent : Nat := 52
abbrev t_api_Node : Nat := 54
abbrev t_seen_Spot : Nat := 90
abbrev t_seen_Place : Nat := 92
abbrev t_seen_Found : Nat := 94
abbrev t_stack_mount : Nat := 105
abbrev t_s_branch_inode : Nat := 109
abbrev t_branch_Branch : Nat := 111
abbrev t_api_Extent : Nat := 118
abbrev t_s_uint8 : Nat := 123
abbrev t_wire_Writer : Nat := 126
abbrev t_p_wire_Reader : Nat := 132
abbrev t_image_reader : Nat := 135
abbrev t_socageref05_Got : Nat := 138
abbrev t_branch_inode : Nat := 153
abbrev t_wire_Reader : Nat := 162
abbrev F_law07_StackDoes : Nat := 6
abbrev F_law04_TreeRight : Nat := 8
abbrev F_law04_TreeSame : Nat := 9
abbrev F_law04_TreeMakes : Nat := 10
abbrev F_name_Split : Nat := 16
abbrev F_ref01_Split : Nat := 17
abbrev F_ref01_Same : Nat := 18
abbrev F_name_Right : Nat := 19
abbrev F_ref01_Right : Nat := 20
abbrev F_name_Join : Nat := 21
abbrev F_ref01_Join : Nat := 22
abbrev F_name_Child : Nat := 23
abbrev F_name_Parent : Nat := 24
abbrev F_law07_speaks : Nat := 25
abbrev F_stack_Stack_Remove : Nat := 26
abbrev F_branch_New : Nat := 27
abbrev F_tree_Dir : Nat := 28
abbrev F_stack_Stack_Add : Nat := 29
abbrev F_law07_same : Nat := 30
abbrev F_law04_Small : Nat := 31
abbrev F_ref04_Right : Nat := 32
abbrev F_stack_Of : Nat := 33
abbrev F_stack_Stack_Len : Nat := 34
abbrev F_stack_Stack_At : Nat := 35
abbrev F_stack_Stack_ID : Nat := 36
abbrev F_branch_Branch_Count : Nat := 37
abbrev F_ref04_Count : Nat := 38
abbrev F_law04_speaks : Nat := 39
abbrev F_tree_Right : Nat := 40
abbrev F_tree_Count : Nat := 41
abbrev F_tree_Same : Nat := 42
abbrev F_ref04_Same : Nat := 43
abbrev F_ref04_One : Nat := 44
abbrev F_tree_Find : Nat := 45
abbrev F_ref04_Find : Nat := 46
abbrev F_tree_Text : Nat := 47
abbrev F_ref03_Read : Nat := 48
abbrev F_tree_Link : Nat := 49
abbrev F_tree_White : Nat := 50
abbrev F_tree_Opaque : Nat := 51
abbrev F_image_Encode : Nat := 53
abbrev F_ref05_Encode : Nat := 54
abbrev F_image_Decode : Nat := 55
abbrev F_seen_Look : Nat := 60
abbrev F_seen_Root : Nat := 61
abbrev F_strings_Split : Nat := 62
abbrev F_strings_ContainsAny : Nat := 63
abbrev F_strings_Join : Nat := 64
abbrev F_strings_LastIndexByte : Nat := 65
abbrev F_slices_IndexFunc_s_stack_mount_stack_mount : Nat := 66
abbrev F_stack_Stack_Remove_1 : Nat := 67
abbrev F_slices_Delete_s_stack_mount_stack_mount : Nat := 68
abbrev F_slices_Clone_s_stack_mount_stack_mount : Nat := 69
abbrev F_branch_Branch_add : Nat := 70
abbrev F_slices_Clone_s_string_string : Nat := 71
abbrev F_slices_Clone_s_api_Node_api_Node : Nat := 72
abbrev F_law04_small : Nat := 73
abbrev F_ref04_all : Nat := 74
abbrev F_ref04_Depth : Nat := 75
abbrev F_tree_right : Nat := 76
abbrev F_slices_Equal_s_string_string : Nat := 77
abbrev F_slices_Equal_s_api_Extent_api_Extent : Nat := 78
abbrev F_ref03_Right : Nat := 79
abbrev F_ref04_entries : Nat := 80
abbrev F_slices_BinarySearch_s_string_string : Nat := 81
abbrev F_extent_Of : Nat := 82
abbrev F_ref03_At : Nat := 83
abbrev F_image_put : Nat := 84
abbrev F_wire_Writer_Bytes : Nat := 85
abbrev F_ref05_Put : Nat := 86
abbrev F_wire_Read : Nat := 87
abbrev F_image_reader_node : Nat := 88
abbrev F_wire_Reader_Left : Nat := 89
abbrev F_ref05_get : Nat := 90
abbrev F_branch_Branch_Look : Nat := 91
abbrev F_branch_Branch_Kind : Nat := 92
abbrev F_branch_Branch_Opaque : Nat := 93
abbrev F_slices_Clone_s_api_Extent_api_Extent : Nat := 100
abbrev F_tree_zero : Nat := 101
abbrev F_extent_Right : Nat := 102
abbrev F_tree_names : Nat := 103
abbrev F_ref01_Less : Nat := 104
abbrev F_cmp_Less_string : Nat := 105
abbrev F_slices_isNaN_string : Nat := 106
abbrev F_wire_Writer_Put : Nat := 107
abbrev F_wire_Writer_Text : Nat := 108
abbrev F_ref02_Put : Nat := 109
abbrev F_ref05_text : Nat := 110
abbrev F_image_reader_number : Nat := 111
abbrev F_image_reader_text : Nat := 112
abbrev F_ref05_number : Nat := 113
abbrev F_branch_Branch_at : Nat := 114
abbrev F_cmp_isNaN_string : Nat := 124
abbrev F_wire_Reader_Take : Nat := 125
abbrev F_wire_Reader_Text : Nat := 126
abbrev F_ref02_Get : Nat := 127
def T_func : TI := { size := 1, bytes := 8, agg := false, zero := [.nilfn], kind := .func, id := 1 }
def T_int64 : TI := { size := 1, bytes := 8, agg := false, zero := [.int .i64 0], kind := .int .i64, id := 2 }
def T_int : TI := { size := 1, bytes := 8, agg := false, zero := [.int .i64 0], kind := .int .i64, id := 3 }
@[simp] theorem T_int_size : T_int.size = 1 := rfl
@[simp] theorem T_int_agg : T_int.agg = false := rfl
@[simp] theorem T_int_zero : T_int.zero = [.int .i64 0] := rfl
@[simp] theorem T_int_kind : T_int.kind = .int .i64 := rfl
@[simp] theorem T_int_id : T_int.id = t_int := rfl
def T_bool : TI := { size := 1, bytes := 1, agg := false, zero := [.bool false], kind := .bool, id := 4 }
@[simp] theorem T_bool_size : T_bool.size = 1 := rfl
@[simp] theorem T_bool_agg : T_bool.agg = false := rfl
@[simp] theorem T_bool_zero : T_bool.zero = [.bool false] := rfl
@[simp] theorem T_bool_kind : T_bool.kind = .bool := rfl
@[simp] theorem T_bool_id : T_bool.id = t_bool := rfl
def T_uint8 : TI := { size := 1, bytes := 1, agg := false, zero := [.int .u8 0], kind := .int .u8, id := 5 }
@[simp] theorem T_uint8_size : T_uint8.size = 1 := rfl
@[simp] theorem T_uint8_agg : T_uint8.agg = false := rfl
@[simp] theorem T_uint8_zero : T_uint8.zero = [.int .u8 0] := rfl
@[simp] theorem T_uint8_kind : T_uint8.kind = .int .u8 := rfl
@[simp] theorem T_uint8_id : T_uint8.id = t_uint8 := rfl
def T_abi_BoundsErrorCode : TI := { size := 1, bytes := 1, agg := false, zero := [.int .u8 0], kind := .int .u8, id := 6 }
def T_struct_x_int64_y_int_signed_bool_code_abi_BoundsErrorCode : TI := { size := 4, bytes := 24, agg := true, zero := [.int .i64 0, .int .i64 0, .bool false, .int .u8 0], kind := .struct [(0, 2, 1), (1, 3, 1), (2, 4, 1), (3, 6, 1)], id := 7 }
def T_runtime_boundsError : TI := { size := 4, bytes := 24, agg := true, zero := [.int .i64 0, .int .i64 0, .bool false, .int .u8 0], kind := .struct [(0, 2, 1), (1, 3, 1), (2, 4, 1), (3, 6, 1)], id := 8 }
def T_string : TI := { size := 1, bytes := 16, agg := false, zero := [.str []], kind := .str, id := 9 }
@[simp] theorem T_string_size : T_string.size = 1 := rfl
@[simp] theorem T_string_agg : T_string.agg = false := rfl
@[simp] theorem T_string_zero : T_string.zero = [.str []] := rfl
@[simp] theorem T_string_kind : T_string.kind = .str := rfl
@[simp] theorem T_string_id : T_string.id = t_string := rfl
def T_runtime_errorString : TI := { size := 1, bytes := 16, agg := false, zero := [.str []], kind := .str, id := 10 }
def T_runtime_plainError : TI := { size := 1, bytes := 16, agg := false, zero := [.str []], kind := .str, id := 11 }
def T_uintptr : TI := { size := 1, bytes := 8, agg := false, zero := [.int .u64 0], kind := .int .u64, id := 12 }
def T_struct_msg_string_addr_uintptr : TI := { size := 2, bytes := 24, agg := true, zero := [.str [], .int .u64 0], kind := .struct [(0, 9, 1), (1, 12, 1)], id := 13 }
def T_runtime_errorAddressString : TI := { size := 2, bytes := 24, agg := true, zero := [.str [], .int .u64 0], kind := .struct [(0, 9, 1), (1, 12, 1)], id := 14 }
def T_p_runtime_TypeAssertionError : TI := { size := 1, bytes := 8, agg := false, zero := [.nil], kind := .ptr 192, id := 15 }
def T_p_runtime_PanicNilError : TI := { size := 1, bytes := 8, agg := false, zero := [.nil], kind := .ptr 195, id := 16 }
def T_p_abi_Type : TI := { size := 1, bytes := 8, agg := false, zero := [.nil], kind := .ptr 202, id := 17 }
def T_struct_typ_p_abi_Type : TI := { size := 1, bytes := 8, agg := true, zero := [.nil], kind := .struct [(0, 17, 1)], id := 18 }
def T_maps_unhashableTypeError : TI := { size := 1, bytes := 8, agg := true, zero := [.nil], kind := .struct [(0, 17, 1)], id := 19 }
def T_interface : TI := { size := 1, bytes := 16, agg := false, zero := [.nilifc], kind := .iface, id := 20 }
def T_int32 : TI := { size := 1, bytes := 4, agg := false, zero := [.int .i32 0], kind := .int .i32, id := 21 }
def T_func_bool : TI := { size := 1, bytes := 8, agg := false, zero := [.nilfn], kind := .func, id := 22 }
def T_s_string : TI := { size := 1, bytes := 24, agg := false, zero := [.vs 1 [] .nil], kind := .slice 9, id := 23 }
@[simp] theorem T_s_string_size : T_s_string.size = 1 := rfl
@[simp] theorem T_s_string_agg : T_s_string.agg = false := rfl
@[simp] theorem T_s_string_zero : T_s_string.zero = [.vs 1 [] .nil] := rfl
@[simp] theorem T_s_string_kind : T_s_string.kind = .slice 9 := rfl
@[simp] theorem T_s_string_id : T_s_string.id = t_s_string := rfl
def T_api_Errno : TI := { size := 1, bytes := 8, agg := false, zero := [.int .i64 0], kind := .int .i64, id := 24 }
def T_func_string_s_string_bool_api_Errno : TI := { size := 1, bytes := 8, agg := false, zero := [.nilfn], kind := .func, id := 26 }
def T_func_string_s_string_bool : TI := { size := 1, bytes := 8, agg := false, zero := [.nilfn], kind := .func, id := 28 }
def T_func_s_string_s_string_bool : TI := { size := 1, bytes := 8, agg := false, zero := [.nilfn], kind := .func, id := 29 }
def T_func_string_bool : TI := { size := 1, bytes := 8, agg := false, zero := [.nilfn], kind := .func, id := 30 }
def T_func_string_string : TI := { size := 1, bytes := 8, agg := false, zero := [.nilfn], kind := .func, id := 31 }
def T_func_s_string_string : TI := { size := 1, bytes := 8, agg := false, zero := [.nilfn], kind := .func, id := 32 }
def T_func_string_string_string : TI := { size := 1, bytes := 8, agg := false, zero := [.nilfn], kind := .func, id := 33 }
def T_func_string_string_b43980 : TI := { size := 1, bytes := 8, agg := false, zero := [.nilfn], kind := .func, id := 34 }
def T_func_s_string_bool : TI := { size := 1, bytes := 8, agg := false, zero := [.nilfn], kind := .func, id := 35 }
def T_s_socagelaw07_Act : TI := { size := 1, bytes := 24, agg := false, zero := [.vs 2 [] .nil], kind := .slice 45, id := 36 }
def T_s_stack_mount : TI := { size := 1, bytes := 24, agg := false, zero := [.vs 2 [] .nil], kind := .slice 105, id := 37 }
@[simp] theorem T_s_stack_mount_size : T_s_stack_mount.size = 1 := rfl
@[simp] theorem T_s_stack_mount_agg : T_s_stack_mount.agg = false := rfl
@[simp] theorem T_s_stack_mount_zero : T_s_stack_mount.zero = [.vs 2 [] .nil] := rfl
@[simp] theorem T_s_stack_mount_kind : T_s_stack_mount.kind = .slice 105 := rfl
@[simp] theorem T_s_stack_mount_id : T_s_stack_mount.id = t_s_stack_mount := rfl
def T_struct_l_s_stack_mount_next_int : TI := { size := 2, bytes := 32, agg := true, zero := [.vs 2 [] .nil, .int .i64 0], kind := .struct [(0, 37, 1), (1, 3, 1)], id := 38 }
def T_stack_Stack : TI := { size := 2, bytes := 32, agg := true, zero := [.vs 2 [] .nil, .int .i64 0], kind := .struct [(0, 37, 1), (1, 3, 1)], id := 39 }
@[simp] theorem T_stack_Stack_size : T_stack_Stack.size = 2 := rfl
@[simp] theorem T_stack_Stack_agg : T_stack_Stack.agg = true := rfl
@[simp] theorem T_stack_Stack_zero : T_stack_Stack.zero = [.vs 2 [] .nil, .int .i64 0] := rfl
@[simp] theorem T_stack_Stack_kind : T_stack_Stack.kind = .struct [(0, 37, 1), (1, 3, 1)] := rfl
@[simp] theorem T_stack_Stack_id : T_stack_Stack.id = t_stack_Stack := rfl
def T_s_int : TI := { size := 1, bytes := 24, agg := false, zero := [.vs 1 [] .nil], kind := .slice 3, id := 40 }
@[simp] theorem T_s_int_size : T_s_int.size = 1 := rfl
@[simp] theorem T_s_int_agg : T_s_int.agg = false := rfl
@[simp] theorem T_s_int_zero : T_s_int.zero = [.vs 1 [] .nil] := rfl
@[simp] theorem T_s_int_kind : T_s_int.kind = .slice 3 := rfl
@[simp] theorem T_s_int_id : T_s_int.id = t_s_int := rfl
def T_s_p_branch_Branch : TI := { size := 1, bytes := 24, agg := false, zero := [.vs 1 [] .nil], kind := .slice 48, id := 41 }
def T_s_stack_Stack : TI := { size := 1, bytes := 24, agg := false, zero := [.vs 2 [] .nil], kind := .slice 39, id := 42 }
def T_s_s_int : TI := { size := 1, bytes := 24, agg := false, zero := [.vs 1 [] .nil], kind := .slice 40, id := 43 }
def T_struct_Out_bool_ID_int : TI := { size := 2, bytes := 16, agg := true, zero := [.bool false, .int .i64 0], kind := .struct [(0, 4, 1), (1, 3, 1)], id := 44 }
def T_socagelaw07_Act : TI := { size := 2, bytes := 16, agg := true, zero := [.bool false, .int .i64 0], kind := .struct [(0, 4, 1), (1, 3, 1)], id := 45 }
@[simp] theorem T_socagelaw07_Act_size : T_socagelaw07_Act.size = 2 := rfl
@[simp] theorem T_socagelaw07_Act_agg : T_socagelaw07_Act.agg = true := rfl
@[simp] theorem T_socagelaw07_Act_zero : T_socagelaw07_Act.zero = [.bool false, .int .i64 0] := rfl
@[simp] theorem T_socagelaw07_Act_kind : T_socagelaw07_Act.kind = .struct [(0, 4, 1), (1, 3, 1)] := rfl
@[simp] theorem T_socagelaw07_Act_id : T_socagelaw07_Act.id = t_socagelaw07_Act := rfl
def T_func_int_stack_Stack_api_Errno : TI := { size := 1, bytes := 8, agg := false, zero := [.nilfn], kind := .func, id := 47 }
def T_p_branch_Branch : TI := { size := 1, bytes := 8, agg := false, zero := [.nil], kind := .ptr 111, id := 48 }
@[simp] theorem T_p_branch_Branch_size : T_p_branch_Branch.size = 1 := rfl
@[simp] theorem T_p_branch_Branch_agg : T_p_branch_Branch.agg = false := rfl
@[simp] theorem T_p_branch_Branch_zero : T_p_branch_Branch.zero = [.nil] := rfl
@[simp] theorem T_p_branch_Branch_kind : T_p_branch_Branch.kind = .ptr 111 := rfl
@[simp] theorem T_p_branch_Branch_id : T_p_branch_Branch.id = t_p_branch_Branch := rfl
def T_func_api_Node_p_branch_Branch_api_Errno : TI := { size := 1, bytes := 8, agg := false, zero := [.nilfn], kind := .func, id := 50 }
def T_s_api_Node : TI := { size := 1, bytes := 24, agg := false, zero := [.vs 7 [] .nil], kind := .slice 54, id := 51 }
@[simp] theorem T_s_api_Node_size : T_s_api_Node.size = 1 := rfl
@[simp] theorem T_s_api_Node_agg : T_s_api_Node.agg = false := rfl
@[simp] theorem T_s_api_Node_zero : T_s_api_Node.zero = [.vs 7 [] .nil] := rfl
@[simp] theorem T_s_api_Node_kind : T_s_api_Node.kind = .slice 54 := rfl
@[simp] theorem T_s_api_Node_id : T_s_api_Node.id = t_s_api_Node := rfl
def T_s_api_Extent : TI := { size := 1, bytes := 24, agg := false, zero := [.vs 2 [] .nil], kind := .slice 118, id := 52 }
@[simp] theorem T_s_api_Extent_size : T_s_api_Extent.size = 1 := rfl
@[simp] theorem T_s_api_Extent_agg : T_s_api_Extent.agg = false := rfl
@[simp] theorem T_s_api_Extent_zero : T_s_api_Extent.zero = [.vs 2 [] .nil] := rfl
@[simp] theorem T_s_api_Extent_kind : T_s_api_Extent.kind = .slice 118 := rfl
@[simp] theorem T_s_api_Extent_id : T_s_api_Extent.id = t_s_api_Extent := rfl
def T_struct_Kind_int_Opaque_bool_Names_s_string_Items_8666df6f : TI := { size := 7, bytes := 112, agg := true, zero := [.int .i64 0, .bool false, .vs 1 [] .nil, .vs 7 [] .nil, .int .i64 0, .vs 2 [] .nil, .str []], kind := .struct [(0, 3, 1), (1, 4, 1), (2, 23, 1), (3, 51, 1), (4, 3, 1), (5, 52, 1), (6, 9, 1)], id := 53 }
def T_api_Node : TI := { size := 7, bytes := 112, agg := true, zero := [.int .i64 0, .bool false, .vs 1 [] .nil, .vs 7 [] .nil, .int .i64 0, .vs 2 [] .nil, .str []], kind := .struct [(0, 3, 1), (1, 4, 1), (2, 23, 1), (3, 51, 1), (4, 3, 1), (5, 52, 1), (6, 9, 1)], id := 54 }
@[simp] theorem T_api_Node_size : T_api_Node.size = 7 := rfl
@[simp] theorem T_api_Node_agg : T_api_Node.agg = true := rfl
@[simp] theorem T_api_Node_zero : T_api_Node.zero = [.int .i64 0, .bool false, .vs 1 [] .nil, .vs 7 [] .nil, .int .i64 0, .vs 2 [] .nil, .str []] := rfl
@[simp] theorem T_api_Node_kind : T_api_Node.kind = .struct [(0, 3, 1), (1, 4, 1), (2, 23, 1), (3, 51, 1), (4, 3, 1), (5, 52, 1), (6, 9, 1)] := rfl
@[simp] theorem T_api_Node_id : T_api_Node.id = t_api_Node := rfl
def T_func_s_string_api_Node_api_Node : TI := { size := 1, bytes := 8, agg := false, zero := [.nilfn], kind := .func, id := 55 }
def T_func_p_branch_Branch_stack_Stack_int_api_Errno : TI := { size := 1, bytes := 8, agg := false, zero := [.nilfn], kind := .func, id := 57 }
def T_func_stack_Stack_s_int_s_p_branch_Branch_bool : TI := { size := 1, bytes := 8, agg := false, zero := [.nilfn], kind := .func, id := 58 }
def T_func_s_socagelaw07_Act_bool : TI := { size := 1, bytes := 8, agg := false, zero := [.nilfn], kind := .func, id := 59 }
def T_func_api_Node_int : TI := { size := 1, bytes := 8, agg := false, zero := [.nilfn], kind := .func, id := 60 }
def T_func_api_Node_bool : TI := { size := 1, bytes := 8, agg := false, zero := [.nilfn], kind := .func, id := 61 }
def T_func_api_Node_stack_Stack_api_Errno : TI := { size := 1, bytes := 8, agg := false, zero := [.nilfn], kind := .func, id := 62 }
def T_func_int : TI := { size := 1, bytes := 8, agg := false, zero := [.nilfn], kind := .func, id := 63 }
def T_func_int_p_branch_Branch : TI := { size := 1, bytes := 8, agg := false, zero := [.nilfn], kind := .func, id := 64 }
def T_func_int_int : TI := { size := 1, bytes := 8, agg := false, zero := [.nilfn], kind := .func, id := 65 }
def T_func_s_api_Node_uint8_bool : TI := { size := 1, bytes := 8, agg := false, zero := [.nilfn], kind := .func, id := 66 }
def T_func_api_Node_api_Node_bool : TI := { size := 1, bytes := 8, agg := false, zero := [.nilfn], kind := .func, id := 67 }
def T_func_api_Node_string_api_Node_bool : TI := { size := 1, bytes := 8, agg := false, zero := [.nilfn], kind := .func, id := 69 }
def T_func_api_Node_string_int : TI := { size := 1, bytes := 8, agg := false, zero := [.nilfn], kind := .func, id := 70 }
def T_func_api_Node_api_Node_string_bool : TI := { size := 1, bytes := 8, agg := false, zero := [.nilfn], kind := .func, id := 71 }
def T_func_string_api_Node : TI := { size := 1, bytes := 8, agg := false, zero := [.nilfn], kind := .func, id := 72 }
def T_func_int_s_api_Extent_int_int_string : TI := { size := 1, bytes := 8, agg := false, zero := [.nilfn], kind := .func, id := 73 }
def T_func_api_Node : TI := { size := 1, bytes := 8, agg := false, zero := [.nilfn], kind := .func, id := 74 }
def T_func_api_Node_api_Node : TI := { size := 1, bytes := 8, agg := false, zero := [.nilfn], kind := .func, id := 75 }
def T_func_string_s_string_uint8_bool : TI := { size := 1, bytes := 8, agg := false, zero := [.nilfn], kind := .func, id := 76 }
def T_func_api_Node_string_api_Errno : TI := { size := 1, bytes := 8, agg := false, zero := [.nilfn], kind := .func, id := 78 }
def T_func_api_Node_string_bool : TI := { size := 1, bytes := 8, agg := false, zero := [.nilfn], kind := .func, id := 80 }
def T_func_string_api_Node_api_Errno : TI := { size := 1, bytes := 8, agg := false, zero := [.nilfn], kind := .func, id := 82 }
def T_func_string_api_Node_bool : TI := { size := 1, bytes := 8, agg := false, zero := [.nilfn], kind := .func, id := 83 }
def T_uint16 : TI := { size := 1, bytes := 2, agg := false, zero := [.int .u16 0], kind := .int .u16, id := 84 }
def T_func_api_Node_uint16_string_bool : TI := { size := 1, bytes := 8, agg := false, zero := [.nilfn], kind := .func, id := 85 }
def T_func_s_api_Node_int : TI := { size := 1, bytes := 8, agg := false, zero := [.nilfn], kind := .func, id := 86 }
def T_func_s_api_Node_stack_Stack_bool : TI := { size := 1, bytes := 8, agg := false, zero := [.nilfn], kind := .func, id := 88 }
def T_struct_Level_int_Inode_int : TI := { size := 2, bytes := 16, agg := true, zero := [.int .i64 0, .int .i64 0], kind := .struct [(0, 3, 1), (1, 3, 1)], id := 89 }
def T_seen_Spot : TI := { size := 2, bytes := 16, agg := true, zero := [.int .i64 0, .int .i64 0], kind := .struct [(0, 3, 1), (1, 3, 1)], id := 90 }
@[simp] theorem T_seen_Spot_size : T_seen_Spot.size = 2 := rfl
@[simp] theorem T_seen_Spot_agg : T_seen_Spot.agg = true := rfl
@[simp] theorem T_seen_Spot_zero : T_seen_Spot.zero = [.int .i64 0, .int .i64 0] := rfl
@[simp] theorem T_seen_Spot_kind : T_seen_Spot.kind = .struct [(0, 3, 1), (1, 3, 1)] := rfl
@[simp] theorem T_seen_Spot_id : T_seen_Spot.id = t_seen_Spot := rfl
def T_s_seen_Spot : TI := { size := 1, bytes := 24, agg := false, zero := [.vs 2 [] .nil], kind := .slice 90, id := 91 }
def T_seen_Place : TI := { size := 1, bytes := 24, agg := false, zero := [.vs 2 [] .nil], kind := .slice 90, id := 92 }
@[simp] theorem T_seen_Place_size : T_seen_Place.size = 1 := rfl
@[simp] theorem T_seen_Place_agg : T_seen_Place.agg = false := rfl
@[simp] theorem T_seen_Place_zero : T_seen_Place.zero = [.vs 2 [] .nil] := rfl
@[simp] theorem T_seen_Place_kind : T_seen_Place.kind = .slice 90 := rfl
@[simp] theorem T_seen_Place_id : T_seen_Place.id = t_seen_Place := rfl
def T_struct_Kind_int_seen_Spot_Dirs_seen_Place : TI := { size := 4, bytes := 48, agg := true, zero := [.int .i64 0, .int .i64 0, .int .i64 0, .vs 2 [] .nil], kind := .struct [(0, 3, 1), (1, 90, 2), (3, 92, 1)], id := 93 }
def T_seen_Found : TI := { size := 4, bytes := 48, agg := true, zero := [.int .i64 0, .int .i64 0, .int .i64 0, .vs 2 [] .nil], kind := .struct [(0, 3, 1), (1, 90, 2), (3, 92, 1)], id := 94 }
@[simp] theorem T_seen_Found_size : T_seen_Found.size = 4 := rfl
@[simp] theorem T_seen_Found_agg : T_seen_Found.agg = true := rfl
@[simp] theorem T_seen_Found_zero : T_seen_Found.zero = [.int .i64 0, .int .i64 0, .int .i64 0, .vs 2 [] .nil] := rfl
@[simp] theorem T_seen_Found_kind : T_seen_Found.kind = .struct [(0, 3, 1), (1, 90, 2), (3, 92, 1)] := rfl
@[simp] theorem T_seen_Found_id : T_seen_Found.id = t_seen_Found := rfl
def T_func_stack_Stack_seen_Place_string_seen_Found_bool : TI := { size := 1, bytes := 8, agg := false, zero := [.nilfn], kind := .func, id := 96 }
def T_func_stack_Stack_seen_Place : TI := { size := 1, bytes := 8, agg := false, zero := [.nilfn], kind := .func, id := 97 }
def T_func_api_Node_s_api_Node_string_bool : TI := { size := 1, bytes := 8, agg := false, zero := [.nilfn], kind := .func, id := 98 }
def T_func_string_string_s_string : TI := { size := 1, bytes := 8, agg := false, zero := [.nilfn], kind := .func, id := 99 }
def T_func_string_string_bool : TI := { size := 1, bytes := 8, agg := false, zero := [.nilfn], kind := .func, id := 100 }
def T_func_s_string_string_string : TI := { size := 1, bytes := 8, agg := false, zero := [.nilfn], kind := .func, id := 101 }
def T_func_string_uint8_int : TI := { size := 1, bytes := 8, agg := false, zero := [.nilfn], kind := .func, id := 102 }
def T_func_s_stack_mount_func_stack_mount_bool_int : TI := { size := 1, bytes := 8, agg := false, zero := [.nilfn], kind := .func, id := 103 }
def T_struct_id_int_p_branch_Branch : TI := { size := 2, bytes := 16, agg := true, zero := [.int .i64 0, .nil], kind := .struct [(0, 3, 1), (1, 48, 1)], id := 104 }
def T_stack_mount : TI := { size := 2, bytes := 16, agg := true, zero := [.int .i64 0, .nil], kind := .struct [(0, 3, 1), (1, 48, 1)], id := 105 }
@[simp] theorem T_stack_mount_size : T_stack_mount.size = 2 := rfl
@[simp] theorem T_stack_mount_agg : T_stack_mount.agg = true := rfl
@[simp] theorem T_stack_mount_zero : T_stack_mount.zero = [.int .i64 0, .nil] := rfl
@[simp] theorem T_stack_mount_kind : T_stack_mount.kind = .struct [(0, 3, 1), (1, 48, 1)] := rfl
@[simp] theorem T_stack_mount_id : T_stack_mount.id = t_stack_mount := rfl
def T_func_stack_mount_bool : TI := { size := 1, bytes := 8, agg := false, zero := [.nilfn], kind := .func, id := 106 }
def T_func_s_stack_mount_int_int_s_stack_mount : TI := { size := 1, bytes := 8, agg := false, zero := [.nilfn], kind := .func, id := 107 }
def T_func_s_stack_mount_s_stack_mount : TI := { size := 1, bytes := 8, agg := false, zero := [.nilfn], kind := .func, id := 108 }
def T_s_branch_inode : TI := { size := 1, bytes := 24, agg := false, zero := [.vs 8 [] .nil], kind := .slice 153, id := 109 }
@[simp] theorem T_s_branch_inode_size : T_s_branch_inode.size = 1 := rfl
@[simp] theorem T_s_branch_inode_agg : T_s_branch_inode.agg = false := rfl
@[simp] theorem T_s_branch_inode_zero : T_s_branch_inode.zero = [.vs 8 [] .nil] := rfl
@[simp] theorem T_s_branch_inode_kind : T_s_branch_inode.kind = .slice 153 := rfl
@[simp] theorem T_s_branch_inode_id : T_s_branch_inode.id = t_s_branch_inode := rfl
def T_struct_table_s_branch_inode : TI := { size := 1, bytes := 24, agg := true, zero := [.vs 8 [] .nil], kind := .struct [(0, 109, 1)], id := 110 }
def T_branch_Branch : TI := { size := 1, bytes := 24, agg := true, zero := [.vs 8 [] .nil], kind := .struct [(0, 109, 1)], id := 111 }
@[simp] theorem T_branch_Branch_size : T_branch_Branch.size = 1 := rfl
@[simp] theorem T_branch_Branch_agg : T_branch_Branch.agg = true := rfl
@[simp] theorem T_branch_Branch_zero : T_branch_Branch.zero = [.vs 8 [] .nil] := rfl
@[simp] theorem T_branch_Branch_kind : T_branch_Branch.kind = .struct [(0, 109, 1)] := rfl
@[simp] theorem T_branch_Branch_id : T_branch_Branch.id = t_branch_Branch := rfl
def T_func_s_string_s_string : TI := { size := 1, bytes := 8, agg := false, zero := [.nilfn], kind := .func, id := 112 }
def T_func_s_api_Node_s_api_Node : TI := { size := 1, bytes := 8, agg := false, zero := [.nilfn], kind := .func, id := 113 }
def T_func_api_Node_int_p_int_bool : TI := { size := 1, bytes := 8, agg := false, zero := [.nilfn], kind := .func, id := 114 }
def T_p_int : TI := { size := 1, bytes := 8, agg := false, zero := [.nil], kind := .ptr 3, id := 115 }
def T_func_s_api_Extent_s_api_Extent_bool : TI := { size := 1, bytes := 8, agg := false, zero := [.nilfn], kind := .func, id := 116 }
def T_struct_Off_int_Data_string : TI := { size := 2, bytes := 24, agg := true, zero := [.int .i64 0, .str []], kind := .struct [(0, 3, 1), (1, 9, 1)], id := 117 }
def T_api_Extent : TI := { size := 2, bytes := 24, agg := true, zero := [.int .i64 0, .str []], kind := .struct [(0, 3, 1), (1, 9, 1)], id := 118 }
@[simp] theorem T_api_Extent_size : T_api_Extent.size = 2 := rfl
@[simp] theorem T_api_Extent_agg : T_api_Extent.agg = true := rfl
@[simp] theorem T_api_Extent_zero : T_api_Extent.zero = [.int .i64 0, .str []] := rfl
@[simp] theorem T_api_Extent_kind : T_api_Extent.kind = .struct [(0, 3, 1), (1, 9, 1)] := rfl
@[simp] theorem T_api_Extent_id : T_api_Extent.id = t_api_Extent := rfl
def T_func_int_s_api_Extent_bool : TI := { size := 1, bytes := 8, agg := false, zero := [.nilfn], kind := .func, id := 119 }
def T_func_s_string_string_int_bool : TI := { size := 1, bytes := 8, agg := false, zero := [.nilfn], kind := .func, id := 121 }
def T_func_string_s_api_Extent : TI := { size := 1, bytes := 8, agg := false, zero := [.nilfn], kind := .func, id := 122 }
def T_s_uint8 : TI := { size := 1, bytes := 24, agg := false, zero := [.vs 1 [] .nil], kind := .slice 5, id := 123 }
@[simp] theorem T_s_uint8_size : T_s_uint8.size = 1 := rfl
@[simp] theorem T_s_uint8_agg : T_s_uint8.agg = false := rfl
@[simp] theorem T_s_uint8_zero : T_s_uint8.zero = [.vs 1 [] .nil] := rfl
@[simp] theorem T_s_uint8_kind : T_s_uint8.kind = .slice 5 := rfl
@[simp] theorem T_s_uint8_id : T_s_uint8.id = t_s_uint8 := rfl
def T_func_s_api_Extent_int_uint8 : TI := { size := 1, bytes := 8, agg := false, zero := [.nilfn], kind := .func, id := 124 }
def T_struct_b_s_uint8 : TI := { size := 1, bytes := 24, agg := true, zero := [.vs 1 [] .nil], kind := .struct [(0, 123, 1)], id := 125 }
def T_wire_Writer : TI := { size := 1, bytes := 24, agg := true, zero := [.vs 1 [] .nil], kind := .struct [(0, 123, 1)], id := 126 }
@[simp] theorem T_wire_Writer_size : T_wire_Writer.size = 1 := rfl
@[simp] theorem T_wire_Writer_agg : T_wire_Writer.agg = true := rfl
@[simp] theorem T_wire_Writer_zero : T_wire_Writer.zero = [.vs 1 [] .nil] := rfl
@[simp] theorem T_wire_Writer_kind : T_wire_Writer.kind = .struct [(0, 123, 1)] := rfl
@[simp] theorem T_wire_Writer_id : T_wire_Writer.id = t_wire_Writer := rfl
def T_func_p_wire_Writer_api_Node : TI := { size := 1, bytes := 8, agg := false, zero := [.nilfn], kind := .func, id := 127 }
def T_p_wire_Writer : TI := { size := 1, bytes := 8, agg := false, zero := [.nil], kind := .ptr 126, id := 128 }
def T_func_string : TI := { size := 1, bytes := 8, agg := false, zero := [.nilfn], kind := .func, id := 129 }
def T_func_api_Node_string : TI := { size := 1, bytes := 8, agg := false, zero := [.nilfn], kind := .func, id := 130 }
def T_p_image_reader : TI := { size := 1, bytes := 8, agg := false, zero := [.nil], kind := .ptr 135, id := 131 }
def T_p_wire_Reader : TI := { size := 1, bytes := 8, agg := false, zero := [.nil], kind := .ptr 162, id := 132 }
@[simp] theorem T_p_wire_Reader_size : T_p_wire_Reader.size = 1 := rfl
@[simp] theorem T_p_wire_Reader_agg : T_p_wire_Reader.agg = false := rfl
@[simp] theorem T_p_wire_Reader_zero : T_p_wire_Reader.zero = [.nil] := rfl
@[simp] theorem T_p_wire_Reader_kind : T_p_wire_Reader.kind = .ptr 162 := rfl
@[simp] theorem T_p_wire_Reader_id : T_p_wire_Reader.id = t_p_wire_Reader := rfl
def T_func_string_p_wire_Reader : TI := { size := 1, bytes := 8, agg := false, zero := [.nilfn], kind := .func, id := 133 }
def T_struct_p_wire_Reader_bad_bool_left_int : TI := { size := 3, bytes := 24, agg := true, zero := [.nil, .bool false, .int .i64 0], kind := .struct [(0, 132, 1), (1, 4, 1), (2, 3, 1)], id := 134 }
def T_image_reader : TI := { size := 3, bytes := 24, agg := true, zero := [.nil, .bool false, .int .i64 0], kind := .struct [(0, 132, 1), (1, 4, 1), (2, 3, 1)], id := 135 }
@[simp] theorem T_image_reader_size : T_image_reader.size = 3 := rfl
@[simp] theorem T_image_reader_agg : T_image_reader.agg = true := rfl
@[simp] theorem T_image_reader_zero : T_image_reader.zero = [.nil, .bool false, .int .i64 0] := rfl
@[simp] theorem T_image_reader_kind : T_image_reader.kind = .struct [(0, 132, 1), (1, 4, 1), (2, 3, 1)] := rfl
@[simp] theorem T_image_reader_id : T_image_reader.id = t_image_reader := rfl
def T_func_int_api_Node : TI := { size := 1, bytes := 8, agg := false, zero := [.nilfn], kind := .func, id := 136 }
def T_struct_Node_api_Node_Len_int : TI := { size := 8, bytes := 120, agg := true, zero := [.int .i64 0, .bool false, .vs 1 [] .nil, .vs 7 [] .nil, .int .i64 0, .vs 2 [] .nil, .str [], .int .i64 0], kind := .struct [(0, 54, 7), (7, 3, 1)], id := 137 }
def T_socageref05_Got : TI := { size := 8, bytes := 120, agg := true, zero := [.int .i64 0, .bool false, .vs 1 [] .nil, .vs 7 [] .nil, .int .i64 0, .vs 2 [] .nil, .str [], .int .i64 0], kind := .struct [(0, 54, 7), (7, 3, 1)], id := 138 }
@[simp] theorem T_socageref05_Got_size : T_socageref05_Got.size = 8 := rfl
@[simp] theorem T_socageref05_Got_agg : T_socageref05_Got.agg = true := rfl
@[simp] theorem T_socageref05_Got_zero : T_socageref05_Got.zero = [.int .i64 0, .bool false, .vs 1 [] .nil, .vs 7 [] .nil, .int .i64 0, .vs 2 [] .nil, .str [], .int .i64 0] := rfl
@[simp] theorem T_socageref05_Got_kind : T_socageref05_Got.kind = .struct [(0, 54, 7), (7, 3, 1)] := rfl
@[simp] theorem T_socageref05_Got_id : T_socageref05_Got.id = t_socageref05_Got := rfl
def T_func_string_int_socageref05_Got : TI := { size := 1, bytes := 8, agg := false, zero := [.nilfn], kind := .func, id := 139 }
def T_func_int_string_int_bool : TI := { size := 1, bytes := 8, agg := false, zero := [.nilfn], kind := .func, id := 140 }
def T_func_int_bool : TI := { size := 1, bytes := 8, agg := false, zero := [.nilfn], kind := .func, id := 141 }
def T_func_string_string_int_int_s_string : TI := { size := 1, bytes := 8, agg := false, zero := [.nilfn], kind := .func, id := 142 }
def T_func_string_string_int : TI := { size := 1, bytes := 8, agg := false, zero := [.nilfn], kind := .func, id := 143 }
def T_p_strings_Builder : TI := { size := 1, bytes := 8, agg := false, zero := [.nil], kind := .ptr 146, id := 144 }
def T_struct_addr_p_strings_Builder_buf_s_uint8 : TI := { size := 2, bytes := 32, agg := true, zero := [.nil, .vs 1 [] .nil], kind := .struct [(0, 144, 1), (1, 123, 1)], id := 145 }
def T_strings_Builder : TI := { size := 2, bytes := 32, agg := true, zero := [.nil, .vs 1 [] .nil], kind := .struct [(0, 144, 1), (1, 123, 1)], id := 146 }
def T_func_int_f2d63e : TI := { size := 1, bytes := 8, agg := false, zero := [.nilfn], kind := .func, id := 147 }
def T_interface_Error_string : TI := { size := 1, bytes := 16, agg := false, zero := [.nilifc], kind := .iface, id := 148 }
def T_error : TI := { size := 1, bytes := 16, agg := false, zero := [.nilifc], kind := .iface, id := 149 }
def T_func_string_int_error : TI := { size := 1, bytes := 8, agg := false, zero := [.nilfn], kind := .func, id := 151 }
def T_struct_api_Node_ids_s_int : TI := { size := 8, bytes := 136, agg := true, zero := [.int .i64 0, .bool false, .vs 1 [] .nil, .vs 7 [] .nil, .int .i64 0, .vs 2 [] .nil, .str [], .vs 1 [] .nil], kind := .struct [(0, 54, 7), (7, 40, 1)], id := 152 }
def T_branch_inode : TI := { size := 8, bytes := 136, agg := true, zero := [.int .i64 0, .bool false, .vs 1 [] .nil, .vs 7 [] .nil, .int .i64 0, .vs 2 [] .nil, .str [], .vs 1 [] .nil], kind := .struct [(0, 54, 7), (7, 40, 1)], id := 153 }
@[simp] theorem T_branch_inode_size : T_branch_inode.size = 8 := rfl
@[simp] theorem T_branch_inode_agg : T_branch_inode.agg = true := rfl
@[simp] theorem T_branch_inode_zero : T_branch_inode.zero = [.int .i64 0, .bool false, .vs 1 [] .nil, .vs 7 [] .nil, .int .i64 0, .vs 2 [] .nil, .str [], .vs 1 [] .nil] := rfl
@[simp] theorem T_branch_inode_kind : T_branch_inode.kind = .struct [(0, 54, 7), (7, 40, 1)] := rfl
@[simp] theorem T_branch_inode_id : T_branch_inode.id = t_branch_inode := rfl
def T_func_s_api_Extent_s_api_Extent : TI := { size := 1, bytes := 8, agg := false, zero := [.nilfn], kind := .func, id := 154 }
def T_func_int_api_Extent_bool : TI := { size := 1, bytes := 8, agg := false, zero := [.nilfn], kind := .func, id := 155 }
def T_uint : TI := { size := 1, bytes := 8, agg := false, zero := [.int .u64 0], kind := .int .u64, id := 156 }
def T_func_int_int_bool : TI := { size := 1, bytes := 8, agg := false, zero := [.nilfn], kind := .func, id := 157 }
def T_func_string_int_bool : TI := { size := 1, bytes := 8, agg := false, zero := [.nilfn], kind := .func, id := 158 }
def T_func_string_int_int_string : TI := { size := 1, bytes := 8, agg := false, zero := [.nilfn], kind := .func, id := 159 }
def T_func_string_string_int_string : TI := { size := 1, bytes := 8, agg := false, zero := [.nilfn], kind := .func, id := 160 }
def T_struct_s_string : TI := { size := 1, bytes := 16, agg := true, zero := [.str []], kind := .struct [(0, 9, 1)], id := 161 }
def T_wire_Reader : TI := { size := 1, bytes := 16, agg := true, zero := [.str []], kind := .struct [(0, 9, 1)], id := 162 }
@[simp] theorem T_wire_Reader_size : T_wire_Reader.size = 1 := rfl
@[simp] theorem T_wire_Reader_agg : T_wire_Reader.agg = true := rfl
@[simp] theorem T_wire_Reader_zero : T_wire_Reader.zero = [.str []] := rfl
@[simp] theorem T_wire_Reader_kind : T_wire_Reader.kind = .struct [(0, 9, 1)] := rfl
@[simp] theorem T_wire_Reader_id : T_wire_Reader.id = t_wire_Reader := rfl
def T_func_int_string : TI := { size := 1, bytes := 8, agg := false, zero := [.nilfn], kind := .func, id := 163 }
def T_func_string_int_int_int : TI := { size := 1, bytes := 8, agg := false, zero := [.nilfn], kind := .func, id := 164 }
def T_func_int_branch_inode : TI := { size := 1, bytes := 8, agg := false, zero := [.nilfn], kind := .func, id := 165 }
def T_func_string_int_s_string : TI := { size := 1, bytes := 8, agg := false, zero := [.nilfn], kind := .func, id := 166 }
def T_func_string_int32_int : TI := { size := 1, bytes := 8, agg := false, zero := [.nilfn], kind := .func, id := 167 }
def T_func_string_strings_asciiSet_bool : TI := { size := 1, bytes := 8, agg := false, zero := [.nilfn], kind := .func, id := 171 }
def T_func_uint8_bool : TI := { size := 1, bytes := 8, agg := false, zero := [.nilfn], kind := .func, id := 172 }
def T_p_uint8 : TI := { size := 1, bytes := 8, agg := false, zero := [.nil], kind := .ptr 5, id := 173 }
def T_func_int_int_bool_ea9af1 : TI := { size := 1, bytes := 8, agg := false, zero := [.nilfn], kind := .func, id := 174 }
def T_func_int_string_bool : TI := { size := 1, bytes := 8, agg := false, zero := [.nilfn], kind := .func, id := 175 }
def T_func_string_int : TI := { size := 1, bytes := 8, agg := false, zero := [.nilfn], kind := .func, id := 176 }
def T_func_string_int32_int_dd94b7 : TI := { size := 1, bytes := 8, agg := false, zero := [.nilfn], kind := .func, id := 178 }
def T_func_int32_bool : TI := { size := 1, bytes := 8, agg := false, zero := [.nilfn], kind := .func, id := 179 }
def T_p_strings_asciiSet : TI := { size := 1, bytes := 8, agg := false, zero := [.nil], kind := .ptr 169, id := 180 }
def T_func_unsafe_Pointer_unsafe_Pointer : TI := { size := 1, bytes := 8, agg := false, zero := [.nilfn], kind := .func, id := 182 }
def T_func_int_s_uint8 : TI := { size := 1, bytes := 8, agg := false, zero := [.nilfn], kind := .func, id := 183 }
def T_struct_lo_uint8_hi_uint8 : TI := { size := 2, bytes := 2, agg := true, zero := [.int .u8 0, .int .u8 0], kind := .struct [(0, 5, 1), (1, 5, 1)], id := 185 }
def T_utf8_acceptRange : TI := { size := 2, bytes := 2, agg := true, zero := [.int .u8 0, .int .u8 0], kind := .struct [(0, 5, 1), (1, 5, 1)], id := 186 }
def T_16_utf8_acceptRange : TI := { size := 32, bytes := 32, agg := true, zero := [.int .u8 0, .int .u8 0, .int .u8 0, .int .u8 0, .int .u8 0, .int .u8 0, .int .u8 0, .int .u8 0, .int .u8 0, .int .u8 0, .int .u8 0, .int .u8 0, .int .u8 0, .int .u8 0, .int .u8 0, .int .u8 0, .int .u8 0, .int .u8 0, .int .u8 0, .int .u8 0, .int .u8 0, .int .u8 0, .int .u8 0, .int .u8 0, .int .u8 0, .int .u8 0, .int .u8 0, .int .u8 0, .int .u8 0, .int .u8 0, .int .u8 0, .int .u8 0], kind := .array 16 186, id := 187 }
def T_uint32 : TI := { size := 1, bytes := 4, agg := false, zero := [.int .u32 0], kind := .int .u32, id := 188 }
def T_func_string_uint32_uint32 : TI := { size := 1, bytes := 8, agg := false, zero := [.nilfn], kind := .func, id := 190 }
def T_struct_interface_p_abi_Type_concrete_p_abi_Type__3af7698d : TI := { size := 4, bytes := 40, agg := true, zero := [.nil, .nil, .nil, .str []], kind := .struct [(0, 17, 1), (1, 17, 1), (2, 17, 1), (3, 9, 1)], id := 191 }
def T_runtime_TypeAssertionError : TI := { size := 4, bytes := 40, agg := true, zero := [.nil, .nil, .nil, .str []], kind := .struct [(0, 17, 1), (1, 17, 1), (2, 17, 1), (3, 9, 1)], id := 192 }
def T_0_p_runtime_PanicNilError : TI := { size := 0, bytes := 0, agg := true, zero := [], kind := .array 0 16, id := 193 }
def T_struct_0_p_runtime_PanicNilError : TI := { size := 0, bytes := 0, agg := true, zero := [], kind := .struct [(0, 193, 0)], id := 194 }
def T_runtime_PanicNilError : TI := { size := 0, bytes := 0, agg := true, zero := [], kind := .struct [(0, 193, 0)], id := 195 }
def T_abi_TFlag : TI := { size := 1, bytes := 1, agg := false, zero := [.int .u8 0], kind := .int .u8, id := 196 }
def T_abi_Kind : TI := { size := 1, bytes := 1, agg := false, zero := [.int .u8 0], kind := .int .u8, id := 197 }
def T_func_unsafe_Pointer_unsafe_Pointer_bool : TI := { size := 1, bytes := 8, agg := false, zero := [.nilfn], kind := .func, id := 198 }
def T_abi_NameOff : TI := { size := 1, bytes := 4, agg := false, zero := [.int .i32 0], kind := .int .i32, id := 199 }
def T_abi_TypeOff : TI := { size := 1, bytes := 4, agg := false, zero := [.int .i32 0], kind := .int .i32, id := 200 }
def T_struct_Size_uintptr_PtrBytes_uintptr_Hash_uint32_7c8ec20b : TI := { size := 11, bytes := 48, agg := true, zero := [.int .u64 0, .int .u64 0, .int .u32 0, .int .u8 0, .int .u8 0, .int .u8 0, .int .u8 0, .nilfn, .nil, .int .i32 0, .int .i32 0], kind := .struct [(0, 12, 1), (1, 12, 1), (2, 188, 1), (3, 196, 1), (4, 5, 1), (5, 5, 1), (6, 197, 1), (7, 198, 1), (8, 173, 1), (9, 199, 1), (10, 200, 1)], id := 201 }
def T_abi_Type : TI := { size := 11, bytes := 48, agg := true, zero := [.int .u64 0, .int .u64 0, .int .u32 0, .int .u8 0, .int .u8 0, .int .u8 0, .int .u8 0, .nilfn, .nil, .int .i32 0, .int .i32 0], kind := .struct [(0, 12, 1), (1, 12, 1), (2, 188, 1), (3, 196, 1), (4, 5, 1), (5, 5, 1), (6, 197, 1), (7, 198, 1), (8, 173, 1), (9, 199, 1), (10, 200, 1)], id := 202 }
def tyOf : Nat → TI
  | 1 => T_func
  | 2 => T_int64
  | 3 => T_int
  | 4 => T_bool
  | 5 => T_uint8
  | 6 => T_abi_BoundsErrorCode
  | 7 => T_struct_x_int64_y_int_signed_bool_code_abi_BoundsErrorCode
  | 8 => T_runtime_boundsError
  | 9 => T_string
  | 10 => T_runtime_errorString
  | 11 => T_runtime_plainError
  | 12 => T_uintptr
  | 13 => T_struct_msg_string_addr_uintptr
  | 14 => T_runtime_errorAddressString
  | 15 => T_p_runtime_TypeAssertionError
  | 16 => T_p_runtime_PanicNilError
  | 17 => T_p_abi_Type
  | 18 => T_struct_typ_p_abi_Type
  | 19 => T_maps_unhashableTypeError
  | 20 => T_interface
  | 21 => T_int32
  | 22 => T_func_bool
  | 23 => T_s_string
  | 24 => T_api_Errno
  | 26 => T_func_string_s_string_bool_api_Errno
  | 28 => T_func_string_s_string_bool
  | 29 => T_func_s_string_s_string_bool
  | 30 => T_func_string_bool
  | 31 => T_func_string_string
  | 32 => T_func_s_string_string
  | 33 => T_func_string_string_string
  | 34 => T_func_string_string_b43980
  | 35 => T_func_s_string_bool
  | 36 => T_s_socagelaw07_Act
  | 37 => T_s_stack_mount
  | 38 => T_struct_l_s_stack_mount_next_int
  | 39 => T_stack_Stack
  | 40 => T_s_int
  | 41 => T_s_p_branch_Branch
  | 42 => T_s_stack_Stack
  | 43 => T_s_s_int
  | 44 => T_struct_Out_bool_ID_int
  | 45 => T_socagelaw07_Act
  | 47 => T_func_int_stack_Stack_api_Errno
  | 48 => T_p_branch_Branch
  | 50 => T_func_api_Node_p_branch_Branch_api_Errno
  | 51 => T_s_api_Node
  | 52 => T_s_api_Extent
  | 53 => T_struct_Kind_int_Opaque_bool_Names_s_string_Items_8666df6f
  | 54 => T_api_Node
  | 55 => T_func_s_string_api_Node_api_Node
  | 57 => T_func_p_branch_Branch_stack_Stack_int_api_Errno
  | 58 => T_func_stack_Stack_s_int_s_p_branch_Branch_bool
  | 59 => T_func_s_socagelaw07_Act_bool
  | 60 => T_func_api_Node_int
  | 61 => T_func_api_Node_bool
  | 62 => T_func_api_Node_stack_Stack_api_Errno
  | 63 => T_func_int
  | 64 => T_func_int_p_branch_Branch
  | 65 => T_func_int_int
  | 66 => T_func_s_api_Node_uint8_bool
  | 67 => T_func_api_Node_api_Node_bool
  | 69 => T_func_api_Node_string_api_Node_bool
  | 70 => T_func_api_Node_string_int
  | 71 => T_func_api_Node_api_Node_string_bool
  | 72 => T_func_string_api_Node
  | 73 => T_func_int_s_api_Extent_int_int_string
  | 74 => T_func_api_Node
  | 75 => T_func_api_Node_api_Node
  | 76 => T_func_string_s_string_uint8_bool
  | 78 => T_func_api_Node_string_api_Errno
  | 80 => T_func_api_Node_string_bool
  | 82 => T_func_string_api_Node_api_Errno
  | 83 => T_func_string_api_Node_bool
  | 84 => T_uint16
  | 85 => T_func_api_Node_uint16_string_bool
  | 86 => T_func_s_api_Node_int
  | 88 => T_func_s_api_Node_stack_Stack_bool
  | 89 => T_struct_Level_int_Inode_int
  | 90 => T_seen_Spot
  | 91 => T_s_seen_Spot
  | 92 => T_seen_Place
  | 93 => T_struct_Kind_int_seen_Spot_Dirs_seen_Place
  | 94 => T_seen_Found
  | 96 => T_func_stack_Stack_seen_Place_string_seen_Found_bool
  | 97 => T_func_stack_Stack_seen_Place
  | 98 => T_func_api_Node_s_api_Node_string_bool
  | 99 => T_func_string_string_s_string
  | 100 => T_func_string_string_bool
  | 101 => T_func_s_string_string_string
  | 102 => T_func_string_uint8_int
  | 103 => T_func_s_stack_mount_func_stack_mount_bool_int
  | 104 => T_struct_id_int_p_branch_Branch
  | 105 => T_stack_mount
  | 106 => T_func_stack_mount_bool
  | 107 => T_func_s_stack_mount_int_int_s_stack_mount
  | 108 => T_func_s_stack_mount_s_stack_mount
  | 109 => T_s_branch_inode
  | 110 => T_struct_table_s_branch_inode
  | 111 => T_branch_Branch
  | 112 => T_func_s_string_s_string
  | 113 => T_func_s_api_Node_s_api_Node
  | 114 => T_func_api_Node_int_p_int_bool
  | 115 => T_p_int
  | 116 => T_func_s_api_Extent_s_api_Extent_bool
  | 117 => T_struct_Off_int_Data_string
  | 118 => T_api_Extent
  | 119 => T_func_int_s_api_Extent_bool
  | 121 => T_func_s_string_string_int_bool
  | 122 => T_func_string_s_api_Extent
  | 123 => T_s_uint8
  | 124 => T_func_s_api_Extent_int_uint8
  | 125 => T_struct_b_s_uint8
  | 126 => T_wire_Writer
  | 127 => T_func_p_wire_Writer_api_Node
  | 128 => T_p_wire_Writer
  | 129 => T_func_string
  | 130 => T_func_api_Node_string
  | 131 => T_p_image_reader
  | 132 => T_p_wire_Reader
  | 133 => T_func_string_p_wire_Reader
  | 134 => T_struct_p_wire_Reader_bad_bool_left_int
  | 135 => T_image_reader
  | 136 => T_func_int_api_Node
  | 137 => T_struct_Node_api_Node_Len_int
  | 138 => T_socageref05_Got
  | 139 => T_func_string_int_socageref05_Got
  | 140 => T_func_int_string_int_bool
  | 141 => T_func_int_bool
  | 142 => T_func_string_string_int_int_s_string
  | 143 => T_func_string_string_int
  | 144 => T_p_strings_Builder
  | 145 => T_struct_addr_p_strings_Builder_buf_s_uint8
  | 146 => T_strings_Builder
  | 147 => T_func_int_f2d63e
  | 148 => T_interface_Error_string
  | 149 => T_error
  | 151 => T_func_string_int_error
  | 152 => T_struct_api_Node_ids_s_int
  | 153 => T_branch_inode
  | 154 => T_func_s_api_Extent_s_api_Extent
  | 155 => T_func_int_api_Extent_bool
  | 156 => T_uint
  | 157 => T_func_int_int_bool
  | 158 => T_func_string_int_bool
  | 159 => T_func_string_int_int_string
  | 160 => T_func_string_string_int_string
  | 161 => T_struct_s_string
  | 162 => T_wire_Reader
  | 163 => T_func_int_string
  | 164 => T_func_string_int_int_int
  | 165 => T_func_int_branch_inode
  | 166 => T_func_string_int_s_string
  | 167 => T_func_string_int32_int
  | 171 => T_func_string_strings_asciiSet_bool
  | 172 => T_func_uint8_bool
  | 173 => T_p_uint8
  | 174 => T_func_int_int_bool_ea9af1
  | 175 => T_func_int_string_bool
  | 176 => T_func_string_int
  | 178 => T_func_string_int32_int_dd94b7
  | 179 => T_func_int32_bool
  | 180 => T_p_strings_asciiSet
  | 182 => T_func_unsafe_Pointer_unsafe_Pointer
  | 183 => T_func_int_s_uint8
  | 185 => T_struct_lo_uint8_hi_uint8
  | 186 => T_utf8_acceptRange
  | 187 => T_16_utf8_acceptRange
  | 188 => T_uint32
  | 190 => T_func_string_uint32_uint32
  | 191 => T_struct_interface_p_abi_Type_concrete_p_abi_Type__3af7698d
  | 192 => T_runtime_TypeAssertionError
  | 193 => T_0_p_runtime_PanicNilError
  | 194 => T_struct_0_p_runtime_PanicNilError
  | 195 => T_runtime_PanicNilError
  | 196 => T_abi_TFlag
  | 197 => T_abi_Kind
  | 198 => T_func_unsafe_Pointer_unsafe_Pointer_bool
  | 199 => T_abi_NameOff
  | 200 => T_abi_TypeOff
  | 201 => T_struct_Size_uintptr_PtrBytes_uintptr_Hash_uint32_7c8ec20b
  | 202 => T_abi_Type
  | n => { size := 0, bytes := 0, agg := false, zero := [], kind := match n with | 0 | 25 | 27 | 46 | 49 | 56 | 68 | 77 | 79 | 81 | 87 | 95 | 120 | 150 | 170 | 177 | 189 => .tuple | _ => .other }
def locOf : Nat → Nat → Bool
  | 6, 3 => true
  | 6, 9 => true
  | 6, 13 => true
  | 6, 17 => true
  | 6, 21 => true
  | 7, 7 => true
  | 7, 8 => true
  | 7, 14 => true
  | 8, 1 => true
  | 9, 3 => true
  | 9, 4 => true
  | 9, 7 => true
  | 10, 7 => true
  | 10, 9 => true
  | 10, 10 => true
  | 11, 1 => true
  | 11, 7 => true
  | 12, 3 => true
  | 12, 5 => true
  | 13, 3 => true
  | 13, 9 => true
  | 13, 11 => true
  | 14, 3 => true
  | 14, 8 => true
  | 14, 10 => true
  | 14, 13 => true
  | 14, 15 => true
  | 25, 1 => true
  | 25, 3 => true
  | 25, 5 => true
  | 26, 2 => true
  | 26, 4 => true
  | 27, 1 => true
  | 28, 4 => true
  | 29, 2 => true
  | 29, 4 => true
  | 30, 3 => true
  | 31, 1 => true
  | 32, 1 => true
  | 33, 2 => true
  | 33, 4 => true
  | 33, 6 => true
  | 34, 1 => true
  | 35, 2 => true
  | 36, 2 => true
  | 38, 1 => true
  | 39, 1 => true
  | 39, 2 => true
  | 40, 1 => true
  | 41, 1 => true
  | 41, 5 => true
  | 42, 2 => true
  | 42, 3 => true
  | 43, 2 => true
  | 43, 3 => true
  | 44, 1 => true
  | 45, 2 => true
  | 45, 4 => true
  | 46, 2 => true
  | 47, 2 => true
  | 49, 2 => true
  | 50, 0 => true
  | 51, 1 => true
  | 51, 2 => true
  | 52, 3 => true
  | 53, 1 => true
  | 54, 1 => true
  | 55, 2 => true
  | 55, 5 => true
  | 56, 2 => true
  | 56, 4 => true
  | 57, 1 => true
  | 57, 4 => true
  | 57, 6 => true
  | 58, 4 => true
  | 59, 2 => true
  | 59, 5 => true
  | 59, 6 => true
  | 60, 3 => true
  | 60, 6 => true
  | 60, 8 => true
  | 60, 10 => true
  | 61, 1 => true
  | 67, 2 => true
  | 70, 3 => true
  | 70, 6 => true
  | 70, 8 => true
  | 73, 3 => true
  | 73, 8 => true
  | 73, 10 => true
  | 74, 1 => true
  | 75, 1 => true
  | 76, 3 => true
  | 76, 11 => true
  | 80, 1 => true
  | 84, 3 => true
  | 84, 5 => true
  | 86, 1 => true
  | 88, 4 => true
  | 88, 5 => true
  | 90, 4 => true
  | 90, 5 => true
  | 90, 6 => true
  | 90, 15 => true
  | 91, 8 => true
  | 101, 1 => true
  | 102, 7 => true
  | 103, 1 => true
  | 114, 4 => true
  | _, _ => false
def liveOf : Nat → Nat → List Nat × List Nat
  | 5, 6 => ([20], [])
  | 5, 17 => ([0, 9, 56], [])
  | 6, 11 => ([4, 5, 6, 7, 29], [3])
  | 6, 17 => ([10, 45], [9])
  | 6, 42 => ([135], [])
  | 7, 7 => ([5, 23], [])
  | 7, 18 => ([64], [8])
  | 7, 27 => ([13, 103], [])
  | 10, 10 => ([8, 60], [])
  | 10, 18 => ([98], [10])
  | 16, 4 => ([2, 17], [])
  | 17, 6 => ([0, 4, 5, 6], [])
  | 18, 4 => ([5], [])
  | 20, 4 => ([3], [])
  | 22, 3 => ([3, 4], [])
  | 30, 4 => ([40], [3])
  | 33, 3 => ([11], [2, 4])
  | 38, 3 => ([3, 4], [1])
  | 41, 3 => ([3, 9], [])
  | 42, 4 => ([60], [2, 3])
  | 43, 4 => ([5], [2, 3])
  | 43, 9 => ([6], [2, 3])
  | 46, 2 => ([5], [2])
  | 48, 5 => ([9, 10], [])
  | 58, 4 => ([10], [])
  | 59, 4 => ([14], [2])
  | 60, 3 => ([17], [3, 8])
  | 61, 3 => ([3, 7], [1])
  | 66, 2 => ([8], [])
  | 70, 5 => ([29], [6])
  | 73, 3 => ([27], [])
  | 73, 11 => ([59], [])
  | 74, 2 => ([3], [1])
  | 75, 3 => ([3, 4], [1])
  | 76, 16 => ([66], [])
  | 77, 4 => ([13], [])
  | 78, 4 => ([13], [])
  | 79, 4 => ([5], [])
  | 80, 4 => ([3], [1])
  | 81, 3 => ([7, 8], [])
  | 82, 3 => ([0, 3, 4], [])
  | 82, 5 => ([5], [])
  | 83, 2 => ([5], [])
  | 84, 7 => ([29], [])
  | 84, 19 => ([57], [3])
  | 86, 5 => ([3, 4], [1])
  | 86, 14 => ([3, 6], [1])
  | 88, 11 => ([6], [5])
  | 88, 19 => ([9], [5])
  | 90, 13 => ([0, 7, 9], [4, 5, 6])
  | 90, 28 => ([0, 7, 13], [4, 5, 6])
  | 102, 3 => ([5, 10], [])
  | 103, 2 => ([8], [1])
  | 104, 2 => ([5], [])
  | 107, 4 => ([7], [])
  | 109, 3 => ([1, 8], [])
  | 125, 5 => ([6, 24], [])
  | 127, 3 => ([3, 4], [])
  | _, _ => ([], [])
def hasL : List Nat := [1, 2, 3, 4, 5, 6, 7, 8, 9, 10, 11, 12, 13, 14, 15, 16, 17, 18, 19, 20, 21, 22, 23, 24, 26, 28, 29, 30, 31, 32, 33, 34, 35, 36, 37, 38, 39, 40, 41, 42, 43, 44, 45, 47, 48, 50, 51, 52, 53, 54, 55, 57, 58, 59, 60, 61, 62, 63, 64, 65, 66, 67, 69, 70, 71, 72, 73, 74, 75, 76, 78, 80, 82, 83, 84, 85, 86, 88, 89, 90, 91, 92, 93, 94, 96, 97, 98, 99, 100, 101, 102, 103, 104, 105, 106, 107, 108, 109, 110, 111, 112, 113, 114, 115, 116, 117, 118, 119, 121, 122, 123, 124, 125, 126, 127, 128, 129, 130, 131, 132, 133, 134, 135, 136, 137, 138, 139, 140, 141, 142, 143, 144, 145, 146, 147, 148, 149, 151, 152, 153, 154, 155, 156, 157, 158, 159, 160, 161, 162, 163, 164, 165, 166, 167, 171, 172, 173, 174, 175, 176, 178, 179, 180, 182, 183, 185, 186, 187, 188, 190, 191, 192, 193, 194, 195, 196, 197, 198, 199, 200, 201, 202]
def hasOf : Nat → Bool
  | 1 => true
  | 2 => true
  | 3 => true
  | 4 => true
  | 5 => true
  | 6 => true
  | 7 => true
  | 8 => true
  | 9 => true
  | 10 => true
  | 11 => true
  | 12 => true
  | 13 => true
  | 14 => true
  | 15 => true
  | 16 => true
  | 17 => true
  | 18 => true
  | 19 => true
  | 20 => true
  | 21 => true
  | 22 => true
  | 23 => true
  | 24 => true
  | 26 => true
  | 28 => true
  | 29 => true
  | 30 => true
  | 31 => true
  | 32 => true
  | 33 => true
  | 34 => true
  | 35 => true
  | 36 => true
  | 37 => true
  | 38 => true
  | 39 => true
  | 40 => true
  | 41 => true
  | 42 => true
  | 43 => true
  | 44 => true
  | 45 => true
  | 47 => true
  | 48 => true
  | 50 => true
  | 51 => true
  | 52 => true
  | 53 => true
  | 54 => true
  | 55 => true
  | 57 => true
  | 58 => true
  | 59 => true
  | 60 => true
  | 61 => true
  | 62 => true
  | 63 => true
  | 64 => true
  | 65 => true
  | 66 => true
  | 67 => true
  | 69 => true
  | 70 => true
  | 71 => true
  | 72 => true
  | 73 => true
  | 74 => true
  | 75 => true
  | 76 => true
  | 78 => true
  | 80 => true
  | 82 => true
  | 83 => true
  | 84 => true
  | 85 => true
  | 86 => true
  | 88 => true
  | 89 => true
  | 90 => true
  | 91 => true
  | 92 => true
  | 93 => true
  | 94 => true
  | 96 => true
  | 97 => true
  | 98 => true
  | 99 => true
  | 100 => true
  | 101 => true
  | 102 => true
  | 103 => true
  | 104 => true
  | 105 => true
  | 106 => true
  | 107 => true
  | 108 => true
  | 109 => true
  | 110 => true
  | 111 => true
  | 112 => true
  | 113 => true
  | 114 => true
  | 115 => true
  | 116 => true
  | 117 => true
  | 118 => true
  | 119 => true
  | 121 => true
  | 122 => true
  | 123 => true
  | 124 => true
  | 125 => true
  | 126 => true
  | 127 => true
  | 128 => true
  | 129 => true
  | 130 => true
  | 131 => true
  | 132 => true
  | 133 => true
  | 134 => true
  | 135 => true
  | 136 => true
  | 137 => true
  | 138 => true
  | 139 => true
  | 140 => true
  | 141 => true
  | 142 => true
  | 143 => true
  | 144 => true
  | 145 => true
  | 146 => true
  | 147 => true
  | 148 => true
  | 149 => true
  | 151 => true
  | 152 => true
  | 153 => true
  | 154 => true
  | 155 => true
  | 156 => true
  | 157 => true
  | 158 => true
  | 159 => true
  | 160 => true
  | 161 => true
  | 162 => true
  | 163 => true
  | 164 => true
  | 165 => true
  | 166 => true
  | 167 => true
  | 171 => true
  | 172 => true
  | 173 => true
  | 174 => true
  | 175 => true
  | 176 => true
  | 178 => true
  | 179 => true
  | 180 => true
  | 182 => true
  | 183 => true
  | 185 => true
  | 186 => true
  | 187 => true
  | 188 => true
  | 190 => true
  | 191 => true
  | 192 => true
  | 193 => true
  | 194 => true
  | 195 => true
  | 196 => true
  | 197 => true
  | 198 => true
  | 199 => true
  | 200 => true
  | 201 => true
  | 202 => true
  | _ => false
def eqkL : List Nat := [7, 8, 44, 45, 89, 90, 117, 118, 161, 162, 185, 186]
def eqkOf : Nat → Bool
  | 7 => true
  | 8 => true
  | 44 => true
  | 45 => true
  | 89 => true
  | 90 => true
  | 117 => true
  | 118 => true
  | 161 => true
  | 162 => true
  | 185 => true
  | 186 => true
  | _ => false
def byrefOf : Nat → Bool
  | 153 => true
  | _ => false
def methOf (t : Nat) (m : String) : Option Nat :=
  match t with
  | _ => none
def tkOf : Nat → Nat → Bool
  | 16, 2 => true
  | 16, 3 => true
  | 16, 4 => true
  | _, _ => false
def C : Ctx := { ty := tyOf, has := hasOf, eqk := eqkOf, loc := locOf, byref := byrefOf, meth := methOf, live := liveOf, tk := tkOf }
@[simp] theorem C_meth : C.meth = methOf := rfl
noncomputable def En (w0 : World) : Env := ⟨Tryd.prog, C, w0⟩
theorem hasOf_mem : ∀ t, hasOf t = true → hasL.elem t = true := by
  intro t h
  unfold hasOf at h
  split at h <;> first | rfl | cases h
theorem eqkOf_mem : ∀ t, eqkOf t = true → eqkL.elem t = true := by
  intro t h
  unfold eqkOf at h
  split at h <;> first | rfl | cases h
theorem tabOk : hasL.all (fun t => tyCheck Tryd.prog t (tyOf t)) = true := by kernel_rfl
theorem eqkOk : eqkL.all (fun t => eqkCheck Tryd.prog t (tyOf t).zero) = true := by kernel_rfl
theorem methOk : ∀ t m g, methOf t m = some g → ∀ v w, (method (Tryd.prog.types.size + Made.depth) t v m).run Tryd.prog w = .ok (g, v) w := by
  intro t m g h v w
  unfold methOf at h
  cases h
theorem agree (w0 : World) : Agree (En w0) := agree_of (En w0) hasL eqkL hasOf_mem eqkOf_mem tabOk eqkOk methOk
theorem mixed : Tryd.prog.follows .mixedOrders = true := by kernel_rfl
/-- What stands for a call: the call. -/
theorem Ca_sound (w0 : World) : CaSound (En w0) (ACalls (En w0)) := fun _ _ _ _ h => h
theorem Ca_mono (w0 : World) : CaMono (ACalls (En w0)) := fun g xs S Q Q' h hq => ⟨h.1, fun G w hr hro args' hl ha => (h.2 G w hr hro args' hl ha).mono fun e w' ⟨v, r, S', G', h1, h2, h3⟩ => ⟨v, r, S', G', h1, hq _ _ h2, h3⟩⟩
theorem fn_ok (w0 : World) {n : Nat} {fn : Func} (hf : Tryd.prog.funcs[n]? = some fn) (hname : (fn.name == "runtime.NumGoroutine") = false) {args : List AV} {S : St} {Q : AV → St → Prop}
    (h : WF C (ACalls (En w0)) n (Drw C (ACalls (En w0)) n) fn args S Q) : ACalls (En w0) n args S Q :=
  WF_sound (E := En w0) (agree w0) (Ca_sound w0) (Ca_mono w0) (Drw_sound (agree w0) (Ca_sound w0) (Ca_mono w0) mixed) (Drw_mono (Ca_mono w0)) hf hname h
abbrev AC (w0 : World) := ACalls (En w0)
theorem AC_mono {w0 : World} {g : Nat} {xs : List AV} {S : St} {Q Q' : AV → St → Prop} (h : AC w0 g xs S Q) (hq : ∀ r S', Q r S' → Q' r S') : AC w0 g xs S Q' := Ca_mono w0 g xs S Q Q' h hq
abbrev un_int := @Tryd.underlying3
abbrev un_bool := @Tryd.underlying4
abbrev un_uint8 := @Tryd.underlying5
abbrev ag_uint8 := @Tryd.isAgg5
abbrev sz_uint8 := @Tryd.sizeOf5
abbrev zv_uint8 := @Tryd.zeroValue5
abbrev un_string := @Tryd.underlying9
abbrev un_s_string := @Tryd.underlying23
abbrev un_s_socagelaw07_Act := @Tryd.underlying36
abbrev un_socagelaw07_Act := @Tryd.underlying45
abbrev un_s_api_Node := @Tryd.underlying51
abbrev un_s_api_Extent := @Tryd.underlying52
abbrev un_api_Node := @Tryd.underlying54
abbrev un_api_Extent := @Tryd.underlying118
theorem ce_string : Tryd.prog.cellsOf t_string = 1 := by kernel_rfl
theorem ce_socagelaw07_Act : Tryd.prog.cellsOf t_socagelaw07_Act = 2 := by kernel_rfl
theorem ce_api_Node : Tryd.prog.cellsOf t_api_Node = 7 := by kernel_rfl
theorem ce_api_Extent : Tryd.prog.cellsOf t_api_Extent = 2 := by kernel_rfl
abbrev fn_strings_Split := @Tryd.func62
abbrev fn_strings_ContainsAny := @Tryd.func63
abbrev fn_strings_Join := @Tryd.func64
abbrev fn_strings_LastIndexByte := @Tryd.func65
abbrev fn_slices_Delete_s_stack_mount_stack_mount := @Tryd.func68
abbrev fn_slices_Clone_s_stack_mount_stack_mount := @Tryd.func69
end Go.Av
set_option linter.unusedVariables false
namespace Go.Av
open Go.Proofs
def G_law07_StackDoes (Ca : Nat → List AV → St → (AV → St → Prop) → Prop) (a0 : List (List AV)) (a0r : Rt) (S0 : St) (Q : AV → St → Prop) : Prop :=
 Ca F_law07_speaks [] S0 fun t22 S =>
 optK (unA .not t22) fun t23 =>
 ifK t23
 (Q (.bool false) S)
 (ifK (.bool (decide ((List.length a0 : Int) > 200)))
 (Q (.bool true) S)
 (joinK (fun (x5_4 : AV) (x6_2 : AV) (x7_2 : AV) (S_12 : St) =>
 joinK (fun (S_15 : St) =>
 Q (.bool true) S_15) fun j_11 =>
 optK (lenSlA (AV.strip x6_2)) fun t134 =>
 loopQ ([(.int .i64 0)], []) (fun v_3 bx_3 => ([v_3 135], [])) (fun nx_3 v_3 bx_3 S_13 =>
 optK (binA .lss (v_3 135) t134) fun t136 =>
 ifK t136
 (optK (idxSlA T_stack_Stack (AV.strip x6_2) (v_3 135)) fun t138 =>
 optK (loadA T_stack_Stack S_13 t138) fun t139 =>
 optK (lstoreA T_stack_Stack (some [(.vs 2 [] .nil), (.int .i64 0)]) 0 (AV.strip t139)) fun b21 =>
 optK (lloadA T_stack_Stack (some b21) 0) fun t140 =>
 optK (idxSlA T_s_int (AV.strip x7_2) (AV.strip (AV.strip (v_3 135)))) fun t143 =>
 optK (loadA T_s_int S_13 t143) fun t144 =>
 callK Ca F_law07_same [(AV.strip t140), (AV.strip t144), (AV.strip x5_4)] S_13 fun t146 S_14 =>
 optK (unA .not t146) fun t147 =>
 ifK t147
 (Q (.bool false) S_14)
 (optK (binA .add (v_3 135) (.int .i64 1)) fun t148 =>
 nx_3 ([(AV.strip t148)], []) S_14))
 (j_11 S_13)) S_12) fun j_12 =>
 loopQ ([(.vs 1 [] .nil), (.vs 1 [] .nil), (.vs 2 [] .nil), (.vs 1 [] .nil), (.int .i64 0)], [(some [(.vs 2 [] .nil), (.int .i64 0)])]) (fun v bx => ([v 4, v 5, v 6, v 7, v 29], [bx 3])) (fun nx v bx S_2 =>
 optK (binA .lss (v 29) (.int .i64 (List.length a0 : Int))) fun t30 =>
 ifK t30
 (joinK (fun (x4_3 : AV) (x5_3 : AV) (x6 : AV) (x7 : AV) (y3_2 : Option (List AV)) (S_11 : St) =>
 optK (binA .add (v 29) (.int .i64 1)) fun t132 =>
 nx ([x4_3, x5_3, x6, x7, (AV.strip t132)], [y3_2]) S_11) fun j_10 =>
 optK (idxSlA T_socagelaw07_Act (.vs 2 a0 (Rt.strip a0r)) (v 29)) fun t31 =>
 optK (loadA T_socagelaw07_Act S_2 t31) fun t32 =>
 optK (lstoreA T_socagelaw07_Act (some [(.bool false), (.int .i64 0)]) 0 (AV.strip t32)) fun b9 =>
 optK (lloadA T_stack_Stack (bx 3) 0) fun t34 =>
 optK (elemVals 2 [(AV.strip t34)]) fun e35 =>
 optK (appendA T_stack_Stack S_2 (v 6) (.vs 2 e35 .full)) fun t36 =>
 optK (elemVals 1 [(AV.strip (v 4))]) fun e39 =>
 optK (appendA T_s_int S_2 (v 7) (.vs 1 e39 .full)) fun t40 =>
 joinK (fun (x4_2 : AV) (x5_2 : AV) (y3 : Option (List AV)) (S_9 : St) =>
 optK (lloadA T_stack_Stack y3 0) fun t127 =>
 callK Ca F_law07_same [(AV.strip t127), (AV.strip x4_2), (AV.strip x5_2)] S_9 fun t130 S_10 =>
 optK (unA .not t130) fun t131 =>
 ifK t131
 (Q (.bool false) S_10)
 (j_10 x4_2 x5_2 t36 t40 y3 S_10)) fun j_9 =>
 optK (some b9) fun _ =>
 optK (lloadA T_bool (some b9) 0) fun t42 =>
 ifK (AV.strip t42)
 (joinK (fun (x10_2 : AV) (y9 : Option (List AV)) (S_4 : St) =>
 optK (lloadA T_stack_Stack (bx 3) 0) fun t59 =>
 optK y9 fun _ =>
 optK (lloadA T_int y9 1) fun t61 =>
 callK Ca F_stack_Stack_Remove [(AV.strip t59), (AV.strip t61)] S_4 fun t62 S_5 =>
 optK (extractA t62 0) fun t63 =>
 optK (extractA (stripTup t62 0) 1) fun t64 =>
 optK (lstoreA T_stack_Stack (some [(.vs 2 [] .nil), (.int .i64 0)]) 0 t63) fun b13 =>
 optK (binA .eql (AV.strip t64) (.int .i64 0)) fun t66 =>
 optK (lenSlA (AV.strip x10_2)) fun t68 =>
 optK (lenSlA (AV.strip (v 4))) fun t70 =>
 optK (binA .lss t68 t70) fun t71 =>
 optK (binE .bool .neq t66 t71) fun t72 =>
 joinK (fun (x79 : AV) =>
 optK (pickA (AV.strip t72) (.bool true) x79) fun t80 =>
 ifK (AV.strip t80)
 (Q (.bool false) S_5)
 (optK (lloadA T_stack_Stack (some b13) 0) fun t81 =>
 optK (lstoreA T_stack_Stack (bx 3) 0 (AV.strip t81)) fun b3 =>
 j_9 (AV.strip x10_2) (v 5) (some b3) S_5)) fun j_3 =>
 ifK (AV.strip t72)
 (j_3 (.tup []))
 (optK (binA .neq (AV.strip t64) (.int .i64 0)) fun t75 =>
 joinK (fun (x78 : AV) =>
 optK (pickA (AV.strip t75) x78 (.bool false)) fun t79 =>
 j_3 (AV.strip t79)) fun j_2 =>
 gK (AV.strip t75)
 (optK (binA .neq (AV.strip t64) (.int .i64 2)) fun t78 =>
 j_2 t78)
 (j_2 (.tup []))
 (j_2 (.tup [])))) fun j_4 =>
 optK (lenSlA (AV.strip (v 4))) fun t44 =>
 loopQ ([(.vs 1 [] .nil), (.int .i64 0)], [(some b9)]) (fun v_2 bx_2 => ([v_2 10, v_2 45], [bx_2 9])) (fun nx_2 v_2 bx_2 S_3 =>
 optK (binA .lss (v_2 45) t44) fun t46 =>
 ifK t46
 (joinK (fun (x10 : AV) =>
 optK (binA .add (v_2 45) (.int .i64 1)) fun t57 =>
 nx_2 ([x10, (AV.strip t57)], [(bx_2 9)]) S_3) fun j =>
 optK (idxSlA T_int (AV.strip (v 4)) (v_2 45)) fun t47 =>
 optK (loadA T_int S_3 t47) fun t48 =>
 optK (bx_2 9) fun _ =>
 optK (lloadA T_int (bx_2 9) 1) fun t51 =>
 optK (binA .neq (AV.strip (AV.strip t48)) (AV.strip t51)) fun t52 =>
 ifK t52
 (optK (elemVals 1 [(AV.strip (AV.strip t48))]) fun e55 =>
 optK (appendA T_int S_3 (v_2 10) (.vs 1 e55 .full)) fun t56 =>
 j t56)
 (j (v_2 10)))
 (j_4 (v_2 10) (bx_2 9) S_3)) S_2)
 (Ca F_tree_Dir [(.vs 1 [] .nil), (.vs 7 [] .nil)] S_2 fun t84 S_6 =>
 callK Ca F_branch_New [t84] S_6 fun t85 S_7 =>
 optK (extractA t85 0) fun t86 =>
 optK (extractA (stripTup t85 0) 1) fun t87 =>
 optK (binA .neq (AV.strip t87) (.int .i64 0)) fun t89 =>
 joinK (fun (x92 : AV) =>
 optK (pickA (AV.strip t89) (.bool true) x92) fun t93 =>
 ifK (AV.strip t93)
 (Q (.bool false) S_7)
 (optK (lloadA T_stack_Stack (bx 3) 0) fun t95 =>
 callK Ca F_stack_Stack_Add [(AV.strip t95), (AV.strip t86)] S_7 fun t97 S_8 =>
 optK (extractA t97 0) fun t98 =>
 optK (extractA (stripTup t97 0) 1) fun t99 =>
 optK (extractA (stripTup (stripTup t97 0) 1) 2) fun t100 =>
 optK (lstoreA T_stack_Stack (some [(.vs 2 [] .nil), (.int .i64 0)]) 0 t98) fun b17 =>
 joinK (fun (x4 : AV) (x5 : AV) =>
 optK (lloadA T_stack_Stack (some b17) 0) fun t126 =>
 optK (lstoreA T_stack_Stack (bx 3) 0 (AV.strip t126)) fun b3_2 =>
 j_9 x4 x5 (some b3_2) S_8) fun j_8 =>
 optK (lenSlA (AV.strip (v 4))) fun t102 =>
 optK (binA .geq t102 (.int .i64 64)) fun t103 =>
 ifK t103
 (optK (binA .neq (AV.strip t100) (.int .i64 6)) fun t105 =>
 joinK (fun (x108 : AV) =>
 optK (pickA (AV.strip t105) (.bool true) x108) fun t109 =>
 ifK (AV.strip t109)
 (Q (.bool false) S_8)
 (j_8 (v 4) (v 5))) fun j_6 =>
 ifK (AV.strip t105)
 (j_6 (.tup []))
 (optK (binA .neq (AV.strip t99) (.int .i64 0)) fun t108 =>
 j_6 t108))
 (optK (binA .neq (AV.strip t100) (.int .i64 0)) fun t111 =>
 joinK (fun (x116 : AV) =>
 optK (pickA (AV.strip t111) (.bool true) x116) fun t117 =>
 ifK (AV.strip t117)
 (Q (.bool false) S_8)
 (optK (elemVals 1 [(AV.strip t86)]) fun e120 =>
 optK (appendA T_p_branch_Branch S_8 (v 5) (.vs 1 e120 .full)) fun t121 =>
 optK (elemVals 1 [(AV.strip t99)]) fun e123 =>
 optK (appendA T_int S_8 (.vs 1 e123 .full) (AV.strip (v 4))) fun t125 =>
 j_8 t125 t121)) fun j_7 =>
 ifK (AV.strip t111)
 (j_7 (.tup []))
 (optK (lenSlA (AV.strip (v 5))) fun t115 =>
 optK (binA .neq (AV.strip t99) t115) fun t116 =>
 j_7 t116)))) fun j_5 =>
 ifK (AV.strip t89)
 (j_5 (.tup []))
 (optK (binE .ptr .eql (AV.strip t86) .nil) fun t92 =>
 j_5 t92)))
 (j_12 (v 5) (v 6) (v 7) S_2)) S))
theorem law07_StackDoes_eq (Ca) (a0 : List (List AV)) (a0r : Rt) (S0 Q) : WF C Ca 6 (Drw C Ca 6) Tryd.f6 [(.vs 2 a0 a0r)] S0 Q = G_law07_StackDoes Ca a0 a0r S0 Q := by kernel_rfl
theorem law07_StackDoes_ok {w0 : World} {a0 : List (List AV)} {a0r : Rt} {S0 : St} {Q : AV → St → Prop} (h : G_law07_StackDoes (ACalls (En w0)) a0 a0r S0 Q) : AC w0 F_law07_StackDoes [(.vs 2 a0 a0r)] S0 Q := fn_ok w0 Tryd.func6 (by kernel_rfl) (by rw [law07_StackDoes_eq]; exact h)
def G_law04_TreeRight (Ca : Nat → List AV → St → (AV → St → Prop) → Prop) (a0a : Int) (a0b : Bool) (a0c : List (List AV)) (a0cr : Rt) (a0d : List (List AV)) (a0dr : Rt) (a0e : Int) (a0f : List (List AV)) (a0fr : Rt) (a0g : List UInt8) (S0 : St) (Q : AV → St → Prop) : Prop :=
 optK (boxA T_api_Node (.agg [(.int .i64 a0a), (.bool a0b), (.vs 1 a0c a0cr), (.vs 7 a0d a0dr), (.int .i64 a0e), (.vs 2 a0f a0fr), (.str a0g)])) fun c1 =>
 Ca F_law04_speaks [] S0 fun t3 S =>
 optK (unA .not t3) fun t4 =>
 ifK t4
 (Q (.bool false) S)
 (optK (lloadA T_api_Node (some c1) 0) fun t5 =>
 callK Ca F_law04_Small [(AV.strip t5)] S fun t6 S_2 =>
 optK (binA .eql t6 (.int .i64 0)) fun t7 =>
 joinK (fun (x20 : AV) (S_8 : St) =>
 optK (pickA (AV.strip t7) (.bool true) x20) fun t21 =>
 Q (AV.strip t21) S_8) fun j_2 =>
 ifK (AV.strip t7)
 (j_2 (.tup []) S_2)
 (optK (lloadA T_api_Node (some c1) 0) fun t9 =>
 optK (lloadA T_api_Node (some c1) 0) fun t11 =>
 callK Ca F_tree_Right [(AV.strip t9)] S_2 fun t10 S_3 =>
 callK Ca F_ref04_Right [(AV.strip t11)] S_3 fun t12 S_4 =>
 optK (binE .bool .eql t10 t12) fun t13 =>
 joinK (fun (x19 : AV) (S_7 : St) =>
 optK (pickA (AV.strip t13) x19 (.bool false)) fun t20 =>
 j_2 (AV.strip t20) S_7) fun j =>
 gK (AV.strip t13)
 (optK (lloadA T_api_Node (some c1) 0) fun t15 =>
 optK (lloadA T_api_Node (some c1) 0) fun t17 =>
 callK Ca F_tree_Count [(AV.strip t15)] S_4 fun t16 S_5 =>
 callK Ca F_ref04_Count [(AV.strip t17)] S_5 fun t18 S_6 =>
 optK (binA .eql t16 t18) fun t19 =>
 j t19 S_6)
 (j (.tup []) S_4)
 (j (.tup []) S_4)))
theorem law04_TreeRight_eq (Ca) (a0a : Int) (a0b : Bool) (a0c : List (List AV)) (a0cr : Rt) (a0d : List (List AV)) (a0dr : Rt) (a0e : Int) (a0f : List (List AV)) (a0fr : Rt) (a0g : List UInt8) (S0 Q) : WF C Ca 8 (Drw C Ca 8) Tryd.f8 [(.agg [(.int .i64 a0a), (.bool a0b), (.vs 1 a0c a0cr), (.vs 7 a0d a0dr), (.int .i64 a0e), (.vs 2 a0f a0fr), (.str a0g)])] S0 Q = G_law04_TreeRight Ca a0a a0b a0c a0cr a0d a0dr a0e a0f a0fr a0g S0 Q := by kernel_rfl
theorem law04_TreeRight_ok {w0 : World} {a0a : Int} {a0b : Bool} {a0c : List (List AV)} {a0cr : Rt} {a0d : List (List AV)} {a0dr : Rt} {a0e : Int} {a0f : List (List AV)} {a0fr : Rt} {a0g : List UInt8} {S0 : St} {Q : AV → St → Prop} (h : G_law04_TreeRight (ACalls (En w0)) a0a a0b a0c a0cr a0d a0dr a0e a0f a0fr a0g S0 Q) : AC w0 F_law04_TreeRight [(.agg [(.int .i64 a0a), (.bool a0b), (.vs 1 a0c a0cr), (.vs 7 a0d a0dr), (.int .i64 a0e), (.vs 2 a0f a0fr), (.str a0g)])] S0 Q := fn_ok w0 Tryd.func8 (by kernel_rfl) (by rw [law04_TreeRight_eq]; exact h)
def G_law04_TreeSame (Ca : Nat → List AV → St → (AV → St → Prop) → Prop) (a0a : Int) (a0b : Bool) (a0c : List (List AV)) (a0cr : Rt) (a0d : List (List AV)) (a0dr : Rt) (a0e : Int) (a0f : List (List AV)) (a0fr : Rt) (a0g : List UInt8) (a1a : Int) (a1b : Bool) (a1c : List (List AV)) (a1cr : Rt) (a1d : List (List AV)) (a1dr : Rt) (a1e : Int) (a1f : List (List AV)) (a1fr : Rt) (a1g : List UInt8) (a2 : List UInt8) (S0 : St) (Q : AV → St → Prop) : Prop :=
 optK (boxA T_api_Node (.agg [(.int .i64 a0a), (.bool a0b), (.vs 1 a0c a0cr), (.vs 7 a0d a0dr), (.int .i64 a0e), (.vs 2 a0f a0fr), (.str a0g)])) fun c3 =>
 optK (boxA T_api_Node (.agg [(.int .i64 a1a), (.bool a1b), (.vs 1 a1c a1cr), (.vs 7 a1d a1dr), (.int .i64 a1e), (.vs 2 a1f a1fr), (.str a1g)])) fun c4 =>
 Ca F_law04_speaks [] S0 fun t10 S =>
 optK (unA .not t10) fun t11 =>
 ifK t11
 (Q (.bool false) S)
 (optK (lloadA T_api_Node (some c3) 0) fun t12 =>
 callK Ca F_law04_Small [(AV.strip t12)] S fun t13 S_2 =>
 optK (binA .eql t13 (.int .i64 0)) fun t14 =>
 joinK (fun (x18 : AV) (S_4 : St) =>
 optK (pickA (AV.strip t14) (.bool true) x18) fun t19 =>
 joinK (fun (x23 : AV) =>
 optK (pickA (AV.strip (AV.strip t19)) (.bool true) x23) fun t24 =>
 ifK (AV.strip t24)
 (Q (.bool true) S_4)
 (optK (lloadA T_api_Node (some c3) 0) fun t25 =>
 optK (lloadA T_api_Node (some c4) 0) fun t26 =>
 optK (lloadA T_api_Node (some c3) 0) fun t28 =>
 optK (lloadA T_api_Node (some c4) 0) fun t29 =>
 callK Ca F_tree_Same [(AV.strip t25), (AV.strip t26)] S_4 fun t27 S_5 =>
 callK Ca F_ref04_Same [(AV.strip t28), (AV.strip t29)] S_5 fun t30 S_6 =>
 optK (binE .bool .neq t27 t30) fun t31 =>
 joinK (fun (x36 : AV) (S_8 : St) =>
 optK (pickA (AV.strip t31) (.bool true) x36) fun t37 =>
 ifK (AV.strip t37)
 (Q (.bool false) S_8)
 (optK (some c3) fun _ =>
 optK (lloadA T_int (some c3) 0) fun t39 =>
 optK (binA .neq (AV.strip t39) (.int .i64 2)) fun t40 =>
 joinK (fun (x44 : AV) (S_10 : St) =>
 optK (pickA (AV.strip t40) (.bool true) x44) fun t45 =>
 ifK (AV.strip t45)
 (Q (.bool true) S_10)
 (optK (lloadA T_api_Node (some c3) 0) fun t47 =>
 callK Ca F_tree_Find [(AV.strip t47), (.str a2)] S_10 fun t49 S_11 =>
 optK (extractA t49 0) fun t50 =>
 optK (extractA (stripTup t49 0) 1) fun t51 =>
 optK (lstoreA T_api_Node (some [(.int .i64 0), (.bool false), (.vs 1 [] .nil), (.vs 7 [] .nil), (.int .i64 0), (.vs 2 [] .nil), (.str [])]) 0 t50) fun b7 =>
 optK (lloadA T_api_Node (some c3) 0) fun t52 =>
 callK Ca F_ref04_Find [(AV.strip t52), (.str a2)] S_11 fun t54 S_12 =>
 optK (binA .lss (AV.strip t54) (.int .i64 0)) fun t56 =>
 ifK t56
 (optK (unA .not (AV.strip t51)) fun t58 =>
 joinK (fun (x62 : AV) (S_14 : St) =>
 optK (pickA (AV.strip t58) x62 (.bool false)) fun t63 =>
 Q (AV.strip t63) S_14) fun j_5 =>
 ifK (AV.strip t58)
 (optK (lloadA T_api_Node (some b7) 0) fun t60 =>
 callK Ca F_ref04_Same [(AV.strip t60), (.agg [(.int .i64 0), (.bool false), (.vs 1 [] .nil), (.vs 7 [] .nil), (.int .i64 0), (.vs 2 [] .nil), (.str [])])] S_12 fun t62 S_13 =>
 j_5 t62 S_13)
 (j_5 (.tup []) S_12))
 (joinK (fun (x72 : AV) (S_16 : St) =>
 optK (pickA (AV.strip (AV.strip t51)) x72 (.bool false)) fun t73 =>
 Q (AV.strip t73) S_16) fun j_6 =>
 ifK (AV.strip (AV.strip t51))
 (optK (lloadA T_api_Node (some b7) 0) fun t66 =>
 optK (some c3) fun _ =>
 optK (lloadA T_s_api_Node (some c3) 3) fun t68 =>
 optK (idxSlA T_api_Node (AV.strip t68) (AV.strip t54)) fun t70 =>
 optK (loadA T_api_Node S_12 t70) fun t71 =>
 callK Ca F_ref04_Same [(AV.strip t66), (AV.strip t71)] S_12 fun t72 S_15 =>
 j_6 t72 S_15)
 (j_6 (.tup []) S_12)))) fun j_4 =>
 ifK (AV.strip t40)
 (j_4 (.tup []) S_8)
 (optK (lloadA T_api_Node (some c3) 0) fun t42 =>
 callK Ca F_ref04_One [(AV.strip t42)] S_8 fun t43 S_9 =>
 optK (unA .not t43) fun t44 =>
 j_4 t44 S_9))) fun j_3 =>
 ifK (AV.strip t31)
 (j_3 (.tup []) S_6)
 (optK (lloadA T_api_Node (some c3) 0) fun t33 =>
 optK (lloadA T_api_Node (some c3) 0) fun t34 =>
 callK Ca F_tree_Same [(AV.strip t33), (AV.strip t34)] S_6 fun t35 S_7 =>
 optK (unA .not t35) fun t36 =>
 j_3 t36 S_7))) fun j =>
 ifK (AV.strip (AV.strip t19))
 (j (.tup []))
 (j (.bool (decide ((List.length a2 : Int) > 200))))) fun j_2 =>
 ifK (AV.strip t14)
 (j_2 (.tup []) S_2)
 (optK (lloadA T_api_Node (some c4) 0) fun t16 =>
 callK Ca F_law04_Small [(AV.strip t16)] S_2 fun t17 S_3 =>
 optK (binA .eql t17 (.int .i64 0)) fun t18 =>
 j_2 t18 S_3))
theorem law04_TreeSame_eq (Ca) (a0a : Int) (a0b : Bool) (a0c : List (List AV)) (a0cr : Rt) (a0d : List (List AV)) (a0dr : Rt) (a0e : Int) (a0f : List (List AV)) (a0fr : Rt) (a0g : List UInt8) (a1a : Int) (a1b : Bool) (a1c : List (List AV)) (a1cr : Rt) (a1d : List (List AV)) (a1dr : Rt) (a1e : Int) (a1f : List (List AV)) (a1fr : Rt) (a1g : List UInt8) (a2 : List UInt8) (S0 Q) : WF C Ca 9 (Drw C Ca 9) Tryd.f9 [(.agg [(.int .i64 a0a), (.bool a0b), (.vs 1 a0c a0cr), (.vs 7 a0d a0dr), (.int .i64 a0e), (.vs 2 a0f a0fr), (.str a0g)]), (.agg [(.int .i64 a1a), (.bool a1b), (.vs 1 a1c a1cr), (.vs 7 a1d a1dr), (.int .i64 a1e), (.vs 2 a1f a1fr), (.str a1g)]), (.str a2)] S0 Q = G_law04_TreeSame Ca a0a a0b a0c a0cr a0d a0dr a0e a0f a0fr a0g a1a a1b a1c a1cr a1d a1dr a1e a1f a1fr a1g a2 S0 Q := by kernel_rfl
theorem law04_TreeSame_ok {w0 : World} {a0a : Int} {a0b : Bool} {a0c : List (List AV)} {a0cr : Rt} {a0d : List (List AV)} {a0dr : Rt} {a0e : Int} {a0f : List (List AV)} {a0fr : Rt} {a0g : List UInt8} {a1a : Int} {a1b : Bool} {a1c : List (List AV)} {a1cr : Rt} {a1d : List (List AV)} {a1dr : Rt} {a1e : Int} {a1f : List (List AV)} {a1fr : Rt} {a1g : List UInt8} {a2 : List UInt8} {S0 : St} {Q : AV → St → Prop} (h : G_law04_TreeSame (ACalls (En w0)) a0a a0b a0c a0cr a0d a0dr a0e a0f a0fr a0g a1a a1b a1c a1cr a1d a1dr a1e a1f a1fr a1g a2 S0 Q) : AC w0 F_law04_TreeSame [(.agg [(.int .i64 a0a), (.bool a0b), (.vs 1 a0c a0cr), (.vs 7 a0d a0dr), (.int .i64 a0e), (.vs 2 a0f a0fr), (.str a0g)]), (.agg [(.int .i64 a1a), (.bool a1b), (.vs 1 a1c a1cr), (.vs 7 a1d a1dr), (.int .i64 a1e), (.vs 2 a1f a1fr), (.str a1g)]), (.str a2)] S0 Q := fn_ok w0 Tryd.func9 (by kernel_rfl) (by rw [law04_TreeSame_eq]; exact h)
def G_law04_TreeMakes (Ca : Nat → List AV → St → (AV → St → Prop) → Prop) (a0 : List UInt8) (a1 : List (List AV)) (a1r : Rt) (a2 : Int) (S0 : St) (Q : AV → St → Prop) : Prop :=
 Ca F_law04_speaks [] S0 fun t12 S =>
 optK (unA .not t12) fun t13 =>
 ifK t13
 (Q (.bool false) S)
 (joinK (fun (x20 : AV) =>
 optK (pickA (.bool (decide ((List.length a0 : Int) > 200))) (.bool true) x20) fun t21 =>
 ifK (AV.strip t21)
 (Q (.bool true) S)
 (Ca F_tree_Text [(.str a0)] S fun t23 S_2 =>
 optK (lstoreA T_api_Node (some [(.int .i64 0), (.bool false), (.vs 1 [] .nil), (.vs 7 [] .nil), (.int .i64 0), (.vs 2 [] .nil), (.str [])]) 0 t23) fun b7 =>
 optK (some b7) fun _ =>
 optK (lloadA T_int (some b7) 0) fun t25 =>
 optK (binA .neq (AV.strip t25) (.int .i64 1)) fun t26 =>
 joinK (fun (x32 : AV) =>
 optK (pickA (AV.strip t26) (.bool true) x32) fun t33 =>
 joinK (fun (x43 : AV) (S_4 : St) =>
 optK (pickA (AV.strip (AV.strip t33)) (.bool true) x43) fun t44 =>
 joinK (fun (x48 : AV) (S_6 : St) =>
 optK (pickA (AV.strip (AV.strip t44)) (.bool true) x48) fun t49 =>
 joinK (fun (x56 : AV) (S_9 : St) =>
 optK (pickA (AV.strip (AV.strip t49)) (.bool true) x56) fun t57 =>
 ifK (AV.strip t57)
 (Q (.bool false) S_9)
 (joinK (fun (x8 : AV) (S_12 : St) =>
 callK Ca F_tree_Dir [(.vs 1 a1 (Rt.strip a1r)), (AV.strip x8)] S_12 fun t69 S_13 =>
 optK (lstoreA T_api_Node (some [(.int .i64 0), (.bool false), (.vs 1 [] .nil), (.vs 7 [] .nil), (.int .i64 0), (.vs 2 [] .nil), (.str [])]) 0 t69) fun b9 =>
 optK (lloadA T_api_Node (some b9) 0) fun t70 =>
 optK (buildA T_api_Node 1 [(0, (.int .i64 2)), (2, (.vs 1 a1 (Rt.strip a1r))), (3, (AV.strip x8))]) fun t73 =>
 callK Ca F_ref04_Same [(AV.strip t70), t73] S_13 fun t74 S_14 =>
 optK (unA .not t74) fun t75 =>
 joinK (fun (x80 : AV) (S_16 : St) =>
 optK (pickA (AV.strip t75) (.bool true) x80) fun t81 =>
 joinK (fun (x84 : AV) =>
 optK (pickA (AV.strip (AV.strip t81)) (.bool true) x84) fun t85 =>
 joinK (fun (x91 : AV) (S_19 : St) =>
 optK (pickA (AV.strip (AV.strip t85)) (.bool true) x91) fun t92 =>
 ifK (AV.strip t92)
 (Q (.bool false) S_19)
 (Ca F_tree_Dir [(.vs 1 [] .nil), (.vs 7 [] .nil)] S_19 fun t93 S_20 =>
 optK (lstoreA T_api_Node (some [(.int .i64 0), (.bool false), (.vs 1 [] .nil), (.vs 7 [] .nil), (.int .i64 0), (.vs 2 [] .nil), (.str [])]) 0 t93) fun b10 =>
 joinK (fun (y10 : Option (List AV)) (S_23 : St) =>
 optK (lloadA T_api_Node y10 0) fun t105 =>
 callK Ca F_tree_Right [(AV.strip t105)] S_23 fun t106 S_24 =>
 optK (binE .bool .eql t106 (.bool (decide ((Int.tmod (IntKind.i64.wrap a2) 24) ≤ 15)))) fun t109 =>
 joinK (fun (x115 : AV) (S_26 : St) =>
 optK (pickA (AV.strip t109) x115 (.bool false)) fun t116 =>
 Q (AV.strip t116) S_26) fun j_9 =>
 ifK (AV.strip t109)
 (optK (lloadA T_api_Node y10 0) fun t111 =>
 callK Ca F_tree_Count [(AV.strip t111)] S_24 fun t112 S_25 =>
 optK (binA .eql t112 (.int .i64 (IntKind.i64.wrap ((Int.tmod (IntKind.i64.wrap a2) 24) + 1)))) fun t115 =>
 j_9 t115 S_25)
 (j_9 (.tup []) S_24)) fun j_10 =>
 loopQ ([(.int .i64 0)], [(some b10)]) (fun v_2 bx_2 => ([v_2 98], [bx_2 10])) (fun nx_2 v_2 bx_2 S_21 =>
 optK (binA .lss (v_2 98) (.int .i64 (Int.tmod (IntKind.i64.wrap a2) 24))) fun t99 =>
 ifK t99
 (optK (lloadA T_api_Node (bx_2 10) 0) fun t101 =>
 optK (elemVals 7 [(AV.strip t101)]) fun e102 =>
 Ca F_tree_Dir [(.vs 1 [[(.str [97])]] .full), (.vs 7 e102 .full)] S_21 fun t103 S_22 =>
 optK (lstoreA T_api_Node (bx_2 10) 0 t103) fun b10_2 =>
 optK (binA .add (v_2 98) (.int .i64 1)) fun t104 =>
 nx_2 ([(AV.strip t104)], [(some b10_2)]) S_22)
 (j_10 (bx_2 10) S_21)) S_20)) fun j_6 =>
 ifK (AV.strip (AV.strip t85))
 (j_6 (.tup []) S_16)
 (optK (lloadA T_api_Node (some b9) 0) fun t87 =>
 optK (lloadA T_api_Node (some b9) 0) fun t89 =>
 callK Ca F_tree_Right [(AV.strip t87)] S_16 fun t88 S_17 =>
 callK Ca F_ref04_Right [(AV.strip t89)] S_17 fun t90 S_18 =>
 optK (binE .bool .neq t88 t90) fun t91 =>
 j_6 t91 S_18)) fun j_7 =>
 ifK (AV.strip (AV.strip t81))
 (j_7 (.tup []))
 (optK (some b9) fun _ =>
 optK (lloadA T_bool (some b9) 1) fun t84 =>
 j_7 (AV.strip t84))) fun j_8 =>
 ifK (AV.strip t75)
 (j_8 (.tup []) S_14)
 (optK (lloadA T_api_Node (some b9) 0) fun t77 =>
 callK Ca F_tree_Opaque [(AV.strip t77)] S_14 fun t78 S_15 =>
 optK (partA T_bool t78 1) fun t79 =>
 optK (unA .not (AV.strip t79)) fun t80 =>
 j_8 t80 S_15)) fun j_11 =>
 loopQ ([(.vs 7 [] .nil), (.int .i64 0)], []) (fun v bx => ([v 8, v 60], [])) (fun nx v bx S_10 =>
 optK (binA .lss (v 60) (.int .i64 (List.length a1 : Int))) fun t61 =>
 ifK t61
 (Ca F_tree_White [] S_10 fun t63 S_11 =>
 optK (elemVals 7 [t63]) fun e64 =>
 optK (appendA T_api_Node S_11 (v 8) (.vs 7 e64 .full)) fun t65 =>
 optK (binA .add (v 60) (.int .i64 1)) fun t66 =>
 nx ([t65, (AV.strip t66)], []) S_11)
 (j_11 (v 8) S_10)) S_9)) fun j_2 =>
 ifK (AV.strip (AV.strip t49))
 (j_2 (.tup []) S_6)
 (Ca F_tree_Link [(.str a0)] S_6 fun t52 S_7 =>
 callK Ca F_ref04_Same [t52, (.agg [(.int .i64 3), (.bool false), (.vs 1 [] .nil), (.vs 7 [] .nil), (.int .i64 0), (.vs 2 [] .nil), (.str a0)])] S_7 fun t55 S_8 =>
 optK (unA .not t55) fun t56 =>
 j_2 t56 S_8)) fun j_3 =>
 ifK (AV.strip (AV.strip t44))
 (j_3 (.tup []) S_4)
 (optK (lloadA T_api_Node (some b7) 0) fun t46 =>
 callK Ca F_ref04_One [(AV.strip t46)] S_4 fun t47 S_5 =>
 optK (unA .not t47) fun t48 =>
 j_3 t48 S_5)) fun j_4 =>
 ifK (AV.strip (AV.strip t33))
 (j_4 (.tup []) S_2)
 (optK (some b7) fun _ =>
 optK (lloadA T_int (some b7) 4) fun t36 =>
 optK (some b7) fun _ =>
 optK (lloadA T_s_api_Extent (some b7) 5) fun t38 =>
 callK Ca F_ref03_Read [(AV.strip t36), (AV.strip t38), (.int .i64 0), (.int .i64 (List.length a0 : Int))] S_2 fun t41 S_3 =>
 optK (binA .neq t41 (.str a0)) fun t43 =>
 j_4 t43 S_3)) fun j_5 =>
 ifK (AV.strip t26)
 (j_5 (.tup []))
 (optK (some b7) fun _ =>
 optK (lloadA T_int (some b7) 4) fun t29 =>
 optK (binA .neq (AV.strip t29) (.int .i64 (List.length a0 : Int))) fun t32 =>
 j_5 t32))) fun j =>
 ifK (.bool (decide ((List.length a0 : Int) > 200)))
 (j (.tup []))
 (j (.bool (decide ((List.length a1 : Int) > 20)))))
theorem law04_TreeMakes_eq (Ca) (a0 : List UInt8) (a1 : List (List AV)) (a1r : Rt) (a2 : Int) (S0 Q) : WF C Ca 10 (Drw C Ca 10) Tryd.f10 [(.str a0), (.vs 1 a1 a1r), (.int .u8 a2)] S0 Q = G_law04_TreeMakes Ca a0 a1 a1r a2 S0 Q := by kernel_rfl
theorem law04_TreeMakes_ok {w0 : World} {a0 : List UInt8} {a1 : List (List AV)} {a1r : Rt} {a2 : Int} {S0 : St} {Q : AV → St → Prop} (h : G_law04_TreeMakes (ACalls (En w0)) a0 a1 a1r a2 S0 Q) : AC w0 F_law04_TreeMakes [(.str a0), (.vs 1 a1 a1r), (.int .u8 a2)] S0 Q := fn_ok w0 Tryd.func10 (by kernel_rfl) (by rw [law04_TreeMakes_eq]; exact h)
def G_name_Split (Ca : Nat → List AV → St → (AV → St → Prop) → Prop) (a0 : List UInt8) (S0 : St) (Q : AV → St → Prop) : Prop :=
 joinK (fun (x12 : AV) =>
 optK (pickA (.bool (a0 == [])) (.bool true) x12) fun t13 =>
 ifK (AV.strip t13)
 (Q (.tup [(.vs 1 [] .nil), (.bool false), (.int .i64 1)]) S0)
 (joinK (fun (x2_2 : AV) (S_6 : St) =>
 optK (charA (.str a0) (.int .i64 0)) fun t42 =>
 optK (binA .eql t42 (.int .u8 47)) fun t43 =>
 Q (.tup [(AV.flat (AV.strip x2_2)), (AV.flat t43), (.int .i64 0)]) S_6) fun j_5 =>
 Ca F_strings_Split [(.str a0), (.str [47])] S0 fun t15 S =>
 optK (lenSlA t15) fun t16 =>
 loopQ ([(.vs 1 [] .nil), (.int .i64 0)], []) (fun v bx => ([v 2, v 17], [])) (fun nx v bx S_2 =>
 optK (binA .lss (v 17) t16) fun t18 =>
 ifK t18
 (joinK (fun (x2 : AV) (S_5 : St) =>
 optK (binA .add (v 17) (.int .i64 1)) fun t39 =>
 nx ([x2, (AV.strip t39)], []) S_5) fun j_4 =>
 optK (idxSlA T_string t15 (v 17)) fun t19 =>
 optK (loadA T_string S_2 t19) fun t20 =>
 optK (binA .eql (AV.strip (AV.strip t20)) (.str [])) fun t23 =>
 joinK (fun (x26 : AV) =>
 optK (pickA (AV.strip t23) (.bool true) x26) fun t27 =>
 ifK (AV.strip t27)
 (j_4 (v 2) S_2)
 (optK (binA .eql (AV.strip (AV.strip t20)) (.str [46, 46])) fun t30 =>
 joinK (fun (x33 : AV) (S_4 : St) =>
 optK (pickA (AV.strip t30) (.bool true) x33) fun t34 =>
 ifK (AV.strip t34)
 (optK (elemVals 1 [(AV.strip (AV.strip t20))]) fun e37 =>
 optK (appendA T_string S_4 (v 2) (.vs 1 e37 .full)) fun t38 =>
 j_4 t38 S_4)
 (Q (.tup [(.vs 1 [] .nil), (.bool false), (.int .i64 1)]) S_4)) fun j_2 =>
 ifK (AV.strip t30)
 (j_2 (.tup []) S_2)
 (callK Ca F_name_Right [(AV.strip (AV.strip t20))] S_2 fun t33 S_3 =>
 j_2 t33 S_3))) fun j_3 =>
 ifK (AV.strip t23)
 (j_3 (.tup []))
 (optK (binA .eql (AV.strip (AV.strip t20)) (.str [46])) fun t26 =>
 j_3 t26))
 (j_5 (v 2) S_2)) S)) fun j =>
 ifK (.bool (a0 == []))
 (j (.tup []))
 (j (.bool (decide ((List.length a0 : Int) > 1024))))
theorem name_Split_eq (Ca) (a0 : List UInt8) (S0 Q) : WF C Ca 16 (Drw C Ca 16) Tryd.f16 [(.str a0)] S0 Q = G_name_Split Ca a0 S0 Q := by kernel_rfl
theorem name_Split_ok {w0 : World} {a0 : List UInt8} {S0 : St} {Q : AV → St → Prop} (h : G_name_Split (ACalls (En w0)) a0 S0 Q) : AC w0 F_name_Split [(.str a0)] S0 Q := fn_ok w0 Tryd.func16 (by kernel_rfl) (by rw [name_Split_eq]; exact h)
def G_ref01_Split (Ca : Nat → List AV → St → (AV → St → Prop) → Prop) (a0 : List UInt8) (S0 : St) (Q : AV → St → Prop) : Prop :=
 joinK (fun (x14 : AV) =>
 optK (pickA (.bool (decide ((List.length a0 : Int) < 1))) (.bool true) x14) fun t15 =>
 ifK (AV.strip t15)
 (Q (.tup [(.vs 1 [] .nil), (.bool false)]) S0)
 (joinK (fun (x4_2 : AV) (S_5 : St) =>
 Q (.tup [(AV.flat (AV.strip x4_2)), (.bool true)]) S_5) fun j_6 =>
 loopQ ([(.str a0), (.vs 1 [] .full), (.int .i64 0), (.int .i64 0)], []) (fun v bx => ([v 0, v 4, v 5, v 6], [])) (fun nx v bx S =>
 optK (lenStrA (AV.strip (v 0))) fun t19 =>
 optK (binA .leq (AV.strip (v 6)) t19) fun t20 =>
 ifK t20
 (joinK (fun (x0 : AV) (x4 : AV) (x5 : AV) (S_4 : St) =>
 optK (binA .add (AV.strip (v 6)) (.int .i64 1)) fun t22 =>
 nx ([x0, x4, x5, t22], []) S_4) fun j_5 =>
 optK (lenStrA (AV.strip (v 0))) fun t25 =>
 optK (binA .lss (AV.strip (v 6)) t25) fun t26 =>
 joinK (fun (x31 : AV) =>
 optK (pickA (AV.strip t26) x31 (.bool false)) fun t32 =>
 ifK (AV.strip t32)
 (j_5 (v 0) (v 4) (v 5) S)
 (optK (cutStrA (v 0) (some (AV.strip (v 5))) (some (AV.strip (v 6)))) fun t36 =>
 optK (binA .add (AV.strip (v 6)) (.int .i64 1)) fun t38 =>
 optK (binA .eql (AV.strip t36) (.str [])) fun t40 =>
 joinK (fun (x43 : AV) =>
 optK (pickA (AV.strip t40) (.bool true) x43) fun t44 =>
 ifK (AV.strip t44)
 (j_5 (AV.strip (v 0)) (v 4) t38 S)
 (optK (binA .neq (AV.strip t36) (.str [46, 46])) fun t46 =>
 joinK (fun (x50 : AV) (S_3 : St) =>
 optK (pickA (AV.strip t46) x50 (.bool false)) fun t51 =>
 ifK (AV.strip t51)
 (Q (.tup [(.vs 1 [] .nil), (.bool false)]) S_3)
 (optK (elemVals 1 [(AV.strip t36)]) fun e54 =>
 optK (appendA T_string S_3 (v 4) (.vs 1 e54 .full)) fun t55 =>
 j_5 (AV.strip (v 0)) t55 t38 S_3)) fun j_4 =>
 ifK (AV.strip t46)
 (callK Ca F_ref01_Right [(AV.strip t36)] S fun t49 S_2 =>
 optK (unA .not t49) fun t50 =>
 j_4 t50 S_2)
 (j_4 (.tup []) S))) fun j_3 =>
 ifK (AV.strip t40)
 (j_3 (.tup []))
 (optK (binA .eql (AV.strip t36) (.str [46])) fun t43 =>
 j_3 t43))) fun j_2 =>
 ifK (AV.strip t26)
 (optK (charA (AV.strip (v 0)) (AV.strip (v 6))) fun t30 =>
 optK (binA .neq t30 (.int .u8 47)) fun t31 =>
 j_2 t31)
 (j_2 (.tup [])))
 (j_6 (v 4) S)) S0)) fun j =>
 ifK (.bool (decide ((List.length a0 : Int) < 1)))
 (j (.tup []))
 (j (.bool (decide ((List.length a0 : Int) > 1024))))
theorem ref01_Split_eq (Ca) (a0 : List UInt8) (S0 Q) : WF C Ca 17 (Drw C Ca 17) Tryd.f17 [(.str a0)] S0 Q = G_ref01_Split Ca a0 S0 Q := by kernel_rfl
theorem ref01_Split_ok {w0 : World} {a0 : List UInt8} {S0 : St} {Q : AV → St → Prop} (h : G_ref01_Split (ACalls (En w0)) a0 S0 Q) : AC w0 F_ref01_Split [(.str a0)] S0 Q := fn_ok w0 Tryd.func17 (by kernel_rfl) (by rw [ref01_Split_eq]; exact h)
def G_ref01_Same (Ca : Nat → List AV → St → (AV → St → Prop) → Prop) (a0 : List (List AV)) (a0r : Rt) (a1 : List (List AV)) (a1r : Rt) (S0 : St) (Q : AV → St → Prop) : Prop :=
 ifK (.bool ((List.length a0 : Int) != (List.length a1 : Int)))
 (Q (.bool false) S0)
 (joinK (fun (S_2 : St) =>
 Q (.bool true) S_2) fun j =>
 loopQ ([(.int .i64 0)], []) (fun v bx => ([v 5], [])) (fun nx v bx S =>
 optK (binA .lss (AV.strip (v 5)) (.int .i64 (List.length a0 : Int))) fun t14 =>
 ifK t14
 (optK (idxSlA T_string (.vs 1 a0 (Rt.strip a0r)) (AV.strip (v 5))) fun t19 =>
 optK (loadA T_string S t19) fun t20 =>
 optK (idxSlA T_string (.vs 1 a1 (Rt.strip a1r)) (AV.strip (v 5))) fun t23 =>
 optK (loadA T_string S t23) fun t24 =>
 optK (binA .neq (AV.strip t20) (AV.strip t24)) fun t25 =>
 ifK t25
 (Q (.bool false) S)
 (optK (binA .add (AV.strip (v 5)) (.int .i64 1)) fun t16 =>
 nx ([t16], []) S))
 (j S)) S0)
theorem ref01_Same_eq (Ca) (a0 : List (List AV)) (a0r : Rt) (a1 : List (List AV)) (a1r : Rt) (S0 Q) : WF C Ca 18 (Drw C Ca 18) Tryd.f18 [(.vs 1 a0 a0r), (.vs 1 a1 a1r)] S0 Q = G_ref01_Same Ca a0 a0r a1 a1r S0 Q := by kernel_rfl
theorem ref01_Same_ok {w0 : World} {a0 : List (List AV)} {a0r : Rt} {a1 : List (List AV)} {a1r : Rt} {S0 : St} {Q : AV → St → Prop} (h : G_ref01_Same (ACalls (En w0)) a0 a0r a1 a1r S0 Q) : AC w0 F_ref01_Same [(.vs 1 a0 a0r), (.vs 1 a1 a1r)] S0 Q := fn_ok w0 Tryd.func18 (by kernel_rfl) (by rw [ref01_Same_eq]; exact h)
def G_name_Right (Ca : Nat → List AV → St → (AV → St → Prop) → Prop) (a0 : List UInt8) (S0 : St) (Q : AV → St → Prop) : Prop :=
 joinK (fun (x7 : AV) =>
 optK (pickA (.bool (!(a0 == []))) x7 (.bool false)) fun t8 =>
 joinK (fun (x11 : AV) =>
 optK (pickA (AV.strip (AV.strip t8)) x11 (.bool false)) fun t12 =>
 joinK (fun (x16 : AV) =>
 optK (pickA (AV.strip (AV.strip t12)) x16 (.bool false)) fun t17 =>
 joinK (fun (x21 : AV) (S_2 : St) =>
 optK (pickA (AV.strip (AV.strip t17)) x21 (.bool false)) fun t22 =>
 Q (AV.strip t22) S_2) fun j =>
 ifK (AV.strip (AV.strip t17))
 (Ca F_strings_ContainsAny [(.str a0), (.str [47, 0])] S0 fun t20 S =>
 optK (unA .not t20) fun t21 =>
 j t21 S)
 (j (.tup []) S0)) fun j_2 =>
 ifK (AV.strip (AV.strip t12))
 (j_2 (.bool (decide ((List.length a0 : Int) ≤ 64))))
 (j_2 (.tup []))) fun j_3 =>
 ifK (AV.strip (AV.strip t8))
 (j_3 (.bool (!(a0 == [46, 46]))))
 (j_3 (.tup []))) fun j_4 =>
 ifK (.bool (!(a0 == [])))
 (j_4 (.bool (!(a0 == [46]))))
 (j_4 (.tup []))
theorem name_Right_eq (Ca) (a0 : List UInt8) (S0 Q) : WF C Ca 19 (Drw C Ca 19) Tryd.f19 [(.str a0)] S0 Q = G_name_Right Ca a0 S0 Q := by kernel_rfl
theorem name_Right_ok {w0 : World} {a0 : List UInt8} {S0 : St} {Q : AV → St → Prop} (h : G_name_Right (ACalls (En w0)) a0 S0 Q) : AC w0 F_name_Right [(.str a0)] S0 Q := fn_ok w0 Tryd.func19 (by kernel_rfl) (by rw [name_Right_eq]; exact h)
def G_ref01_Right (Ca : Nat → List AV → St → (AV → St → Prop) → Prop) (a0 : List UInt8) (S0 : St) (Q : AV → St → Prop) : Prop :=
 joinK (fun (x8 : AV) =>
 optK (pickA (.bool (a0 == [])) (.bool true) x8) fun t9 =>
 joinK (fun (x12 : AV) =>
 optK (pickA (AV.strip (AV.strip t9)) (.bool true) x12) fun t13 =>
 joinK (fun (x17 : AV) =>
 optK (pickA (AV.strip (AV.strip t13)) (.bool true) x17) fun t18 =>
 ifK (AV.strip t18)
 (Q (.bool false) S0)
 (joinK (fun (S_2 : St) =>
 Q (.bool true) S_2) fun j_5 =>
 loopQ ([(.int .i64 0)], []) (fun v bx => ([v 3], [])) (fun nx v bx S =>
 optK (binA .lss (AV.strip (v 3)) (.int .i64 (List.length a0 : Int))) fun t22 =>
 ifK t22
 (optK (charA (.str a0) (AV.strip (v 3))) fun t27 =>
 optK (binA .eql t27 (.int .u8 47)) fun t28 =>
 joinK (fun (x33 : AV) =>
 optK (pickA (AV.strip t28) (.bool true) x33) fun t34 =>
 ifK (AV.strip t34)
 (Q (.bool false) S)
 (optK (binA .add (AV.strip (v 3)) (.int .i64 1)) fun t24 =>
 nx ([t24], []) S)) fun j_4 =>
 ifK (AV.strip t28)
 (j_4 (.tup []))
 (optK (charA (.str a0) (AV.strip (v 3))) fun t32 =>
 optK (binA .eql t32 (.int .u8 0)) fun t33 =>
 j_4 t33))
 (j_5 S)) S0)) fun j =>
 ifK (AV.strip (AV.strip t13))
 (j (.tup []))
 (j (.bool (decide ((List.length a0 : Int) > 64))))) fun j_2 =>
 ifK (AV.strip (AV.strip t9))
 (j_2 (.tup []))
 (j_2 (.bool (a0 == [46, 46])))) fun j_3 =>
 ifK (.bool (a0 == []))
 (j_3 (.tup []))
 (j_3 (.bool (a0 == [46])))
theorem ref01_Right_eq (Ca) (a0 : List UInt8) (S0 Q) : WF C Ca 20 (Drw C Ca 20) Tryd.f20 [(.str a0)] S0 Q = G_ref01_Right Ca a0 S0 Q := by kernel_rfl
theorem ref01_Right_ok {w0 : World} {a0 : List UInt8} {S0 : St} {Q : AV → St → Prop} (h : G_ref01_Right (ACalls (En w0)) a0 S0 Q) : AC w0 F_ref01_Right [(.str a0)] S0 Q := fn_ok w0 Tryd.func20 (by kernel_rfl) (by rw [ref01_Right_eq]; exact h)
def G_name_Join (Ca : Nat → List AV → St → (AV → St → Prop) → Prop) (a0 : List (List AV)) (a0r : Rt) (S0 : St) (Q : AV → St → Prop) : Prop :=
 Ca F_strings_Join [(.vs 1 a0 (Rt.strip (Rt.strip a0r))), (.str [47])] S0 fun t4 S =>
 optK (binA .add (.str [47]) t4) fun t5 =>
 Q t5 S
theorem name_Join_eq (Ca) (a0 : List (List AV)) (a0r : Rt) (S0 Q) : WF C Ca 21 (Drw C Ca 21) Tryd.f21 [(.vs 1 a0 a0r)] S0 Q = G_name_Join Ca a0 a0r S0 Q := by kernel_rfl
theorem name_Join_ok {w0 : World} {a0 : List (List AV)} {a0r : Rt} {S0 : St} {Q : AV → St → Prop} (h : G_name_Join (ACalls (En w0)) a0 a0r S0 Q) : AC w0 F_name_Join [(.vs 1 a0 a0r)] S0 Q := fn_ok w0 Tryd.func21 (by kernel_rfl) (by rw [name_Join_eq]; exact h)
def G_ref01_Join (Ca : Nat → List AV → St → (AV → St → Prop) → Prop) (a0 : List (List AV)) (a0r : Rt) (S0 : St) (Q : AV → St → Prop) : Prop :=
 joinK (fun (x3_2 : AV) (S_2 : St) =>
 Q (AV.strip x3_2) S_2) fun j_2 =>
 loopQ ([(.str [47]), (.int .i64 0)], []) (fun v bx => ([v 3, v 4], [])) (fun nx v bx S =>
 optK (binA .lss (AV.strip (v 4)) (.int .i64 (List.length a0 : Int))) fun t8 =>
 ifK t8
 (joinK (fun (x3 : AV) =>
 optK (idxSlA T_string (.vs 1 a0 (Rt.strip a0r)) (AV.strip (v 4))) fun t18 =>
 optK (loadA T_string S t18) fun t19 =>
 optK (binA .add (AV.strip x3) (AV.strip t19)) fun t20 =>
 optK (binA .add (AV.strip (v 4)) (.int .i64 1)) fun t10 =>
 nx ([t20, t10], []) S) fun j =>
 optK (binA .gtr (AV.strip (v 4)) (.int .i64 0)) fun t12 =>
 ifK t12
 (optK (binA .add (AV.strip (v 3)) (.str [47])) fun t14 =>
 j t14)
 (j (v 3)))
 (j_2 (v 3) S)) S0
theorem ref01_Join_eq (Ca) (a0 : List (List AV)) (a0r : Rt) (S0 Q) : WF C Ca 22 (Drw C Ca 22) Tryd.f22 [(.vs 1 a0 a0r)] S0 Q = G_ref01_Join Ca a0 a0r S0 Q := by kernel_rfl
theorem ref01_Join_ok {w0 : World} {a0 : List (List AV)} {a0r : Rt} {S0 : St} {Q : AV → St → Prop} (h : G_ref01_Join (ACalls (En w0)) a0 a0r S0 Q) : AC w0 F_ref01_Join [(.vs 1 a0 a0r)] S0 Q := fn_ok w0 Tryd.func22 (by kernel_rfl) (by rw [ref01_Join_eq]; exact h)
def G_name_Child (Ca : Nat → List AV → St → (AV → St → Prop) → Prop) (a0 : List UInt8) (a1 : List UInt8) (S0 : St) (Q : AV → St → Prop) : Prop :=
 ifK (.bool (a0 == [47]))
 (optK (binA .add (.str a0) (.str a1)) fun t9 =>
 Q t9 S0)
 (optK (binA .add (.str a0) (.str [47])) fun t11 =>
 optK (binA .add t11 (.str a1)) fun t13 =>
 Q t13 S0)
theorem name_Child_eq (Ca) (a0 : List UInt8) (a1 : List UInt8) (S0 Q) : WF C Ca 23 (Drw C Ca 23) Tryd.f23 [(.str a0), (.str a1)] S0 Q = G_name_Child Ca a0 a1 S0 Q := by kernel_rfl
theorem name_Child_ok {w0 : World} {a0 : List UInt8} {a1 : List UInt8} {S0 : St} {Q : AV → St → Prop} (h : G_name_Child (ACalls (En w0)) a0 a1 S0 Q) : AC w0 F_name_Child [(.str a0), (.str a1)] S0 Q := fn_ok w0 Tryd.func23 (by kernel_rfl) (by rw [name_Child_eq]; exact h)
def G_name_Parent (Ca : Nat → List AV → St → (AV → St → Prop) → Prop) (a0 : List UInt8) (S0 : St) (Q : AV → St → Prop) : Prop :=
 Ca F_strings_LastIndexByte [(.str a0), (.int .u8 47)] S0 fun t5 S =>
 optK (binA .leq (AV.strip t5) (.int .i64 0)) fun t7 =>
 ifK t7
 (Q (.str [47]) S)
 (optK (cutStrA (.str a0) none (some (AV.strip t5))) fun t10 =>
 Q t10 S)
theorem name_Parent_eq (Ca) (a0 : List UInt8) (S0 Q) : WF C Ca 24 (Drw C Ca 24) Tryd.f24 [(.str a0)] S0 Q = G_name_Parent Ca a0 S0 Q := by kernel_rfl
theorem name_Parent_ok {w0 : World} {a0 : List UInt8} {S0 : St} {Q : AV → St → Prop} (h : G_name_Parent (ACalls (En w0)) a0 S0 Q) : AC w0 F_name_Parent [(.str a0)] S0 Q := fn_ok w0 Tryd.func24 (by kernel_rfl) (by rw [name_Parent_eq]; exact h)
def G_law07_speaks (Ca : Nat → List AV → St → (AV → St → Prop) → Prop) (S0 : St) (Q : AV → St → Prop) : Prop :=
 Ca F_tree_Dir [(.vs 1 [] .nil), (.vs 7 [] .nil)] S0 fun t8 S =>
 Ca F_tree_White [] S fun t10 S_2 =>
 optK (elemVals 7 [t10]) fun e11 =>
 Ca F_tree_Dir [(.vs 1 [[(.str [97])]] .full), (.vs 7 e11 .full)] S_2 fun t12 S_3 =>
 optK (elemVals 7 [t8, t12]) fun e13 =>
 Ca F_stack_Of [(.vs 7 e13 .full)] S_3 fun t14 S_4 =>
 optK (extractA t14 0) fun t15 =>
 optK (extractA (stripTup t14 0) 1) fun t16 =>
 optK (lstoreA T_stack_Stack (some [(.vs 2 [] .nil), (.int .i64 0)]) 0 t15) fun b1 =>
 optK (binA .neq (AV.strip t16) (.int .i64 0)) fun t18 =>
 joinK (fun (x22 : AV) (S_6 : St) =>
 optK (pickA (AV.strip t18) (.bool true) x22) fun t23 =>
 joinK (fun (x27 : AV) (S_8 : St) =>
 optK (pickA (AV.strip (AV.strip t23)) (.bool true) x27) fun t28 =>
 joinK (fun (x32 : AV) (S_10 : St) =>
 optK (pickA (AV.strip (AV.strip t28)) (.bool true) x32) fun t33 =>
 joinK (fun (x38 : AV) (S_13 : St) =>
 optK (pickA (AV.strip (AV.strip t33)) (.bool true) x38) fun t39 =>
 ifK (AV.strip t39)
 (Q (.bool false) S_13)
 (optK (lloadA T_stack_Stack (some b1) 0) fun t41 =>
 callK Ca F_stack_Stack_Remove [(AV.strip t41), (.int .i64 1)] S_13 fun t42 S_14 =>
 optK (extractA t42 0) fun t43 =>
 optK (extractA (stripTup t42 0) 1) fun t44 =>
 optK (lstoreA T_stack_Stack (some [(.vs 2 [] .nil), (.int .i64 0)]) 0 t43) fun b3 =>
 optK (lloadA T_stack_Stack (some b3) 0) fun t46 =>
 callK Ca F_stack_Stack_Remove [(AV.strip t46), (.int .i64 1)] S_14 fun t47 S_15 =>
 optK (extractA t47 0) fun t48 =>
 optK (extractA (stripTup t47 0) 1) fun t49 =>
 optK (lstoreA T_stack_Stack (some [(.vs 2 [] .nil), (.int .i64 0)]) 0 t48) fun b5 =>
 optK (binA .eql (AV.strip t44) (.int .i64 0)) fun t51 =>
 joinK (fun (x54 : AV) =>
 optK (pickA (AV.strip t51) x54 (.bool false)) fun t55 =>
 joinK (fun (x59 : AV) (S_17 : St) =>
 optK (pickA (AV.strip (AV.strip t55)) x59 (.bool false)) fun t60 =>
 joinK (fun (x64 : AV) (S_19 : St) =>
 optK (pickA (AV.strip (AV.strip t60)) x64 (.bool false)) fun t65 =>
 joinK (fun (x69 : AV) (S_21 : St) =>
 optK (pickA (AV.strip (AV.strip t65)) x69 (.bool false)) fun t70 =>
 Q (AV.strip t70) S_21) fun j_5 =>
 ifK (AV.strip (AV.strip t65))
 (optK (lloadA T_stack_Stack (some b1) 0) fun t67 =>
 callK Ca F_stack_Stack_Len [(AV.strip t67)] S_19 fun t68 S_20 =>
 optK (binA .eql t68 (.int .i64 2)) fun t69 =>
 j_5 t69 S_20)
 (j_5 (.tup []) S_19)) fun j_6 =>
 ifK (AV.strip (AV.strip t60))
 (optK (lloadA T_stack_Stack (some b3) 0) fun t62 =>
 callK Ca F_stack_Stack_ID [(AV.strip t62), (.int .i64 0)] S_17 fun t63 S_18 =>
 optK (binA .eql t63 (.int .i64 0)) fun t64 =>
 j_6 t64 S_18)
 (j_6 (.tup []) S_17)) fun j_7 =>
 ifK (AV.strip (AV.strip t55))
 (optK (lloadA T_stack_Stack (some b3) 0) fun t57 =>
 callK Ca F_stack_Stack_Len [(AV.strip t57)] S_15 fun t58 S_16 =>
 optK (binA .eql t58 (.int .i64 1)) fun t59 =>
 j_7 t59 S_16)
 (j_7 (.tup []) S_15)) fun j_8 =>
 ifK (AV.strip t51)
 (optK (binA .eql (AV.strip t49) (.int .i64 2)) fun t54 =>
 j_8 t54)
 (j_8 (.tup [])))) fun j =>
 ifK (AV.strip (AV.strip t33))
 (j (.tup []) S_10)
 (optK (lloadA T_stack_Stack (some b1) 0) fun t35 =>
 callK Ca F_stack_Stack_At [(AV.strip t35), (.int .i64 0)] S_10 fun t36 S_11 =>
 callK Ca F_branch_Branch_Count [t36] S_11 fun t37 S_12 =>
 optK (binA .neq t37 (.int .i64 2)) fun t38 =>
 j t38 S_12)) fun j_2 =>
 ifK (AV.strip (AV.strip t28))
 (j_2 (.tup []) S_8)
 (optK (lloadA T_stack_Stack (some b1) 0) fun t30 =>
 callK Ca F_stack_Stack_At [(AV.strip t30), (.int .i64 0)] S_8 fun t31 S_9 =>
 optK (binE .ptr .eql t31 .nil) fun t32 =>
 j_2 t32 S_9)) fun j_3 =>
 ifK (AV.strip (AV.strip t23))
 (j_3 (.tup []) S_6)
 (optK (lloadA T_stack_Stack (some b1) 0) fun t25 =>
 callK Ca F_stack_Stack_ID [(AV.strip t25), (.int .i64 0)] S_6 fun t26 S_7 =>
 optK (binA .neq t26 (.int .i64 1)) fun t27 =>
 j_3 t27 S_7)) fun j_4 =>
 ifK (AV.strip t18)
 (j_4 (.tup []) S_4)
 (optK (lloadA T_stack_Stack (some b1) 0) fun t20 =>
 callK Ca F_stack_Stack_Len [(AV.strip t20)] S_4 fun t21 S_5 =>
 optK (binA .neq t21 (.int .i64 2)) fun t22 =>
 j_4 t22 S_5)
theorem law07_speaks_eq (Ca) (S0 Q) : WF C Ca 25 (Drw C Ca 25) Tryd.f25 [] S0 Q = G_law07_speaks Ca  S0 Q := by kernel_rfl
theorem law07_speaks_ok {w0 : World} {S0 : St} {Q : AV → St → Prop} (h : G_law07_speaks (ACalls (En w0))  S0 Q) : AC w0 F_law07_speaks [] S0 Q := fn_ok w0 Tryd.func25 (by kernel_rfl) (by rw [law07_speaks_eq]; exact h)
def G_stack_Stack_Remove (Ca : Nat → List AV → St → (AV → St → Prop) → Prop) (a0a : List (List AV)) (a0ar : Rt) (a0b : Int) (a1 : Int) (S0 : St) (Q : AV → St → Prop) : Prop :=
 optK (boxA T_stack_Stack (.agg [(.vs 2 a0a a0ar), (.int .i64 a0b)])) fun c2 =>
 optK (some c2) fun _ =>
 optK (lloadA T_s_stack_mount (some c2) 0) fun t8 =>
 optK (funcA F_stack_Stack_Remove_1 [] [(.ptr S0.length 0)]) fun t9 =>
 callK Ca F_slices_IndexFunc_s_stack_mount_stack_mount [(AV.strip t8), t9] (S0 ++ [.cells [(.int .i64 a1)] t_int]) fun t10 S =>
 optK (binA .lss (AV.strip t10) (.int .i64 0)) fun t12 =>
 ifK t12
 (optK (lloadA T_stack_Stack (some c2) 0) fun t13 =>
 optK (lstoreA T_stack_Stack (some [(.vs 2 [] .nil), (.int .i64 0)]) 0 (AV.strip t13)) fun b4 =>
 optK ((lloadA T_stack_Stack (some b4) 0).map AV.strip) fun r4 =>
 Q (.tup [(AV.flat r4), (.int .i64 2)]) S)
 (optK (some c2) fun _ =>
 optK (lloadA T_s_stack_mount (some c2) 0) fun t15 =>
 optK (binA .add (AV.strip t10) (.int .i64 1)) fun t19 =>
 optK (some c2) fun _ =>
 optK (lloadA T_int (some c2) 1) fun t22 =>
 callK Ca F_slices_Clone_s_stack_mount_stack_mount [(AV.strip t15)] S fun t16 S_2 =>
 callK Ca F_slices_Delete_s_stack_mount_stack_mount [t16, (AV.strip t10), t19] S_2 fun t20 S_3 =>
 optK (buildA T_stack_Stack 1 [(0, t20), (1, (AV.strip t22))]) fun t23 =>
 optK (lstoreA T_stack_Stack (some [(.vs 2 [] .nil), (.int .i64 0)]) 0 t23) fun b4_2 =>
 optK ((lloadA T_stack_Stack (some b4_2) 0).map AV.strip) fun r4_2 =>
 Q (.tup [(AV.flat r4_2), (.int .i64 0)]) S_3)
theorem stack_Stack_Remove_eq (Ca) (a0a : List (List AV)) (a0ar : Rt) (a0b : Int) (a1 : Int) (S0 Q) : WF C Ca 26 (Drw C Ca 26) Tryd.f26 [(.agg [(.vs 2 a0a a0ar), (.int .i64 a0b)]), (.int .i64 a1)] S0 Q = G_stack_Stack_Remove Ca a0a a0ar a0b a1 S0 Q := by kernel_rfl
theorem stack_Stack_Remove_ok {w0 : World} {a0a : List (List AV)} {a0ar : Rt} {a0b : Int} {a1 : Int} {S0 : St} {Q : AV → St → Prop} (h : G_stack_Stack_Remove (ACalls (En w0)) a0a a0ar a0b a1 S0 Q) : AC w0 F_stack_Stack_Remove [(.agg [(.vs 2 a0a a0ar), (.int .i64 a0b)]), (.int .i64 a1)] S0 Q := fn_ok w0 Tryd.func26 (by kernel_rfl) (by rw [stack_Stack_Remove_eq]; exact h)
def G_branch_New (Ca : Nat → List AV → St → (AV → St → Prop) → Prop) (a0a : Int) (a0b : Bool) (a0c : List (List AV)) (a0cr : Rt) (a0d : List (List AV)) (a0dr : Rt) (a0e : Int) (a0f : List (List AV)) (a0fr : Rt) (a0g : List UInt8) (S0 : St) (Q : AV → St → Prop) : Prop :=
 optK (boxA T_api_Node (.agg [(.int .i64 a0a), (.bool a0b), (.vs 1 a0c a0cr), (.vs 7 a0d a0dr), (.int .i64 a0e), (.vs 2 a0f a0fr), (.str a0g)])) fun c1 =>
 optK (lloadA T_api_Node (some c1) 0) fun t5 =>
 callK Ca F_tree_Right [(AV.strip t5)] S0 fun t6 S =>
 optK (unA .not t6) fun t7 =>
 ifK t7
 (Q (.tup [.nil, (.int .i64 1)]) S)
 (optK (boxA T_branch_Branch (.agg [(.vs 8 [] .nil)])) fun c9 =>
 optK (lloadA T_api_Node (some c1) 0) fun t11 =>
 callK Ca F_branch_Branch_add [(.ptr S.length 0), (AV.strip t11)] (S ++ [.cells c9 t_branch_Branch]) fun t12 S_2 =>
 Q (.tup [(.ptr S.length 0), (.int .i64 0)]) S_2)
theorem branch_New_eq (Ca) (a0a : Int) (a0b : Bool) (a0c : List (List AV)) (a0cr : Rt) (a0d : List (List AV)) (a0dr : Rt) (a0e : Int) (a0f : List (List AV)) (a0fr : Rt) (a0g : List UInt8) (S0 Q) : WF C Ca 27 (Drw C Ca 27) Tryd.f27 [(.agg [(.int .i64 a0a), (.bool a0b), (.vs 1 a0c a0cr), (.vs 7 a0d a0dr), (.int .i64 a0e), (.vs 2 a0f a0fr), (.str a0g)])] S0 Q = G_branch_New Ca a0a a0b a0c a0cr a0d a0dr a0e a0f a0fr a0g S0 Q := by kernel_rfl
theorem branch_New_ok {w0 : World} {a0a : Int} {a0b : Bool} {a0c : List (List AV)} {a0cr : Rt} {a0d : List (List AV)} {a0dr : Rt} {a0e : Int} {a0f : List (List AV)} {a0fr : Rt} {a0g : List UInt8} {S0 : St} {Q : AV → St → Prop} (h : G_branch_New (ACalls (En w0)) a0a a0b a0c a0cr a0d a0dr a0e a0f a0fr a0g S0 Q) : AC w0 F_branch_New [(.agg [(.int .i64 a0a), (.bool a0b), (.vs 1 a0c a0cr), (.vs 7 a0d a0dr), (.int .i64 a0e), (.vs 2 a0f a0fr), (.str a0g)])] S0 Q := fn_ok w0 Tryd.func27 (by kernel_rfl) (by rw [branch_New_eq]; exact h)
def G_tree_Dir (Ca : Nat → List AV → St → (AV → St → Prop) → Prop) (a0 : List (List AV)) (a0r : Rt) (a1 : List (List AV)) (a1r : Rt) (S0 : St) (Q : AV → St → Prop) : Prop :=
 Ca F_slices_Clone_s_string_string [(.vs 1 a0 (Rt.strip (Rt.strip a0r)))] S0 fun t6 S =>
 Ca F_slices_Clone_s_api_Node_api_Node [(.vs 7 a1 (Rt.strip (Rt.strip a1r)))] S fun t8 S_2 =>
 optK (buildA T_api_Node 1 [(0, (.int .i64 2)), (2, t6), (3, t8)]) fun t9 =>
 optK (lstoreA T_api_Node (some [(.int .i64 0), (.bool false), (.vs 1 [] .nil), (.vs 7 [] .nil), (.int .i64 0), (.vs 2 [] .nil), (.str [])]) 0 t9) fun b4 =>
 optK ((lloadA T_api_Node (some b4) 0).map AV.strip) fun r4 =>
 Q r4 S_2
theorem tree_Dir_eq (Ca) (a0 : List (List AV)) (a0r : Rt) (a1 : List (List AV)) (a1r : Rt) (S0 Q) : WF C Ca 28 (Drw C Ca 28) Tryd.f28 [(.vs 1 a0 a0r), (.vs 7 a1 a1r)] S0 Q = G_tree_Dir Ca a0 a0r a1 a1r S0 Q := by kernel_rfl
theorem tree_Dir_ok {w0 : World} {a0 : List (List AV)} {a0r : Rt} {a1 : List (List AV)} {a1r : Rt} {S0 : St} {Q : AV → St → Prop} (h : G_tree_Dir (ACalls (En w0)) a0 a0r a1 a1r S0 Q) : AC w0 F_tree_Dir [(.vs 1 a0 a0r), (.vs 7 a1 a1r)] S0 Q := fn_ok w0 Tryd.func28 (by kernel_rfl) (by rw [tree_Dir_eq]; exact h)
def G_stack_Stack_Add (Ca : Nat → List AV → St → (AV → St → Prop) → Prop) (a0a : List (List AV)) (a0ar : Rt) (a0b : Int) (a1 : AV) (S0 : St) (Q : AV → St → Prop) : Prop :=
 optK (boxA T_stack_Stack (.agg [(.vs 2 a0a a0ar), (.int .i64 a0b)])) fun c2 =>
 optK (some c2) fun _ =>
 optK (lloadA T_s_stack_mount (some c2) 0) fun t8 =>
 optK (lenSlA (AV.strip t8)) fun t9 =>
 optK (binA .geq t9 (.int .i64 64)) fun t10 =>
 ifK t10
 (optK (lloadA T_stack_Stack (some c2) 0) fun t11 =>
 optK (lstoreA T_stack_Stack (some [(.vs 2 [] .nil), (.int .i64 0)]) 0 (AV.strip t11)) fun b4 =>
 optK ((lloadA T_stack_Stack (some b4) 0).map AV.strip) fun r4 =>
 Q (.tup [(AV.flat r4), (.int .i64 0), (.int .i64 6)]) S0)
 (optK (some c2) fun _ =>
 optK (lloadA T_int (some c2) 1) fun t13 =>
 optK (buildA T_stack_mount 1 [(0, (AV.strip t13)), (1, (AV.strip a1))]) fun t15 =>
 optK (elemVals 2 [t15]) fun e16 =>
 optK (some c2) fun _ =>
 optK (lloadA T_s_stack_mount (some c2) 0) fun t18 =>
 optK (some c2) fun _ =>
 optK (lloadA T_int (some c2) 1) fun t21 =>
 optK (binA .add (AV.strip t21) (.int .i64 1)) fun t22 =>
 optK (some c2) fun _ =>
 optK (lloadA T_int (some c2) 1) fun t25 =>
 optK (appendA T_stack_mount S0 (.vs 2 e16 .full) (AV.strip t18)) fun t19 =>
 optK (buildA T_stack_Stack 1 [(0, t19), (1, t22)]) fun t23 =>
 optK (lstoreA T_stack_Stack (some [(.vs 2 [] .nil), (.int .i64 0)]) 0 t23) fun b4_2 =>
 optK ((lloadA T_stack_Stack (some b4_2) 0).map AV.strip) fun r4_2 =>
 Q (.tup [(AV.flat r4_2), (AV.flat (AV.strip t25)), (.int .i64 0)]) S0)
theorem stack_Stack_Add_eq (Ca) (a0a : List (List AV)) (a0ar : Rt) (a0b : Int) (a1 : AV) (S0 Q) : WF C Ca 29 (Drw C Ca 29) Tryd.f29 [(.agg [(.vs 2 a0a a0ar), (.int .i64 a0b)]), a1] S0 Q = G_stack_Stack_Add Ca a0a a0ar a0b a1 S0 Q := by kernel_rfl
theorem stack_Stack_Add_ok {w0 : World} {a0a : List (List AV)} {a0ar : Rt} {a0b : Int} {a1 : AV} {S0 : St} {Q : AV → St → Prop} (h : G_stack_Stack_Add (ACalls (En w0)) a0a a0ar a0b a1 S0 Q) : AC w0 F_stack_Stack_Add [(.agg [(.vs 2 a0a a0ar), (.int .i64 a0b)]), a1] S0 Q := fn_ok w0 Tryd.func29 (by kernel_rfl) (by rw [stack_Stack_Add_eq]; exact h)
def G_law07_same (Ca : Nat → List AV → St → (AV → St → Prop) → Prop) (a0a : List (List AV)) (a0ar : Rt) (a0b : Int) (a1 : List (List AV)) (a1r : Rt) (a2 : List (List AV)) (a2r : Rt) (S0 : St) (Q : AV → St → Prop) : Prop :=
 optK (boxA T_stack_Stack (.agg [(.vs 2 a0a a0ar), (.int .i64 a0b)])) fun c3 =>
 optK (lloadA T_stack_Stack (some c3) 0) fun t9 =>
 callK Ca F_stack_Stack_Len [(AV.strip t9)] S0 fun t10 S =>
 optK (binA .neq t10 (.int .i64 (List.length a1 : Int))) fun t13 =>
 joinK (fun (x17 : AV) (S_3 : St) =>
 optK (pickA (AV.strip t13) (.bool true) x17) fun t18 =>
 joinK (fun (x22 : AV) (S_5 : St) =>
 optK (pickA (AV.strip (AV.strip t18)) (.bool true) x22) fun t23 =>
 joinK (fun (x29 : AV) (S_7 : St) =>
 optK (pickA (AV.strip (AV.strip t23)) (.bool true) x29) fun t30 =>
 joinK (fun (x36 : AV) (S_9 : St) =>
 optK (pickA (AV.strip (AV.strip t30)) (.bool true) x36) fun t37 =>
 ifK (AV.strip t37)
 (Q (.bool false) S_9)
 (joinK (fun (S_14 : St) =>
 Q (.bool true) S_14) fun j_6 =>
 loopQ ([(.int .i64 0)], [(some c3)]) (fun v bx => ([v 40], [bx 3])) (fun nx v bx S_10 =>
 optK (binA .lss (v 40) (.int .i64 (List.length a1 : Int))) fun t41 =>
 ifK t41
 (optK (idxSlA T_int (.vs 1 a1 (Rt.strip a1r)) (v 40)) fun t43 =>
 optK (loadA T_int S_10 t43) fun t44 =>
 optK (lloadA T_stack_Stack (bx 3) 0) fun t45 =>
 callK Ca F_stack_Stack_ID [(AV.strip t45), (AV.strip (AV.strip (v 40)))] S_10 fun t47 S_11 =>
 optK (binA .neq t47 (AV.strip (AV.strip t44))) fun t49 =>
 joinK (fun (x58 : AV) (S_13 : St) =>
 optK (pickA (AV.strip t49) (.bool true) x58) fun t59 =>
 ifK (AV.strip t59)
 (Q (.bool false) S_13)
 (optK (binA .add (v 40) (.int .i64 1)) fun t60 =>
 nx ([(AV.strip t60)], [(bx 3)]) S_13)) fun j_5 =>
 ifK (AV.strip t49)
 ((ifK (AV.strip t49)
 ((AV.tup []) = (.tup []))
 (optK (loadA T_p_branch_Branch S_11 (.tup [])) fun t57 =>
 ((AV.strip t57) : AV) = (.tup []))) ∧
 (j_5 (.tup []) S_11))
 (optK (lloadA T_stack_Stack (bx 3) 0) fun t51 =>
 optK (idxSlA T_p_branch_Branch (.vs 1 a2 (Rt.strip a2r)) (AV.strip (AV.strip t44))) fun t56 =>
 optK (loadA T_p_branch_Branch S_11 t56) fun t57_2 =>
 callK Ca F_stack_Stack_At [(AV.strip t51), (AV.strip (AV.strip (v 40)))] S_11 fun t53 S_12 =>
 (ifK (AV.strip t49)
 ((AV.tup []) = (AV.strip t57_2))
 (optK (loadA T_p_branch_Branch S_12 t56) fun t57_3 =>
 ((AV.strip t57_3) : AV) = (AV.strip t57_2))) ∧
 (optK (binP S_12 .neq t53 (AV.strip t57_2)) fun t58 =>
 j_5 t58 S_12)))
 (j_6 S_10)) S_9)) fun j =>
 ifK (AV.strip (AV.strip t30))
 (j (.tup []) S_7)
 (optK (lloadA T_stack_Stack (some c3) 0) fun t32 =>
 callK Ca F_stack_Stack_ID [(AV.strip t32), (.int .i64 (List.length a1 : Int))] S_7 fun t35 S_8 =>
 optK (binA .neq t35 (.int .i64 (-1))) fun t36 =>
 j t36 S_8)) fun j_2 =>
 ifK (AV.strip (AV.strip t23))
 (j_2 (.tup []) S_5)
 (optK (lloadA T_stack_Stack (some c3) 0) fun t25 =>
 callK Ca F_stack_Stack_At [(AV.strip t25), (.int .i64 (List.length a1 : Int))] S_5 fun t28 S_6 =>
 optK (binE .ptr .neq t28 .nil) fun t29 =>
 j_2 t29 S_6)) fun j_3 =>
 ifK (AV.strip (AV.strip t18))
 (j_3 (.tup []) S_3)
 (optK (lloadA T_stack_Stack (some c3) 0) fun t20 =>
 callK Ca F_stack_Stack_ID [(AV.strip t20), (.int .i64 (-1))] S_3 fun t21 S_4 =>
 optK (binA .neq t21 (.int .i64 (-1))) fun t22 =>
 j_3 t22 S_4)) fun j_4 =>
 ifK (AV.strip t13)
 (j_4 (.tup []) S)
 (optK (lloadA T_stack_Stack (some c3) 0) fun t15 =>
 callK Ca F_stack_Stack_At [(AV.strip t15), (.int .i64 (-1))] S fun t16 S_2 =>
 optK (binE .ptr .neq t16 .nil) fun t17 =>
 j_4 t17 S_2)
theorem law07_same_eq (Ca) (a0a : List (List AV)) (a0ar : Rt) (a0b : Int) (a1 : List (List AV)) (a1r : Rt) (a2 : List (List AV)) (a2r : Rt) (S0 Q) : WF C Ca 30 (Drw C Ca 30) Tryd.f30 [(.agg [(.vs 2 a0a a0ar), (.int .i64 a0b)]), (.vs 1 a1 a1r), (.vs 1 a2 a2r)] S0 Q = G_law07_same Ca a0a a0ar a0b a1 a1r a2 a2r S0 Q := by kernel_rfl
theorem law07_same_ok {w0 : World} {a0a : List (List AV)} {a0ar : Rt} {a0b : Int} {a1 : List (List AV)} {a1r : Rt} {a2 : List (List AV)} {a2r : Rt} {S0 : St} {Q : AV → St → Prop} (h : G_law07_same (ACalls (En w0)) a0a a0ar a0b a1 a1r a2 a2r S0 Q) : AC w0 F_law07_same [(.agg [(.vs 2 a0a a0ar), (.int .i64 a0b)]), (.vs 1 a1 a1r), (.vs 1 a2 a2r)] S0 Q := fn_ok w0 Tryd.func30 (by kernel_rfl) (by rw [law07_same_eq]; exact h)
def G_law04_Small (Ca : Nat → List AV → St → (AV → St → Prop) → Prop) (a0a : Int) (a0b : Bool) (a0c : List (List AV)) (a0cr : Rt) (a0d : List (List AV)) (a0dr : Rt) (a0e : Int) (a0f : List (List AV)) (a0fr : Rt) (a0g : List UInt8) (S0 : St) (Q : AV → St → Prop) : Prop :=
 optK (boxA T_api_Node (.agg [(.int .i64 a0a), (.bool a0b), (.vs 1 a0c a0cr), (.vs 7 a0d a0dr), (.int .i64 a0e), (.vs 2 a0f a0fr), (.str a0g)])) fun c1 =>
 optK (storeA T_int (S0 ++ [.cells T_int.zero t_int]) (.ptr S0.length 0) (.int .i64 400)) fun S =>
 optK (lloadA T_api_Node (some c1) 0) fun t4 =>
 callK Ca F_law04_small [(AV.strip t4), (.int .i64 30), (.ptr S0.length 0)] S fun t5 S_2 =>
 optK (unA .not t5) fun t6 =>
 ifK t6
 (Q (.int .i64 0) S_2)
 (Q (.int .i64 1) S_2)
theorem law04_Small_eq (Ca) (a0a : Int) (a0b : Bool) (a0c : List (List AV)) (a0cr : Rt) (a0d : List (List AV)) (a0dr : Rt) (a0e : Int) (a0f : List (List AV)) (a0fr : Rt) (a0g : List UInt8) (S0 Q) : WF C Ca 31 (Drw C Ca 31) Tryd.f31 [(.agg [(.int .i64 a0a), (.bool a0b), (.vs 1 a0c a0cr), (.vs 7 a0d a0dr), (.int .i64 a0e), (.vs 2 a0f a0fr), (.str a0g)])] S0 Q = G_law04_Small Ca a0a a0b a0c a0cr a0d a0dr a0e a0f a0fr a0g S0 Q := by kernel_rfl
theorem law04_Small_ok {w0 : World} {a0a : Int} {a0b : Bool} {a0c : List (List AV)} {a0cr : Rt} {a0d : List (List AV)} {a0dr : Rt} {a0e : Int} {a0f : List (List AV)} {a0fr : Rt} {a0g : List UInt8} {S0 : St} {Q : AV → St → Prop} (h : G_law04_Small (ACalls (En w0)) a0a a0b a0c a0cr a0d a0dr a0e a0f a0fr a0g S0 Q) : AC w0 F_law04_Small [(.agg [(.int .i64 a0a), (.bool a0b), (.vs 1 a0c a0cr), (.vs 7 a0d a0dr), (.int .i64 a0e), (.vs 2 a0f a0fr), (.str a0g)])] S0 Q := fn_ok w0 Tryd.func31 (by kernel_rfl) (by rw [law04_Small_eq]; exact h)
def G_ref04_Right (Ca : Nat → List AV → St → (AV → St → Prop) → Prop) (a0a : Int) (a0b : Bool) (a0c : List (List AV)) (a0cr : Rt) (a0d : List (List AV)) (a0dr : Rt) (a0e : Int) (a0f : List (List AV)) (a0fr : Rt) (a0g : List UInt8) (S0 : St) (Q : AV → St → Prop) : Prop :=
 optK (boxA T_api_Node (.agg [(.int .i64 a0a), (.bool a0b), (.vs 1 a0c a0cr), (.vs 7 a0d a0dr), (.int .i64 a0e), (.vs 2 a0f a0fr), (.str a0g)])) fun c1 =>
 optK (some c1) fun _ =>
 optK (lloadA T_int (some c1) 0) fun t4 =>
 optK (binA .eql (AV.strip t4) (.int .i64 2)) fun t5 =>
 joinK (fun (x8 : AV) (S_2 : St) =>
 optK (pickA (AV.strip t5) x8 (.bool false)) fun t9 =>
 joinK (fun (x13 : AV) (S_4 : St) =>
 optK (pickA (AV.strip (AV.strip t9)) x13 (.bool false)) fun t14 =>
 joinK (fun (x18 : AV) (S_6 : St) =>
 optK (pickA (AV.strip (AV.strip t14)) x18 (.bool false)) fun t19 =>
 Q (AV.strip t19) S_6) fun j =>
 ifK (AV.strip (AV.strip t14))
 (optK (lloadA T_api_Node (some c1) 0) fun t16 =>
 callK Ca F_ref04_Depth [(AV.strip t16)] S_4 fun t17 S_5 =>
 optK (binA .leq t17 (.int .i64 15)) fun t18 =>
 j t18 S_5)
 (j (.tup []) S_4)) fun j_2 =>
 ifK (AV.strip (AV.strip t9))
 (optK (lloadA T_api_Node (some c1) 0) fun t11 =>
 callK Ca F_ref04_Count [(AV.strip t11)] S_2 fun t12 S_3 =>
 optK (binA .leq t12 (.int .i64 4096)) fun t13 =>
 j_2 t13 S_3)
 (j_2 (.tup []) S_2)) fun j_3 =>
 ifK (AV.strip t5)
 (optK (lloadA T_api_Node (some c1) 0) fun t7 =>
 callK Ca F_ref04_all [(AV.strip t7)] S0 fun t8 S =>
 j_3 t8 S)
 (j_3 (.tup []) S0)
theorem ref04_Right_eq (Ca) (a0a : Int) (a0b : Bool) (a0c : List (List AV)) (a0cr : Rt) (a0d : List (List AV)) (a0dr : Rt) (a0e : Int) (a0f : List (List AV)) (a0fr : Rt) (a0g : List UInt8) (S0 Q) : WF C Ca 32 (Drw C Ca 32) Tryd.f32 [(.agg [(.int .i64 a0a), (.bool a0b), (.vs 1 a0c a0cr), (.vs 7 a0d a0dr), (.int .i64 a0e), (.vs 2 a0f a0fr), (.str a0g)])] S0 Q = G_ref04_Right Ca a0a a0b a0c a0cr a0d a0dr a0e a0f a0fr a0g S0 Q := by kernel_rfl
theorem ref04_Right_ok {w0 : World} {a0a : Int} {a0b : Bool} {a0c : List (List AV)} {a0cr : Rt} {a0d : List (List AV)} {a0dr : Rt} {a0e : Int} {a0f : List (List AV)} {a0fr : Rt} {a0g : List UInt8} {S0 : St} {Q : AV → St → Prop} (h : G_ref04_Right (ACalls (En w0)) a0a a0b a0c a0cr a0d a0dr a0e a0f a0fr a0g S0 Q) : AC w0 F_ref04_Right [(.agg [(.int .i64 a0a), (.bool a0b), (.vs 1 a0c a0cr), (.vs 7 a0d a0dr), (.int .i64 a0e), (.vs 2 a0f a0fr), (.str a0g)])] S0 Q := fn_ok w0 Tryd.func32 (by kernel_rfl) (by rw [ref04_Right_eq]; exact h)
def G_stack_Of (Ca : Nat → List AV → St → (AV → St → Prop) → Prop) (a0 : List (List AV)) (a0r : Rt) (S0 : St) (Q : AV → St → Prop) : Prop :=
 joinK (fun (y2 : Option (List AV)) (y4 : Option (List AV)) (S_4 : St) =>
 optK (lloadA T_stack_Stack y4 0) fun t36 =>
 optK (lstoreA T_stack_Stack y2 0 (AV.strip t36)) fun b2_3 =>
 optK ((lloadA T_stack_Stack (some b2_3) 0).map AV.strip) fun r2_3 =>
 Q (.tup [(AV.flat r2_3), (.int .i64 0)]) S_4) fun j =>
 loopQ ([(.int .i64 0)], [(some [(.vs 2 [] .nil), (.int .i64 0)]), (some [(.vs 2 [] .nil), (.int .i64 0)])]) (fun v bx => ([v 11], [bx 2, bx 4])) (fun nx v bx S =>
 optK (binA .lss (v 11) (.int .i64 (List.length a0 : Int))) fun t12 =>
 ifK t12
 (optK (idxSlA T_api_Node (.vs 7 a0 (Rt.strip a0r)) (v 11)) fun t13 =>
 optK (loadA T_api_Node S t13) fun t14 =>
 optK (lstoreA T_api_Node (some [(.int .i64 0), (.bool false), (.vs 1 [] .nil), (.vs 7 [] .nil), (.int .i64 0), (.vs 2 [] .nil), (.str [])]) 0 (AV.strip t14)) fun b6 =>
 optK (lloadA T_api_Node (some b6) 0) fun t16 =>
 callK Ca F_branch_New [(AV.strip t16)] S fun t17 S_2 =>
 optK (extractA t17 0) fun t18 =>
 optK (extractA (stripTup t17 0) 1) fun t19 =>
 optK (binA .neq (AV.strip t19) (.int .i64 0)) fun t21 =>
 ifK t21
 (optK (lstoreA T_stack_Stack (bx 2) 0 (.agg [(.vs 2 [] .nil), (.int .i64 0)])) fun b2 =>
 optK ((lloadA T_stack_Stack (some b2) 0).map AV.strip) fun r2 =>
 Q (.tup [(AV.flat r2), (AV.flat (AV.strip t19))]) S_2)
 (optK (lloadA T_stack_Stack (bx 4) 0) fun t25 =>
 callK Ca F_stack_Stack_Add [(AV.strip t25), (AV.strip t18)] S_2 fun t27 S_3 =>
 optK (extractA t27 0) fun t28 =>
 optK (extractA (stripTup t27 0) 1) fun t29 =>
 optK (extractA (stripTup (stripTup t27 0) 1) 2) fun t30 =>
 optK (lstoreA T_stack_Stack (bx 4) 0 t28) fun b4 =>
 optK (binA .neq (AV.strip t30) (.int .i64 0)) fun t32 =>
 ifK t32
 (optK (lstoreA T_stack_Stack (bx 2) 0 (.agg [(.vs 2 [] .nil), (.int .i64 0)])) fun b2_2 =>
 optK ((lloadA T_stack_Stack (some b2_2) 0).map AV.strip) fun r2_2 =>
 Q (.tup [(AV.flat r2_2), (AV.flat (AV.strip t30))]) S_3)
 (optK (binA .add (v 11) (.int .i64 1)) fun t35 =>
 nx ([(AV.strip t35)], [(bx 2), (some b4)]) S_3)))
 (j (bx 2) (bx 4) S)) S0
theorem stack_Of_eq (Ca) (a0 : List (List AV)) (a0r : Rt) (S0 Q) : WF C Ca 33 (Drw C Ca 33) Tryd.f33 [(.vs 7 a0 a0r)] S0 Q = G_stack_Of Ca a0 a0r S0 Q := by kernel_rfl
theorem stack_Of_ok {w0 : World} {a0 : List (List AV)} {a0r : Rt} {S0 : St} {Q : AV → St → Prop} (h : G_stack_Of (ACalls (En w0)) a0 a0r S0 Q) : AC w0 F_stack_Of [(.vs 7 a0 a0r)] S0 Q := fn_ok w0 Tryd.func33 (by kernel_rfl) (by rw [stack_Of_eq]; exact h)
def G_stack_Stack_Len (Ca : Nat → List AV → St → (AV → St → Prop) → Prop) (a0a : List (List AV)) (a0ar : Rt) (a0b : Int) (S0 : St) (Q : AV → St → Prop) : Prop :=
 optK (boxA T_stack_Stack (.agg [(.vs 2 a0a a0ar), (.int .i64 a0b)])) fun c1 =>
 optK (some c1) fun _ =>
 optK (lloadA T_s_stack_mount (some c1) 0) fun t4 =>
 optK (lenSlA (AV.strip t4)) fun t5 =>
 Q t5 S0
theorem stack_Stack_Len_eq (Ca) (a0a : List (List AV)) (a0ar : Rt) (a0b : Int) (S0 Q) : WF C Ca 34 (Drw C Ca 34) Tryd.f34 [(.agg [(.vs 2 a0a a0ar), (.int .i64 a0b)])] S0 Q = G_stack_Stack_Len Ca a0a a0ar a0b S0 Q := by kernel_rfl
theorem stack_Stack_Len_ok {w0 : World} {a0a : List (List AV)} {a0ar : Rt} {a0b : Int} {S0 : St} {Q : AV → St → Prop} (h : G_stack_Stack_Len (ACalls (En w0)) a0a a0ar a0b S0 Q) : AC w0 F_stack_Stack_Len [(.agg [(.vs 2 a0a a0ar), (.int .i64 a0b)])] S0 Q := fn_ok w0 Tryd.func34 (by kernel_rfl) (by rw [stack_Stack_Len_eq]; exact h)
end Go.Av
set_option linter.unusedVariables false
namespace Go.Av
open Go.Proofs
def G_stack_Stack_At (Ca : Nat → List AV → St → (AV → St → Prop) → Prop) (a0a : List (List AV)) (a0ar : Rt) (a0b : Int) (a1 : Int) (S0 : St) (Q : AV → St → Prop) : Prop :=
 optK (boxA T_stack_Stack (.agg [(.vs 2 a0a a0ar), (.int .i64 a0b)])) fun c2 =>
 joinK (fun (x12 : AV) =>
 optK (pickA (.bool (decide (a1 < 0))) (.bool true) x12) fun t13 =>
 ifK (AV.strip t13)
 (Q .nil S0)
 (optK (some c2) fun _ =>
 optK (lloadA T_s_stack_mount (some c2) 0) fun t15 =>
 optK (idxSlA T_stack_mount (AV.strip t15) (.int .i64 a1)) fun t17 =>
 optK (movePtr t17 1) fun t18 =>
 optK (loadA T_p_branch_Branch S0 t18) fun t19 =>
 Q (AV.strip t19) S0)) fun j =>
 ifK (.bool (decide (a1 < 0)))
 (j (.tup []))
 (optK (some c2) fun _ =>
 optK (lloadA T_s_stack_mount (some c2) 0) fun t10 =>
 optK (lenSlA (AV.strip t10)) fun t11 =>
 optK (binA .geq (.int .i64 a1) t11) fun t12 =>
 j t12)
theorem stack_Stack_At_eq (Ca) (a0a : List (List AV)) (a0ar : Rt) (a0b : Int) (a1 : Int) (S0 Q) : WF C Ca 35 (Drw C Ca 35) Tryd.f35 [(.agg [(.vs 2 a0a a0ar), (.int .i64 a0b)]), (.int .i64 a1)] S0 Q = G_stack_Stack_At Ca a0a a0ar a0b a1 S0 Q := by kernel_rfl
theorem stack_Stack_At_ok {w0 : World} {a0a : List (List AV)} {a0ar : Rt} {a0b : Int} {a1 : Int} {S0 : St} {Q : AV → St → Prop} (h : G_stack_Stack_At (ACalls (En w0)) a0a a0ar a0b a1 S0 Q) : AC w0 F_stack_Stack_At [(.agg [(.vs 2 a0a a0ar), (.int .i64 a0b)]), (.int .i64 a1)] S0 Q := fn_ok w0 Tryd.func35 (by kernel_rfl) (by rw [stack_Stack_At_eq]; exact h)
def G_stack_Stack_ID (Ca : Nat → List AV → St → (AV → St → Prop) → Prop) (a0a : List (List AV)) (a0ar : Rt) (a0b : Int) (a1 : Int) (S0 : St) (Q : AV → St → Prop) : Prop :=
 optK (boxA T_stack_Stack (.agg [(.vs 2 a0a a0ar), (.int .i64 a0b)])) fun c2 =>
 joinK (fun (x12 : AV) =>
 optK (pickA (.bool (decide (a1 < 0))) (.bool true) x12) fun t13 =>
 ifK (AV.strip t13)
 (Q (.int .i64 (-1)) S0)
 (optK (some c2) fun _ =>
 optK (lloadA T_s_stack_mount (some c2) 0) fun t15 =>
 optK (idxSlA T_stack_mount (AV.strip t15) (.int .i64 a1)) fun t17 =>
 optK (movePtr t17 0) fun t18 =>
 optK (loadA T_int S0 t18) fun t19 =>
 Q (AV.strip t19) S0)) fun j =>
 ifK (.bool (decide (a1 < 0)))
 (j (.tup []))
 (optK (some c2) fun _ =>
 optK (lloadA T_s_stack_mount (some c2) 0) fun t10 =>
 optK (lenSlA (AV.strip t10)) fun t11 =>
 optK (binA .geq (.int .i64 a1) t11) fun t12 =>
 j t12)
theorem stack_Stack_ID_eq (Ca) (a0a : List (List AV)) (a0ar : Rt) (a0b : Int) (a1 : Int) (S0 Q) : WF C Ca 36 (Drw C Ca 36) Tryd.f36 [(.agg [(.vs 2 a0a a0ar), (.int .i64 a0b)]), (.int .i64 a1)] S0 Q = G_stack_Stack_ID Ca a0a a0ar a0b a1 S0 Q := by kernel_rfl
theorem stack_Stack_ID_ok {w0 : World} {a0a : List (List AV)} {a0ar : Rt} {a0b : Int} {a1 : Int} {S0 : St} {Q : AV → St → Prop} (h : G_stack_Stack_ID (ACalls (En w0)) a0a a0ar a0b a1 S0 Q) : AC w0 F_stack_Stack_ID [(.agg [(.vs 2 a0a a0ar), (.int .i64 a0b)]), (.int .i64 a1)] S0 Q := fn_ok w0 Tryd.func36 (by kernel_rfl) (by rw [stack_Stack_ID_eq]; exact h)
def G_branch_Branch_Count (Ca : Nat → List AV → St → (AV → St → Prop) → Prop) (a0 : Nat) (a0o : Nat) (S0 : St) (Q : AV → St → Prop) : Prop :=
 optK (loadA T_s_branch_inode S0 (.ptr a0 (a0o + 0))) fun t6 =>
 optK (lenSlA (AV.strip t6)) fun t7 =>
 Q t7 S0
theorem branch_Branch_Count_eq (Ca) (a0 : Nat) (a0o : Nat) (S0 Q) : WF C Ca 37 (Drw C Ca 37) Tryd.f37 [(.ptr a0 a0o)] S0 Q = G_branch_Branch_Count Ca a0 a0o S0 Q := by kernel_rfl
theorem branch_Branch_Count_ok {w0 : World} {a0 : Nat} {a0o : Nat} {S0 : St} {Q : AV → St → Prop} (h : G_branch_Branch_Count (ACalls (En w0)) a0 a0o S0 Q) : AC w0 F_branch_Branch_Count [(.ptr a0 a0o)] S0 Q := fn_ok w0 Tryd.func37 (by kernel_rfl) (by rw [branch_Branch_Count_eq]; exact h)
def G_ref04_Count (Ca : Nat → List AV → St → (AV → St → Prop) → Prop) (a0a : Int) (a0b : Bool) (a0c : List (List AV)) (a0cr : Rt) (a0d : List (List AV)) (a0dr : Rt) (a0e : Int) (a0f : List (List AV)) (a0fr : Rt) (a0g : List UInt8) (S0 : St) (Q : AV → St → Prop) : Prop :=
 optK (boxA T_api_Node (.agg [(.int .i64 a0a), (.bool a0b), (.vs 1 a0c a0cr), (.vs 7 a0d a0dr), (.int .i64 a0e), (.vs 2 a0f a0fr), (.str a0g)])) fun c1 =>
 joinK (fun (x3 : AV) (S_3 : St) =>
 Q (AV.strip x3) S_3) fun j =>
 loopQ ([(.int .i64 1), (.int .i64 0)], [(some c1)]) (fun v bx => ([v 3, v 4], [bx 1])) (fun nx v bx S =>
 optK (bx 1) fun _ =>
 optK (lloadA T_s_api_Node (bx 1) 3) fun t7 =>
 optK (lenSlA (AV.strip t7)) fun t8 =>
 optK (binA .lss (AV.strip (v 4)) t8) fun t9 =>
 ifK t9
 (optK (bx 1) fun _ =>
 optK (lloadA T_s_api_Node (bx 1) 3) fun t14 =>
 optK (idxSlA T_api_Node (AV.strip t14) (AV.strip (v 4))) fun t16 =>
 optK (loadA T_api_Node S t16) fun t17 =>
 callK Ca F_ref04_Count [(AV.strip t17)] S fun t18 S_2 =>
 optK (binA .add (AV.strip (v 3)) t18) fun t19 =>
 optK (binA .add (AV.strip (v 4)) (.int .i64 1)) fun t11 =>
 nx ([t19, t11], [(bx 1)]) S_2)
 (j (v 3) S)) S0
theorem ref04_Count_eq (Ca) (a0a : Int) (a0b : Bool) (a0c : List (List AV)) (a0cr : Rt) (a0d : List (List AV)) (a0dr : Rt) (a0e : Int) (a0f : List (List AV)) (a0fr : Rt) (a0g : List UInt8) (S0 Q) : WF C Ca 38 (Drw C Ca 38) Tryd.f38 [(.agg [(.int .i64 a0a), (.bool a0b), (.vs 1 a0c a0cr), (.vs 7 a0d a0dr), (.int .i64 a0e), (.vs 2 a0f a0fr), (.str a0g)])] S0 Q = G_ref04_Count Ca a0a a0b a0c a0cr a0d a0dr a0e a0f a0fr a0g S0 Q := by kernel_rfl
theorem ref04_Count_ok {w0 : World} {a0a : Int} {a0b : Bool} {a0c : List (List AV)} {a0cr : Rt} {a0d : List (List AV)} {a0dr : Rt} {a0e : Int} {a0f : List (List AV)} {a0fr : Rt} {a0g : List UInt8} {S0 : St} {Q : AV → St → Prop} (h : G_ref04_Count (ACalls (En w0)) a0a a0b a0c a0cr a0d a0dr a0e a0f a0fr a0g S0 Q) : AC w0 F_ref04_Count [(.agg [(.int .i64 a0a), (.bool a0b), (.vs 1 a0c a0cr), (.vs 7 a0d a0dr), (.int .i64 a0e), (.vs 2 a0f a0fr), (.str a0g)])] S0 Q := fn_ok w0 Tryd.func38 (by kernel_rfl) (by rw [ref04_Count_eq]; exact h)
def G_law04_speaks (Ca : Nat → List AV → St → (AV → St → Prop) → Prop) (S0 : St) (Q : AV → St → Prop) : Prop :=
 Ca F_tree_Text [(.str [120])] S0 fun t5 S =>
 Ca F_tree_White [] S fun t6 S_2 =>
 optK (elemVals 7 [t5, t6]) fun e7 =>
 Ca F_tree_Dir [(.vs 1 [[(.str [97])], [(.str [98])]] .full), (.vs 7 e7 .full)] S_2 fun t8 S_3 =>
 optK (lstoreA T_api_Node (some [(.int .i64 0), (.bool false), (.vs 1 [] .nil), (.vs 7 [] .nil), (.int .i64 0), (.vs 2 [] .nil), (.str [])]) 0 t8) fun b1 =>
 optK (lloadA T_api_Node (some b1) 0) fun t10 =>
 callK Ca F_tree_Find [(AV.strip t10), (.str [97])] S_3 fun t11 S_4 =>
 optK (extractA t11 0) fun t12 =>
 optK (extractA (stripTup t11 0) 1) fun t13 =>
 optK (lstoreA T_api_Node (some [(.int .i64 0), (.bool false), (.vs 1 [] .nil), (.vs 7 [] .nil), (.int .i64 0), (.vs 2 [] .nil), (.str [])]) 0 t12) fun b2 =>
 optK (lloadA T_api_Node (some b1) 0) fun t14 =>
 callK Ca F_tree_Right [(AV.strip t14)] S_4 fun t15 S_5 =>
 joinK (fun (x23 : AV) (S_10 : St) =>
 optK (pickA (AV.strip t15) x23 (.bool false)) fun t24 =>
 joinK (fun (x26 : AV) =>
 optK (pickA (AV.strip (AV.strip t24)) x26 (.bool false)) fun t27 =>
 joinK (fun (x31 : AV) =>
 optK (pickA (AV.strip (AV.strip t27)) x31 (.bool false)) fun t32 =>
 joinK (fun (x36 : AV) (S_12 : St) =>
 optK (pickA (AV.strip (AV.strip t32)) x36 (.bool false)) fun t37 =>
 joinK (fun (x41 : AV) (S_14 : St) =>
 optK (pickA (AV.strip (AV.strip t37)) x41 (.bool false)) fun t42 =>
 optK (pickA (AV.strip (AV.strip t42)) (.bool true) (.bool false)) fun t44 =>
 Q (AV.strip t44) S_14) fun j =>
 ifK (AV.strip (AV.strip t37))
 (optK (lloadA T_api_Node (some b1) 0) fun t39 =>
 optK (lloadA T_api_Node (some b1) 0) fun t40 =>
 callK Ca F_tree_Same [(AV.strip t39), (AV.strip t40)] S_12 fun t41 S_13 =>
 j t41 S_13)
 (j (.tup []) S_12)) fun j_2 =>
 ifK (AV.strip (AV.strip t32))
 (optK (lloadA T_api_Node (some b1) 0) fun t34 =>
 callK Ca F_tree_Count [(AV.strip t34)] S_10 fun t35 S_11 =>
 optK (binA .eql t35 (.int .i64 3)) fun t36 =>
 j_2 t36 S_11)
 (j_2 (.tup []) S_10)) fun j_3 =>
 ifK (AV.strip (AV.strip t27))
 (optK (some b2) fun _ =>
 optK (lloadA T_int (some b2) 4) fun t30 =>
 optK (binA .eql (AV.strip t30) (.int .i64 1)) fun t31 =>
 j_3 t31)
 (j_3 (.tup []))) fun j_4 =>
 ifK (AV.strip (AV.strip t24))
 (j_4 (AV.strip t13))
 (j_4 (.tup []))) fun j_5 =>
 ifK (AV.strip t15)
 (Ca F_tree_White [] S_5 fun t18 S_6 =>
 Ca F_tree_White [] S_6 fun t19 S_7 =>
 optK (elemVals 7 [t18, t19]) fun e20 =>
 Ca F_tree_Dir [(.vs 1 [[(.str [98])], [(.str [97])]] .full), (.vs 7 e20 .full)] S_7 fun t21 S_8 =>
 callK Ca F_tree_Right [t21] S_8 fun t22 S_9 =>
 optK (unA .not t22) fun t23 =>
 j_5 t23 S_9)
 (j_5 (.tup []) S_5)
theorem law04_speaks_eq (Ca) (S0 Q) : WF C Ca 39 (Drw C Ca 39) Tryd.f39 [] S0 Q = G_law04_speaks Ca  S0 Q := by kernel_rfl
theorem law04_speaks_ok {w0 : World} {S0 : St} {Q : AV → St → Prop} (h : G_law04_speaks (ACalls (En w0))  S0 Q) : AC w0 F_law04_speaks [] S0 Q := fn_ok w0 Tryd.func39 (by kernel_rfl) (by rw [law04_speaks_eq]; exact h)
def G_tree_Right (Ca : Nat → List AV → St → (AV → St → Prop) → Prop) (a0a : Int) (a0b : Bool) (a0c : List (List AV)) (a0cr : Rt) (a0d : List (List AV)) (a0dr : Rt) (a0e : Int) (a0f : List (List AV)) (a0fr : Rt) (a0g : List UInt8) (S0 : St) (Q : AV → St → Prop) : Prop :=
 optK (boxA T_api_Node (.agg [(.int .i64 a0a), (.bool a0b), (.vs 1 a0c a0cr), (.vs 7 a0d a0dr), (.int .i64 a0e), (.vs 2 a0f a0fr), (.str a0g)])) fun c1 =>
 optK (storeA T_int (S0 ++ [.cells T_int.zero t_int]) (.ptr S0.length 0) (.int .i64 4096)) fun S =>
 optK (some c1) fun _ =>
 optK (lloadA T_int (some c1) 0) fun t5 =>
 optK (binA .eql (AV.strip t5) (.int .i64 2)) fun t6 =>
 joinK (fun (x9 : AV) (S_3 : St) =>
 optK (pickA (AV.strip t6) x9 (.bool false)) fun t10 =>
 Q (AV.strip t10) S_3) fun j =>
 ifK (AV.strip t6)
 (optK (lloadA T_api_Node (some c1) 0) fun t8 =>
 callK Ca F_tree_right [(AV.strip t8), (.int .i64 0), (.ptr S0.length 0)] S fun t9 S_2 =>
 j t9 S_2)
 (j (.tup []) S)
theorem tree_Right_eq (Ca) (a0a : Int) (a0b : Bool) (a0c : List (List AV)) (a0cr : Rt) (a0d : List (List AV)) (a0dr : Rt) (a0e : Int) (a0f : List (List AV)) (a0fr : Rt) (a0g : List UInt8) (S0 Q) : WF C Ca 40 (Drw C Ca 40) Tryd.f40 [(.agg [(.int .i64 a0a), (.bool a0b), (.vs 1 a0c a0cr), (.vs 7 a0d a0dr), (.int .i64 a0e), (.vs 2 a0f a0fr), (.str a0g)])] S0 Q = G_tree_Right Ca a0a a0b a0c a0cr a0d a0dr a0e a0f a0fr a0g S0 Q := by kernel_rfl
theorem tree_Right_ok {w0 : World} {a0a : Int} {a0b : Bool} {a0c : List (List AV)} {a0cr : Rt} {a0d : List (List AV)} {a0dr : Rt} {a0e : Int} {a0f : List (List AV)} {a0fr : Rt} {a0g : List UInt8} {S0 : St} {Q : AV → St → Prop} (h : G_tree_Right (ACalls (En w0)) a0a a0b a0c a0cr a0d a0dr a0e a0f a0fr a0g S0 Q) : AC w0 F_tree_Right [(.agg [(.int .i64 a0a), (.bool a0b), (.vs 1 a0c a0cr), (.vs 7 a0d a0dr), (.int .i64 a0e), (.vs 2 a0f a0fr), (.str a0g)])] S0 Q := fn_ok w0 Tryd.func40 (by kernel_rfl) (by rw [tree_Right_eq]; exact h)
def G_tree_Count (Ca : Nat → List AV → St → (AV → St → Prop) → Prop) (a0a : Int) (a0b : Bool) (a0c : List (List AV)) (a0cr : Rt) (a0d : List (List AV)) (a0dr : Rt) (a0e : Int) (a0f : List (List AV)) (a0fr : Rt) (a0g : List UInt8) (S0 : St) (Q : AV → St → Prop) : Prop :=
 optK (boxA T_api_Node (.agg [(.int .i64 a0a), (.bool a0b), (.vs 1 a0c a0cr), (.vs 7 a0d a0dr), (.int .i64 a0e), (.vs 2 a0f a0fr), (.str a0g)])) fun c1 =>
 joinK (fun (x3 : AV) (S_3 : St) =>
 Q (AV.strip x3) S_3) fun j =>
 optK (some c1) fun _ =>
 optK (lloadA T_s_api_Node (some c1) 3) fun t7 =>
 optK (lenSlA (AV.strip t7)) fun t8 =>
 loopQ ([(.int .i64 1), (.int .i64 0)], []) (fun v bx => ([v 3, v 9], [])) (fun nx v bx S =>
 optK (binA .lss (v 9) t8) fun t10 =>
 ifK t10
 (optK (idxSlA T_api_Node (AV.strip t7) (v 9)) fun t11 =>
 optK (loadA T_api_Node S t11) fun t12 =>
 optK (lstoreA T_api_Node (some [(.int .i64 0), (.bool false), (.vs 1 [] .nil), (.vs 7 [] .nil), (.int .i64 0), (.vs 2 [] .nil), (.str [])]) 0 (AV.strip t12)) fun b5 =>
 optK (lloadA T_api_Node (some b5) 0) fun t14 =>
 callK Ca F_tree_Count [(AV.strip t14)] S fun t15 S_2 =>
 optK (binA .add (AV.strip (v 3)) t15) fun t16 =>
 optK (binA .add (v 9) (.int .i64 1)) fun t17 =>
 nx ([t16, (AV.strip t17)], []) S_2)
 (j (v 3) S)) S0
theorem tree_Count_eq (Ca) (a0a : Int) (a0b : Bool) (a0c : List (List AV)) (a0cr : Rt) (a0d : List (List AV)) (a0dr : Rt) (a0e : Int) (a0f : List (List AV)) (a0fr : Rt) (a0g : List UInt8) (S0 Q) : WF C Ca 41 (Drw C Ca 41) Tryd.f41 [(.agg [(.int .i64 a0a), (.bool a0b), (.vs 1 a0c a0cr), (.vs 7 a0d a0dr), (.int .i64 a0e), (.vs 2 a0f a0fr), (.str a0g)])] S0 Q = G_tree_Count Ca a0a a0b a0c a0cr a0d a0dr a0e a0f a0fr a0g S0 Q := by kernel_rfl
theorem tree_Count_ok {w0 : World} {a0a : Int} {a0b : Bool} {a0c : List (List AV)} {a0cr : Rt} {a0d : List (List AV)} {a0dr : Rt} {a0e : Int} {a0f : List (List AV)} {a0fr : Rt} {a0g : List UInt8} {S0 : St} {Q : AV → St → Prop} (h : G_tree_Count (ACalls (En w0)) a0a a0b a0c a0cr a0d a0dr a0e a0f a0fr a0g S0 Q) : AC w0 F_tree_Count [(.agg [(.int .i64 a0a), (.bool a0b), (.vs 1 a0c a0cr), (.vs 7 a0d a0dr), (.int .i64 a0e), (.vs 2 a0f a0fr), (.str a0g)])] S0 Q := fn_ok w0 Tryd.func41 (by kernel_rfl) (by rw [tree_Count_eq]; exact h)
def G_tree_Same (Ca : Nat → List AV → St → (AV → St → Prop) → Prop) (a0a : Int) (a0b : Bool) (a0c : List (List AV)) (a0cr : Rt) (a0d : List (List AV)) (a0dr : Rt) (a0e : Int) (a0f : List (List AV)) (a0fr : Rt) (a0g : List UInt8) (a1a : Int) (a1b : Bool) (a1c : List (List AV)) (a1cr : Rt) (a1d : List (List AV)) (a1dr : Rt) (a1e : Int) (a1f : List (List AV)) (a1fr : Rt) (a1g : List UInt8) (S0 : St) (Q : AV → St → Prop) : Prop :=
 optK (boxA T_api_Node (.agg [(.int .i64 a0a), (.bool a0b), (.vs 1 a0c a0cr), (.vs 7 a0d a0dr), (.int .i64 a0e), (.vs 2 a0f a0fr), (.str a0g)])) fun c2 =>
 optK (boxA T_api_Node (.agg [(.int .i64 a1a), (.bool a1b), (.vs 1 a1c a1cr), (.vs 7 a1d a1dr), (.int .i64 a1e), (.vs 2 a1f a1fr), (.str a1g)])) fun c3 =>
 optK (some c2) fun _ =>
 optK (lloadA T_int (some c2) 0) fun t7 =>
 optK (some c3) fun _ =>
 optK (lloadA T_int (some c3) 0) fun t9 =>
 optK (binA .neq (AV.strip t7) (AV.strip t9)) fun t10 =>
 joinK (fun (x16 : AV) =>
 optK (pickA (AV.strip t10) (.bool true) x16) fun t17 =>
 joinK (fun (x23 : AV) =>
 optK (pickA (AV.strip (AV.strip t17)) (.bool true) x23) fun t24 =>
 joinK (fun (x30 : AV) =>
 optK (pickA (AV.strip (AV.strip t24)) (.bool true) x30) fun t31 =>
 joinK (fun (x38 : AV) (S_2 : St) =>
 optK (pickA (AV.strip (AV.strip t31)) (.bool true) x38) fun t39 =>
 joinK (fun (x46 : AV) (S_4 : St) =>
 optK (pickA (AV.strip (AV.strip t39)) (.bool true) x46) fun t47 =>
 joinK (fun (x55 : AV) =>
 optK (pickA (AV.strip (AV.strip t47)) (.bool true) x55) fun t56 =>
 ifK (AV.strip t56)
 (Q (.bool false) S_4)
 (joinK (fun (S_7 : St) =>
 Q (.bool true) S_7) fun j_7 =>
 optK (some c2) fun _ =>
 optK (lloadA T_s_api_Node (some c2) 3) fun t58 =>
 optK (lenSlA (AV.strip t58)) fun t59 =>
 loopQ ([(.int .i64 0)], [(some c2), (some c3)]) (fun v bx => ([v 60], [bx 2, bx 3])) (fun nx v bx S_5 =>
 optK (binA .lss (v 60) t59) fun t61 =>
 ifK t61
 (optK (bx 2) fun _ =>
 optK (lloadA T_s_api_Node (bx 2) 3) fun t64 =>
 optK (idxSlA T_api_Node (AV.strip t64) (AV.strip (AV.strip (v 60)))) fun t66 =>
 optK (loadA T_api_Node S_5 t66) fun t67 =>
 optK (bx 3) fun _ =>
 optK (lloadA T_s_api_Node (bx 3) 3) fun t69 =>
 optK (idxSlA T_api_Node (AV.strip t69) (AV.strip (AV.strip (v 60)))) fun t71 =>
 optK (loadA T_api_Node S_5 t71) fun t72 =>
 callK Ca F_tree_Same [(AV.strip t67), (AV.strip t72)] S_5 fun t73 S_6 =>
 optK (unA .not t73) fun t74 =>
 ifK t74
 (Q (.bool false) S_6)
 (optK (binA .add (v 60) (.int .i64 1)) fun t75 =>
 nx ([(AV.strip t75)], [(bx 2), (bx 3)]) S_6))
 (j_7 S_5)) S_4)) fun j =>
 ifK (AV.strip (AV.strip t47))
 (j (.tup []))
 (optK (some c2) fun _ =>
 optK (lloadA T_s_api_Node (some c2) 3) fun t50 =>
 optK (lenSlA (AV.strip t50)) fun t51 =>
 optK (some c3) fun _ =>
 optK (lloadA T_s_api_Node (some c3) 3) fun t53 =>
 optK (lenSlA (AV.strip t53)) fun t54 =>
 optK (binA .neq t51 t54) fun t55 =>
 j t55)) fun j_2 =>
 ifK (AV.strip (AV.strip t39))
 (j_2 (.tup []) S_2)
 (optK (some c2) fun _ =>
 optK (lloadA T_s_api_Extent (some c2) 5) fun t42 =>
 optK (some c3) fun _ =>
 optK (lloadA T_s_api_Extent (some c3) 5) fun t44 =>
 callK Ca F_slices_Equal_s_api_Extent_api_Extent [(AV.strip t42), (AV.strip t44)] S_2 fun t45 S_3 =>
 optK (unA .not t45) fun t46 =>
 j_2 t46 S_3)) fun j_3 =>
 ifK (AV.strip (AV.strip t31))
 (j_3 (.tup []) S0)
 (optK (some c2) fun _ =>
 optK (lloadA T_s_string (some c2) 2) fun t34 =>
 optK (some c3) fun _ =>
 optK (lloadA T_s_string (some c3) 2) fun t36 =>
 callK Ca F_slices_Equal_s_string_string [(AV.strip t34), (AV.strip t36)] S0 fun t37 S =>
 optK (unA .not t37) fun t38 =>
 j_3 t38 S)) fun j_4 =>
 ifK (AV.strip (AV.strip t24))
 (j_4 (.tup []))
 (optK (some c2) fun _ =>
 optK (lloadA T_string (some c2) 6) fun t27 =>
 optK (some c3) fun _ =>
 optK (lloadA T_string (some c3) 6) fun t29 =>
 optK (binA .neq (AV.strip t27) (AV.strip t29)) fun t30 =>
 j_4 t30)) fun j_5 =>
 ifK (AV.strip (AV.strip t17))
 (j_5 (.tup []))
 (optK (some c2) fun _ =>
 optK (lloadA T_int (some c2) 4) fun t20 =>
 optK (some c3) fun _ =>
 optK (lloadA T_int (some c3) 4) fun t22 =>
 optK (binA .neq (AV.strip t20) (AV.strip t22)) fun t23 =>
 j_5 t23)) fun j_6 =>
 ifK (AV.strip t10)
 (j_6 (.tup []))
 (optK (some c2) fun _ =>
 optK (lloadA T_bool (some c2) 1) fun t13 =>
 optK (some c3) fun _ =>
 optK (lloadA T_bool (some c3) 1) fun t15 =>
 optK (binE .bool .neq (AV.strip t13) (AV.strip t15)) fun t16 =>
 j_6 t16)
theorem tree_Same_eq (Ca) (a0a : Int) (a0b : Bool) (a0c : List (List AV)) (a0cr : Rt) (a0d : List (List AV)) (a0dr : Rt) (a0e : Int) (a0f : List (List AV)) (a0fr : Rt) (a0g : List UInt8) (a1a : Int) (a1b : Bool) (a1c : List (List AV)) (a1cr : Rt) (a1d : List (List AV)) (a1dr : Rt) (a1e : Int) (a1f : List (List AV)) (a1fr : Rt) (a1g : List UInt8) (S0 Q) : WF C Ca 42 (Drw C Ca 42) Tryd.f42 [(.agg [(.int .i64 a0a), (.bool a0b), (.vs 1 a0c a0cr), (.vs 7 a0d a0dr), (.int .i64 a0e), (.vs 2 a0f a0fr), (.str a0g)]), (.agg [(.int .i64 a1a), (.bool a1b), (.vs 1 a1c a1cr), (.vs 7 a1d a1dr), (.int .i64 a1e), (.vs 2 a1f a1fr), (.str a1g)])] S0 Q = G_tree_Same Ca a0a a0b a0c a0cr a0d a0dr a0e a0f a0fr a0g a1a a1b a1c a1cr a1d a1dr a1e a1f a1fr a1g S0 Q := by kernel_rfl
theorem tree_Same_ok {w0 : World} {a0a : Int} {a0b : Bool} {a0c : List (List AV)} {a0cr : Rt} {a0d : List (List AV)} {a0dr : Rt} {a0e : Int} {a0f : List (List AV)} {a0fr : Rt} {a0g : List UInt8} {a1a : Int} {a1b : Bool} {a1c : List (List AV)} {a1cr : Rt} {a1d : List (List AV)} {a1dr : Rt} {a1e : Int} {a1f : List (List AV)} {a1fr : Rt} {a1g : List UInt8} {S0 : St} {Q : AV → St → Prop} (h : G_tree_Same (ACalls (En w0)) a0a a0b a0c a0cr a0d a0dr a0e a0f a0fr a0g a1a a1b a1c a1cr a1d a1dr a1e a1f a1fr a1g S0 Q) : AC w0 F_tree_Same [(.agg [(.int .i64 a0a), (.bool a0b), (.vs 1 a0c a0cr), (.vs 7 a0d a0dr), (.int .i64 a0e), (.vs 2 a0f a0fr), (.str a0g)]), (.agg [(.int .i64 a1a), (.bool a1b), (.vs 1 a1c a1cr), (.vs 7 a1d a1dr), (.int .i64 a1e), (.vs 2 a1f a1fr), (.str a1g)])] S0 Q := fn_ok w0 Tryd.func42 (by kernel_rfl) (by rw [tree_Same_eq]; exact h)
def G_ref04_Same (Ca : Nat → List AV → St → (AV → St → Prop) → Prop) (a0a : Int) (a0b : Bool) (a0c : List (List AV)) (a0cr : Rt) (a0d : List (List AV)) (a0dr : Rt) (a0e : Int) (a0f : List (List AV)) (a0fr : Rt) (a0g : List UInt8) (a1a : Int) (a1b : Bool) (a1c : List (List AV)) (a1cr : Rt) (a1d : List (List AV)) (a1dr : Rt) (a1e : Int) (a1f : List (List AV)) (a1fr : Rt) (a1g : List UInt8) (S0 : St) (Q : AV → St → Prop) : Prop :=
 optK (boxA T_api_Node (.agg [(.int .i64 a0a), (.bool a0b), (.vs 1 a0c a0cr), (.vs 7 a0d a0dr), (.int .i64 a0e), (.vs 2 a0f a0fr), (.str a0g)])) fun c2 =>
 optK (boxA T_api_Node (.agg [(.int .i64 a1a), (.bool a1b), (.vs 1 a1c a1cr), (.vs 7 a1d a1dr), (.int .i64 a1e), (.vs 2 a1f a1fr), (.str a1g)])) fun c3 =>
 optK (some c2) fun _ =>
 optK (lloadA T_int (some c2) 0) fun t8 =>
 optK (some c3) fun _ =>
 optK (lloadA T_int (some c3) 0) fun t10 =>
 optK (binA .neq (AV.strip t8) (AV.strip t10)) fun t11 =>
 joinK (fun (x17 : AV) =>
 optK (pickA (AV.strip t11) (.bool true) x17) fun t18 =>
 joinK (fun (x24 : AV) =>
 optK (pickA (AV.strip (AV.strip t18)) (.bool true) x24) fun t25 =>
 joinK (fun (x31 : AV) =>
 optK (pickA (AV.strip (AV.strip t25)) (.bool true) x31) fun t32 =>
 joinK (fun (x39 : AV) (S_2 : St) =>
 optK (pickA (AV.strip (AV.strip t32)) (.bool true) x39) fun t40 =>
 joinK (fun (x48 : AV) =>
 optK (pickA (AV.strip (AV.strip t40)) (.bool true) x48) fun t49 =>
 joinK (fun (x57 : AV) =>
 optK (pickA (AV.strip (AV.strip t49)) (.bool true) x57) fun t58 =>
 ifK (AV.strip t58)
 (Q (.bool false) S_2)
 (joinK (fun (y2 : Option (List AV)) (y3 : Option (List AV)) (S_4 : St) =>
 joinK (fun (S_7 : St) =>
 Q (.bool true) S_7) fun j_7 =>
 loopQ ([(.int .i64 0)], [y2, y3]) (fun v_2 bx_2 => ([v_2 6], [bx_2 2, bx_2 3])) (fun nx_2 v_2 bx_2 S_5 =>
 optK (bx_2 2) fun _ =>
 optK (lloadA T_s_api_Node (bx_2 2) 3) fun t79 =>
 optK (lenSlA (AV.strip t79)) fun t80 =>
 optK (binA .lss (AV.strip (v_2 6)) t80) fun t81 =>
 ifK t81
 (optK (bx_2 2) fun _ =>
 optK (lloadA T_s_api_Node (bx_2 2) 3) fun t85 =>
 optK (idxSlA T_api_Node (AV.strip t85) (AV.strip (v_2 6))) fun t87 =>
 optK (loadA T_api_Node S_5 t87) fun t88 =>
 optK (bx_2 3) fun _ =>
 optK (lloadA T_s_api_Node (bx_2 3) 3) fun t90 =>
 optK (idxSlA T_api_Node (AV.strip t90) (AV.strip (v_2 6))) fun t92 =>
 optK (loadA T_api_Node S_5 t92) fun t93 =>
 callK Ca F_ref04_Same [(AV.strip t88), (AV.strip t93)] S_5 fun t94 S_6 =>
 optK (unA .not t94) fun t95 =>
 ifK t95
 (Q (.bool false) S_6)
 (optK (binA .add (AV.strip (v_2 6)) (.int .i64 1)) fun t83 =>
 nx_2 ([t83], [(bx_2 2), (bx_2 3)]) S_6))
 (j_7 S_5)) S_4) fun j_8 =>
 loopQ ([(.int .i64 0)], [(some c2), (some c3)]) (fun v bx => ([v 5], [bx 2, bx 3])) (fun nx v bx S_3 =>
 optK (bx 2) fun _ =>
 optK (lloadA T_s_api_Extent (bx 2) 5) fun t61 =>
 optK (lenSlA (AV.strip t61)) fun t62 =>
 optK (binA .lss (AV.strip (v 5)) t62) fun t63 =>
 ifK t63
 (optK (bx 2) fun _ =>
 optK (lloadA T_s_api_Extent (bx 2) 5) fun t67 =>
 optK (idxSlA T_api_Extent (AV.strip t67) (AV.strip (v 5))) fun t69 =>
 optK (loadA T_api_Extent S_3 t69) fun t70 =>
 optK (bx 3) fun _ =>
 optK (lloadA T_s_api_Extent (bx 3) 5) fun t72 =>
 optK (idxSlA T_api_Extent (AV.strip t72) (AV.strip (v 5))) fun t74 =>
 optK (loadA T_api_Extent S_3 t74) fun t75 =>
 optK (binE (.agg T_api_Extent.zero) .neq (AV.strip t70) (AV.strip t75)) fun t76 =>
 ifK t76
 (Q (.bool false) S_3)
 (optK (binA .add (AV.strip (v 5)) (.int .i64 1)) fun t65 =>
 nx ([t65], [(bx 2), (bx 3)]) S_3))
 (j_8 (bx 2) (bx 3) S_3)) S_2)) fun j =>
 ifK (AV.strip (AV.strip t49))
 (j (.tup []))
 (optK (some c2) fun _ =>
 optK (lloadA T_s_api_Extent (some c2) 5) fun t52 =>
 optK (lenSlA (AV.strip t52)) fun t53 =>
 optK (some c3) fun _ =>
 optK (lloadA T_s_api_Extent (some c3) 5) fun t55 =>
 optK (lenSlA (AV.strip t55)) fun t56 =>
 optK (binA .neq t53 t56) fun t57 =>
 j t57)) fun j_2 =>
 ifK (AV.strip (AV.strip t40))
 (j_2 (.tup []))
 (optK (some c2) fun _ =>
 optK (lloadA T_s_api_Node (some c2) 3) fun t43 =>
 optK (lenSlA (AV.strip t43)) fun t44 =>
 optK (some c3) fun _ =>
 optK (lloadA T_s_api_Node (some c3) 3) fun t46 =>
 optK (lenSlA (AV.strip t46)) fun t47 =>
 optK (binA .neq t44 t47) fun t48 =>
 j_2 t48)) fun j_3 =>
 ifK (AV.strip (AV.strip t32))
 (j_3 (.tup []) S0)
 (optK (some c2) fun _ =>
 optK (lloadA T_s_string (some c2) 2) fun t35 =>
 optK (some c3) fun _ =>
 optK (lloadA T_s_string (some c3) 2) fun t37 =>
 callK Ca F_ref01_Same [(AV.strip t35), (AV.strip t37)] S0 fun t38 S =>
 optK (unA .not t38) fun t39 =>
 j_3 t39 S)) fun j_4 =>
 ifK (AV.strip (AV.strip t25))
 (j_4 (.tup []))
 (optK (some c2) fun _ =>
 optK (lloadA T_string (some c2) 6) fun t28 =>
 optK (some c3) fun _ =>
 optK (lloadA T_string (some c3) 6) fun t30 =>
 optK (binA .neq (AV.strip t28) (AV.strip t30)) fun t31 =>
 j_4 t31)) fun j_5 =>
 ifK (AV.strip (AV.strip t18))
 (j_5 (.tup []))
 (optK (some c2) fun _ =>
 optK (lloadA T_int (some c2) 4) fun t21 =>
 optK (some c3) fun _ =>
 optK (lloadA T_int (some c3) 4) fun t23 =>
 optK (binA .neq (AV.strip t21) (AV.strip t23)) fun t24 =>
 j_5 t24)) fun j_6 =>
 ifK (AV.strip t11)
 (j_6 (.tup []))
 (optK (some c2) fun _ =>
 optK (lloadA T_bool (some c2) 1) fun t14 =>
 optK (some c3) fun _ =>
 optK (lloadA T_bool (some c3) 1) fun t16 =>
 optK (binE .bool .neq (AV.strip t14) (AV.strip t16)) fun t17 =>
 j_6 t17)
theorem ref04_Same_eq (Ca) (a0a : Int) (a0b : Bool) (a0c : List (List AV)) (a0cr : Rt) (a0d : List (List AV)) (a0dr : Rt) (a0e : Int) (a0f : List (List AV)) (a0fr : Rt) (a0g : List UInt8) (a1a : Int) (a1b : Bool) (a1c : List (List AV)) (a1cr : Rt) (a1d : List (List AV)) (a1dr : Rt) (a1e : Int) (a1f : List (List AV)) (a1fr : Rt) (a1g : List UInt8) (S0 Q) : WF C Ca 43 (Drw C Ca 43) Tryd.f43 [(.agg [(.int .i64 a0a), (.bool a0b), (.vs 1 a0c a0cr), (.vs 7 a0d a0dr), (.int .i64 a0e), (.vs 2 a0f a0fr), (.str a0g)]), (.agg [(.int .i64 a1a), (.bool a1b), (.vs 1 a1c a1cr), (.vs 7 a1d a1dr), (.int .i64 a1e), (.vs 2 a1f a1fr), (.str a1g)])] S0 Q = G_ref04_Same Ca a0a a0b a0c a0cr a0d a0dr a0e a0f a0fr a0g a1a a1b a1c a1cr a1d a1dr a1e a1f a1fr a1g S0 Q := by kernel_rfl
theorem ref04_Same_ok {w0 : World} {a0a : Int} {a0b : Bool} {a0c : List (List AV)} {a0cr : Rt} {a0d : List (List AV)} {a0dr : Rt} {a0e : Int} {a0f : List (List AV)} {a0fr : Rt} {a0g : List UInt8} {a1a : Int} {a1b : Bool} {a1c : List (List AV)} {a1cr : Rt} {a1d : List (List AV)} {a1dr : Rt} {a1e : Int} {a1f : List (List AV)} {a1fr : Rt} {a1g : List UInt8} {S0 : St} {Q : AV → St → Prop} (h : G_ref04_Same (ACalls (En w0)) a0a a0b a0c a0cr a0d a0dr a0e a0f a0fr a0g a1a a1b a1c a1cr a1d a1dr a1e a1f a1fr a1g S0 Q) : AC w0 F_ref04_Same [(.agg [(.int .i64 a0a), (.bool a0b), (.vs 1 a0c a0cr), (.vs 7 a0d a0dr), (.int .i64 a0e), (.vs 2 a0f a0fr), (.str a0g)]), (.agg [(.int .i64 a1a), (.bool a1b), (.vs 1 a1c a1cr), (.vs 7 a1d a1dr), (.int .i64 a1e), (.vs 2 a1f a1fr), (.str a1g)])] S0 Q := fn_ok w0 Tryd.func43 (by kernel_rfl) (by rw [ref04_Same_eq]; exact h)
def G_ref04_One (Ca : Nat → List AV → St → (AV → St → Prop) → Prop) (a0a : Int) (a0b : Bool) (a0c : List (List AV)) (a0cr : Rt) (a0d : List (List AV)) (a0dr : Rt) (a0e : Int) (a0f : List (List AV)) (a0fr : Rt) (a0g : List UInt8) (S0 : St) (Q : AV → St → Prop) : Prop :=
 optK (boxA T_api_Node (.agg [(.int .i64 a0a), (.bool a0b), (.vs 1 a0c a0cr), (.vs 7 a0d a0dr), (.int .i64 a0e), (.vs 2 a0f a0fr), (.str a0g)])) fun c1 =>
 optK (some c1) fun _ =>
 optK (lloadA T_bool (some c1) 1) fun t8 =>
 optK (unA .not (AV.strip t8)) fun t9 =>
 joinK (fun (x14 : AV) =>
 optK (pickA (AV.strip t9) x14 (.bool false)) fun t15 =>
 joinK (fun (x20 : AV) =>
 optK (pickA (AV.strip (AV.strip t15)) x20 (.bool false)) fun t21 =>
 optK (some c1) fun _ =>
 optK (lloadA T_int (some c1) 4) fun t23 =>
 optK (binA .eql (AV.strip t23) (.int .i64 0)) fun t24 =>
 joinK (fun (x29 : AV) =>
 optK (pickA (AV.strip t24) x29 (.bool false)) fun t30 =>
 optK (some c1) fun _ =>
 optK (lloadA T_int (some c1) 0) fun t32 =>
 optK (binA .eql (AV.strip t32) (.int .i64 1)) fun t34 =>
 ifK t34
 (joinK (fun (x39 : AV) =>
 optK (pickA (AV.strip (AV.strip (AV.strip t21))) x39 (.bool false)) fun t40 =>
 joinK (fun (x46 : AV) (S_2 : St) =>
 optK (pickA (AV.strip (AV.strip t40)) x46 (.bool false)) fun t47 =>
 Q (AV.strip t47) S_2) fun j =>
 ifK (AV.strip (AV.strip t40))
 (optK (some c1) fun _ =>
 optK (lloadA T_int (some c1) 4) fun t43 =>
 optK (some c1) fun _ =>
 optK (lloadA T_s_api_Extent (some c1) 5) fun t45 =>
 callK Ca F_ref03_Right [(AV.strip t43), (AV.strip t45)] S0 fun t46 S =>
 j t46 S)
 (j (.tup []) S0)) fun j_2 =>
 ifK (AV.strip (AV.strip (AV.strip t21)))
 (optK (some c1) fun _ =>
 optK (lloadA T_string (some c1) 6) fun t38 =>
 optK (binA .eql (AV.strip t38) (.str [])) fun t39 =>
 j_2 t39)
 (j_2 (.tup [])))
 (optK (binA .eql (AV.strip t32) (.int .i64 2)) fun t49 =>
 ifK t49
 (joinK (fun (x54 : AV) =>
 optK (pickA (AV.strip (AV.strip (AV.strip t30))) x54 (.bool false)) fun t55 =>
 joinK (fun (x58 : AV) (S_4 : St) =>
 optK (pickA (AV.strip (AV.strip t55)) x58 (.bool false)) fun t59 =>
 Q (AV.strip t59) S_4) fun j_3 =>
 ifK (AV.strip (AV.strip t55))
 (optK (lloadA T_api_Node (some c1) 0) fun t57 =>
 callK Ca F_ref04_entries [(AV.strip t57)] S0 fun t58 S_3 =>
 j_3 t58 S_3)
 (j_3 (.tup []) S0)) fun j_4 =>
 ifK (AV.strip (AV.strip (AV.strip t30)))
 (optK (some c1) fun _ =>
 optK (lloadA T_string (some c1) 6) fun t53 =>
 optK (binA .eql (AV.strip t53) (.str [])) fun t54 =>
 j_4 t54)
 (j_4 (.tup [])))
 (optK (binA .eql (AV.strip t32) (.int .i64 3)) fun t61 =>
 ifK t61
 (optK (some c1) fun _ =>
 optK (lloadA T_string (some c1) 6) fun t64 =>
 callK Ca F_ref01_Split [(AV.strip t64)] S0 fun t65 S_5 =>
 optK (extractA t65 0) fun t66 =>
 optK (extractA (stripTup t65 0) 1) fun t67 =>
 joinK (fun (x70 : AV) =>
 optK (pickA (AV.strip (AV.strip (AV.strip t21))) x70 (.bool false)) fun t71 =>
 joinK (fun (x73 : AV) =>
 optK (pickA (AV.strip (AV.strip t71)) x73 (.bool false)) fun t74 =>
 joinK (fun (x79 : AV) =>
 optK (pickA (AV.strip (AV.strip t74)) x79 (.bool false)) fun t80 =>
 Q (AV.strip t80) S_5) fun j_5 =>
 ifK (AV.strip (AV.strip t74))
 (optK (some c1) fun _ =>
 optK (lloadA T_string (some c1) 6) fun t77 =>
 optK (lenStrA (AV.strip t77)) fun t78 =>
 optK (binA .leq t78 (.int .i64 256)) fun t79 =>
 j_5 t79)
 (j_5 (.tup []))) fun j_6 =>
 ifK (AV.strip (AV.strip t71))
 (j_6 (AV.strip t67))
 (j_6 (.tup []))) fun j_7 =>
 ifK (AV.strip (AV.strip (AV.strip t21)))
 (j_7 (AV.strip (AV.strip t30)))
 (j_7 (.tup [])))
 (optK (binA .eql (AV.strip t32) (.int .i64 4)) fun t82 =>
 ifK t82
 (joinK (fun (x85 : AV) =>
 optK (pickA (AV.strip (AV.strip (AV.strip t21))) x85 (.bool false)) fun t86 =>
 joinK (fun (x90 : AV) =>
 optK (pickA (AV.strip (AV.strip t86)) x90 (.bool false)) fun t91 =>
 Q (AV.strip t91) S0) fun j_8 =>
 ifK (AV.strip (AV.strip t86))
 (optK (some c1) fun _ =>
 optK (lloadA T_string (some c1) 6) fun t89 =>
 optK (binA .eql (AV.strip t89) (.str [])) fun t90 =>
 j_8 t90)
 (j_8 (.tup []))) fun j_9 =>
 ifK (AV.strip (AV.strip (AV.strip t21)))
 (j_9 (AV.strip (AV.strip t30)))
 (j_9 (.tup [])))
 (Q (.bool false) S0))))) fun j_10 =>
 ifK (AV.strip t24)
 (optK (some c1) fun _ =>
 optK (lloadA T_s_api_Extent (some c1) 5) fun t27 =>
 optK (lenSlA (AV.strip t27)) fun t28 =>
 optK (binA .eql t28 (.int .i64 0)) fun t29 =>
 j_10 t29)
 (j_10 (.tup []))) fun j_11 =>
 ifK (AV.strip (AV.strip t15))
 (optK (some c1) fun _ =>
 optK (lloadA T_s_api_Node (some c1) 3) fun t18 =>
 optK (lenSlA (AV.strip t18)) fun t19 =>
 optK (binA .eql t19 (.int .i64 0)) fun t20 =>
 j_11 t20)
 (j_11 (.tup []))) fun j_12 =>
 ifK (AV.strip t9)
 (optK (some c1) fun _ =>
 optK (lloadA T_s_string (some c1) 2) fun t12 =>
 optK (lenSlA (AV.strip t12)) fun t13 =>
 optK (binA .eql t13 (.int .i64 0)) fun t14 =>
 j_12 t14)
 (j_12 (.tup []))
theorem ref04_One_eq (Ca) (a0a : Int) (a0b : Bool) (a0c : List (List AV)) (a0cr : Rt) (a0d : List (List AV)) (a0dr : Rt) (a0e : Int) (a0f : List (List AV)) (a0fr : Rt) (a0g : List UInt8) (S0 Q) : WF C Ca 44 (Drw C Ca 44) Tryd.f44 [(.agg [(.int .i64 a0a), (.bool a0b), (.vs 1 a0c a0cr), (.vs 7 a0d a0dr), (.int .i64 a0e), (.vs 2 a0f a0fr), (.str a0g)])] S0 Q = G_ref04_One Ca a0a a0b a0c a0cr a0d a0dr a0e a0f a0fr a0g S0 Q := by kernel_rfl
theorem ref04_One_ok {w0 : World} {a0a : Int} {a0b : Bool} {a0c : List (List AV)} {a0cr : Rt} {a0d : List (List AV)} {a0dr : Rt} {a0e : Int} {a0f : List (List AV)} {a0fr : Rt} {a0g : List UInt8} {S0 : St} {Q : AV → St → Prop} (h : G_ref04_One (ACalls (En w0)) a0a a0b a0c a0cr a0d a0dr a0e a0f a0fr a0g S0 Q) : AC w0 F_ref04_One [(.agg [(.int .i64 a0a), (.bool a0b), (.vs 1 a0c a0cr), (.vs 7 a0d a0dr), (.int .i64 a0e), (.vs 2 a0f a0fr), (.str a0g)])] S0 Q := fn_ok w0 Tryd.func44 (by kernel_rfl) (by rw [ref04_One_eq]; exact h)
def G_tree_Find (Ca : Nat → List AV → St → (AV → St → Prop) → Prop) (a0a : Int) (a0b : Bool) (a0c : List (List AV)) (a0cr : Rt) (a0d : List (List AV)) (a0dr : Rt) (a0e : Int) (a0f : List (List AV)) (a0fr : Rt) (a0g : List UInt8) (a1 : List UInt8) (S0 : St) (Q : AV → St → Prop) : Prop :=
 optK (boxA T_api_Node (.agg [(.int .i64 a0a), (.bool a0b), (.vs 1 a0c a0cr), (.vs 7 a0d a0dr), (.int .i64 a0e), (.vs 2 a0f a0fr), (.str a0g)])) fun c2 =>
 optK (some c2) fun _ =>
 optK (lloadA T_s_string (some c2) 2) fun t10 =>
 callK Ca F_slices_BinarySearch_s_string_string [(AV.strip t10), (.str a1)] S0 fun t12 S =>
 optK (extractA t12 0) fun t13 =>
 optK (extractA (stripTup t12 0) 1) fun t14 =>
 optK (unA .not (AV.strip t14)) fun t16 =>
 ifK t16
 (Q (.tup [(.agg [(.int .i64 0), (.bool false), (.vs 1 [] .nil), (.vs 7 [] .nil), (.int .i64 0), (.vs 2 [] .nil), (.str [])]), (.bool false)]) S)
 (optK (some c2) fun _ =>
 optK (lloadA T_s_api_Node (some c2) 3) fun t19 =>
 optK (idxSlA T_api_Node (AV.strip t19) (AV.strip t13)) fun t21 =>
 optK (loadA T_api_Node S t21) fun t22 =>
 optK (lstoreA T_api_Node (some [(.int .i64 0), (.bool false), (.vs 1 [] .nil), (.vs 7 [] .nil), (.int .i64 0), (.vs 2 [] .nil), (.str [])]) 0 (AV.strip t22)) fun b4 =>
 optK ((lloadA T_api_Node (some b4) 0).map AV.strip) fun r4 =>
 Q (.tup [(AV.flat r4), (.bool true)]) S)
theorem tree_Find_eq (Ca) (a0a : Int) (a0b : Bool) (a0c : List (List AV)) (a0cr : Rt) (a0d : List (List AV)) (a0dr : Rt) (a0e : Int) (a0f : List (List AV)) (a0fr : Rt) (a0g : List UInt8) (a1 : List UInt8) (S0 Q) : WF C Ca 45 (Drw C Ca 45) Tryd.f45 [(.agg [(.int .i64 a0a), (.bool a0b), (.vs 1 a0c a0cr), (.vs 7 a0d a0dr), (.int .i64 a0e), (.vs 2 a0f a0fr), (.str a0g)]), (.str a1)] S0 Q = G_tree_Find Ca a0a a0b a0c a0cr a0d a0dr a0e a0f a0fr a0g a1 S0 Q := by kernel_rfl
theorem tree_Find_ok {w0 : World} {a0a : Int} {a0b : Bool} {a0c : List (List AV)} {a0cr : Rt} {a0d : List (List AV)} {a0dr : Rt} {a0e : Int} {a0f : List (List AV)} {a0fr : Rt} {a0g : List UInt8} {a1 : List UInt8} {S0 : St} {Q : AV → St → Prop} (h : G_tree_Find (ACalls (En w0)) a0a a0b a0c a0cr a0d a0dr a0e a0f a0fr a0g a1 S0 Q) : AC w0 F_tree_Find [(.agg [(.int .i64 a0a), (.bool a0b), (.vs 1 a0c a0cr), (.vs 7 a0d a0dr), (.int .i64 a0e), (.vs 2 a0f a0fr), (.str a0g)]), (.str a1)] S0 Q := fn_ok w0 Tryd.func45 (by kernel_rfl) (by rw [tree_Find_eq]; exact h)
def G_ref04_Find (Ca : Nat → List AV → St → (AV → St → Prop) → Prop) (a0a : Int) (a0b : Bool) (a0c : List (List AV)) (a0cr : Rt) (a0d : List (List AV)) (a0dr : Rt) (a0e : Int) (a0f : List (List AV)) (a0fr : Rt) (a0g : List UInt8) (a1 : List UInt8) (S0 : St) (Q : AV → St → Prop) : Prop :=
 optK (boxA T_api_Node (.agg [(.int .i64 a0a), (.bool a0b), (.vs 1 a0c a0cr), (.vs 7 a0d a0dr), (.int .i64 a0e), (.vs 2 a0f a0fr), (.str a0g)])) fun c2 =>
 joinK (fun (S_2 : St) =>
 Q (.int .i64 (-1)) S_2) fun j =>
 loopQ ([(.int .i64 0)], [(some c2)]) (fun v bx => ([v 5], [bx 2])) (fun nx v bx S =>
 optK (bx 2) fun _ =>
 optK (lloadA T_s_string (bx 2) 2) fun t8 =>
 optK (lenSlA (AV.strip t8)) fun t9 =>
 optK (binA .lss (AV.strip (v 5)) t9) fun t10 =>
 ifK t10
 (optK (bx 2) fun _ =>
 optK (lloadA T_s_string (bx 2) 2) fun t14 =>
 optK (idxSlA T_string (AV.strip t14) (AV.strip (v 5))) fun t16 =>
 optK (loadA T_string S t16) fun t17 =>
 optK (binA .eql (AV.strip t17) (.str a1)) fun t19 =>
 ifK t19
 (Q (AV.strip (v 5)) S)
 (optK (binA .add (AV.strip (v 5)) (.int .i64 1)) fun t12 =>
 nx ([t12], [(bx 2)]) S))
 (j S)) S0
theorem ref04_Find_eq (Ca) (a0a : Int) (a0b : Bool) (a0c : List (List AV)) (a0cr : Rt) (a0d : List (List AV)) (a0dr : Rt) (a0e : Int) (a0f : List (List AV)) (a0fr : Rt) (a0g : List UInt8) (a1 : List UInt8) (S0 Q) : WF C Ca 46 (Drw C Ca 46) Tryd.f46 [(.agg [(.int .i64 a0a), (.bool a0b), (.vs 1 a0c a0cr), (.vs 7 a0d a0dr), (.int .i64 a0e), (.vs 2 a0f a0fr), (.str a0g)]), (.str a1)] S0 Q = G_ref04_Find Ca a0a a0b a0c a0cr a0d a0dr a0e a0f a0fr a0g a1 S0 Q := by kernel_rfl
theorem ref04_Find_ok {w0 : World} {a0a : Int} {a0b : Bool} {a0c : List (List AV)} {a0cr : Rt} {a0d : List (List AV)} {a0dr : Rt} {a0e : Int} {a0f : List (List AV)} {a0fr : Rt} {a0g : List UInt8} {a1 : List UInt8} {S0 : St} {Q : AV → St → Prop} (h : G_ref04_Find (ACalls (En w0)) a0a a0b a0c a0cr a0d a0dr a0e a0f a0fr a0g a1 S0 Q) : AC w0 F_ref04_Find [(.agg [(.int .i64 a0a), (.bool a0b), (.vs 1 a0c a0cr), (.vs 7 a0d a0dr), (.int .i64 a0e), (.vs 2 a0f a0fr), (.str a0g)]), (.str a1)] S0 Q := fn_ok w0 Tryd.func46 (by kernel_rfl) (by rw [ref04_Find_eq]; exact h)
def G_tree_Text (Ca : Nat → List AV → St → (AV → St → Prop) → Prop) (a0 : List UInt8) (S0 : St) (Q : AV → St → Prop) : Prop :=
 Ca F_extent_Of [(.str a0)] S0 fun t6 S =>
 optK (buildA T_api_Node 1 [(0, (.int .i64 1)), (4, (.int .i64 (List.length a0 : Int))), (5, t6)]) fun t7 =>
 optK (lstoreA T_api_Node (some [(.int .i64 0), (.bool false), (.vs 1 [] .nil), (.vs 7 [] .nil), (.int .i64 0), (.vs 2 [] .nil), (.str [])]) 0 t7) fun b2 =>
 optK ((lloadA T_api_Node (some b2) 0).map AV.strip) fun r2 =>
 Q r2 S
theorem tree_Text_eq (Ca) (a0 : List UInt8) (S0 Q) : WF C Ca 47 (Drw C Ca 47) Tryd.f47 [(.str a0)] S0 Q = G_tree_Text Ca a0 S0 Q := by kernel_rfl
theorem tree_Text_ok {w0 : World} {a0 : List UInt8} {S0 : St} {Q : AV → St → Prop} (h : G_tree_Text (ACalls (En w0)) a0 S0 Q) : AC w0 F_tree_Text [(.str a0)] S0 Q := fn_ok w0 Tryd.func47 (by kernel_rfl) (by rw [tree_Text_eq]; exact h)
def G_ref03_Read (Ca : Nat → List AV → St → (AV → St → Prop) → Prop) (a0 : Int) (a1 : List (List AV)) (a1r : Rt) (a2 : Int) (a3 : Int) (S0 : St) (Q : AV → St → Prop) : Prop :=
 ifK (.bool (decide (a2 < 0)))
 (Q (.str []) S0)
 (joinK (fun (x9 : AV) (S_3 : St) =>
 optK (convBytesA S_3 (AV.strip x9)) fun t35 =>
 Q t35 S_3) fun j_2 =>
 loopQ ([(.vs 1 [] .full), (.int .i64 0)], []) (fun v bx => ([v 9, v 10], [])) (fun nx v bx S =>
 optK (binA .lss (AV.strip (v 10)) (.int .i64 a3)) fun t16 =>
 joinK (fun (x22 : AV) =>
 optK (pickA (AV.strip t16) x22 (.bool false)) fun t23 =>
 ifK (AV.strip t23)
 (optK (binA .add (.int .i64 a2) (AV.strip (v 10))) fun t30 =>
 callK Ca F_ref03_At [(.vs 2 a1 (Rt.strip a1r)), t30] S fun t31 S_2 =>
 optK (elemVals 1 [t31]) fun e32 =>
 optK (appendA T_uint8 S_2 (v 9) (.vs 1 e32 .full)) fun t33 =>
 optK (binA .add (AV.strip (v 10)) (.int .i64 1)) fun t25 =>
 nx ([t33, t25], []) S_2)
 (j_2 (v 9) S)) fun j =>
 ifK (AV.strip t16)
 (optK (binA .lss (AV.strip (v 10)) (.int .i64 (IntKind.i64.wrap (a0 - a2)))) fun t22 =>
 j t22)
 (j (.tup []))) S0)
theorem ref03_Read_eq (Ca) (a0 : Int) (a1 : List (List AV)) (a1r : Rt) (a2 : Int) (a3 : Int) (S0 Q) : WF C Ca 48 (Drw C Ca 48) Tryd.f48 [(.int .i64 a0), (.vs 2 a1 a1r), (.int .i64 a2), (.int .i64 a3)] S0 Q = G_ref03_Read Ca a0 a1 a1r a2 a3 S0 Q := by kernel_rfl
theorem ref03_Read_ok {w0 : World} {a0 : Int} {a1 : List (List AV)} {a1r : Rt} {a2 : Int} {a3 : Int} {S0 : St} {Q : AV → St → Prop} (h : G_ref03_Read (ACalls (En w0)) a0 a1 a1r a2 a3 S0 Q) : AC w0 F_ref03_Read [(.int .i64 a0), (.vs 2 a1 a1r), (.int .i64 a2), (.int .i64 a3)] S0 Q := fn_ok w0 Tryd.func48 (by kernel_rfl) (by rw [ref03_Read_eq]; exact h)
def G_tree_Link (Ca : Nat → List AV → St → (AV → St → Prop) → Prop) (a0 : List UInt8) (S0 : St) (Q : AV → St → Prop) : Prop :=
 Q (.agg [(.int .i64 3), (.bool false), (.vs 1 [] .nil), (.vs 7 [] .nil), (.int .i64 0), (.vs 2 [] .nil), (.str a0)]) S0
theorem tree_Link_eq (Ca) (a0 : List UInt8) (S0 Q) : WF C Ca 49 (Drw C Ca 49) Tryd.f49 [(.str a0)] S0 Q = G_tree_Link Ca a0 S0 Q := by kernel_rfl
theorem tree_Link_ok {w0 : World} {a0 : List UInt8} {S0 : St} {Q : AV → St → Prop} (h : G_tree_Link (ACalls (En w0)) a0 S0 Q) : AC w0 F_tree_Link [(.str a0)] S0 Q := fn_ok w0 Tryd.func49 (by kernel_rfl) (by rw [tree_Link_eq]; exact h)
def G_tree_White (Ca : Nat → List AV → St → (AV → St → Prop) → Prop) (S0 : St) (Q : AV → St → Prop) : Prop :=
 Q (.agg [(.int .i64 4), (.bool false), (.vs 1 [] .nil), (.vs 7 [] .nil), (.int .i64 0), (.vs 2 [] .nil), (.str [])]) S0
theorem tree_White_eq (Ca) (S0 Q) : WF C Ca 50 (Drw C Ca 50) Tryd.f50 [] S0 Q = G_tree_White Ca  S0 Q := by kernel_rfl
theorem tree_White_ok {w0 : World} {S0 : St} {Q : AV → St → Prop} (h : G_tree_White (ACalls (En w0))  S0 Q) : AC w0 F_tree_White [] S0 Q := fn_ok w0 Tryd.func50 (by kernel_rfl) (by rw [tree_White_eq]; exact h)
def G_tree_Opaque (Ca : Nat → List AV → St → (AV → St → Prop) → Prop) (a0a : Int) (a0b : Bool) (a0c : List (List AV)) (a0cr : Rt) (a0d : List (List AV)) (a0dr : Rt) (a0e : Int) (a0f : List (List AV)) (a0fr : Rt) (a0g : List UInt8) (S0 : St) (Q : AV → St → Prop) : Prop :=
 optK (boxA T_api_Node (.agg [(.int .i64 a0a), (.bool a0b), (.vs 1 a0c a0cr), (.vs 7 a0d a0dr), (.int .i64 a0e), (.vs 2 a0f a0fr), (.str a0g)])) fun c1 =>
 optK (some c1) fun _ =>
 optK (lstoreA T_bool (some c1) 1 (.bool true)) fun b1 =>
 optK (lloadA T_api_Node (some b1) 0) fun t4 =>
 optK (lstoreA T_api_Node (some [(.int .i64 0), (.bool false), (.vs 1 [] .nil), (.vs 7 [] .nil), (.int .i64 0), (.vs 2 [] .nil), (.str [])]) 0 (AV.strip t4)) fun b2 =>
 optK ((lloadA T_api_Node (some b2) 0).map AV.strip) fun r2 =>
 Q r2 S0
theorem tree_Opaque_eq (Ca) (a0a : Int) (a0b : Bool) (a0c : List (List AV)) (a0cr : Rt) (a0d : List (List AV)) (a0dr : Rt) (a0e : Int) (a0f : List (List AV)) (a0fr : Rt) (a0g : List UInt8) (S0 Q) : WF C Ca 51 (Drw C Ca 51) Tryd.f51 [(.agg [(.int .i64 a0a), (.bool a0b), (.vs 1 a0c a0cr), (.vs 7 a0d a0dr), (.int .i64 a0e), (.vs 2 a0f a0fr), (.str a0g)])] S0 Q = G_tree_Opaque Ca a0a a0b a0c a0cr a0d a0dr a0e a0f a0fr a0g S0 Q := by kernel_rfl
theorem tree_Opaque_ok {w0 : World} {a0a : Int} {a0b : Bool} {a0c : List (List AV)} {a0cr : Rt} {a0d : List (List AV)} {a0dr : Rt} {a0e : Int} {a0f : List (List AV)} {a0fr : Rt} {a0g : List UInt8} {S0 : St} {Q : AV → St → Prop} (h : G_tree_Opaque (ACalls (En w0)) a0a a0b a0c a0cr a0d a0dr a0e a0f a0fr a0g S0 Q) : AC w0 F_tree_Opaque [(.agg [(.int .i64 a0a), (.bool a0b), (.vs 1 a0c a0cr), (.vs 7 a0d a0dr), (.int .i64 a0e), (.vs 2 a0f a0fr), (.str a0g)])] S0 Q := fn_ok w0 Tryd.func51 (by kernel_rfl) (by rw [tree_Opaque_eq]; exact h)
def G_image_Encode (Ca : Nat → List AV → St → (AV → St → Prop) → Prop) (a0a : Int) (a0b : Bool) (a0c : List (List AV)) (a0cr : Rt) (a0d : List (List AV)) (a0dr : Rt) (a0e : Int) (a0f : List (List AV)) (a0fr : Rt) (a0g : List UInt8) (S0 : St) (Q : AV → St → Prop) : Prop :=
 optK (boxA T_api_Node (.agg [(.int .i64 a0a), (.bool a0b), (.vs 1 a0c a0cr), (.vs 7 a0d a0dr), (.int .i64 a0e), (.vs 2 a0f a0fr), (.str a0g)])) fun c1 =>
 optK (lloadA T_api_Node (some c1) 0) fun t6 =>
 callK Ca F_tree_Right [(AV.strip t6)] S0 fun t7 S =>
 optK (unA .not t7) fun t8 =>
 ifK t8
 (Q (.tup [(.str []), (.int .i64 1)]) S)
 (optK (lloadA T_api_Node (some c1) 0) fun t9 =>
 callK Ca F_image_put [(.ptr S.length 0), (AV.strip t9)] (S ++ [.cells T_wire_Writer.zero t_wire_Writer]) fun t10 S_2 =>
 Ca F_wire_Writer_Bytes [(.ptr S.length 0)] S_2 fun t11 S_3 =>
 optK (binA .add (.str [115, 111, 99, 97, 103, 101, 49]) t11) fun t12 =>
 optK (lenStrA (AV.strip t12)) fun t14 =>
 optK (binA .gtr t14 (.int .i64 4194304)) fun t15 =>
 ifK t15
 (Q (.tup [(.str []), (.int .i64 1)]) S_3)
 (Q (.tup [(AV.flat (AV.strip t12)), (.int .i64 0)]) S_3))
theorem image_Encode_eq (Ca) (a0a : Int) (a0b : Bool) (a0c : List (List AV)) (a0cr : Rt) (a0d : List (List AV)) (a0dr : Rt) (a0e : Int) (a0f : List (List AV)) (a0fr : Rt) (a0g : List UInt8) (S0 Q) : WF C Ca 53 (Drw C Ca 53) Tryd.f53 [(.agg [(.int .i64 a0a), (.bool a0b), (.vs 1 a0c a0cr), (.vs 7 a0d a0dr), (.int .i64 a0e), (.vs 2 a0f a0fr), (.str a0g)])] S0 Q = G_image_Encode Ca a0a a0b a0c a0cr a0d a0dr a0e a0f a0fr a0g S0 Q := by kernel_rfl
theorem image_Encode_ok {w0 : World} {a0a : Int} {a0b : Bool} {a0c : List (List AV)} {a0cr : Rt} {a0d : List (List AV)} {a0dr : Rt} {a0e : Int} {a0f : List (List AV)} {a0fr : Rt} {a0g : List UInt8} {S0 : St} {Q : AV → St → Prop} (h : G_image_Encode (ACalls (En w0)) a0a a0b a0c a0cr a0d a0dr a0e a0f a0fr a0g S0 Q) : AC w0 F_image_Encode [(.agg [(.int .i64 a0a), (.bool a0b), (.vs 1 a0c a0cr), (.vs 7 a0d a0dr), (.int .i64 a0e), (.vs 2 a0f a0fr), (.str a0g)])] S0 Q := fn_ok w0 Tryd.func53 (by kernel_rfl) (by rw [image_Encode_eq]; exact h)
def G_ref05_Encode (Ca : Nat → List AV → St → (AV → St → Prop) → Prop) (a0a : Int) (a0b : Bool) (a0c : List (List AV)) (a0cr : Rt) (a0d : List (List AV)) (a0dr : Rt) (a0e : Int) (a0f : List (List AV)) (a0fr : Rt) (a0g : List UInt8) (S0 : St) (Q : AV → St → Prop) : Prop :=
 optK (boxA T_api_Node (.agg [(.int .i64 a0a), (.bool a0b), (.vs 1 a0c a0cr), (.vs 7 a0d a0dr), (.int .i64 a0e), (.vs 2 a0f a0fr), (.str a0g)])) fun c1 =>
 optK (lloadA T_api_Node (some c1) 0) fun t5 =>
 callK Ca F_ref04_Right [(AV.strip t5)] S0 fun t6 S =>
 optK (unA .not t6) fun t7 =>
 ifK t7
 (Q (.tup [(.str []), (.bool false)]) S)
 (optK (lloadA T_api_Node (some c1) 0) fun t8 =>
 callK Ca F_ref05_Put [(AV.strip t8)] S fun t9 S_2 =>
 optK (binA .add (.str [115, 111, 99, 97, 103, 101, 49]) t9) fun t10 =>
 optK (lenStrA (AV.strip t10)) fun t12 =>
 optK (binA .gtr t12 (.int .i64 4194304)) fun t13 =>
 ifK t13
 (Q (.tup [(.str []), (.bool false)]) S_2)
 (Q (.tup [(AV.flat (AV.strip t10)), (.bool true)]) S_2))
theorem ref05_Encode_eq (Ca) (a0a : Int) (a0b : Bool) (a0c : List (List AV)) (a0cr : Rt) (a0d : List (List AV)) (a0dr : Rt) (a0e : Int) (a0f : List (List AV)) (a0fr : Rt) (a0g : List UInt8) (S0 Q) : WF C Ca 54 (Drw C Ca 54) Tryd.f54 [(.agg [(.int .i64 a0a), (.bool a0b), (.vs 1 a0c a0cr), (.vs 7 a0d a0dr), (.int .i64 a0e), (.vs 2 a0f a0fr), (.str a0g)])] S0 Q = G_ref05_Encode Ca a0a a0b a0c a0cr a0d a0dr a0e a0f a0fr a0g S0 Q := by kernel_rfl
theorem ref05_Encode_ok {w0 : World} {a0a : Int} {a0b : Bool} {a0c : List (List AV)} {a0cr : Rt} {a0d : List (List AV)} {a0dr : Rt} {a0e : Int} {a0f : List (List AV)} {a0fr : Rt} {a0g : List UInt8} {S0 : St} {Q : AV → St → Prop} (h : G_ref05_Encode (ACalls (En w0)) a0a a0b a0c a0cr a0d a0dr a0e a0f a0fr a0g S0 Q) : AC w0 F_ref05_Encode [(.agg [(.int .i64 a0a), (.bool a0b), (.vs 1 a0c a0cr), (.vs 7 a0d a0dr), (.int .i64 a0e), (.vs 2 a0f a0fr), (.str a0g)])] S0 Q := fn_ok w0 Tryd.func54 (by kernel_rfl) (by rw [ref05_Encode_eq]; exact h)
def G_image_Decode (Ca : Nat → List AV → St → (AV → St → Prop) → Prop) (a0 : List UInt8) (S0 : St) (Q : AV → St → Prop) : Prop :=
 joinK (fun (x12 : AV) =>
 optK (pickA (.bool (decide ((List.length a0 : Int) > 4194304))) (.bool true) x12) fun t13 =>
 joinK (fun (x17 : AV) =>
 optK (pickA (AV.strip (AV.strip t13)) (.bool true) x17) fun t18 =>
 ifK (AV.strip t18)
 (Q (.tup [(.agg [(.int .i64 0), (.bool false), (.vs 1 [] .nil), (.vs 7 [] .nil), (.int .i64 0), (.vs 2 [] .nil), (.str [])]), (.int .i64 1)]) S0)
 (optK (cutStrA (.str a0) (some (.int .i64 7)) none) fun t21 =>
 callK Ca F_wire_Read [t21] S0 fun t22 S =>
 optK (buildA T_image_reader 1 [(0, t22), (2, (.int .i64 4096))]) fun t23 =>
 optK (boxA T_image_reader t23) fun c24 =>
 Ca F_image_reader_node [(.ptr S.length 0), (.int .i64 0)] (S ++ [.cells c24 t_image_reader]) fun t26 S_2 =>
 optK (lstoreA T_api_Node (some [(.int .i64 0), (.bool false), (.vs 1 [] .nil), (.vs 7 [] .nil), (.int .i64 0), (.vs 2 [] .nil), (.str [])]) 0 t26) fun b5 =>
 optK (loadA T_bool S_2 (.ptr S.length 1)) fun t30 =>
 joinK (fun (x37 : AV) (S_4 : St) =>
 optK (pickA (AV.strip (AV.strip t30)) (.bool true) x37) fun t38 =>
 joinK (fun (x42 : AV) (S_6 : St) =>
 optK (pickA (AV.strip (AV.strip t38)) (.bool true) x42) fun t43 =>
 ifK (AV.strip t43)
 (Q (.tup [(.agg [(.int .i64 0), (.bool false), (.vs 1 [] .nil), (.vs 7 [] .nil), (.int .i64 0), (.vs 2 [] .nil), (.str [])]), (.int .i64 1)]) S_6)
 (optK (lloadA T_api_Node (some b5) 0) fun t45 =>
 optK (lstoreA T_api_Node (some [(.int .i64 0), (.bool false), (.vs 1 [] .nil), (.vs 7 [] .nil), (.int .i64 0), (.vs 2 [] .nil), (.str [])]) 0 (AV.strip t45)) fun b2 =>
 optK ((lloadA T_api_Node (some b2) 0).map AV.strip) fun r2 =>
 Q (.tup [(AV.flat r2), (.int .i64 0)]) S_6)) fun j_3 =>
 ifK (AV.strip (AV.strip t38))
 (j_3 (.tup []) S_4)
 (optK (lloadA T_api_Node (some b5) 0) fun t40 =>
 callK Ca F_tree_Right [(AV.strip t40)] S_4 fun t41 S_5 =>
 optK (unA .not t41) fun t42 =>
 j_3 t42 S_5)) fun j_4 =>
 ifK (AV.strip (AV.strip t30))
 (j_4 (.tup []) S_2)
 (optK (loadA T_p_wire_Reader S_2 (.ptr S.length 0)) fun t35 =>
 callK Ca F_wire_Reader_Left [(AV.strip t35)] S_2 fun t36 S_3 =>
 optK (binA .gtr t36 (.int .i64 0)) fun t37 =>
 j_4 t37 S_3))) fun j =>
 ifK (AV.strip (AV.strip t13))
 (j (.tup []))
 (optK (cutStrA (.str a0) none (some (.int .i64 7))) fun t16 =>
 optK (binA .neq t16 (.str [115, 111, 99, 97, 103, 101, 49])) fun t17 =>
 j t17)) fun j_2 =>
 ifK (.bool (decide ((List.length a0 : Int) > 4194304)))
 (j_2 (.tup []))
 (j_2 (.bool (decide ((List.length a0 : Int) < 7))))
theorem image_Decode_eq (Ca) (a0 : List UInt8) (S0 Q) : WF C Ca 55 (Drw C Ca 55) Tryd.f55 [(.str a0)] S0 Q = G_image_Decode Ca a0 S0 Q := by kernel_rfl
theorem image_Decode_ok {w0 : World} {a0 : List UInt8} {S0 : St} {Q : AV → St → Prop} (h : G_image_Decode (ACalls (En w0)) a0 S0 Q) : AC w0 F_image_Decode [(.str a0)] S0 Q := fn_ok w0 Tryd.func55 (by kernel_rfl) (by rw [image_Decode_eq]; exact h)
def G_seen_Look (Ca : Nat → List AV → St → (AV → St → Prop) → Prop) (a0a : List (List AV)) (a0ar : Rt) (a0b : Int) (a1 : List (List AV)) (a1r : Rt) (a2 : List UInt8) (S0 : St) (Q : AV → St → Prop) : Prop :=
 optK (boxA T_stack_Stack (.agg [(.vs 2 a0a a0ar), (.int .i64 a0b)])) fun c3 =>
 joinK (fun (y8_3 : Option (List AV)) (S_7 : St) =>
 optK (lloadA T_seen_Found y8_3 0) fun t77 =>
 optK y8_3 fun _ =>
 optK (lloadA T_int y8_3 0) fun t79 =>
 optK (binA .neq (AV.strip t79) (.int .i64 0)) fun t80 =>
 optK (lstoreA T_seen_Found (some [(.int .i64 0), (.int .i64 0), (.int .i64 0), (.vs 2 [] .nil)]) 0 (AV.strip t77)) fun b6 =>
 optK ((lloadA T_seen_Found (some b6) 0).map AV.strip) fun r6 =>
 Q (.tup [(AV.flat r6), (AV.flat t80)]) S_7) fun j_4 =>
 loopQ ([(.int .i64 0)], [(some c3), (some [(.int .i64 0), (.int .i64 0), (.int .i64 0), (.vs 2 [] .nil)])]) (fun v bx => ([v 17], [bx 3, bx 8])) (fun nx v bx S =>
 optK (binA .lss (v 17) (.int .i64 (List.length a1 : Int))) fun t18 =>
 ifK t18
 (joinK (fun (y8_2 : Option (List AV)) (S_6 : St) =>
 optK (binA .add (v 17) (.int .i64 1)) fun t76 =>
 nx ([(AV.strip t76)], [(bx 3), y8_2]) S_6) fun j_3 =>
 optK (idxSlA T_seen_Spot (.vs 2 a1 (Rt.strip a1r)) (v 17)) fun t19 =>
 optK (loadA T_seen_Spot S t19) fun t20 =>
 optK (lstoreA T_seen_Spot (some [(.int .i64 0), (.int .i64 0)]) 0 (AV.strip t20)) fun b10 =>
 optK (lloadA T_stack_Stack (bx 3) 0) fun t21 =>
 optK (some b10) fun _ =>
 optK (lloadA T_int (some b10) 0) fun t23 =>
 callK Ca F_stack_Stack_At [(AV.strip t21), (AV.strip t23)] S fun t24 S_2 =>
 optK (binE .ptr .eql (AV.strip t24) .nil) fun t26 =>
 ifK t26
 (j_3 (bx 8) S_2)
 (optK (some b10) fun _ =>
 optK (lloadA T_int (some b10) 1) fun t30 =>
 callK Ca F_branch_Branch_Look [(AV.strip t24), (AV.strip t30), (.str a2)] S_2 fun t32 S_3 =>
 optK (extractA t32 0) fun t33 =>
 optK (extractA (stripTup t32 0) 1) fun t34 =>
 optK (unA .not (AV.strip t34)) fun t36 =>
 ifK t36
 (j_3 (bx 8) S_3)
 (callK Ca F_branch_Branch_Kind [(AV.strip t24), (AV.strip t33)] S_3 fun t39 S_4 =>
 optK (binA .neq (AV.strip t39) (.int .i64 2)) fun t41 =>
 ifK t41
 (optK (bx 8) fun _ =>
 optK (lloadA T_int (bx 8) 0) fun t43 =>
 optK (binA .eql (AV.strip t43) (.int .i64 0)) fun t44 =>
 joinK (fun (x47 : AV) =>
 optK (pickA (AV.strip t44) x47 (.bool false)) fun t48 =>
 ifK (AV.strip t48)
 (optK (some b10) fun _ =>
 optK (lloadA T_int (some b10) 0) fun t51 =>
 optK (buildA T_seen_Spot 1 [(0, (AV.strip t51)), (1, (AV.strip t33))]) fun t53 =>
 optK (buildA T_seen_Found 1 [(0, (AV.strip t39)), (1, t53)]) fun t54 =>
 optK (lstoreA T_seen_Found (bx 8) 0 t54) fun b8 =>
 j_4 (some b8) S_4)
 (j_4 (bx 8) S_4)) fun j =>
 ifK (AV.strip t44)
 (optK (binA .neq (AV.strip t39) (.int .i64 4)) fun t47 =>
 j t47)
 (j (.tup [])))
 (joinK (fun (y8 : Option (List AV)) =>
 optK y8 fun _ =>
 optK (lloadA T_seen_Place y8 3) fun t65 =>
 optK (some b10) fun _ =>
 optK (lloadA T_int (some b10) 0) fun t67 =>
 optK (buildA T_seen_Spot 1 [(0, (AV.strip t67)), (1, (AV.strip t33))]) fun t69 =>
 optK (elemVals 2 [t69]) fun e70 =>
 optK (appendA T_seen_Spot S_4 (AV.strip0 t65) (.vs 2 e70 .full)) fun t71 =>
 optK (stripBox y8 3) fun _ =>
 optK (lstoreA T_seen_Place (stripBox y8 3) 3 t71) fun b8_3 =>
 callK Ca F_branch_Branch_Opaque [(AV.strip t24), (AV.strip t33)] S_4 fun t75 S_5 =>
 ifK t75
 (j_4 (some b8_3) S_5)
 (j_3 (some b8_3) S_5)) fun j_2 =>
 optK (bx 8) fun _ =>
 optK (lloadA T_int (bx 8) 0) fun t56 =>
 optK (binA .eql (AV.strip t56) (.int .i64 0)) fun t57 =>
 ifK t57
 (optK (some b10) fun _ =>
 optK (lloadA T_int (some b10) 0) fun t60 =>
 optK (buildA T_seen_Spot 1 [(0, (AV.strip t60)), (1, (AV.strip t33))]) fun t62 =>
 optK (buildA T_seen_Found 1 [(0, (AV.strip t39)), (1, t62)]) fun t63 =>
 optK (lstoreA T_seen_Found (bx 8) 0 t63) fun b8_2 =>
 j_2 (some b8_2))
 (j_2 (bx 8))))))
 (j_4 (bx 8) S)) S0
theorem seen_Look_eq (Ca) (a0a : List (List AV)) (a0ar : Rt) (a0b : Int) (a1 : List (List AV)) (a1r : Rt) (a2 : List UInt8) (S0 Q) : WF C Ca 60 (Drw C Ca 60) Tryd.f60 [(.agg [(.vs 2 a0a a0ar), (.int .i64 a0b)]), (.vs 2 a1 a1r), (.str a2)] S0 Q = G_seen_Look Ca a0a a0ar a0b a1 a1r a2 S0 Q := by kernel_rfl
theorem seen_Look_ok {w0 : World} {a0a : List (List AV)} {a0ar : Rt} {a0b : Int} {a1 : List (List AV)} {a1r : Rt} {a2 : List UInt8} {S0 : St} {Q : AV → St → Prop} (h : G_seen_Look (ACalls (En w0)) a0a a0ar a0b a1 a1r a2 S0 Q) : AC w0 F_seen_Look [(.agg [(.vs 2 a0a a0ar), (.int .i64 a0b)]), (.vs 2 a1 a1r), (.str a2)] S0 Q := fn_ok w0 Tryd.func60 (by kernel_rfl) (by rw [seen_Look_eq]; exact h)
def G_seen_Root (Ca : Nat → List AV → St → (AV → St → Prop) → Prop) (a0a : List (List AV)) (a0ar : Rt) (a0b : Int) (S0 : St) (Q : AV → St → Prop) : Prop :=
 optK (boxA T_stack_Stack (.agg [(.vs 2 a0a a0ar), (.int .i64 a0b)])) fun c1 =>
 joinK (fun (x3 : AV) (S_5 : St) =>
 Q (AV.strip x3) S_5) fun j =>
 optK (lloadA T_stack_Stack (some c1) 0) fun t5 =>
 callK Ca F_stack_Stack_Len [(AV.strip t5)] S0 fun t6 S =>
 loopQ ([(.vs 2 [] .nil), (.int .i64 0)], [(some c1)]) (fun v bx => ([v 3, v 7], [bx 1])) (fun nx v bx S_2 =>
 optK (binA .lss (v 7) t6) fun t8 =>
 ifK t8
 (optK (buildA T_seen_Spot 1 [(0, (AV.strip (AV.strip (v 7)))), (1, (.int .i64 0))]) fun t12 =>
 optK (elemVals 2 [t12]) fun e13 =>
 optK (appendA T_seen_Spot S_2 (v 3) (.vs 2 e13 .full)) fun t14 =>
 optK (lloadA T_stack_Stack (bx 1) 0) fun t15 =>
 callK Ca F_stack_Stack_At [(AV.strip t15), (AV.strip (AV.strip (v 7)))] S_2 fun t17 S_3 =>
 callK Ca F_branch_Branch_Opaque [t17, (.int .i64 0)] S_3 fun t18 S_4 =>
 ifK t18
 (j t14 S_4)
 (optK (binA .add (v 7) (.int .i64 1)) fun t19 =>
 nx ([t14, (AV.strip t19)], [(bx 1)]) S_4))
 (j (v 3) S_2)) S
theorem seen_Root_eq (Ca) (a0a : List (List AV)) (a0ar : Rt) (a0b : Int) (S0 Q) : WF C Ca 61 (Drw C Ca 61) Tryd.f61 [(.agg [(.vs 2 a0a a0ar), (.int .i64 a0b)])] S0 Q = G_seen_Root Ca a0a a0ar a0b S0 Q := by kernel_rfl
theorem seen_Root_ok {w0 : World} {a0a : List (List AV)} {a0ar : Rt} {a0b : Int} {S0 : St} {Q : AV → St → Prop} (h : G_seen_Root (ACalls (En w0)) a0a a0ar a0b S0 Q) : AC w0 F_seen_Root [(.agg [(.vs 2 a0a a0ar), (.int .i64 a0b)])] S0 Q := fn_ok w0 Tryd.func61 (by kernel_rfl) (by rw [seen_Root_eq]; exact h)
def G_slices_IndexFunc_s_stack_mount_stack_mount (Ca : Nat → List AV → St → (AV → St → Prop) → Prop) (a0 : List (List AV)) (a0r : Rt) (a1 : AV) (S0 : St) (Q : AV → St → Prop) : Prop :=
 joinK (fun (S_3 : St) =>
 Q (.int .i64 (-1)) S_3) fun j =>
 loopQ ([(.int .i64 0)], []) (fun v bx => ([v 8], [])) (fun nx v bx S =>
 optK (binA .lss (v 8) (.int .i64 (List.length a0 : Int))) fun t9 =>
 ifK t9
 (optK (idxSlA T_stack_mount (.vs 2 a0 (Rt.strip a0r)) (AV.strip (AV.strip (v 8)))) fun t14 =>
 optK (loadA T_stack_mount S t14) fun t15 =>
 optK (calleeA (AV.strip a1) [(AV.strip t15)]) fun a =>
 Ca a.1 a.2 S fun t16 S_2 =>
 ifK t16
 (Q (AV.strip (AV.strip (v 8))) S_2)
 (optK (binA .add (v 8) (.int .i64 1)) fun t18 =>
 nx ([(AV.strip t18)], []) S_2))
 (j S)) S0
theorem slices_IndexFunc_s_stack_mount_stack_mount_eq (Ca) (a0 : List (List AV)) (a0r : Rt) (a1 : AV) (S0 Q) : WF C Ca 66 (Drw C Ca 66) Tryd.f66 [(.vs 2 a0 a0r), a1] S0 Q = G_slices_IndexFunc_s_stack_mount_stack_mount Ca a0 a0r a1 S0 Q := by kernel_rfl
theorem slices_IndexFunc_s_stack_mount_stack_mount_ok {w0 : World} {a0 : List (List AV)} {a0r : Rt} {a1 : AV} {S0 : St} {Q : AV → St → Prop} (h : G_slices_IndexFunc_s_stack_mount_stack_mount (ACalls (En w0)) a0 a0r a1 S0 Q) : AC w0 F_slices_IndexFunc_s_stack_mount_stack_mount [(.vs 2 a0 a0r), a1] S0 Q := fn_ok w0 Tryd.func66 (by kernel_rfl) (by rw [slices_IndexFunc_s_stack_mount_stack_mount_eq]; exact h)
def G_stack_Stack_Remove_1 (Ca : Nat → List AV → St → (AV → St → Prop) → Prop) (a0a : Int) (a0b : AV) (a1 : AV) (S0 : St) (Q : AV → St → Prop) : Prop :=
 optK (boxA T_stack_mount (.agg [(.int .i64 a0a), a0b])) fun c2 =>
 optK (some c2) fun _ =>
 optK (lloadA T_int (some c2) 0) fun t5 =>
 optK (loadA T_int S0 a1) fun t6 =>
 optK (binA .eql (AV.strip t5) (AV.strip t6)) fun t7 =>
 Q t7 S0
theorem stack_Stack_Remove_1_eq (Ca) (a0a : Int) (a0b : AV) (a1 : AV) (S0 Q) : WF C Ca 67 (Drw C Ca 67) Tryd.f67 [(.agg [(.int .i64 a0a), a0b]), a1] S0 Q = G_stack_Stack_Remove_1 Ca a0a a0b a1 S0 Q := by kernel_rfl
theorem stack_Stack_Remove_1_ok {w0 : World} {a0a : Int} {a0b : AV} {a1 : AV} {S0 : St} {Q : AV → St → Prop} (h : G_stack_Stack_Remove_1 (ACalls (En w0)) a0a a0b a1 S0 Q) : AC w0 F_stack_Stack_Remove_1 [(.agg [(.int .i64 a0a), a0b]), a1] S0 Q := fn_ok w0 Tryd.func67 (by kernel_rfl) (by rw [stack_Stack_Remove_1_eq]; exact h)
def G_branch_Branch_add (Ca : Nat → List AV → St → (AV → St → Prop) → Prop) (a0 : Nat) (a0o : Nat) (a1a : Int) (a1b : Bool) (a1c : List (List AV)) (a1cr : Rt) (a1d : List (List AV)) (a1dr : Rt) (a1e : Int) (a1f : List (List AV)) (a1fr : Rt) (a1g : List UInt8) (S0 : St) (Q : AV → St → Prop) : Prop :=
 optK (boxA T_api_Node (.agg [(.int .i64 a1a), (.bool a1b), (.vs 1 a1c a1cr), (.vs 7 a1d a1dr), (.int .i64 a1e), (.vs 2 a1f a1fr), (.str a1g)])) fun c3 =>
 optK (loadA T_s_branch_inode S0 (.ptr a0 (a0o + 0))) fun t12 =>
 optK (lenSlA (AV.strip t12)) fun t13 =>
 optK (loadA T_s_branch_inode S0 (.ptr a0 (a0o + 0))) fun t18 =>
 optK (appendR T_branch_inode (stripMem S0 (.ptr a0 (a0o + 0))) (AV.strip0 t18) (.vs 8 [[(.int .i64 0), (.bool false), (.vs 1 [] .nil), (.vs 7 [] .nil), (.int .i64 0), (.vs 2 [] .nil), (.str []), (.vs 1 [] .nil)]] .full)) fun p21 =>
 optK (storeA T_s_branch_inode p21.2 (.ptr a0 (a0o + 0)) p21.1) fun S =>
 optK (lloadA T_api_Node (some c3) 0) fun t24 =>
 optK (buildA T_branch_inode 1 [(0, (AV.strip t24))]) fun t25 =>
 optK (lstoreA T_branch_inode (some [(.int .i64 0), (.bool false), (.vs 1 [] .nil), (.vs 7 [] .nil), (.int .i64 0), (.vs 2 [] .nil), (.str []), (.vs 1 [] .nil)]) 0 t25) fun b6 =>
 joinK (fun (y6 : Option (List AV)) (S_4 : St) =>
 optK (some c3) fun _ =>
 optK (lloadA T_s_string (some c3) 2) fun t43 =>
 optK (some c3) fun _ =>
 optK (lloadA T_s_api_Extent (some c3) 5) fun t46 =>
 optK y6 fun _ =>
 optK y6 fun _ =>
 callK Ca F_slices_Clone_s_string_string [(AV.strip t43)] S_4 fun t44 S_5 =>
 callK Ca F_slices_Clone_s_api_Extent_api_Extent [(AV.strip t46)] S_5 fun t47 S_6 =>
 optK (lstoreA T_s_api_Node y6 3 (.vs 7 [] .nil)) fun b6_3 =>
 optK (some b6_3) fun _ =>
 optK (some b6_3) fun _ =>
 optK (lstoreA T_s_string (some b6_3) 2 t44) fun b6_4 =>
 optK (some b6_4) fun _ =>
 optK (some b6_4) fun _ =>
 optK (lstoreA T_s_api_Extent (some b6_4) 5 t47) fun b6_5 =>
 optK (loadA T_s_branch_inode S_6 (.ptr a0 (a0o + 0))) fun t57 =>
 optK (lloadA T_branch_inode (some b6_5) 0) fun t59 =>
 optK (idxSlA T_branch_inode (AV.strip t57) (AV.strip t13)) fun t60 =>
 optK (storeA T_branch_inode S_6 t60 (AV.strip t59)) fun S_7 =>
 Q (AV.strip t13) S_7) fun j =>
 optK (some c3) fun _ =>
 optK (lloadA T_s_api_Node (some c3) 3) fun t27 =>
 optK (lenSlA (AV.strip t27)) fun t28 =>
 loopQ ([(.int .i64 0)], [(some b6)]) (fun v bx => ([v 29], [bx 6])) (fun nx v bx S_2 =>
 optK (binA .lss (v 29) t28) fun t30 =>
 ifK t30
 (optK (idxSlA T_api_Node (AV.strip t27) (v 29)) fun t31 =>
 optK (loadA T_api_Node S_2 t31) fun t32 =>
 optK (lstoreA T_api_Node (some [(.int .i64 0), (.bool false), (.vs 1 [] .nil), (.vs 7 [] .nil), (.int .i64 0), (.vs 2 [] .nil), (.str [])]) 0 (AV.strip t32)) fun b8 =>
 optK (bx 6) fun _ =>
 optK (lloadA T_api_Node (some b8) 0) fun t36 =>
 optK (lloadA T_s_int (bx 6) 7) fun t34 =>
 callK Ca F_branch_Branch_add [(.ptr a0 a0o), (AV.strip t36)] S_2 fun t37 S_3 =>
 optK (elemVals 1 [t37]) fun e38 =>
 optK (appendA T_int S_3 (AV.strip0 t34) (.vs 1 e38 .full)) fun t39 =>
 optK (stripBox (bx 6) 7) fun _ =>
 optK (lstoreA T_s_int (stripBox (bx 6) 7) 7 t39) fun b6_2 =>
 optK (binA .add (v 29) (.int .i64 1)) fun t41 =>
 nx ([(AV.strip t41)], [(some b6_2)]) S_3)
 (j (bx 6) S_2)) S
theorem branch_Branch_add_eq (Ca) (a0 : Nat) (a0o : Nat) (a1a : Int) (a1b : Bool) (a1c : List (List AV)) (a1cr : Rt) (a1d : List (List AV)) (a1dr : Rt) (a1e : Int) (a1f : List (List AV)) (a1fr : Rt) (a1g : List UInt8) (S0 Q) : WF C Ca 70 (Drw C Ca 70) Tryd.f70 [(.ptr a0 a0o), (.agg [(.int .i64 a1a), (.bool a1b), (.vs 1 a1c a1cr), (.vs 7 a1d a1dr), (.int .i64 a1e), (.vs 2 a1f a1fr), (.str a1g)])] S0 Q = G_branch_Branch_add Ca a0 a0o a1a a1b a1c a1cr a1d a1dr a1e a1f a1fr a1g S0 Q := by kernel_rfl
theorem branch_Branch_add_ok {w0 : World} {a0 : Nat} {a0o : Nat} {a1a : Int} {a1b : Bool} {a1c : List (List AV)} {a1cr : Rt} {a1d : List (List AV)} {a1dr : Rt} {a1e : Int} {a1f : List (List AV)} {a1fr : Rt} {a1g : List UInt8} {S0 : St} {Q : AV → St → Prop} (h : G_branch_Branch_add (ACalls (En w0)) a0 a0o a1a a1b a1c a1cr a1d a1dr a1e a1f a1fr a1g S0 Q) : AC w0 F_branch_Branch_add [(.ptr a0 a0o), (.agg [(.int .i64 a1a), (.bool a1b), (.vs 1 a1c a1cr), (.vs 7 a1d a1dr), (.int .i64 a1e), (.vs 2 a1f a1fr), (.str a1g)])] S0 Q := fn_ok w0 Tryd.func70 (by kernel_rfl) (by rw [branch_Branch_add_eq]; exact h)
def G_slices_Clone_s_string_string (Ca : Nat → List AV → St → (AV → St → Prop) → Prop) (a0 : List (List AV)) (a0r : Rt) (S0 : St) (Q : AV → St → Prop) : Prop :=
 optK (binE .slice .eql (.vs 1 a0 (Rt.strip a0r)) (.vs 1 [] .nil)) fun t4 =>
 ifK t4
 (Q (.vs 1 [] .nil) S0)
 (optK (appendA T_string S0 (.vs 1 [] .full) (.vs 1 a0 (Rt.strip a0r))) fun t7 =>
 Q t7 S0)
theorem slices_Clone_s_string_string_eq (Ca) (a0 : List (List AV)) (a0r : Rt) (S0 Q) : WF C Ca 71 (Drw C Ca 71) Tryd.f71 [(.vs 1 a0 a0r)] S0 Q = G_slices_Clone_s_string_string Ca a0 a0r S0 Q := by kernel_rfl
theorem slices_Clone_s_string_string_ok {w0 : World} {a0 : List (List AV)} {a0r : Rt} {S0 : St} {Q : AV → St → Prop} (h : G_slices_Clone_s_string_string (ACalls (En w0)) a0 a0r S0 Q) : AC w0 F_slices_Clone_s_string_string [(.vs 1 a0 a0r)] S0 Q := fn_ok w0 Tryd.func71 (by kernel_rfl) (by rw [slices_Clone_s_string_string_eq]; exact h)
def G_slices_Clone_s_api_Node_api_Node (Ca : Nat → List AV → St → (AV → St → Prop) → Prop) (a0 : List (List AV)) (a0r : Rt) (S0 : St) (Q : AV → St → Prop) : Prop :=
 optK (binE .slice .eql (.vs 7 a0 (Rt.strip a0r)) (.vs 7 [] .nil)) fun t4 =>
 ifK t4
 (Q (.vs 7 [] .nil) S0)
 (optK (appendA T_api_Node S0 (.vs 7 [] .full) (.vs 7 a0 (Rt.strip a0r))) fun t7 =>
 Q t7 S0)
theorem slices_Clone_s_api_Node_api_Node_eq (Ca) (a0 : List (List AV)) (a0r : Rt) (S0 Q) : WF C Ca 72 (Drw C Ca 72) Tryd.f72 [(.vs 7 a0 a0r)] S0 Q = G_slices_Clone_s_api_Node_api_Node Ca a0 a0r S0 Q := by kernel_rfl
theorem slices_Clone_s_api_Node_api_Node_ok {w0 : World} {a0 : List (List AV)} {a0r : Rt} {S0 : St} {Q : AV → St → Prop} (h : G_slices_Clone_s_api_Node_api_Node (ACalls (En w0)) a0 a0r S0 Q) : AC w0 F_slices_Clone_s_api_Node_api_Node [(.vs 7 a0 a0r)] S0 Q := fn_ok w0 Tryd.func72 (by kernel_rfl) (by rw [slices_Clone_s_api_Node_api_Node_eq]; exact h)
def G_law04_small (Ca : Nat → List AV → St → (AV → St → Prop) → Prop) (a0a : Int) (a0b : Bool) (a0c : List (List AV)) (a0cr : Rt) (a0d : List (List AV)) (a0dr : Rt) (a0e : Int) (a0f : List (List AV)) (a0fr : Rt) (a0g : List UInt8) (a1 : Int) (a2 : AV) (S0 : St) (Q : AV → St → Prop) : Prop :=
 optK (boxA T_api_Node (.agg [(.int .i64 a0a), (.bool a0b), (.vs 1 a0c a0cr), (.vs 7 a0d a0dr), (.int .i64 a0e), (.vs 2 a0f a0fr), (.str a0g)])) fun c3 =>
 optK (nilA (AV.strip a2)) fun t12 =>
 optK (loadA T_int S0 t12) fun t13 =>
 optK (some c3) fun _ =>
 optK (lloadA T_s_string (some c3) 2) fun t15 =>
 optK (lenSlA (AV.strip t15)) fun t16 =>
 optK (binA .add (.int .i64 1) t16) fun t17 =>
 optK (some c3) fun _ =>
 optK (lloadA T_s_api_Extent (some c3) 5) fun t19 =>
 optK (lenSlA (AV.strip t19)) fun t20 =>
 optK (binA .add t17 t20) fun t21 =>
 optK (binA .sub (AV.strip t13) t21) fun t22 =>
 optK (nilA (AV.strip a2)) fun t23 =>
 optK (storeA T_int S0 t23 t22) fun S =>
 joinK (fun (S_4 : St) =>
 optK (nilA (AV.strip a2)) fun t41 =>
 optK (loadA T_int S_4 t41) fun t42 =>
 optK (some c3) fun _ =>
 optK (lloadA T_string (some c3) 6) fun t44 =>
 optK (lenStrA (AV.strip t44)) fun t45 =>
 optK (binA .sub (AV.strip t42) t45) fun t46 =>
 optK (nilA (AV.strip a2)) fun t47 =>
 optK (storeA T_int S_4 t47 t46) fun S_5 =>
 optK (nilA (AV.strip a2)) fun t49 =>
 optK (loadA T_int S_5 t49) fun t50 =>
 optK (binA .lss (AV.strip t50) (.int .i64 0)) fun t51 =>
 joinK (fun (x54 : AV) =>
 optK (pickA (AV.strip t51) (.bool true) x54) fun t55 =>
 ifK (AV.strip t55)
 (Q (.bool false) S_5)
 (joinK (fun (S_8 : St) =>
 Q (.bool true) S_8) fun j_2 =>
 optK (some c3) fun _ =>
 optK (lloadA T_s_api_Node (some c3) 3) fun t57 =>
 optK (lenSlA (AV.strip t57)) fun t58 =>
 loopQ ([(.int .i64 0)], []) (fun v_2 bx_2 => ([v_2 59], [])) (fun nx_2 v_2 bx_2 S_6 =>
 optK (binA .lss (v_2 59) t58) fun t60 =>
 ifK t60
 (optK (idxSlA T_api_Node (AV.strip t57) (v_2 59)) fun t61 =>
 optK (loadA T_api_Node S_6 t61) fun t62 =>
 optK (lstoreA T_api_Node (some [(.int .i64 0), (.bool false), (.vs 1 [] .nil), (.vs 7 [] .nil), (.int .i64 0), (.vs 2 [] .nil), (.str [])]) 0 (AV.strip t62)) fun b10 =>
 optK (lloadA T_api_Node (some b10) 0) fun t63 =>
 callK Ca F_law04_small [(AV.strip t63), (.int .i64 (IntKind.i64.wrap (a1 - 1))), (AV.strip a2)] S_6 fun t67 S_7 =>
 optK (unA .not t67) fun t68 =>
 ifK t68
 (Q (.bool false) S_7)
 (optK (binA .add (v_2 59) (.int .i64 1)) fun t69 =>
 nx_2 ([(AV.strip t69)], []) S_7))
 (j_2 S_6)) S_5)) fun j =>
 ifK (AV.strip t51)
 (j (.tup []))
 (j (.bool (decide (a1 < 0))))) fun j_3 =>
 optK (some c3) fun _ =>
 optK (lloadA T_s_api_Extent (some c3) 5) fun t25 =>
 optK (lenSlA (AV.strip t25)) fun t26 =>
 loopQ ([(.int .i64 0)], []) (fun v bx => ([v 27], [])) (fun nx v bx S_2 =>
 optK (binA .lss (v 27) t26) fun t28 =>
 ifK t28
 (optK (idxSlA T_api_Extent (AV.strip t25) (v 27)) fun t29 =>
 optK (loadA T_api_Extent S_2 t29) fun t30 =>
 optK (lstoreA T_api_Extent (some [(.int .i64 0), (.str [])]) 0 (AV.strip t30)) fun b8 =>
 optK (nilA (AV.strip a2)) fun t32 =>
 optK (loadA T_int S_2 t32) fun t33 =>
 optK (some b8) fun _ =>
 optK (lloadA T_string (some b8) 1) fun t35 =>
 optK (lenStrA (AV.strip t35)) fun t36 =>
 optK (binA .sub (AV.strip t33) t36) fun t37 =>
 optK (nilA (AV.strip a2)) fun t38 =>
 optK (storeA T_int S_2 t38 t37) fun S_3 =>
 optK (binA .add (v 27) (.int .i64 1)) fun t39 =>
 nx ([(AV.strip t39)], []) S_3)
 (j_3 S_2)) S
theorem law04_small_eq (Ca) (a0a : Int) (a0b : Bool) (a0c : List (List AV)) (a0cr : Rt) (a0d : List (List AV)) (a0dr : Rt) (a0e : Int) (a0f : List (List AV)) (a0fr : Rt) (a0g : List UInt8) (a1 : Int) (a2 : AV) (S0 Q) : WF C Ca 73 (Drw C Ca 73) Tryd.f73 [(.agg [(.int .i64 a0a), (.bool a0b), (.vs 1 a0c a0cr), (.vs 7 a0d a0dr), (.int .i64 a0e), (.vs 2 a0f a0fr), (.str a0g)]), (.int .i64 a1), a2] S0 Q = G_law04_small Ca a0a a0b a0c a0cr a0d a0dr a0e a0f a0fr a0g a1 a2 S0 Q := by kernel_rfl
theorem law04_small_ok {w0 : World} {a0a : Int} {a0b : Bool} {a0c : List (List AV)} {a0cr : Rt} {a0d : List (List AV)} {a0dr : Rt} {a0e : Int} {a0f : List (List AV)} {a0fr : Rt} {a0g : List UInt8} {a1 : Int} {a2 : AV} {S0 : St} {Q : AV → St → Prop} (h : G_law04_small (ACalls (En w0)) a0a a0b a0c a0cr a0d a0dr a0e a0f a0fr a0g a1 a2 S0 Q) : AC w0 F_law04_small [(.agg [(.int .i64 a0a), (.bool a0b), (.vs 1 a0c a0cr), (.vs 7 a0d a0dr), (.int .i64 a0e), (.vs 2 a0f a0fr), (.str a0g)]), (.int .i64 a1), a2] S0 Q := fn_ok w0 Tryd.func73 (by kernel_rfl) (by rw [law04_small_eq]; exact h)
def G_ref04_all (Ca : Nat → List AV → St → (AV → St → Prop) → Prop) (a0a : Int) (a0b : Bool) (a0c : List (List AV)) (a0cr : Rt) (a0d : List (List AV)) (a0dr : Rt) (a0e : Int) (a0f : List (List AV)) (a0fr : Rt) (a0g : List UInt8) (S0 : St) (Q : AV → St → Prop) : Prop :=
 optK (boxA T_api_Node (.agg [(.int .i64 a0a), (.bool a0b), (.vs 1 a0c a0cr), (.vs 7 a0d a0dr), (.int .i64 a0e), (.vs 2 a0f a0fr), (.str a0g)])) fun c1 =>
 joinK (fun (y1 : Option (List AV)) (S_3 : St) =>
 optK (lloadA T_api_Node y1 0) fun t18 =>
 callK Ca F_ref04_One [(AV.strip t18)] S_3 fun t19 S_4 =>
 Q t19 S_4) fun j =>
 loopQ ([(.int .i64 0)], [(some c1)]) (fun v bx => ([v 3], [bx 1])) (fun nx v bx S =>
 optK (bx 1) fun _ =>
 optK (lloadA T_s_api_Node (bx 1) 3) fun t6 =>
 optK (lenSlA (AV.strip t6)) fun t7 =>
 optK (binA .lss (AV.strip (v 3)) t7) fun t8 =>
 ifK t8
 (optK (bx 1) fun _ =>
 optK (lloadA T_s_api_Node (bx 1) 3) fun t12 =>
 optK (idxSlA T_api_Node (AV.strip t12) (AV.strip (v 3))) fun t14 =>
 optK (loadA T_api_Node S t14) fun t15 =>
 callK Ca F_ref04_all [(AV.strip t15)] S fun t16 S_2 =>
 optK (unA .not t16) fun t17 =>
 ifK t17
 (Q (.bool false) S_2)
 (optK (binA .add (AV.strip (v 3)) (.int .i64 1)) fun t10 =>
 nx ([t10], [(bx 1)]) S_2))
 (j (bx 1) S)) S0
theorem ref04_all_eq (Ca) (a0a : Int) (a0b : Bool) (a0c : List (List AV)) (a0cr : Rt) (a0d : List (List AV)) (a0dr : Rt) (a0e : Int) (a0f : List (List AV)) (a0fr : Rt) (a0g : List UInt8) (S0 Q) : WF C Ca 74 (Drw C Ca 74) Tryd.f74 [(.agg [(.int .i64 a0a), (.bool a0b), (.vs 1 a0c a0cr), (.vs 7 a0d a0dr), (.int .i64 a0e), (.vs 2 a0f a0fr), (.str a0g)])] S0 Q = G_ref04_all Ca a0a a0b a0c a0cr a0d a0dr a0e a0f a0fr a0g S0 Q := by kernel_rfl
theorem ref04_all_ok {w0 : World} {a0a : Int} {a0b : Bool} {a0c : List (List AV)} {a0cr : Rt} {a0d : List (List AV)} {a0dr : Rt} {a0e : Int} {a0f : List (List AV)} {a0fr : Rt} {a0g : List UInt8} {S0 : St} {Q : AV → St → Prop} (h : G_ref04_all (ACalls (En w0)) a0a a0b a0c a0cr a0d a0dr a0e a0f a0fr a0g S0 Q) : AC w0 F_ref04_all [(.agg [(.int .i64 a0a), (.bool a0b), (.vs 1 a0c a0cr), (.vs 7 a0d a0dr), (.int .i64 a0e), (.vs 2 a0f a0fr), (.str a0g)])] S0 Q := fn_ok w0 Tryd.func74 (by kernel_rfl) (by rw [ref04_all_eq]; exact h)
def G_ref04_Depth (Ca : Nat → List AV → St → (AV → St → Prop) → Prop) (a0a : Int) (a0b : Bool) (a0c : List (List AV)) (a0cr : Rt) (a0d : List (List AV)) (a0dr : Rt) (a0e : Int) (a0f : List (List AV)) (a0fr : Rt) (a0g : List UInt8) (S0 : St) (Q : AV → St → Prop) : Prop :=
 optK (boxA T_api_Node (.agg [(.int .i64 a0a), (.bool a0b), (.vs 1 a0c a0cr), (.vs 7 a0d a0dr), (.int .i64 a0e), (.vs 2 a0f a0fr), (.str a0g)])) fun c1 =>
 joinK (fun (x3_2 : AV) (S_4 : St) =>
 Q (AV.strip x3_2) S_4) fun j_2 =>
 loopQ ([(.int .i64 0), (.int .i64 0)], [(some c1)]) (fun v bx => ([v 3, v 4], [bx 1])) (fun nx v bx S =>
 optK (bx 1) fun _ =>
 optK (lloadA T_s_api_Node (bx 1) 3) fun t8 =>
 optK (lenSlA (AV.strip t8)) fun t9 =>
 optK (binA .lss (AV.strip (v 4)) t9) fun t10 =>
 ifK t10
 (joinK (fun (x3 : AV) (S_3 : St) =>
 optK (binA .add (AV.strip (v 4)) (.int .i64 1)) fun t12 =>
 nx ([x3, t12], [(bx 1)]) S_3) fun j =>
 optK (bx 1) fun _ =>
 optK (lloadA T_s_api_Node (bx 1) 3) fun t14 =>
 optK (idxSlA T_api_Node (AV.strip t14) (AV.strip (v 4))) fun t16 =>
 optK (loadA T_api_Node S t16) fun t17 =>
 callK Ca F_ref04_Depth [(AV.strip t17)] S fun t18 S_2 =>
 optK (binA .add t18 (.int .i64 1)) fun t19 =>
 optK (binA .gtr (AV.strip t19) (AV.strip (v 3))) fun t22 =>
 ifK t22
 (j (AV.strip t19) S_2)
 (j (v 3) S_2))
 (j_2 (v 3) S)) S0
theorem ref04_Depth_eq (Ca) (a0a : Int) (a0b : Bool) (a0c : List (List AV)) (a0cr : Rt) (a0d : List (List AV)) (a0dr : Rt) (a0e : Int) (a0f : List (List AV)) (a0fr : Rt) (a0g : List UInt8) (S0 Q) : WF C Ca 75 (Drw C Ca 75) Tryd.f75 [(.agg [(.int .i64 a0a), (.bool a0b), (.vs 1 a0c a0cr), (.vs 7 a0d a0dr), (.int .i64 a0e), (.vs 2 a0f a0fr), (.str a0g)])] S0 Q = G_ref04_Depth Ca a0a a0b a0c a0cr a0d a0dr a0e a0f a0fr a0g S0 Q := by kernel_rfl
theorem ref04_Depth_ok {w0 : World} {a0a : Int} {a0b : Bool} {a0c : List (List AV)} {a0cr : Rt} {a0d : List (List AV)} {a0dr : Rt} {a0e : Int} {a0f : List (List AV)} {a0fr : Rt} {a0g : List UInt8} {S0 : St} {Q : AV → St → Prop} (h : G_ref04_Depth (ACalls (En w0)) a0a a0b a0c a0cr a0d a0dr a0e a0f a0fr a0g S0 Q) : AC w0 F_ref04_Depth [(.agg [(.int .i64 a0a), (.bool a0b), (.vs 1 a0c a0cr), (.vs 7 a0d a0dr), (.int .i64 a0e), (.vs 2 a0f a0fr), (.str a0g)])] S0 Q := fn_ok w0 Tryd.func75 (by kernel_rfl) (by rw [ref04_Depth_eq]; exact h)
def G_tree_right (Ca : Nat → List AV → St → (AV → St → Prop) → Prop) (a0a : Int) (a0b : Bool) (a0c : List (List AV)) (a0cr : Rt) (a0d : List (List AV)) (a0dr : Rt) (a0e : Int) (a0f : List (List AV)) (a0fr : Rt) (a0g : List UInt8) (a1 : Int) (a2 : AV) (S0 : St) (Q : AV → St → Prop) : Prop :=
 optK (boxA T_api_Node (.agg [(.int .i64 a0a), (.bool a0b), (.vs 1 a0c a0cr), (.vs 7 a0d a0dr), (.int .i64 a0e), (.vs 2 a0f a0fr), (.str a0g)])) fun c3 =>
 optK (nilA (AV.strip a2)) fun t13 =>
 optK (loadA T_int S0 t13) fun t14 =>
 optK (binA .sub (AV.strip t14) (.int .i64 1)) fun t15 =>
 optK (nilA (AV.strip a2)) fun t16 =>
 optK (storeA T_int S0 t16 t15) fun S =>
 optK (nilA (AV.strip a2)) fun t18 =>
 optK (loadA T_int S t18) fun t19 =>
 optK (binA .lss (AV.strip t19) (.int .i64 0)) fun t20 =>
 joinK (fun (x23 : AV) =>
 optK (pickA (AV.strip t20) (.bool true) x23) fun t24 =>
 joinK (fun (x28 : AV) (S_3 : St) =>
 optK (pickA (AV.strip (AV.strip t24)) (.bool true) x28) fun t29 =>
 ifK (AV.strip t29)
 (Q (.bool false) S_3)
 (joinK (
 Q (.bool false) S_3) fun j_5 =>
 optK (some c3) fun _ =>
 optK (lloadA T_int (some c3) 0) fun t31 =>
 optK (binA .eql (AV.strip t31) (.int .i64 1)) fun t33 =>
 ifK t33
 (optK (some c3) fun _ =>
 optK (lloadA T_int (some c3) 4) fun t35 =>
 optK (some c3) fun _ =>
 optK (lloadA T_s_api_Extent (some c3) 5) fun t37 =>
 callK Ca F_extent_Right [(AV.strip t35), (AV.strip t37)] S_3 fun t38 S_4 =>
 Q t38 S_4)
 (optK (binA .eql (AV.strip t31) (.int .i64 3)) fun t40 =>
 ifK t40
 (optK (some c3) fun _ =>
 optK (lloadA T_string (some c3) 6) fun t43 =>
 callK Ca F_name_Split [(AV.strip t43)] S_3 fun t44 S_5 =>
 optK (extractA t44 0) fun t45 =>
 optK (extractA (stripTup t44 0) 1) fun t46 =>
 optK (extractA (stripTup (stripTup t44 0) 1) 2) fun t47 =>
 optK (binA .eql (AV.strip t47) (.int .i64 0)) fun t49 =>
 joinK (fun (x54 : AV) =>
 optK (pickA (AV.strip t49) x54 (.bool false)) fun t55 =>
 Q (AV.strip t55) S_5) fun j_3 =>
 ifK (AV.strip t49)
 (optK (some c3) fun _ =>
 optK (lloadA T_string (some c3) 6) fun t52 =>
 optK (lenStrA (AV.strip t52)) fun t53 =>
 optK (binA .leq t53 (.int .i64 256)) fun t54 =>
 j_3 t54)
 (j_3 (.tup [])))
 (optK (binA .eql (AV.strip t31) (.int .i64 4)) fun t57 =>
 ifK t57
 (Q (.bool true) S_3)
 (optK (binA .eql (AV.strip t31) (.int .i64 2)) fun t59 =>
 ifK t59
 (optK (lloadA T_api_Node (some c3) 0) fun t60 =>
 callK Ca F_tree_names [(AV.strip t60)] S_3 fun t61 S_6 =>
 optK (unA .not t61) fun t62 =>
 ifK t62
 (Q (.bool false) S_6)
 (joinK (fun (S_9 : St) =>
 Q (.bool true) S_9) fun j_4 =>
 optK (some c3) fun _ =>
 optK (lloadA T_s_api_Node (some c3) 3) fun t64 =>
 optK (lenSlA (AV.strip t64)) fun t65 =>
 loopQ ([(.int .i64 0)], []) (fun v bx => ([v 66], [])) (fun nx v bx S_7 =>
 optK (binA .lss (v 66) t65) fun t67 =>
 ifK t67
 (optK (idxSlA T_api_Node (AV.strip t64) (v 66)) fun t68 =>
 optK (loadA T_api_Node S_7 t68) fun t69 =>
 optK (lstoreA T_api_Node (some [(.int .i64 0), (.bool false), (.vs 1 [] .nil), (.vs 7 [] .nil), (.int .i64 0), (.vs 2 [] .nil), (.str [])]) 0 (AV.strip t69)) fun b11 =>
 optK (lloadA T_api_Node (some b11) 0) fun t70 =>
 callK Ca F_tree_right [(AV.strip t70), (.int .i64 (IntKind.i64.wrap (a1 + 1))), (AV.strip a2)] S_7 fun t74 S_8 =>
 optK (unA .not t74) fun t75 =>
 ifK t75
 (Q (.bool false) S_8)
 (optK (binA .add (v 66) (.int .i64 1)) fun t76 =>
 nx ([(AV.strip t76)], []) S_8))
 (j_4 S_7)) S_6))
 (j_5)))))) fun j =>
 ifK (AV.strip (AV.strip t24))
 (j (.tup []) S)
 (optK (lloadA T_api_Node (some c3) 0) fun t26 =>
 callK Ca F_tree_zero [(AV.strip t26)] S fun t27 S_2 =>
 optK (unA .not t27) fun t28 =>
 j t28 S_2)) fun j_2 =>
 ifK (AV.strip t20)
 (j_2 (.tup []))
 (j_2 (.bool (decide (a1 > 15))))
theorem tree_right_eq (Ca) (a0a : Int) (a0b : Bool) (a0c : List (List AV)) (a0cr : Rt) (a0d : List (List AV)) (a0dr : Rt) (a0e : Int) (a0f : List (List AV)) (a0fr : Rt) (a0g : List UInt8) (a1 : Int) (a2 : AV) (S0 Q) : WF C Ca 76 (Drw C Ca 76) Tryd.f76 [(.agg [(.int .i64 a0a), (.bool a0b), (.vs 1 a0c a0cr), (.vs 7 a0d a0dr), (.int .i64 a0e), (.vs 2 a0f a0fr), (.str a0g)]), (.int .i64 a1), a2] S0 Q = G_tree_right Ca a0a a0b a0c a0cr a0d a0dr a0e a0f a0fr a0g a1 a2 S0 Q := by kernel_rfl
theorem tree_right_ok {w0 : World} {a0a : Int} {a0b : Bool} {a0c : List (List AV)} {a0cr : Rt} {a0d : List (List AV)} {a0dr : Rt} {a0e : Int} {a0f : List (List AV)} {a0fr : Rt} {a0g : List UInt8} {a1 : Int} {a2 : AV} {S0 : St} {Q : AV → St → Prop} (h : G_tree_right (ACalls (En w0)) a0a a0b a0c a0cr a0d a0dr a0e a0f a0fr a0g a1 a2 S0 Q) : AC w0 F_tree_right [(.agg [(.int .i64 a0a), (.bool a0b), (.vs 1 a0c a0cr), (.vs 7 a0d a0dr), (.int .i64 a0e), (.vs 2 a0f a0fr), (.str a0g)]), (.int .i64 a1), a2] S0 Q := fn_ok w0 Tryd.func76 (by kernel_rfl) (by rw [tree_right_eq]; exact h)
def G_slices_Equal_s_string_string (Ca : Nat → List AV → St → (AV → St → Prop) → Prop) (a0 : List (List AV)) (a0r : Rt) (a1 : List (List AV)) (a1r : Rt) (S0 : St) (Q : AV → St → Prop) : Prop :=
 ifK (.bool ((List.length a0 : Int) != (List.length a1 : Int)))
 (Q (.bool false) S0)
 (joinK (fun (S_2 : St) =>
 Q (.bool true) S_2) fun j =>
 loopQ ([(.int .i64 0)], []) (fun v bx => ([v 13], [])) (fun nx v bx S =>
 optK (binA .lss (v 13) (.int .i64 (List.length a0 : Int))) fun t14 =>
 ifK t14
 (optK (idxSlA T_string (.vs 1 a0 (Rt.strip a0r)) (AV.strip (AV.strip (v 13)))) fun t18 =>
 optK (loadA T_string S t18) fun t19 =>
 optK (idxSlA T_string (.vs 1 a1 (Rt.strip a1r)) (AV.strip (AV.strip (v 13)))) fun t22 =>
 optK (loadA T_string S t22) fun t23 =>
 optK (binA .neq (AV.strip t19) (AV.strip t23)) fun t24 =>
 ifK t24
 (Q (.bool false) S)
 (optK (binA .add (v 13) (.int .i64 1)) fun t25 =>
 nx ([(AV.strip t25)], []) S))
 (j S)) S0)
theorem slices_Equal_s_string_string_eq (Ca) (a0 : List (List AV)) (a0r : Rt) (a1 : List (List AV)) (a1r : Rt) (S0 Q) : WF C Ca 77 (Drw C Ca 77) Tryd.f77 [(.vs 1 a0 a0r), (.vs 1 a1 a1r)] S0 Q = G_slices_Equal_s_string_string Ca a0 a0r a1 a1r S0 Q := by kernel_rfl
theorem slices_Equal_s_string_string_ok {w0 : World} {a0 : List (List AV)} {a0r : Rt} {a1 : List (List AV)} {a1r : Rt} {S0 : St} {Q : AV → St → Prop} (h : G_slices_Equal_s_string_string (ACalls (En w0)) a0 a0r a1 a1r S0 Q) : AC w0 F_slices_Equal_s_string_string [(.vs 1 a0 a0r), (.vs 1 a1 a1r)] S0 Q := fn_ok w0 Tryd.func77 (by kernel_rfl) (by rw [slices_Equal_s_string_string_eq]; exact h)
def G_slices_Equal_s_api_Extent_api_Extent (Ca : Nat → List AV → St → (AV → St → Prop) → Prop) (a0 : List (List AV)) (a0r : Rt) (a1 : List (List AV)) (a1r : Rt) (S0 : St) (Q : AV → St → Prop) : Prop :=
 ifK (.bool ((List.length a0 : Int) != (List.length a1 : Int)))
 (Q (.bool false) S0)
 (joinK (fun (S_2 : St) =>
 Q (.bool true) S_2) fun j =>
 loopQ ([(.int .i64 0)], []) (fun v bx => ([v 13], [])) (fun nx v bx S =>
 optK (binA .lss (v 13) (.int .i64 (List.length a0 : Int))) fun t14 =>
 ifK t14
 (optK (idxSlA T_api_Extent (.vs 2 a0 (Rt.strip a0r)) (AV.strip (AV.strip (v 13)))) fun t18 =>
 optK (loadA T_api_Extent S t18) fun t19 =>
 optK (idxSlA T_api_Extent (.vs 2 a1 (Rt.strip a1r)) (AV.strip (AV.strip (v 13)))) fun t22 =>
 optK (loadA T_api_Extent S t22) fun t23 =>
 optK (binE (.agg T_api_Extent.zero) .neq (AV.strip t19) (AV.strip t23)) fun t24 =>
 ifK t24
 (Q (.bool false) S)
 (optK (binA .add (v 13) (.int .i64 1)) fun t25 =>
 nx ([(AV.strip t25)], []) S))
 (j S)) S0)
theorem slices_Equal_s_api_Extent_api_Extent_eq (Ca) (a0 : List (List AV)) (a0r : Rt) (a1 : List (List AV)) (a1r : Rt) (S0 Q) : WF C Ca 78 (Drw C Ca 78) Tryd.f78 [(.vs 2 a0 a0r), (.vs 2 a1 a1r)] S0 Q = G_slices_Equal_s_api_Extent_api_Extent Ca a0 a0r a1 a1r S0 Q := by kernel_rfl
theorem slices_Equal_s_api_Extent_api_Extent_ok {w0 : World} {a0 : List (List AV)} {a0r : Rt} {a1 : List (List AV)} {a1r : Rt} {S0 : St} {Q : AV → St → Prop} (h : G_slices_Equal_s_api_Extent_api_Extent (ACalls (En w0)) a0 a0r a1 a1r S0 Q) : AC w0 F_slices_Equal_s_api_Extent_api_Extent [(.vs 2 a0 a0r), (.vs 2 a1 a1r)] S0 Q := fn_ok w0 Tryd.func78 (by kernel_rfl) (by rw [slices_Equal_s_api_Extent_api_Extent_eq]; exact h)
def G_ref03_Right (Ca : Nat → List AV → St → (AV → St → Prop) → Prop) (a0 : Int) (a1 : List (List AV)) (a1r : Rt) (S0 : St) (Q : AV → St → Prop) : Prop :=
 joinK (fun (x10 : AV) =>
 optK (pickA (.bool (decide (a0 < 0))) (.bool true) x10) fun t11 =>
 ifK (AV.strip t11)
 (Q (.bool false) S0)
 (joinK (fun (S_2 : St) =>
 Q (.bool true) S_2) fun j_6 =>
 loopQ ([(.int .i64 0)], []) (fun v bx => ([v 5], [])) (fun nx v bx S =>
 optK (binA .lss (AV.strip (v 5)) (.int .i64 (List.length a1 : Int))) fun t15 =>
 ifK t15
 (optK (idxSlA T_api_Extent (.vs 2 a1 (Rt.strip a1r)) (AV.strip (v 5))) fun t20 =>
 optK (movePtr t20 0) fun t21 =>
 optK (loadA T_int S t21) fun t22 =>
 optK (binA .lss (AV.strip t22) (.int .i64 0)) fun t23 =>
 joinK (fun (x31 : AV) =>
 optK (pickA (AV.strip t23) (.bool true) x31) fun t32 =>
 joinK (fun (x40 : AV) =>
 optK (pickA (AV.strip (AV.strip t32)) (.bool true) x40) fun t41 =>
 joinK (fun (x56 : AV) =>
 optK (pickA (AV.strip (AV.strip t41)) (.bool true) x56) fun t57 =>
 ifK (AV.strip t57)
 (Q (.bool false) S)
 (optK (binA .gtr (AV.strip (v 5)) (.int .i64 0)) fun t59 =>
 joinK (fun (x80 : AV) =>
 optK (pickA (AV.strip t59) x80 (.bool false)) fun t81 =>
 ifK (AV.strip t81)
 (Q (.bool false) S)
 (optK (binA .add (AV.strip (v 5)) (.int .i64 1)) fun t17 =>
 nx ([t17], []) S)) fun j_5 =>
 ifK (AV.strip t59)
 (optK (idxSlA T_api_Extent (.vs 2 a1 (Rt.strip a1r)) (AV.strip (v 5))) fun t63 =>
 optK (movePtr t63 0) fun t64 =>
 optK (loadA T_int S t64) fun t65 =>
 optK (binA .sub (AV.strip (v 5)) (.int .i64 1)) fun t68 =>
 optK (idxSlA T_api_Extent (.vs 2 a1 (Rt.strip a1r)) t68) fun t69 =>
 optK (movePtr t69 0) fun t70 =>
 optK (loadA T_int S t70) fun t71 =>
 optK (binA .sub (AV.strip (v 5)) (.int .i64 1)) fun t74 =>
 optK (idxSlA T_api_Extent (.vs 2 a1 (Rt.strip a1r)) t74) fun t75 =>
 optK (movePtr t75 1) fun t76 =>
 optK (loadA T_string S t76) fun t77 =>
 optK (lenStrA (AV.strip t77)) fun t78 =>
 optK (binA .add (AV.strip t71) t78) fun t79 =>
 optK (binA .lss (AV.strip t65) t79) fun t80 =>
 j_5 t80)
 (j_5 (.tup [])))) fun j_2 =>
 ifK (AV.strip (AV.strip t41))
 (j_2 (.tup []))
 (optK (idxSlA T_api_Extent (.vs 2 a1 (Rt.strip a1r)) (AV.strip (v 5))) fun t45 =>
 optK (movePtr t45 0) fun t46 =>
 optK (loadA T_int S t46) fun t47 =>
 optK (idxSlA T_api_Extent (.vs 2 a1 (Rt.strip a1r)) (AV.strip (v 5))) fun t50 =>
 optK (movePtr t50 1) fun t51 =>
 optK (loadA T_string S t51) fun t52 =>
 optK (lenStrA (AV.strip t52)) fun t53 =>
 optK (binA .add (AV.strip t47) t53) fun t54 =>
 optK (binA .gtr t54 (.int .i64 a0)) fun t56 =>
 j_2 t56)) fun j_3 =>
 ifK (AV.strip (AV.strip t32))
 (j_3 (.tup []))
 (optK (idxSlA T_api_Extent (.vs 2 a1 (Rt.strip a1r)) (AV.strip (v 5))) fun t36 =>
 optK (movePtr t36 1) fun t37 =>
 optK (loadA T_string S t37) fun t38 =>
 optK (lenStrA (AV.strip t38)) fun t39 =>
 optK (binA .lss t39 (.int .i64 1)) fun t40 =>
 j_3 t40)) fun j_4 =>
 ifK (AV.strip t23)
 (j_4 (.tup []))
 (optK (idxSlA T_api_Extent (.vs 2 a1 (Rt.strip a1r)) (AV.strip (v 5))) fun t27 =>
 optK (movePtr t27 0) fun t28 =>
 optK (loadA T_int S t28) fun t29 =>
 optK (binA .gtr (AV.strip t29) (.int .i64 a0)) fun t31 =>
 j_4 t31))
 (j_6 S)) S0)) fun j =>
 ifK (.bool (decide (a0 < 0)))
 (j (.tup []))
 (j (.bool (decide (a0 > 1048576))))
theorem ref03_Right_eq (Ca) (a0 : Int) (a1 : List (List AV)) (a1r : Rt) (S0 Q) : WF C Ca 79 (Drw C Ca 79) Tryd.f79 [(.int .i64 a0), (.vs 2 a1 a1r)] S0 Q = G_ref03_Right Ca a0 a1 a1r S0 Q := by kernel_rfl
theorem ref03_Right_ok {w0 : World} {a0 : Int} {a1 : List (List AV)} {a1r : Rt} {S0 : St} {Q : AV → St → Prop} (h : G_ref03_Right (ACalls (En w0)) a0 a1 a1r S0 Q) : AC w0 F_ref03_Right [(.int .i64 a0), (.vs 2 a1 a1r)] S0 Q := fn_ok w0 Tryd.func79 (by kernel_rfl) (by rw [ref03_Right_eq]; exact h)
end Go.Av
