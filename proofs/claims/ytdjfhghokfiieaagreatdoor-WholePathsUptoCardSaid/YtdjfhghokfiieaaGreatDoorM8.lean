/- Parts of the proofs of this seat: abstract values over the model, and what the functions of the program do. No condition. -/
import Derived.Test.YtdjfhghokfiieaaGreatDoorM7
import Derived.Test.YtdjfhghokfiieaaGreatDoorM6
import Derived.Test.YtdjfhghokfiieaaGreatDoorProg
import Derived.KernelRfl
set_option linter.all false
set_option linter.unusedVariables false
set_option maxRecDepth 100000
namespace Go.Av
open Go.Proofs
abbrev t_int : Nat := 3
abbrev t_uint8 : Nat := 5
abbrev t_string : Nat := 9
abbrev t_s_api_Node : Nat := 22
abbrev t_socagelaw11_Case : Nat := 24
abbrev t_walk_Target : Nat := 40
abbrev t_s_string : Nat := 44
abbrev t_api_Node : Nat := 73
abbrev t_walk_Walker : Nat := 141
abbrev t_heap_Item : Nat := 162
abbrev t_api_Extent : Nat := 172
abbrev t_branch_Branch : Nat := 178
abbrev t_strings_Builder : Nat := 183
abbrev t_p_heap_heads : Nat := 190
abbrev t_heap_heads : Nat := 195
abbrev t_heap_head : Nat := 197
abbrev t_image_reader : Nat := 214
abbrev t_wire_Reader : Nat := 240
abbrev F_top_WholePaths : Nat := 3
abbrev F_top_one : Nat := 8
abbrev F_law08_May : Nat := 9
abbrev F_law08_Stack : Nat := 10
abbrev F_top_all : Nat := 11
abbrev F_walk_Walk : Nat := 12
abbrev F_union_Do : Nat := 13
abbrev F_union_Is : Nat := 19
abbrev F_union_Follows : Nat := 20
abbrev F_union_Check : Nat := 21
abbrev F_union_Finish : Nat := 22
abbrev F_union_List : Nat := 23
abbrev F_stack_Stack_Len : Nat := 29
abbrev F_stack_Of : Nat := 31
abbrev F_tree_Dir : Nat := 32
abbrev F_tree_Text : Nat := 33
abbrev F_law04_Small : Nat := 34
abbrev F_ref04_Right : Nat := 35
abbrev F_stack_Stack_ID : Nat := 36
abbrev F_walk_New : Nat := 37
abbrev F_seen_Root : Nat := 38
abbrev F_walk_Walker_Ask : Nat := 39
abbrev F_walk_Walker_Target : Nat := 40
abbrev F_seen_Look : Nat := 41
abbrev F_stack_Stack_At : Nat := 42
abbrev F_branch_Branch_Target : Nat := 43
abbrev F_walk_Walker_Tell : Nat := 44
abbrev F_union_fault : Nat := 45
abbrev F_branch_Branch_Size : Nat := 50
abbrev F_branch_Branch_Read : Nat := 51
abbrev F_merge_List : Nat := 52
abbrev F_stack_Stack_Add : Nat := 57
abbrev F_branch_New : Nat := 59
abbrev F_slices_Clone_s_string_string : Nat := 60
abbrev F_slices_Clone_s_api_Node_api_Node : Nat := 61
abbrev F_extent_Of : Nat := 62
abbrev F_law04_small : Nat := 63
abbrev F_ref04_all : Nat := 64
abbrev F_ref04_Count : Nat := 65
abbrev F_ref04_Depth : Nat := 66
abbrev F_name_Split : Nat := 67
abbrev F_branch_Branch_Opaque : Nat := 68
abbrev F_walk_Walker_at : Nat := 69
abbrev F_branch_Branch_Look : Nat := 70
abbrev F_branch_Branch_Kind : Nat := 71
abbrev F_branch_Branch_at : Nat := 72
abbrev F_walk_Walker_link : Nat := 73
abbrev F_name_Child : Nat := 74
abbrev F_ref01_Split : Nat := 75
abbrev F_extent_Read : Nat := 79
abbrev F_branch_Branch_Names : Nat := 80
abbrev F_heap_First : Nat := 81
abbrev F_heap_Merge : Nat := 82
abbrev F_strings_Split : Nat := 85
abbrev F_tree_Right : Nat := 91
abbrev F_branch_Branch_add : Nat := 92
abbrev F_ref04_One : Nat := 93
abbrev F_name_Right : Nat := 94
abbrev F_slices_BinarySearch_s_string_string : Nat := 95
abbrev F_ref01_Right : Nat := 96
abbrev F_strings_Builder_Len : Nat := 98
abbrev F_strings_Builder_WriteString : Nat := 99
abbrev F_strings_Repeat : Nat := 100
abbrev F_strings_Builder_String : Nat := 101
abbrev F_heap_Item_less : Nat := 102
abbrev F_cheap_Init : Nat := 103
abbrev F_heap_heads_Len : Nat := 104
abbrev F_cheap_Pop : Nat := 105
abbrev F_cheap_Fix : Nat := 106
abbrev F_ref01_Less : Nat := 107
abbrev F_tree_right : Nat := 118
abbrev F_slices_Clone_s_api_Extent_api_Extent : Nat := 119
abbrev F_ref03_Right : Nat := 120
abbrev F_ref04_entries : Nat := 121
abbrev F_strings_ContainsAny : Nat := 122
abbrev F_cmp_Less_string : Nat := 123
abbrev F_slices_isNaN_string : Nat := 124
abbrev F_strings_Builder_copyCheck : Nat := 125
abbrev F_cheap_down : Nat := 129
abbrev F_cheap_up : Nat := 130
abbrev F_tree_zero : Nat := 142
abbrev F_extent_Right : Nat := 143
abbrev F_tree_names : Nat := 144
abbrev F_cmp_isNaN_string : Nat := 146
abbrev F_heap_heads_Less : Nat := 220
abbrev F_heap_heads_Pop : Nat := 221
abbrev F_heap_heads_Swap : Nat := 222
def T_func : TI := { size := 1, bytes := 8, agg := false, zero := [.nilfn], kind := .func, id := 1 }
@[simp] theorem T_func_size : T_func.size = 1 := rfl
@[simp] theorem T_func_s : T_func.agg = false ∧ T_func.zero = [.nilfn] ∧ T_func.kind = .func := ⟨rfl, rfl, rfl⟩
def T_int64 : TI := { size := 1, bytes := 8, agg := false, zero := [.int .i64 0], kind := .int .i64, id := 2 }
@[simp] theorem T_int64_size : T_int64.size = 1 := rfl
@[simp] theorem T_int64_s : T_int64.agg = false ∧ T_int64.zero = [.int .i64 0] ∧ T_int64.kind = .int .i64 := ⟨rfl, rfl, rfl⟩
def T_int : TI := { size := 1, bytes := 8, agg := false, zero := [.int .i64 0], kind := .int .i64, id := 3 }
@[simp] theorem T_int_size : T_int.size = 1 := rfl
@[simp] theorem T_int_s : T_int.agg = false ∧ T_int.zero = [.int .i64 0] ∧ T_int.kind = .int .i64 := ⟨rfl, rfl, rfl⟩
@[simp] theorem T_int_id : T_int.id = t_int := rfl
def T_bool : TI := { size := 1, bytes := 1, agg := false, zero := [.bool false], kind := .bool, id := 4 }
@[simp] theorem T_bool_size : T_bool.size = 1 := rfl
@[simp] theorem T_bool_s : T_bool.agg = false ∧ T_bool.zero = [.bool false] ∧ T_bool.kind = .bool := ⟨rfl, rfl, rfl⟩
def T_uint8 : TI := { size := 1, bytes := 1, agg := false, zero := [.int .u8 0], kind := .int .u8, id := 5 }
@[simp] theorem T_uint8_size : T_uint8.size = 1 := rfl
@[simp] theorem T_uint8_s : T_uint8.agg = false ∧ T_uint8.zero = [.int .u8 0] ∧ T_uint8.kind = .int .u8 := ⟨rfl, rfl, rfl⟩
@[simp] theorem T_uint8_id : T_uint8.id = t_uint8 := rfl
def T_abi_BoundsErrorCode : TI := { size := 1, bytes := 1, agg := false, zero := [.int .u8 0], kind := .int .u8, id := 6 }
@[simp] theorem T_abi_BoundsErrorCode_size : T_abi_BoundsErrorCode.size = 1 := rfl
@[simp] theorem T_abi_BoundsErrorCode_s : T_abi_BoundsErrorCode.agg = false ∧ T_abi_BoundsErrorCode.zero = [.int .u8 0] ∧ T_abi_BoundsErrorCode.kind = .int .u8 := ⟨rfl, rfl, rfl⟩
def T_struct_x_int64_y_int_signed_bool_code_abi_BoundsErrorCode : TI := { size := 4, bytes := 24, agg := true, zero := [.int .i64 0, .int .i64 0, .bool false, .int .u8 0], kind := .struct [(0, 2, 1), (1, 3, 1), (2, 4, 1), (3, 6, 1)], id := 7 }
@[simp] theorem T_struct_x_int64_y_int_signed_bool_code_abi_BoundsErrorCode_size : T_struct_x_int64_y_int_signed_bool_code_abi_BoundsErrorCode.size = 4 := rfl
@[simp] theorem T_struct_x_int64_y_int_signed_bool_code_abi_BoundsErrorCode_s : T_struct_x_int64_y_int_signed_bool_code_abi_BoundsErrorCode.agg = true ∧ T_struct_x_int64_y_int_signed_bool_code_abi_BoundsErrorCode.zero = [.int .i64 0, .int .i64 0, .bool false, .int .u8 0] ∧ T_struct_x_int64_y_int_signed_bool_code_abi_BoundsErrorCode.kind = .struct [(0, 2, 1), (1, 3, 1), (2, 4, 1), (3, 6, 1)] := ⟨rfl, rfl, rfl⟩
def T_runtime_boundsError : TI := { size := 4, bytes := 24, agg := true, zero := [.int .i64 0, .int .i64 0, .bool false, .int .u8 0], kind := .struct [(0, 2, 1), (1, 3, 1), (2, 4, 1), (3, 6, 1)], id := 8 }
@[simp] theorem T_runtime_boundsError_size : T_runtime_boundsError.size = 4 := rfl
@[simp] theorem T_runtime_boundsError_s : T_runtime_boundsError.agg = true ∧ T_runtime_boundsError.zero = [.int .i64 0, .int .i64 0, .bool false, .int .u8 0] ∧ T_runtime_boundsError.kind = .struct [(0, 2, 1), (1, 3, 1), (2, 4, 1), (3, 6, 1)] := ⟨rfl, rfl, rfl⟩
def T_string : TI := { size := 1, bytes := 16, agg := false, zero := [.str []], kind := .str, id := 9 }
@[simp] theorem T_string_size : T_string.size = 1 := rfl
@[simp] theorem T_string_s : T_string.agg = false ∧ T_string.zero = [.str []] ∧ T_string.kind = .str := ⟨rfl, rfl, rfl⟩
@[simp] theorem T_string_id : T_string.id = t_string := rfl
def T_runtime_errorString : TI := { size := 1, bytes := 16, agg := false, zero := [.str []], kind := .str, id := 10 }
@[simp] theorem T_runtime_errorString_size : T_runtime_errorString.size = 1 := rfl
@[simp] theorem T_runtime_errorString_s : T_runtime_errorString.agg = false ∧ T_runtime_errorString.zero = [.str []] ∧ T_runtime_errorString.kind = .str := ⟨rfl, rfl, rfl⟩
def T_uintptr : TI := { size := 1, bytes := 8, agg := false, zero := [.int .u64 0], kind := .int .u64, id := 12 }
@[simp] theorem T_uintptr_size : T_uintptr.size = 1 := rfl
@[simp] theorem T_uintptr_s : T_uintptr.agg = false ∧ T_uintptr.zero = [.int .u64 0] ∧ T_uintptr.kind = .int .u64 := ⟨rfl, rfl, rfl⟩
def T_p_runtime_PanicNilError : TI := { size := 1, bytes := 8, agg := false, zero := [.nil], kind := .ptr 304, id := 16 }
@[simp] theorem T_p_runtime_PanicNilError_size : T_p_runtime_PanicNilError.size = 1 := rfl
@[simp] theorem T_p_runtime_PanicNilError_s : T_p_runtime_PanicNilError.agg = false ∧ T_p_runtime_PanicNilError.zero = [.nil] ∧ T_p_runtime_PanicNilError.kind = .ptr 304 := ⟨rfl, rfl, rfl⟩
def T_p_abi_Type : TI := { size := 1, bytes := 8, agg := false, zero := [.nil], kind := .ptr 311, id := 17 }
@[simp] theorem T_p_abi_Type_size : T_p_abi_Type.size = 1 := rfl
@[simp] theorem T_p_abi_Type_s : T_p_abi_Type.agg = false ∧ T_p_abi_Type.zero = [.nil] ∧ T_p_abi_Type.kind = .ptr 311 := ⟨rfl, rfl, rfl⟩
def T_interface : TI := { size := 1, bytes := 16, agg := false, zero := [.nilifc], kind := .iface, id := 20 }
@[simp] theorem T_interface_size : T_interface.size = 1 := rfl
@[simp] theorem T_interface_s : T_interface.agg = false ∧ T_interface.zero = [.nilifc] ∧ T_interface.kind = .iface := ⟨rfl, rfl, rfl⟩
def T_int32 : TI := { size := 1, bytes := 4, agg := false, zero := [.int .i32 0], kind := .int .i32, id := 21 }
@[simp] theorem T_int32_size : T_int32.size = 1 := rfl
@[simp] theorem T_int32_s : T_int32.agg = false ∧ T_int32.zero = [.int .i32 0] ∧ T_int32.kind = .int .i32 := ⟨rfl, rfl, rfl⟩
def T_s_api_Node : TI := { size := 1, bytes := 24, agg := false, zero := [.vs 7 [] .nil], kind := .slice 73, id := 22 }
@[simp] theorem T_s_api_Node_size : T_s_api_Node.size = 1 := rfl
@[simp] theorem T_s_api_Node_s : T_s_api_Node.agg = false ∧ T_s_api_Node.zero = [.vs 7 [] .nil] ∧ T_s_api_Node.kind = .slice 73 := ⟨rfl, rfl, rfl⟩
@[simp] theorem T_s_api_Node_id : T_s_api_Node.id = t_s_api_Node := rfl
def T_struct_Trees_s_api_Node_Path_string_Follow_bool : TI := { size := 3, bytes := 48, agg := true, zero := [.vs 7 [] .nil, .str [], .bool false], kind := .struct [(0, 22, 1), (1, 9, 1), (2, 4, 1)], id := 23 }
@[simp] theorem T_struct_Trees_s_api_Node_Path_string_Follow_bool_size : T_struct_Trees_s_api_Node_Path_string_Follow_bool.size = 3 := rfl
@[simp] theorem T_struct_Trees_s_api_Node_Path_string_Follow_bool_s : T_struct_Trees_s_api_Node_Path_string_Follow_bool.agg = true ∧ T_struct_Trees_s_api_Node_Path_string_Follow_bool.zero = [.vs 7 [] .nil, .str [], .bool false] ∧ T_struct_Trees_s_api_Node_Path_string_Follow_bool.kind = .struct [(0, 22, 1), (1, 9, 1), (2, 4, 1)] := ⟨rfl, rfl, rfl⟩
def T_socagelaw11_Case : TI := { size := 3, bytes := 48, agg := true, zero := [.vs 7 [] .nil, .str [], .bool false], kind := .struct [(0, 22, 1), (1, 9, 1), (2, 4, 1)], id := 24 }
@[simp] theorem T_socagelaw11_Case_size : T_socagelaw11_Case.size = 3 := rfl
@[simp] theorem T_socagelaw11_Case_s : T_socagelaw11_Case.agg = true ∧ T_socagelaw11_Case.zero = [.vs 7 [] .nil, .str [], .bool false] ∧ T_socagelaw11_Case.kind = .struct [(0, 22, 1), (1, 9, 1), (2, 4, 1)] := ⟨rfl, rfl, rfl⟩
@[simp] theorem T_socagelaw11_Case_id : T_socagelaw11_Case.id = t_socagelaw11_Case := rfl
def T_s_stack_mount : TI := { size := 1, bytes := 24, agg := false, zero := [.vs 2 [] .nil], kind := .slice 133, id := 27 }
@[simp] theorem T_s_stack_mount_size : T_s_stack_mount.size = 1 := rfl
@[simp] theorem T_s_stack_mount_s : T_s_stack_mount.agg = false ∧ T_s_stack_mount.zero = [.vs 2 [] .nil] ∧ T_s_stack_mount.kind = .slice 133 := ⟨rfl, rfl, rfl⟩
def T_struct_l_s_stack_mount_next_int : TI := { size := 2, bytes := 32, agg := true, zero := [.vs 2 [] .nil, .int .i64 0], kind := .struct [(0, 27, 1), (1, 3, 1)], id := 28 }
@[simp] theorem T_struct_l_s_stack_mount_next_int_size : T_struct_l_s_stack_mount_next_int.size = 2 := rfl
@[simp] theorem T_struct_l_s_stack_mount_next_int_s : T_struct_l_s_stack_mount_next_int.agg = true ∧ T_struct_l_s_stack_mount_next_int.zero = [.vs 2 [] .nil, .int .i64 0] ∧ T_struct_l_s_stack_mount_next_int.kind = .struct [(0, 27, 1), (1, 3, 1)] := ⟨rfl, rfl, rfl⟩
def T_stack_Stack : TI := { size := 2, bytes := 32, agg := true, zero := [.vs 2 [] .nil, .int .i64 0], kind := .struct [(0, 27, 1), (1, 3, 1)], id := 29 }
@[simp] theorem T_stack_Stack_size : T_stack_Stack.size = 2 := rfl
@[simp] theorem T_stack_Stack_s : T_stack_Stack.agg = true ∧ T_stack_Stack.zero = [.vs 2 [] .nil, .int .i64 0] ∧ T_stack_Stack.kind = .struct [(0, 27, 1), (1, 3, 1)] := ⟨rfl, rfl, rfl⟩
def T_func_stack_Stack_string_bool : TI := { size := 1, bytes := 8, agg := false, zero := [.nilfn], kind := .func, id := 32 }
@[simp] theorem T_func_stack_Stack_string_bool_size : T_func_stack_Stack_string_bool.size = 1 := rfl
@[simp] theorem T_func_stack_Stack_string_bool_s : T_func_stack_Stack_string_bool.agg = false ∧ T_func_stack_Stack_string_bool.zero = [.nilfn] ∧ T_func_stack_Stack_string_bool.kind = .func := ⟨rfl, rfl, rfl⟩
def T_struct_Level_int_Inode_int : TI := { size := 2, bytes := 16, agg := true, zero := [.int .i64 0, .int .i64 0], kind := .struct [(0, 3, 1), (1, 3, 1)], id := 33 }
@[simp] theorem T_struct_Level_int_Inode_int_size : T_struct_Level_int_Inode_int.size = 2 := rfl
@[simp] theorem T_struct_Level_int_Inode_int_s : T_struct_Level_int_Inode_int.agg = true ∧ T_struct_Level_int_Inode_int.zero = [.int .i64 0, .int .i64 0] ∧ T_struct_Level_int_Inode_int.kind = .struct [(0, 3, 1), (1, 3, 1)] := ⟨rfl, rfl, rfl⟩
def T_seen_Spot : TI := { size := 2, bytes := 16, agg := true, zero := [.int .i64 0, .int .i64 0], kind := .struct [(0, 3, 1), (1, 3, 1)], id := 34 }
@[simp] theorem T_seen_Spot_size : T_seen_Spot.size = 2 := rfl
@[simp] theorem T_seen_Spot_s : T_seen_Spot.agg = true ∧ T_seen_Spot.zero = [.int .i64 0, .int .i64 0] ∧ T_seen_Spot.kind = .struct [(0, 3, 1), (1, 3, 1)] := ⟨rfl, rfl, rfl⟩
def T_s_seen_Spot : TI := { size := 1, bytes := 24, agg := false, zero := [.vs 2 [] .nil], kind := .slice 34, id := 35 }
@[simp] theorem T_s_seen_Spot_size : T_s_seen_Spot.size = 1 := rfl
@[simp] theorem T_s_seen_Spot_s : T_s_seen_Spot.agg = false ∧ T_s_seen_Spot.zero = [.vs 2 [] .nil] ∧ T_s_seen_Spot.kind = .slice 34 := ⟨rfl, rfl, rfl⟩
def T_seen_Place : TI := { size := 1, bytes := 24, agg := false, zero := [.vs 2 [] .nil], kind := .slice 34, id := 36 }
@[simp] theorem T_seen_Place_size : T_seen_Place.size = 1 := rfl
@[simp] theorem T_seen_Place_s : T_seen_Place.agg = false ∧ T_seen_Place.zero = [.vs 2 [] .nil] ∧ T_seen_Place.kind = .slice 34 := ⟨rfl, rfl, rfl⟩
def T_struct_Kind_int_seen_Spot_Dirs_seen_Place : TI := { size := 4, bytes := 48, agg := true, zero := [.int .i64 0, .int .i64 0, .int .i64 0, .vs 2 [] .nil], kind := .struct [(0, 3, 1), (1, 34, 2), (3, 36, 1)], id := 37 }
@[simp] theorem T_struct_Kind_int_seen_Spot_Dirs_seen_Place_size : T_struct_Kind_int_seen_Spot_Dirs_seen_Place.size = 4 := rfl
@[simp] theorem T_struct_Kind_int_seen_Spot_Dirs_seen_Place_s : T_struct_Kind_int_seen_Spot_Dirs_seen_Place.agg = true ∧ T_struct_Kind_int_seen_Spot_Dirs_seen_Place.zero = [.int .i64 0, .int .i64 0, .int .i64 0, .vs 2 [] .nil] ∧ T_struct_Kind_int_seen_Spot_Dirs_seen_Place.kind = .struct [(0, 3, 1), (1, 34, 2), (3, 36, 1)] := ⟨rfl, rfl, rfl⟩
def T_seen_Found : TI := { size := 4, bytes := 48, agg := true, zero := [.int .i64 0, .int .i64 0, .int .i64 0, .vs 2 [] .nil], kind := .struct [(0, 3, 1), (1, 34, 2), (3, 36, 1)], id := 38 }
@[simp] theorem T_seen_Found_size : T_seen_Found.size = 4 := rfl
@[simp] theorem T_seen_Found_s : T_seen_Found.agg = true ∧ T_seen_Found.zero = [.int .i64 0, .int .i64 0, .int .i64 0, .vs 2 [] .nil] ∧ T_seen_Found.kind = .struct [(0, 3, 1), (1, 34, 2), (3, 36, 1)] := ⟨rfl, rfl, rfl⟩
def T_struct_Path_string_seen_Found : TI := { size := 5, bytes := 64, agg := true, zero := [.str [], .int .i64 0, .int .i64 0, .int .i64 0, .vs 2 [] .nil], kind := .struct [(0, 9, 1), (1, 38, 4)], id := 39 }
@[simp] theorem T_struct_Path_string_seen_Found_size : T_struct_Path_string_seen_Found.size = 5 := rfl
@[simp] theorem T_struct_Path_string_seen_Found_s : T_struct_Path_string_seen_Found.agg = true ∧ T_struct_Path_string_seen_Found.zero = [.str [], .int .i64 0, .int .i64 0, .int .i64 0, .vs 2 [] .nil] ∧ T_struct_Path_string_seen_Found.kind = .struct [(0, 9, 1), (1, 38, 4)] := ⟨rfl, rfl, rfl⟩
def T_walk_Target : TI := { size := 5, bytes := 64, agg := true, zero := [.str [], .int .i64 0, .int .i64 0, .int .i64 0, .vs 2 [] .nil], kind := .struct [(0, 9, 1), (1, 38, 4)], id := 40 }
@[simp] theorem T_walk_Target_size : T_walk_Target.size = 5 := rfl
@[simp] theorem T_walk_Target_s : T_walk_Target.agg = true ∧ T_walk_Target.zero = [.str [], .int .i64 0, .int .i64 0, .int .i64 0, .vs 2 [] .nil] ∧ T_walk_Target.kind = .struct [(0, 9, 1), (1, 38, 4)] := ⟨rfl, rfl, rfl⟩
@[simp] theorem T_walk_Target_id : T_walk_Target.id = t_walk_Target := rfl
def T_api_Errno : TI := { size := 1, bytes := 8, agg := false, zero := [.int .i64 0], kind := .int .i64, id := 41 }
@[simp] theorem T_api_Errno_size : T_api_Errno.size = 1 := rfl
@[simp] theorem T_api_Errno_s : T_api_Errno.agg = false ∧ T_api_Errno.zero = [.int .i64 0] ∧ T_api_Errno.kind = .int .i64 := ⟨rfl, rfl, rfl⟩
def T_s_string : TI := { size := 1, bytes := 24, agg := false, zero := [.vs 1 [] .nil], kind := .slice 9, id := 44 }
@[simp] theorem T_s_string_size : T_s_string.size = 1 := rfl
@[simp] theorem T_s_string_s : T_s_string.agg = false ∧ T_s_string.zero = [.vs 1 [] .nil] ∧ T_s_string.kind = .slice 9 := ⟨rfl, rfl, rfl⟩
@[simp] theorem T_s_string_id : T_s_string.id = t_s_string := rfl
def T_struct_Err_api_Errno_Kind_int_Size_int_Where_int_45eddcb9 : TI := { size := 8, bytes := 88, agg := true, zero := [.int .i64 0, .int .i64 0, .int .i64 0, .int .i64 0, .int .i64 0, .str [], .vs 1 [] .nil, .bool false], kind := .struct [(0, 41, 1), (1, 3, 1), (2, 3, 1), (3, 3, 1), (4, 3, 1), (5, 9, 1), (6, 44, 1), (7, 4, 1)], id := 45 }
@[simp] theorem T_struct_Err_api_Errno_Kind_int_Size_int_Where_int_45eddcb9_size : T_struct_Err_api_Errno_Kind_int_Size_int_Where_int_45eddcb9.size = 8 := rfl
@[simp] theorem T_struct_Err_api_Errno_Kind_int_Size_int_Where_int_45eddcb9_s : T_struct_Err_api_Errno_Kind_int_Size_int_Where_int_45eddcb9.agg = true ∧ T_struct_Err_api_Errno_Kind_int_Size_int_Where_int_45eddcb9.zero = [.int .i64 0, .int .i64 0, .int .i64 0, .int .i64 0, .int .i64 0, .str [], .vs 1 [] .nil, .bool false] ∧ T_struct_Err_api_Errno_Kind_int_Size_int_Where_int_45eddcb9.kind = .struct [(0, 41, 1), (1, 3, 1), (2, 3, 1), (3, 3, 1), (4, 3, 1), (5, 9, 1), (6, 44, 1), (7, 4, 1)] := ⟨rfl, rfl, rfl⟩
def T_api_Result : TI := { size := 8, bytes := 88, agg := true, zero := [.int .i64 0, .int .i64 0, .int .i64 0, .int .i64 0, .int .i64 0, .str [], .vs 1 [] .nil, .bool false], kind := .struct [(0, 41, 1), (1, 3, 1), (2, 3, 1), (3, 3, 1), (4, 3, 1), (5, 9, 1), (6, 44, 1), (7, 4, 1)], id := 46 }
@[simp] theorem T_api_Result_size : T_api_Result.size = 8 := rfl
@[simp] theorem T_api_Result_s : T_api_Result.agg = true ∧ T_api_Result.zero = [.int .i64 0, .int .i64 0, .int .i64 0, .int .i64 0, .int .i64 0, .str [], .vs 1 [] .nil, .bool false] ∧ T_api_Result.kind = .struct [(0, 41, 1), (1, 3, 1), (2, 3, 1), (3, 3, 1), (4, 3, 1), (5, 9, 1), (6, 44, 1), (7, 4, 1)] := ⟨rfl, rfl, rfl⟩
def T_struct_Kind_int_Path_string_Off_int_N_int_ID_int_affe776d : TI := { size := 6, bytes := 64, agg := true, zero := [.int .i64 0, .str [], .int .i64 0, .int .i64 0, .int .i64 0, .str []], kind := .struct [(0, 3, 1), (1, 9, 1), (2, 3, 1), (3, 3, 1), (4, 3, 1), (5, 9, 1)], id := 48 }
@[simp] theorem T_struct_Kind_int_Path_string_Off_int_N_int_ID_int_affe776d_size : T_struct_Kind_int_Path_string_Off_int_N_int_ID_int_affe776d.size = 6 := rfl
@[simp] theorem T_struct_Kind_int_Path_string_Off_int_N_int_ID_int_affe776d_s : T_struct_Kind_int_Path_string_Off_int_N_int_ID_int_affe776d.agg = true ∧ T_struct_Kind_int_Path_string_Off_int_N_int_ID_int_affe776d.zero = [.int .i64 0, .str [], .int .i64 0, .int .i64 0, .int .i64 0, .str []] ∧ T_struct_Kind_int_Path_string_Off_int_N_int_ID_int_affe776d.kind = .struct [(0, 3, 1), (1, 9, 1), (2, 3, 1), (3, 3, 1), (4, 3, 1), (5, 9, 1)] := ⟨rfl, rfl, rfl⟩
def T_api_Op : TI := { size := 6, bytes := 64, agg := true, zero := [.int .i64 0, .str [], .int .i64 0, .int .i64 0, .int .i64 0, .str []], kind := .struct [(0, 3, 1), (1, 9, 1), (2, 3, 1), (3, 3, 1), (4, 3, 1), (5, 9, 1)], id := 49 }
@[simp] theorem T_api_Op_size : T_api_Op.size = 6 := rfl
@[simp] theorem T_api_Op_s : T_api_Op.agg = true ∧ T_api_Op.zero = [.int .i64 0, .str [], .int .i64 0, .int .i64 0, .int .i64 0, .str []] ∧ T_api_Op.kind = .struct [(0, 3, 1), (1, 9, 1), (2, 3, 1), (3, 3, 1), (4, 3, 1), (5, 9, 1)] := ⟨rfl, rfl, rfl⟩
def T_s_int : TI := { size := 1, bytes := 24, agg := false, zero := [.vs 1 [] .nil], kind := .slice 3, id := 54 }
@[simp] theorem T_s_int_size : T_s_int.size = 1 := rfl
@[simp] theorem T_s_int_s : T_s_int.agg = false ∧ T_s_int.zero = [.vs 1 [] .nil] ∧ T_s_int.kind = .slice 3 := ⟨rfl, rfl, rfl⟩
def T_func_s_api_Node_api_Op_bool : TI := { size := 1, bytes := 8, agg := false, zero := [.nilfn], kind := .func, id := 56 }
@[simp] theorem T_func_s_api_Node_api_Op_bool_size : T_func_s_api_Node_api_Op_bool.size = 1 := rfl
@[simp] theorem T_func_s_api_Node_api_Op_bool_s : T_func_s_api_Node_api_Op_bool.agg = false ∧ T_func_s_api_Node_api_Op_bool.zero = [.nilfn] ∧ T_func_s_api_Node_api_Op_bool.kind = .func := ⟨rfl, rfl, rfl⟩
def T_s_merge_Entry : TI := { size := 1, bytes := 24, agg := false, zero := [.vs 2 [] .nil], kind := .slice 68, id := 60 }
@[simp] theorem T_s_merge_Entry_size : T_s_merge_Entry.size = 1 := rfl
@[simp] theorem T_s_merge_Entry_s : T_s_merge_Entry.agg = false ∧ T_s_merge_Entry.zero = [.vs 2 [] .nil] ∧ T_s_merge_Entry.kind = .slice 68 := ⟨rfl, rfl, rfl⟩
def T_s_socageref10_Entry : TI := { size := 1, bytes := 24, agg := false, zero := [.vs 2 [] .nil], kind := .slice 69, id := 63 }
@[simp] theorem T_s_socageref10_Entry_size : T_s_socageref10_Entry.size = 1 := rfl
@[simp] theorem T_s_socageref10_Entry_s : T_s_socageref10_Entry.agg = false ∧ T_s_socageref10_Entry.zero = [.vs 2 [] .nil] ∧ T_s_socageref10_Entry.kind = .slice 69 := ⟨rfl, rfl, rfl⟩
def T_struct_Name_string_Kind_int : TI := { size := 2, bytes := 24, agg := true, zero := [.str [], .int .i64 0], kind := .struct [(0, 9, 1), (1, 3, 1)], id := 67 }
@[simp] theorem T_struct_Name_string_Kind_int_size : T_struct_Name_string_Kind_int.size = 2 := rfl
@[simp] theorem T_struct_Name_string_Kind_int_s : T_struct_Name_string_Kind_int.agg = true ∧ T_struct_Name_string_Kind_int.zero = [.str [], .int .i64 0] ∧ T_struct_Name_string_Kind_int.kind = .struct [(0, 9, 1), (1, 3, 1)] := ⟨rfl, rfl, rfl⟩
def T_merge_Entry : TI := { size := 2, bytes := 24, agg := true, zero := [.str [], .int .i64 0], kind := .struct [(0, 9, 1), (1, 3, 1)], id := 68 }
@[simp] theorem T_merge_Entry_size : T_merge_Entry.size = 2 := rfl
@[simp] theorem T_merge_Entry_s : T_merge_Entry.agg = true ∧ T_merge_Entry.zero = [.str [], .int .i64 0] ∧ T_merge_Entry.kind = .struct [(0, 9, 1), (1, 3, 1)] := ⟨rfl, rfl, rfl⟩
def T_socageref10_Entry : TI := { size := 2, bytes := 24, agg := true, zero := [.str [], .int .i64 0], kind := .struct [(0, 9, 1), (1, 3, 1)], id := 69 }
@[simp] theorem T_socageref10_Entry_size : T_socageref10_Entry.size = 2 := rfl
@[simp] theorem T_socageref10_Entry_s : T_socageref10_Entry.agg = true ∧ T_socageref10_Entry.zero = [.str [], .int .i64 0] ∧ T_socageref10_Entry.kind = .struct [(0, 9, 1), (1, 3, 1)] := ⟨rfl, rfl, rfl⟩
def T_s_api_Extent : TI := { size := 1, bytes := 24, agg := false, zero := [.vs 2 [] .nil], kind := .slice 172, id := 71 }
@[simp] theorem T_s_api_Extent_size : T_s_api_Extent.size = 1 := rfl
@[simp] theorem T_s_api_Extent_s : T_s_api_Extent.agg = false ∧ T_s_api_Extent.zero = [.vs 2 [] .nil] ∧ T_s_api_Extent.kind = .slice 172 := ⟨rfl, rfl, rfl⟩
def T_struct_Kind_int_Opaque_bool_Names_s_string_Items_8666df6f : TI := { size := 7, bytes := 112, agg := true, zero := [.int .i64 0, .bool false, .vs 1 [] .nil, .vs 7 [] .nil, .int .i64 0, .vs 2 [] .nil, .str []], kind := .struct [(0, 3, 1), (1, 4, 1), (2, 44, 1), (3, 22, 1), (4, 3, 1), (5, 71, 1), (6, 9, 1)], id := 72 }
@[simp] theorem T_struct_Kind_int_Opaque_bool_Names_s_string_Items_8666df6f_size : T_struct_Kind_int_Opaque_bool_Names_s_string_Items_8666df6f.size = 7 := rfl
@[simp] theorem T_struct_Kind_int_Opaque_bool_Names_s_string_Items_8666df6f_s : T_struct_Kind_int_Opaque_bool_Names_s_string_Items_8666df6f.agg = true ∧ T_struct_Kind_int_Opaque_bool_Names_s_string_Items_8666df6f.zero = [.int .i64 0, .bool false, .vs 1 [] .nil, .vs 7 [] .nil, .int .i64 0, .vs 2 [] .nil, .str []] ∧ T_struct_Kind_int_Opaque_bool_Names_s_string_Items_8666df6f.kind = .struct [(0, 3, 1), (1, 4, 1), (2, 44, 1), (3, 22, 1), (4, 3, 1), (5, 71, 1), (6, 9, 1)] := ⟨rfl, rfl, rfl⟩
def T_api_Node : TI := { size := 7, bytes := 112, agg := true, zero := [.int .i64 0, .bool false, .vs 1 [] .nil, .vs 7 [] .nil, .int .i64 0, .vs 2 [] .nil, .str []], kind := .struct [(0, 3, 1), (1, 4, 1), (2, 44, 1), (3, 22, 1), (4, 3, 1), (5, 71, 1), (6, 9, 1)], id := 73 }
@[simp] theorem T_api_Node_size : T_api_Node.size = 7 := rfl
@[simp] theorem T_api_Node_s : T_api_Node.agg = true ∧ T_api_Node.zero = [.int .i64 0, .bool false, .vs 1 [] .nil, .vs 7 [] .nil, .int .i64 0, .vs 2 [] .nil, .str []] ∧ T_api_Node.kind = .struct [(0, 3, 1), (1, 4, 1), (2, 44, 1), (3, 22, 1), (4, 3, 1), (5, 71, 1), (6, 9, 1)] := ⟨rfl, rfl, rfl⟩
@[simp] theorem T_api_Node_id : T_api_Node.id = t_api_Node := rfl
def T_func_string_api_Node_bool : TI := { size := 1, bytes := 8, agg := false, zero := [.nilfn], kind := .func, id := 80 }
@[simp] theorem T_func_string_api_Node_bool_size : T_func_string_api_Node_bool.size = 1 := rfl
@[simp] theorem T_func_string_api_Node_bool_s : T_func_string_api_Node_bool.agg = false ∧ T_func_string_api_Node_bool.zero = [.nilfn] ∧ T_func_string_api_Node_bool.kind = .func := ⟨rfl, rfl, rfl⟩
def T_p_walk_Walker : TI := { size := 1, bytes := 8, agg := false, zero := [.nil], kind := .ptr 141, id := 88 }
@[simp] theorem T_p_walk_Walker_size : T_p_walk_Walker.size = 1 := rfl
@[simp] theorem T_p_walk_Walker_s : T_p_walk_Walker.agg = false ∧ T_p_walk_Walker.zero = [.nil] ∧ T_p_walk_Walker.kind = .ptr 141 := ⟨rfl, rfl, rfl⟩
def T_func_stack_Stack_seen_Place_string_seen_Found_bool : TI := { size := 1, bytes := 8, agg := false, zero := [.nilfn], kind := .func, id := 96 }
@[simp] theorem T_func_stack_Stack_seen_Place_string_seen_Found_bool_size : T_func_stack_Stack_seen_Place_string_seen_Found_bool.size = 1 := rfl
@[simp] theorem T_func_stack_Stack_seen_Place_string_seen_Found_bool_s : T_func_stack_Stack_seen_Place_string_seen_Found_bool.agg = false ∧ T_func_stack_Stack_seen_Place_string_seen_Found_bool.zero = [.nilfn] ∧ T_func_stack_Stack_seen_Place_string_seen_Found_bool.kind = .func := ⟨rfl, rfl, rfl⟩
def T_p_branch_Branch : TI := { size := 1, bytes := 8, agg := false, zero := [.nil], kind := .ptr 178, id := 97 }
@[simp] theorem T_p_branch_Branch_size : T_p_branch_Branch.size = 1 := rfl
@[simp] theorem T_p_branch_Branch_s : T_p_branch_Branch.agg = false ∧ T_p_branch_Branch.zero = [.nil] ∧ T_p_branch_Branch.kind = .ptr 178 := ⟨rfl, rfl, rfl⟩
def T_struct_Names_s_string_Nodes_s_api_Node_Err_int : TI := { size := 3, bytes := 56, agg := true, zero := [.vs 1 [] .nil, .vs 7 [] .nil, .int .i64 0], kind := .struct [(0, 44, 1), (1, 22, 1), (2, 3, 1)], id := 103 }
@[simp] theorem T_struct_Names_s_string_Nodes_s_api_Node_Err_int_size : T_struct_Names_s_string_Nodes_s_api_Node_Err_int.size = 3 := rfl
@[simp] theorem T_struct_Names_s_string_Nodes_s_api_Node_Err_int_s : T_struct_Names_s_string_Nodes_s_api_Node_Err_int.agg = true ∧ T_struct_Names_s_string_Nodes_s_api_Node_Err_int.zero = [.vs 1 [] .nil, .vs 7 [] .nil, .int .i64 0] ∧ T_struct_Names_s_string_Nodes_s_api_Node_Err_int.kind = .struct [(0, 44, 1), (1, 22, 1), (2, 3, 1)] := ⟨rfl, rfl, rfl⟩
def T_socageref11_At : TI := { size := 3, bytes := 56, agg := true, zero := [.vs 1 [] .nil, .vs 7 [] .nil, .int .i64 0], kind := .struct [(0, 44, 1), (1, 22, 1), (2, 3, 1)], id := 104 }
@[simp] theorem T_socageref11_At_size : T_socageref11_At.size = 3 := rfl
@[simp] theorem T_socageref11_At_s : T_socageref11_At.agg = true ∧ T_socageref11_At.zero = [.vs 1 [] .nil, .vs 7 [] .nil, .int .i64 0] ∧ T_socageref11_At.kind = .struct [(0, 44, 1), (1, 22, 1), (2, 3, 1)] := ⟨rfl, rfl, rfl⟩
def T_struct_Shards_int_Room_int_Cursors_int : TI := { size := 3, bytes := 24, agg := true, zero := [.int .i64 0, .int .i64 0, .int .i64 0], kind := .struct [(0, 3, 1), (1, 3, 1), (2, 3, 1)], id := 111 }
@[simp] theorem T_struct_Shards_int_Room_int_Cursors_int_size : T_struct_Shards_int_Room_int_Cursors_int.size = 3 := rfl
@[simp] theorem T_struct_Shards_int_Room_int_Cursors_int_s : T_struct_Shards_int_Room_int_Cursors_int.agg = true ∧ T_struct_Shards_int_Room_int_Cursors_int.zero = [.int .i64 0, .int .i64 0, .int .i64 0] ∧ T_struct_Shards_int_Room_int_Cursors_int.kind = .struct [(0, 3, 1), (1, 3, 1), (2, 3, 1)] := ⟨rfl, rfl, rfl⟩
def T_server_Config : TI := { size := 3, bytes := 24, agg := true, zero := [.int .i64 0, .int .i64 0, .int .i64 0], kind := .struct [(0, 3, 1), (1, 3, 1), (2, 3, 1)], id := 112 }
@[simp] theorem T_server_Config_size : T_server_Config.size = 3 := rfl
@[simp] theorem T_server_Config_s : T_server_Config.agg = true ∧ T_server_Config.zero = [.int .i64 0, .int .i64 0, .int .i64 0] ∧ T_server_Config.kind = .struct [(0, 3, 1), (1, 3, 1), (2, 3, 1)] := ⟨rfl, rfl, rfl⟩
def T_s_s_api_Op : TI := { size := 1, bytes := 24, agg := false, zero := [.vs 1 [] .nil], kind := .slice 118, id := 113 }
@[simp] theorem T_s_s_api_Op_size : T_s_s_api_Op.size = 1 := rfl
@[simp] theorem T_s_s_api_Op_s : T_s_s_api_Op.agg = false ∧ T_s_s_api_Op.zero = [.vs 1 [] .nil] ∧ T_s_s_api_Op.kind = .slice 118 := ⟨rfl, rfl, rfl⟩
def T_struct_Config_server_Config_Images_s_string_Clie_8f63a109 : TI := { size := 6, bytes := 96, agg := true, zero := [.int .i64 0, .int .i64 0, .int .i64 0, .vs 1 [] .nil, .vs 1 [] .nil, .vs 1 [] .nil], kind := .struct [(0, 112, 3), (3, 44, 1), (4, 113, 1), (5, 54, 1)], id := 114 }
@[simp] theorem T_struct_Config_server_Config_Images_s_string_Clie_8f63a109_size : T_struct_Config_server_Config_Images_s_string_Clie_8f63a109.size = 6 := rfl
@[simp] theorem T_struct_Config_server_Config_Images_s_string_Clie_8f63a109_s : T_struct_Config_server_Config_Images_s_string_Clie_8f63a109.agg = true ∧ T_struct_Config_server_Config_Images_s_string_Clie_8f63a109.zero = [.int .i64 0, .int .i64 0, .int .i64 0, .vs 1 [] .nil, .vs 1 [] .nil, .vs 1 [] .nil] ∧ T_struct_Config_server_Config_Images_s_string_Clie_8f63a109.kind = .struct [(0, 112, 3), (3, 44, 1), (4, 113, 1), (5, 54, 1)] := ⟨rfl, rfl, rfl⟩
def T_script_Script : TI := { size := 6, bytes := 96, agg := true, zero := [.int .i64 0, .int .i64 0, .int .i64 0, .vs 1 [] .nil, .vs 1 [] .nil, .vs 1 [] .nil], kind := .struct [(0, 112, 3), (3, 44, 1), (4, 113, 1), (5, 54, 1)], id := 115 }
@[simp] theorem T_script_Script_size : T_script_Script.size = 6 := rfl
@[simp] theorem T_script_Script_s : T_script_Script.agg = true ∧ T_script_Script.zero = [.int .i64 0, .int .i64 0, .int .i64 0, .vs 1 [] .nil, .vs 1 [] .nil, .vs 1 [] .nil] ∧ T_script_Script.kind = .struct [(0, 112, 3), (3, 44, 1), (4, 113, 1), (5, 54, 1)] := ⟨rfl, rfl, rfl⟩
def T_s_api_Op : TI := { size := 1, bytes := 24, agg := false, zero := [.vs 6 [] .nil], kind := .slice 49, id := 118 }
@[simp] theorem T_s_api_Op_size : T_s_api_Op.size = 1 := rfl
@[simp] theorem T_s_api_Op_s : T_s_api_Op.agg = false ∧ T_s_api_Op.zero = [.vs 6 [] .nil] ∧ T_s_api_Op.kind = .slice 49 := ⟨rfl, rfl, rfl⟩
def T_struct_Node_api_Node_Len_int : TI := { size := 8, bytes := 120, agg := true, zero := [.int .i64 0, .bool false, .vs 1 [] .nil, .vs 7 [] .nil, .int .i64 0, .vs 2 [] .nil, .str [], .int .i64 0], kind := .struct [(0, 73, 7), (7, 3, 1)], id := 124 }
@[simp] theorem T_struct_Node_api_Node_Len_int_size : T_struct_Node_api_Node_Len_int.size = 8 := rfl
@[simp] theorem T_struct_Node_api_Node_Len_int_s : T_struct_Node_api_Node_Len_int.agg = true ∧ T_struct_Node_api_Node_Len_int.zero = [.int .i64 0, .bool false, .vs 1 [] .nil, .vs 7 [] .nil, .int .i64 0, .vs 2 [] .nil, .str [], .int .i64 0] ∧ T_struct_Node_api_Node_Len_int.kind = .struct [(0, 73, 7), (7, 3, 1)] := ⟨rfl, rfl, rfl⟩
def T_socageref05_Got : TI := { size := 8, bytes := 120, agg := true, zero := [.int .i64 0, .bool false, .vs 1 [] .nil, .vs 7 [] .nil, .int .i64 0, .vs 2 [] .nil, .str [], .int .i64 0], kind := .struct [(0, 73, 7), (7, 3, 1)], id := 125 }
@[simp] theorem T_socageref05_Got_size : T_socageref05_Got.size = 8 := rfl
@[simp] theorem T_socageref05_Got_s : T_socageref05_Got.agg = true ∧ T_socageref05_Got.zero = [.int .i64 0, .bool false, .vs 1 [] .nil, .vs 7 [] .nil, .int .i64 0, .vs 2 [] .nil, .str [], .int .i64 0] ∧ T_socageref05_Got.kind = .struct [(0, 73, 7), (7, 3, 1)] := ⟨rfl, rfl, rfl⟩
def T_p_int : TI := { size := 1, bytes := 8, agg := false, zero := [.nil], kind := .ptr 3, id := 131 }
@[simp] theorem T_p_int_size : T_p_int.size = 1 := rfl
@[simp] theorem T_p_int_s : T_p_int.agg = false ∧ T_p_int.zero = [.nil] ∧ T_p_int.kind = .ptr 3 := ⟨rfl, rfl, rfl⟩
def T_struct_id_int_p_branch_Branch : TI := { size := 2, bytes := 16, agg := true, zero := [.int .i64 0, .nil], kind := .struct [(0, 3, 1), (1, 97, 1)], id := 132 }
@[simp] theorem T_struct_id_int_p_branch_Branch_size : T_struct_id_int_p_branch_Branch.size = 2 := rfl
@[simp] theorem T_struct_id_int_p_branch_Branch_s : T_struct_id_int_p_branch_Branch.agg = true ∧ T_struct_id_int_p_branch_Branch.zero = [.int .i64 0, .nil] ∧ T_struct_id_int_p_branch_Branch.kind = .struct [(0, 3, 1), (1, 97, 1)] := ⟨rfl, rfl, rfl⟩
def T_stack_mount : TI := { size := 2, bytes := 16, agg := true, zero := [.int .i64 0, .nil], kind := .struct [(0, 3, 1), (1, 97, 1)], id := 133 }
@[simp] theorem T_stack_mount_size : T_stack_mount.size = 2 := rfl
@[simp] theorem T_stack_mount_s : T_stack_mount.agg = true ∧ T_stack_mount.zero = [.int .i64 0, .nil] ∧ T_stack_mount.kind = .struct [(0, 3, 1), (1, 97, 1)] := ⟨rfl, rfl, rfl⟩
def T_struct_path_string_seen_Place : TI := { size := 2, bytes := 40, agg := true, zero := [.str [], .vs 2 [] .nil], kind := .struct [(0, 9, 1), (1, 36, 1)], id := 136 }
@[simp] theorem T_struct_path_string_seen_Place_size : T_struct_path_string_seen_Place.size = 2 := rfl
@[simp] theorem T_struct_path_string_seen_Place_s : T_struct_path_string_seen_Place.agg = true ∧ T_struct_path_string_seen_Place.zero = [.str [], .vs 2 [] .nil] ∧ T_struct_path_string_seen_Place.kind = .struct [(0, 9, 1), (1, 36, 1)] := ⟨rfl, rfl, rfl⟩
def T_walk_dir : TI := { size := 2, bytes := 40, agg := true, zero := [.str [], .vs 2 [] .nil], kind := .struct [(0, 9, 1), (1, 36, 1)], id := 137 }
@[simp] theorem T_walk_dir_size : T_walk_dir.size = 2 := rfl
@[simp] theorem T_walk_dir_s : T_walk_dir.agg = true ∧ T_walk_dir.zero = [.str [], .vs 2 [] .nil] ∧ T_walk_dir.kind = .struct [(0, 9, 1), (1, 36, 1)] := ⟨rfl, rfl, rfl⟩
def T_s_walk_dir : TI := { size := 1, bytes := 24, agg := false, zero := [.vs 2 [] .nil], kind := .slice 137, id := 138 }
@[simp] theorem T_s_walk_dir_size : T_s_walk_dir.size = 1 := rfl
@[simp] theorem T_s_walk_dir_s : T_s_walk_dir.agg = false ∧ T_s_walk_dir.zero = [.vs 2 [] .nil] ∧ T_s_walk_dir.kind = .slice 137 := ⟨rfl, rfl, rfl⟩
def T_p_walk_Target : TI := { size := 1, bytes := 8, agg := false, zero := [.nil], kind := .ptr 40, id := 139 }
@[simp] theorem T_p_walk_Target_size : T_p_walk_Target.size = 1 := rfl
@[simp] theorem T_p_walk_Target_s : T_p_walk_Target.agg = false ∧ T_p_walk_Target.zero = [.nil] ∧ T_p_walk_Target.kind = .ptr 40 := ⟨rfl, rfl, rfl⟩
def T_struct_todo_s_string_dirs_s_walk_dir_follow_bool_b4679ffd : TI := { size := 5, bytes := 72, agg := true, zero := [.vs 1 [] .nil, .vs 2 [] .nil, .bool false, .int .i64 0, .nil], kind := .struct [(0, 44, 1), (1, 138, 1), (2, 4, 1), (3, 3, 1), (4, 139, 1)], id := 140 }
@[simp] theorem T_struct_todo_s_string_dirs_s_walk_dir_follow_bool_b4679ffd_size : T_struct_todo_s_string_dirs_s_walk_dir_follow_bool_b4679ffd.size = 5 := rfl
@[simp] theorem T_struct_todo_s_string_dirs_s_walk_dir_follow_bool_b4679ffd_s : T_struct_todo_s_string_dirs_s_walk_dir_follow_bool_b4679ffd.agg = true ∧ T_struct_todo_s_string_dirs_s_walk_dir_follow_bool_b4679ffd.zero = [.vs 1 [] .nil, .vs 2 [] .nil, .bool false, .int .i64 0, .nil] ∧ T_struct_todo_s_string_dirs_s_walk_dir_follow_bool_b4679ffd.kind = .struct [(0, 44, 1), (1, 138, 1), (2, 4, 1), (3, 3, 1), (4, 139, 1)] := ⟨rfl, rfl, rfl⟩
def T_walk_Walker : TI := { size := 5, bytes := 72, agg := true, zero := [.vs 1 [] .nil, .vs 2 [] .nil, .bool false, .int .i64 0, .nil], kind := .struct [(0, 44, 1), (1, 138, 1), (2, 4, 1), (3, 3, 1), (4, 139, 1)], id := 141 }
@[simp] theorem T_walk_Walker_size : T_walk_Walker.size = 5 := rfl
@[simp] theorem T_walk_Walker_s : T_walk_Walker.agg = true ∧ T_walk_Walker.zero = [.vs 1 [] .nil, .vs 2 [] .nil, .bool false, .int .i64 0, .nil] ∧ T_walk_Walker.kind = .struct [(0, 44, 1), (1, 138, 1), (2, 4, 1), (3, 3, 1), (4, 139, 1)] := ⟨rfl, rfl, rfl⟩
@[simp] theorem T_walk_Walker_id : T_walk_Walker.id = t_walk_Walker := rfl
def T_struct_api_Node_ids_s_int : TI := { size := 8, bytes := 136, agg := true, zero := [.int .i64 0, .bool false, .vs 1 [] .nil, .vs 7 [] .nil, .int .i64 0, .vs 2 [] .nil, .str [], .vs 1 [] .nil], kind := .struct [(0, 73, 7), (7, 54, 1)], id := 145 }
@[simp] theorem T_struct_api_Node_ids_s_int_size : T_struct_api_Node_ids_s_int.size = 8 := rfl
@[simp] theorem T_struct_api_Node_ids_s_int_s : T_struct_api_Node_ids_s_int.agg = true ∧ T_struct_api_Node_ids_s_int.zero = [.int .i64 0, .bool false, .vs 1 [] .nil, .vs 7 [] .nil, .int .i64 0, .vs 2 [] .nil, .str [], .vs 1 [] .nil] ∧ T_struct_api_Node_ids_s_int.kind = .struct [(0, 73, 7), (7, 54, 1)] := ⟨rfl, rfl, rfl⟩
def T_branch_inode : TI := { size := 8, bytes := 136, agg := true, zero := [.int .i64 0, .bool false, .vs 1 [] .nil, .vs 7 [] .nil, .int .i64 0, .vs 2 [] .nil, .str [], .vs 1 [] .nil], kind := .struct [(0, 73, 7), (7, 54, 1)], id := 146 }
@[simp] theorem T_branch_inode_size : T_branch_inode.size = 8 := rfl
@[simp] theorem T_branch_inode_s : T_branch_inode.agg = true ∧ T_branch_inode.zero = [.int .i64 0, .bool false, .vs 1 [] .nil, .vs 7 [] .nil, .int .i64 0, .vs 2 [] .nil, .str [], .vs 1 [] .nil] ∧ T_branch_inode.kind = .struct [(0, 73, 7), (7, 54, 1)] := ⟨rfl, rfl, rfl⟩
def T_s_uint8 : TI := { size := 1, bytes := 24, agg := false, zero := [.vs 1 [] .nil], kind := .slice 5, id := 154 }
@[simp] theorem T_s_uint8_size : T_s_uint8.size = 1 := rfl
@[simp] theorem T_s_uint8_s : T_s_uint8.agg = false ∧ T_s_uint8.zero = [.vs 1 [] .nil] ∧ T_s_uint8.kind = .slice 5 := ⟨rfl, rfl, rfl⟩
def T_s_s_string : TI := { size := 1, bytes := 24, agg := false, zero := [.vs 1 [] .nil], kind := .slice 44, id := 156 }
@[simp] theorem T_s_s_string_size : T_s_s_string.size = 1 := rfl
@[simp] theorem T_s_s_string_s : T_s_s_string.agg = false ∧ T_s_s_string.zero = [.vs 1 [] .nil] ∧ T_s_s_string.kind = .slice 44 := ⟨rfl, rfl, rfl⟩
def T_s_heap_Item : TI := { size := 1, bytes := 24, agg := false, zero := [.vs 2 [] .nil], kind := .slice 162, id := 158 }
@[simp] theorem T_s_heap_Item_size : T_s_heap_Item.size = 1 := rfl
@[simp] theorem T_s_heap_Item_s : T_s_heap_Item.agg = false ∧ T_s_heap_Item.zero = [.vs 2 [] .nil] ∧ T_s_heap_Item.kind = .slice 162 := ⟨rfl, rfl, rfl⟩
def T_struct_Name_string_Row_int : TI := { size := 2, bytes := 24, agg := true, zero := [.str [], .int .i64 0], kind := .struct [(0, 9, 1), (1, 3, 1)], id := 161 }
@[simp] theorem T_struct_Name_string_Row_int_size : T_struct_Name_string_Row_int.size = 2 := rfl
@[simp] theorem T_struct_Name_string_Row_int_s : T_struct_Name_string_Row_int.agg = true ∧ T_struct_Name_string_Row_int.zero = [.str [], .int .i64 0] ∧ T_struct_Name_string_Row_int.kind = .struct [(0, 9, 1), (1, 3, 1)] := ⟨rfl, rfl, rfl⟩
def T_heap_Item : TI := { size := 2, bytes := 24, agg := true, zero := [.str [], .int .i64 0], kind := .struct [(0, 9, 1), (1, 3, 1)], id := 162 }
@[simp] theorem T_heap_Item_size : T_heap_Item.size = 2 := rfl
@[simp] theorem T_heap_Item_s : T_heap_Item.agg = true ∧ T_heap_Item.zero = [.str [], .int .i64 0] ∧ T_heap_Item.kind = .struct [(0, 9, 1), (1, 3, 1)] := ⟨rfl, rfl, rfl⟩
@[simp] theorem T_heap_Item_id : T_heap_Item.id = t_heap_Item := rfl
def T_struct_script_Script_part_int : TI := { size := 7, bytes := 104, agg := true, zero := [.int .i64 0, .int .i64 0, .int .i64 0, .vs 1 [] .nil, .vs 1 [] .nil, .vs 1 [] .nil, .int .i64 0], kind := .struct [(0, 115, 6), (6, 3, 1)], id := 166 }
@[simp] theorem T_struct_script_Script_part_int_size : T_struct_script_Script_part_int.size = 7 := rfl
@[simp] theorem T_struct_script_Script_part_int_s : T_struct_script_Script_part_int.agg = true ∧ T_struct_script_Script_part_int.zero = [.int .i64 0, .int .i64 0, .int .i64 0, .vs 1 [] .nil, .vs 1 [] .nil, .vs 1 [] .nil, .int .i64 0] ∧ T_struct_script_Script_part_int.kind = .struct [(0, 115, 6), (6, 3, 1)] := ⟨rfl, rfl, rfl⟩
def T_script_reader : TI := { size := 7, bytes := 104, agg := true, zero := [.int .i64 0, .int .i64 0, .int .i64 0, .vs 1 [] .nil, .vs 1 [] .nil, .vs 1 [] .nil, .int .i64 0], kind := .struct [(0, 115, 6), (6, 3, 1)], id := 167 }
@[simp] theorem T_script_reader_size : T_script_reader.size = 7 := rfl
@[simp] theorem T_script_reader_s : T_script_reader.agg = true ∧ T_script_reader.zero = [.int .i64 0, .int .i64 0, .int .i64 0, .vs 1 [] .nil, .vs 1 [] .nil, .vs 1 [] .nil, .int .i64 0] ∧ T_script_reader.kind = .struct [(0, 115, 6), (6, 3, 1)] := ⟨rfl, rfl, rfl⟩
def T_struct_Off_int_Data_string : TI := { size := 2, bytes := 24, agg := true, zero := [.int .i64 0, .str []], kind := .struct [(0, 3, 1), (1, 9, 1)], id := 171 }
@[simp] theorem T_struct_Off_int_Data_string_size : T_struct_Off_int_Data_string.size = 2 := rfl
@[simp] theorem T_struct_Off_int_Data_string_s : T_struct_Off_int_Data_string.agg = true ∧ T_struct_Off_int_Data_string.zero = [.int .i64 0, .str []] ∧ T_struct_Off_int_Data_string.kind = .struct [(0, 3, 1), (1, 9, 1)] := ⟨rfl, rfl, rfl⟩
def T_api_Extent : TI := { size := 2, bytes := 24, agg := true, zero := [.int .i64 0, .str []], kind := .struct [(0, 3, 1), (1, 9, 1)], id := 172 }
@[simp] theorem T_api_Extent_size : T_api_Extent.size = 2 := rfl
@[simp] theorem T_api_Extent_s : T_api_Extent.agg = true ∧ T_api_Extent.zero = [.int .i64 0, .str []] ∧ T_api_Extent.kind = .struct [(0, 3, 1), (1, 9, 1)] := ⟨rfl, rfl, rfl⟩
@[simp] theorem T_api_Extent_id : T_api_Extent.id = t_api_Extent := rfl
def T_s_branch_inode : TI := { size := 1, bytes := 24, agg := false, zero := [.vs 8 [] .nil], kind := .slice 146, id := 176 }
@[simp] theorem T_s_branch_inode_size : T_s_branch_inode.size = 1 := rfl
@[simp] theorem T_s_branch_inode_s : T_s_branch_inode.agg = false ∧ T_s_branch_inode.zero = [.vs 8 [] .nil] ∧ T_s_branch_inode.kind = .slice 146 := ⟨rfl, rfl, rfl⟩
def T_struct_table_s_branch_inode : TI := { size := 1, bytes := 24, agg := true, zero := [.vs 8 [] .nil], kind := .struct [(0, 176, 1)], id := 177 }
@[simp] theorem T_struct_table_s_branch_inode_size : T_struct_table_s_branch_inode.size = 1 := rfl
@[simp] theorem T_struct_table_s_branch_inode_s : T_struct_table_s_branch_inode.agg = true ∧ T_struct_table_s_branch_inode.zero = [.vs 8 [] .nil] ∧ T_struct_table_s_branch_inode.kind = .struct [(0, 176, 1)] := ⟨rfl, rfl, rfl⟩
def T_branch_Branch : TI := { size := 1, bytes := 24, agg := true, zero := [.vs 8 [] .nil], kind := .struct [(0, 176, 1)], id := 178 }
@[simp] theorem T_branch_Branch_size : T_branch_Branch.size = 1 := rfl
@[simp] theorem T_branch_Branch_s : T_branch_Branch.agg = true ∧ T_branch_Branch.zero = [.vs 8 [] .nil] ∧ T_branch_Branch.kind = .struct [(0, 176, 1)] := ⟨rfl, rfl, rfl⟩
@[simp] theorem T_branch_Branch_id : T_branch_Branch.id = t_branch_Branch := rfl
def T_p_strings_Builder : TI := { size := 1, bytes := 8, agg := false, zero := [.nil], kind := .ptr 183, id := 181 }
@[simp] theorem T_p_strings_Builder_size : T_p_strings_Builder.size = 1 := rfl
@[simp] theorem T_p_strings_Builder_s : T_p_strings_Builder.agg = false ∧ T_p_strings_Builder.zero = [.nil] ∧ T_p_strings_Builder.kind = .ptr 183 := ⟨rfl, rfl, rfl⟩
def T_struct_addr_p_strings_Builder_buf_s_uint8 : TI := { size := 2, bytes := 32, agg := true, zero := [.nil, .vs 1 [] .nil], kind := .struct [(0, 181, 1), (1, 154, 1)], id := 182 }
@[simp] theorem T_struct_addr_p_strings_Builder_buf_s_uint8_size : T_struct_addr_p_strings_Builder_buf_s_uint8.size = 2 := rfl
@[simp] theorem T_struct_addr_p_strings_Builder_buf_s_uint8_s : T_struct_addr_p_strings_Builder_buf_s_uint8.agg = true ∧ T_struct_addr_p_strings_Builder_buf_s_uint8.zero = [.nil, .vs 1 [] .nil] ∧ T_struct_addr_p_strings_Builder_buf_s_uint8.kind = .struct [(0, 181, 1), (1, 154, 1)] := ⟨rfl, rfl, rfl⟩
def T_strings_Builder : TI := { size := 2, bytes := 32, agg := true, zero := [.nil, .vs 1 [] .nil], kind := .struct [(0, 181, 1), (1, 154, 1)], id := 183 }
@[simp] theorem T_strings_Builder_size : T_strings_Builder.size = 2 := rfl
@[simp] theorem T_strings_Builder_s : T_strings_Builder.agg = true ∧ T_strings_Builder.zero = [.nil, .vs 1 [] .nil] ∧ T_strings_Builder.kind = .struct [(0, 181, 1), (1, 154, 1)] := ⟨rfl, rfl, rfl⟩
@[simp] theorem T_strings_Builder_id : T_strings_Builder.id = t_strings_Builder := rfl
def T_interface_Error_string : TI := { size := 1, bytes := 16, agg := false, zero := [.nilifc], kind := .iface, id := 184 }
@[simp] theorem T_interface_Error_string_size : T_interface_Error_string.size = 1 := rfl
@[simp] theorem T_interface_Error_string_s : T_interface_Error_string.agg = false ∧ T_interface_Error_string.zero = [.nilifc] ∧ T_interface_Error_string.kind = .iface := ⟨rfl, rfl, rfl⟩
def T_error : TI := { size := 1, bytes := 16, agg := false, zero := [.nilifc], kind := .iface, id := 185 }
@[simp] theorem T_error_size : T_error.size = 1 := rfl
@[simp] theorem T_error_s : T_error.agg = false ∧ T_error.zero = [.nilifc] ∧ T_error.kind = .iface := ⟨rfl, rfl, rfl⟩
def T_p_heap_heads : TI := { size := 1, bytes := 8, agg := false, zero := [.nil], kind := .ptr 195, id := 190 }
@[simp] theorem T_p_heap_heads_size : T_p_heap_heads.size = 1 := rfl
@[simp] theorem T_p_heap_heads_s : T_p_heap_heads.agg = false ∧ T_p_heap_heads.zero = [.nil] ∧ T_p_heap_heads.kind = .ptr 195 := ⟨rfl, rfl, rfl⟩
@[simp] theorem T_p_heap_heads_id : T_p_heap_heads.id = t_p_heap_heads := rfl
def T_func_heap_Item_heap_Item_bool : TI := { size := 1, bytes := 8, agg := false, zero := [.nilfn], kind := .func, id := 191 }
@[simp] theorem T_func_heap_Item_heap_Item_bool_size : T_func_heap_Item_heap_Item_bool.size = 1 := rfl
@[simp] theorem T_func_heap_Item_heap_Item_bool_s : T_func_heap_Item_heap_Item_bool.agg = false ∧ T_func_heap_Item_heap_Item_bool.zero = [.nilfn] ∧ T_func_heap_Item_heap_Item_bool.kind = .func := ⟨rfl, rfl, rfl⟩
def T_s_heap_head : TI := { size := 1, bytes := 24, agg := false, zero := [.vs 3 [] .nil], kind := .slice 197, id := 193 }
@[simp] theorem T_s_heap_head_size : T_s_heap_head.size = 1 := rfl
@[simp] theorem T_s_heap_head_s : T_s_heap_head.agg = false ∧ T_s_heap_head.zero = [.vs 3 [] .nil] ∧ T_s_heap_head.kind = .slice 197 := ⟨rfl, rfl, rfl⟩
def T_struct_l_s_heap_head_less_func_heap_Item_heap_Item_bool : TI := { size := 2, bytes := 32, agg := true, zero := [.vs 3 [] .nil, .nilfn], kind := .struct [(0, 193, 1), (1, 191, 1)], id := 194 }
@[simp] theorem T_struct_l_s_heap_head_less_func_heap_Item_heap_Item_bool_size : T_struct_l_s_heap_head_less_func_heap_Item_heap_Item_bool.size = 2 := rfl
@[simp] theorem T_struct_l_s_heap_head_less_func_heap_Item_heap_Item_bool_s : T_struct_l_s_heap_head_less_func_heap_Item_heap_Item_bool.agg = true ∧ T_struct_l_s_heap_head_less_func_heap_Item_heap_Item_bool.zero = [.vs 3 [] .nil, .nilfn] ∧ T_struct_l_s_heap_head_less_func_heap_Item_heap_Item_bool.kind = .struct [(0, 193, 1), (1, 191, 1)] := ⟨rfl, rfl, rfl⟩
def T_heap_heads : TI := { size := 2, bytes := 32, agg := true, zero := [.vs 3 [] .nil, .nilfn], kind := .struct [(0, 193, 1), (1, 191, 1)], id := 195 }
@[simp] theorem T_heap_heads_size : T_heap_heads.size = 2 := rfl
@[simp] theorem T_heap_heads_s : T_heap_heads.agg = true ∧ T_heap_heads.zero = [.vs 3 [] .nil, .nilfn] ∧ T_heap_heads.kind = .struct [(0, 193, 1), (1, 191, 1)] := ⟨rfl, rfl, rfl⟩
@[simp] theorem T_heap_heads_id : T_heap_heads.id = t_heap_heads := rfl
def T_struct_heap_Item_rest_s_string : TI := { size := 3, bytes := 48, agg := true, zero := [.str [], .int .i64 0, .vs 1 [] .nil], kind := .struct [(0, 162, 2), (2, 44, 1)], id := 196 }
@[simp] theorem T_struct_heap_Item_rest_s_string_size : T_struct_heap_Item_rest_s_string.size = 3 := rfl
@[simp] theorem T_struct_heap_Item_rest_s_string_s : T_struct_heap_Item_rest_s_string.agg = true ∧ T_struct_heap_Item_rest_s_string.zero = [.str [], .int .i64 0, .vs 1 [] .nil] ∧ T_struct_heap_Item_rest_s_string.kind = .struct [(0, 162, 2), (2, 44, 1)] := ⟨rfl, rfl, rfl⟩
def T_heap_head : TI := { size := 3, bytes := 48, agg := true, zero := [.str [], .int .i64 0, .vs 1 [] .nil], kind := .struct [(0, 162, 2), (2, 44, 1)], id := 197 }
@[simp] theorem T_heap_head_size : T_heap_head.size = 3 := rfl
@[simp] theorem T_heap_head_s : T_heap_head.agg = true ∧ T_heap_head.zero = [.str [], .int .i64 0, .vs 1 [] .nil] ∧ T_heap_head.kind = .struct [(0, 162, 2), (2, 44, 1)] := ⟨rfl, rfl, rfl⟩
@[simp] theorem T_heap_head_id : T_heap_head.id = t_heap_head := rfl
def T_p_heap_head : TI := { size := 1, bytes := 8, agg := false, zero := [.nil], kind := .ptr 197, id := 199 }
@[simp] theorem T_p_heap_head_size : T_p_heap_head.size = 1 := rfl
@[simp] theorem T_p_heap_head_s : T_p_heap_head.agg = false ∧ T_p_heap_head.zero = [.nil] ∧ T_p_heap_head.kind = .ptr 197 := ⟨rfl, rfl, rfl⟩
def T_p_script_reader : TI := { size := 1, bytes := 8, agg := false, zero := [.nil], kind := .ptr 167, id := 204 }
@[simp] theorem T_p_script_reader_size : T_p_script_reader.size = 1 := rfl
@[simp] theorem T_p_script_reader_s : T_p_script_reader.agg = false ∧ T_p_script_reader.zero = [.nil] ∧ T_p_script_reader.kind = .ptr 167 := ⟨rfl, rfl, rfl⟩
def T_p_image_reader : TI := { size := 1, bytes := 8, agg := false, zero := [.nil], kind := .ptr 214, id := 210 }
@[simp] theorem T_p_image_reader_size : T_p_image_reader.size = 1 := rfl
@[simp] theorem T_p_image_reader_s : T_p_image_reader.agg = false ∧ T_p_image_reader.zero = [.nil] ∧ T_p_image_reader.kind = .ptr 214 := ⟨rfl, rfl, rfl⟩
def T_p_wire_Reader : TI := { size := 1, bytes := 8, agg := false, zero := [.nil], kind := .ptr 240, id := 211 }
@[simp] theorem T_p_wire_Reader_size : T_p_wire_Reader.size = 1 := rfl
@[simp] theorem T_p_wire_Reader_s : T_p_wire_Reader.agg = false ∧ T_p_wire_Reader.zero = [.nil] ∧ T_p_wire_Reader.kind = .ptr 240 := ⟨rfl, rfl, rfl⟩
def T_struct_p_wire_Reader_bad_bool_left_int : TI := { size := 3, bytes := 24, agg := true, zero := [.nil, .bool false, .int .i64 0], kind := .struct [(0, 211, 1), (1, 4, 1), (2, 3, 1)], id := 213 }
@[simp] theorem T_struct_p_wire_Reader_bad_bool_left_int_size : T_struct_p_wire_Reader_bad_bool_left_int.size = 3 := rfl
@[simp] theorem T_struct_p_wire_Reader_bad_bool_left_int_s : T_struct_p_wire_Reader_bad_bool_left_int.agg = true ∧ T_struct_p_wire_Reader_bad_bool_left_int.zero = [.nil, .bool false, .int .i64 0] ∧ T_struct_p_wire_Reader_bad_bool_left_int.kind = .struct [(0, 211, 1), (1, 4, 1), (2, 3, 1)] := ⟨rfl, rfl, rfl⟩
def T_image_reader : TI := { size := 3, bytes := 24, agg := true, zero := [.nil, .bool false, .int .i64 0], kind := .struct [(0, 211, 1), (1, 4, 1), (2, 3, 1)], id := 214 }
@[simp] theorem T_image_reader_size : T_image_reader.size = 3 := rfl
@[simp] theorem T_image_reader_s : T_image_reader.agg = true ∧ T_image_reader.zero = [.nil, .bool false, .int .i64 0] ∧ T_image_reader.kind = .struct [(0, 211, 1), (1, 4, 1), (2, 3, 1)] := ⟨rfl, rfl, rfl⟩
@[simp] theorem T_image_reader_id : T_image_reader.id = t_image_reader := rfl
def T_uint : TI := { size := 1, bytes := 8, agg := false, zero := [.int .u64 0], kind := .int .u64, id := 219 }
@[simp] theorem T_uint_size : T_uint.size = 1 := rfl
@[simp] theorem T_uint_s : T_uint.agg = false ∧ T_uint.zero = [.int .u64 0] ∧ T_uint.kind = .int .u64 := ⟨rfl, rfl, rfl⟩
def T_p_uint8 : TI := { size := 1, bytes := 8, agg := false, zero := [.nil], kind := .ptr 5, id := 223 }
@[simp] theorem T_p_uint8_size : T_p_uint8.size = 1 := rfl
@[simp] theorem T_p_uint8_s : T_p_uint8.agg = false ∧ T_p_uint8.zero = [.nil] ∧ T_p_uint8.kind = .ptr 5 := ⟨rfl, rfl, rfl⟩
def T_interface_Len_int_Less_int_int_bool_Pop_interfac_d7b234c6 : TI := { size := 1, bytes := 16, agg := false, zero := [.nilifc], kind := .iface, id := 224 }
@[simp] theorem T_interface_Len_int_Less_int_int_bool_Pop_interfac_d7b234c6_size : T_interface_Len_int_Less_int_int_bool_Pop_interfac_d7b234c6.size = 1 := rfl
@[simp] theorem T_interface_Len_int_Less_int_int_bool_Pop_interfac_d7b234c6_s : T_interface_Len_int_Less_int_int_bool_Pop_interfac_d7b234c6.agg = false ∧ T_interface_Len_int_Less_int_int_bool_Pop_interfac_d7b234c6.zero = [.nilifc] ∧ T_interface_Len_int_Less_int_int_bool_Pop_interfac_d7b234c6.kind = .iface := ⟨rfl, rfl, rfl⟩
def T_heap_Interface : TI := { size := 1, bytes := 16, agg := false, zero := [.nilifc], kind := .iface, id := 225 }
@[simp] theorem T_heap_Interface_size : T_heap_Interface.size = 1 := rfl
@[simp] theorem T_heap_Interface_s : T_heap_Interface.agg = false ∧ T_heap_Interface.zero = [.nilifc] ∧ T_heap_Interface.kind = .iface := ⟨rfl, rfl, rfl⟩
def T_10_string : TI := { size := 10, bytes := 160, agg := true, zero := [.str [], .str [], .str [], .str [], .str [], .str [], .str [], .str [], .str [], .str []], kind := .array 10 9, id := 235 }
@[simp] theorem T_10_string_size : T_10_string.size = 10 := rfl
@[simp] theorem T_10_string_s : T_10_string.agg = true ∧ T_10_string.zero = [.str [], .str [], .str [], .str [], .str [], .str [], .str [], .str [], .str [], .str []] ∧ T_10_string.kind = .array 10 9 := ⟨rfl, rfl, rfl⟩
def T_struct_s_string : TI := { size := 1, bytes := 16, agg := true, zero := [.str []], kind := .struct [(0, 9, 1)], id := 239 }
@[simp] theorem T_struct_s_string_size : T_struct_s_string.size = 1 := rfl
@[simp] theorem T_struct_s_string_s : T_struct_s_string.agg = true ∧ T_struct_s_string.zero = [.str []] ∧ T_struct_s_string.kind = .struct [(0, 9, 1)] := ⟨rfl, rfl, rfl⟩
def T_wire_Reader : TI := { size := 1, bytes := 16, agg := true, zero := [.str []], kind := .struct [(0, 9, 1)], id := 240 }
@[simp] theorem T_wire_Reader_size : T_wire_Reader.size = 1 := rfl
@[simp] theorem T_wire_Reader_s : T_wire_Reader.agg = true ∧ T_wire_Reader.zero = [.str []] ∧ T_wire_Reader.kind = .struct [(0, 9, 1)] := ⟨rfl, rfl, rfl⟩
@[simp] theorem T_wire_Reader_id : T_wire_Reader.id = t_wire_Reader := rfl
def T_uint32 : TI := { size := 1, bytes := 4, agg := false, zero := [.int .u32 0], kind := .int .u32, id := 244 }
@[simp] theorem T_uint32_size : T_uint32.size = 1 := rfl
@[simp] theorem T_uint32_s : T_uint32.agg = false ∧ T_uint32.zero = [.int .u32 0] ∧ T_uint32.kind = .int .u32 := ⟨rfl, rfl, rfl⟩
def T_0_p_runtime_PanicNilError : TI := { size := 0, bytes := 0, agg := true, zero := [], kind := .array 0 16, id := 302 }
@[simp] theorem T_0_p_runtime_PanicNilError_size : T_0_p_runtime_PanicNilError.size = 0 := rfl
@[simp] theorem T_0_p_runtime_PanicNilError_s : T_0_p_runtime_PanicNilError.agg = true ∧ T_0_p_runtime_PanicNilError.zero = [] ∧ T_0_p_runtime_PanicNilError.kind = .array 0 16 := ⟨rfl, rfl, rfl⟩
def T_struct_0_p_runtime_PanicNilError : TI := { size := 0, bytes := 0, agg := true, zero := [], kind := .struct [(0, 302, 0)], id := 303 }
@[simp] theorem T_struct_0_p_runtime_PanicNilError_size : T_struct_0_p_runtime_PanicNilError.size = 0 := rfl
@[simp] theorem T_struct_0_p_runtime_PanicNilError_s : T_struct_0_p_runtime_PanicNilError.agg = true ∧ T_struct_0_p_runtime_PanicNilError.zero = [] ∧ T_struct_0_p_runtime_PanicNilError.kind = .struct [(0, 302, 0)] := ⟨rfl, rfl, rfl⟩
def T_runtime_PanicNilError : TI := { size := 0, bytes := 0, agg := true, zero := [], kind := .struct [(0, 302, 0)], id := 304 }
@[simp] theorem T_runtime_PanicNilError_size : T_runtime_PanicNilError.size = 0 := rfl
@[simp] theorem T_runtime_PanicNilError_s : T_runtime_PanicNilError.agg = true ∧ T_runtime_PanicNilError.zero = [] ∧ T_runtime_PanicNilError.kind = .struct [(0, 302, 0)] := ⟨rfl, rfl, rfl⟩
def T_abi_TFlag : TI := { size := 1, bytes := 1, agg := false, zero := [.int .u8 0], kind := .int .u8, id := 305 }
@[simp] theorem T_abi_TFlag_size : T_abi_TFlag.size = 1 := rfl
@[simp] theorem T_abi_TFlag_s : T_abi_TFlag.agg = false ∧ T_abi_TFlag.zero = [.int .u8 0] ∧ T_abi_TFlag.kind = .int .u8 := ⟨rfl, rfl, rfl⟩
def T_abi_Kind : TI := { size := 1, bytes := 1, agg := false, zero := [.int .u8 0], kind := .int .u8, id := 306 }
@[simp] theorem T_abi_Kind_size : T_abi_Kind.size = 1 := rfl
@[simp] theorem T_abi_Kind_s : T_abi_Kind.agg = false ∧ T_abi_Kind.zero = [.int .u8 0] ∧ T_abi_Kind.kind = .int .u8 := ⟨rfl, rfl, rfl⟩
def T_func_unsafe_Pointer_unsafe_Pointer_bool : TI := { size := 1, bytes := 8, agg := false, zero := [.nilfn], kind := .func, id := 307 }
@[simp] theorem T_func_unsafe_Pointer_unsafe_Pointer_bool_size : T_func_unsafe_Pointer_unsafe_Pointer_bool.size = 1 := rfl
@[simp] theorem T_func_unsafe_Pointer_unsafe_Pointer_bool_s : T_func_unsafe_Pointer_unsafe_Pointer_bool.agg = false ∧ T_func_unsafe_Pointer_unsafe_Pointer_bool.zero = [.nilfn] ∧ T_func_unsafe_Pointer_unsafe_Pointer_bool.kind = .func := ⟨rfl, rfl, rfl⟩
def T_abi_NameOff : TI := { size := 1, bytes := 4, agg := false, zero := [.int .i32 0], kind := .int .i32, id := 308 }
@[simp] theorem T_abi_NameOff_size : T_abi_NameOff.size = 1 := rfl
@[simp] theorem T_abi_NameOff_s : T_abi_NameOff.agg = false ∧ T_abi_NameOff.zero = [.int .i32 0] ∧ T_abi_NameOff.kind = .int .i32 := ⟨rfl, rfl, rfl⟩
def T_abi_TypeOff : TI := { size := 1, bytes := 4, agg := false, zero := [.int .i32 0], kind := .int .i32, id := 309 }
@[simp] theorem T_abi_TypeOff_size : T_abi_TypeOff.size = 1 := rfl
@[simp] theorem T_abi_TypeOff_s : T_abi_TypeOff.agg = false ∧ T_abi_TypeOff.zero = [.int .i32 0] ∧ T_abi_TypeOff.kind = .int .i32 := ⟨rfl, rfl, rfl⟩
def T_struct_Size_uintptr_PtrBytes_uintptr_Hash_uint32_7c8ec20b : TI := { size := 11, bytes := 48, agg := true, zero := [.int .u64 0, .int .u64 0, .int .u32 0, .int .u8 0, .int .u8 0, .int .u8 0, .int .u8 0, .nilfn, .nil, .int .i32 0, .int .i32 0], kind := .struct [(0, 12, 1), (1, 12, 1), (2, 244, 1), (3, 305, 1), (4, 5, 1), (5, 5, 1), (6, 306, 1), (7, 307, 1), (8, 223, 1), (9, 308, 1), (10, 309, 1)], id := 310 }
@[simp] theorem T_struct_Size_uintptr_PtrBytes_uintptr_Hash_uint32_7c8ec20b_size : T_struct_Size_uintptr_PtrBytes_uintptr_Hash_uint32_7c8ec20b.size = 11 := rfl
@[simp] theorem T_struct_Size_uintptr_PtrBytes_uintptr_Hash_uint32_7c8ec20b_s : T_struct_Size_uintptr_PtrBytes_uintptr_Hash_uint32_7c8ec20b.agg = true ∧ T_struct_Size_uintptr_PtrBytes_uintptr_Hash_uint32_7c8ec20b.zero = [.int .u64 0, .int .u64 0, .int .u32 0, .int .u8 0, .int .u8 0, .int .u8 0, .int .u8 0, .nilfn, .nil, .int .i32 0, .int .i32 0] ∧ T_struct_Size_uintptr_PtrBytes_uintptr_Hash_uint32_7c8ec20b.kind = .struct [(0, 12, 1), (1, 12, 1), (2, 244, 1), (3, 305, 1), (4, 5, 1), (5, 5, 1), (6, 306, 1), (7, 307, 1), (8, 223, 1), (9, 308, 1), (10, 309, 1)] := ⟨rfl, rfl, rfl⟩
def T_abi_Type : TI := { size := 11, bytes := 48, agg := true, zero := [.int .u64 0, .int .u64 0, .int .u32 0, .int .u8 0, .int .u8 0, .int .u8 0, .int .u8 0, .nilfn, .nil, .int .i32 0, .int .i32 0], kind := .struct [(0, 12, 1), (1, 12, 1), (2, 244, 1), (3, 305, 1), (4, 5, 1), (5, 5, 1), (6, 306, 1), (7, 307, 1), (8, 223, 1), (9, 308, 1), (10, 309, 1)], id := 311 }
@[simp] theorem T_abi_Type_size : T_abi_Type.size = 11 := rfl
@[simp] theorem T_abi_Type_s : T_abi_Type.agg = true ∧ T_abi_Type.zero = [.int .u64 0, .int .u64 0, .int .u32 0, .int .u8 0, .int .u8 0, .int .u8 0, .int .u8 0, .nilfn, .nil, .int .i32 0, .int .i32 0] ∧ T_abi_Type.kind = .struct [(0, 12, 1), (1, 12, 1), (2, 244, 1), (3, 305, 1), (4, 5, 1), (5, 5, 1), (6, 306, 1), (7, 307, 1), (8, 223, 1), (9, 308, 1), (10, 309, 1)] := ⟨rfl, rfl, rfl⟩
def tyOf : Nat → TI
  | 1 => T_func
  | 2 => T_int64
  | 3 => T_int
  | 4 => T_bool
  | 5 => T_uint8
  | 6 => T_abi_BoundsErrorCode
  | 7 => T_struct_x_int64_y_int_signed_bool_code_abi_BoundsErrorCode
  | 8 => T_runtime_boundsError
  | 9 => T_string
  | 10 => T_runtime_errorString
  | 12 => T_uintptr
  | 16 => T_p_runtime_PanicNilError
  | 17 => T_p_abi_Type
  | 20 => T_interface
  | 21 => T_int32
  | 22 => T_s_api_Node
  | 23 => T_struct_Trees_s_api_Node_Path_string_Follow_bool
  | 24 => T_socagelaw11_Case
  | 27 => T_s_stack_mount
  | 28 => T_struct_l_s_stack_mount_next_int
  | 29 => T_stack_Stack
  | 32 => T_func_stack_Stack_string_bool
  | 33 => T_struct_Level_int_Inode_int
  | 34 => T_seen_Spot
  | 35 => T_s_seen_Spot
  | 36 => T_seen_Place
  | 37 => T_struct_Kind_int_seen_Spot_Dirs_seen_Place
  | 38 => T_seen_Found
  | 39 => T_struct_Path_string_seen_Found
  | 40 => T_walk_Target
  | 41 => T_api_Errno
  | 44 => T_s_string
  | 45 => T_struct_Err_api_Errno_Kind_int_Size_int_Where_int_45eddcb9
  | 46 => T_api_Result
  | 48 => T_struct_Kind_int_Path_string_Off_int_N_int_ID_int_affe776d
  | 49 => T_api_Op
  | 54 => T_s_int
  | 56 => T_func_s_api_Node_api_Op_bool
  | 60 => T_s_merge_Entry
  | 63 => T_s_socageref10_Entry
  | 67 => T_struct_Name_string_Kind_int
  | 68 => T_merge_Entry
  | 69 => T_socageref10_Entry
  | 71 => T_s_api_Extent
  | 72 => T_struct_Kind_int_Opaque_bool_Names_s_string_Items_8666df6f
  | 73 => T_api_Node
  | 80 => T_func_string_api_Node_bool
  | 88 => T_p_walk_Walker
  | 96 => T_func_stack_Stack_seen_Place_string_seen_Found_bool
  | 97 => T_p_branch_Branch
  | 103 => T_struct_Names_s_string_Nodes_s_api_Node_Err_int
  | 104 => T_socageref11_At
  | 111 => T_struct_Shards_int_Room_int_Cursors_int
  | 112 => T_server_Config
  | 113 => T_s_s_api_Op
  | 114 => T_struct_Config_server_Config_Images_s_string_Clie_8f63a109
  | 115 => T_script_Script
  | 118 => T_s_api_Op
  | 124 => T_struct_Node_api_Node_Len_int
  | 125 => T_socageref05_Got
  | 131 => T_p_int
  | 132 => T_struct_id_int_p_branch_Branch
  | 133 => T_stack_mount
  | 136 => T_struct_path_string_seen_Place
  | 137 => T_walk_dir
  | 138 => T_s_walk_dir
  | 139 => T_p_walk_Target
  | 140 => T_struct_todo_s_string_dirs_s_walk_dir_follow_bool_b4679ffd
  | 141 => T_walk_Walker
  | 145 => T_struct_api_Node_ids_s_int
  | 146 => T_branch_inode
  | 154 => T_s_uint8
  | 156 => T_s_s_string
  | 158 => T_s_heap_Item
  | 161 => T_struct_Name_string_Row_int
  | 162 => T_heap_Item
  | 166 => T_struct_script_Script_part_int
  | 167 => T_script_reader
  | 171 => T_struct_Off_int_Data_string
  | 172 => T_api_Extent
  | 176 => T_s_branch_inode
  | 177 => T_struct_table_s_branch_inode
  | 178 => T_branch_Branch
  | 181 => T_p_strings_Builder
  | 182 => T_struct_addr_p_strings_Builder_buf_s_uint8
  | 183 => T_strings_Builder
  | 184 => T_interface_Error_string
  | 185 => T_error
  | 190 => T_p_heap_heads
  | 191 => T_func_heap_Item_heap_Item_bool
  | 193 => T_s_heap_head
  | 194 => T_struct_l_s_heap_head_less_func_heap_Item_heap_Item_bool
  | 195 => T_heap_heads
  | 196 => T_struct_heap_Item_rest_s_string
  | 197 => T_heap_head
  | 199 => T_p_heap_head
  | 204 => T_p_script_reader
  | 210 => T_p_image_reader
  | 211 => T_p_wire_Reader
  | 213 => T_struct_p_wire_Reader_bad_bool_left_int
  | 214 => T_image_reader
  | 219 => T_uint
  | 223 => T_p_uint8
  | 224 => T_interface_Len_int_Less_int_int_bool_Pop_interfac_d7b234c6
  | 225 => T_heap_Interface
  | 235 => T_10_string
  | 239 => T_struct_s_string
  | 240 => T_wire_Reader
  | 244 => T_uint32
  | 302 => T_0_p_runtime_PanicNilError
  | 303 => T_struct_0_p_runtime_PanicNilError
  | 304 => T_runtime_PanicNilError
  | 305 => T_abi_TFlag
  | 306 => T_abi_Kind
  | 307 => T_func_unsafe_Pointer_unsafe_Pointer_bool
  | 308 => T_abi_NameOff
  | 309 => T_abi_TypeOff
  | 310 => T_struct_Size_uintptr_PtrBytes_uintptr_Hash_uint32_7c8ec20b
  | 311 => T_abi_Type
  | n => { size := 0, bytes := 0, agg := false, zero := [], kind := match n with | 0 | 30 | 42 | 61 | 64 | 74 | 76 | 79 | 89 | 92 | 95 | 116 | 120 | 122 | 134 | 143 | 150 | 173 | 186 | 205 | 208 | 220 | 233 | 237 | 245 | 248 | 251 | 259 | 272 | 278 | 287 => .tuple | _ => .other }
def locOf : Nat → Nat → Bool
  | 3, 3 => true
  | 3, 7 => true
  | 3, 9 => true
  | 3, 11 => true
  | 3, 12 => true
  | 4, 3 => true
  | 4, 5 => true
  | 6, 5 => true
  | 6, 14 => true
  | 6, 16 => true
  | 7, 9 => true
  | 7, 12 => true
  | 7, 16 => true
  | 7, 18 => true
  | 8, 1 => true
  | 9, 4 => true
  | 10, 2 => true
  | 10, 5 => true
  | 10, 6 => true
  | 11, 2 => true
  | 11, 9 => true
  | 11, 11 => true
  | 11, 13 => true
  | 12, 3 => true
  | 12, 6 => true
  | 12, 14 => true
  | 13, 2 => true
  | 13, 3 => true
  | 13, 4 => true
  | 13, 6 => true
  | 14, 1 => true
  | 14, 3 => true
  | 14, 4 => true
  | 14, 5 => true
  | 15, 2 => true
  | 15, 3 => true
  | 16, 5 => true
  | 16, 6 => true
  | 16, 7 => true
  | 16, 10 => true
  | 21, 1 => true
  | 22, 3 => true
  | 22, 4 => true
  | 22, 5 => true
  | 22, 6 => true
  | 23, 2 => true
  | 23, 7 => true
  | 24, 7 => true
  | 26, 1 => true
  | 26, 3 => true
  | 27, 1 => true
  | 28, 2 => true
  | 28, 4 => true
  | 29, 1 => true
  | 30, 2 => true
  | 30, 4 => true
  | 31, 2 => true
  | 31, 4 => true
  | 31, 6 => true
  | 32, 4 => true
  | 33, 2 => true
  | 34, 1 => true
  | 35, 1 => true
  | 36, 2 => true
  | 38, 1 => true
  | 40, 2 => true
  | 40, 3 => true
  | 40, 4 => true
  | 41, 3 => true
  | 41, 6 => true
  | 41, 8 => true
  | 41, 10 => true
  | 42, 2 => true
  | 44, 5 => true
  | 45, 2 => true
  | 46, 2 => true
  | 47, 6 => true
  | 48, 6 => true
  | 51, 9 => true
  | 52, 2 => true
  | 52, 7 => true
  | 52, 11 => true
  | 54, 2 => true
  | 55, 1 => true
  | 56, 4 => true
  | 57, 2 => true
  | 57, 4 => true
  | 58, 4 => true
  | 58, 5 => true
  | 58, 6 => true
  | 58, 15 => true
  | 59, 1 => true
  | 63, 3 => true
  | 63, 8 => true
  | 63, 10 => true
  | 64, 1 => true
  | 65, 1 => true
  | 66, 1 => true
  | 69, 2 => true
  | 70, 8 => true
  | 72, 4 => true
  | 76, 10 => true
  | 77, 2 => true
  | 79, 11 => true
  | 81, 5 => true
  | 86, 12 => true
  | 89, 2 => true
  | 89, 5 => true
  | 91, 1 => true
  | 92, 3 => true
  | 92, 6 => true
  | 92, 8 => true
  | 93, 1 => true
  | 102, 2 => true
  | 102, 3 => true
  | 113, 2 => true
  | 115, 4 => true
  | 115, 5 => true
  | 118, 3 => true
  | 118, 11 => true
  | 121, 1 => true
  | 138, 0 => true
  | 142, 1 => true
  | 143, 7 => true
  | 144, 1 => true
  | 221, 4 => true
  | _, _ => false
def liveOf : Nat → Nat → List Nat × List Nat
  | 6, 17 => ([69], [5])
  | 7, 7 => ([7, 32], [])
  | 9, 4 => ([10], [])
  | 10, 4 => ([14], [2])
  | 11, 5 => ([30], [2])
  | 12, 4 => ([], [3, 6])
  | 15, 4 => ([5], [2, 3])
  | 17, 3 => ([3, 7], [])
  | 18, 3 => ([3, 6], [])
  | 25, 3 => ([3, 4], [])
  | 28, 3 => ([11], [2, 4])
  | 31, 3 => ([11], [2, 4])
  | 38, 3 => ([3, 7], [1])
  | 39, 1 => ([], [])
  | 41, 3 => ([17], [3, 8])
  | 48, 2 => ([5], [])
  | 48, 7 => ([7, 8], [6])
  | 49, 5 => ([9, 10], [])
  | 52, 3 => ([22], [2])
  | 52, 11 => ([9, 45], [2])
  | 53, 3 => ([3, 4], [])
  | 53, 6 => ([3, 5], [])
  | 53, 11 => ([6, 7], [])
  | 54, 4 => ([16], [2])
  | 55, 5 => ([3, 4], [1])
  | 55, 14 => ([3, 6], [1])
  | 58, 13 => ([0, 7, 9], [4, 5, 6])
  | 58, 28 => ([0, 7, 13], [4, 5, 6])
  | 62, 3 => ([0, 3, 4], [])
  | 62, 5 => ([5], [])
  | 63, 3 => ([27], [])
  | 63, 11 => ([59], [])
  | 64, 2 => ([3], [1])
  | 65, 3 => ([3, 4], [1])
  | 66, 3 => ([3, 4], [1])
  | 67, 4 => ([2, 17], [])
  | 75, 6 => ([0, 4, 5, 6], [])
  | 77, 2 => ([5], [2])
  | 78, 2 => ([5], [])
  | 79, 6 => ([32], [])
  | 81, 3 => ([3, 8], [])
  | 82, 4 => ([4, 13], [])
  | 82, 12 => ([7], [])
  | 83, 4 => ([5, 6, 7], [])
  | 84, 7 => ([6], [])
  | 87, 3 => ([1, 8], [])
  | 92, 5 => ([29], [6])
  | 95, 3 => ([7, 8], [])
  | 96, 4 => ([3], [])
  | 97, 3 => ([5, 6], [])
  | 103, 2 => ([3], [])
  | 107, 2 => ([5], [])
  | 108, 3 => ([5, 6], [])
  | 109, 3 => ([3, 4], [])
  | 111, 3 => ([4, 11], [])
  | 112, 5 => ([4, 5], [])
  | 113, 5 => ([24], [2])
  | 115, 11 => ([6], [5])
  | 115, 19 => ([9], [5])
  | 117, 3 => ([3, 4], [])
  | 118, 16 => ([66], [])
  | 120, 4 => ([5], [])
  | 121, 4 => ([3], [1])
  | 129, 2 => ([7], [])
  | 130, 0 => ([1], [])
  | 139, 9 => ([11, 31], [])
  | 143, 3 => ([5, 10], [])
  | 144, 2 => ([8], [1])
  | 161, 5 => ([6, 24], [])
  | _, _ => ([], [])
def hasL : List Nat := [1, 2, 3, 4, 5, 6, 7, 8, 9, 10, 12, 16, 17, 20, 21, 22, 23, 24, 27, 28, 29, 32, 33, 34, 35, 36, 37, 38, 39, 40, 41, 44, 45, 46, 48, 49, 54, 56, 60, 63, 67, 68, 69, 71, 72, 73, 80, 88, 96, 97, 103, 104, 111, 112, 113, 114, 115, 118, 124, 125, 131, 132, 133, 136, 137, 138, 139, 140, 141, 145, 146, 154, 156, 158, 161, 162, 166, 167, 171, 172, 176, 177, 178, 181, 182, 183, 184, 185, 190, 191, 193, 194, 195, 196, 197, 199, 204, 210, 211, 213, 214, 219, 223, 224, 225, 235, 239, 240, 244, 302, 303, 304, 305, 306, 307, 308, 309, 310, 311]
def hasM : Nat := 8335551215160717065041454889822338685185543817756648419465608765783909903573824827843752957950
def hasOf (t : Nat) : Bool := Nat.testBit hasM t
def eqkL : List Nat := [7, 8, 33, 34, 48, 49, 67, 68, 69, 111, 112, 161, 162, 171, 172, 239, 240]
def eqkOf : Nat → Bool
  | 7 => true
  | 8 => true
  | 33 => true
  | 34 => true
  | 48 => true
  | 49 => true
  | 67 => true
  | 68 => true
  | 69 => true
  | 111 => true
  | 112 => true
  | 161 => true
  | 162 => true
  | 171 => true
  | 172 => true
  | 239 => true
  | 240 => true
  | _ => false
def byrefOf : Nat → Bool
  | 146 => true
  | 197 => true
  | _ => false
def methOf (t : Nat) (m : String) : Option Nat :=
  match t with
  | 190 => if m = "Len" then some F_heap_heads_Len else if m = "Less" then some F_heap_heads_Less else if m = "Pop" then some F_heap_heads_Pop else if m = "Swap" then some F_heap_heads_Swap else none
  | _ => none
@[simp] theorem meth_p_heap_heads_Len : methOf t_p_heap_heads "Len" = some F_heap_heads_Len := by simp [methOf]
@[simp] theorem meth_p_heap_heads_Less : methOf t_p_heap_heads "Less" = some F_heap_heads_Less := by simp [methOf]
@[simp] theorem meth_p_heap_heads_Pop : methOf t_p_heap_heads "Pop" = some F_heap_heads_Pop := by simp [methOf]
@[simp] theorem meth_p_heap_heads_Swap : methOf t_p_heap_heads "Swap" = some F_heap_heads_Swap := by simp [methOf]
def tkOf : Nat → Nat → Bool
  | 67, 2 => true
  | 67, 3 => true
  | 67, 4 => true
  | 67, 38 => true
  | 67, 40 => true
  | 67, 43 => true
  | _, _ => false
def C : Ctx := { ty := tyOf, has := hasOf, eqk := eqkOf, loc := locOf, byref := byrefOf, meth := methOf, live := liveOf, tk := tkOf }
@[simp] theorem C_meth : C.meth = methOf := rfl
noncomputable def En (w0 : World) : Env := ⟨Tryz.prog, C, w0⟩
theorem testBit_off {m n t : Nat} (h : Nat.ble (m.log2 + 1) n = true) (c : ¬ t < n) : m.testBit t = false := by
  by_cases h0 : m = 0
  · rw [h0]; exact Nat.zero_testBit t
  · exact Nat.testBit_lt_two_pow (Nat.lt_of_lt_of_le ((Nat.log2_lt h0).1 (Nat.le_of_ble_eq_true h)) (Nat.pow_le_pow_right (by decide) (Nat.le_of_not_lt c)))
theorem hasOf_mem : ∀ t, hasOf t = true → hasL.elem t = true := by
  intro t h
  by_cases c : t < 312
  · have h2 := List.all_eq_true.1 (show (List.range 312).all (fun t => !(hasOf t) || hasL.elem t) = true by kernel_rfl) t (List.mem_range.2 c)
    rw [h] at h2
    simpa using h2
  · unfold hasOf at h
    rw [testBit_off (n := 312) (by kernel_rfl) c] at h
    cases h
theorem eqkOf_mem : ∀ t, eqkOf t = true → eqkL.elem t = true := by
  intro t h
  unfold eqkOf at h
  split at h <;> first | rfl | cases h
theorem tabOk : hasL.all (fun t => tyCheck Tryz.prog t (tyOf t)) = true := by kernel_rfl
theorem eqkOk : eqkL.all (fun t => eqkCheck Tryz.prog t (tyOf t).zero) = true := by kernel_rfl
theorem meth0 (v : Value) (w : World) : (method (Tryz.prog.types.size + Made.depth) 190 v "Len").run Tryz.prog w = .ok (104, v) w := by kernel_rfl
theorem meth1 (v : Value) (w : World) : (method (Tryz.prog.types.size + Made.depth) 190 v "Less").run Tryz.prog w = .ok (220, v) w := by kernel_rfl
theorem meth2 (v : Value) (w : World) : (method (Tryz.prog.types.size + Made.depth) 190 v "Pop").run Tryz.prog w = .ok (221, v) w := by kernel_rfl
theorem meth3 (v : Value) (w : World) : (method (Tryz.prog.types.size + Made.depth) 190 v "Swap").run Tryz.prog w = .ok (222, v) w := by kernel_rfl
theorem methOk : ∀ t m g, methOf t m = some g → ∀ v w, (method (Tryz.prog.types.size + Made.depth) t v m).run Tryz.prog w = .ok (g, v) w := by
  intro t m g h v w
  unfold methOf at h
  split at h
  · split at h
    · rename_i e; subst e; cases h; exact meth0 v w
    split at h
    · rename_i e; subst e; cases h; exact meth1 v w
    split at h
    · rename_i e; subst e; cases h; exact meth2 v w
    split at h
    · rename_i e; subst e; cases h; exact meth3 v w
    cases h
  · cases h
theorem agree (w0 : World) : Agree (En w0) := agree_of (En w0) hasL eqkL hasOf_mem eqkOf_mem tabOk eqkOk methOk
theorem mixed : Tryz.prog.follows .mixedOrders = true := by kernel_rfl
theorem Ca_sound (w0 : World) : CaSound (En w0) (ACalls (En w0)) := fun _ _ _ _ h => h
theorem Ca_mono (w0 : World) : CaMono (ACalls (En w0)) := fun g xs S Q Q' h hq => ⟨h.1, fun G w hr hro args' hl ha => (h.2 G w hr hro args' hl ha).mono fun e w' ⟨v, r, S', G', h1, h2, h3⟩ => ⟨v, r, S', G', h1, hq _ _ h2, h3⟩⟩
theorem fn_ok (w0 : World) {n : Nat} {fn : Func} (hf : Tryz.prog.funcs[n]? = some fn) (hname : (fn.name == "runtime.NumGoroutine") = false) {args : List AV} {S : St} {Q : AV → St → Prop}
    (h : WF C (ACalls (En w0)) n (Drw C (ACalls (En w0)) n) fn args S Q) : ACalls (En w0) n args S Q :=
  WF_sound (E := En w0) (agree w0) (Ca_sound w0) (Ca_mono w0) (Drw_sound (agree w0) (Ca_sound w0) (Ca_mono w0) mixed) (Drw_mono (Ca_mono w0)) hf hname h
abbrev AC (w0 : World) := ACalls (En w0)
theorem AC_mono {w0 : World} {g : Nat} {xs : List AV} {S : St} {Q Q' : AV → St → Prop} (h : AC w0 g xs S Q) (hq : ∀ r S', Q r S' → Q' r S') : AC w0 g xs S Q' := Ca_mono w0 g xs S Q Q' h hq
abbrev un_int := @Tryz.underlying3
abbrev un_bool := @Tryz.underlying4
abbrev un_uint8 := @Tryz.underlying5
abbrev ag_uint8 := @Tryz.isAgg5
abbrev sz_uint8 := @Tryz.sizeOf5
abbrev zv_uint8 := @Tryz.zeroValue5
abbrev un_string := @Tryz.underlying9
abbrev un_s_api_Node := @Tryz.underlying22
abbrev un_socagelaw11_Case := @Tryz.underlying24
abbrev un_s_string := @Tryz.underlying44
abbrev un_s_api_Extent := @Tryz.underlying71
abbrev un_api_Node := @Tryz.underlying73
abbrev un_api_Extent := @Tryz.underlying172
theorem ce_string : Tryz.prog.cellsOf t_string = 1 := by kernel_rfl
theorem ce_api_Node : Tryz.prog.cellsOf t_api_Node = 7 := by kernel_rfl
theorem ce_api_Extent : Tryz.prog.cellsOf t_api_Extent = 2 := by kernel_rfl
abbrev fn_slices_Clone_s_string_string := @Tryz.func60
abbrev fn_strings_Split := @Tryz.func85
abbrev fn_strings_Repeat := @Tryz.func100
abbrev fn_strings_ContainsAny := @Tryz.func122
end Go.Av
set_option linter.unusedVariables false
set_option maxHeartbeats 2000000
namespace Go.Av
open Go.Proofs
def G_top_WholePaths (Ca : Nat → List AV → St → (AV → St → Prop) → Prop) (a0a : List (List AV)) (a0ar : Rt) (a0b : List UInt8) (a0c : Bool) (a1 : Int) (a2 : Int) (S0 : St) (Q : AV → St → Prop) : Prop :=
 optK (boxA T_socagelaw11_Case (.agg [(.vs 7 a0a a0ar), (.str a0b), (.bool a0c)])) fun c3 =>
 Ca F_top_one [] S0 fun t13 S =>
 optK (unA .not t13) fun t14 =>
 ifK t14
 (Q (.bool false) S)
 (optK (some c3) fun _ =>
 optK (lloadA T_s_api_Node (some c3) 0) fun t16 =>
 callK Ca F_law08_May [(AV.strip t16)] S fun t17 S_2 =>
 optK (binA .eql t17 (.int .i64 0)) fun t18 =>
 joinK (fun (x23 : AV) =>
 optK (pickA (AV.strip t18) (.bool true) x23) fun t24 =>
 joinK (fun (x27 : AV) =>
 optK (pickA (AV.strip (AV.strip t24)) (.bool true) x27) fun t28 =>
 ifK (AV.strip t28)
 (Q (.bool true) S_2)
 (optK (some c3) fun _ =>
 optK (lloadA T_s_api_Node (some c3) 0) fun t31 =>
 callK Ca F_law08_Stack [(AV.strip t31)] S_2 fun t32 S_3 =>
 optK (extractA t32 0) fun t33 =>
 optK (extractA (stripTup t32 0) 1) fun t34 =>
 optK (lstoreA T_stack_Stack (some [(.vs 2 [] .nil), (.int .i64 0)]) 0 t33) fun b7 =>
 optK (unA .not (AV.strip t34)) fun t36 =>
 joinK (fun (x40 : AV) (S_5 : St) =>
 optK (pickA (AV.strip t36) (.bool true) x40) fun t41 =>
 ifK (AV.strip t41)
 (Q (.bool false) S_5)
 (optK (lloadA T_stack_Stack (some b7) 0) fun t43 =>
 optK (some c3) fun _ =>
 optK (lloadA T_string (some c3) 1) fun t45 =>
 callK Ca F_walk_Walk [(AV.strip t43), (AV.strip t45), (.bool true)] S_5 fun t46 S_6 =>
 optK (extractA t46 0) fun t47 =>
 optK (extractA (stripTup t46 0) 1) fun t48 =>
 optK (lstoreA T_walk_Target (some [(.str []), (.int .i64 0), (.int .i64 0), (.int .i64 0), (.vs 2 [] .nil)]) 0 t47) fun b9 =>
 optK (lloadA T_stack_Stack (some b7) 0) fun t49 =>
 optK (some c3) fun _ =>
 optK (lloadA T_string (some c3) 1) fun t51 =>
 optK (buildA T_api_Op 1 [(0, (.int .i64 4)), (1, (AV.strip t51)), (2, (.int .i64 a1)), (3, (.int .i64 a2))]) fun t54 =>
 callK Ca F_union_Do [(AV.strip t49), t54] S_6 fun t55 S_7 =>
 optK (lstoreA T_api_Result (some [(.int .i64 0), (.int .i64 0), (.int .i64 0), (.int .i64 0), (.int .i64 0), (.str []), (.vs 1 [] .nil), (.bool false)]) 0 t55) fun b11 =>
 optK (binA .neq (AV.strip t48) (.int .i64 0)) fun t57 =>
 ifK t57
 (optK (some b11) fun _ =>
 optK (lloadA T_api_Errno (some b11) 0) fun t59 =>
 optK (binA .eql (AV.strip t59) (AV.strip t48)) fun t61 =>
 joinK (fun (x73 : AV) =>
 optK (pickA (AV.strip t61) (.bool true) x73) fun t74 =>
 Q (AV.strip t74) S_7) fun j_6 =>
 ifK (AV.strip t61)
 (j_6 (.tup []))
 (optK (some b11) fun _ =>
 optK (lloadA T_api_Errno (some b11) 0) fun t64 =>
 optK (binA .eql (AV.strip t64) (.int .i64 1)) fun t65 =>
 joinK (fun (x72 : AV) =>
 optK (pickA (AV.strip t65) x72 (.bool false)) fun t73 =>
 j_6 (AV.strip t73)) fun j_5 =>
 gK (AV.strip t65)
 (joinK (fun (x71 : AV) =>
 optK (pickA (.bool (decide (a1 < 0))) (.bool true) x71) fun t72 =>
 j_5 (AV.strip t72)) fun j_4 =>
 gK (.bool (decide (a1 < 0)))
 (j_4 (.tup []))
 (j_4 (.bool (decide (a2 < 0))))
 (j_4 (.tup [])))
 (j_5 (.tup []))
 (j_5 (.tup []))))
 (optK (lloadA T_stack_Stack (some b7) 0) fun t75 =>
 optK (some b9) fun _ =>
 optK (lloadA T_string (some b9) 0) fun t77 =>
 optK (buildA T_api_Op 1 [(0, (.int .i64 4)), (1, (AV.strip t77)), (2, (.int .i64 a1)), (3, (.int .i64 a2))]) fun t80 =>
 callK Ca F_union_Do [(AV.strip t75), t80] S_7 fun t81 S_8 =>
 optK (lstoreA T_api_Result (some [(.int .i64 0), (.int .i64 0), (.int .i64 0), (.int .i64 0), (.int .i64 0), (.str []), (.vs 1 [] .nil), (.bool false)]) 0 t81) fun b12 =>
 optK (some b11) fun _ =>
 optK (lloadA T_api_Errno (some b11) 0) fun t83 =>
 optK (some b12) fun _ =>
 optK (lloadA T_api_Errno (some b12) 0) fun t85 =>
 optK (binA .eql (AV.strip t83) (AV.strip t85)) fun t86 =>
 joinK (fun (x92 : AV) =>
 optK (pickA (AV.strip t86) x92 (.bool false)) fun t93 =>
 Q (AV.strip t93) S_8) fun j_7 =>
 ifK (AV.strip t86)
 (optK (some b11) fun _ =>
 optK (lloadA T_string (some b11) 5) fun t89 =>
 optK (some b12) fun _ =>
 optK (lloadA T_string (some b12) 5) fun t91 =>
 optK (binA .eql (AV.strip t89) (AV.strip t91)) fun t92 =>
 j_7 t92)
 (j_7 (.tup []))))) fun j_3 =>
 ifK (AV.strip t36)
 (j_3 (.tup []) S_3)
 (optK (lloadA T_stack_Stack (some b7) 0) fun t38 =>
 callK Ca F_top_all [(AV.strip t38), (.str [47])] S_3 fun t39 S_4 =>
 optK (unA .not t39) fun t40 =>
 j_3 t40 S_4))) fun j =>
 ifK (AV.strip (AV.strip t24))
 (j (.tup []))
 (j (.bool (decide (a2 > 3000))))) fun j_2 =>
 ifK (AV.strip t18)
 (j_2 (.tup []))
 (optK (some c3) fun _ =>
 optK (lloadA T_string (some c3) 1) fun t21 =>
 optK (lenStrA (AV.strip t21)) fun t22 =>
 optK (binA .gtr t22 (.int .i64 1000)) fun t23 =>
 j_2 t23))
theorem top_WholePaths_eq (Ca) (a0a : List (List AV)) (a0ar : Rt) (a0b : List UInt8) (a0c : Bool) (a1 : Int) (a2 : Int) (S0 Q) : WF C Ca 3 (Drw C Ca 3) Tryz.f3 [(.agg [(.vs 7 a0a a0ar), (.str a0b), (.bool a0c)]), (.int .i64 a1), (.int .i64 a2)] S0 Q = G_top_WholePaths Ca a0a a0ar a0b a0c a1 a2 S0 Q := by kernel_rfl
theorem top_WholePaths_ok {w0 : World} {a0a : List (List AV)} {a0ar : Rt} {a0b : List UInt8} {a0c : Bool} {a1 : Int} {a2 : Int} {S0 : St} {Q : AV → St → Prop} (h : G_top_WholePaths (ACalls (En w0)) a0a a0ar a0b a0c a1 a2 S0 Q) : AC w0 F_top_WholePaths [(.agg [(.vs 7 a0a a0ar), (.str a0b), (.bool a0c)]), (.int .i64 a1), (.int .i64 a2)] S0 Q := fn_ok w0 Tryz.func3 (by kernel_rfl) (by rw [top_WholePaths_eq]; exact h)
def G_top_one (Ca : Nat → List AV → St → (AV → St → Prop) → Prop) (S0 : St) (Q : AV → St → Prop) : Prop :=
 Ca F_tree_Text [(.str [120])] S0 fun t5 S =>
 optK (elemVals 7 [t5]) fun e6 =>
 Ca F_tree_Dir [(.vs 1 [[(.str [97])]] .full), (.vs 7 e6 .full)] S fun t7 S_2 =>
 optK (elemVals 7 [t7]) fun e8 =>
 Ca F_stack_Of [(.vs 7 e8 .full)] S_2 fun t9 S_3 =>
 optK (extractA t9 0) fun t10 =>
 optK (extractA (stripTup t9 0) 1) fun t11 =>
 optK (lstoreA T_stack_Stack (some [(.vs 2 [] .nil), (.int .i64 0)]) 0 t10) fun b1 =>
 optK (binA .eql (AV.strip t11) (.int .i64 0)) fun t13 =>
 joinK (fun (x17 : AV) (S_5 : St) =>
 optK (pickA (AV.strip t13) x17 (.bool false)) fun t18 =>
 Q (AV.strip t18) S_5) fun j =>
 ifK (AV.strip t13)
 (optK (lloadA T_stack_Stack (some b1) 0) fun t15 =>
 callK Ca F_stack_Stack_Len [(AV.strip t15)] S_3 fun t16 S_4 =>
 optK (binA .eql t16 (.int .i64 1)) fun t17 =>
 j t17 S_4)
 (j (.tup []) S_3)
theorem top_one_eq (Ca) (S0 Q) : WF C Ca 8 (Drw C Ca 8) Tryz.f8 [] S0 Q = G_top_one Ca  S0 Q := by kernel_rfl
theorem top_one_ok {w0 : World} {S0 : St} {Q : AV → St → Prop} (h : G_top_one (ACalls (En w0))  S0 Q) : AC w0 F_top_one [] S0 Q := fn_ok w0 Tryz.func8 (by kernel_rfl) (by rw [top_one_eq]; exact h)
def G_law08_May (Ca : Nat → List AV → St → (AV → St → Prop) → Prop) (a0 : List (List AV)) (a0r : Rt) (S0 : St) (Q : AV → St → Prop) : Prop :=
 ifK (.bool (decide ((List.length a0 : Int) > 8)))
 (Q (.int .i64 0) S0)
 (joinK (fun (S_5 : St) =>
 Q (.int .i64 1) S_5) fun j_2 =>
 loopQ ([(.int .i64 0)], []) (fun v bx => ([v 10], [])) (fun nx v bx S =>
 optK (binA .lss (v 10) (.int .i64 (List.length a0 : Int))) fun t11 =>
 ifK t11
 (optK (idxSlA T_api_Node (.vs 7 a0 (Rt.strip a0r)) (v 10)) fun t12 =>
 optK (loadA T_api_Node S t12) fun t13 =>
 optK (lstoreA T_api_Node (some [(.int .i64 0), (.bool false), (.vs 1 [] .nil), (.vs 7 [] .nil), (.int .i64 0), (.vs 2 [] .nil), (.str [])]) 0 (AV.strip t13)) fun b4 =>
 optK (lloadA T_api_Node (some b4) 0) fun t14 =>
 callK Ca F_law04_Small [(AV.strip t14)] S fun t15 S_2 =>
 optK (binA .eql t15 (.int .i64 0)) fun t16 =>
 joinK (fun (x20 : AV) (S_4 : St) =>
 optK (pickA (AV.strip t16) (.bool true) x20) fun t21 =>
 ifK (AV.strip t21)
 (Q (.int .i64 0) S_4)
 (optK (binA .add (v 10) (.int .i64 1)) fun t22 =>
 nx ([(AV.strip t22)], []) S_4)) fun j =>
 ifK (AV.strip t16)
 (j (.tup []) S_2)
 (optK (lloadA T_api_Node (some b4) 0) fun t18 =>
 callK Ca F_ref04_Right [(AV.strip t18)] S_2 fun t19 S_3 =>
 optK (unA .not t19) fun t20 =>
 j t20 S_3))
 (j_2 S)) S0)
theorem law08_May_eq (Ca) (a0 : List (List AV)) (a0r : Rt) (S0 Q) : WF C Ca 9 (Drw C Ca 9) Tryz.f9 [(.vs 7 a0 a0r)] S0 Q = G_law08_May Ca a0 a0r S0 Q := by kernel_rfl
theorem law08_May_ok {w0 : World} {a0 : List (List AV)} {a0r : Rt} {S0 : St} {Q : AV → St → Prop} (h : G_law08_May (ACalls (En w0)) a0 a0r S0 Q) : AC w0 F_law08_May [(.vs 7 a0 a0r)] S0 Q := fn_ok w0 Tryz.func9 (by kernel_rfl) (by rw [law08_May_eq]; exact h)
def G_law08_Stack (Ca : Nat → List AV → St → (AV → St → Prop) → Prop) (a0 : List (List AV)) (a0r : Rt) (S0 : St) (Q : AV → St → Prop) : Prop :=
 ifK (.bool (decide ((List.length a0 : Int) > 8)))
 (Q (.tup [(.agg [(.vs 2 [] .nil), (.int .i64 0)]), (.bool false)]) S0)
 (joinK (fun (y2 : Option (List AV)) (S_5 : St) =>
 Ca F_stack_Of [(.vs 7 a0 (Rt.strip (Rt.strip a0r)))] S_5 fun t30 S_6 =>
 optK (extractA t30 0) fun t31 =>
 optK (extractA (stripTup t30 0) 1) fun t32 =>
 optK (lstoreA T_stack_Stack (some [(.vs 2 [] .nil), (.int .i64 0)]) 0 t31) fun b6 =>
 optK (lloadA T_stack_Stack (some b6) 0) fun t33 =>
 optK (binA .eql (AV.strip t32) (.int .i64 0)) fun t35 =>
 joinK (fun (x41 : AV) (S_8 : St) =>
 optK (pickA (AV.strip t35) x41 (.bool false)) fun t42 =>
 optK (lstoreA T_stack_Stack y2 0 (AV.strip t33)) fun b2_2 =>
 optK ((lloadA T_stack_Stack (some b2_2) 0).map AV.strip) fun r2_2 =>
 Q (.tup [(AV.flat r2_2), (AV.flat (AV.strip t42))]) S_8) fun j_2 =>
 ifK (AV.strip t35)
 (optK (lloadA T_stack_Stack (some b6) 0) fun t37 =>
 callK Ca F_stack_Stack_Len [(AV.strip t37)] S_6 fun t38 S_7 =>
 optK (binA .eql t38 (.int .i64 (List.length a0 : Int))) fun t41 =>
 j_2 t41 S_7)
 (j_2 (.tup []) S_6)) fun j_3 =>
 loopQ ([(.int .i64 0)], [(some [(.vs 2 [] .nil), (.int .i64 0)])]) (fun v bx => ([v 14], [bx 2])) (fun nx v bx S =>
 optK (binA .lss (v 14) (.int .i64 (List.length a0 : Int))) fun t15 =>
 ifK t15
 (optK (idxSlA T_api_Node (.vs 7 a0 (Rt.strip a0r)) (v 14)) fun t16 =>
 optK (loadA T_api_Node S t16) fun t17 =>
 optK (lstoreA T_api_Node (some [(.int .i64 0), (.bool false), (.vs 1 [] .nil), (.vs 7 [] .nil), (.int .i64 0), (.vs 2 [] .nil), (.str [])]) 0 (AV.strip t17)) fun b5 =>
 optK (lloadA T_api_Node (some b5) 0) fun t18 =>
 callK Ca F_law04_Small [(AV.strip t18)] S fun t19 S_2 =>
 optK (binA .eql t19 (.int .i64 0)) fun t20 =>
 joinK (fun (x24 : AV) (S_4 : St) =>
 optK (pickA (AV.strip t20) (.bool true) x24) fun t25 =>
 ifK (AV.strip t25)
 (optK (lstoreA T_stack_Stack (bx 2) 0 (.agg [(.vs 2 [] .nil), (.int .i64 0)])) fun b2 =>
 optK ((lloadA T_stack_Stack (some b2) 0).map AV.strip) fun r2 =>
 Q (.tup [(AV.flat r2), (.bool false)]) S_4)
 (optK (binA .add (v 14) (.int .i64 1)) fun t27 =>
 nx ([(AV.strip t27)], [(bx 2)]) S_4)) fun j =>
 ifK (AV.strip t20)
 (j (.tup []) S_2)
 (optK (lloadA T_api_Node (some b5) 0) fun t22 =>
 callK Ca F_ref04_Right [(AV.strip t22)] S_2 fun t23 S_3 =>
 optK (unA .not t23) fun t24 =>
 j t24 S_3))
 (j_3 (bx 2) S)) S0)
theorem law08_Stack_eq (Ca) (a0 : List (List AV)) (a0r : Rt) (S0 Q) : WF C Ca 10 (Drw C Ca 10) Tryz.f10 [(.vs 7 a0 a0r)] S0 Q = G_law08_Stack Ca a0 a0r S0 Q := by kernel_rfl
theorem law08_Stack_ok {w0 : World} {a0 : List (List AV)} {a0r : Rt} {S0 : St} {Q : AV → St → Prop} (h : G_law08_Stack (ACalls (En w0)) a0 a0r S0 Q) : AC w0 F_law08_Stack [(.vs 7 a0 a0r)] S0 Q := fn_ok w0 Tryz.func10 (by kernel_rfl) (by rw [law08_Stack_eq]; exact h)
def G_top_all (Ca : Nat → List AV → St → (AV → St → Prop) → Prop) (a0a : List (List AV)) (a0ar : Rt) (a0b : Int) (a1 : List UInt8) (S0 : St) (Q : AV → St → Prop) : Prop :=
 optK (boxA T_stack_Stack (.agg [(.vs 2 a0a a0ar), (.int .i64 a0b)])) fun c2 =>
 optK (lloadA T_stack_Stack (some c2) 0) fun t15 =>
 callK Ca F_union_List [(AV.strip t15), (.str a1)] S0 fun t17 S =>
 optK (extractA t17 0) fun t18 =>
 optK (extractA (stripTup t17 0) 1) fun t19 =>
 optK (extractA (stripTup (stripTup t17 0) 1) 2) fun t20 =>
 optK (binA .neq (AV.strip t20) (.int .i64 0)) fun t22 =>
 joinK (fun (x26 : AV) =>
 optK (pickA (AV.strip t22) (.bool true) x26) fun t27 =>
 ifK (AV.strip t27)
 (Q (.bool false) S)
 (joinK (fun (S_9 : St) =>
 Q (.bool true) S_9) fun j_8 =>
 optK (lenSlA (AV.strip t19)) fun t29 =>
 loopQ ([(.int .i64 0)], [(some c2)]) (fun v bx => ([v 30], [bx 2])) (fun nx v bx S_2 =>
 optK (binA .lss (v 30) t29) fun t31 =>
 ifK t31
 (optK (idxSlA T_merge_Entry (AV.strip t19) (v 30)) fun t32 =>
 optK (loadA T_merge_Entry S_2 t32) fun t33 =>
 optK (lstoreA T_merge_Entry (some [(.str []), (.int .i64 0)]) 0 (AV.strip t33)) fun b9 =>
 optK (binA .add (.str a1) (.str [47])) fun t35 =>
 optK (some b9) fun _ =>
 optK (lloadA T_string (some b9) 0) fun t37 =>
 optK (binA .add t35 (AV.strip t37)) fun t38 =>
 joinK (fun (x10 : AV) =>
 optK (lloadA T_stack_Stack (bx 2) 0) fun t46 =>
 callK Ca F_walk_Walk [(AV.strip t46), (AV.strip x10), (.bool false)] S_2 fun t48 S_3 =>
 optK (extractA t48 0) fun t49 =>
 optK (extractA (stripTup t48 0) 1) fun t50 =>
 optK (lstoreA T_walk_Target (some [(.str []), (.int .i64 0), (.int .i64 0), (.int .i64 0), (.vs 2 [] .nil)]) 0 t49) fun b11 =>
 optK (lloadA T_stack_Stack (bx 2) 0) fun t51 =>
 optK (buildA T_api_Op 1 [(0, (.int .i64 1)), (1, (AV.strip x10))]) fun t53 =>
 callK Ca F_union_Do [(AV.strip t51), t53] S_3 fun t54 S_4 =>
 optK (lstoreA T_api_Result (some [(.int .i64 0), (.int .i64 0), (.int .i64 0), (.int .i64 0), (.int .i64 0), (.str []), (.vs 1 [] .nil), (.bool false)]) 0 t54) fun b13 =>
 optK (binA .neq (AV.strip t50) (.int .i64 0)) fun t56 =>
 joinK (fun (x61 : AV) =>
 optK (pickA (AV.strip t56) (.bool true) x61) fun t62 =>
 joinK (fun (x69 : AV) =>
 optK (pickA (AV.strip (AV.strip t62)) (.bool true) x69) fun t70 =>
 joinK (fun (x76 : AV) =>
 optK (pickA (AV.strip (AV.strip t70)) (.bool true) x76) fun t77 =>
 joinK (fun (x87 : AV) (S_6 : St) =>
 optK (pickA (AV.strip (AV.strip t77)) (.bool true) x87) fun t88 =>
 ifK (AV.strip t88)
 (Q (.bool false) S_6)
 (optK (some b9) fun _ =>
 optK (lloadA T_int (some b9) 1) fun t90 =>
 optK (binA .eql (AV.strip t90) (.int .i64 2)) fun t91 =>
 joinK (fun (x96 : AV) (S_8 : St) =>
 optK (pickA (AV.strip t91) x96 (.bool false)) fun t97 =>
 ifK (AV.strip t97)
 (Q (.bool false) S_8)
 (optK (binA .add (v 30) (.int .i64 1)) fun t98 =>
 nx ([(AV.strip t98)], [(bx 2)]) S_8)) fun j_6 =>
 ifK (AV.strip t91)
 (optK (lloadA T_stack_Stack (bx 2) 0) fun t93 =>
 callK Ca F_top_all [(AV.strip t93), (AV.strip x10)] S_6 fun t95 S_7 =>
 optK (unA .not t95) fun t96 =>
 j_6 t96 S_7)
 (j_6 (.tup []) S_6))) fun j_2 =>
 ifK (AV.strip (AV.strip t77))
 (j_2 (.tup []) S_4)
 (optK (some b13) fun _ =>
 optK (lloadA T_int (some b13) 3) fun t80 =>
 optK (lloadA T_stack_Stack (bx 2) 0) fun t81 =>
 optK (some b11) fun _ =>
 optK (some b11) fun _ =>
 optK (some b11) fun _ =>
 optK (lloadA T_int (some b11) 2) fun t85 =>
 callK Ca F_stack_Stack_ID [(AV.strip t81), (AV.strip t85)] S_4 fun t86 S_5 =>
 optK (binA .neq (AV.strip t80) t86) fun t87 =>
 j_2 t87 S_5)) fun j_3 =>
 ifK (AV.strip (AV.strip t70))
 (j_3 (.tup []))
 (optK (some b13) fun _ =>
 optK (lloadA T_int (some b13) 1) fun t73 =>
 optK (some b9) fun _ =>
 optK (lloadA T_int (some b9) 1) fun t75 =>
 optK (binA .neq (AV.strip t73) (AV.strip t75)) fun t76 =>
 j_3 t76)) fun j_4 =>
 ifK (AV.strip (AV.strip t62))
 (j_4 (.tup []))
 (optK (some b11) fun _ =>
 optK (some b11) fun _ =>
 optK (lloadA T_int (some b11) 1) fun t66 =>
 optK (some b9) fun _ =>
 optK (lloadA T_int (some b9) 1) fun t68 =>
 optK (binA .neq (AV.strip t66) (AV.strip t68)) fun t69 =>
 j_4 t69)) fun j_5 =>
 ifK (AV.strip t56)
 (j_5 (.tup []))
 (optK (some b11) fun _ =>
 optK (lloadA T_string (some b11) 0) fun t59 =>
 optK (binA .neq (AV.strip t59) (AV.strip x10)) fun t61 =>
 j_5 t61)) fun j_7 =>
 ifK (.bool (a1 == [47]))
 (optK (some b9) fun _ =>
 optK (lloadA T_string (some b9) 0) fun t43 =>
 optK (binA .add (.str a1) (AV.strip t43)) fun t44 =>
 j_7 t44)
 (j_7 t38))
 (j_8 S_2)) S)) fun j =>
 ifK (AV.strip t22)
 (j (.tup []))
 (optK (binA .neq (AV.strip t18) (.str a1)) fun t26 =>
 j t26)
theorem top_all_eq (Ca) (a0a : List (List AV)) (a0ar : Rt) (a0b : Int) (a1 : List UInt8) (S0 Q) : WF C Ca 11 (Drw C Ca 11) Tryz.f11 [(.agg [(.vs 2 a0a a0ar), (.int .i64 a0b)]), (.str a1)] S0 Q = G_top_all Ca a0a a0ar a0b a1 S0 Q := by kernel_rfl
theorem top_all_ok {w0 : World} {a0a : List (List AV)} {a0ar : Rt} {a0b : Int} {a1 : List UInt8} {S0 : St} {Q : AV → St → Prop} (h : G_top_all (ACalls (En w0)) a0a a0ar a0b a1 S0 Q) : AC w0 F_top_all [(.agg [(.vs 2 a0a a0ar), (.int .i64 a0b)]), (.str a1)] S0 Q := fn_ok w0 Tryz.func11 (by kernel_rfl) (by rw [top_all_eq]; exact h)
def G_walk_Walk (Ca : Nat → List AV → St → (AV → St → Prop) → Prop) (a0a : List (List AV)) (a0ar : Rt) (a0b : Int) (a1 : List UInt8) (a2 : Bool) (S0 : St) (Q : AV → St → Prop) : Prop :=
 optK (boxA T_stack_Stack (.agg [(.vs 2 a0a a0ar), (.int .i64 a0b)])) fun c3 =>
 optK (lloadA T_stack_Stack (some c3) 0) fun t19 =>
 callK Ca F_seen_Root [(AV.strip t19)] S0 fun t20 S =>
 callK Ca F_walk_New [t20, (.str a1), (.bool a2)] S fun t23 S_2 =>
 optK (extractA t23 0) fun t24 =>
 optK (extractA (stripTup t23 0) 1) fun t25 =>
 optK (binA .neq (AV.strip t25) (.int .i64 0)) fun t27 =>
 ifK t27
 (Q (.tup [(.agg [(.str []), (.int .i64 0), (.int .i64 0), (.int .i64 0), (.vs 2 [] .nil)]), (AV.flat (AV.strip t25))]) S_2)
 (loopQ ([], [(some c3), (some [(.str []), (.int .i64 0), (.int .i64 0), (.int .i64 0), (.vs 2 [] .nil)])]) (fun v bx => ([], [bx 3, bx 6])) (fun nx v bx S_3 =>
 callK Ca F_walk_Walker_Ask [(AV.strip t24)] S_3 fun t32 S_4 =>
 optK (extractA t32 0) fun t33 =>
 optK (extractA (stripTup t32 0) 1) fun t34 =>
 optK (extractA (stripTup (stripTup t32 0) 1) 2) fun t35 =>
 optK (extractA (stripTup (stripTup (stripTup t32 0) 1) 2) 3) fun t36 =>
 optK (unA .not (AV.strip t36)) fun t38 =>
 ifK t38
 (callK Ca F_walk_Walker_Target [(AV.strip t24)] S_4 fun t40 S_5 =>
 optK (lstoreA T_walk_Target (bx 6) 0 t40) fun b6 =>
 optK ((lloadA T_walk_Target (some b6) 0).map AV.strip) fun r6 =>
 Q (.tup [(AV.flat r6), (.int .i64 0)]) S_5)
 (optK (lloadA T_stack_Stack (bx 3) 0) fun t42 =>
 callK Ca F_seen_Look [(AV.strip t42), (AV.strip t34), (AV.strip t35)] S_4 fun t45 S_6 =>
 optK (extractA t45 0) fun t46 =>
 optK (extractA (stripTup t45 0) 1) fun t47 =>
 optK (lstoreA T_seen_Found (some [(.int .i64 0), (.int .i64 0), (.int .i64 0), (.vs 2 [] .nil)]) 0 t46) fun b14 =>
 joinK (fun (x16 : AV) (S_9 : St) =>
 optK (lloadA T_seen_Found (some b14) 0) fun t64 =>
 callK Ca F_walk_Walker_Tell [(AV.strip t24), (AV.strip t64), (AV.strip t47), (AV.strip x16)] S_9 fun t67 S_10 =>
 optK (binA .neq (AV.strip t67) (.int .i64 0)) fun t69 =>
 ifK t69
 (optK (lstoreA T_walk_Target (bx 6) 0 (.agg [(.str []), (.int .i64 0), (.int .i64 0), (.int .i64 0), (.vs 2 [] .nil)])) fun b6_2 =>
 optK ((lloadA T_walk_Target (some b6_2) 0).map AV.strip) fun r6_2 =>
 Q (.tup [(AV.flat r6_2), (AV.flat (AV.strip t67))]) S_10)
 (nx ([], [(bx 3), (bx 6)]) S_10)) fun j_2 =>
 joinK (fun (x52 : AV) =>
 optK (pickA (AV.strip (AV.strip t47)) x52 (.bool false)) fun t53 =>
 ifK (AV.strip t53)
 (optK (lloadA T_stack_Stack (bx 3) 0) fun t54 =>
 optK (some b14) fun _ =>
 optK (some b14) fun _ =>
 optK (lloadA T_int (some b14) 1) fun t57 =>
 optK (some b14) fun _ =>
 optK (some b14) fun _ =>
 optK (lloadA T_int (some b14) 2) fun t61 =>
 callK Ca F_stack_Stack_At [(AV.strip t54), (AV.strip t57)] S_6 fun t58 S_7 =>
 callK Ca F_branch_Branch_Target [t58, (AV.strip t61)] S_7 fun t62 S_8 =>
 j_2 t62 S_8)
 (j_2 (.str []) S_6)) fun j =>
 ifK (AV.strip (AV.strip t47))
 (optK (some b14) fun _ =>
 optK (lloadA T_int (some b14) 0) fun t51 =>
 optK (binA .eql (AV.strip t51) (.int .i64 3)) fun t52 =>
 j t52)
 (j (.tup [])))) S_2)
theorem walk_Walk_eq (Ca) (a0a : List (List AV)) (a0ar : Rt) (a0b : Int) (a1 : List UInt8) (a2 : Bool) (S0 Q) : WF C Ca 12 (Drw C Ca 12) Tryz.f12 [(.agg [(.vs 2 a0a a0ar), (.int .i64 a0b)]), (.str a1), (.bool a2)] S0 Q = G_walk_Walk Ca a0a a0ar a0b a1 a2 S0 Q := by kernel_rfl
theorem walk_Walk_ok {w0 : World} {a0a : List (List AV)} {a0ar : Rt} {a0b : Int} {a1 : List UInt8} {a2 : Bool} {S0 : St} {Q : AV → St → Prop} (h : G_walk_Walk (ACalls (En w0)) a0a a0ar a0b a1 a2 S0 Q) : AC w0 F_walk_Walk [(.agg [(.vs 2 a0a a0ar), (.int .i64 a0b)]), (.str a1), (.bool a2)] S0 Q := fn_ok w0 Tryz.func12 (by kernel_rfl) (by rw [walk_Walk_eq]; exact h)
def G_union_Do (Ca : Nat → List AV → St → (AV → St → Prop) → Prop) (a0a : List (List AV)) (a0ar : Rt) (a0b : Int) (a1a : Int) (a1b : List UInt8) (a1c : Int) (a1d : Int) (a1e : Int) (a1f : List UInt8) (S0 : St) (Q : AV → St → Prop) : Prop :=
 optK (boxA T_stack_Stack (.agg [(.vs 2 a0a a0ar), (.int .i64 a0b)])) fun c2 =>
 optK (boxA T_api_Op (.agg [(.int .i64 a1a), (.str a1b), (.int .i64 a1c), (.int .i64 a1d), (.int .i64 a1e), (.str a1f)])) fun c3 =>
 optK (some c3) fun _ =>
 optK (lloadA T_int (some c3) 0) fun t9 =>
 callK Ca F_union_Is [(AV.strip t9)] S0 fun t10 S =>
 optK (unA .not t10) fun t11 =>
 ifK t11
 (Ca F_union_fault [(.int .i64 1)] S fun t12 S_2 =>
 optK (lstoreA T_api_Result (some [(.int .i64 0), (.int .i64 0), (.int .i64 0), (.int .i64 0), (.int .i64 0), (.str []), (.vs 1 [] .nil), (.bool false)]) 0 t12) fun b4 =>
 optK ((lloadA T_api_Result (some b4) 0).map AV.strip) fun r4 =>
 Q r4 S_2)
 (optK (lloadA T_api_Op (some c3) 0) fun t13 =>
 callK Ca F_union_Check [(AV.strip t13)] S fun t14 S_3 =>
 optK (binA .neq (AV.strip t14) (.int .i64 0)) fun t16 =>
 ifK t16
 (callK Ca F_union_fault [(AV.strip t14)] S_3 fun t18 S_4 =>
 optK (lstoreA T_api_Result (some [(.int .i64 0), (.int .i64 0), (.int .i64 0), (.int .i64 0), (.int .i64 0), (.str []), (.vs 1 [] .nil), (.bool false)]) 0 t18) fun b4_2 =>
 optK ((lloadA T_api_Result (some b4_2) 0).map AV.strip) fun r4_2 =>
 Q r4_2 S_4)
 (optK (lloadA T_stack_Stack (some c2) 0) fun t20 =>
 optK (some c3) fun _ =>
 optK (lloadA T_string (some c3) 1) fun t22 =>
 optK (some c3) fun _ =>
 optK (lloadA T_int (some c3) 0) fun t24 =>
 callK Ca F_union_Follows [(AV.strip t24)] S_3 fun t25 S_5 =>
 callK Ca F_walk_Walk [(AV.strip t20), (AV.strip t22), t25] S_5 fun t26 S_6 =>
 optK (extractA t26 0) fun t27 =>
 optK (extractA (stripTup t26 0) 1) fun t28 =>
 optK (lstoreA T_walk_Target (some [(.str []), (.int .i64 0), (.int .i64 0), (.int .i64 0), (.vs 2 [] .nil)]) 0 t27) fun b6 =>
 optK (binA .neq (AV.strip t28) (.int .i64 0)) fun t30 =>
 ifK t30
 (callK Ca F_union_fault [(AV.strip t28)] S_6 fun t32 S_7 =>
 optK (lstoreA T_api_Result (some [(.int .i64 0), (.int .i64 0), (.int .i64 0), (.int .i64 0), (.int .i64 0), (.str []), (.vs 1 [] .nil), (.bool false)]) 0 t32) fun b4_3 =>
 optK ((lloadA T_api_Result (some b4_3) 0).map AV.strip) fun r4_3 =>
 Q r4_3 S_7)
 (optK (lloadA T_stack_Stack (some c2) 0) fun t33 =>
 optK (lloadA T_api_Op (some c3) 0) fun t34 =>
 optK (lloadA T_walk_Target (some b6) 0) fun t35 =>
 callK Ca F_union_Finish [(AV.strip t33), (AV.strip t34), (AV.strip t35)] S_6 fun t36 S_8 =>
 optK (lstoreA T_api_Result (some [(.int .i64 0), (.int .i64 0), (.int .i64 0), (.int .i64 0), (.int .i64 0), (.str []), (.vs 1 [] .nil), (.bool false)]) 0 t36) fun b4_4 =>
 optK ((lloadA T_api_Result (some b4_4) 0).map AV.strip) fun r4_4 =>
 Q r4_4 S_8)))
theorem union_Do_eq (Ca) (a0a : List (List AV)) (a0ar : Rt) (a0b : Int) (a1a : Int) (a1b : List UInt8) (a1c : Int) (a1d : Int) (a1e : Int) (a1f : List UInt8) (S0 Q) : WF C Ca 13 (Drw C Ca 13) Tryz.f13 [(.agg [(.vs 2 a0a a0ar), (.int .i64 a0b)]), (.agg [(.int .i64 a1a), (.str a1b), (.int .i64 a1c), (.int .i64 a1d), (.int .i64 a1e), (.str a1f)])] S0 Q = G_union_Do Ca a0a a0ar a0b a1a a1b a1c a1d a1e a1f S0 Q := by kernel_rfl
theorem union_Do_ok {w0 : World} {a0a : List (List AV)} {a0ar : Rt} {a0b : Int} {a1a : Int} {a1b : List UInt8} {a1c : Int} {a1d : Int} {a1e : Int} {a1f : List UInt8} {S0 : St} {Q : AV → St → Prop} (h : G_union_Do (ACalls (En w0)) a0a a0ar a0b a1a a1b a1c a1d a1e a1f S0 Q) : AC w0 F_union_Do [(.agg [(.vs 2 a0a a0ar), (.int .i64 a0b)]), (.agg [(.int .i64 a1a), (.str a1b), (.int .i64 a1c), (.int .i64 a1d), (.int .i64 a1e), (.str a1f)])] S0 Q := fn_ok w0 Tryz.func13 (by kernel_rfl) (by rw [union_Do_eq]; exact h)
def G_union_Is (Ca : Nat → List AV → St → (AV → St → Prop) → Prop) (a0 : Int) (S0 : St) (Q : AV → St → Prop) : Prop :=
 joinK (fun (x7 : AV) =>
 optK (pickA (.bool (decide (a0 ≥ 1))) x7 (.bool false)) fun t8 =>
 Q (AV.strip t8) S0) fun j =>
 ifK (.bool (decide (a0 ≥ 1)))
 (j (.bool (decide (a0 ≤ 4))))
 (j (.tup []))
theorem union_Is_eq (Ca) (a0 : Int) (S0 Q) : WF C Ca 19 (Drw C Ca 19) Tryz.f19 [(.int .i64 a0)] S0 Q = G_union_Is Ca a0 S0 Q := by kernel_rfl
theorem union_Is_ok {w0 : World} {a0 : Int} {S0 : St} {Q : AV → St → Prop} (h : G_union_Is (ACalls (En w0)) a0 S0 Q) : AC w0 F_union_Is [(.int .i64 a0)] S0 Q := fn_ok w0 Tryz.func19 (by kernel_rfl) (by rw [union_Is_eq]; exact h)
def G_union_Follows (Ca : Nat → List AV → St → (AV → St → Prop) → Prop) (a0 : Int) (S0 : St) (Q : AV → St → Prop) : Prop :=
 joinK (fun (x7 : AV) =>
 optK (pickA (.bool (a0 == 2)) (.bool true) x7) fun t8 =>
 joinK (fun (x11 : AV) =>
 optK (pickA (AV.strip (AV.strip t8)) (.bool true) x11) fun t12 =>
 Q (AV.strip t12) S0) fun j =>
 ifK (AV.strip (AV.strip t8))
 (j (.tup []))
 (j (.bool (a0 == 5)))) fun j_2 =>
 ifK (.bool (a0 == 2))
 (j_2 (.tup []))
 (j_2 (.bool (a0 == 4)))
theorem union_Follows_eq (Ca) (a0 : Int) (S0 Q) : WF C Ca 20 (Drw C Ca 20) Tryz.f20 [(.int .i64 a0)] S0 Q = G_union_Follows Ca a0 S0 Q := by kernel_rfl
theorem union_Follows_ok {w0 : World} {a0 : Int} {S0 : St} {Q : AV → St → Prop} (h : G_union_Follows (ACalls (En w0)) a0 S0 Q) : AC w0 F_union_Follows [(.int .i64 a0)] S0 Q := fn_ok w0 Tryz.func20 (by kernel_rfl) (by rw [union_Follows_eq]; exact h)
def G_union_Check (Ca : Nat → List AV → St → (AV → St → Prop) → Prop) (a0a : Int) (a0b : List UInt8) (a0c : Int) (a0d : Int) (a0e : Int) (a0f : List UInt8) (S0 : St) (Q : AV → St → Prop) : Prop :=
 optK (boxA T_api_Op (.agg [(.int .i64 a0a), (.str a0b), (.int .i64 a0c), (.int .i64 a0d), (.int .i64 a0e), (.str a0f)])) fun c1 =>
 optK (some c1) fun _ =>
 optK (lloadA T_int (some c1) 0) fun t4 =>
 optK (binA .eql (AV.strip t4) (.int .i64 4)) fun t5 =>
 joinK (fun (x14 : AV) =>
 optK (pickA (AV.strip t5) x14 (.bool false)) fun t15 =>
 joinK (fun (x24 : AV) =>
 optK (pickA (AV.strip (AV.strip t15)) (.bool true) x24) fun t25 =>
 ifK (AV.strip t25)
 (Q (.int .i64 1) S0)
 (Q (.int .i64 0) S0)) fun j_3 =>
 ifK (AV.strip (AV.strip t15))
 (j_3 (.tup []))
 (optK (some c1) fun _ =>
 optK (lloadA T_int (some c1) 0) fun t18 =>
 optK (binA .eql (AV.strip t18) (.int .i64 6)) fun t19 =>
 joinK (fun (x23 : AV) =>
 optK (pickA (AV.strip t19) x23 (.bool false)) fun t24 =>
 j_3 (AV.strip t24)) fun j_2 =>
 gK (AV.strip t19)
 (optK (some c1) fun _ =>
 optK (lloadA T_int (some c1) 3) fun t22 =>
 optK (binA .lss (AV.strip t22) (.int .i64 1)) fun t23 =>
 j_2 t23)
 (j_2 (.tup []))
 (j_2 (.tup [])))) fun j_4 =>
 ifK (AV.strip t5)
 (optK (some c1) fun _ =>
 optK (lloadA T_int (some c1) 2) fun t8 =>
 optK (binA .lss (AV.strip t8) (.int .i64 0)) fun t9 =>
 joinK (fun (x13 : AV) =>
 optK (pickA (AV.strip t9) (.bool true) x13) fun t14 =>
 j_4 (AV.strip t14)) fun j =>
 gK (AV.strip t9)
 (j (.tup []))
 (optK (some c1) fun _ =>
 optK (lloadA T_int (some c1) 3) fun t12 =>
 optK (binA .lss (AV.strip t12) (.int .i64 0)) fun t13 =>
 j t13)
 (j (.tup [])))
 (j_4 (.tup []))
theorem union_Check_eq (Ca) (a0a : Int) (a0b : List UInt8) (a0c : Int) (a0d : Int) (a0e : Int) (a0f : List UInt8) (S0 Q) : WF C Ca 21 (Drw C Ca 21) Tryz.f21 [(.agg [(.int .i64 a0a), (.str a0b), (.int .i64 a0c), (.int .i64 a0d), (.int .i64 a0e), (.str a0f)])] S0 Q = G_union_Check Ca a0a a0b a0c a0d a0e a0f S0 Q := by kernel_rfl
theorem union_Check_ok {w0 : World} {a0a : Int} {a0b : List UInt8} {a0c : Int} {a0d : Int} {a0e : Int} {a0f : List UInt8} {S0 : St} {Q : AV → St → Prop} (h : G_union_Check (ACalls (En w0)) a0a a0b a0c a0d a0e a0f S0 Q) : AC w0 F_union_Check [(.agg [(.int .i64 a0a), (.str a0b), (.int .i64 a0c), (.int .i64 a0d), (.int .i64 a0e), (.str a0f)])] S0 Q := fn_ok w0 Tryz.func21 (by kernel_rfl) (by rw [union_Check_eq]; exact h)
def G_union_Finish (Ca : Nat → List AV → St → (AV → St → Prop) → Prop) (a0a : List (List AV)) (a0ar : Rt) (a0b : Int) (a1a : Int) (a1b : List UInt8) (a1c : Int) (a1d : Int) (a1e : Int) (a1f : List UInt8) (a2a : List UInt8) (a2ba : Int) (a2bba : Int) (a2bbb : Int) (a2bc : List (List AV)) (a2bcr : Rt) (S0 : St) (Q : AV → St → Prop) : Prop :=
 optK (boxA T_stack_Stack (.agg [(.vs 2 a0a a0ar), (.int .i64 a0b)])) fun c3 =>
 optK (boxA T_api_Op (.agg [(.int .i64 a1a), (.str a1b), (.int .i64 a1c), (.int .i64 a1d), (.int .i64 a1e), (.str a1f)])) fun c4 =>
 optK (boxA T_walk_Target (.agg [(.str a2a), (.int .i64 a2ba), (.int .i64 a2bba), (.int .i64 a2bbb), (.vs 2 a2bc a2bcr)])) fun c5 =>
 optK (lloadA T_stack_Stack (some c3) 0) fun t8 =>
 optK (some c5) fun _ =>
 optK (some c5) fun _ =>
 optK (some c5) fun _ =>
 optK (lloadA T_int (some c5) 2) fun t12 =>
 callK Ca F_stack_Stack_At [(AV.strip t8), (AV.strip t12)] S0 fun t13 S =>
 optK (some c4) fun _ =>
 optK (lloadA T_int (some c4) 0) fun t16 =>
 optK (binA .eql (AV.strip t16) (.int .i64 1)) fun t17 =>
 joinK (fun (x20 : AV) =>
 optK (pickA (AV.strip t17) x20 (.bool false)) fun t21 =>
 ifK (AV.strip t21)
 (optK (some c5) fun _ =>
 optK (some c5) fun _ =>
 optK (lloadA T_int (some c5) 1) fun t24 =>
 optK (buildA T_api_Result 1 [(1, (AV.strip t24)), (3, (.int .i64 (-1)))]) fun t25 =>
 optK (lstoreA T_api_Result (some [(.int .i64 0), (.int .i64 0), (.int .i64 0), (.int .i64 0), (.int .i64 0), (.str []), (.vs 1 [] .nil), (.bool false)]) 0 t25) fun b6 =>
 optK ((lloadA T_api_Result (some b6) 0).map AV.strip) fun r6 =>
 Q r6 S)
 (optK (some c4) fun _ =>
 optK (lloadA T_int (some c4) 0) fun t28 =>
 optK (binA .eql (AV.strip t28) (.int .i64 1)) fun t29 =>
 ifK t29
 (optK (some c5) fun _ =>
 optK (some c5) fun _ =>
 optK (lloadA T_int (some c5) 1) fun t32 =>
 optK (lloadA T_stack_Stack (some c3) 0) fun t33 =>
 optK (some c5) fun _ =>
 optK (some c5) fun _ =>
 optK (some c5) fun _ =>
 optK (lloadA T_int (some c5) 2) fun t37 =>
 callK Ca F_stack_Stack_ID [(AV.strip t33), (AV.strip t37)] S fun t38 S_2 =>
 optK (buildA T_api_Result 1 [(1, (AV.strip t32)), (3, t38)]) fun t39 =>
 optK (lstoreA T_api_Result (some [(.int .i64 0), (.int .i64 0), (.int .i64 0), (.int .i64 0), (.int .i64 0), (.str []), (.vs 1 [] .nil), (.bool false)]) 0 t39) fun b6_2 =>
 optK ((lloadA T_api_Result (some b6_2) 0).map AV.strip) fun r6_2 =>
 Q r6_2 S_2)
 (optK (some c4) fun _ =>
 optK (lloadA T_int (some c4) 0) fun t42 =>
 optK (binA .eql (AV.strip t42) (.int .i64 2)) fun t43 =>
 joinK (fun (x48 : AV) =>
 optK (pickA (AV.strip t43) x48 (.bool false)) fun t49 =>
 ifK (AV.strip t49)
 (optK (some c5) fun _ =>
 optK (some c5) fun _ =>
 optK (lloadA T_int (some c5) 1) fun t52 =>
 optK (buildA T_api_Result 1 [(1, (AV.strip t52))]) fun t53 =>
 optK (lstoreA T_api_Result (some [(.int .i64 0), (.int .i64 0), (.int .i64 0), (.int .i64 0), (.int .i64 0), (.str []), (.vs 1 [] .nil), (.bool false)]) 0 t53) fun b6_3 =>
 optK ((lloadA T_api_Result (some b6_3) 0).map AV.strip) fun r6_3 =>
 Q r6_3 S)
 (optK (some c4) fun _ =>
 optK (lloadA T_int (some c4) 0) fun t56 =>
 optK (binA .eql (AV.strip t56) (.int .i64 2)) fun t57 =>
 ifK t57
 (optK (some c5) fun _ =>
 optK (some c5) fun _ =>
 optK (lloadA T_int (some c5) 1) fun t60 =>
 optK (some c5) fun _ =>
 optK (some c5) fun _ =>
 optK (some c5) fun _ =>
 optK (lloadA T_int (some c5) 3) fun t65 =>
 callK Ca F_branch_Branch_Size [(AV.strip t13), (AV.strip t65)] S fun t66 S_3 =>
 optK (buildA T_api_Result 1 [(1, (AV.strip t60)), (2, t66)]) fun t67 =>
 optK (lstoreA T_api_Result (some [(.int .i64 0), (.int .i64 0), (.int .i64 0), (.int .i64 0), (.int .i64 0), (.str []), (.vs 1 [] .nil), (.bool false)]) 0 t67) fun b6_4 =>
 optK ((lloadA T_api_Result (some b6_4) 0).map AV.strip) fun r6_4 =>
 Q r6_4 S_3)
 (optK (some c4) fun _ =>
 optK (lloadA T_int (some c4) 0) fun t70 =>
 optK (binA .eql (AV.strip t70) (.int .i64 3)) fun t71 =>
 joinK (fun (x76 : AV) =>
 optK (pickA (AV.strip t71) x76 (.bool false)) fun t77 =>
 ifK (AV.strip t77)
 (optK (some c5) fun _ =>
 optK (some c5) fun _ =>
 optK (some c5) fun _ =>
 optK (lloadA T_int (some c5) 3) fun t82 =>
 callK Ca F_branch_Branch_Target [(AV.strip t13), (AV.strip t82)] S fun t83 S_4 =>
 optK (buildA T_api_Result 1 [(5, t83)]) fun t84 =>
 optK (lstoreA T_api_Result (some [(.int .i64 0), (.int .i64 0), (.int .i64 0), (.int .i64 0), (.int .i64 0), (.str []), (.vs 1 [] .nil), (.bool false)]) 0 t84) fun b6_5 =>
 optK ((lloadA T_api_Result (some b6_5) 0).map AV.strip) fun r6_5 =>
 Q r6_5 S_4)
 (optK (some c4) fun _ =>
 optK (lloadA T_int (some c4) 0) fun t87 =>
 optK (binA .eql (AV.strip t87) (.int .i64 4)) fun t88 =>
 joinK (fun (x93 : AV) =>
 optK (pickA (AV.strip t88) x93 (.bool false)) fun t94 =>
 ifK (AV.strip t94)
 (Ca F_union_fault [(.int .i64 5)] S fun t95 S_5 =>
 optK (lstoreA T_api_Result (some [(.int .i64 0), (.int .i64 0), (.int .i64 0), (.int .i64 0), (.int .i64 0), (.str []), (.vs 1 [] .nil), (.bool false)]) 0 t95) fun b6_6 =>
 optK ((lloadA T_api_Result (some b6_6) 0).map AV.strip) fun r6_6 =>
 Q r6_6 S_5)
 (optK (some c4) fun _ =>
 optK (lloadA T_int (some c4) 0) fun t98 =>
 optK (binA .eql (AV.strip t98) (.int .i64 4)) fun t99 =>
 ifK t99
 (optK (some c5) fun _ =>
 optK (some c5) fun _ =>
 optK (some c5) fun _ =>
 optK (lloadA T_int (some c5) 3) fun t104 =>
 optK (some c4) fun _ =>
 optK (lloadA T_int (some c4) 2) fun t106 =>
 optK (some c4) fun _ =>
 optK (lloadA T_int (some c4) 3) fun t108 =>
 callK Ca F_branch_Branch_Read [(AV.strip t13), (AV.strip t104), (AV.strip t106), (AV.strip t108)] S fun t109 S_6 =>
 optK (buildA T_api_Result 1 [(5, t109)]) fun t110 =>
 optK (lstoreA T_api_Result (some [(.int .i64 0), (.int .i64 0), (.int .i64 0), (.int .i64 0), (.int .i64 0), (.str []), (.vs 1 [] .nil), (.bool false)]) 0 t110) fun b6_7 =>
 optK ((lloadA T_api_Result (some b6_7) 0).map AV.strip) fun r6_7 =>
 Q r6_7 S_6)
 (Ca F_union_fault [(.int .i64 1)] S fun t111 S_7 =>
 optK (lstoreA T_api_Result (some [(.int .i64 0), (.int .i64 0), (.int .i64 0), (.int .i64 0), (.int .i64 0), (.str []), (.vs 1 [] .nil), (.bool false)]) 0 t111) fun b6_8 =>
 optK ((lloadA T_api_Result (some b6_8) 0).map AV.strip) fun r6_8 =>
 Q r6_8 S_7))) fun j =>
 ifK (AV.strip t88)
 (optK (some c5) fun _ =>
 optK (some c5) fun _ =>
 optK (lloadA T_int (some c5) 1) fun t92 =>
 optK (binA .eql (AV.strip t92) (.int .i64 2)) fun t93 =>
 j t93)
 (j (.tup [])))) fun j_2 =>
 ifK (AV.strip t71)
 (optK (some c5) fun _ =>
 optK (some c5) fun _ =>
 optK (lloadA T_int (some c5) 1) fun t75 =>
 optK (binA .eql (AV.strip t75) (.int .i64 3)) fun t76 =>
 j_2 t76)
 (j_2 (.tup []))))) fun j_3 =>
 ifK (AV.strip t43)
 (optK (some c5) fun _ =>
 optK (some c5) fun _ =>
 optK (lloadA T_int (some c5) 1) fun t47 =>
 optK (binA .eql (AV.strip t47) (.int .i64 2)) fun t48 =>
 j_3 t48)
 (j_3 (.tup []))))) fun j_4 =>
 ifK (AV.strip t17)
 (optK (binE .ptr .eql (AV.strip t13) .nil) fun t20 =>
 j_4 t20)
 (j_4 (.tup []))
theorem union_Finish_eq (Ca) (a0a : List (List AV)) (a0ar : Rt) (a0b : Int) (a1a : Int) (a1b : List UInt8) (a1c : Int) (a1d : Int) (a1e : Int) (a1f : List UInt8) (a2a : List UInt8) (a2ba : Int) (a2bba : Int) (a2bbb : Int) (a2bc : List (List AV)) (a2bcr : Rt) (S0 Q) : WF C Ca 22 (Drw C Ca 22) Tryz.f22 [(.agg [(.vs 2 a0a a0ar), (.int .i64 a0b)]), (.agg [(.int .i64 a1a), (.str a1b), (.int .i64 a1c), (.int .i64 a1d), (.int .i64 a1e), (.str a1f)]), (.agg [(.str a2a), (.int .i64 a2ba), (.int .i64 a2bba), (.int .i64 a2bbb), (.vs 2 a2bc a2bcr)])] S0 Q = G_union_Finish Ca a0a a0ar a0b a1a a1b a1c a1d a1e a1f a2a a2ba a2bba a2bbb a2bc a2bcr S0 Q := by kernel_rfl
theorem union_Finish_ok {w0 : World} {a0a : List (List AV)} {a0ar : Rt} {a0b : Int} {a1a : Int} {a1b : List UInt8} {a1c : Int} {a1d : Int} {a1e : Int} {a1f : List UInt8} {a2a : List UInt8} {a2ba : Int} {a2bba : Int} {a2bbb : Int} {a2bc : List (List AV)} {a2bcr : Rt} {S0 : St} {Q : AV → St → Prop} (h : G_union_Finish (ACalls (En w0)) a0a a0ar a0b a1a a1b a1c a1d a1e a1f a2a a2ba a2bba a2bbb a2bc a2bcr S0 Q) : AC w0 F_union_Finish [(.agg [(.vs 2 a0a a0ar), (.int .i64 a0b)]), (.agg [(.int .i64 a1a), (.str a1b), (.int .i64 a1c), (.int .i64 a1d), (.int .i64 a1e), (.str a1f)]), (.agg [(.str a2a), (.int .i64 a2ba), (.int .i64 a2bba), (.int .i64 a2bbb), (.vs 2 a2bc a2bcr)])] S0 Q := fn_ok w0 Tryz.func22 (by kernel_rfl) (by rw [union_Finish_eq]; exact h)
def G_union_List (Ca : Nat → List AV → St → (AV → St → Prop) → Prop) (a0a : List (List AV)) (a0ar : Rt) (a0b : Int) (a1 : List UInt8) (S0 : St) (Q : AV → St → Prop) : Prop :=
 optK (boxA T_stack_Stack (.agg [(.vs 2 a0a a0ar), (.int .i64 a0b)])) fun c2 =>
 optK (lloadA T_stack_Stack (some c2) 0) fun t10 =>
 callK Ca F_walk_Walk [(AV.strip t10), (.str a1), (.bool true)] S0 fun t12 S =>
 optK (extractA t12 0) fun t13 =>
 optK (extractA (stripTup t12 0) 1) fun t14 =>
 optK (lstoreA T_walk_Target (some [(.str []), (.int .i64 0), (.int .i64 0), (.int .i64 0), (.vs 2 [] .nil)]) 0 t13) fun b7 =>
 optK (binA .neq (AV.strip t14) (.int .i64 0)) fun t17 =>
 ifK t17
 (Q (.tup [(.str []), (.vs 2 [] .nil), (AV.flat (AV.strip t14))]) S)
 (optK (some b7) fun _ =>
 optK (some b7) fun _ =>
 optK (lloadA T_int (some b7) 1) fun t22 =>
 optK (binA .neq (AV.strip t22) (.int .i64 2)) fun t23 =>
 ifK t23
 (Q (.tup [(.str []), (.vs 2 [] .nil), (.int .i64 3)]) S)
 (optK (some b7) fun _ =>
 optK (lloadA T_string (some b7) 0) fun t25 =>
 optK (lloadA T_stack_Stack (some c2) 0) fun t26 =>
 optK (some b7) fun _ =>
 optK (some b7) fun _ =>
 optK (lloadA T_seen_Place (some b7) 4) fun t29 =>
 callK Ca F_merge_List [(AV.strip t26), (AV.strip t29)] S fun t30 S_2 =>
 Q (.tup [(AV.flat (AV.strip t25)), (AV.flat t30), (.int .i64 0)]) S_2))
theorem union_List_eq (Ca) (a0a : List (List AV)) (a0ar : Rt) (a0b : Int) (a1 : List UInt8) (S0 Q) : WF C Ca 23 (Drw C Ca 23) Tryz.f23 [(.agg [(.vs 2 a0a a0ar), (.int .i64 a0b)]), (.str a1)] S0 Q = G_union_List Ca a0a a0ar a0b a1 S0 Q := by kernel_rfl
theorem union_List_ok {w0 : World} {a0a : List (List AV)} {a0ar : Rt} {a0b : Int} {a1 : List UInt8} {S0 : St} {Q : AV → St → Prop} (h : G_union_List (ACalls (En w0)) a0a a0ar a0b a1 S0 Q) : AC w0 F_union_List [(.agg [(.vs 2 a0a a0ar), (.int .i64 a0b)]), (.str a1)] S0 Q := fn_ok w0 Tryz.func23 (by kernel_rfl) (by rw [union_List_eq]; exact h)
def G_stack_Stack_Len (Ca : Nat → List AV → St → (AV → St → Prop) → Prop) (a0a : List (List AV)) (a0ar : Rt) (a0b : Int) (S0 : St) (Q : AV → St → Prop) : Prop :=
 optK (boxA T_stack_Stack (.agg [(.vs 2 a0a a0ar), (.int .i64 a0b)])) fun c1 =>
 optK (some c1) fun _ =>
 optK (lloadA T_s_stack_mount (some c1) 0) fun t4 =>
 optK (lenSlA (AV.strip t4)) fun t5 =>
 Q t5 S0
theorem stack_Stack_Len_eq (Ca) (a0a : List (List AV)) (a0ar : Rt) (a0b : Int) (S0 Q) : WF C Ca 29 (Drw C Ca 29) Tryz.f29 [(.agg [(.vs 2 a0a a0ar), (.int .i64 a0b)])] S0 Q = G_stack_Stack_Len Ca a0a a0ar a0b S0 Q := by kernel_rfl
theorem stack_Stack_Len_ok {w0 : World} {a0a : List (List AV)} {a0ar : Rt} {a0b : Int} {S0 : St} {Q : AV → St → Prop} (h : G_stack_Stack_Len (ACalls (En w0)) a0a a0ar a0b S0 Q) : AC w0 F_stack_Stack_Len [(.agg [(.vs 2 a0a a0ar), (.int .i64 a0b)])] S0 Q := fn_ok w0 Tryz.func29 (by kernel_rfl) (by rw [stack_Stack_Len_eq]; exact h)
def G_stack_Of (Ca : Nat → List AV → St → (AV → St → Prop) → Prop) (a0 : List (List AV)) (a0r : Rt) (S0 : St) (Q : AV → St → Prop) : Prop :=
 joinK (fun (y2 : Option (List AV)) (y4 : Option (List AV)) (S_4 : St) =>
 optK (lloadA T_stack_Stack y4 0) fun t36 =>
 optK (lstoreA T_stack_Stack y2 0 (AV.strip t36)) fun b2_3 =>
 optK ((lloadA T_stack_Stack (some b2_3) 0).map AV.strip) fun r2_3 =>
 Q (.tup [(AV.flat r2_3), (.int .i64 0)]) S_4) fun j =>
 loopQ ([(.int .i64 0)], [(some [(.vs 2 [] .nil), (.int .i64 0)]), (some [(.vs 2 [] .nil), (.int .i64 0)])]) (fun v bx => ([v 11], [bx 2, bx 4])) (fun nx v bx S =>
 optK (binA .lss (v 11) (.int .i64 (List.length a0 : Int))) fun t12 =>
 ifK t12
 (optK (idxSlA T_api_Node (.vs 7 a0 (Rt.strip a0r)) (v 11)) fun t13 =>
 optK (loadA T_api_Node S t13) fun t14 =>
 optK (lstoreA T_api_Node (some [(.int .i64 0), (.bool false), (.vs 1 [] .nil), (.vs 7 [] .nil), (.int .i64 0), (.vs 2 [] .nil), (.str [])]) 0 (AV.strip t14)) fun b6 =>
 optK (lloadA T_api_Node (some b6) 0) fun t16 =>
 callK Ca F_branch_New [(AV.strip t16)] S fun t17 S_2 =>
 optK (extractA t17 0) fun t18 =>
 optK (extractA (stripTup t17 0) 1) fun t19 =>
 optK (binA .neq (AV.strip t19) (.int .i64 0)) fun t21 =>
 ifK t21
 (optK (lstoreA T_stack_Stack (bx 2) 0 (.agg [(.vs 2 [] .nil), (.int .i64 0)])) fun b2 =>
 optK ((lloadA T_stack_Stack (some b2) 0).map AV.strip) fun r2 =>
 Q (.tup [(AV.flat r2), (AV.flat (AV.strip t19))]) S_2)
 (optK (lloadA T_stack_Stack (bx 4) 0) fun t25 =>
 callK Ca F_stack_Stack_Add [(AV.strip t25), (AV.strip t18)] S_2 fun t27 S_3 =>
 optK (extractA t27 0) fun t28 =>
 optK (extractA (stripTup t27 0) 1) fun t29 =>
 optK (extractA (stripTup (stripTup t27 0) 1) 2) fun t30 =>
 optK (lstoreA T_stack_Stack (bx 4) 0 t28) fun b4 =>
 optK (binA .neq (AV.strip t30) (.int .i64 0)) fun t32 =>
 ifK t32
 (optK (lstoreA T_stack_Stack (bx 2) 0 (.agg [(.vs 2 [] .nil), (.int .i64 0)])) fun b2_2 =>
 optK ((lloadA T_stack_Stack (some b2_2) 0).map AV.strip) fun r2_2 =>
 Q (.tup [(AV.flat r2_2), (AV.flat (AV.strip t30))]) S_3)
 (optK (binA .add (v 11) (.int .i64 1)) fun t35 =>
 nx ([(AV.strip t35)], [(bx 2), (some b4)]) S_3)))
 (j (bx 2) (bx 4) S)) S0
theorem stack_Of_eq (Ca) (a0 : List (List AV)) (a0r : Rt) (S0 Q) : WF C Ca 31 (Drw C Ca 31) Tryz.f31 [(.vs 7 a0 a0r)] S0 Q = G_stack_Of Ca a0 a0r S0 Q := by kernel_rfl
theorem stack_Of_ok {w0 : World} {a0 : List (List AV)} {a0r : Rt} {S0 : St} {Q : AV → St → Prop} (h : G_stack_Of (ACalls (En w0)) a0 a0r S0 Q) : AC w0 F_stack_Of [(.vs 7 a0 a0r)] S0 Q := fn_ok w0 Tryz.func31 (by kernel_rfl) (by rw [stack_Of_eq]; exact h)
def G_tree_Dir (Ca : Nat → List AV → St → (AV → St → Prop) → Prop) (a0 : List (List AV)) (a0r : Rt) (a1 : List (List AV)) (a1r : Rt) (S0 : St) (Q : AV → St → Prop) : Prop :=
 Ca F_slices_Clone_s_string_string [(.vs 1 a0 (Rt.strip (Rt.strip a0r)))] S0 fun t6 S =>
 Ca F_slices_Clone_s_api_Node_api_Node [(.vs 7 a1 (Rt.strip (Rt.strip a1r)))] S fun t8 S_2 =>
 optK (buildA T_api_Node 1 [(0, (.int .i64 2)), (2, t6), (3, t8)]) fun t9 =>
 optK (lstoreA T_api_Node (some [(.int .i64 0), (.bool false), (.vs 1 [] .nil), (.vs 7 [] .nil), (.int .i64 0), (.vs 2 [] .nil), (.str [])]) 0 t9) fun b4 =>
 optK ((lloadA T_api_Node (some b4) 0).map AV.strip) fun r4 =>
 Q r4 S_2
theorem tree_Dir_eq (Ca) (a0 : List (List AV)) (a0r : Rt) (a1 : List (List AV)) (a1r : Rt) (S0 Q) : WF C Ca 32 (Drw C Ca 32) Tryz.f32 [(.vs 1 a0 a0r), (.vs 7 a1 a1r)] S0 Q = G_tree_Dir Ca a0 a0r a1 a1r S0 Q := by kernel_rfl
theorem tree_Dir_ok {w0 : World} {a0 : List (List AV)} {a0r : Rt} {a1 : List (List AV)} {a1r : Rt} {S0 : St} {Q : AV → St → Prop} (h : G_tree_Dir (ACalls (En w0)) a0 a0r a1 a1r S0 Q) : AC w0 F_tree_Dir [(.vs 1 a0 a0r), (.vs 7 a1 a1r)] S0 Q := fn_ok w0 Tryz.func32 (by kernel_rfl) (by rw [tree_Dir_eq]; exact h)
def G_tree_Text (Ca : Nat → List AV → St → (AV → St → Prop) → Prop) (a0 : List UInt8) (S0 : St) (Q : AV → St → Prop) : Prop :=
 Ca F_extent_Of [(.str a0)] S0 fun t6 S =>
 optK (buildA T_api_Node 1 [(0, (.int .i64 1)), (4, (.int .i64 (List.length a0 : Int))), (5, t6)]) fun t7 =>
 optK (lstoreA T_api_Node (some [(.int .i64 0), (.bool false), (.vs 1 [] .nil), (.vs 7 [] .nil), (.int .i64 0), (.vs 2 [] .nil), (.str [])]) 0 t7) fun b2 =>
 optK ((lloadA T_api_Node (some b2) 0).map AV.strip) fun r2 =>
 Q r2 S
theorem tree_Text_eq (Ca) (a0 : List UInt8) (S0 Q) : WF C Ca 33 (Drw C Ca 33) Tryz.f33 [(.str a0)] S0 Q = G_tree_Text Ca a0 S0 Q := by kernel_rfl
theorem tree_Text_ok {w0 : World} {a0 : List UInt8} {S0 : St} {Q : AV → St → Prop} (h : G_tree_Text (ACalls (En w0)) a0 S0 Q) : AC w0 F_tree_Text [(.str a0)] S0 Q := fn_ok w0 Tryz.func33 (by kernel_rfl) (by rw [tree_Text_eq]; exact h)
def G_law04_Small (Ca : Nat → List AV → St → (AV → St → Prop) → Prop) (a0a : Int) (a0b : Bool) (a0c : List (List AV)) (a0cr : Rt) (a0d : List (List AV)) (a0dr : Rt) (a0e : Int) (a0f : List (List AV)) (a0fr : Rt) (a0g : List UInt8) (S0 : St) (Q : AV → St → Prop) : Prop :=
 optK (boxA T_api_Node (.agg [(.int .i64 a0a), (.bool a0b), (.vs 1 a0c a0cr), (.vs 7 a0d a0dr), (.int .i64 a0e), (.vs 2 a0f a0fr), (.str a0g)])) fun c1 =>
 optK (storeA T_int (S0 ++ [.cells T_int.zero t_int]) (.ptr S0.length 0) (.int .i64 400)) fun S =>
 optK (lloadA T_api_Node (some c1) 0) fun t4 =>
 callK Ca F_law04_small [(AV.strip t4), (.int .i64 30), (.ptr S0.length 0)] S fun t5 S_2 =>
 optK (unA .not t5) fun t6 =>
 ifK t6
 (Q (.int .i64 0) S_2)
 (Q (.int .i64 1) S_2)
theorem law04_Small_eq (Ca) (a0a : Int) (a0b : Bool) (a0c : List (List AV)) (a0cr : Rt) (a0d : List (List AV)) (a0dr : Rt) (a0e : Int) (a0f : List (List AV)) (a0fr : Rt) (a0g : List UInt8) (S0 Q) : WF C Ca 34 (Drw C Ca 34) Tryz.f34 [(.agg [(.int .i64 a0a), (.bool a0b), (.vs 1 a0c a0cr), (.vs 7 a0d a0dr), (.int .i64 a0e), (.vs 2 a0f a0fr), (.str a0g)])] S0 Q = G_law04_Small Ca a0a a0b a0c a0cr a0d a0dr a0e a0f a0fr a0g S0 Q := by kernel_rfl
theorem law04_Small_ok {w0 : World} {a0a : Int} {a0b : Bool} {a0c : List (List AV)} {a0cr : Rt} {a0d : List (List AV)} {a0dr : Rt} {a0e : Int} {a0f : List (List AV)} {a0fr : Rt} {a0g : List UInt8} {S0 : St} {Q : AV → St → Prop} (h : G_law04_Small (ACalls (En w0)) a0a a0b a0c a0cr a0d a0dr a0e a0f a0fr a0g S0 Q) : AC w0 F_law04_Small [(.agg [(.int .i64 a0a), (.bool a0b), (.vs 1 a0c a0cr), (.vs 7 a0d a0dr), (.int .i64 a0e), (.vs 2 a0f a0fr), (.str a0g)])] S0 Q := fn_ok w0 Tryz.func34 (by kernel_rfl) (by rw [law04_Small_eq]; exact h)
def G_ref04_Right (Ca : Nat → List AV → St → (AV → St → Prop) → Prop) (a0a : Int) (a0b : Bool) (a0c : List (List AV)) (a0cr : Rt) (a0d : List (List AV)) (a0dr : Rt) (a0e : Int) (a0f : List (List AV)) (a0fr : Rt) (a0g : List UInt8) (S0 : St) (Q : AV → St → Prop) : Prop :=
 optK (boxA T_api_Node (.agg [(.int .i64 a0a), (.bool a0b), (.vs 1 a0c a0cr), (.vs 7 a0d a0dr), (.int .i64 a0e), (.vs 2 a0f a0fr), (.str a0g)])) fun c1 =>
 optK (some c1) fun _ =>
 optK (lloadA T_int (some c1) 0) fun t4 =>
 optK (binA .eql (AV.strip t4) (.int .i64 2)) fun t5 =>
 joinK (fun (x8 : AV) (S_2 : St) =>
 optK (pickA (AV.strip t5) x8 (.bool false)) fun t9 =>
 joinK (fun (x13 : AV) (S_4 : St) =>
 optK (pickA (AV.strip (AV.strip t9)) x13 (.bool false)) fun t14 =>
 joinK (fun (x18 : AV) (S_6 : St) =>
 optK (pickA (AV.strip (AV.strip t14)) x18 (.bool false)) fun t19 =>
 Q (AV.strip t19) S_6) fun j =>
 ifK (AV.strip (AV.strip t14))
 (optK (lloadA T_api_Node (some c1) 0) fun t16 =>
 callK Ca F_ref04_Depth [(AV.strip t16)] S_4 fun t17 S_5 =>
 optK (binA .leq t17 (.int .i64 15)) fun t18 =>
 j t18 S_5)
 (j (.tup []) S_4)) fun j_2 =>
 ifK (AV.strip (AV.strip t9))
 (optK (lloadA T_api_Node (some c1) 0) fun t11 =>
 callK Ca F_ref04_Count [(AV.strip t11)] S_2 fun t12 S_3 =>
 optK (binA .leq t12 (.int .i64 4096)) fun t13 =>
 j_2 t13 S_3)
 (j_2 (.tup []) S_2)) fun j_3 =>
 ifK (AV.strip t5)
 (optK (lloadA T_api_Node (some c1) 0) fun t7 =>
 callK Ca F_ref04_all [(AV.strip t7)] S0 fun t8 S =>
 j_3 t8 S)
 (j_3 (.tup []) S0)
theorem ref04_Right_eq (Ca) (a0a : Int) (a0b : Bool) (a0c : List (List AV)) (a0cr : Rt) (a0d : List (List AV)) (a0dr : Rt) (a0e : Int) (a0f : List (List AV)) (a0fr : Rt) (a0g : List UInt8) (S0 Q) : WF C Ca 35 (Drw C Ca 35) Tryz.f35 [(.agg [(.int .i64 a0a), (.bool a0b), (.vs 1 a0c a0cr), (.vs 7 a0d a0dr), (.int .i64 a0e), (.vs 2 a0f a0fr), (.str a0g)])] S0 Q = G_ref04_Right Ca a0a a0b a0c a0cr a0d a0dr a0e a0f a0fr a0g S0 Q := by kernel_rfl
theorem ref04_Right_ok {w0 : World} {a0a : Int} {a0b : Bool} {a0c : List (List AV)} {a0cr : Rt} {a0d : List (List AV)} {a0dr : Rt} {a0e : Int} {a0f : List (List AV)} {a0fr : Rt} {a0g : List UInt8} {S0 : St} {Q : AV → St → Prop} (h : G_ref04_Right (ACalls (En w0)) a0a a0b a0c a0cr a0d a0dr a0e a0f a0fr a0g S0 Q) : AC w0 F_ref04_Right [(.agg [(.int .i64 a0a), (.bool a0b), (.vs 1 a0c a0cr), (.vs 7 a0d a0dr), (.int .i64 a0e), (.vs 2 a0f a0fr), (.str a0g)])] S0 Q := fn_ok w0 Tryz.func35 (by kernel_rfl) (by rw [ref04_Right_eq]; exact h)
def G_stack_Stack_ID (Ca : Nat → List AV → St → (AV → St → Prop) → Prop) (a0a : List (List AV)) (a0ar : Rt) (a0b : Int) (a1 : Int) (S0 : St) (Q : AV → St → Prop) : Prop :=
 optK (boxA T_stack_Stack (.agg [(.vs 2 a0a a0ar), (.int .i64 a0b)])) fun c2 =>
 joinK (fun (x12 : AV) =>
 optK (pickA (.bool (decide (a1 < 0))) (.bool true) x12) fun t13 =>
 ifK (AV.strip t13)
 (Q (.int .i64 (-1)) S0)
 (optK (some c2) fun _ =>
 optK (lloadA T_s_stack_mount (some c2) 0) fun t15 =>
 optK (idxSlA T_stack_mount (AV.strip t15) (.int .i64 a1)) fun t17 =>
 optK (movePtr t17 0) fun t18 =>
 optK (loadA T_int S0 t18) fun t19 =>
 Q (AV.strip t19) S0)) fun j =>
 ifK (.bool (decide (a1 < 0)))
 (j (.tup []))
 (optK (some c2) fun _ =>
 optK (lloadA T_s_stack_mount (some c2) 0) fun t10 =>
 optK (lenSlA (AV.strip t10)) fun t11 =>
 optK (binA .geq (.int .i64 a1) t11) fun t12 =>
 j t12)
theorem stack_Stack_ID_eq (Ca) (a0a : List (List AV)) (a0ar : Rt) (a0b : Int) (a1 : Int) (S0 Q) : WF C Ca 36 (Drw C Ca 36) Tryz.f36 [(.agg [(.vs 2 a0a a0ar), (.int .i64 a0b)]), (.int .i64 a1)] S0 Q = G_stack_Stack_ID Ca a0a a0ar a0b a1 S0 Q := by kernel_rfl
theorem stack_Stack_ID_ok {w0 : World} {a0a : List (List AV)} {a0ar : Rt} {a0b : Int} {a1 : Int} {S0 : St} {Q : AV → St → Prop} (h : G_stack_Stack_ID (ACalls (En w0)) a0a a0ar a0b a1 S0 Q) : AC w0 F_stack_Stack_ID [(.agg [(.vs 2 a0a a0ar), (.int .i64 a0b)]), (.int .i64 a1)] S0 Q := fn_ok w0 Tryz.func36 (by kernel_rfl) (by rw [stack_Stack_ID_eq]; exact h)
def G_walk_New (Ca : Nat → List AV → St → (AV → St → Prop) → Prop) (a0 : List (List AV)) (a0r : Rt) (a1 : List UInt8) (a2 : Bool) (S0 : St) (Q : AV → St → Prop) : Prop :=
 Ca F_name_Split [(.str a1)] S0 fun t13 S =>
 optK (extractA t13 0) fun t14 =>
 optK (extractA (stripTup t13 0) 1) fun t15 =>
 optK (extractA (stripTup (stripTup t13 0) 1) 2) fun t16 =>
 optK (binA .neq (AV.strip t16) (.int .i64 0)) fun t18 =>
 ifK t18
 (Q (.tup [.nil, (AV.flat (AV.strip t16))]) S)
 (optK (buildA T_walk_Walker 1 [(0, (AV.strip t14)), (1, (.vs 2 [[(.str [47]), (.vs 2 a0 (Rt.strip (Rt.strip (Rt.strip a0r))))]] .full)), (2, (.bool a2))]) fun t25 =>
 optK (boxA T_walk_Walker t25) fun c26 =>
 Q (.tup [(.ptr S.length 0), (.int .i64 0)]) (S ++ [.cells c26 t_walk_Walker]))
theorem walk_New_eq (Ca) (a0 : List (List AV)) (a0r : Rt) (a1 : List UInt8) (a2 : Bool) (S0 Q) : WF C Ca 37 (Drw C Ca 37) Tryz.f37 [(.vs 2 a0 a0r), (.str a1), (.bool a2)] S0 Q = G_walk_New Ca a0 a0r a1 a2 S0 Q := by kernel_rfl
theorem walk_New_ok {w0 : World} {a0 : List (List AV)} {a0r : Rt} {a1 : List UInt8} {a2 : Bool} {S0 : St} {Q : AV → St → Prop} (h : G_walk_New (ACalls (En w0)) a0 a0r a1 a2 S0 Q) : AC w0 F_walk_New [(.vs 2 a0 a0r), (.str a1), (.bool a2)] S0 Q := fn_ok w0 Tryz.func37 (by kernel_rfl) (by rw [walk_New_eq]; exact h)
def G_seen_Root (Ca : Nat → List AV → St → (AV → St → Prop) → Prop) (a0a : List (List AV)) (a0ar : Rt) (a0b : Int) (S0 : St) (Q : AV → St → Prop) : Prop :=
 optK (boxA T_stack_Stack (.agg [(.vs 2 a0a a0ar), (.int .i64 a0b)])) fun c1 =>
 joinK (fun (x3 : AV) (S_5 : St) =>
 Q (AV.strip x3) S_5) fun j =>
 optK (lloadA T_stack_Stack (some c1) 0) fun t5 =>
 callK Ca F_stack_Stack_Len [(AV.strip t5)] S0 fun t6 S =>
 loopQ ([(.vs 2 [] .nil), (.int .i64 0)], [(some c1)]) (fun v bx => ([v 3, v 7], [bx 1])) (fun nx v bx S_2 =>
 optK (binA .lss (v 7) t6) fun t8 =>
 ifK t8
 (optK (buildA T_seen_Spot 1 [(0, (AV.strip (AV.strip (v 7)))), (1, (.int .i64 0))]) fun t12 =>
 optK (elemVals 2 [t12]) fun e13 =>
 optK (appendA T_seen_Spot S_2 (v 3) (.vs 2 e13 .full)) fun t14 =>
 optK (lloadA T_stack_Stack (bx 1) 0) fun t15 =>
 callK Ca F_stack_Stack_At [(AV.strip t15), (AV.strip (AV.strip (v 7)))] S_2 fun t17 S_3 =>
 callK Ca F_branch_Branch_Opaque [t17, (.int .i64 0)] S_3 fun t18 S_4 =>
 ifK t18
 (j t14 S_4)
 (optK (binA .add (v 7) (.int .i64 1)) fun t19 =>
 nx ([t14, (AV.strip t19)], [(bx 1)]) S_4))
 (j (v 3) S_2)) S
theorem seen_Root_eq (Ca) (a0a : List (List AV)) (a0ar : Rt) (a0b : Int) (S0 Q) : WF C Ca 38 (Drw C Ca 38) Tryz.f38 [(.agg [(.vs 2 a0a a0ar), (.int .i64 a0b)])] S0 Q = G_seen_Root Ca a0a a0ar a0b S0 Q := by kernel_rfl
theorem seen_Root_ok {w0 : World} {a0a : List (List AV)} {a0ar : Rt} {a0b : Int} {S0 : St} {Q : AV → St → Prop} (h : G_seen_Root (ACalls (En w0)) a0a a0ar a0b S0 Q) : AC w0 F_seen_Root [(.agg [(.vs 2 a0a a0ar), (.int .i64 a0b)])] S0 Q := fn_ok w0 Tryz.func38 (by kernel_rfl) (by rw [seen_Root_eq]; exact h)
end Go.Av
set_option linter.unusedVariables false
set_option maxHeartbeats 2000000
namespace Go.Av
open Go.Proofs
def G_walk_Walker_Ask (Ca : Nat → List AV → St → (AV → St → Prop) → Prop) (a0 : Nat) (a0o : Nat) (S0 : St) (Q : AV → St → Prop) : Prop :=
 joinK (fun (S_6 : St) =>
 Q (.tup [(.str []), (.vs 2 [] .nil), (.str []), (.bool false)]) S_6) fun j_2 =>
 loopQ ([], []) (fun v bx => ([], [])) (fun nx v bx S =>
 optK (loadA T_p_walk_Target S (.ptr a0 (a0o + 4))) fun t9 =>
 optK (binE .ptr .eql (AV.strip t9) .nil) fun t10 =>
 joinK (fun (x17 : AV) =>
 optK (pickA (AV.strip t10) x17 (.bool false)) fun t18 =>
 ifK (AV.strip t18)
 (optK (loadA T_s_string S (.ptr a0 (a0o + 0))) fun t22 =>
 optK (idxSlA T_string (AV.strip t22) (.int .i64 0)) fun t23 =>
 optK (loadA T_string S t23) fun t24 =>
 optK (binA .neq (AV.strip t24) (.str [46, 46])) fun t25 =>
 ifK t25
 (optK (loadA T_s_string S (.ptr a0 (a0o + 0))) fun t35 =>
 optK (idxSlA T_string (AV.strip t35) (.int .i64 0)) fun t36 =>
 optK (loadA T_string S t36) fun t37 =>
 Ca F_walk_Walker_at [(.ptr a0 a0o)] S fun t27 S_2 =>
 (optK (loadA T_string S_2 t36) fun t37_2 =>
 ((AV.strip t37_2) : AV) = (AV.strip t37)) ∧
 ((optK (loadA T_s_string S_2 (.ptr a0 (a0o + 0))) fun t35_2 =>
 ((AV.strip t35_2) : AV) = (AV.strip t35)) ∧
 (optK (partA T_string t27 0) fun t28 =>
 Ca F_walk_Walker_at [(.ptr a0 a0o)] S_2 fun t30 S_3 =>
 (optK (loadA T_string S_3 t36) fun t37_3 =>
 ((AV.strip t37_3) : AV) = (AV.strip t37)) ∧
 ((optK (loadA T_s_string S_3 (.ptr a0 (a0o + 0))) fun t35_3 =>
 ((AV.strip t35_3) : AV) = (AV.strip t35)) ∧
 (optK (partA T_seen_Place t30 1) fun t31 =>
 Q (.tup [(AV.flat (AV.strip t28)), (AV.flat (AV.strip t31)), (AV.flat (AV.strip t37)), (.bool true)]) S_3)))))
 (optK (loadA T_s_string S (.ptr a0 (a0o + 0))) fun t42 =>
 optK (cutA T_string (AV.strip0 t42) (some (.int .i64 1)) none none) fun t43 =>
 optK (storeA T_s_string (stripMem S (.ptr a0 (a0o + 0))) (.ptr a0 (a0o + 0)) t43) fun S_4 =>
 optK (loadA T_s_walk_dir S_4 (.ptr a0 (a0o + 1))) fun t49 =>
 optK (lenSlA (AV.strip t49)) fun t50 =>
 optK (binA .gtr t50 (.int .i64 1)) fun t51 =>
 ifK t51
 (optK (loadA T_s_walk_dir S_4 (.ptr a0 (a0o + 1))) fun t56 =>
 optK (loadA T_s_walk_dir S_4 (.ptr a0 (a0o + 1))) fun t60 =>
 optK (lenSlA (AV.strip t60)) fun t61 =>
 optK (binA .sub t61 (.int .i64 1)) fun t62 =>
 optK (cutA T_walk_dir (AV.strip t56) none (some t62) none) fun t63 =>
 optK (storeA T_s_walk_dir S_4 (.ptr a0 (a0o + 1)) t63) fun S_5 =>
 nx ([], []) S_5)
 (nx ([], []) S_4)))
 (j_2 S)) fun j =>
 ifK (AV.strip t10)
 (optK (loadA T_s_string S (.ptr a0 (a0o + 0))) fun t15 =>
 optK (lenSlA (AV.strip t15)) fun t16 =>
 optK (binA .gtr t16 (.int .i64 0)) fun t17 =>
 j t17)
 (j (.tup []))) S0
theorem walk_Walker_Ask_eq (Ca) (a0 : Nat) (a0o : Nat) (S0 Q) : WF C Ca 39 (Drw C Ca 39) Tryz.f39 [(.ptr a0 a0o)] S0 Q = G_walk_Walker_Ask Ca a0 a0o S0 Q := by kernel_rfl
theorem walk_Walker_Ask_ok {w0 : World} {a0 : Nat} {a0o : Nat} {S0 : St} {Q : AV → St → Prop} (h : G_walk_Walker_Ask (ACalls (En w0)) a0 a0o S0 Q) : AC w0 F_walk_Walker_Ask [(.ptr a0 a0o)] S0 Q := fn_ok w0 Tryz.func39 (by kernel_rfl) (by rw [walk_Walker_Ask_eq]; exact h)
def G_walk_Walker_Target (Ca : Nat → List AV → St → (AV → St → Prop) → Prop) (a0 : Nat) (a0o : Nat) (S0 : St) (Q : AV → St → Prop) : Prop :=
 optK (loadA T_p_walk_Target S0 (.ptr a0 (a0o + 4))) fun t8 =>
 optK (binE .ptr .neq (AV.strip t8) .nil) fun t9 =>
 ifK t9
 (optK (loadA T_p_walk_Target S0 (.ptr a0 (a0o + 4))) fun t13 =>
 optK (nilA (AV.strip t13)) fun t14 =>
 optK (loadA T_walk_Target S0 t14) fun t15 =>
 optK (lstoreA T_walk_Target (some [(.str []), (.int .i64 0), (.int .i64 0), (.int .i64 0), (.vs 2 [] .nil)]) 0 (AV.strip t15)) fun b2 =>
 optK ((lloadA T_walk_Target (some b2) 0).map AV.strip) fun r2 =>
 Q r2 S0)
 (Ca F_walk_Walker_at [(.ptr a0 a0o)] S0 fun t17 S =>
 optK (lstoreA T_walk_dir (some [(.str []), (.vs 2 [] .nil)]) 0 t17) fun b3 =>
 optK (some b3) fun _ =>
 optK (lloadA T_string (some b3) 0) fun t19 =>
 optK (some b3) fun _ =>
 optK (lloadA T_seen_Place (some b3) 1) fun t21 =>
 optK (buildA T_seen_Found 1 [(0, (.int .i64 2)), (2, (AV.strip t21))]) fun t22 =>
 optK (buildA T_walk_Target 1 [(0, (AV.strip t19)), (1, t22)]) fun t23 =>
 optK (lstoreA T_walk_Target (some [(.str []), (.int .i64 0), (.int .i64 0), (.int .i64 0), (.vs 2 [] .nil)]) 0 t23) fun b4 =>
 joinK (fun (y4 : Option (List AV)) =>
 optK (lloadA T_walk_Target y4 0) fun t34 =>
 optK (lstoreA T_walk_Target (some [(.str []), (.int .i64 0), (.int .i64 0), (.int .i64 0), (.vs 2 [] .nil)]) 0 (AV.strip t34)) fun b2_2 =>
 optK ((lloadA T_walk_Target (some b2_2) 0).map AV.strip) fun r2_2 =>
 Q r2_2 S) fun j =>
 optK (some b3) fun _ =>
 optK (lloadA T_seen_Place (some b3) 1) fun t25 =>
 optK (lenSlA (AV.strip t25)) fun t26 =>
 optK (binA .gtr t26 (.int .i64 0)) fun t27 =>
 ifK t27
 (optK (some b3) fun _ =>
 optK (lloadA T_seen_Place (some b3) 1) fun t29 =>
 optK (idxSlA T_seen_Spot (AV.strip t29) (.int .i64 0)) fun t30 =>
 optK (loadA T_seen_Spot S t30) fun t31 =>
 optK (some b4) fun _ =>
 optK (some b4) fun _ =>
 optK (lstoreA T_seen_Spot (some b4) 2 (AV.strip t31)) fun b4_2 =>
 j (some b4_2))
 (j (some b4)))
theorem walk_Walker_Target_eq (Ca) (a0 : Nat) (a0o : Nat) (S0 Q) : WF C Ca 40 (Drw C Ca 40) Tryz.f40 [(.ptr a0 a0o)] S0 Q = G_walk_Walker_Target Ca a0 a0o S0 Q := by kernel_rfl
theorem walk_Walker_Target_ok {w0 : World} {a0 : Nat} {a0o : Nat} {S0 : St} {Q : AV → St → Prop} (h : G_walk_Walker_Target (ACalls (En w0)) a0 a0o S0 Q) : AC w0 F_walk_Walker_Target [(.ptr a0 a0o)] S0 Q := fn_ok w0 Tryz.func40 (by kernel_rfl) (by rw [walk_Walker_Target_eq]; exact h)
def G_seen_Look (Ca : Nat → List AV → St → (AV → St → Prop) → Prop) (a0a : List (List AV)) (a0ar : Rt) (a0b : Int) (a1 : List (List AV)) (a1r : Rt) (a2 : List UInt8) (S0 : St) (Q : AV → St → Prop) : Prop :=
 optK (boxA T_stack_Stack (.agg [(.vs 2 a0a a0ar), (.int .i64 a0b)])) fun c3 =>
 joinK (fun (y8_3 : Option (List AV)) (S_7 : St) =>
 optK (lloadA T_seen_Found y8_3 0) fun t77 =>
 optK y8_3 fun _ =>
 optK (lloadA T_int y8_3 0) fun t79 =>
 optK (binA .neq (AV.strip t79) (.int .i64 0)) fun t80 =>
 optK (lstoreA T_seen_Found (some [(.int .i64 0), (.int .i64 0), (.int .i64 0), (.vs 2 [] .nil)]) 0 (AV.strip t77)) fun b6 =>
 optK ((lloadA T_seen_Found (some b6) 0).map AV.strip) fun r6 =>
 Q (.tup [(AV.flat r6), (AV.flat t80)]) S_7) fun j_4 =>
 loopQ ([(.int .i64 0)], [(some c3), (some [(.int .i64 0), (.int .i64 0), (.int .i64 0), (.vs 2 [] .nil)])]) (fun v bx => ([v 17], [bx 3, bx 8])) (fun nx v bx S =>
 optK (binA .lss (v 17) (.int .i64 (List.length a1 : Int))) fun t18 =>
 ifK t18
 (joinK (fun (y8_2 : Option (List AV)) (S_6 : St) =>
 optK (binA .add (v 17) (.int .i64 1)) fun t76 =>
 nx ([(AV.strip t76)], [(bx 3), y8_2]) S_6) fun j_3 =>
 optK (idxSlA T_seen_Spot (.vs 2 a1 (Rt.strip a1r)) (v 17)) fun t19 =>
 optK (loadA T_seen_Spot S t19) fun t20 =>
 optK (lstoreA T_seen_Spot (some [(.int .i64 0), (.int .i64 0)]) 0 (AV.strip t20)) fun b10 =>
 optK (lloadA T_stack_Stack (bx 3) 0) fun t21 =>
 optK (some b10) fun _ =>
 optK (lloadA T_int (some b10) 0) fun t23 =>
 callK Ca F_stack_Stack_At [(AV.strip t21), (AV.strip t23)] S fun t24 S_2 =>
 optK (binE .ptr .eql (AV.strip t24) .nil) fun t26 =>
 ifK t26
 (j_3 (bx 8) S_2)
 (optK (some b10) fun _ =>
 optK (lloadA T_int (some b10) 1) fun t30 =>
 callK Ca F_branch_Branch_Look [(AV.strip t24), (AV.strip t30), (.str a2)] S_2 fun t32 S_3 =>
 optK (extractA t32 0) fun t33 =>
 optK (extractA (stripTup t32 0) 1) fun t34 =>
 optK (unA .not (AV.strip t34)) fun t36 =>
 ifK t36
 (j_3 (bx 8) S_3)
 (callK Ca F_branch_Branch_Kind [(AV.strip t24), (AV.strip t33)] S_3 fun t39 S_4 =>
 optK (binA .neq (AV.strip t39) (.int .i64 2)) fun t41 =>
 ifK t41
 (optK (bx 8) fun _ =>
 optK (lloadA T_int (bx 8) 0) fun t43 =>
 optK (binA .eql (AV.strip t43) (.int .i64 0)) fun t44 =>
 joinK (fun (x47 : AV) =>
 optK (pickA (AV.strip t44) x47 (.bool false)) fun t48 =>
 ifK (AV.strip t48)
 (optK (some b10) fun _ =>
 optK (lloadA T_int (some b10) 0) fun t51 =>
 optK (buildA T_seen_Spot 1 [(0, (AV.strip t51)), (1, (AV.strip t33))]) fun t53 =>
 optK (buildA T_seen_Found 1 [(0, (AV.strip t39)), (1, t53)]) fun t54 =>
 optK (lstoreA T_seen_Found (bx 8) 0 t54) fun b8 =>
 j_4 (some b8) S_4)
 (j_4 (bx 8) S_4)) fun j =>
 ifK (AV.strip t44)
 (optK (binA .neq (AV.strip t39) (.int .i64 4)) fun t47 =>
 j t47)
 (j (.tup [])))
 (joinK (fun (y8 : Option (List AV)) =>
 optK y8 fun _ =>
 optK (lloadA T_seen_Place y8 3) fun t65 =>
 optK (some b10) fun _ =>
 optK (lloadA T_int (some b10) 0) fun t67 =>
 optK (buildA T_seen_Spot 1 [(0, (AV.strip t67)), (1, (AV.strip t33))]) fun t69 =>
 optK (elemVals 2 [t69]) fun e70 =>
 optK (appendA T_seen_Spot S_4 (AV.strip0 t65) (.vs 2 e70 .full)) fun t71 =>
 optK (stripBox y8 3) fun _ =>
 optK (lstoreA T_seen_Place (stripBox y8 3) 3 t71) fun b8_3 =>
 callK Ca F_branch_Branch_Opaque [(AV.strip t24), (AV.strip t33)] S_4 fun t75 S_5 =>
 ifK t75
 (j_4 (some b8_3) S_5)
 (j_3 (some b8_3) S_5)) fun j_2 =>
 optK (bx 8) fun _ =>
 optK (lloadA T_int (bx 8) 0) fun t56 =>
 optK (binA .eql (AV.strip t56) (.int .i64 0)) fun t57 =>
 ifK t57
 (optK (some b10) fun _ =>
 optK (lloadA T_int (some b10) 0) fun t60 =>
 optK (buildA T_seen_Spot 1 [(0, (AV.strip t60)), (1, (AV.strip t33))]) fun t62 =>
 optK (buildA T_seen_Found 1 [(0, (AV.strip t39)), (1, t62)]) fun t63 =>
 optK (lstoreA T_seen_Found (bx 8) 0 t63) fun b8_2 =>
 j_2 (some b8_2))
 (j_2 (bx 8))))))
 (j_4 (bx 8) S)) S0
theorem seen_Look_eq (Ca) (a0a : List (List AV)) (a0ar : Rt) (a0b : Int) (a1 : List (List AV)) (a1r : Rt) (a2 : List UInt8) (S0 Q) : WF C Ca 41 (Drw C Ca 41) Tryz.f41 [(.agg [(.vs 2 a0a a0ar), (.int .i64 a0b)]), (.vs 2 a1 a1r), (.str a2)] S0 Q = G_seen_Look Ca a0a a0ar a0b a1 a1r a2 S0 Q := by kernel_rfl
theorem seen_Look_ok {w0 : World} {a0a : List (List AV)} {a0ar : Rt} {a0b : Int} {a1 : List (List AV)} {a1r : Rt} {a2 : List UInt8} {S0 : St} {Q : AV → St → Prop} (h : G_seen_Look (ACalls (En w0)) a0a a0ar a0b a1 a1r a2 S0 Q) : AC w0 F_seen_Look [(.agg [(.vs 2 a0a a0ar), (.int .i64 a0b)]), (.vs 2 a1 a1r), (.str a2)] S0 Q := fn_ok w0 Tryz.func41 (by kernel_rfl) (by rw [seen_Look_eq]; exact h)
def G_stack_Stack_At (Ca : Nat → List AV → St → (AV → St → Prop) → Prop) (a0a : List (List AV)) (a0ar : Rt) (a0b : Int) (a1 : Int) (S0 : St) (Q : AV → St → Prop) : Prop :=
 optK (boxA T_stack_Stack (.agg [(.vs 2 a0a a0ar), (.int .i64 a0b)])) fun c2 =>
 joinK (fun (x12 : AV) =>
 optK (pickA (.bool (decide (a1 < 0))) (.bool true) x12) fun t13 =>
 ifK (AV.strip t13)
 (Q .nil S0)
 (optK (some c2) fun _ =>
 optK (lloadA T_s_stack_mount (some c2) 0) fun t15 =>
 optK (idxSlA T_stack_mount (AV.strip t15) (.int .i64 a1)) fun t17 =>
 optK (movePtr t17 1) fun t18 =>
 optK (loadA T_p_branch_Branch S0 t18) fun t19 =>
 Q (AV.strip t19) S0)) fun j =>
 ifK (.bool (decide (a1 < 0)))
 (j (.tup []))
 (optK (some c2) fun _ =>
 optK (lloadA T_s_stack_mount (some c2) 0) fun t10 =>
 optK (lenSlA (AV.strip t10)) fun t11 =>
 optK (binA .geq (.int .i64 a1) t11) fun t12 =>
 j t12)
theorem stack_Stack_At_eq (Ca) (a0a : List (List AV)) (a0ar : Rt) (a0b : Int) (a1 : Int) (S0 Q) : WF C Ca 42 (Drw C Ca 42) Tryz.f42 [(.agg [(.vs 2 a0a a0ar), (.int .i64 a0b)]), (.int .i64 a1)] S0 Q = G_stack_Stack_At Ca a0a a0ar a0b a1 S0 Q := by kernel_rfl
theorem stack_Stack_At_ok {w0 : World} {a0a : List (List AV)} {a0ar : Rt} {a0b : Int} {a1 : Int} {S0 : St} {Q : AV → St → Prop} (h : G_stack_Stack_At (ACalls (En w0)) a0a a0ar a0b a1 S0 Q) : AC w0 F_stack_Stack_At [(.agg [(.vs 2 a0a a0ar), (.int .i64 a0b)]), (.int .i64 a1)] S0 Q := fn_ok w0 Tryz.func42 (by kernel_rfl) (by rw [stack_Stack_At_eq]; exact h)
def G_branch_Branch_Target (Ca : Nat → List AV → St → (AV → St → Prop) → Prop) (a0 : Nat) (a0o : Nat) (a1 : Int) (S0 : St) (Q : AV → St → Prop) : Prop :=
 Ca F_branch_Branch_at [(.ptr a0 a0o), (.int .i64 a1)] S0 fun t7 S =>
 optK (partA T_api_Node t7 0) fun t8 =>
 optK (partA T_string (AV.strip t8) 6) fun t9 =>
 Q (AV.strip t9) S
theorem branch_Branch_Target_eq (Ca) (a0 : Nat) (a0o : Nat) (a1 : Int) (S0 Q) : WF C Ca 43 (Drw C Ca 43) Tryz.f43 [(.ptr a0 a0o), (.int .i64 a1)] S0 Q = G_branch_Branch_Target Ca a0 a0o a1 S0 Q := by kernel_rfl
theorem branch_Branch_Target_ok {w0 : World} {a0 : Nat} {a0o : Nat} {a1 : Int} {S0 : St} {Q : AV → St → Prop} (h : G_branch_Branch_Target (ACalls (En w0)) a0 a0o a1 S0 Q) : AC w0 F_branch_Branch_Target [(.ptr a0 a0o), (.int .i64 a1)] S0 Q := fn_ok w0 Tryz.func43 (by kernel_rfl) (by rw [branch_Branch_Target_eq]; exact h)
def G_walk_Walker_Tell (Ca : Nat → List AV → St → (AV → St → Prop) → Prop) (a0 : Nat) (a0o : Nat) (a1a : Int) (a1ba : Int) (a1bb : Int) (a1c : List (List AV)) (a1cr : Rt) (a2 : Bool) (a3 : List UInt8) (S0 : St) (Q : AV → St → Prop) : Prop :=
 optK (boxA T_seen_Found (.agg [(.int .i64 a1a), (.int .i64 a1ba), (.int .i64 a1bb), (.vs 2 a1c a1cr)])) fun c5 =>
 Ca F_walk_Walker_Ask [(.ptr a0 a0o)] S0 fun t16 S =>
 optK (extractA t16 0) fun t17 =>
 optK (extractA (stripTup t16 0) 1) fun t18 =>
 optK (extractA (stripTup (stripTup t16 0) 1) 2) fun t19 =>
 optK (extractA (stripTup (stripTup (stripTup t16 0) 1) 2) 3) fun t20 =>
 optK (unA .not (AV.strip t20)) fun t22 =>
 ifK t22
 (Q (.int .i64 1) S)
 (ifK (.bool (!a2))
 (Q (.int .i64 2) S)
 (optK (loadA T_s_string S (.ptr a0 (a0o + 0))) fun t29 =>
 optK (cutA T_string (AV.strip0 t29) (some (.int .i64 1)) none none) fun t30 =>
 optK (storeA T_s_string (stripMem S (.ptr a0 (a0o + 0))) (.ptr a0 (a0o + 0)) t30) fun S_2 =>
 optK (loadA T_s_string S_2 (.ptr a0 (a0o + 0))) fun t36 =>
 optK (lenSlA (AV.strip t36)) fun t37 =>
 optK (binA .eql t37 (.int .i64 0)) fun t38 =>
 joinK (fun (S_8 : St) =>
 Q (.int .i64 0) S_8) fun j_3 =>
 optK (some c5) fun _ =>
 optK (lloadA T_int (some c5) 0) fun t50 =>
 optK (binA .eql (AV.strip t50) (.int .i64 3)) fun t51 =>
 joinK (fun (x60 : AV) =>
 optK (pickA (AV.strip t51) x60 (.bool false)) fun t61 =>
 ifK (AV.strip t61)
 (Ca F_walk_Walker_link [(.ptr a0 a0o), (.str a3)] S_2 fun t64 S_3 =>
 Q t64 S_3)
 (optK (some c5) fun _ =>
 optK (lloadA T_int (some c5) 0) fun t67 =>
 optK (binA .eql (AV.strip t67) (.int .i64 2)) fun t68 =>
 ifK t68
 (optK (loadA T_s_walk_dir S_2 (.ptr a0 (a0o + 1))) fun t73 =>
 optK (loadA T_s_walk_dir S_2 (.ptr a0 (a0o + 1))) fun t77 =>
 optK (lenSlA (AV.strip t77)) fun t78 =>
 optK (loadA T_s_walk_dir S_2 (.ptr a0 (a0o + 1))) fun t82 =>
 optK (lenSlA (AV.strip t82)) fun t83 =>
 optK (cutA T_walk_dir (AV.strip t73) none (some t78) (some t83)) fun t84 =>
 optK (some c5) fun _ =>
 optK (lloadA T_seen_Place (some c5) 3) fun t89 =>
 callK Ca F_name_Child [(AV.strip t17), (AV.strip t19)] S_2 fun t87 S_4 =>
 (optK (loadA T_s_walk_dir S_4 (.ptr a0 (a0o + 1))) fun t82_2 =>
 ((AV.strip t82_2) : AV) = (AV.strip t82)) ∧
 ((optK (loadA T_s_walk_dir S_4 (.ptr a0 (a0o + 1))) fun t77_2 =>
 ((AV.strip t77_2) : AV) = (AV.strip t77)) ∧
 ((optK (loadA T_s_walk_dir S_4 (.ptr a0 (a0o + 1))) fun t73_2 =>
 ((AV.strip t73_2) : AV) = (AV.strip t73)) ∧
 (optK (buildA T_walk_dir 1 [(0, t87), (1, (AV.strip t89))]) fun t90 =>
 optK (elemVals 2 [t90]) fun e91 =>
 optK (appendA T_walk_dir S_4 t84 (.vs 2 e91 .full)) fun t92 =>
 optK (storeA T_s_walk_dir S_4 (.ptr a0 (a0o + 1)) t92) fun S_5 =>
 j_3 S_5))))
 (optK (unA .not (AV.strip t38)) fun t97 =>
 ifK t97
 (Q (.int .i64 3) S_2)
 (optK (lloadA T_seen_Found (some c5) 0) fun t43 =>
 callK Ca F_name_Child [(AV.strip t17), (AV.strip t19)] S_2 fun t42 S_6 =>
 optK (buildA T_walk_Target 1 [(0, t42), (1, (AV.strip t43))]) fun t44 =>
 optK (boxA T_walk_Target t44) fun c45 =>
 optK (storeA T_p_walk_Target (S_6 ++ [.cells c45 t_walk_Target]) (.ptr a0 (a0o + 4)) (.ptr S_6.length 0)) fun S_7 =>
 j_3 S_7)))) fun j_2 =>
 ifK (AV.strip t51)
 (optK (unA .not (AV.strip t38)) fun t54 =>
 joinK (fun (x59 : AV) =>
 optK (pickA (AV.strip t54) (.bool true) x59) fun t60 =>
 j_2 (AV.strip t60)) fun j =>
 gK (AV.strip t54)
 (j (.tup []))
 (optK (loadA T_bool S_2 (.ptr a0 (a0o + 2))) fun t59 =>
 j (AV.strip t59))
 (j (.tup [])))
 (j_2 (.tup []))))
theorem walk_Walker_Tell_eq (Ca) (a0 : Nat) (a0o : Nat) (a1a : Int) (a1ba : Int) (a1bb : Int) (a1c : List (List AV)) (a1cr : Rt) (a2 : Bool) (a3 : List UInt8) (S0 Q) : WF C Ca 44 (Drw C Ca 44) Tryz.f44 [(.ptr a0 a0o), (.agg [(.int .i64 a1a), (.int .i64 a1ba), (.int .i64 a1bb), (.vs 2 a1c a1cr)]), (.bool a2), (.str a3)] S0 Q = G_walk_Walker_Tell Ca a0 a0o a1a a1ba a1bb a1c a1cr a2 a3 S0 Q := by kernel_rfl
theorem walk_Walker_Tell_ok {w0 : World} {a0 : Nat} {a0o : Nat} {a1a : Int} {a1ba : Int} {a1bb : Int} {a1c : List (List AV)} {a1cr : Rt} {a2 : Bool} {a3 : List UInt8} {S0 : St} {Q : AV → St → Prop} (h : G_walk_Walker_Tell (ACalls (En w0)) a0 a0o a1a a1ba a1bb a1c a1cr a2 a3 S0 Q) : AC w0 F_walk_Walker_Tell [(.ptr a0 a0o), (.agg [(.int .i64 a1a), (.int .i64 a1ba), (.int .i64 a1bb), (.vs 2 a1c a1cr)]), (.bool a2), (.str a3)] S0 Q := fn_ok w0 Tryz.func44 (by kernel_rfl) (by rw [walk_Walker_Tell_eq]; exact h)
def G_union_fault (Ca : Nat → List AV → St → (AV → St → Prop) → Prop) (a0 : Int) (S0 : St) (Q : AV → St → Prop) : Prop :=
 Q (.agg [(.int .i64 a0), (.int .i64 0), (.int .i64 0), (.int .i64 0), (.int .i64 0), (.str []), (.vs 1 [] .nil), (.bool false)]) S0
theorem union_fault_eq (Ca) (a0 : Int) (S0 Q) : WF C Ca 45 (Drw C Ca 45) Tryz.f45 [(.int .i64 a0)] S0 Q = G_union_fault Ca a0 S0 Q := by kernel_rfl
theorem union_fault_ok {w0 : World} {a0 : Int} {S0 : St} {Q : AV → St → Prop} (h : G_union_fault (ACalls (En w0)) a0 S0 Q) : AC w0 F_union_fault [(.int .i64 a0)] S0 Q := fn_ok w0 Tryz.func45 (by kernel_rfl) (by rw [union_fault_eq]; exact h)
def G_branch_Branch_Size (Ca : Nat → List AV → St → (AV → St → Prop) → Prop) (a0 : Nat) (a0o : Nat) (a1 : Int) (S0 : St) (Q : AV → St → Prop) : Prop :=
 Ca F_branch_Branch_at [(.ptr a0 a0o), (.int .i64 a1)] S0 fun t7 S =>
 optK (partA T_api_Node t7 0) fun t8 =>
 optK (partA T_int (AV.strip t8) 4) fun t9 =>
 Q (AV.strip t9) S
theorem branch_Branch_Size_eq (Ca) (a0 : Nat) (a0o : Nat) (a1 : Int) (S0 Q) : WF C Ca 50 (Drw C Ca 50) Tryz.f50 [(.ptr a0 a0o), (.int .i64 a1)] S0 Q = G_branch_Branch_Size Ca a0 a0o a1 S0 Q := by kernel_rfl
theorem branch_Branch_Size_ok {w0 : World} {a0 : Nat} {a0o : Nat} {a1 : Int} {S0 : St} {Q : AV → St → Prop} (h : G_branch_Branch_Size (ACalls (En w0)) a0 a0o a1 S0 Q) : AC w0 F_branch_Branch_Size [(.ptr a0 a0o), (.int .i64 a1)] S0 Q := fn_ok w0 Tryz.func50 (by kernel_rfl) (by rw [branch_Branch_Size_eq]; exact h)
def G_branch_Branch_Read (Ca : Nat → List AV → St → (AV → St → Prop) → Prop) (a0 : Nat) (a0o : Nat) (a1 : Int) (a2 : Int) (a3 : Int) (S0 : St) (Q : AV → St → Prop) : Prop :=
 Ca F_branch_Branch_at [(.ptr a0 a0o), (.int .i64 a1)] S0 fun t12 S =>
 optK (lstoreA T_branch_inode (some [(.int .i64 0), (.bool false), (.vs 1 [] .nil), (.vs 7 [] .nil), (.int .i64 0), (.vs 2 [] .nil), (.str []), (.vs 1 [] .nil)]) 0 t12) fun b9 =>
 optK (some b9) fun _ =>
 optK (some b9) fun _ =>
 optK (lloadA T_int (some b9) 4) fun t15 =>
 optK (some b9) fun _ =>
 optK (some b9) fun _ =>
 optK (lloadA T_s_api_Extent (some b9) 5) fun t18 =>
 callK Ca F_extent_Read [(AV.strip t15), (AV.strip t18), (.int .i64 a2), (.int .i64 a3)] S fun t21 S_2 =>
 Q t21 S_2
theorem branch_Branch_Read_eq (Ca) (a0 : Nat) (a0o : Nat) (a1 : Int) (a2 : Int) (a3 : Int) (S0 Q) : WF C Ca 51 (Drw C Ca 51) Tryz.f51 [(.ptr a0 a0o), (.int .i64 a1), (.int .i64 a2), (.int .i64 a3)] S0 Q = G_branch_Branch_Read Ca a0 a0o a1 a2 a3 S0 Q := by kernel_rfl
theorem branch_Branch_Read_ok {w0 : World} {a0 : Nat} {a0o : Nat} {a1 : Int} {a2 : Int} {a3 : Int} {S0 : St} {Q : AV → St → Prop} (h : G_branch_Branch_Read (ACalls (En w0)) a0 a0o a1 a2 a3 S0 Q) : AC w0 F_branch_Branch_Read [(.ptr a0 a0o), (.int .i64 a1), (.int .i64 a2), (.int .i64 a3)] S0 Q := fn_ok w0 Tryz.func51 (by kernel_rfl) (by rw [branch_Branch_Read_eq]; exact h)
def G_merge_List (Ca : Nat → List AV → St → (AV → St → Prop) → Prop) (a0a : List (List AV)) (a0ar : Rt) (a0b : Int) (a1 : List (List AV)) (a1r : Rt) (S0 : St) (Q : AV → St → Prop) : Prop :=
 optK (boxA T_stack_Stack (.agg [(.vs 2 a0a a0ar), (.int .i64 a0b)])) fun c2 =>
 optK (makeSliceA T_s_string false S0 (.int .i64 (List.length a1 : Int)) (.int .i64 (List.length a1 : Int))) fun p19 =>
 joinK (fun (y2 : Option (List AV)) (S_6 : St) =>
 joinK (fun (x9_2 : AV) (S_14 : St) =>
 Q (AV.strip x9_2) S_14) fun j_3 =>
 callK Ca F_heap_Merge [(AV.strip p19.1)] S_6 fun t42 S_7 =>
 callK Ca F_heap_First [t42] S_7 fun t43 S_8 =>
 optK (lenSlA t43) fun t44 =>
 loopQ ([(.vs 2 [] .nil), (.int .i64 0)], [y2]) (fun v_2 bx_2 => ([v_2 9, v_2 45], [bx_2 2])) (fun nx_2 v_2 bx_2 S_9 =>
 optK (binA .lss (v_2 45) t44) fun t46 =>
 ifK t46
 (joinK (fun (x9 : AV) (S_13 : St) =>
 optK (binA .add (v_2 45) (.int .i64 1)) fun t83 =>
 nx_2 ([x9, (AV.strip t83)], [(bx_2 2)]) S_13) fun j_2 =>
 optK (idxSlA T_heap_Item t43 (v_2 45)) fun t47 =>
 optK (loadA T_heap_Item S_9 t47) fun t48 =>
 optK (lstoreA T_heap_Item (some [(.str []), (.int .i64 0)]) 0 (AV.strip t48)) fun b11 =>
 optK (lloadA T_stack_Stack (bx_2 2) 0) fun t49 =>
 optK (some b11) fun _ =>
 optK (lloadA T_int (some b11) 1) fun t52 =>
 optK (idxSlA T_seen_Spot (.vs 2 a1 (Rt.strip a1r)) (AV.strip t52)) fun t53 =>
 optK (movePtr t53 0) fun t54 =>
 optK (loadA T_int S_9 t54) fun t55 =>
 optK (some b11) fun _ =>
 optK (lloadA T_int (some b11) 1) fun t59 =>
 optK (idxSlA T_seen_Spot (.vs 2 a1 (Rt.strip a1r)) (AV.strip t59)) fun t60 =>
 optK (movePtr t60 1) fun t61 =>
 optK (loadA T_int S_9 t61) fun t62 =>
 callK Ca F_stack_Stack_At [(AV.strip t49), (AV.strip t55)] S_9 fun t56 S_10 =>
 (optK (loadA T_int S_10 t61) fun t62_2 =>
 ((AV.strip t62_2) : AV) = (AV.strip t62)) ∧
 (optK (some b11) fun _ =>
 optK (lloadA T_string (some b11) 0) fun t67 =>
 callK Ca F_branch_Branch_Look [(AV.strip t56), (AV.strip (AV.strip t62)), (AV.strip t67)] S_10 fun t68 S_11 =>
 optK (extractA t68 0) fun t69 =>
 optK (extractA (stripTup t68 0) 1) fun t70 =>
 callK Ca F_branch_Branch_Kind [(AV.strip t56), (AV.strip t69)] S_11 fun t73 S_12 =>
 optK (binA .neq (AV.strip t73) (.int .i64 4)) fun t75 =>
 ifK t75
 (optK (some b11) fun _ =>
 optK (lloadA T_string (some b11) 0) fun t78 =>
 optK (buildA T_merge_Entry 1 [(0, (AV.strip t78)), (1, (AV.strip t73))]) fun t80 =>
 optK (elemVals 2 [t80]) fun e81 =>
 optK (appendA T_merge_Entry S_12 (v_2 9) (.vs 2 e81 .full)) fun t82 =>
 j_2 t82 S_12)
 (j_2 (v_2 9) S_12)))
 (j_3 (v_2 9) S_9)) S_8) fun j_4 =>
 loopQ ([(.int .i64 0)], [(some c2)]) (fun v bx => ([v 22], [bx 2])) (fun nx v bx S =>
 optK (binA .lss (v 22) (.int .i64 (List.length a1 : Int))) fun t23 =>
 ifK t23
 (joinK (fun (S_5 : St) =>
 optK (binA .add (v 22) (.int .i64 1)) fun t40 =>
 nx ([(AV.strip t40)], [(bx 2)]) S_5) fun j =>
 optK (idxSlA T_seen_Spot (.vs 2 a1 (Rt.strip a1r)) (v 22)) fun t25 =>
 optK (loadA T_seen_Spot S t25) fun t26 =>
 optK (lstoreA T_seen_Spot (some [(.int .i64 0), (.int .i64 0)]) 0 (AV.strip t26)) fun b7 =>
 optK (lloadA T_stack_Stack (bx 2) 0) fun t27 =>
 optK (some b7) fun _ =>
 optK (lloadA T_int (some b7) 0) fun t29 =>
 callK Ca F_stack_Stack_At [(AV.strip t27), (AV.strip t29)] S fun t30 S_2 =>
 optK (binE .ptr .neq (AV.strip t30) .nil) fun t32 =>
 ifK t32
 (optK (some b7) fun _ =>
 optK (lloadA T_int (some b7) 1) fun t37 =>
 callK Ca F_branch_Branch_Names [(AV.strip t30), (AV.strip t37)] S_2 fun t38 S_3 =>
 optK (idxSlA T_s_string (AV.strip p19.1) (AV.strip (AV.strip (v 22)))) fun t39 =>
 optK (storeA T_s_string S_3 t39 t38) fun S_4 =>
 j S_4)
 (j S_2))
 (j_4 (bx 2) S)) p19.2
theorem merge_List_eq (Ca) (a0a : List (List AV)) (a0ar : Rt) (a0b : Int) (a1 : List (List AV)) (a1r : Rt) (S0 Q) : WF C Ca 52 (Drw C Ca 52) Tryz.f52 [(.agg [(.vs 2 a0a a0ar), (.int .i64 a0b)]), (.vs 2 a1 a1r)] S0 Q = G_merge_List Ca a0a a0ar a0b a1 a1r S0 Q := by kernel_rfl
theorem merge_List_ok {w0 : World} {a0a : List (List AV)} {a0ar : Rt} {a0b : Int} {a1 : List (List AV)} {a1r : Rt} {S0 : St} {Q : AV → St → Prop} (h : G_merge_List (ACalls (En w0)) a0a a0ar a0b a1 a1r S0 Q) : AC w0 F_merge_List [(.agg [(.vs 2 a0a a0ar), (.int .i64 a0b)]), (.vs 2 a1 a1r)] S0 Q := fn_ok w0 Tryz.func52 (by kernel_rfl) (by rw [merge_List_eq]; exact h)
def G_stack_Stack_Add (Ca : Nat → List AV → St → (AV → St → Prop) → Prop) (a0a : List (List AV)) (a0ar : Rt) (a0b : Int) (a1 : AV) (S0 : St) (Q : AV → St → Prop) : Prop :=
 optK (boxA T_stack_Stack (.agg [(.vs 2 a0a a0ar), (.int .i64 a0b)])) fun c2 =>
 optK (some c2) fun _ =>
 optK (lloadA T_s_stack_mount (some c2) 0) fun t8 =>
 optK (lenSlA (AV.strip t8)) fun t9 =>
 optK (binA .geq t9 (.int .i64 64)) fun t10 =>
 ifK t10
 (optK (lloadA T_stack_Stack (some c2) 0) fun t11 =>
 optK (lstoreA T_stack_Stack (some [(.vs 2 [] .nil), (.int .i64 0)]) 0 (AV.strip t11)) fun b4 =>
 optK ((lloadA T_stack_Stack (some b4) 0).map AV.strip) fun r4 =>
 Q (.tup [(AV.flat r4), (.int .i64 0), (.int .i64 6)]) S0)
 (optK (some c2) fun _ =>
 optK (lloadA T_int (some c2) 1) fun t13 =>
 optK (buildA T_stack_mount 1 [(0, (AV.strip t13)), (1, (AV.strip a1))]) fun t15 =>
 optK (elemVals 2 [t15]) fun e16 =>
 optK (some c2) fun _ =>
 optK (lloadA T_s_stack_mount (some c2) 0) fun t18 =>
 optK (some c2) fun _ =>
 optK (lloadA T_int (some c2) 1) fun t21 =>
 optK (binA .add (AV.strip t21) (.int .i64 1)) fun t22 =>
 optK (some c2) fun _ =>
 optK (lloadA T_int (some c2) 1) fun t25 =>
 optK (appendA T_stack_mount S0 (.vs 2 e16 .full) (AV.strip t18)) fun t19 =>
 optK (buildA T_stack_Stack 1 [(0, t19), (1, t22)]) fun t23 =>
 optK (lstoreA T_stack_Stack (some [(.vs 2 [] .nil), (.int .i64 0)]) 0 t23) fun b4_2 =>
 optK ((lloadA T_stack_Stack (some b4_2) 0).map AV.strip) fun r4_2 =>
 Q (.tup [(AV.flat r4_2), (AV.flat (AV.strip t25)), (.int .i64 0)]) S0)
theorem stack_Stack_Add_eq (Ca) (a0a : List (List AV)) (a0ar : Rt) (a0b : Int) (a1 : AV) (S0 Q) : WF C Ca 57 (Drw C Ca 57) Tryz.f57 [(.agg [(.vs 2 a0a a0ar), (.int .i64 a0b)]), a1] S0 Q = G_stack_Stack_Add Ca a0a a0ar a0b a1 S0 Q := by kernel_rfl
theorem stack_Stack_Add_ok {w0 : World} {a0a : List (List AV)} {a0ar : Rt} {a0b : Int} {a1 : AV} {S0 : St} {Q : AV → St → Prop} (h : G_stack_Stack_Add (ACalls (En w0)) a0a a0ar a0b a1 S0 Q) : AC w0 F_stack_Stack_Add [(.agg [(.vs 2 a0a a0ar), (.int .i64 a0b)]), a1] S0 Q := fn_ok w0 Tryz.func57 (by kernel_rfl) (by rw [stack_Stack_Add_eq]; exact h)
def G_branch_New (Ca : Nat → List AV → St → (AV → St → Prop) → Prop) (a0a : Int) (a0b : Bool) (a0c : List (List AV)) (a0cr : Rt) (a0d : List (List AV)) (a0dr : Rt) (a0e : Int) (a0f : List (List AV)) (a0fr : Rt) (a0g : List UInt8) (S0 : St) (Q : AV → St → Prop) : Prop :=
 optK (boxA T_api_Node (.agg [(.int .i64 a0a), (.bool a0b), (.vs 1 a0c a0cr), (.vs 7 a0d a0dr), (.int .i64 a0e), (.vs 2 a0f a0fr), (.str a0g)])) fun c1 =>
 optK (lloadA T_api_Node (some c1) 0) fun t5 =>
 callK Ca F_tree_Right [(AV.strip t5)] S0 fun t6 S =>
 optK (unA .not t6) fun t7 =>
 ifK t7
 (Q (.tup [.nil, (.int .i64 1)]) S)
 (optK (boxA T_branch_Branch (.agg [(.vs 8 [] .nil)])) fun c9 =>
 optK (lloadA T_api_Node (some c1) 0) fun t11 =>
 callK Ca F_branch_Branch_add [(.ptr S.length 0), (AV.strip t11)] (S ++ [.cells c9 t_branch_Branch]) fun t12 S_2 =>
 Q (.tup [(.ptr S.length 0), (.int .i64 0)]) S_2)
theorem branch_New_eq (Ca) (a0a : Int) (a0b : Bool) (a0c : List (List AV)) (a0cr : Rt) (a0d : List (List AV)) (a0dr : Rt) (a0e : Int) (a0f : List (List AV)) (a0fr : Rt) (a0g : List UInt8) (S0 Q) : WF C Ca 59 (Drw C Ca 59) Tryz.f59 [(.agg [(.int .i64 a0a), (.bool a0b), (.vs 1 a0c a0cr), (.vs 7 a0d a0dr), (.int .i64 a0e), (.vs 2 a0f a0fr), (.str a0g)])] S0 Q = G_branch_New Ca a0a a0b a0c a0cr a0d a0dr a0e a0f a0fr a0g S0 Q := by kernel_rfl
theorem branch_New_ok {w0 : World} {a0a : Int} {a0b : Bool} {a0c : List (List AV)} {a0cr : Rt} {a0d : List (List AV)} {a0dr : Rt} {a0e : Int} {a0f : List (List AV)} {a0fr : Rt} {a0g : List UInt8} {S0 : St} {Q : AV → St → Prop} (h : G_branch_New (ACalls (En w0)) a0a a0b a0c a0cr a0d a0dr a0e a0f a0fr a0g S0 Q) : AC w0 F_branch_New [(.agg [(.int .i64 a0a), (.bool a0b), (.vs 1 a0c a0cr), (.vs 7 a0d a0dr), (.int .i64 a0e), (.vs 2 a0f a0fr), (.str a0g)])] S0 Q := fn_ok w0 Tryz.func59 (by kernel_rfl) (by rw [branch_New_eq]; exact h)
def G_slices_Clone_s_string_string (Ca : Nat → List AV → St → (AV → St → Prop) → Prop) (a0 : List (List AV)) (a0r : Rt) (S0 : St) (Q : AV → St → Prop) : Prop :=
 optK (binE .slice .eql (.vs 1 a0 (Rt.strip a0r)) (.vs 1 [] .nil)) fun t4 =>
 ifK t4
 (Q (.vs 1 [] .nil) S0)
 (optK (appendA T_string S0 (.vs 1 [] .full) (.vs 1 a0 (Rt.strip a0r))) fun t7 =>
 Q t7 S0)
theorem slices_Clone_s_string_string_eq (Ca) (a0 : List (List AV)) (a0r : Rt) (S0 Q) : WF C Ca 60 (Drw C Ca 60) Tryz.f60 [(.vs 1 a0 a0r)] S0 Q = G_slices_Clone_s_string_string Ca a0 a0r S0 Q := by kernel_rfl
theorem slices_Clone_s_string_string_ok {w0 : World} {a0 : List (List AV)} {a0r : Rt} {S0 : St} {Q : AV → St → Prop} (h : G_slices_Clone_s_string_string (ACalls (En w0)) a0 a0r S0 Q) : AC w0 F_slices_Clone_s_string_string [(.vs 1 a0 a0r)] S0 Q := fn_ok w0 Tryz.func60 (by kernel_rfl) (by rw [slices_Clone_s_string_string_eq]; exact h)
def G_slices_Clone_s_api_Node_api_Node (Ca : Nat → List AV → St → (AV → St → Prop) → Prop) (a0 : List (List AV)) (a0r : Rt) (S0 : St) (Q : AV → St → Prop) : Prop :=
 optK (binE .slice .eql (.vs 7 a0 (Rt.strip a0r)) (.vs 7 [] .nil)) fun t4 =>
 ifK t4
 (Q (.vs 7 [] .nil) S0)
 (optK (appendA T_api_Node S0 (.vs 7 [] .full) (.vs 7 a0 (Rt.strip a0r))) fun t7 =>
 Q t7 S0)
theorem slices_Clone_s_api_Node_api_Node_eq (Ca) (a0 : List (List AV)) (a0r : Rt) (S0 Q) : WF C Ca 61 (Drw C Ca 61) Tryz.f61 [(.vs 7 a0 a0r)] S0 Q = G_slices_Clone_s_api_Node_api_Node Ca a0 a0r S0 Q := by kernel_rfl
theorem slices_Clone_s_api_Node_api_Node_ok {w0 : World} {a0 : List (List AV)} {a0r : Rt} {S0 : St} {Q : AV → St → Prop} (h : G_slices_Clone_s_api_Node_api_Node (ACalls (En w0)) a0 a0r S0 Q) : AC w0 F_slices_Clone_s_api_Node_api_Node [(.vs 7 a0 a0r)] S0 Q := fn_ok w0 Tryz.func61 (by kernel_rfl) (by rw [slices_Clone_s_api_Node_api_Node_eq]; exact h)
def G_extent_Of (Ca : Nat → List AV → St → (AV → St → Prop) → Prop) (a0 : List UInt8) (S0 : St) (Q : AV → St → Prop) : Prop :=
 joinK (fun (x3_2 : AV) (S_4 : St) =>
 Q (AV.strip x3_2) S_4) fun j_4 =>
 loopQ ([(.str a0), (.vs 2 [] .nil), (.int .i64 0)], []) (fun v bx => ([v 0, v 3, v 4], [])) (fun nx v bx S =>
 optK (lenStrA (AV.strip (v 0))) fun t8 =>
 optK (binA .lss (AV.strip (v 4)) t8) fun t9 =>
 ifK t9
 (joinK (fun (x5 : AV) (S_3 : St) =>
 joinK (fun (x0 : AV) (x3 : AV) =>
 optK (binA .add (AV.strip x5) (.int .i64 1)) fun t36 =>
 nx ([x0, x3, t36], []) S_3) fun j_2 =>
 optK (binA .gtr (AV.strip x5) (AV.strip (v 4))) fun t25 =>
 ifK t25
 (optK (cutStrA (v 0) (some (AV.strip (v 4))) (some (AV.strip x5))) fun t31 =>
 optK (buildA T_api_Extent 1 [(0, (AV.strip (v 4))), (1, t31)]) fun t32 =>
 optK (elemVals 2 [t32]) fun e33 =>
 optK (appendA T_api_Extent S_3 (v 3) (.vs 2 e33 .full)) fun t34 =>
 j_2 (AV.strip (v 0)) t34)
 (j_2 (v 0) (v 3))) fun j_3 =>
 loopQ ([(AV.strip (v 4))], []) (fun v_2 bx_2 => ([v_2 5], [])) (fun nx_2 v_2 bx_2 S_2 =>
 optK (lenStrA (AV.strip (v 0))) fun t13 =>
 optK (binA .lss (AV.strip (v_2 5)) t13) fun t14 =>
 joinK (fun (x19 : AV) =>
 optK (pickA (AV.strip t14) x19 (.bool false)) fun t20 =>
 ifK (AV.strip t20)
 (optK (binA .add (AV.strip (v_2 5)) (.int .i64 1)) fun t22 =>
 nx_2 ([t22], []) S_2)
 (j_3 (v_2 5) S_2)) fun j =>
 ifK (AV.strip t14)
 (optK (charA (AV.strip (v 0)) (AV.strip (v_2 5))) fun t18 =>
 optK (binA .neq t18 (.int .u8 0)) fun t19 =>
 j t19)
 (j (.tup []))) S)
 (j_4 (v 3) S)) S0
theorem extent_Of_eq (Ca) (a0 : List UInt8) (S0 Q) : WF C Ca 62 (Drw C Ca 62) Tryz.f62 [(.str a0)] S0 Q = G_extent_Of Ca a0 S0 Q := by kernel_rfl
theorem extent_Of_ok {w0 : World} {a0 : List UInt8} {S0 : St} {Q : AV → St → Prop} (h : G_extent_Of (ACalls (En w0)) a0 S0 Q) : AC w0 F_extent_Of [(.str a0)] S0 Q := fn_ok w0 Tryz.func62 (by kernel_rfl) (by rw [extent_Of_eq]; exact h)
def G_law04_small (Ca : Nat → List AV → St → (AV → St → Prop) → Prop) (a0a : Int) (a0b : Bool) (a0c : List (List AV)) (a0cr : Rt) (a0d : List (List AV)) (a0dr : Rt) (a0e : Int) (a0f : List (List AV)) (a0fr : Rt) (a0g : List UInt8) (a1 : Int) (a2 : AV) (S0 : St) (Q : AV → St → Prop) : Prop :=
 optK (boxA T_api_Node (.agg [(.int .i64 a0a), (.bool a0b), (.vs 1 a0c a0cr), (.vs 7 a0d a0dr), (.int .i64 a0e), (.vs 2 a0f a0fr), (.str a0g)])) fun c3 =>
 optK (nilA (AV.strip a2)) fun t12 =>
 optK (loadA T_int S0 t12) fun t13 =>
 optK (some c3) fun _ =>
 optK (lloadA T_s_string (some c3) 2) fun t15 =>
 optK (lenSlA (AV.strip t15)) fun t16 =>
 optK (binA .add (.int .i64 1) t16) fun t17 =>
 optK (some c3) fun _ =>
 optK (lloadA T_s_api_Extent (some c3) 5) fun t19 =>
 optK (lenSlA (AV.strip t19)) fun t20 =>
 optK (binA .add t17 t20) fun t21 =>
 optK (binA .sub (AV.strip t13) t21) fun t22 =>
 optK (nilA (AV.strip a2)) fun t23 =>
 optK (storeA T_int S0 t23 t22) fun S =>
 joinK (fun (S_4 : St) =>
 optK (nilA (AV.strip a2)) fun t41 =>
 optK (loadA T_int S_4 t41) fun t42 =>
 optK (some c3) fun _ =>
 optK (lloadA T_string (some c3) 6) fun t44 =>
 optK (lenStrA (AV.strip t44)) fun t45 =>
 optK (binA .sub (AV.strip t42) t45) fun t46 =>
 optK (nilA (AV.strip a2)) fun t47 =>
 optK (storeA T_int S_4 t47 t46) fun S_5 =>
 optK (nilA (AV.strip a2)) fun t49 =>
 optK (loadA T_int S_5 t49) fun t50 =>
 optK (binA .lss (AV.strip t50) (.int .i64 0)) fun t51 =>
 joinK (fun (x54 : AV) =>
 optK (pickA (AV.strip t51) (.bool true) x54) fun t55 =>
 ifK (AV.strip t55)
 (Q (.bool false) S_5)
 (joinK (fun (S_8 : St) =>
 Q (.bool true) S_8) fun j_2 =>
 optK (some c3) fun _ =>
 optK (lloadA T_s_api_Node (some c3) 3) fun t57 =>
 optK (lenSlA (AV.strip t57)) fun t58 =>
 loopQ ([(.int .i64 0)], []) (fun v_2 bx_2 => ([v_2 59], [])) (fun nx_2 v_2 bx_2 S_6 =>
 optK (binA .lss (v_2 59) t58) fun t60 =>
 ifK t60
 (optK (idxSlA T_api_Node (AV.strip t57) (v_2 59)) fun t61 =>
 optK (loadA T_api_Node S_6 t61) fun t62 =>
 optK (lstoreA T_api_Node (some [(.int .i64 0), (.bool false), (.vs 1 [] .nil), (.vs 7 [] .nil), (.int .i64 0), (.vs 2 [] .nil), (.str [])]) 0 (AV.strip t62)) fun b10 =>
 optK (lloadA T_api_Node (some b10) 0) fun t63 =>
 callK Ca F_law04_small [(AV.strip t63), (.int .i64 (IntKind.i64.wrap (a1 - 1))), (AV.strip a2)] S_6 fun t67 S_7 =>
 optK (unA .not t67) fun t68 =>
 ifK t68
 (Q (.bool false) S_7)
 (optK (binA .add (v_2 59) (.int .i64 1)) fun t69 =>
 nx_2 ([(AV.strip t69)], []) S_7))
 (j_2 S_6)) S_5)) fun j =>
 ifK (AV.strip t51)
 (j (.tup []))
 (j (.bool (decide (a1 < 0))))) fun j_3 =>
 optK (some c3) fun _ =>
 optK (lloadA T_s_api_Extent (some c3) 5) fun t25 =>
 optK (lenSlA (AV.strip t25)) fun t26 =>
 loopQ ([(.int .i64 0)], []) (fun v bx => ([v 27], [])) (fun nx v bx S_2 =>
 optK (binA .lss (v 27) t26) fun t28 =>
 ifK t28
 (optK (idxSlA T_api_Extent (AV.strip t25) (v 27)) fun t29 =>
 optK (loadA T_api_Extent S_2 t29) fun t30 =>
 optK (lstoreA T_api_Extent (some [(.int .i64 0), (.str [])]) 0 (AV.strip t30)) fun b8 =>
 optK (nilA (AV.strip a2)) fun t32 =>
 optK (loadA T_int S_2 t32) fun t33 =>
 optK (some b8) fun _ =>
 optK (lloadA T_string (some b8) 1) fun t35 =>
 optK (lenStrA (AV.strip t35)) fun t36 =>
 optK (binA .sub (AV.strip t33) t36) fun t37 =>
 optK (nilA (AV.strip a2)) fun t38 =>
 optK (storeA T_int S_2 t38 t37) fun S_3 =>
 optK (binA .add (v 27) (.int .i64 1)) fun t39 =>
 nx ([(AV.strip t39)], []) S_3)
 (j_3 S_2)) S
theorem law04_small_eq (Ca) (a0a : Int) (a0b : Bool) (a0c : List (List AV)) (a0cr : Rt) (a0d : List (List AV)) (a0dr : Rt) (a0e : Int) (a0f : List (List AV)) (a0fr : Rt) (a0g : List UInt8) (a1 : Int) (a2 : AV) (S0 Q) : WF C Ca 63 (Drw C Ca 63) Tryz.f63 [(.agg [(.int .i64 a0a), (.bool a0b), (.vs 1 a0c a0cr), (.vs 7 a0d a0dr), (.int .i64 a0e), (.vs 2 a0f a0fr), (.str a0g)]), (.int .i64 a1), a2] S0 Q = G_law04_small Ca a0a a0b a0c a0cr a0d a0dr a0e a0f a0fr a0g a1 a2 S0 Q := by kernel_rfl
theorem law04_small_ok {w0 : World} {a0a : Int} {a0b : Bool} {a0c : List (List AV)} {a0cr : Rt} {a0d : List (List AV)} {a0dr : Rt} {a0e : Int} {a0f : List (List AV)} {a0fr : Rt} {a0g : List UInt8} {a1 : Int} {a2 : AV} {S0 : St} {Q : AV → St → Prop} (h : G_law04_small (ACalls (En w0)) a0a a0b a0c a0cr a0d a0dr a0e a0f a0fr a0g a1 a2 S0 Q) : AC w0 F_law04_small [(.agg [(.int .i64 a0a), (.bool a0b), (.vs 1 a0c a0cr), (.vs 7 a0d a0dr), (.int .i64 a0e), (.vs 2 a0f a0fr), (.str a0g)]), (.int .i64 a1), a2] S0 Q := fn_ok w0 Tryz.func63 (by kernel_rfl) (by rw [law04_small_eq]; exact h)
def G_ref04_all (Ca : Nat → List AV → St → (AV → St → Prop) → Prop) (a0a : Int) (a0b : Bool) (a0c : List (List AV)) (a0cr : Rt) (a0d : List (List AV)) (a0dr : Rt) (a0e : Int) (a0f : List (List AV)) (a0fr : Rt) (a0g : List UInt8) (S0 : St) (Q : AV → St → Prop) : Prop :=
 optK (boxA T_api_Node (.agg [(.int .i64 a0a), (.bool a0b), (.vs 1 a0c a0cr), (.vs 7 a0d a0dr), (.int .i64 a0e), (.vs 2 a0f a0fr), (.str a0g)])) fun c1 =>
 joinK (fun (y1 : Option (List AV)) (S_3 : St) =>
 optK (lloadA T_api_Node y1 0) fun t18 =>
 callK Ca F_ref04_One [(AV.strip t18)] S_3 fun t19 S_4 =>
 Q t19 S_4) fun j =>
 loopQ ([(.int .i64 0)], [(some c1)]) (fun v bx => ([v 3], [bx 1])) (fun nx v bx S =>
 optK (bx 1) fun _ =>
 optK (lloadA T_s_api_Node (bx 1) 3) fun t6 =>
 optK (lenSlA (AV.strip t6)) fun t7 =>
 optK (binA .lss (AV.strip (v 3)) t7) fun t8 =>
 ifK t8
 (optK (bx 1) fun _ =>
 optK (lloadA T_s_api_Node (bx 1) 3) fun t12 =>
 optK (idxSlA T_api_Node (AV.strip t12) (AV.strip (v 3))) fun t14 =>
 optK (loadA T_api_Node S t14) fun t15 =>
 callK Ca F_ref04_all [(AV.strip t15)] S fun t16 S_2 =>
 optK (unA .not t16) fun t17 =>
 ifK t17
 (Q (.bool false) S_2)
 (optK (binA .add (AV.strip (v 3)) (.int .i64 1)) fun t10 =>
 nx ([t10], [(bx 1)]) S_2))
 (j (bx 1) S)) S0
theorem ref04_all_eq (Ca) (a0a : Int) (a0b : Bool) (a0c : List (List AV)) (a0cr : Rt) (a0d : List (List AV)) (a0dr : Rt) (a0e : Int) (a0f : List (List AV)) (a0fr : Rt) (a0g : List UInt8) (S0 Q) : WF C Ca 64 (Drw C Ca 64) Tryz.f64 [(.agg [(.int .i64 a0a), (.bool a0b), (.vs 1 a0c a0cr), (.vs 7 a0d a0dr), (.int .i64 a0e), (.vs 2 a0f a0fr), (.str a0g)])] S0 Q = G_ref04_all Ca a0a a0b a0c a0cr a0d a0dr a0e a0f a0fr a0g S0 Q := by kernel_rfl
theorem ref04_all_ok {w0 : World} {a0a : Int} {a0b : Bool} {a0c : List (List AV)} {a0cr : Rt} {a0d : List (List AV)} {a0dr : Rt} {a0e : Int} {a0f : List (List AV)} {a0fr : Rt} {a0g : List UInt8} {S0 : St} {Q : AV → St → Prop} (h : G_ref04_all (ACalls (En w0)) a0a a0b a0c a0cr a0d a0dr a0e a0f a0fr a0g S0 Q) : AC w0 F_ref04_all [(.agg [(.int .i64 a0a), (.bool a0b), (.vs 1 a0c a0cr), (.vs 7 a0d a0dr), (.int .i64 a0e), (.vs 2 a0f a0fr), (.str a0g)])] S0 Q := fn_ok w0 Tryz.func64 (by kernel_rfl) (by rw [ref04_all_eq]; exact h)
def G_ref04_Count (Ca : Nat → List AV → St → (AV → St → Prop) → Prop) (a0a : Int) (a0b : Bool) (a0c : List (List AV)) (a0cr : Rt) (a0d : List (List AV)) (a0dr : Rt) (a0e : Int) (a0f : List (List AV)) (a0fr : Rt) (a0g : List UInt8) (S0 : St) (Q : AV → St → Prop) : Prop :=
 optK (boxA T_api_Node (.agg [(.int .i64 a0a), (.bool a0b), (.vs 1 a0c a0cr), (.vs 7 a0d a0dr), (.int .i64 a0e), (.vs 2 a0f a0fr), (.str a0g)])) fun c1 =>
 joinK (fun (x3 : AV) (S_3 : St) =>
 Q (AV.strip x3) S_3) fun j =>
 loopQ ([(.int .i64 1), (.int .i64 0)], [(some c1)]) (fun v bx => ([v 3, v 4], [bx 1])) (fun nx v bx S =>
 optK (bx 1) fun _ =>
 optK (lloadA T_s_api_Node (bx 1) 3) fun t7 =>
 optK (lenSlA (AV.strip t7)) fun t8 =>
 optK (binA .lss (AV.strip (v 4)) t8) fun t9 =>
 ifK t9
 (optK (bx 1) fun _ =>
 optK (lloadA T_s_api_Node (bx 1) 3) fun t14 =>
 optK (idxSlA T_api_Node (AV.strip t14) (AV.strip (v 4))) fun t16 =>
 optK (loadA T_api_Node S t16) fun t17 =>
 callK Ca F_ref04_Count [(AV.strip t17)] S fun t18 S_2 =>
 optK (binA .add (AV.strip (v 3)) t18) fun t19 =>
 optK (binA .add (AV.strip (v 4)) (.int .i64 1)) fun t11 =>
 nx ([t19, t11], [(bx 1)]) S_2)
 (j (v 3) S)) S0
theorem ref04_Count_eq (Ca) (a0a : Int) (a0b : Bool) (a0c : List (List AV)) (a0cr : Rt) (a0d : List (List AV)) (a0dr : Rt) (a0e : Int) (a0f : List (List AV)) (a0fr : Rt) (a0g : List UInt8) (S0 Q) : WF C Ca 65 (Drw C Ca 65) Tryz.f65 [(.agg [(.int .i64 a0a), (.bool a0b), (.vs 1 a0c a0cr), (.vs 7 a0d a0dr), (.int .i64 a0e), (.vs 2 a0f a0fr), (.str a0g)])] S0 Q = G_ref04_Count Ca a0a a0b a0c a0cr a0d a0dr a0e a0f a0fr a0g S0 Q := by kernel_rfl
theorem ref04_Count_ok {w0 : World} {a0a : Int} {a0b : Bool} {a0c : List (List AV)} {a0cr : Rt} {a0d : List (List AV)} {a0dr : Rt} {a0e : Int} {a0f : List (List AV)} {a0fr : Rt} {a0g : List UInt8} {S0 : St} {Q : AV → St → Prop} (h : G_ref04_Count (ACalls (En w0)) a0a a0b a0c a0cr a0d a0dr a0e a0f a0fr a0g S0 Q) : AC w0 F_ref04_Count [(.agg [(.int .i64 a0a), (.bool a0b), (.vs 1 a0c a0cr), (.vs 7 a0d a0dr), (.int .i64 a0e), (.vs 2 a0f a0fr), (.str a0g)])] S0 Q := fn_ok w0 Tryz.func65 (by kernel_rfl) (by rw [ref04_Count_eq]; exact h)
def G_ref04_Depth (Ca : Nat → List AV → St → (AV → St → Prop) → Prop) (a0a : Int) (a0b : Bool) (a0c : List (List AV)) (a0cr : Rt) (a0d : List (List AV)) (a0dr : Rt) (a0e : Int) (a0f : List (List AV)) (a0fr : Rt) (a0g : List UInt8) (S0 : St) (Q : AV → St → Prop) : Prop :=
 optK (boxA T_api_Node (.agg [(.int .i64 a0a), (.bool a0b), (.vs 1 a0c a0cr), (.vs 7 a0d a0dr), (.int .i64 a0e), (.vs 2 a0f a0fr), (.str a0g)])) fun c1 =>
 joinK (fun (x3_2 : AV) (S_4 : St) =>
 Q (AV.strip x3_2) S_4) fun j_2 =>
 loopQ ([(.int .i64 0), (.int .i64 0)], [(some c1)]) (fun v bx => ([v 3, v 4], [bx 1])) (fun nx v bx S =>
 optK (bx 1) fun _ =>
 optK (lloadA T_s_api_Node (bx 1) 3) fun t8 =>
 optK (lenSlA (AV.strip t8)) fun t9 =>
 optK (binA .lss (AV.strip (v 4)) t9) fun t10 =>
 ifK t10
 (joinK (fun (x3 : AV) (S_3 : St) =>
 optK (binA .add (AV.strip (v 4)) (.int .i64 1)) fun t12 =>
 nx ([x3, t12], [(bx 1)]) S_3) fun j =>
 optK (bx 1) fun _ =>
 optK (lloadA T_s_api_Node (bx 1) 3) fun t14 =>
 optK (idxSlA T_api_Node (AV.strip t14) (AV.strip (v 4))) fun t16 =>
 optK (loadA T_api_Node S t16) fun t17 =>
 callK Ca F_ref04_Depth [(AV.strip t17)] S fun t18 S_2 =>
 optK (binA .add t18 (.int .i64 1)) fun t19 =>
 optK (binA .gtr (AV.strip t19) (AV.strip (v 3))) fun t22 =>
 ifK t22
 (j (AV.strip t19) S_2)
 (j (v 3) S_2))
 (j_2 (v 3) S)) S0
theorem ref04_Depth_eq (Ca) (a0a : Int) (a0b : Bool) (a0c : List (List AV)) (a0cr : Rt) (a0d : List (List AV)) (a0dr : Rt) (a0e : Int) (a0f : List (List AV)) (a0fr : Rt) (a0g : List UInt8) (S0 Q) : WF C Ca 66 (Drw C Ca 66) Tryz.f66 [(.agg [(.int .i64 a0a), (.bool a0b), (.vs 1 a0c a0cr), (.vs 7 a0d a0dr), (.int .i64 a0e), (.vs 2 a0f a0fr), (.str a0g)])] S0 Q = G_ref04_Depth Ca a0a a0b a0c a0cr a0d a0dr a0e a0f a0fr a0g S0 Q := by kernel_rfl
theorem ref04_Depth_ok {w0 : World} {a0a : Int} {a0b : Bool} {a0c : List (List AV)} {a0cr : Rt} {a0d : List (List AV)} {a0dr : Rt} {a0e : Int} {a0f : List (List AV)} {a0fr : Rt} {a0g : List UInt8} {S0 : St} {Q : AV → St → Prop} (h : G_ref04_Depth (ACalls (En w0)) a0a a0b a0c a0cr a0d a0dr a0e a0f a0fr a0g S0 Q) : AC w0 F_ref04_Depth [(.agg [(.int .i64 a0a), (.bool a0b), (.vs 1 a0c a0cr), (.vs 7 a0d a0dr), (.int .i64 a0e), (.vs 2 a0f a0fr), (.str a0g)])] S0 Q := fn_ok w0 Tryz.func66 (by kernel_rfl) (by rw [ref04_Depth_eq]; exact h)
def G_name_Split (Ca : Nat → List AV → St → (AV → St → Prop) → Prop) (a0 : List UInt8) (S0 : St) (Q : AV → St → Prop) : Prop :=
 joinK (fun (x12 : AV) =>
 optK (pickA (.bool (a0 == [])) (.bool true) x12) fun t13 =>
 ifK (AV.strip t13)
 (Q (.tup [(.vs 1 [] .nil), (.bool false), (.int .i64 1)]) S0)
 (joinK (fun (x2_2 : AV) (S_6 : St) =>
 optK (charA (.str a0) (.int .i64 0)) fun t42 =>
 optK (binA .eql t42 (.int .u8 47)) fun t43 =>
 Q (.tup [(AV.flat x2_2), (AV.flat t43), (.int .i64 0)]) S_6) fun j_5 =>
 Ca F_strings_Split [(.str a0), (.str [47])] S0 fun t15 S =>
 optK (lenSlA t15) fun t16 =>
 loopQ ([(.vs 1 [] .nil), (.int .i64 0)], []) (fun v bx => ([v 2, v 17], [])) (fun nx v bx S_2 =>
 optK (binA .lss (v 17) t16) fun t18 =>
 ifK t18
 (joinK (fun (x2 : AV) (S_5 : St) =>
 optK (binA .add (v 17) (.int .i64 1)) fun t39 =>
 nx ([x2, (AV.strip t39)], []) S_5) fun j_4 =>
 optK (idxSlA T_string t15 (v 17)) fun t19 =>
 optK (loadA T_string S_2 t19) fun t20 =>
 optK (binA .eql (AV.strip (AV.strip t20)) (.str [])) fun t23 =>
 joinK (fun (x26 : AV) =>
 optK (pickA (AV.strip t23) (.bool true) x26) fun t27 =>
 ifK (AV.strip t27)
 (j_4 (v 2) S_2)
 (optK (binA .eql (AV.strip (AV.strip t20)) (.str [46, 46])) fun t30 =>
 joinK (fun (x33 : AV) (S_4 : St) =>
 optK (pickA (AV.strip t30) (.bool true) x33) fun t34 =>
 ifK (AV.strip t34)
 (optK (elemVals 1 [(AV.strip (AV.strip t20))]) fun e37 =>
 optK (appendA T_string S_4 (v 2) (.vs 1 e37 .full)) fun t38 =>
 j_4 t38 S_4)
 (Q (.tup [(.vs 1 [] .nil), (.bool false), (.int .i64 1)]) S_4)) fun j_2 =>
 ifK (AV.strip t30)
 (j_2 (.tup []) S_2)
 (callK Ca F_name_Right [(AV.strip (AV.strip t20))] S_2 fun t33 S_3 =>
 j_2 t33 S_3))) fun j_3 =>
 ifK (AV.strip t23)
 (j_3 (.tup []))
 (optK (binA .eql (AV.strip (AV.strip t20)) (.str [46])) fun t26 =>
 j_3 t26))
 (j_5 (v 2) S_2)) S)) fun j =>
 ifK (.bool (a0 == []))
 (j (.tup []))
 (j (.bool (decide ((List.length a0 : Int) > 1024))))
theorem name_Split_eq (Ca) (a0 : List UInt8) (S0 Q) : WF C Ca 67 (Drw C Ca 67) Tryz.f67 [(.str a0)] S0 Q = G_name_Split Ca a0 S0 Q := by kernel_rfl
theorem name_Split_ok {w0 : World} {a0 : List UInt8} {S0 : St} {Q : AV → St → Prop} (h : G_name_Split (ACalls (En w0)) a0 S0 Q) : AC w0 F_name_Split [(.str a0)] S0 Q := fn_ok w0 Tryz.func67 (by kernel_rfl) (by rw [name_Split_eq]; exact h)
def G_branch_Branch_Opaque (Ca : Nat → List AV → St → (AV → St → Prop) → Prop) (a0 : Nat) (a0o : Nat) (a1 : Int) (S0 : St) (Q : AV → St → Prop) : Prop :=
 Ca F_branch_Branch_at [(.ptr a0 a0o), (.int .i64 a1)] S0 fun t7 S =>
 optK (partA T_api_Node t7 0) fun t8 =>
 optK (partA T_bool (AV.strip t8) 1) fun t9 =>
 Q (AV.strip t9) S
theorem branch_Branch_Opaque_eq (Ca) (a0 : Nat) (a0o : Nat) (a1 : Int) (S0 Q) : WF C Ca 68 (Drw C Ca 68) Tryz.f68 [(.ptr a0 a0o), (.int .i64 a1)] S0 Q = G_branch_Branch_Opaque Ca a0 a0o a1 S0 Q := by kernel_rfl
theorem branch_Branch_Opaque_ok {w0 : World} {a0 : Nat} {a0o : Nat} {a1 : Int} {S0 : St} {Q : AV → St → Prop} (h : G_branch_Branch_Opaque (ACalls (En w0)) a0 a0o a1 S0 Q) : AC w0 F_branch_Branch_Opaque [(.ptr a0 a0o), (.int .i64 a1)] S0 Q := fn_ok w0 Tryz.func68 (by kernel_rfl) (by rw [branch_Branch_Opaque_eq]; exact h)
def G_walk_Walker_at (Ca : Nat → List AV → St → (AV → St → Prop) → Prop) (a0 : Nat) (a0o : Nat) (S0 : St) (Q : AV → St → Prop) : Prop :=
 optK (loadA T_s_walk_dir S0 (.ptr a0 (a0o + 1))) fun t6 =>
 optK (loadA T_s_walk_dir S0 (.ptr a0 (a0o + 1))) fun t10 =>
 optK (lenSlA (AV.strip t10)) fun t11 =>
 optK (binA .sub t11 (.int .i64 1)) fun t12 =>
 optK (idxSlA T_walk_dir (AV.strip t6) t12) fun t13 =>
 optK (loadA T_walk_dir S0 t13) fun t14 =>
 optK (lstoreA T_walk_dir (some [(.str []), (.vs 2 [] .nil)]) 0 (AV.strip t14)) fun b2 =>
 optK ((lloadA T_walk_dir (some b2) 0).map AV.strip) fun r2 =>
 Q r2 S0
theorem walk_Walker_at_eq (Ca) (a0 : Nat) (a0o : Nat) (S0 Q) : WF C Ca 69 (Drw C Ca 69) Tryz.f69 [(.ptr a0 a0o)] S0 Q = G_walk_Walker_at Ca a0 a0o S0 Q := by kernel_rfl
theorem walk_Walker_at_ok {w0 : World} {a0 : Nat} {a0o : Nat} {S0 : St} {Q : AV → St → Prop} (h : G_walk_Walker_at (ACalls (En w0)) a0 a0o S0 Q) : AC w0 F_walk_Walker_at [(.ptr a0 a0o)] S0 Q := fn_ok w0 Tryz.func69 (by kernel_rfl) (by rw [walk_Walker_at_eq]; exact h)
def G_branch_Branch_Look (Ca : Nat → List AV → St → (AV → St → Prop) → Prop) (a0 : Nat) (a0o : Nat) (a1 : Int) (a2 : List UInt8) (S0 : St) (Q : AV → St → Prop) : Prop :=
 Ca F_branch_Branch_at [(.ptr a0 a0o), (.int .i64 a1)] S0 fun t13 S =>
 optK (lstoreA T_branch_inode (some [(.int .i64 0), (.bool false), (.vs 1 [] .nil), (.vs 7 [] .nil), (.int .i64 0), (.vs 2 [] .nil), (.str []), (.vs 1 [] .nil)]) 0 t13) fun b8 =>
 optK (some b8) fun _ =>
 optK (some b8) fun _ =>
 optK (lloadA T_s_string (some b8) 2) fun t17 =>
 callK Ca F_slices_BinarySearch_s_string_string [(AV.strip t17), (.str a2)] S fun t19 S_2 =>
 optK (extractA t19 0) fun t20 =>
 optK (extractA (stripTup t19 0) 1) fun t21 =>
 optK (unA .not (AV.strip t21)) fun t23 =>
 ifK t23
 (Q (.tup [(.int .i64 0), (.bool false)]) S_2)
 (optK (some b8) fun _ =>
 optK (lloadA T_s_int (some b8) 7) fun t25 =>
 optK (idxSlA T_int (AV.strip t25) (AV.strip t20)) fun t27 =>
 optK (loadA T_int S_2 t27) fun t28 =>
 Q (.tup [(AV.flat (AV.strip t28)), (.bool true)]) S_2)
theorem branch_Branch_Look_eq (Ca) (a0 : Nat) (a0o : Nat) (a1 : Int) (a2 : List UInt8) (S0 Q) : WF C Ca 70 (Drw C Ca 70) Tryz.f70 [(.ptr a0 a0o), (.int .i64 a1), (.str a2)] S0 Q = G_branch_Branch_Look Ca a0 a0o a1 a2 S0 Q := by kernel_rfl
theorem branch_Branch_Look_ok {w0 : World} {a0 : Nat} {a0o : Nat} {a1 : Int} {a2 : List UInt8} {S0 : St} {Q : AV → St → Prop} (h : G_branch_Branch_Look (ACalls (En w0)) a0 a0o a1 a2 S0 Q) : AC w0 F_branch_Branch_Look [(.ptr a0 a0o), (.int .i64 a1), (.str a2)] S0 Q := fn_ok w0 Tryz.func70 (by kernel_rfl) (by rw [branch_Branch_Look_eq]; exact h)
def G_branch_Branch_Kind (Ca : Nat → List AV → St → (AV → St → Prop) → Prop) (a0 : Nat) (a0o : Nat) (a1 : Int) (S0 : St) (Q : AV → St → Prop) : Prop :=
 Ca F_branch_Branch_at [(.ptr a0 a0o), (.int .i64 a1)] S0 fun t7 S =>
 optK (partA T_api_Node t7 0) fun t8 =>
 optK (partA T_int (AV.strip t8) 0) fun t9 =>
 Q (AV.strip t9) S
theorem branch_Branch_Kind_eq (Ca) (a0 : Nat) (a0o : Nat) (a1 : Int) (S0 Q) : WF C Ca 71 (Drw C Ca 71) Tryz.f71 [(.ptr a0 a0o), (.int .i64 a1)] S0 Q = G_branch_Branch_Kind Ca a0 a0o a1 S0 Q := by kernel_rfl
theorem branch_Branch_Kind_ok {w0 : World} {a0 : Nat} {a0o : Nat} {a1 : Int} {S0 : St} {Q : AV → St → Prop} (h : G_branch_Branch_Kind (ACalls (En w0)) a0 a0o a1 S0 Q) : AC w0 F_branch_Branch_Kind [(.ptr a0 a0o), (.int .i64 a1)] S0 Q := fn_ok w0 Tryz.func71 (by kernel_rfl) (by rw [branch_Branch_Kind_eq]; exact h)
def G_branch_Branch_at (Ca : Nat → List AV → St → (AV → St → Prop) → Prop) (a0 : Nat) (a0o : Nat) (a1 : Int) (S0 : St) (Q : AV → St → Prop) : Prop :=
 joinK (fun (x14 : AV) =>
 optK (pickA (.bool (decide (a1 < 0))) (.bool true) x14) fun t15 =>
 ifK (AV.strip t15)
 (Q (.agg [(.int .i64 0), (.bool false), (.vs 1 [] .nil), (.vs 7 [] .nil), (.int .i64 0), (.vs 2 [] .nil), (.str []), (.vs 1 [] .nil)]) S0)
 (optK (loadA T_s_branch_inode S0 (.ptr a0 (a0o + 0))) fun t20 =>
 optK (idxSlA T_branch_inode (AV.strip t20) (.int .i64 a1)) fun t22 =>
 optK (loadA T_branch_inode S0 t22) fun t23 =>
 optK (lstoreA T_branch_inode (some [(.int .i64 0), (.bool false), (.vs 1 [] .nil), (.vs 7 [] .nil), (.int .i64 0), (.vs 2 [] .nil), (.str []), (.vs 1 [] .nil)]) 0 (AV.strip t23)) fun b4 =>
 optK ((lloadA T_branch_inode (some b4) 0).map AV.strip) fun r4 =>
 Q r4 S0)) fun j =>
 ifK (.bool (decide (a1 < 0)))
 (j (.tup []))
 (optK (loadA T_s_branch_inode S0 (.ptr a0 (a0o + 0))) fun t12 =>
 optK (lenSlA (AV.strip t12)) fun t13 =>
 optK (binA .geq (.int .i64 a1) t13) fun t14 =>
 j t14)
theorem branch_Branch_at_eq (Ca) (a0 : Nat) (a0o : Nat) (a1 : Int) (S0 Q) : WF C Ca 72 (Drw C Ca 72) Tryz.f72 [(.ptr a0 a0o), (.int .i64 a1)] S0 Q = G_branch_Branch_at Ca a0 a0o a1 S0 Q := by kernel_rfl
theorem branch_Branch_at_ok {w0 : World} {a0 : Nat} {a0o : Nat} {a1 : Int} {S0 : St} {Q : AV → St → Prop} (h : G_branch_Branch_at (ACalls (En w0)) a0 a0o a1 S0 Q) : AC w0 F_branch_Branch_at [(.ptr a0 a0o), (.int .i64 a1)] S0 Q := fn_ok w0 Tryz.func72 (by kernel_rfl) (by rw [branch_Branch_at_eq]; exact h)
def G_walk_Walker_link (Ca : Nat → List AV → St → (AV → St → Prop) → Prop) (a0 : Nat) (a0o : Nat) (a1 : List UInt8) (S0 : St) (Q : AV → St → Prop) : Prop :=
 optK (loadA T_int S0 (.ptr a0 (a0o + 3))) fun t11 =>
 optK (binA .add (AV.strip t11) (.int .i64 1)) fun t12 =>
 optK (storeA T_int S0 (.ptr a0 (a0o + 3)) t12) fun S =>
 optK (loadA T_int S (.ptr a0 (a0o + 3))) fun t18 =>
 optK (binA .gtr (AV.strip t18) (.int .i64 40)) fun t19 =>
 ifK t19
 (Q (.int .i64 4) S)
 (Ca F_name_Split [(.str a1)] S fun t22 S_2 =>
 optK (extractA t22 0) fun t23 =>
 optK (extractA (stripTup t22 0) 1) fun t24 =>
 optK (extractA (stripTup (stripTup t22 0) 1) 2) fun t25 =>
 optK (binA .neq (AV.strip t25) (.int .i64 0)) fun t27 =>
 ifK t27
 (Q (AV.strip t25) S_2)
 (joinK (fun (S_4 : St) =>
 optK (loadA T_s_string S_4 (.ptr a0 (a0o + 0))) fun t43 =>
 optK (appendA T_string S_4 t23 (AV.strip t43)) fun t44 =>
 optK (storeA T_s_string S_4 (.ptr a0 (a0o + 0)) t44) fun S_5 =>
 Q (.int .i64 0) S_5) fun j =>
 ifK (AV.strip t24)
 (optK (loadA T_s_walk_dir S_2 (.ptr a0 (a0o + 1))) fun t34 =>
 optK (cutA T_walk_dir (AV.strip0 t34) none (some (.int .i64 1)) none) fun t35 =>
 optK (storeA T_s_walk_dir (stripMem S_2 (.ptr a0 (a0o + 1))) (.ptr a0 (a0o + 1)) t35) fun S_3 =>
 j S_3)
 (j S_2)))
theorem walk_Walker_link_eq (Ca) (a0 : Nat) (a0o : Nat) (a1 : List UInt8) (S0 Q) : WF C Ca 73 (Drw C Ca 73) Tryz.f73 [(.ptr a0 a0o), (.str a1)] S0 Q = G_walk_Walker_link Ca a0 a0o a1 S0 Q := by kernel_rfl
theorem walk_Walker_link_ok {w0 : World} {a0 : Nat} {a0o : Nat} {a1 : List UInt8} {S0 : St} {Q : AV → St → Prop} (h : G_walk_Walker_link (ACalls (En w0)) a0 a0o a1 S0 Q) : AC w0 F_walk_Walker_link [(.ptr a0 a0o), (.str a1)] S0 Q := fn_ok w0 Tryz.func73 (by kernel_rfl) (by rw [walk_Walker_link_eq]; exact h)
def G_name_Child (Ca : Nat → List AV → St → (AV → St → Prop) → Prop) (a0 : List UInt8) (a1 : List UInt8) (S0 : St) (Q : AV → St → Prop) : Prop :=
 ifK (.bool (a0 == [47]))
 (optK (binA .add (.str a0) (.str a1)) fun t9 =>
 Q t9 S0)
 (optK (binA .add (.str a0) (.str [47])) fun t11 =>
 optK (binA .add t11 (.str a1)) fun t13 =>
 Q t13 S0)
theorem name_Child_eq (Ca) (a0 : List UInt8) (a1 : List UInt8) (S0 Q) : WF C Ca 74 (Drw C Ca 74) Tryz.f74 [(.str a0), (.str a1)] S0 Q = G_name_Child Ca a0 a1 S0 Q := by kernel_rfl
theorem name_Child_ok {w0 : World} {a0 : List UInt8} {a1 : List UInt8} {S0 : St} {Q : AV → St → Prop} (h : G_name_Child (ACalls (En w0)) a0 a1 S0 Q) : AC w0 F_name_Child [(.str a0), (.str a1)] S0 Q := fn_ok w0 Tryz.func74 (by kernel_rfl) (by rw [name_Child_eq]; exact h)
def G_ref01_Split (Ca : Nat → List AV → St → (AV → St → Prop) → Prop) (a0 : List UInt8) (S0 : St) (Q : AV → St → Prop) : Prop :=
 joinK (fun (x14 : AV) =>
 optK (pickA (.bool (decide ((List.length a0 : Int) < 1))) (.bool true) x14) fun t15 =>
 ifK (AV.strip t15)
 (Q (.tup [(.vs 1 [] .nil), (.bool false)]) S0)
 (joinK (fun (x4_2 : AV) (S_5 : St) =>
 Q (.tup [(AV.flat (AV.strip x4_2)), (.bool true)]) S_5) fun j_6 =>
 loopQ ([(.str a0), (.vs 1 [] .full), (.int .i64 0), (.int .i64 0)], []) (fun v bx => ([v 0, v 4, v 5, v 6], [])) (fun nx v bx S =>
 optK (lenStrA (AV.strip (v 0))) fun t19 =>
 optK (binA .leq (AV.strip (v 6)) t19) fun t20 =>
 ifK t20
 (joinK (fun (x0 : AV) (x4 : AV) (x5 : AV) (S_4 : St) =>
 optK (binA .add (AV.strip (v 6)) (.int .i64 1)) fun t22 =>
 nx ([x0, x4, x5, t22], []) S_4) fun j_5 =>
 optK (lenStrA (AV.strip (v 0))) fun t25 =>
 optK (binA .lss (AV.strip (v 6)) t25) fun t26 =>
 joinK (fun (x31 : AV) =>
 optK (pickA (AV.strip t26) x31 (.bool false)) fun t32 =>
 ifK (AV.strip t32)
 (j_5 (v 0) (v 4) (v 5) S)
 (optK (cutStrA (v 0) (some (AV.strip (v 5))) (some (AV.strip (v 6)))) fun t36 =>
 optK (binA .add (AV.strip (v 6)) (.int .i64 1)) fun t38 =>
 optK (binA .eql (AV.strip t36) (.str [])) fun t40 =>
 joinK (fun (x43 : AV) =>
 optK (pickA (AV.strip t40) (.bool true) x43) fun t44 =>
 ifK (AV.strip t44)
 (j_5 (AV.strip (v 0)) (v 4) t38 S)
 (optK (binA .neq (AV.strip t36) (.str [46, 46])) fun t46 =>
 joinK (fun (x50 : AV) (S_3 : St) =>
 optK (pickA (AV.strip t46) x50 (.bool false)) fun t51 =>
 ifK (AV.strip t51)
 (Q (.tup [(.vs 1 [] .nil), (.bool false)]) S_3)
 (optK (elemVals 1 [(AV.strip t36)]) fun e54 =>
 optK (appendA T_string S_3 (v 4) (.vs 1 e54 .full)) fun t55 =>
 j_5 (AV.strip (v 0)) t55 t38 S_3)) fun j_4 =>
 ifK (AV.strip t46)
 (callK Ca F_ref01_Right [(AV.strip t36)] S fun t49 S_2 =>
 optK (unA .not t49) fun t50 =>
 j_4 t50 S_2)
 (j_4 (.tup []) S))) fun j_3 =>
 ifK (AV.strip t40)
 (j_3 (.tup []))
 (optK (binA .eql (AV.strip t36) (.str [46])) fun t43 =>
 j_3 t43))) fun j_2 =>
 ifK (AV.strip t26)
 (optK (charA (AV.strip (v 0)) (AV.strip (v 6))) fun t30 =>
 optK (binA .neq t30 (.int .u8 47)) fun t31 =>
 j_2 t31)
 (j_2 (.tup [])))
 (j_6 (v 4) S)) S0)) fun j =>
 ifK (.bool (decide ((List.length a0 : Int) < 1)))
 (j (.tup []))
 (j (.bool (decide ((List.length a0 : Int) > 1024))))
theorem ref01_Split_eq (Ca) (a0 : List UInt8) (S0 Q) : WF C Ca 75 (Drw C Ca 75) Tryz.f75 [(.str a0)] S0 Q = G_ref01_Split Ca a0 S0 Q := by kernel_rfl
theorem ref01_Split_ok {w0 : World} {a0 : List UInt8} {S0 : St} {Q : AV → St → Prop} (h : G_ref01_Split (ACalls (En w0)) a0 S0 Q) : AC w0 F_ref01_Split [(.str a0)] S0 Q := fn_ok w0 Tryz.func75 (by kernel_rfl) (by rw [ref01_Split_eq]; exact h)
def G_extent_Read (Ca : Nat → List AV → St → (AV → St → Prop) → Prop) (a0 : Int) (a1 : List (List AV)) (a1r : Rt) (a2 : Int) (a3 : Int) (S0 : St) (Q : AV → St → Prop) : Prop :=
 joinK (fun (x19 : AV) =>
 optK (pickA (.bool (decide (a2 < 0))) (.bool true) x19) fun t20 =>
 joinK (fun (x23 : AV) =>
 optK (pickA (AV.strip (AV.strip t20)) (.bool true) x23) fun t24 =>
 ifK (AV.strip t24)
 (Q (.str []) S0)
 (joinK (fun (S_8 : St) =>
 Ca F_strings_Builder_Len [(.ptr S0.length 0)] S_8 fun t76 S_9 =>
 optK (binA .sub (.int .i64 (if (IntKind.i64.wrap (a0 - a2)) < a3 then (IntKind.i64.wrap (a0 - a2)) else a3)) t76) fun t77 =>
 callK Ca F_strings_Repeat [(.str [0]), t77] S_9 fun t78 S_10 =>
 callK Ca F_strings_Builder_WriteString [(.ptr S0.length 0), t78] S_10 fun t79 S_11 =>
 Ca F_strings_Builder_String [(.ptr S0.length 0)] S_11 fun t80 S_12 =>
 Q t80 S_12) fun j_4 =>
 loopQ ([(.int .i64 0)], []) (fun v bx => ([v 32], [])) (fun nx v bx S =>
 optK (binA .lss (v 32) (.int .i64 (List.length a1 : Int))) fun t33 =>
 ifK t33
 (joinK (fun (S_7 : St) =>
 optK (binA .add (v 32) (.int .i64 1)) fun t74 =>
 nx ([(AV.strip t74)], []) S_7) fun j_3 =>
 optK (idxSlA T_api_Extent (.vs 2 a1 (Rt.strip a1r)) (v 32)) fun t34 =>
 optK (loadA T_api_Extent S t34) fun t35 =>
 optK (lstoreA T_api_Extent (some [(.int .i64 0), (.str [])]) 0 (AV.strip t35)) fun b11 =>
 optK (some b11) fun _ =>
 optK (lloadA T_int (some b11) 0) fun t37 =>
 optK (some b11) fun _ =>
 optK (lloadA T_int (some b11) 0) fun t43 =>
 optK (some b11) fun _ =>
 optK (lloadA T_string (some b11) 1) fun t45 =>
 optK (lenStrA (AV.strip t45)) fun t46 =>
 optK (binA .add (AV.strip t43) t46) fun t47 =>
 optK (minA [t47, (.int .i64 (IntKind.i64.wrap (a2 + (if (IntKind.i64.wrap (a0 - a2)) < a3 then (IntKind.i64.wrap (a0 - a2)) else a3))))]) fun t51 =>
 Ca F_strings_Builder_Len [(.ptr S0.length 0)] S fun t39 S_2 =>
 optK (binA .add (.int .i64 a2) t39) fun t40 =>
 optK (maxA [(AV.strip t37), t40]) fun t41 =>
 optK (binA .geq (AV.strip t41) (AV.strip t51)) fun t54 =>
 ifK t54
 (j_3 S_2)
 (optK (binA .sub (AV.strip t41) (.int .i64 a2)) fun t57 =>
 Ca F_strings_Builder_Len [(.ptr S0.length 0)] S_2 fun t58 S_3 =>
 optK (binA .sub t57 t58) fun t59 =>
 callK Ca F_strings_Repeat [(.str [0]), t59] S_3 fun t60 S_4 =>
 callK Ca F_strings_Builder_WriteString [(.ptr S0.length 0), t60] S_4 fun t61 S_5 =>
 optK (some b11) fun _ =>
 optK (lloadA T_string (some b11) 1) fun t63 =>
 optK (stripBox (some b11) 1) fun _ =>
 optK (lloadA T_int (stripBox (some b11) 1) 0) fun t66 =>
 optK (binA .sub (AV.strip t41) (AV.strip t66)) fun t67 =>
 optK (stripBox (some b11) 1) fun _ =>
 optK (lloadA T_int (stripBox (some b11) 1) 0) fun t70 =>
 optK (binA .sub (AV.strip t51) (AV.strip t70)) fun t71 =>
 optK (cutStrA (AV.strip0 t63) (some t67) (some t71)) fun t72 =>
 callK Ca F_strings_Builder_WriteString [(.ptr S0.length 0), t72] S_5 fun t73 S_6 =>
 j_3 S_6))
 (j_4 S)) (S0 ++ [.cells T_strings_Builder.zero t_strings_Builder]))) fun j =>
 ifK (AV.strip (AV.strip t20))
 (j (.tup []))
 (j (.bool (decide (a3 < 1))))) fun j_2 =>
 ifK (.bool (decide (a2 < 0)))
 (j_2 (.tup []))
 (j_2 (.bool (decide (a2 ≥ a0))))
theorem extent_Read_eq (Ca) (a0 : Int) (a1 : List (List AV)) (a1r : Rt) (a2 : Int) (a3 : Int) (S0 Q) : WF C Ca 79 (Drw C Ca 79) Tryz.f79 [(.int .i64 a0), (.vs 2 a1 a1r), (.int .i64 a2), (.int .i64 a3)] S0 Q = G_extent_Read Ca a0 a1 a1r a2 a3 S0 Q := by kernel_rfl
theorem extent_Read_ok {w0 : World} {a0 : Int} {a1 : List (List AV)} {a1r : Rt} {a2 : Int} {a3 : Int} {S0 : St} {Q : AV → St → Prop} (h : G_extent_Read (ACalls (En w0)) a0 a1 a1r a2 a3 S0 Q) : AC w0 F_extent_Read [(.int .i64 a0), (.vs 2 a1 a1r), (.int .i64 a2), (.int .i64 a3)] S0 Q := fn_ok w0 Tryz.func79 (by kernel_rfl) (by rw [extent_Read_eq]; exact h)
end Go.Av
