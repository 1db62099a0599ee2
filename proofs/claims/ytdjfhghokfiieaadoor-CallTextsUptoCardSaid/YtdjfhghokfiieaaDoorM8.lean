/- Parts of the proofs of this seat: abstract values over the model, and what the functions of the program do. No condition. -/
import Derived.Test.YtdjfhghokfiieaaDoorM7
import Derived.Test.YtdjfhghokfiieaaDoorM6
import Derived.Test.YtdjfhghokfiieaaDoorProg
import Derived.KernelRfl
set_option linter.all false
set_option linter.unusedVariables false
set_option maxRecDepth 100000
namespace Go.Av
open Go.Proofs
abbrev t_int : Nat := 3
abbrev t_uint8 : Nat := 5
abbrev t_string : Nat := 9
abbrev t_api_Op : Nat := 24
abbrev t_s_string : Nat := 38
abbrev t_api_Result : Nat := 40
abbrev t_strings_Builder : Nat := 73
abbrev F_law19_CallParses : Nat := 3
abbrev F_law19_CallWords : Nat := 4
abbrev F_law19_CallShows : Nat := 5
abbrev F_law19_CallTexts : Nat := 6
abbrev F_law19_speaks : Nat := 9
abbrev F_call_Parse : Nat := 10
abbrev F_ref19_Only : Nat := 11
abbrev F_ref19_Text : Nat := 12
abbrev F_call_Bytes : Nat := 13
abbrev F_call_Hex : Nat := 14
abbrev F_call_Number : Nat := 15
abbrev F_ref19_Num : Nat := 16
abbrev F_ref19_Hex : Nat := 17
abbrev F_call_Show : Nat := 18
abbrev F_ref19_Show : Nat := 19
abbrev F_call_Text : Nat := 20
abbrev F_call_Right : Nat := 21
abbrev F_strings_Cut : Nat := 32
abbrev F_strings_Contains : Nat := 33
abbrev F_call_names : Nat := 34
abbrev F_call_numbers : Nat := 35
abbrev F_ref19_Name : Nat := 36
abbrev F_strings_IndexByte : Nat := 37
abbrev F_strings_Builder_WriteByte : Nat := 38
abbrev F_strings_Builder_String : Nat := 39
abbrev F_strconv_Atoi : Nat := 40
abbrev F_strconv_Itoa : Nat := 41
abbrev F_ref19_digit : Nat := 42
abbrev F_strings_SplitN : Nat := 51
abbrev F_strings_Builder_copyCheck : Nat := 53
def T_func : TI := { size := 1, bytes := 8, agg := false, zero := [.nilfn], kind := .func, id := 1 }
@[simp] theorem T_func_size : T_func.size = 1 := rfl
@[simp] theorem T_func_s : T_func.agg = false ∧ T_func.zero = [.nilfn] ∧ T_func.kind = .func := ⟨rfl, rfl, rfl⟩
def T_int64 : TI := { size := 1, bytes := 8, agg := false, zero := [.int .i64 0], kind := .int .i64, id := 2 }
@[simp] theorem T_int64_size : T_int64.size = 1 := rfl
@[simp] theorem T_int64_s : T_int64.agg = false ∧ T_int64.zero = [.int .i64 0] ∧ T_int64.kind = .int .i64 := ⟨rfl, rfl, rfl⟩
def T_int : TI := { size := 1, bytes := 8, agg := false, zero := [.int .i64 0], kind := .int .i64, id := 3 }
@[simp] theorem T_int_size : T_int.size = 1 := rfl
@[simp] theorem T_int_s : T_int.agg = false ∧ T_int.zero = [.int .i64 0] ∧ T_int.kind = .int .i64 := ⟨rfl, rfl, rfl⟩
@[simp] theorem T_int_id : T_int.id = t_int := rfl
def T_bool : TI := { size := 1, bytes := 1, agg := false, zero := [.bool false], kind := .bool, id := 4 }
@[simp] theorem T_bool_size : T_bool.size = 1 := rfl
@[simp] theorem T_bool_s : T_bool.agg = false ∧ T_bool.zero = [.bool false] ∧ T_bool.kind = .bool := ⟨rfl, rfl, rfl⟩
def T_uint8 : TI := { size := 1, bytes := 1, agg := false, zero := [.int .u8 0], kind := .int .u8, id := 5 }
@[simp] theorem T_uint8_size : T_uint8.size = 1 := rfl
@[simp] theorem T_uint8_s : T_uint8.agg = false ∧ T_uint8.zero = [.int .u8 0] ∧ T_uint8.kind = .int .u8 := ⟨rfl, rfl, rfl⟩
@[simp] theorem T_uint8_id : T_uint8.id = t_uint8 := rfl
def T_abi_BoundsErrorCode : TI := { size := 1, bytes := 1, agg := false, zero := [.int .u8 0], kind := .int .u8, id := 6 }
@[simp] theorem T_abi_BoundsErrorCode_size : T_abi_BoundsErrorCode.size = 1 := rfl
@[simp] theorem T_abi_BoundsErrorCode_s : T_abi_BoundsErrorCode.agg = false ∧ T_abi_BoundsErrorCode.zero = [.int .u8 0] ∧ T_abi_BoundsErrorCode.kind = .int .u8 := ⟨rfl, rfl, rfl⟩
def T_struct_x_int64_y_int_signed_bool_code_abi_BoundsErrorCode : TI := { size := 4, bytes := 24, agg := true, zero := [.int .i64 0, .int .i64 0, .bool false, .int .u8 0], kind := .struct [(0, 2, 1), (1, 3, 1), (2, 4, 1), (3, 6, 1)], id := 7 }
@[simp] theorem T_struct_x_int64_y_int_signed_bool_code_abi_BoundsErrorCode_size : T_struct_x_int64_y_int_signed_bool_code_abi_BoundsErrorCode.size = 4 := rfl
@[simp] theorem T_struct_x_int64_y_int_signed_bool_code_abi_BoundsErrorCode_s : T_struct_x_int64_y_int_signed_bool_code_abi_BoundsErrorCode.agg = true ∧ T_struct_x_int64_y_int_signed_bool_code_abi_BoundsErrorCode.zero = [.int .i64 0, .int .i64 0, .bool false, .int .u8 0] ∧ T_struct_x_int64_y_int_signed_bool_code_abi_BoundsErrorCode.kind = .struct [(0, 2, 1), (1, 3, 1), (2, 4, 1), (3, 6, 1)] := ⟨rfl, rfl, rfl⟩
def T_runtime_boundsError : TI := { size := 4, bytes := 24, agg := true, zero := [.int .i64 0, .int .i64 0, .bool false, .int .u8 0], kind := .struct [(0, 2, 1), (1, 3, 1), (2, 4, 1), (3, 6, 1)], id := 8 }
@[simp] theorem T_runtime_boundsError_size : T_runtime_boundsError.size = 4 := rfl
@[simp] theorem T_runtime_boundsError_s : T_runtime_boundsError.agg = true ∧ T_runtime_boundsError.zero = [.int .i64 0, .int .i64 0, .bool false, .int .u8 0] ∧ T_runtime_boundsError.kind = .struct [(0, 2, 1), (1, 3, 1), (2, 4, 1), (3, 6, 1)] := ⟨rfl, rfl, rfl⟩
def T_string : TI := { size := 1, bytes := 16, agg := false, zero := [.str []], kind := .str, id := 9 }
@[simp] theorem T_string_size : T_string.size = 1 := rfl
@[simp] theorem T_string_s : T_string.agg = false ∧ T_string.zero = [.str []] ∧ T_string.kind = .str := ⟨rfl, rfl, rfl⟩
@[simp] theorem T_string_id : T_string.id = t_string := rfl
def T_runtime_errorString : TI := { size := 1, bytes := 16, agg := false, zero := [.str []], kind := .str, id := 10 }
@[simp] theorem T_runtime_errorString_size : T_runtime_errorString.size = 1 := rfl
@[simp] theorem T_runtime_errorString_s : T_runtime_errorString.agg = false ∧ T_runtime_errorString.zero = [.str []] ∧ T_runtime_errorString.kind = .str := ⟨rfl, rfl, rfl⟩
def T_uintptr : TI := { size := 1, bytes := 8, agg := false, zero := [.int .u64 0], kind := .int .u64, id := 12 }
@[simp] theorem T_uintptr_size : T_uintptr.size = 1 := rfl
@[simp] theorem T_uintptr_s : T_uintptr.agg = false ∧ T_uintptr.zero = [.int .u64 0] ∧ T_uintptr.kind = .int .u64 := ⟨rfl, rfl, rfl⟩
def T_p_runtime_PanicNilError : TI := { size := 1, bytes := 8, agg := false, zero := [.nil], kind := .ptr 144, id := 16 }
@[simp] theorem T_p_runtime_PanicNilError_size : T_p_runtime_PanicNilError.size = 1 := rfl
@[simp] theorem T_p_runtime_PanicNilError_s : T_p_runtime_PanicNilError.agg = false ∧ T_p_runtime_PanicNilError.zero = [.nil] ∧ T_p_runtime_PanicNilError.kind = .ptr 144 := ⟨rfl, rfl, rfl⟩
def T_p_abi_Type : TI := { size := 1, bytes := 8, agg := false, zero := [.nil], kind := .ptr 152, id := 17 }
@[simp] theorem T_p_abi_Type_size : T_p_abi_Type.size = 1 := rfl
@[simp] theorem T_p_abi_Type_s : T_p_abi_Type.agg = false ∧ T_p_abi_Type.zero = [.nil] ∧ T_p_abi_Type.kind = .ptr 152 := ⟨rfl, rfl, rfl⟩
def T_interface : TI := { size := 1, bytes := 16, agg := false, zero := [.nilifc], kind := .iface, id := 20 }
@[simp] theorem T_interface_size : T_interface.size = 1 := rfl
@[simp] theorem T_interface_s : T_interface.agg = false ∧ T_interface.zero = [.nilifc] ∧ T_interface.kind = .iface := ⟨rfl, rfl, rfl⟩
def T_int32 : TI := { size := 1, bytes := 4, agg := false, zero := [.int .i32 0], kind := .int .i32, id := 21 }
@[simp] theorem T_int32_size : T_int32.size = 1 := rfl
@[simp] theorem T_int32_s : T_int32.agg = false ∧ T_int32.zero = [.int .i32 0] ∧ T_int32.kind = .int .i32 := ⟨rfl, rfl, rfl⟩
def T_func_bool : TI := { size := 1, bytes := 8, agg := false, zero := [.nilfn], kind := .func, id := 22 }
@[simp] theorem T_func_bool_size : T_func_bool.size = 1 := rfl
@[simp] theorem T_func_bool_s : T_func_bool.agg = false ∧ T_func_bool.zero = [.nilfn] ∧ T_func_bool.kind = .func := ⟨rfl, rfl, rfl⟩
def T_struct_Kind_int_Path_string_Off_int_N_int_ID_int_affe776d : TI := { size := 6, bytes := 64, agg := true, zero := [.int .i64 0, .str [], .int .i64 0, .int .i64 0, .int .i64 0, .str []], kind := .struct [(0, 3, 1), (1, 9, 1), (2, 3, 1), (3, 3, 1), (4, 3, 1), (5, 9, 1)], id := 23 }
@[simp] theorem T_struct_Kind_int_Path_string_Off_int_N_int_ID_int_affe776d_size : T_struct_Kind_int_Path_string_Off_int_N_int_ID_int_affe776d.size = 6 := rfl
@[simp] theorem T_struct_Kind_int_Path_string_Off_int_N_int_ID_int_affe776d_s : T_struct_Kind_int_Path_string_Off_int_N_int_ID_int_affe776d.agg = true ∧ T_struct_Kind_int_Path_string_Off_int_N_int_ID_int_affe776d.zero = [.int .i64 0, .str [], .int .i64 0, .int .i64 0, .int .i64 0, .str []] ∧ T_struct_Kind_int_Path_string_Off_int_N_int_ID_int_affe776d.kind = .struct [(0, 3, 1), (1, 9, 1), (2, 3, 1), (3, 3, 1), (4, 3, 1), (5, 9, 1)] := ⟨rfl, rfl, rfl⟩
def T_api_Op : TI := { size := 6, bytes := 64, agg := true, zero := [.int .i64 0, .str [], .int .i64 0, .int .i64 0, .int .i64 0, .str []], kind := .struct [(0, 3, 1), (1, 9, 1), (2, 3, 1), (3, 3, 1), (4, 3, 1), (5, 9, 1)], id := 24 }
@[simp] theorem T_api_Op_size : T_api_Op.size = 6 := rfl
@[simp] theorem T_api_Op_s : T_api_Op.agg = true ∧ T_api_Op.zero = [.int .i64 0, .str [], .int .i64 0, .int .i64 0, .int .i64 0, .str []] ∧ T_api_Op.kind = .struct [(0, 3, 1), (1, 9, 1), (2, 3, 1), (3, 3, 1), (4, 3, 1), (5, 9, 1)] := ⟨rfl, rfl, rfl⟩
@[simp] theorem T_api_Op_id : T_api_Op.id = t_api_Op := rfl
def T_func_string_string : TI := { size := 1, bytes := 8, agg := false, zero := [.nilfn], kind := .func, id := 32 }
@[simp] theorem T_func_string_string_size : T_func_string_string.size = 1 := rfl
@[simp] theorem T_func_string_string_s : T_func_string_string.agg = false ∧ T_func_string_string.zero = [.nilfn] ∧ T_func_string_string.kind = .func := ⟨rfl, rfl, rfl⟩
def T_api_Errno : TI := { size := 1, bytes := 8, agg := false, zero := [.int .i64 0], kind := .int .i64, id := 37 }
@[simp] theorem T_api_Errno_size : T_api_Errno.size = 1 := rfl
@[simp] theorem T_api_Errno_s : T_api_Errno.agg = false ∧ T_api_Errno.zero = [.int .i64 0] ∧ T_api_Errno.kind = .int .i64 := ⟨rfl, rfl, rfl⟩
def T_s_string : TI := { size := 1, bytes := 24, agg := false, zero := [.vs 1 [] .nil], kind := .slice 9, id := 38 }
@[simp] theorem T_s_string_size : T_s_string.size = 1 := rfl
@[simp] theorem T_s_string_s : T_s_string.agg = false ∧ T_s_string.zero = [.vs 1 [] .nil] ∧ T_s_string.kind = .slice 9 := ⟨rfl, rfl, rfl⟩
@[simp] theorem T_s_string_id : T_s_string.id = t_s_string := rfl
def T_struct_Err_api_Errno_Kind_int_Size_int_Where_int_45eddcb9 : TI := { size := 8, bytes := 88, agg := true, zero := [.int .i64 0, .int .i64 0, .int .i64 0, .int .i64 0, .int .i64 0, .str [], .vs 1 [] .nil, .bool false], kind := .struct [(0, 37, 1), (1, 3, 1), (2, 3, 1), (3, 3, 1), (4, 3, 1), (5, 9, 1), (6, 38, 1), (7, 4, 1)], id := 39 }
@[simp] theorem T_struct_Err_api_Errno_Kind_int_Size_int_Where_int_45eddcb9_size : T_struct_Err_api_Errno_Kind_int_Size_int_Where_int_45eddcb9.size = 8 := rfl
@[simp] theorem T_struct_Err_api_Errno_Kind_int_Size_int_Where_int_45eddcb9_s : T_struct_Err_api_Errno_Kind_int_Size_int_Where_int_45eddcb9.agg = true ∧ T_struct_Err_api_Errno_Kind_int_Size_int_Where_int_45eddcb9.zero = [.int .i64 0, .int .i64 0, .int .i64 0, .int .i64 0, .int .i64 0, .str [], .vs 1 [] .nil, .bool false] ∧ T_struct_Err_api_Errno_Kind_int_Size_int_Where_int_45eddcb9.kind = .struct [(0, 37, 1), (1, 3, 1), (2, 3, 1), (3, 3, 1), (4, 3, 1), (5, 9, 1), (6, 38, 1), (7, 4, 1)] := ⟨rfl, rfl, rfl⟩
def T_api_Result : TI := { size := 8, bytes := 88, agg := true, zero := [.int .i64 0, .int .i64 0, .int .i64 0, .int .i64 0, .int .i64 0, .str [], .vs 1 [] .nil, .bool false], kind := .struct [(0, 37, 1), (1, 3, 1), (2, 3, 1), (3, 3, 1), (4, 3, 1), (5, 9, 1), (6, 38, 1), (7, 4, 1)], id := 40 }
@[simp] theorem T_api_Result_size : T_api_Result.size = 8 := rfl
@[simp] theorem T_api_Result_s : T_api_Result.agg = true ∧ T_api_Result.zero = [.int .i64 0, .int .i64 0, .int .i64 0, .int .i64 0, .int .i64 0, .str [], .vs 1 [] .nil, .bool false] ∧ T_api_Result.kind = .struct [(0, 37, 1), (1, 3, 1), (2, 3, 1), (3, 3, 1), (4, 3, 1), (5, 9, 1), (6, 38, 1), (7, 4, 1)] := ⟨rfl, rfl, rfl⟩
@[simp] theorem T_api_Result_id : T_api_Result.id = t_api_Result := rfl
def T_struct_Shards_int_Room_int_Cursors_int : TI := { size := 3, bytes := 24, agg := true, zero := [.int .i64 0, .int .i64 0, .int .i64 0], kind := .struct [(0, 3, 1), (1, 3, 1), (2, 3, 1)], id := 43 }
@[simp] theorem T_struct_Shards_int_Room_int_Cursors_int_size : T_struct_Shards_int_Room_int_Cursors_int.size = 3 := rfl
@[simp] theorem T_struct_Shards_int_Room_int_Cursors_int_s : T_struct_Shards_int_Room_int_Cursors_int.agg = true ∧ T_struct_Shards_int_Room_int_Cursors_int.zero = [.int .i64 0, .int .i64 0, .int .i64 0] ∧ T_struct_Shards_int_Room_int_Cursors_int.kind = .struct [(0, 3, 1), (1, 3, 1), (2, 3, 1)] := ⟨rfl, rfl, rfl⟩
def T_server_Config : TI := { size := 3, bytes := 24, agg := true, zero := [.int .i64 0, .int .i64 0, .int .i64 0], kind := .struct [(0, 3, 1), (1, 3, 1), (2, 3, 1)], id := 44 }
@[simp] theorem T_server_Config_size : T_server_Config.size = 3 := rfl
@[simp] theorem T_server_Config_s : T_server_Config.agg = true ∧ T_server_Config.zero = [.int .i64 0, .int .i64 0, .int .i64 0] ∧ T_server_Config.kind = .struct [(0, 3, 1), (1, 3, 1), (2, 3, 1)] := ⟨rfl, rfl, rfl⟩
def T_s_s_api_Op : TI := { size := 1, bytes := 24, agg := false, zero := [.vs 1 [] .nil], kind := .slice 81, id := 45 }
@[simp] theorem T_s_s_api_Op_size : T_s_s_api_Op.size = 1 := rfl
@[simp] theorem T_s_s_api_Op_s : T_s_s_api_Op.agg = false ∧ T_s_s_api_Op.zero = [.vs 1 [] .nil] ∧ T_s_s_api_Op.kind = .slice 81 := ⟨rfl, rfl, rfl⟩
def T_s_int : TI := { size := 1, bytes := 24, agg := false, zero := [.vs 1 [] .nil], kind := .slice 3, id := 46 }
@[simp] theorem T_s_int_size : T_s_int.size = 1 := rfl
@[simp] theorem T_s_int_s : T_s_int.agg = false ∧ T_s_int.zero = [.vs 1 [] .nil] ∧ T_s_int.kind = .slice 3 := ⟨rfl, rfl, rfl⟩
def T_struct_Config_server_Config_Images_s_string_Clie_8f63a109 : TI := { size := 6, bytes := 96, agg := true, zero := [.int .i64 0, .int .i64 0, .int .i64 0, .vs 1 [] .nil, .vs 1 [] .nil, .vs 1 [] .nil], kind := .struct [(0, 44, 3), (3, 38, 1), (4, 45, 1), (5, 46, 1)], id := 47 }
@[simp] theorem T_struct_Config_server_Config_Images_s_string_Clie_8f63a109_size : T_struct_Config_server_Config_Images_s_string_Clie_8f63a109.size = 6 := rfl
@[simp] theorem T_struct_Config_server_Config_Images_s_string_Clie_8f63a109_s : T_struct_Config_server_Config_Images_s_string_Clie_8f63a109.agg = true ∧ T_struct_Config_server_Config_Images_s_string_Clie_8f63a109.zero = [.int .i64 0, .int .i64 0, .int .i64 0, .vs 1 [] .nil, .vs 1 [] .nil, .vs 1 [] .nil] ∧ T_struct_Config_server_Config_Images_s_string_Clie_8f63a109.kind = .struct [(0, 44, 3), (3, 38, 1), (4, 45, 1), (5, 46, 1)] := ⟨rfl, rfl, rfl⟩
def T_script_Script : TI := { size := 6, bytes := 96, agg := true, zero := [.int .i64 0, .int .i64 0, .int .i64 0, .vs 1 [] .nil, .vs 1 [] .nil, .vs 1 [] .nil], kind := .struct [(0, 44, 3), (3, 38, 1), (4, 45, 1), (5, 46, 1)], id := 48 }
@[simp] theorem T_script_Script_size : T_script_Script.size = 6 := rfl
@[simp] theorem T_script_Script_s : T_script_Script.agg = true ∧ T_script_Script.zero = [.int .i64 0, .int .i64 0, .int .i64 0, .vs 1 [] .nil, .vs 1 [] .nil, .vs 1 [] .nil] ∧ T_script_Script.kind = .struct [(0, 44, 3), (3, 38, 1), (4, 45, 1), (5, 46, 1)] := ⟨rfl, rfl, rfl⟩
def T_struct_Shards_int_Room_int_Cursors_int_Images_s__d51e2e41 : TI := { size := 6, bytes := 96, agg := true, zero := [.int .i64 0, .int .i64 0, .int .i64 0, .vs 1 [] .nil, .vs 1 [] .nil, .vs 1 [] .nil], kind := .struct [(0, 3, 1), (1, 3, 1), (2, 3, 1), (3, 38, 1), (4, 45, 1), (5, 46, 1)], id := 52 }
@[simp] theorem T_struct_Shards_int_Room_int_Cursors_int_Images_s__d51e2e41_size : T_struct_Shards_int_Room_int_Cursors_int_Images_s__d51e2e41.size = 6 := rfl
@[simp] theorem T_struct_Shards_int_Room_int_Cursors_int_Images_s__d51e2e41_s : T_struct_Shards_int_Room_int_Cursors_int_Images_s__d51e2e41.agg = true ∧ T_struct_Shards_int_Room_int_Cursors_int_Images_s__d51e2e41.zero = [.int .i64 0, .int .i64 0, .int .i64 0, .vs 1 [] .nil, .vs 1 [] .nil, .vs 1 [] .nil] ∧ T_struct_Shards_int_Room_int_Cursors_int_Images_s__d51e2e41.kind = .struct [(0, 3, 1), (1, 3, 1), (2, 3, 1), (3, 38, 1), (4, 45, 1), (5, 46, 1)] := ⟨rfl, rfl, rfl⟩
def T_socageref25_Script : TI := { size := 6, bytes := 96, agg := true, zero := [.int .i64 0, .int .i64 0, .int .i64 0, .vs 1 [] .nil, .vs 1 [] .nil, .vs 1 [] .nil], kind := .struct [(0, 3, 1), (1, 3, 1), (2, 3, 1), (3, 38, 1), (4, 45, 1), (5, 46, 1)], id := 53 }
@[simp] theorem T_socageref25_Script_size : T_socageref25_Script.size = 6 := rfl
@[simp] theorem T_socageref25_Script_s : T_socageref25_Script.agg = true ∧ T_socageref25_Script.zero = [.int .i64 0, .int .i64 0, .int .i64 0, .vs 1 [] .nil, .vs 1 [] .nil, .vs 1 [] .nil] ∧ T_socageref25_Script.kind = .struct [(0, 3, 1), (1, 3, 1), (2, 3, 1), (3, 38, 1), (4, 45, 1), (5, 46, 1)] := ⟨rfl, rfl, rfl⟩
def T_func_string_string_s_string : TI := { size := 1, bytes := 8, agg := false, zero := [.nilfn], kind := .func, id := 56 }
@[simp] theorem T_func_string_string_s_string_size : T_func_string_string_s_string.size = 1 := rfl
@[simp] theorem T_func_string_string_s_string_s : T_func_string_string_s_string.agg = false ∧ T_func_string_string_s_string.zero = [.nilfn] ∧ T_func_string_string_s_string.kind = .func := ⟨rfl, rfl, rfl⟩
def T_10_string : TI := { size := 10, bytes := 160, agg := true, zero := [.str [], .str [], .str [], .str [], .str [], .str [], .str [], .str [], .str [], .str []], kind := .array 10 9, id := 64 }
@[simp] theorem T_10_string_size : T_10_string.size = 10 := rfl
@[simp] theorem T_10_string_s : T_10_string.agg = true ∧ T_10_string.zero = [.str [], .str [], .str [], .str [], .str [], .str [], .str [], .str [], .str [], .str []] ∧ T_10_string.kind = .array 10 9 := ⟨rfl, rfl, rfl⟩
def T_s_uint8 : TI := { size := 1, bytes := 24, agg := false, zero := [.vs 1 [] .nil], kind := .slice 5, id := 68 }
@[simp] theorem T_s_uint8_size : T_s_uint8.size = 1 := rfl
@[simp] theorem T_s_uint8_s : T_s_uint8.agg = false ∧ T_s_uint8.zero = [.vs 1 [] .nil] ∧ T_s_uint8.kind = .slice 5 := ⟨rfl, rfl, rfl⟩
def T_uint : TI := { size := 1, bytes := 8, agg := false, zero := [.int .u64 0], kind := .int .u64, id := 70 }
@[simp] theorem T_uint_size : T_uint.size = 1 := rfl
@[simp] theorem T_uint_s : T_uint.agg = false ∧ T_uint.zero = [.int .u64 0] ∧ T_uint.kind = .int .u64 := ⟨rfl, rfl, rfl⟩
def T_p_strings_Builder : TI := { size := 1, bytes := 8, agg := false, zero := [.nil], kind := .ptr 73, id := 71 }
@[simp] theorem T_p_strings_Builder_size : T_p_strings_Builder.size = 1 := rfl
@[simp] theorem T_p_strings_Builder_s : T_p_strings_Builder.agg = false ∧ T_p_strings_Builder.zero = [.nil] ∧ T_p_strings_Builder.kind = .ptr 73 := ⟨rfl, rfl, rfl⟩
def T_struct_addr_p_strings_Builder_buf_s_uint8 : TI := { size := 2, bytes := 32, agg := true, zero := [.nil, .vs 1 [] .nil], kind := .struct [(0, 71, 1), (1, 68, 1)], id := 72 }
@[simp] theorem T_struct_addr_p_strings_Builder_buf_s_uint8_size : T_struct_addr_p_strings_Builder_buf_s_uint8.size = 2 := rfl
@[simp] theorem T_struct_addr_p_strings_Builder_buf_s_uint8_s : T_struct_addr_p_strings_Builder_buf_s_uint8.agg = true ∧ T_struct_addr_p_strings_Builder_buf_s_uint8.zero = [.nil, .vs 1 [] .nil] ∧ T_struct_addr_p_strings_Builder_buf_s_uint8.kind = .struct [(0, 71, 1), (1, 68, 1)] := ⟨rfl, rfl, rfl⟩
def T_strings_Builder : TI := { size := 2, bytes := 32, agg := true, zero := [.nil, .vs 1 [] .nil], kind := .struct [(0, 71, 1), (1, 68, 1)], id := 73 }
@[simp] theorem T_strings_Builder_size : T_strings_Builder.size = 2 := rfl
@[simp] theorem T_strings_Builder_s : T_strings_Builder.agg = true ∧ T_strings_Builder.zero = [.nil, .vs 1 [] .nil] ∧ T_strings_Builder.kind = .struct [(0, 71, 1), (1, 68, 1)] := ⟨rfl, rfl, rfl⟩
@[simp] theorem T_strings_Builder_id : T_strings_Builder.id = t_strings_Builder := rfl
def T_interface_Error_string : TI := { size := 1, bytes := 16, agg := false, zero := [.nilifc], kind := .iface, id := 74 }
@[simp] theorem T_interface_Error_string_size : T_interface_Error_string.size = 1 := rfl
@[simp] theorem T_interface_Error_string_s : T_interface_Error_string.agg = false ∧ T_interface_Error_string.zero = [.nilifc] ∧ T_interface_Error_string.kind = .iface := ⟨rfl, rfl, rfl⟩
def T_error : TI := { size := 1, bytes := 16, agg := false, zero := [.nilifc], kind := .iface, id := 75 }
@[simp] theorem T_error_size : T_error.size = 1 := rfl
@[simp] theorem T_error_s : T_error.agg = false ∧ T_error.zero = [.nilifc] ∧ T_error.kind = .iface := ⟨rfl, rfl, rfl⟩
def T_func_int_uint8 : TI := { size := 1, bytes := 8, agg := false, zero := [.nilfn], kind := .func, id := 80 }
@[simp] theorem T_func_int_uint8_size : T_func_int_uint8.size = 1 := rfl
@[simp] theorem T_func_int_uint8_s : T_func_int_uint8.agg = false ∧ T_func_int_uint8.zero = [.nilfn] ∧ T_func_int_uint8.kind = .func := ⟨rfl, rfl, rfl⟩
def T_s_api_Op : TI := { size := 1, bytes := 24, agg := false, zero := [.vs 6 [] .nil], kind := .slice 24, id := 81 }
@[simp] theorem T_s_api_Op_size : T_s_api_Op.size = 1 := rfl
@[simp] theorem T_s_api_Op_s : T_s_api_Op.agg = false ∧ T_s_api_Op.zero = [.vs 6 [] .nil] ∧ T_s_api_Op.kind = .slice 24 := ⟨rfl, rfl, rfl⟩
def T_struct_script_Script_part_int : TI := { size := 7, bytes := 104, agg := true, zero := [.int .i64 0, .int .i64 0, .int .i64 0, .vs 1 [] .nil, .vs 1 [] .nil, .vs 1 [] .nil, .int .i64 0], kind := .struct [(0, 48, 6), (6, 3, 1)], id := 82 }
@[simp] theorem T_struct_script_Script_part_int_size : T_struct_script_Script_part_int.size = 7 := rfl
@[simp] theorem T_struct_script_Script_part_int_s : T_struct_script_Script_part_int.agg = true ∧ T_struct_script_Script_part_int.zero = [.int .i64 0, .int .i64 0, .int .i64 0, .vs 1 [] .nil, .vs 1 [] .nil, .vs 1 [] .nil, .int .i64 0] ∧ T_struct_script_Script_part_int.kind = .struct [(0, 48, 6), (6, 3, 1)] := ⟨rfl, rfl, rfl⟩
def T_script_reader : TI := { size := 7, bytes := 104, agg := true, zero := [.int .i64 0, .int .i64 0, .int .i64 0, .vs 1 [] .nil, .vs 1 [] .nil, .vs 1 [] .nil, .int .i64 0], kind := .struct [(0, 48, 6), (6, 3, 1)], id := 83 }
@[simp] theorem T_script_reader_size : T_script_reader.size = 7 := rfl
@[simp] theorem T_script_reader_s : T_script_reader.agg = true ∧ T_script_reader.zero = [.int .i64 0, .int .i64 0, .int .i64 0, .vs 1 [] .nil, .vs 1 [] .nil, .vs 1 [] .nil, .int .i64 0] ∧ T_script_reader.kind = .struct [(0, 48, 6), (6, 3, 1)] := ⟨rfl, rfl, rfl⟩
def T_p_uint8 : TI := { size := 1, bytes := 8, agg := false, zero := [.nil], kind := .ptr 5, id := 90 }
@[simp] theorem T_p_uint8_size : T_p_uint8.size = 1 := rfl
@[simp] theorem T_p_uint8_s : T_p_uint8.agg = false ∧ T_p_uint8.zero = [.nil] ∧ T_p_uint8.kind = .ptr 5 := ⟨rfl, rfl, rfl⟩
def T_p_script_reader : TI := { size := 1, bytes := 8, agg := false, zero := [.nil], kind := .ptr 83, id := 92 }
@[simp] theorem T_p_script_reader_size : T_p_script_reader.size = 1 := rfl
@[simp] theorem T_p_script_reader_s : T_p_script_reader.agg = false ∧ T_p_script_reader.zero = [.nil] ∧ T_p_script_reader.kind = .ptr 83 := ⟨rfl, rfl, rfl⟩
def T_uint32 : TI := { size := 1, bytes := 4, agg := false, zero := [.int .u32 0], kind := .int .u32, id := 121 }
@[simp] theorem T_uint32_size : T_uint32.size = 1 := rfl
@[simp] theorem T_uint32_s : T_uint32.agg = false ∧ T_uint32.zero = [.int .u32 0] ∧ T_uint32.kind = .int .u32 := ⟨rfl, rfl, rfl⟩
def T_0_p_runtime_PanicNilError : TI := { size := 0, bytes := 0, agg := true, zero := [], kind := .array 0 16, id := 142 }
@[simp] theorem T_0_p_runtime_PanicNilError_size : T_0_p_runtime_PanicNilError.size = 0 := rfl
@[simp] theorem T_0_p_runtime_PanicNilError_s : T_0_p_runtime_PanicNilError.agg = true ∧ T_0_p_runtime_PanicNilError.zero = [] ∧ T_0_p_runtime_PanicNilError.kind = .array 0 16 := ⟨rfl, rfl, rfl⟩
def T_struct_0_p_runtime_PanicNilError : TI := { size := 0, bytes := 0, agg := true, zero := [], kind := .struct [(0, 142, 0)], id := 143 }
@[simp] theorem T_struct_0_p_runtime_PanicNilError_size : T_struct_0_p_runtime_PanicNilError.size = 0 := rfl
@[simp] theorem T_struct_0_p_runtime_PanicNilError_s : T_struct_0_p_runtime_PanicNilError.agg = true ∧ T_struct_0_p_runtime_PanicNilError.zero = [] ∧ T_struct_0_p_runtime_PanicNilError.kind = .struct [(0, 142, 0)] := ⟨rfl, rfl, rfl⟩
def T_runtime_PanicNilError : TI := { size := 0, bytes := 0, agg := true, zero := [], kind := .struct [(0, 142, 0)], id := 144 }
@[simp] theorem T_runtime_PanicNilError_size : T_runtime_PanicNilError.size = 0 := rfl
@[simp] theorem T_runtime_PanicNilError_s : T_runtime_PanicNilError.agg = true ∧ T_runtime_PanicNilError.zero = [] ∧ T_runtime_PanicNilError.kind = .struct [(0, 142, 0)] := ⟨rfl, rfl, rfl⟩
def T_abi_TFlag : TI := { size := 1, bytes := 1, agg := false, zero := [.int .u8 0], kind := .int .u8, id := 146 }
@[simp] theorem T_abi_TFlag_size : T_abi_TFlag.size = 1 := rfl
@[simp] theorem T_abi_TFlag_s : T_abi_TFlag.agg = false ∧ T_abi_TFlag.zero = [.int .u8 0] ∧ T_abi_TFlag.kind = .int .u8 := ⟨rfl, rfl, rfl⟩
def T_abi_Kind : TI := { size := 1, bytes := 1, agg := false, zero := [.int .u8 0], kind := .int .u8, id := 147 }
@[simp] theorem T_abi_Kind_size : T_abi_Kind.size = 1 := rfl
@[simp] theorem T_abi_Kind_s : T_abi_Kind.agg = false ∧ T_abi_Kind.zero = [.int .u8 0] ∧ T_abi_Kind.kind = .int .u8 := ⟨rfl, rfl, rfl⟩
def T_func_unsafe_Pointer_unsafe_Pointer_bool : TI := { size := 1, bytes := 8, agg := false, zero := [.nilfn], kind := .func, id := 148 }
@[simp] theorem T_func_unsafe_Pointer_unsafe_Pointer_bool_size : T_func_unsafe_Pointer_unsafe_Pointer_bool.size = 1 := rfl
@[simp] theorem T_func_unsafe_Pointer_unsafe_Pointer_bool_s : T_func_unsafe_Pointer_unsafe_Pointer_bool.agg = false ∧ T_func_unsafe_Pointer_unsafe_Pointer_bool.zero = [.nilfn] ∧ T_func_unsafe_Pointer_unsafe_Pointer_bool.kind = .func := ⟨rfl, rfl, rfl⟩
def T_abi_NameOff : TI := { size := 1, bytes := 4, agg := false, zero := [.int .i32 0], kind := .int .i32, id := 149 }
@[simp] theorem T_abi_NameOff_size : T_abi_NameOff.size = 1 := rfl
@[simp] theorem T_abi_NameOff_s : T_abi_NameOff.agg = false ∧ T_abi_NameOff.zero = [.int .i32 0] ∧ T_abi_NameOff.kind = .int .i32 := ⟨rfl, rfl, rfl⟩
def T_abi_TypeOff : TI := { size := 1, bytes := 4, agg := false, zero := [.int .i32 0], kind := .int .i32, id := 150 }
@[simp] theorem T_abi_TypeOff_size : T_abi_TypeOff.size = 1 := rfl
@[simp] theorem T_abi_TypeOff_s : T_abi_TypeOff.agg = false ∧ T_abi_TypeOff.zero = [.int .i32 0] ∧ T_abi_TypeOff.kind = .int .i32 := ⟨rfl, rfl, rfl⟩
def T_struct_Size_uintptr_PtrBytes_uintptr_Hash_uint32_7c8ec20b : TI := { size := 11, bytes := 48, agg := true, zero := [.int .u64 0, .int .u64 0, .int .u32 0, .int .u8 0, .int .u8 0, .int .u8 0, .int .u8 0, .nilfn, .nil, .int .i32 0, .int .i32 0], kind := .struct [(0, 12, 1), (1, 12, 1), (2, 121, 1), (3, 146, 1), (4, 5, 1), (5, 5, 1), (6, 147, 1), (7, 148, 1), (8, 90, 1), (9, 149, 1), (10, 150, 1)], id := 151 }
@[simp] theorem T_struct_Size_uintptr_PtrBytes_uintptr_Hash_uint32_7c8ec20b_size : T_struct_Size_uintptr_PtrBytes_uintptr_Hash_uint32_7c8ec20b.size = 11 := rfl
@[simp] theorem T_struct_Size_uintptr_PtrBytes_uintptr_Hash_uint32_7c8ec20b_s : T_struct_Size_uintptr_PtrBytes_uintptr_Hash_uint32_7c8ec20b.agg = true ∧ T_struct_Size_uintptr_PtrBytes_uintptr_Hash_uint32_7c8ec20b.zero = [.int .u64 0, .int .u64 0, .int .u32 0, .int .u8 0, .int .u8 0, .int .u8 0, .int .u8 0, .nilfn, .nil, .int .i32 0, .int .i32 0] ∧ T_struct_Size_uintptr_PtrBytes_uintptr_Hash_uint32_7c8ec20b.kind = .struct [(0, 12, 1), (1, 12, 1), (2, 121, 1), (3, 146, 1), (4, 5, 1), (5, 5, 1), (6, 147, 1), (7, 148, 1), (8, 90, 1), (9, 149, 1), (10, 150, 1)] := ⟨rfl, rfl, rfl⟩
def T_abi_Type : TI := { size := 11, bytes := 48, agg := true, zero := [.int .u64 0, .int .u64 0, .int .u32 0, .int .u8 0, .int .u8 0, .int .u8 0, .int .u8 0, .nilfn, .nil, .int .i32 0, .int .i32 0], kind := .struct [(0, 12, 1), (1, 12, 1), (2, 121, 1), (3, 146, 1), (4, 5, 1), (5, 5, 1), (6, 147, 1), (7, 148, 1), (8, 90, 1), (9, 149, 1), (10, 150, 1)], id := 152 }
@[simp] theorem T_abi_Type_size : T_abi_Type.size = 11 := rfl
@[simp] theorem T_abi_Type_s : T_abi_Type.agg = true ∧ T_abi_Type.zero = [.int .u64 0, .int .u64 0, .int .u32 0, .int .u8 0, .int .u8 0, .int .u8 0, .int .u8 0, .nilfn, .nil, .int .i32 0, .int .i32 0] ∧ T_abi_Type.kind = .struct [(0, 12, 1), (1, 12, 1), (2, 121, 1), (3, 146, 1), (4, 5, 1), (5, 5, 1), (6, 147, 1), (7, 148, 1), (8, 90, 1), (9, 149, 1), (10, 150, 1)] := ⟨rfl, rfl, rfl⟩
def tyOf : Nat → TI
  | 1 => T_func
  | 2 => T_int64
  | 3 => T_int
  | 4 => T_bool
  | 5 => T_uint8
  | 6 => T_abi_BoundsErrorCode
  | 7 => T_struct_x_int64_y_int_signed_bool_code_abi_BoundsErrorCode
  | 8 => T_runtime_boundsError
  | 9 => T_string
  | 10 => T_runtime_errorString
  | 12 => T_uintptr
  | 16 => T_p_runtime_PanicNilError
  | 17 => T_p_abi_Type
  | 20 => T_interface
  | 21 => T_int32
  | 22 => T_func_bool
  | 23 => T_struct_Kind_int_Path_string_Off_int_N_int_ID_int_affe776d
  | 24 => T_api_Op
  | 32 => T_func_string_string
  | 37 => T_api_Errno
  | 38 => T_s_string
  | 39 => T_struct_Err_api_Errno_Kind_int_Size_int_Where_int_45eddcb9
  | 40 => T_api_Result
  | 43 => T_struct_Shards_int_Room_int_Cursors_int
  | 44 => T_server_Config
  | 45 => T_s_s_api_Op
  | 46 => T_s_int
  | 47 => T_struct_Config_server_Config_Images_s_string_Clie_8f63a109
  | 48 => T_script_Script
  | 52 => T_struct_Shards_int_Room_int_Cursors_int_Images_s__d51e2e41
  | 53 => T_socageref25_Script
  | 56 => T_func_string_string_s_string
  | 64 => T_10_string
  | 68 => T_s_uint8
  | 70 => T_uint
  | 71 => T_p_strings_Builder
  | 72 => T_struct_addr_p_strings_Builder_buf_s_uint8
  | 73 => T_strings_Builder
  | 74 => T_interface_Error_string
  | 75 => T_error
  | 80 => T_func_int_uint8
  | 81 => T_s_api_Op
  | 82 => T_struct_script_Script_part_int
  | 83 => T_script_reader
  | 90 => T_p_uint8
  | 92 => T_p_script_reader
  | 121 => T_uint32
  | 142 => T_0_p_runtime_PanicNilError
  | 143 => T_struct_0_p_runtime_PanicNilError
  | 144 => T_runtime_PanicNilError
  | 146 => T_abi_TFlag
  | 147 => T_abi_Kind
  | 148 => T_func_unsafe_Pointer_unsafe_Pointer_bool
  | 149 => T_abi_NameOff
  | 150 => T_abi_TypeOff
  | 151 => T_struct_Size_uintptr_PtrBytes_uintptr_Hash_uint32_7c8ec20b
  | 152 => T_abi_Type
  | n => { size := 0, bytes := 0, agg := false, zero := [], kind := match n with | 0 | 25 | 30 | 33 | 49 | 61 | 66 | 78 | 93 | 99 | 106 | 111 | 119 | 122 => .tuple | _ => .other }
def locOf : Nat → Nat → Bool
  | 3, 3 => true
  | 5, 3 => true
  | 6, 1 => true
  | 6, 5 => true
  | 7, 3 => true
  | 7, 7 => true
  | 7, 9 => true
  | 8, 1 => true
  | 8, 4 => true
  | 9, 1 => true
  | 9, 3 => true
  | 10, 2 => true
  | 11, 1 => true
  | 12, 1 => true
  | 18, 3 => true
  | 19, 3 => true
  | 20, 1 => true
  | 21, 1 => true
  | 21, 3 => true
  | 22, 1 => true
  | 22, 3 => true
  | 23, 2 => true
  | 24, 1 => true
  | 25, 1 => true
  | 25, 2 => true
  | 26, 1 => true
  | 28, 2 => true
  | 28, 3 => true
  | 30, 1 => true
  | 31, 1 => true
  | 31, 9 => true
  | 34, 0 => true
  | 43, 12 => true
  | 47, 6 => true
  | _, _ => false
def liveOf : Nat → Nat → List Nat × List Nat
  | 5, 6 => ([22], [])
  | 10, 5 => ([24], [2])
  | 11, 2 => ([3], [1])
  | 13, 5 => ([4, 5], [])
  | 14, 5 => ([9], [])
  | 17, 5 => ([3, 4], [])
  | 18, 19 => ([5, 69], [])
  | 19, 19 => ([5, 6], [3])
  | 23, 4 => ([16], [2])
  | 24, 2 => ([3], [1])
  | 24, 5 => ([4], [1])
  | 26, 3 => ([3, 4], [1])
  | 26, 7 => ([3, 5], [1])
  | 26, 11 => ([3, 6], [1])
  | 26, 17 => ([3, 7], [1])
  | 28, 4 => ([44], [2, 3])
  | 28, 10 => ([62], [2, 3])
  | 28, 16 => ([80], [2, 3])
  | 28, 21 => ([102], [2, 3])
  | 30, 5 => ([27], [])
  | 30, 11 => ([3, 38], [])
  | 31, 3 => ([3, 24], [])
  | 31, 8 => ([3, 38], [])
  | 31, 12 => ([3, 46], [])
  | 35, 9 => ([11, 31], [])
  | 47, 4 => ([13], [])
  | 48, 2 => ([0, 9], [])
  | 57, 3 => ([4, 11], [])
  | _, _ => ([], [])
def hasL : List Nat := [1, 2, 3, 4, 5, 6, 7, 8, 9, 10, 12, 16, 17, 20, 21, 22, 23, 24, 32, 37, 38, 39, 40, 43, 44, 45, 46, 47, 48, 52, 53, 56, 64, 68, 70, 71, 72, 73, 74, 75, 80, 81, 82, 83, 90, 92, 121, 142, 143, 144, 146, 147, 148, 149, 150, 151, 152]
def hasM : Nat := 11367804867609441144175572909964116273017329662
def hasOf (t : Nat) : Bool := Nat.testBit hasM t
def eqkL : List Nat := [7, 8, 23, 24, 43, 44]
def eqkOf : Nat → Bool
  | 7 => true
  | 8 => true
  | 23 => true
  | 24 => true
  | 43 => true
  | 44 => true
  | _ => false
def byrefOf : Nat → Bool
  | _ => false
def methOf (t : Nat) (m : String) : Option Nat :=
  match t with
  | _ => none
def tkOf : Nat → Nat → Bool
  | _, _ => false
def C : Ctx := { ty := tyOf, has := hasOf, eqk := eqkOf, loc := locOf, byref := byrefOf, meth := methOf, live := liveOf, tk := tkOf }
@[simp] theorem C_meth : C.meth = methOf := rfl
noncomputable def En (w0 : World) : Env := ⟨Tryd.prog, C, w0⟩
theorem testBit_off {m n t : Nat} (h : Nat.ble (m.log2 + 1) n = true) (c : ¬ t < n) : m.testBit t = false := by
  by_cases h0 : m = 0
  · rw [h0]; exact Nat.zero_testBit t
  · exact Nat.testBit_lt_two_pow (Nat.lt_of_lt_of_le ((Nat.log2_lt h0).1 (Nat.le_of_ble_eq_true h)) (Nat.pow_le_pow_right (by decide) (Nat.le_of_not_lt c)))
theorem hasOf_mem : ∀ t, hasOf t = true → hasL.elem t = true := by
  intro t h
  by_cases c : t < 153
  · have h2 := List.all_eq_true.1 (show (List.range 153).all (fun t => !(hasOf t) || hasL.elem t) = true by kernel_rfl) t (List.mem_range.2 c)
    rw [h] at h2
    simpa using h2
  · unfold hasOf at h
    rw [testBit_off (n := 153) (by kernel_rfl) c] at h
    cases h
theorem eqkOf_mem : ∀ t, eqkOf t = true → eqkL.elem t = true := by
  intro t h
  unfold eqkOf at h
  split at h <;> first | rfl | cases h
theorem tabOk : hasL.all (fun t => tyCheck Tryd.prog t (tyOf t)) = true := by kernel_rfl
theorem eqkOk : eqkL.all (fun t => eqkCheck Tryd.prog t (tyOf t).zero) = true := by kernel_rfl
theorem methOk : ∀ t m g, methOf t m = some g → ∀ v w, (method (Tryd.prog.types.size + Made.depth) t v m).run Tryd.prog w = .ok (g, v) w := by
  intro t m g h v w
  unfold methOf at h
  cases h
theorem agree (w0 : World) : Agree (En w0) := agree_of (En w0) hasL eqkL hasOf_mem eqkOf_mem tabOk eqkOk methOk
theorem mixed : Tryd.prog.follows .mixedOrders = true := by kernel_rfl
theorem Ca_sound (w0 : World) : CaSound (En w0) (ACalls (En w0)) := fun _ _ _ _ h => h
theorem Ca_mono (w0 : World) : CaMono (ACalls (En w0)) := fun g xs S Q Q' h hq => ⟨h.1, fun G w hr hro args' hl ha => (h.2 G w hr hro args' hl ha).mono fun e w' ⟨v, r, S', G', h1, h2, h3⟩ => ⟨v, r, S', G', h1, hq _ _ h2, h3⟩⟩
theorem fn_ok (w0 : World) {n : Nat} {fn : Func} (hf : Tryd.prog.funcs[n]? = some fn) (hname : (fn.name == "runtime.NumGoroutine") = false) {args : List AV} {S : St} {Q : AV → St → Prop}
    (h : WF C (ACalls (En w0)) n (Drw C (ACalls (En w0)) n) fn args S Q) : ACalls (En w0) n args S Q :=
  WF_sound (E := En w0) (agree w0) (Ca_sound w0) (Ca_mono w0) (Drw_sound (agree w0) (Ca_sound w0) (Ca_mono w0) mixed) (Drw_mono (Ca_mono w0)) hf hname h
abbrev AC (w0 : World) := ACalls (En w0)
theorem AC_mono {w0 : World} {g : Nat} {xs : List AV} {S : St} {Q Q' : AV → St → Prop} (h : AC w0 g xs S Q) (hq : ∀ r S', Q r S' → Q' r S') : AC w0 g xs S Q' := Ca_mono w0 g xs S Q Q' h hq
abbrev un_int := @Tryd.underlying3
abbrev un_bool := @Tryd.underlying4
abbrev un_uint8 := @Tryd.underlying5
abbrev ag_uint8 := @Tryd.isAgg5
abbrev sz_uint8 := @Tryd.sizeOf5
abbrev zv_uint8 := @Tryd.zeroValue5
abbrev un_string := @Tryd.underlying9
abbrev un_api_Op := @Tryd.underlying24
abbrev un_api_Errno := @Tryd.underlying37
abbrev un_s_string := @Tryd.underlying38
abbrev un_api_Result := @Tryd.underlying40
theorem ce_string : Tryd.prog.cellsOf t_string = 1 := by kernel_rfl
abbrev fn_strings_Cut := @Tryd.func32
abbrev fn_strings_Contains := @Tryd.func33
abbrev fn_strings_IndexByte := @Tryd.func37
abbrev fn_strconv_Atoi := @Tryd.func40
abbrev fn_strconv_Itoa := @Tryd.func41
abbrev fn_strings_SplitN := @Tryd.func51
end Go.Av
set_option linter.unusedVariables false
set_option maxHeartbeats 2000000
namespace Go.Av
open Go.Proofs
def G_law19_CallParses (Ca : Nat → List AV → St → (AV → St → Prop) → Prop) (a0 : List UInt8) (S0 : St) (Q : AV → St → Prop) : Prop :=
 Ca F_law19_speaks [] S0 fun t5 S =>
 optK (unA .not t5) fun t6 =>
 ifK t6
 (Q (.bool false) S)
 (ifK (.bool (decide ((List.length a0 : Int) > 2000)))
 (Q (.bool true) S)
 (Ca F_call_Parse [(.str a0)] S fun t12 S_2 =>
 optK (extractA t12 0) fun t13 =>
 optK (extractA (stripTup t12 0) 1) fun t14 =>
 optK (lstoreA T_api_Op (some [(.int .i64 0), (.str []), (.int .i64 0), (.int .i64 0), (.int .i64 0), (.str [])]) 0 t13) fun b3 =>
 optK (unA .not (AV.strip t14)) fun t16 =>
 ifK t16
 (optK (lloadA T_api_Op (some b3) 0) fun t17 =>
 optK (binE (.agg T_api_Op.zero) .eql (AV.strip t17) (.agg [(.int .i64 0), (.str []), (.int .i64 0), (.int .i64 0), (.int .i64 0), (.str [])])) fun t19 =>
 Q t19 S_2)
 (optK (lloadA T_api_Op (some b3) 0) fun t20 =>
 callK Ca F_ref19_Only [(AV.strip t20)] S_2 fun t21 S_3 =>
 joinK (fun (x26 : AV) (S_5 : St) =>
 optK (pickA (AV.strip t21) x26 (.bool false)) fun t27 =>
 Q (AV.strip t27) S_5) fun j =>
 ifK (AV.strip t21)
 (optK (lloadA T_api_Op (some b3) 0) fun t23 =>
 callK Ca F_ref19_Text [(AV.strip t23)] S_3 fun t24 S_4 =>
 optK (binA .eql t24 (.str a0)) fun t26 =>
 j t26 S_4)
 (j (.tup []) S_3))))
theorem law19_CallParses_eq (Ca) (a0 : List UInt8) (S0 Q) : WF C Ca 3 (Drw C Ca 3) Tryd.f3 [(.str a0)] S0 Q = G_law19_CallParses Ca a0 S0 Q := by kernel_rfl
theorem law19_CallParses_ok {w0 : World} {a0 : List UInt8} {S0 : St} {Q : AV → St → Prop} (h : G_law19_CallParses (ACalls (En w0)) a0 S0 Q) : AC w0 F_law19_CallParses [(.str a0)] S0 Q := fn_ok w0 Tryd.func3 (by kernel_rfl) (by rw [law19_CallParses_eq]; exact h)
def G_law19_CallWords (Ca : Nat → List AV → St → (AV → St → Prop) → Prop) (a0 : List UInt8) (a1 : Int) (S0 : St) (Q : AV → St → Prop) : Prop :=
 Ca F_law19_speaks [] S0 fun t13 S =>
 optK (unA .not t13) fun t14 =>
 ifK t14
 (Q (.bool false) S)
 (ifK (.bool (decide ((List.length a0 : Int) > 2000)))
 (Q (.bool true) S)
 (Ca F_call_Hex [(.str a0)] S fun t20 S_2 =>
 callK Ca F_call_Bytes [t20] S_2 fun t21 S_3 =>
 optK (extractA t21 0) fun t22 =>
 optK (extractA (stripTup t21 0) 1) fun t23 =>
 Ca F_ref19_Num [(.int .i64 a1)] S_3 fun t26 S_4 =>
 callK Ca F_call_Number [t26] S_4 fun t27 S_5 =>
 optK (extractA t27 0) fun t28 =>
 optK (extractA (stripTup t27 0) 1) fun t29 =>
 Ca F_call_Bytes [(.str a0)] S_5 fun t32 S_6 =>
 optK (extractA t32 0) fun t33 =>
 optK (extractA (stripTup t32 0) 1) fun t34 =>
 Ca F_call_Number [(.str a0)] S_6 fun t37 S_7 =>
 optK (extractA t37 0) fun t38 =>
 optK (extractA (stripTup t37 0) 1) fun t39 =>
 Ca F_call_Hex [(.str a0)] S_7 fun t41 S_8 =>
 Ca F_ref19_Hex [(.str a0)] S_8 fun t43 S_9 =>
 optK (binA .eql t41 t43) fun t44 =>
 joinK (fun (x48 : AV) =>
 optK (pickA (AV.strip t44) x48 (.bool false)) fun t49 =>
 joinK (fun (x51 : AV) =>
 optK (pickA (AV.strip (AV.strip t49)) x51 (.bool false)) fun t52 =>
 joinK (fun (x56 : AV) =>
 optK (pickA (AV.strip (AV.strip t52)) x56 (.bool false)) fun t57 =>
 joinK (fun (x59 : AV) =>
 optK (pickA (AV.strip (AV.strip t57)) x59 (.bool false)) fun t60 =>
 joinK (fun (x69 : AV) (S_12 : St) =>
 optK (pickA (AV.strip (AV.strip t60)) x69 (.bool false)) fun t70 =>
 joinK (fun (x79 : AV) (S_15 : St) =>
 optK (pickA (AV.strip (AV.strip t70)) x79 (.bool false)) fun t80 =>
 Q (AV.strip t80) S_15) fun j_3 =>
 ifK (AV.strip (AV.strip t70))
 (optK (unA .not (AV.strip t39)) fun t73 =>
 joinK (fun (x78 : AV) (S_14 : St) =>
 optK (pickA (AV.strip t73) (.bool true) x78) fun t79 =>
 j_3 (AV.strip t79) S_14) fun j_2 =>
 gK (AV.strip t73)
 (j_2 (.tup []) S_12)
 (callK Ca F_ref19_Num [(AV.strip t38)] S_12 fun t76 S_13 =>
 optK (binA .eql t76 (.str a0)) fun t78 =>
 j_2 t78 S_13)
 (j_2 (.tup []) S_12))
 (j_3 (.tup []) S_12)) fun j_4 =>
 ifK (AV.strip (AV.strip t60))
 (optK (unA .not (AV.strip t34)) fun t63 =>
 joinK (fun (x68 : AV) (S_11 : St) =>
 optK (pickA (AV.strip t63) (.bool true) x68) fun t69 =>
 j_4 (AV.strip t69) S_11) fun j =>
 gK (AV.strip t63)
 (j (.tup []) S_9)
 (callK Ca F_ref19_Hex [(AV.strip t33)] S_9 fun t66 S_10 =>
 optK (binA .eql t66 (.str a0)) fun t68 =>
 j t68 S_10)
 (j (.tup []) S_9))
 (j_4 (.tup []) S_9)) fun j_5 =>
 ifK (AV.strip (AV.strip t57))
 (j_5 (AV.strip t29))
 (j_5 (.tup []))) fun j_6 =>
 ifK (AV.strip (AV.strip t52))
 (optK (binA .eql (AV.strip t28) (.int .i64 a1)) fun t56 =>
 j_6 t56)
 (j_6 (.tup []))) fun j_7 =>
 ifK (AV.strip (AV.strip t49))
 (j_7 (AV.strip t23))
 (j_7 (.tup []))) fun j_8 =>
 ifK (AV.strip t44)
 (optK (binA .eql (AV.strip t22) (.str a0)) fun t48 =>
 j_8 t48)
 (j_8 (.tup []))))
theorem law19_CallWords_eq (Ca) (a0 : List UInt8) (a1 : Int) (S0 Q) : WF C Ca 4 (Drw C Ca 4) Tryd.f4 [(.str a0), (.int .i64 a1)] S0 Q = G_law19_CallWords Ca a0 a1 S0 Q := by kernel_rfl
theorem law19_CallWords_ok {w0 : World} {a0 : List UInt8} {a1 : Int} {S0 : St} {Q : AV → St → Prop} (h : G_law19_CallWords (ACalls (En w0)) a0 a1 S0 Q) : AC w0 F_law19_CallWords [(.str a0), (.int .i64 a1)] S0 Q := fn_ok w0 Tryd.func4 (by kernel_rfl) (by rw [law19_CallWords_eq]; exact h)
def G_law19_CallShows (Ca : Nat → List AV → St → (AV → St → Prop) → Prop) (a0 : Int) (a1a : Int) (a1b : Int) (a1c : Int) (a1d : Int) (a1e : Int) (a1f : List UInt8) (a1g : List (List AV)) (a1gr : Rt) (a1h : Bool) (S0 : St) (Q : AV → St → Prop) : Prop :=
 optK (boxA T_api_Result (.agg [(.int .i64 a1a), (.int .i64 a1b), (.int .i64 a1c), (.int .i64 a1d), (.int .i64 a1e), (.str a1f), (.vs 1 a1g a1gr), (.bool a1h)])) fun c3 =>
 Ca F_law19_speaks [] S0 fun t7 S =>
 optK (unA .not t7) fun t8 =>
 ifK t8
 (Q (.bool false) S)
 (optK (some c3) fun _ =>
 optK (lloadA T_string (some c3) 5) fun t10 =>
 optK (lenStrA (AV.strip t10)) fun t11 =>
 optK (binA .gtr t11 (.int .i64 2000)) fun t12 =>
 joinK (fun (x17 : AV) =>
 optK (pickA (AV.strip t12) (.bool true) x17) fun t18 =>
 ifK (AV.strip t18)
 (Q (.bool true) S)
 (joinK (fun (S_3 : St) =>
 optK (lloadA T_api_Result (some c3) 0) fun t31 =>
 optK (lloadA T_api_Result (some c3) 0) fun t34 =>
 callK Ca F_call_Show [(.int .i64 a0), (AV.strip t31)] S_3 fun t32 S_4 =>
 callK Ca F_ref19_Show [(.int .i64 a0), (AV.strip t34)] S_4 fun t35 S_5 =>
 optK (binA .eql t32 t35) fun t36 =>
 Q t36 S_5) fun j_2 =>
 optK (some c3) fun _ =>
 optK (lloadA T_s_string (some c3) 6) fun t20 =>
 optK (lenSlA (AV.strip t20)) fun t21 =>
 loopQ ([(.int .i64 0)], []) (fun v bx => ([v 22], [])) (fun nx v bx S_2 =>
 optK (binA .lss (v 22) t21) fun t23 =>
 ifK t23
 (optK (idxSlA T_string (AV.strip t20) (v 22)) fun t24 =>
 optK (loadA T_string S_2 t24) fun t25 =>
 optK (lenStrA (AV.strip (AV.strip t25))) fun t27 =>
 optK (binA .gtr t27 (.int .i64 200)) fun t28 =>
 ifK t28
 (Q (.bool true) S_2)
 (optK (binA .add (v 22) (.int .i64 1)) fun t29 =>
 nx ([(AV.strip t29)], []) S_2))
 (j_2 S_2)) S)) fun j =>
 ifK (AV.strip t12)
 (j (.tup []))
 (optK (some c3) fun _ =>
 optK (lloadA T_s_string (some c3) 6) fun t15 =>
 optK (lenSlA (AV.strip t15)) fun t16 =>
 optK (binA .gtr t16 (.int .i64 100)) fun t17 =>
 j t17))
theorem law19_CallShows_eq (Ca) (a0 : Int) (a1a : Int) (a1b : Int) (a1c : Int) (a1d : Int) (a1e : Int) (a1f : List UInt8) (a1g : List (List AV)) (a1gr : Rt) (a1h : Bool) (S0 Q) : WF C Ca 5 (Drw C Ca 5) Tryd.f5 [(.int .i64 a0), (.agg [(.int .i64 a1a), (.int .i64 a1b), (.int .i64 a1c), (.int .i64 a1d), (.int .i64 a1e), (.str a1f), (.vs 1 a1g a1gr), (.bool a1h)])] S0 Q = G_law19_CallShows Ca a0 a1a a1b a1c a1d a1e a1f a1g a1gr a1h S0 Q := by kernel_rfl
theorem law19_CallShows_ok {w0 : World} {a0 : Int} {a1a : Int} {a1b : Int} {a1c : Int} {a1d : Int} {a1e : Int} {a1f : List UInt8} {a1g : List (List AV)} {a1gr : Rt} {a1h : Bool} {S0 : St} {Q : AV → St → Prop} (h : G_law19_CallShows (ACalls (En w0)) a0 a1a a1b a1c a1d a1e a1f a1g a1gr a1h S0 Q) : AC w0 F_law19_CallShows [(.int .i64 a0), (.agg [(.int .i64 a1a), (.int .i64 a1b), (.int .i64 a1c), (.int .i64 a1d), (.int .i64 a1e), (.str a1f), (.vs 1 a1g a1gr), (.bool a1h)])] S0 Q := fn_ok w0 Tryd.func5 (by kernel_rfl) (by rw [law19_CallShows_eq]; exact h)
def G_law19_CallTexts (Ca : Nat → List AV → St → (AV → St → Prop) → Prop) (a0a : Int) (a0b : List UInt8) (a0c : Int) (a0d : Int) (a0e : Int) (a0f : List UInt8) (S0 : St) (Q : AV → St → Prop) : Prop :=
 optK (boxA T_api_Op (.agg [(.int .i64 a0a), (.str a0b), (.int .i64 a0c), (.int .i64 a0d), (.int .i64 a0e), (.str a0f)])) fun c1 =>
 Ca F_law19_speaks [] S0 fun t7 S =>
 optK (unA .not t7) fun t8 =>
 ifK t8
 (Q (.bool false) S)
 (optK (some c1) fun _ =>
 optK (lloadA T_string (some c1) 1) fun t10 =>
 optK (lenStrA (AV.strip t10)) fun t11 =>
 optK (some c1) fun _ =>
 optK (lloadA T_string (some c1) 5) fun t13 =>
 optK (lenStrA (AV.strip t13)) fun t14 =>
 optK (binA .add t11 t14) fun t15 =>
 optK (binA .gtr t15 (.int .i64 3000)) fun t16 =>
 ifK t16
 (Q (.bool true) S)
 (optK (lloadA T_api_Op (some c1) 0) fun t17 =>
 callK Ca F_call_Text [(AV.strip t17)] S fun t18 S_2 =>
 optK (lloadA T_api_Op (some c1) 0) fun t19 =>
 callK Ca F_ref19_Only [(AV.strip t19)] S_2 fun t20 S_3 =>
 optK (lloadA T_api_Op (some c1) 0) fun t22 =>
 callK Ca F_ref19_Text [(AV.strip t22)] S_3 fun t23 S_4 =>
 optK (binA .neq (AV.strip t18) t23) fun t24 =>
 joinK (fun (x29 : AV) (S_6 : St) =>
 optK (pickA (AV.strip t24) (.bool true) x29) fun t30 =>
 ifK (AV.strip t30)
 (Q (.bool false) S_6)
 (callK Ca F_call_Parse [(AV.strip t18)] S_6 fun t33 S_7 =>
 optK (extractA t33 0) fun t34 =>
 optK (extractA (stripTup t33 0) 1) fun t35 =>
 optK (lstoreA T_api_Op (some [(.int .i64 0), (.str []), (.int .i64 0), (.int .i64 0), (.int .i64 0), (.str [])]) 0 t34) fun b5 =>
 optK (unA .not (AV.strip t20)) fun t37 =>
 joinK (fun (x44 : AV) =>
 optK (pickA (AV.strip t37) (.bool true) x44) fun t45 =>
 Q (AV.strip t45) S_7) fun j_3 =>
 ifK (AV.strip t37)
 (j_3 (.tup []))
 (joinK (fun (x43 : AV) =>
 optK (pickA (AV.strip (AV.strip t35)) x43 (.bool false)) fun t44 =>
 j_3 (AV.strip t44)) fun j_2 =>
 gK (AV.strip (AV.strip t35))
 (optK (lloadA T_api_Op (some b5) 0) fun t41 =>
 optK (lloadA T_api_Op (some c1) 0) fun t42 =>
 optK (binE (.agg T_api_Op.zero) .eql (AV.strip t41) (AV.strip t42)) fun t43 =>
 j_2 t43)
 (j_2 (.tup []))
 (j_2 (.tup []))))) fun j =>
 ifK (AV.strip t24)
 (j (.tup []) S_4)
 (optK (lloadA T_api_Op (some c1) 0) fun t26 =>
 callK Ca F_call_Right [(AV.strip t26)] S_4 fun t27 S_5 =>
 optK (binE .bool .neq t27 (AV.strip t20)) fun t29 =>
 j t29 S_5)))
theorem law19_CallTexts_eq (Ca) (a0a : Int) (a0b : List UInt8) (a0c : Int) (a0d : Int) (a0e : Int) (a0f : List UInt8) (S0 Q) : WF C Ca 6 (Drw C Ca 6) Tryd.f6 [(.agg [(.int .i64 a0a), (.str a0b), (.int .i64 a0c), (.int .i64 a0d), (.int .i64 a0e), (.str a0f)])] S0 Q = G_law19_CallTexts Ca a0a a0b a0c a0d a0e a0f S0 Q := by kernel_rfl
theorem law19_CallTexts_ok {w0 : World} {a0a : Int} {a0b : List UInt8} {a0c : Int} {a0d : Int} {a0e : Int} {a0f : List UInt8} {S0 : St} {Q : AV → St → Prop} (h : G_law19_CallTexts (ACalls (En w0)) a0a a0b a0c a0d a0e a0f S0 Q) : AC w0 F_law19_CallTexts [(.agg [(.int .i64 a0a), (.str a0b), (.int .i64 a0c), (.int .i64 a0d), (.int .i64 a0e), (.str a0f)])] S0 Q := fn_ok w0 Tryd.func6 (by kernel_rfl) (by rw [law19_CallTexts_eq]; exact h)
def G_law19_speaks (Ca : Nat → List AV → St → (AV → St → Prop) → Prop) (S0 : St) (Q : AV → St → Prop) : Prop :=
 Ca F_call_Parse [(.str [114, 101, 97, 100, 32, 48, 32, 57, 32, 47, 97, 32, 98])] S0 fun t6 S =>
 optK (extractA t6 0) fun t7 =>
 optK (extractA (stripTup t6 0) 1) fun t8 =>
 optK (lstoreA T_api_Op (some [(.int .i64 0), (.str []), (.int .i64 0), (.int .i64 0), (.int .i64 0), (.str [])]) 0 t7) fun b1 =>
 Ca F_call_Parse [(.str [114, 101, 97, 100, 32, 48, 32, 47, 97, 32, 98])] S fun t10 S_2 =>
 optK (extractA t10 0) fun t11 =>
 optK (extractA (stripTup t10 0) 1) fun t12 =>
 optK (lstoreA T_api_Op (some [(.int .i64 0), (.str []), (.int .i64 0), (.int .i64 0), (.int .i64 0), (.str [])]) 0 t11) fun b3 =>
 joinK (fun (x16 : AV) =>
 optK (pickA (AV.strip (AV.strip t8)) x16 (.bool false)) fun t17 =>
 joinK (fun (x21 : AV) =>
 optK (pickA (AV.strip (AV.strip t17)) x21 (.bool false)) fun t22 =>
 joinK (fun (x26 : AV) (S_4 : St) =>
 optK (pickA (AV.strip (AV.strip t22)) x26 (.bool false)) fun t27 =>
 joinK (fun (x32 : AV) (S_6 : St) =>
 optK (pickA (AV.strip (AV.strip t27)) x32 (.bool false)) fun t33 =>
 Q (AV.strip t33) S_6) fun j =>
 ifK (AV.strip (AV.strip t27))
 (Ca F_call_Show [(.int .i64 6), (.agg [(.int .i64 0), (.int .i64 0), (.int .i64 0), (.int .i64 0), (.int .i64 0), (.str []), (.vs 1 [[(.str [97])]] .full), (.bool true)])] S_4 fun t31 S_5 =>
 optK (binA .eql t31 (.str [111, 107, 32, 101, 110, 100, 32, 54, 49])) fun t32 =>
 j t32 S_5)
 (j (.tup []) S_4)) fun j_2 =>
 ifK (AV.strip (AV.strip t22))
 (optK (lloadA T_api_Op (some b1) 0) fun t24 =>
 callK Ca F_call_Text [(AV.strip t24)] S_2 fun t25 S_3 =>
 optK (binA .eql t25 (.str [114, 101, 97, 100, 32, 48, 32, 57, 32, 47, 97, 32, 98])) fun t26 =>
 j_2 t26 S_3)
 (j_2 (.tup []) S_2)) fun j_3 =>
 ifK (AV.strip (AV.strip t17))
 (optK (lloadA T_api_Op (some b1) 0) fun t19 =>
 optK (binE (.agg T_api_Op.zero) .eql (AV.strip t19) (.agg [(.int .i64 4), (.str [47, 97, 32, 98]), (.int .i64 0), (.int .i64 9), (.int .i64 0), (.str [])])) fun t21 =>
 j_3 t21)
 (j_3 (.tup []))) fun j_4 =>
 ifK (AV.strip (AV.strip t8))
 (optK (unA .not (AV.strip t12)) fun t16 =>
 j_4 t16)
 (j_4 (.tup []))
theorem law19_speaks_eq (Ca) (S0 Q) : WF C Ca 9 (Drw C Ca 9) Tryd.f9 [] S0 Q = G_law19_speaks Ca  S0 Q := by kernel_rfl
theorem law19_speaks_ok {w0 : World} {S0 : St} {Q : AV → St → Prop} (h : G_law19_speaks (ACalls (En w0))  S0 Q) : AC w0 F_law19_speaks [] S0 Q := fn_ok w0 Tryd.func9 (by kernel_rfl) (by rw [law19_speaks_eq]; exact h)
def G_call_Parse (Ca : Nat → List AV → St → (AV → St → Prop) → Prop) (a0 : List UInt8) (S0 : St) (Q : AV → St → Prop) : Prop :=
 Ca F_strings_Cut [(.str a0), (.str [32])] S0 fun t12 S =>
 optK (extractA t12 0) fun t13 =>
 optK (extractA (stripTup t12 0) 1) fun t14 =>
 optK (extractA (stripTup (stripTup t12 0) 1) 2) fun t15 =>
 optK (unA .not (AV.strip t15)) fun t17 =>
 joinK (fun (x20 : AV) (S_3 : St) =>
 optK (pickA (AV.strip t17) (.bool true) x20) fun t21 =>
 ifK (AV.strip t21)
 (Q (.tup [(.agg [(.int .i64 0), (.str []), (.int .i64 0), (.int .i64 0), (.int .i64 0), (.str [])]), (.bool false)]) S_3)
 (joinK (fun (y2_2 : Option (List AV)) (S_6 : St) =>
 joinK (fun (x3 : AV) (y2_3 : Option (List AV)) (S_11 : St) =>
 optK (unA .not (AV.strip x3)) fun t98 =>
 ifK t98
 (optK (lstoreA T_api_Op y2_3 0 (.agg [(.int .i64 0), (.str []), (.int .i64 0), (.int .i64 0), (.int .i64 0), (.str [])])) fun b2_11 =>
 optK ((lloadA T_api_Op (some b2_11) 0).map AV.strip) fun r2_2 =>
 Q (.tup [(AV.flat r2_2), (.bool false)]) S_11)
 (optK (lloadA T_api_Op y2_3 0) fun t100 =>
 optK (lstoreA T_api_Op y2_3 0 (AV.strip t100)) fun b2_12 =>
 optK ((lloadA T_api_Op (some b2_12) 0).map AV.strip) fun r2_3 =>
 Q (.tup [(AV.flat r2_3), (.bool true)]) S_11)) fun j_5 =>
 optK y2_2 fun _ =>
 optK (lloadA T_int y2_2 0) fun t39 =>
 optK (binA .eql (AV.strip t39) (.int .i64 0)) fun t43 =>
 ifK t43
 (optK (lstoreA T_api_Op y2_2 0 (.agg [(.int .i64 0), (.str []), (.int .i64 0), (.int .i64 0), (.int .i64 0), (.str [])])) fun b2_2 =>
 optK ((lloadA T_api_Op (some b2_2) 0).map AV.strip) fun r2 =>
 Q (.tup [(AV.flat r2), (.bool false)]) S_6)
 (optK (binA .eql (AV.strip t39) (.int .i64 4)) fun t46 =>
 ifK t46
 (callK Ca F_call_numbers [(AV.strip t14), (.int .i64 2), (.bool true)] S_6 fun t49 S_7 =>
 optK (extractA t49 0) fun t50 =>
 optK (extractA (stripTup t49 0) 1) fun t51 =>
 optK (extractA (stripTup (stripTup t49 0) 1) 2) fun t52 =>
 optK y2_2 fun _ =>
 optK (lstoreA T_string y2_2 1 t51) fun b2_3 =>
 ifK (AV.strip t52)
 (optK (idxSlA T_int (AV.strip t50) (.int .i64 0)) fun t56 =>
 optK (loadA T_int S_7 t56) fun t57 =>
 optK (idxSlA T_int (AV.strip t50) (.int .i64 1)) fun t59 =>
 optK (loadA T_int S_7 t59) fun t60 =>
 optK (some b2_3) fun _ =>
 optK (lstoreA T_int (some b2_3) 2 (AV.strip t57)) fun b2_4 =>
 optK (some b2_4) fun _ =>
 optK (lstoreA T_int (some b2_4) 3 (AV.strip t60)) fun b2_5 =>
 j_5 t52 (some b2_5) S_7)
 (j_5 t52 (some b2_3) S_7))
 (optK (binA .eql (AV.strip t39) (.int .i64 6)) fun t64 =>
 ifK t64
 (callK Ca F_call_numbers [(AV.strip t14), (.int .i64 2), (.bool false)] S_6 fun t67 S_8 =>
 optK (extractA t67 0) fun t68 =>
 optK (extractA (stripTup t67 0) 1) fun t69 =>
 optK (extractA (stripTup (stripTup t67 0) 1) 2) fun t70 =>
 ifK (AV.strip t70)
 (optK (idxSlA T_int (AV.strip t68) (.int .i64 0)) fun t73 =>
 optK (loadA T_int S_8 t73) fun t74 =>
 optK (idxSlA T_int (AV.strip t68) (.int .i64 1)) fun t76 =>
 optK (loadA T_int S_8 t76) fun t77 =>
 optK y2_2 fun _ =>
 optK (lstoreA T_int y2_2 4 (AV.strip t74)) fun b2_6 =>
 optK (some b2_6) fun _ =>
 optK (lstoreA T_int (some b2_6) 3 (AV.strip t77)) fun b2_7 =>
 j_5 t70 (some b2_7) S_8)
 (j_5 t70 y2_2 S_8))
 (joinK (fun (x80 : AV) =>
 ifK x80
 (callK Ca F_call_Number [(AV.strip t14)] S_6 fun t85 S_9 =>
 optK (extractA t85 0) fun t86 =>
 optK (extractA (stripTup t85 0) 1) fun t87 =>
 optK y2_2 fun _ =>
 optK (lstoreA T_int y2_2 4 t86) fun b2_8 =>
 j_5 t87 (some b2_8) S_9)
 (optK (binA .eql (AV.strip t39) (.int .i64 8)) fun t90 =>
 ifK t90
 (callK Ca F_call_Bytes [(AV.strip t14)] S_6 fun t93 S_10 =>
 optK (extractA t93 0) fun t94 =>
 optK (extractA (stripTup t93 0) 1) fun t95 =>
 optK y2_2 fun _ =>
 optK (lstoreA T_string y2_2 5 t94) fun b2_9 =>
 j_5 t95 (some b2_9) S_10)
 (optK y2_2 fun _ =>
 optK (lstoreA T_string y2_2 1 (AV.strip t14)) fun b2_10 =>
 j_5 (.bool true) (some b2_10) S_6))) fun j_4 =>
 optK (binA .eql (AV.strip t39) (.int .i64 7)) fun t81 =>
 ifK t81
 (j_4 t81)
 (optK (binA .eql (AV.strip t39) (.int .i64 9)) fun t82 =>
 j_4 t82))))) fun j_6 =>
 Ca F_call_names [] S_3 fun t23 S_4 =>
 loopQ ([(.int .i64 0)], [(some [(.int .i64 0), (.str []), (.int .i64 0), (.int .i64 0), (.int .i64 0), (.str [])])]) (fun v bx => ([v 24], [bx 2])) (fun nx v bx S_5 =>
 optK (binA .lss (v 24) (.int .i64 10)) fun t25 =>
 ifK t25
 (joinK (fun (y2 : Option (List AV)) =>
 optK (binA .add (v 24) (.int .i64 1)) fun t37 =>
 nx ([(AV.strip t37)], [y2]) S_5) fun j_3 =>
 optK (elemA 10 T_string t23 (v 24)) fun t27 =>
 optK (binA .gtr (AV.strip (AV.strip (v 24))) (.int .i64 0)) fun t29 =>
 joinK (fun (x33 : AV) =>
 optK (pickA (AV.strip t29) x33 (.bool false)) fun t34 =>
 ifK (AV.strip t34)
 (optK (bx 2) fun _ =>
 optK (lstoreA T_int (bx 2) 0 (AV.strip (AV.strip (v 24)))) fun b2 =>
 j_3 (some b2))
 (j_3 (bx 2))) fun j_2 =>
 ifK (AV.strip t29)
 (optK (binA .eql (AV.strip (AV.strip t27)) (AV.strip t13)) fun t33 =>
 j_2 t33)
 (j_2 (.tup [])))
 (j_6 (bx 2) S_5)) S_4)) fun j =>
 ifK (AV.strip t17)
 (j (.tup []) S)
 (Ca F_strings_Contains [(.str a0), (.str [10])] S fun t20 S_2 =>
 j t20 S_2)
theorem call_Parse_eq (Ca) (a0 : List UInt8) (S0 Q) : WF C Ca 10 (Drw C Ca 10) Tryd.f10 [(.str a0)] S0 Q = G_call_Parse Ca a0 S0 Q := by kernel_rfl
theorem call_Parse_ok {w0 : World} {a0 : List UInt8} {S0 : St} {Q : AV → St → Prop} (h : G_call_Parse (ACalls (En w0)) a0 S0 Q) : AC w0 F_call_Parse [(.str a0)] S0 Q := fn_ok w0 Tryd.func10 (by kernel_rfl) (by rw [call_Parse_eq]; exact h)
def G_ref19_Only (Ca : Nat → List AV → St → (AV → St → Prop) → Prop) (a0a : Int) (a0b : List UInt8) (a0c : Int) (a0d : Int) (a0e : Int) (a0f : List UInt8) (S0 : St) (Q : AV → St → Prop) : Prop :=
 optK (boxA T_api_Op (.agg [(.int .i64 a0a), (.str a0b), (.int .i64 a0c), (.int .i64 a0d), (.int .i64 a0e), (.str a0f)])) fun c1 =>
 joinK (fun (y1 : Option (List AV)) (S_2 : St) =>
 optK y1 fun _ =>
 optK (lloadA T_string y1 1) fun t22 =>
 optK (binA .eql (AV.strip t22) (.str [])) fun t23 =>
 optK y1 fun _ =>
 optK (lloadA T_int y1 2) fun t25 =>
 optK (binA .eql (AV.strip t25) (.int .i64 0)) fun t26 =>
 optK y1 fun _ =>
 optK (lloadA T_int y1 3) fun t28 =>
 optK (binA .eql (AV.strip t28) (.int .i64 0)) fun t29 =>
 optK y1 fun _ =>
 optK (lloadA T_int y1 4) fun t31 =>
 optK (binA .eql (AV.strip t31) (.int .i64 0)) fun t32 =>
 optK y1 fun _ =>
 optK (lloadA T_string y1 5) fun t34 =>
 optK (binA .eql (AV.strip t34) (.str [])) fun t35 =>
 optK y1 fun _ =>
 optK (lloadA T_int y1 0) fun t37 =>
 joinK (fun (x38 : AV) =>
 ifK x38
 (joinK (fun (x45 : AV) =>
 optK (pickA (AV.strip (AV.strip t26)) x45 (.bool false)) fun t46 =>
 joinK (fun (x48 : AV) =>
 optK (pickA (AV.strip (AV.strip t46)) x48 (.bool false)) fun t49 =>
 joinK (fun (x51 : AV) =>
 optK (pickA (AV.strip (AV.strip t49)) x51 (.bool false)) fun t52 =>
 Q (AV.strip t52) S_2) fun j =>
 ifK (AV.strip (AV.strip t49))
 (j (AV.strip t35))
 (j (.tup []))) fun j_2 =>
 ifK (AV.strip (AV.strip t46))
 (j_2 (AV.strip t32))
 (j_2 (.tup []))) fun j_3 =>
 ifK (AV.strip (AV.strip t26))
 (j_3 (AV.strip t29))
 (j_3 (.tup [])))
 (optK (binA .eql (AV.strip t37) (.int .i64 4)) fun t54 =>
 ifK t54
 (joinK (fun (x57 : AV) =>
 optK (pickA (AV.strip (AV.strip t32)) x57 (.bool false)) fun t58 =>
 Q (AV.strip t58) S_2) fun j_4 =>
 ifK (AV.strip (AV.strip t32))
 (j_4 (AV.strip t35))
 (j_4 (.tup [])))
 (optK (binA .eql (AV.strip t37) (.int .i64 6)) fun t60 =>
 ifK t60
 (joinK (fun (x63 : AV) =>
 optK (pickA (AV.strip (AV.strip t23)) x63 (.bool false)) fun t64 =>
 joinK (fun (x66 : AV) =>
 optK (pickA (AV.strip (AV.strip t64)) x66 (.bool false)) fun t67 =>
 Q (AV.strip t67) S_2) fun j_5 =>
 ifK (AV.strip (AV.strip t64))
 (j_5 (AV.strip t35))
 (j_5 (.tup []))) fun j_6 =>
 ifK (AV.strip (AV.strip t23))
 (j_6 (AV.strip t26))
 (j_6 (.tup [])))
 (joinK (fun (x68 : AV) =>
 ifK x68
 (joinK (fun (x73 : AV) =>
 optK (pickA (AV.strip (AV.strip t23)) x73 (.bool false)) fun t74 =>
 joinK (fun (x76 : AV) =>
 optK (pickA (AV.strip (AV.strip t74)) x76 (.bool false)) fun t77 =>
 joinK (fun (x79 : AV) =>
 optK (pickA (AV.strip (AV.strip t77)) x79 (.bool false)) fun t80 =>
 Q (AV.strip t80) S_2) fun j_7 =>
 ifK (AV.strip (AV.strip t77))
 (j_7 (AV.strip t35))
 (j_7 (.tup []))) fun j_8 =>
 ifK (AV.strip (AV.strip t74))
 (j_8 (AV.strip t29))
 (j_8 (.tup []))) fun j_9 =>
 ifK (AV.strip (AV.strip t23))
 (j_9 (AV.strip t26))
 (j_9 (.tup [])))
 (optK (binA .eql (AV.strip t37) (.int .i64 8)) fun t82 =>
 ifK t82
 (joinK (fun (x85 : AV) =>
 optK (pickA (AV.strip (AV.strip t23)) x85 (.bool false)) fun t86 =>
 joinK (fun (x88 : AV) =>
 optK (pickA (AV.strip (AV.strip t86)) x88 (.bool false)) fun t89 =>
 joinK (fun (x91 : AV) =>
 optK (pickA (AV.strip (AV.strip t89)) x91 (.bool false)) fun t92 =>
 Q (AV.strip t92) S_2) fun j_10 =>
 ifK (AV.strip (AV.strip t89))
 (j_10 (AV.strip t32))
 (j_10 (.tup []))) fun j_11 =>
 ifK (AV.strip (AV.strip t86))
 (j_11 (AV.strip t29))
 (j_11 (.tup []))) fun j_12 =>
 ifK (AV.strip (AV.strip t23))
 (j_12 (AV.strip t26))
 (j_12 (.tup [])))
 (Q (.bool false) S_2))) fun j_13 =>
 optK (binA .eql (AV.strip t37) (.int .i64 7)) fun t69 =>
 ifK t69
 (j_13 t69)
 (optK (binA .eql (AV.strip t37) (.int .i64 9)) fun t70 =>
 j_13 t70))))) fun j_14 =>
 optK (binA .eql (AV.strip t37) (.int .i64 1)) fun t39 =>
 ifK t39
 (j_14 t39)
 (optK (binA .eql (AV.strip t37) (.int .i64 2)) fun t40 =>
 ifK t40
 (j_14 t40)
 (optK (binA .eql (AV.strip t37) (.int .i64 3)) fun t41 =>
 ifK t41
 (j_14 t41)
 (optK (binA .eql (AV.strip t37) (.int .i64 5)) fun t42 =>
 j_14 t42)))) fun j_15 =>
 loopQ ([(.int .i64 0)], [(some c1)]) (fun v bx => ([v 3], [bx 1])) (fun nx v bx S =>
 optK (bx 1) fun _ =>
 optK (lloadA T_string (bx 1) 1) fun t11 =>
 optK (lenStrA (AV.strip t11)) fun t12 =>
 optK (binA .lss (AV.strip (v 3)) t12) fun t13 =>
 ifK t13
 (optK (bx 1) fun _ =>
 optK (lloadA T_string (bx 1) 1) fun t17 =>
 optK (charA (AV.strip t17) (AV.strip (v 3))) fun t19 =>
 optK (binA .eql t19 (.int .u8 10)) fun t20 =>
 ifK t20
 (Q (.bool false) S)
 (optK (binA .add (AV.strip (v 3)) (.int .i64 1)) fun t15 =>
 nx ([t15], [(bx 1)]) S))
 (j_15 (bx 1) S)) S0
theorem ref19_Only_eq (Ca) (a0a : Int) (a0b : List UInt8) (a0c : Int) (a0d : Int) (a0e : Int) (a0f : List UInt8) (S0 Q) : WF C Ca 11 (Drw C Ca 11) Tryd.f11 [(.agg [(.int .i64 a0a), (.str a0b), (.int .i64 a0c), (.int .i64 a0d), (.int .i64 a0e), (.str a0f)])] S0 Q = G_ref19_Only Ca a0a a0b a0c a0d a0e a0f S0 Q := by kernel_rfl
theorem ref19_Only_ok {w0 : World} {a0a : Int} {a0b : List UInt8} {a0c : Int} {a0d : Int} {a0e : Int} {a0f : List UInt8} {S0 : St} {Q : AV → St → Prop} (h : G_ref19_Only (ACalls (En w0)) a0a a0b a0c a0d a0e a0f S0 Q) : AC w0 F_ref19_Only [(.agg [(.int .i64 a0a), (.str a0b), (.int .i64 a0c), (.int .i64 a0d), (.int .i64 a0e), (.str a0f)])] S0 Q := fn_ok w0 Tryd.func11 (by kernel_rfl) (by rw [ref19_Only_eq]; exact h)
def G_ref19_Text (Ca : Nat → List AV → St → (AV → St → Prop) → Prop) (a0a : Int) (a0b : List UInt8) (a0c : Int) (a0d : Int) (a0e : Int) (a0f : List UInt8) (S0 : St) (Q : AV → St → Prop) : Prop :=
 optK (boxA T_api_Op (.agg [(.int .i64 a0a), (.str a0b), (.int .i64 a0c), (.int .i64 a0d), (.int .i64 a0e), (.str a0f)])) fun c1 =>
 optK (some c1) fun _ =>
 optK (lloadA T_int (some c1) 0) fun t5 =>
 optK (binA .lss (AV.strip t5) (.int .i64 1)) fun t6 =>
 joinK (fun (x10 : AV) =>
 optK (pickA (AV.strip t6) (.bool true) x10) fun t11 =>
 ifK (AV.strip t11)
 (Q (.str []) S0)
 (optK (some c1) fun _ =>
 optK (lloadA T_int (some c1) 0) fun t13 =>
 callK Ca F_ref19_Name [(AV.strip t13)] S0 fun t14 S =>
 optK (binA .add t14 (.str [32])) fun t15 =>
 optK (some c1) fun _ =>
 optK (lloadA T_int (some c1) 0) fun t17 =>
 optK (binA .eql (AV.strip t17) (.int .i64 4)) fun t19 =>
 ifK t19
 (optK (some c1) fun _ =>
 optK (lloadA T_int (some c1) 2) fun t22 =>
 optK (some c1) fun _ =>
 optK (lloadA T_int (some c1) 3) fun t27 =>
 optK (some c1) fun _ =>
 optK (lloadA T_string (some c1) 1) fun t32 =>
 callK Ca F_ref19_Num [(AV.strip t22)] S fun t23 S_2 =>
 optK (binA .add (AV.strip t15) t23) fun t24 =>
 optK (binA .add t24 (.str [32])) fun t25 =>
 callK Ca F_ref19_Num [(AV.strip t27)] S_2 fun t28 S_3 =>
 optK (binA .add t25 t28) fun t29 =>
 optK (binA .add t29 (.str [32])) fun t30 =>
 optK (binA .add t30 (AV.strip t32)) fun t33 =>
 Q t33 S_3)
 (optK (binA .eql (AV.strip t17) (.int .i64 6)) fun t35 =>
 ifK t35
 (optK (some c1) fun _ =>
 optK (lloadA T_int (some c1) 4) fun t38 =>
 optK (some c1) fun _ =>
 optK (lloadA T_int (some c1) 3) fun t43 =>
 callK Ca F_ref19_Num [(AV.strip t38)] S fun t39 S_4 =>
 optK (binA .add (AV.strip t15) t39) fun t40 =>
 optK (binA .add t40 (.str [32])) fun t41 =>
 callK Ca F_ref19_Num [(AV.strip t43)] S_4 fun t44 S_5 =>
 optK (binA .add t41 t44) fun t45 =>
 Q t45 S_5)
 (joinK (fun (x46 : AV) =>
 ifK x46
 (optK (some c1) fun _ =>
 optK (lloadA T_int (some c1) 4) fun t51 =>
 callK Ca F_ref19_Num [(AV.strip t51)] S fun t52 S_6 =>
 optK (binA .add (AV.strip t15) t52) fun t53 =>
 Q t53 S_6)
 (optK (binA .eql (AV.strip t17) (.int .i64 8)) fun t55 =>
 ifK t55
 (optK (some c1) fun _ =>
 optK (lloadA T_string (some c1) 5) fun t58 =>
 callK Ca F_ref19_Hex [(AV.strip t58)] S fun t59 S_7 =>
 optK (binA .add (AV.strip t15) t59) fun t60 =>
 Q t60 S_7)
 (optK (some c1) fun _ =>
 optK (lloadA T_string (some c1) 1) fun t63 =>
 optK (binA .add (AV.strip t15) (AV.strip t63)) fun t64 =>
 Q t64 S))) fun j_2 =>
 optK (binA .eql (AV.strip t17) (.int .i64 7)) fun t47 =>
 ifK t47
 (j_2 t47)
 (optK (binA .eql (AV.strip t17) (.int .i64 9)) fun t48 =>
 j_2 t48))))) fun j =>
 ifK (AV.strip t6)
 (j (.tup []))
 (optK (some c1) fun _ =>
 optK (lloadA T_int (some c1) 0) fun t9 =>
 optK (binA .gtr (AV.strip t9) (.int .i64 9)) fun t10 =>
 j t10)
theorem ref19_Text_eq (Ca) (a0a : Int) (a0b : List UInt8) (a0c : Int) (a0d : Int) (a0e : Int) (a0f : List UInt8) (S0 Q) : WF C Ca 12 (Drw C Ca 12) Tryd.f12 [(.agg [(.int .i64 a0a), (.str a0b), (.int .i64 a0c), (.int .i64 a0d), (.int .i64 a0e), (.str a0f)])] S0 Q = G_ref19_Text Ca a0a a0b a0c a0d a0e a0f S0 Q := by kernel_rfl
theorem ref19_Text_ok {w0 : World} {a0a : Int} {a0b : List UInt8} {a0c : Int} {a0d : Int} {a0e : Int} {a0f : List UInt8} {S0 : St} {Q : AV → St → Prop} (h : G_ref19_Text (ACalls (En w0)) a0a a0b a0c a0d a0e a0f S0 Q) : AC w0 F_ref19_Text [(.agg [(.int .i64 a0a), (.str a0b), (.int .i64 a0c), (.int .i64 a0d), (.int .i64 a0e), (.str a0f)])] S0 Q := fn_ok w0 Tryd.func12 (by kernel_rfl) (by rw [ref19_Text_eq]; exact h)
def G_call_Bytes (Ca : Nat → List AV → St → (AV → St → Prop) → Prop) (a0 : List UInt8) (S0 : St) (Q : AV → St → Prop) : Prop :=
 ifK (.bool (a0 == [45]))
 (Q (.tup [(.str []), (.bool true)]) S0)
 (optK (makeSliceA T_uint8 false S0 (.int .i64 0) (.int .i64 (IntKind.i64.wrap (Int.tdiv (List.length a0 : Int) 2)))) fun p13 =>
 joinK (fun (x4 : AV) (S_4 : St) =>
 optK (convBytesA S_4 (AV.strip x4)) fun t45 =>
 joinK (fun (x52 : AV) =>
 optK (pickA (.bool (!(a0 == []))) x52 (.bool false)) fun t53 =>
 Q (.tup [(AV.flat t45), (AV.flat (AV.strip t53))]) S_4) fun j_2 =>
 ifK (.bool (!(a0 == [])))
 (j_2 (.bool ((Int.tmod (List.length a0 : Int) 2) == 0)))
 (j_2 (.tup []))) fun j_3 =>
 loopQ ([p13.1, (.int .i64 0)], []) (fun v bx => ([v 4, v 5], [])) (fun nx v bx S =>
 optK (binA .add (AV.strip (v 5)) (.int .i64 1)) fun t15 =>
 optK (binA .lss t15 (.int .i64 (List.length a0 : Int))) fun t18 =>
 ifK t18
 (optK (charA (.str a0) (AV.strip (v 5))) fun t23 =>
 optK (binA .add (AV.strip (v 5)) (.int .i64 1)) fun t27 =>
 optK (charA (.str a0) t27) fun t28 =>
 callK Ca F_strings_IndexByte [(.str [48, 49, 50, 51, 52, 53, 54, 55, 56, 57, 97, 98, 99, 100, 101, 102]), t23] S fun t24 S_2 =>
 callK Ca F_strings_IndexByte [(.str [48, 49, 50, 51, 52, 53, 54, 55, 56, 57, 97, 98, 99, 100, 101, 102]), t28] S_2 fun t29 S_3 =>
 optK (binA .lss (AV.strip t24) (.int .i64 0)) fun t31 =>
 joinK (fun (x34 : AV) =>
 optK (pickA (AV.strip t31) (.bool true) x34) fun t35 =>
 ifK (AV.strip t35)
 (Q (.tup [(.str []), (.bool false)]) S_3)
 (optK (binA .shl (AV.strip t24) (.int .u64 4)) fun t38 =>
 optK (binA .or t38 (AV.strip t29)) fun t40 =>
 optK (convIntA .u8 t40) fun t41 =>
 optK (elemVals 1 [t41]) fun e42 =>
 optK (appendA T_uint8 S_3 (v 4) (.vs 1 e42 .full)) fun t43 =>
 optK (binA .add (AV.strip (v 5)) (.int .i64 2)) fun t20 =>
 nx ([t43, t20], []) S_3)) fun j =>
 ifK (AV.strip t31)
 (j (.tup []))
 (optK (binA .lss (AV.strip t29) (.int .i64 0)) fun t34 =>
 j t34))
 (j_3 (v 4) S)) p13.2)
theorem call_Bytes_eq (Ca) (a0 : List UInt8) (S0 Q) : WF C Ca 13 (Drw C Ca 13) Tryd.f13 [(.str a0)] S0 Q = G_call_Bytes Ca a0 S0 Q := by kernel_rfl
theorem call_Bytes_ok {w0 : World} {a0 : List UInt8} {S0 : St} {Q : AV → St → Prop} (h : G_call_Bytes (ACalls (En w0)) a0 S0 Q) : AC w0 F_call_Bytes [(.str a0)] S0 Q := fn_ok w0 Tryd.func13 (by kernel_rfl) (by rw [call_Bytes_eq]; exact h)
def G_call_Hex (Ca : Nat → List AV → St → (AV → St → Prop) → Prop) (a0 : List UInt8) (S0 : St) (Q : AV → St → Prop) : Prop :=
 ifK (.bool (a0 == []))
 (Q (.str [45]) S0)
 (joinK (fun (S_4 : St) =>
 Ca F_strings_Builder_String [(.ptr S0.length 0)] S_4 fun t25 S_5 =>
 Q t25 S_5) fun j =>
 loopQ ([(.int .i64 0)], []) (fun v bx => ([v 9], [])) (fun nx v bx S =>
 optK (binA .lss (v 9) (.int .i64 (List.length a0 : Int))) fun t10 =>
 ifK t10
 (optK (charA (.str a0) (AV.strip (AV.strip (v 9)))) fun t14 =>
 optK (binA .shr t14 (.int .u64 4)) fun t15 =>
 optK (charA (.str [48, 49, 50, 51, 52, 53, 54, 55, 56, 57, 97, 98, 99, 100, 101, 102]) t15) fun t16 =>
 callK Ca F_strings_Builder_WriteByte [(.ptr S0.length 0), t16] S fun t17 S_2 =>
 optK (charA (.str a0) (AV.strip (AV.strip (v 9)))) fun t20 =>
 optK (binA .and t20 (.int .u8 15)) fun t21 =>
 optK (charA (.str [48, 49, 50, 51, 52, 53, 54, 55, 56, 57, 97, 98, 99, 100, 101, 102]) t21) fun t22 =>
 callK Ca F_strings_Builder_WriteByte [(.ptr S0.length 0), t22] S_2 fun t23 S_3 =>
 optK (binA .add (v 9) (.int .i64 1)) fun t24 =>
 nx ([(AV.strip t24)], []) S_3)
 (j S)) (S0 ++ [.cells T_strings_Builder.zero t_strings_Builder]))
theorem call_Hex_eq (Ca) (a0 : List UInt8) (S0 Q) : WF C Ca 14 (Drw C Ca 14) Tryd.f14 [(.str a0)] S0 Q = G_call_Hex Ca a0 S0 Q := by kernel_rfl
theorem call_Hex_ok {w0 : World} {a0 : List UInt8} {S0 : St} {Q : AV → St → Prop} (h : G_call_Hex (ACalls (En w0)) a0 S0 Q) : AC w0 F_call_Hex [(.str a0)] S0 Q := fn_ok w0 Tryd.func14 (by kernel_rfl) (by rw [call_Hex_eq]; exact h)
def G_call_Number (Ca : Nat → List AV → St → (AV → St → Prop) → Prop) (a0 : List UInt8) (S0 : St) (Q : AV → St → Prop) : Prop :=
 Ca F_strconv_Atoi [(.str a0)] S0 fun t8 S =>
 optK (extractA t8 0) fun t9 =>
 optK (extractA (stripTup t8 0) 1) fun t10 =>
 optK (binE .ifc .eql (AV.strip t10) .nilifc) fun t13 =>
 joinK (fun (x18 : AV) (S_3 : St) =>
 optK (pickA (AV.strip t13) x18 (.bool false)) fun t19 =>
 Q (.tup [(AV.flat (AV.strip t9)), (AV.flat (AV.strip t19))]) S_3) fun j =>
 ifK (AV.strip t13)
 (callK Ca F_strconv_Itoa [(AV.strip t9)] S fun t16 S_2 =>
 optK (binA .eql t16 (.str a0)) fun t18 =>
 j t18 S_2)
 (j (.tup []) S)
theorem call_Number_eq (Ca) (a0 : List UInt8) (S0 Q) : WF C Ca 15 (Drw C Ca 15) Tryd.f15 [(.str a0)] S0 Q = G_call_Number Ca a0 S0 Q := by kernel_rfl
theorem call_Number_ok {w0 : World} {a0 : List UInt8} {S0 : St} {Q : AV → St → Prop} (h : G_call_Number (ACalls (En w0)) a0 S0 Q) : AC w0 F_call_Number [(.str a0)] S0 Q := fn_ok w0 Tryd.func15 (by kernel_rfl) (by rw [call_Number_eq]; exact h)
def G_ref19_Num (Ca : Nat → List AV → St → (AV → St → Prop) → Prop) (a0 : Int) (S0 : St) (Q : AV → St → Prop) : Prop :=
 ifK (.bool (decide (a0 < 0)))
 (optK (convBytesA S0 (.vs 1 [[(.int .u8 (IntKind.u8.wrap (IntKind.i64.wrap (48 - (Int.tmod a0 10)))))]] .full)) fun t12 =>
 ifK (.bool (decide (a0 > (-10))))
 (optK (binA .add (.str [45]) (AV.strip t12)) fun t16 =>
 Q t16 S0)
 (Ca F_ref19_Num [(.int .i64 (IntKind.i64.wrap (Int.tdiv a0 10)))] S0 fun t19 S =>
 optK (binA .add t19 (AV.strip t12)) fun t21 =>
 Q t21 S))
 (optK (convBytesA S0 (.vs 1 [[(.int .u8 (IntKind.u8.wrap (IntKind.i64.wrap (48 + (Int.tmod a0 10)))))]] .full)) fun t27 =>
 ifK (.bool (decide (a0 < 10)))
 (Q (AV.strip t27) S0)
 (Ca F_ref19_Num [(.int .i64 (IntKind.i64.wrap (Int.tdiv a0 10)))] S0 fun t33 S_2 =>
 optK (binA .add t33 (AV.strip t27)) fun t35 =>
 Q t35 S_2))
theorem ref19_Num_eq (Ca) (a0 : Int) (S0 Q) : WF C Ca 16 (Drw C Ca 16) Tryd.f16 [(.int .i64 a0)] S0 Q = G_ref19_Num Ca a0 S0 Q := by kernel_rfl
theorem ref19_Num_ok {w0 : World} {a0 : Int} {S0 : St} {Q : AV → St → Prop} (h : G_ref19_Num (ACalls (En w0)) a0 S0 Q) : AC w0 F_ref19_Num [(.int .i64 a0)] S0 Q := fn_ok w0 Tryd.func16 (by kernel_rfl) (by rw [ref19_Num_eq]; exact h)
def G_ref19_Hex (Ca : Nat → List AV → St → (AV → St → Prop) → Prop) (a0 : List UInt8) (S0 : St) (Q : AV → St → Prop) : Prop :=
 ifK (.bool (a0 == []))
 (Q (.str [45]) S0)
 (joinK (fun (x3 : AV) (S_4 : St) =>
 optK (convBytesA S_4 (AV.strip x3)) fun t30 =>
 Q t30 S_4) fun j =>
 loopQ ([(.vs 1 [] .full), (.int .i64 0)], []) (fun v bx => ([v 3, v 4], [])) (fun nx v bx S =>
 optK (binA .lss (AV.strip (v 4)) (.int .i64 (List.length a0 : Int))) fun t11 =>
 ifK t11
 (optK (charA (.str a0) (AV.strip (v 4))) fun t17 =>
 optK (convIntA .i64 t17) fun t18 =>
 optK (binA .quo t18 (.int .i64 16)) fun t19 =>
 optK (charA (.str a0) (AV.strip (v 4))) fun t23 =>
 optK (convIntA .i64 t23) fun t24 =>
 optK (binA .rem t24 (.int .i64 16)) fun t25 =>
 callK Ca F_ref19_digit [t19] S fun t20 S_2 =>
 callK Ca F_ref19_digit [t25] S_2 fun t26 S_3 =>
 optK (elemVals 1 [t20, t26]) fun e27 =>
 optK (appendA T_uint8 S_3 (v 3) (.vs 1 e27 .full)) fun t28 =>
 optK (binA .add (AV.strip (v 4)) (.int .i64 1)) fun t13 =>
 nx ([t28, t13], []) S_3)
 (j (v 3) S)) S0)
theorem ref19_Hex_eq (Ca) (a0 : List UInt8) (S0 Q) : WF C Ca 17 (Drw C Ca 17) Tryd.f17 [(.str a0)] S0 Q = G_ref19_Hex Ca a0 S0 Q := by kernel_rfl
theorem ref19_Hex_ok {w0 : World} {a0 : List UInt8} {S0 : St} {Q : AV → St → Prop} (h : G_ref19_Hex (ACalls (En w0)) a0 S0 Q) : AC w0 F_ref19_Hex [(.str a0)] S0 Q := fn_ok w0 Tryd.func17 (by kernel_rfl) (by rw [ref19_Hex_eq]; exact h)
def G_call_Show (Ca : Nat → List AV → St → (AV → St → Prop) → Prop) (a0 : Int) (a1a : Int) (a1b : Int) (a1c : Int) (a1d : Int) (a1e : Int) (a1f : List UInt8) (a1g : List (List AV)) (a1gr : Rt) (a1h : Bool) (S0 : St) (Q : AV → St → Prop) : Prop :=
 optK (boxA T_api_Result (.agg [(.int .i64 a1a), (.int .i64 a1b), (.int .i64 a1c), (.int .i64 a1d), (.int .i64 a1e), (.str a1f), (.vs 1 a1g a1gr), (.bool a1h)])) fun c3 =>
 optK (some c3) fun _ =>
 optK (lloadA T_api_Errno (some c3) 0) fun t9 =>
 optK (binA .neq (AV.strip t9) (.int .i64 0)) fun t10 =>
 ifK t10
 (optK (some c3) fun _ =>
 optK (lloadA T_api_Errno (some c3) 0) fun t12 =>
 callK Ca F_strconv_Itoa [(AV.strip t12)] S0 fun t13 S =>
 optK (binA .add (.str [101, 114, 114, 111, 114, 32]) t13) fun t14 =>
 Q t14 S)
 (joinK (fun (x5_2 : AV) (S_10 : St) =>
 Q (AV.strip x5_2) S_10) fun j_4 =>
 ifK (.bool (a0 == 1))
 (optK (some c3) fun _ =>
 optK (lloadA T_int (some c3) 1) fun t20 =>
 optK (some c3) fun _ =>
 optK (lloadA T_int (some c3) 3) fun t25 =>
 callK Ca F_strconv_Itoa [(AV.strip t20)] S0 fun t21 S_2 =>
 optK (binA .add (.str [32]) t21) fun t22 =>
 optK (binA .add t22 (.str [32])) fun t23 =>
 callK Ca F_strconv_Itoa [(AV.strip t25)] S_2 fun t26 S_3 =>
 optK (binA .add t23 t26) fun t27 =>
 optK (binA .add (.str [111, 107]) t27) fun t28 =>
 j_4 t28 S_3)
 (ifK (.bool (a0 == 2))
 (optK (some c3) fun _ =>
 optK (lloadA T_int (some c3) 1) fun t33 =>
 optK (some c3) fun _ =>
 optK (lloadA T_int (some c3) 2) fun t38 =>
 callK Ca F_strconv_Itoa [(AV.strip t33)] S0 fun t34 S_4 =>
 optK (binA .add (.str [32]) t34) fun t35 =>
 optK (binA .add t35 (.str [32])) fun t36 =>
 callK Ca F_strconv_Itoa [(AV.strip t38)] S_4 fun t39 S_5 =>
 optK (binA .add t36 t39) fun t40 =>
 optK (binA .add (.str [111, 107]) t40) fun t41 =>
 j_4 t41 S_5)
 (joinK (fun (x42 : AV) =>
 ifK x42
 (optK (some c3) fun _ =>
 optK (lloadA T_string (some c3) 5) fun t47 =>
 callK Ca F_call_Hex [(AV.strip t47)] S0 fun t48 S_6 =>
 optK (binA .add (.str [32]) t48) fun t49 =>
 optK (binA .add (.str [111, 107]) t49) fun t50 =>
 j_4 t50 S_6)
 (joinK (fun (x51 : AV) =>
 ifK x51
 (optK (some c3) fun _ =>
 optK (lloadA T_int (some c3) 4) fun t56 =>
 callK Ca F_strconv_Itoa [(AV.strip t56)] S0 fun t57 S_7 =>
 optK (binA .add (.str [32]) t57) fun t58 =>
 optK (binA .add (.str [111, 107]) t58) fun t59 =>
 j_4 t59 S_7)
 (ifK (.bool (a0 == 6))
 (joinK (fun (x5 : AV) =>
 optK (some c3) fun _ =>
 optK (lloadA T_s_string (some c3) 6) fun t67 =>
 optK (lenSlA (AV.strip t67)) fun t68 =>
 loopQ ([x5, (.int .i64 0)], []) (fun v bx => ([v 5, v 69], [])) (fun nx v bx S_8 =>
 optK (binA .lss (v 69) t68) fun t70 =>
 ifK t70
 (optK (idxSlA T_string (AV.strip t67) (v 69)) fun t71 =>
 optK (loadA T_string S_8 t71) fun t72 =>
 callK Ca F_call_Hex [(AV.strip (AV.strip t72))] S_8 fun t75 S_9 =>
 optK (binA .add (.str [32]) t75) fun t76 =>
 optK (binA .add (AV.strip (v 5)) t76) fun t77 =>
 optK (binA .add (v 69) (.int .i64 1)) fun t78 =>
 nx ([t77, (AV.strip t78)], []) S_9)
 (j_4 (v 5) S_8)) S0) fun j =>
 optK (some c3) fun _ =>
 optK (lloadA T_bool (some c3) 7) fun t63 =>
 ifK (AV.strip t63)
 (optK (binA .add (.str [111, 107]) (.str [32, 101, 110, 100])) fun t65 =>
 j t65)
 (j (.str [111, 107])))
 (j_4 (.str [111, 107]) S0))) fun j_2 =>
 ifK (.bool (a0 == 5))
 (j_2 (.bool (a0 == 5)))
 (j_2 (.bool (a0 == 8))))) fun j_3 =>
 ifK (.bool (a0 == 3))
 (j_3 (.bool (a0 == 3)))
 (j_3 (.bool (a0 == 4))))))
theorem call_Show_eq (Ca) (a0 : Int) (a1a : Int) (a1b : Int) (a1c : Int) (a1d : Int) (a1e : Int) (a1f : List UInt8) (a1g : List (List AV)) (a1gr : Rt) (a1h : Bool) (S0 Q) : WF C Ca 18 (Drw C Ca 18) Tryd.f18 [(.int .i64 a0), (.agg [(.int .i64 a1a), (.int .i64 a1b), (.int .i64 a1c), (.int .i64 a1d), (.int .i64 a1e), (.str a1f), (.vs 1 a1g a1gr), (.bool a1h)])] S0 Q = G_call_Show Ca a0 a1a a1b a1c a1d a1e a1f a1g a1gr a1h S0 Q := by kernel_rfl
theorem call_Show_ok {w0 : World} {a0 : Int} {a1a : Int} {a1b : Int} {a1c : Int} {a1d : Int} {a1e : Int} {a1f : List UInt8} {a1g : List (List AV)} {a1gr : Rt} {a1h : Bool} {S0 : St} {Q : AV → St → Prop} (h : G_call_Show (ACalls (En w0)) a0 a1a a1b a1c a1d a1e a1f a1g a1gr a1h S0 Q) : AC w0 F_call_Show [(.int .i64 a0), (.agg [(.int .i64 a1a), (.int .i64 a1b), (.int .i64 a1c), (.int .i64 a1d), (.int .i64 a1e), (.str a1f), (.vs 1 a1g a1gr), (.bool a1h)])] S0 Q := fn_ok w0 Tryd.func18 (by kernel_rfl) (by rw [call_Show_eq]; exact h)
def G_ref19_Show (Ca : Nat → List AV → St → (AV → St → Prop) → Prop) (a0 : Int) (a1a : Int) (a1b : Int) (a1c : Int) (a1d : Int) (a1e : Int) (a1f : List UInt8) (a1g : List (List AV)) (a1gr : Rt) (a1h : Bool) (S0 : St) (Q : AV → St → Prop) : Prop :=
 optK (boxA T_api_Result (.agg [(.int .i64 a1a), (.int .i64 a1b), (.int .i64 a1c), (.int .i64 a1d), (.int .i64 a1e), (.str a1f), (.vs 1 a1g a1gr), (.bool a1h)])) fun c3 =>
 optK (some c3) fun _ =>
 optK (lloadA T_api_Errno (some c3) 0) fun t8 =>
 optK (binA .neq (AV.strip t8) (.int .i64 0)) fun t9 =>
 ifK t9
 (optK (some c3) fun _ =>
 optK (lloadA T_api_Errno (some c3) 0) fun t11 =>
 callK Ca F_ref19_Num [(AV.strip t11)] S0 fun t12 S =>
 optK (binA .add (.str [101, 114, 114, 111, 114, 32]) t12) fun t13 =>
 Q t13 S)
 (joinK (
 Q (.str [111, 107]) S0) fun j_5 =>
 ifK (.bool (a0 == 1))
 (optK (some c3) fun _ =>
 optK (lloadA T_int (some c3) 1) fun t18 =>
 optK (some c3) fun _ =>
 optK (lloadA T_int (some c3) 3) fun t23 =>
 callK Ca F_ref19_Num [(AV.strip t18)] S0 fun t19 S_2 =>
 optK (binA .add (.str [111, 107, 32]) t19) fun t20 =>
 optK (binA .add t20 (.str [32])) fun t21 =>
 callK Ca F_ref19_Num [(AV.strip t23)] S_2 fun t24 S_3 =>
 optK (binA .add t21 t24) fun t25 =>
 Q t25 S_3)
 (ifK (.bool (a0 == 2))
 (optK (some c3) fun _ =>
 optK (lloadA T_int (some c3) 1) fun t29 =>
 optK (some c3) fun _ =>
 optK (lloadA T_int (some c3) 2) fun t34 =>
 callK Ca F_ref19_Num [(AV.strip t29)] S0 fun t30 S_4 =>
 optK (binA .add (.str [111, 107, 32]) t30) fun t31 =>
 optK (binA .add t31 (.str [32])) fun t32 =>
 callK Ca F_ref19_Num [(AV.strip t34)] S_4 fun t35 S_5 =>
 optK (binA .add t32 t35) fun t36 =>
 Q t36 S_5)
 (joinK (fun (x37 : AV) =>
 ifK x37
 (optK (some c3) fun _ =>
 optK (lloadA T_string (some c3) 5) fun t41 =>
 callK Ca F_ref19_Hex [(AV.strip t41)] S0 fun t42 S_6 =>
 optK (binA .add (.str [111, 107, 32]) t42) fun t43 =>
 Q t43 S_6)
 (joinK (fun (x44 : AV) =>
 ifK x44
 (optK (some c3) fun _ =>
 optK (lloadA T_int (some c3) 4) fun t48 =>
 callK Ca F_ref19_Num [(AV.strip t48)] S0 fun t49 S_7 =>
 optK (binA .add (.str [111, 107, 32]) t49) fun t50 =>
 Q t50 S_7)
 (ifK (.bool (a0 == 6))
 (joinK (fun (x5 : AV) =>
 joinK (fun (x5_2 : AV) (S_10 : St) =>
 Q (AV.strip x5_2) S_10) fun j =>
 loopQ ([x5, (.int .i64 0)], [(some c3)]) (fun v bx => ([v 5, v 6], [bx 3])) (fun nx v bx S_8 =>
 optK (bx 3) fun _ =>
 optK (lloadA T_s_string (bx 3) 6) fun t57 =>
 optK (lenSlA (AV.strip t57)) fun t58 =>
 optK (binA .lss (AV.strip (v 6)) t58) fun t59 =>
 ifK t59
 (optK (binA .add (AV.strip (v 5)) (.str [32])) fun t63 =>
 optK (bx 3) fun _ =>
 optK (lloadA T_s_string (bx 3) 6) fun t65 =>
 optK (idxSlA T_string (AV.strip t65) (AV.strip (v 6))) fun t67 =>
 optK (loadA T_string S_8 t67) fun t68 =>
 callK Ca F_ref19_Hex [(AV.strip t68)] S_8 fun t69 S_9 =>
 optK (binA .add t63 t69) fun t70 =>
 optK (binA .add (AV.strip (v 6)) (.int .i64 1)) fun t61 =>
 nx ([t70, t61], [(bx 3)]) S_9)
 (j (v 5) S_8)) S0) fun j_2 =>
 optK (some c3) fun _ =>
 optK (lloadA T_bool (some c3) 7) fun t54 =>
 ifK (AV.strip t54)
 (j_2 (.str [111, 107, 32, 101, 110, 100]))
 (j_2 (.str [111, 107])))
 (j_5))) fun j_3 =>
 ifK (.bool (a0 == 5))
 (j_3 (.bool (a0 == 5)))
 (j_3 (.bool (a0 == 8))))) fun j_4 =>
 ifK (.bool (a0 == 3))
 (j_4 (.bool (a0 == 3)))
 (j_4 (.bool (a0 == 4))))))
theorem ref19_Show_eq (Ca) (a0 : Int) (a1a : Int) (a1b : Int) (a1c : Int) (a1d : Int) (a1e : Int) (a1f : List UInt8) (a1g : List (List AV)) (a1gr : Rt) (a1h : Bool) (S0 Q) : WF C Ca 19 (Drw C Ca 19) Tryd.f19 [(.int .i64 a0), (.agg [(.int .i64 a1a), (.int .i64 a1b), (.int .i64 a1c), (.int .i64 a1d), (.int .i64 a1e), (.str a1f), (.vs 1 a1g a1gr), (.bool a1h)])] S0 Q = G_ref19_Show Ca a0 a1a a1b a1c a1d a1e a1f a1g a1gr a1h S0 Q := by kernel_rfl
theorem ref19_Show_ok {w0 : World} {a0 : Int} {a1a : Int} {a1b : Int} {a1c : Int} {a1d : Int} {a1e : Int} {a1f : List UInt8} {a1g : List (List AV)} {a1gr : Rt} {a1h : Bool} {S0 : St} {Q : AV → St → Prop} (h : G_ref19_Show (ACalls (En w0)) a0 a1a a1b a1c a1d a1e a1f a1g a1gr a1h S0 Q) : AC w0 F_ref19_Show [(.int .i64 a0), (.agg [(.int .i64 a1a), (.int .i64 a1b), (.int .i64 a1c), (.int .i64 a1d), (.int .i64 a1e), (.str a1f), (.vs 1 a1g a1gr), (.bool a1h)])] S0 Q := fn_ok w0 Tryd.func19 (by kernel_rfl) (by rw [ref19_Show_eq]; exact h)
def G_call_Text (Ca : Nat → List AV → St → (AV → St → Prop) → Prop) (a0a : Int) (a0b : List UInt8) (a0c : Int) (a0d : Int) (a0e : Int) (a0f : List UInt8) (S0 : St) (Q : AV → St → Prop) : Prop :=
 optK (boxA T_api_Op (.agg [(.int .i64 a0a), (.str a0b), (.int .i64 a0c), (.int .i64 a0d), (.int .i64 a0e), (.str a0f)])) fun c1 =>
 optK (some c1) fun _ =>
 optK (lloadA T_int (some c1) 0) fun t5 =>
 optK (binA .lss (AV.strip t5) (.int .i64 1)) fun t6 =>
 joinK (fun (x10 : AV) =>
 optK (pickA (AV.strip t6) (.bool true) x10) fun t11 =>
 ifK (AV.strip t11)
 (Q (.str []) S0)
 (optK (some c1) fun _ =>
 optK (lloadA T_int (some c1) 0) fun t14 =>
 Ca F_call_names [] S0 fun t12 S =>
 optK (elemA 10 T_string t12 (AV.strip t14)) fun t15 =>
 optK (binA .add (AV.strip t15) (.str [32])) fun t16 =>
 optK (some c1) fun _ =>
 optK (lloadA T_int (some c1) 0) fun t18 =>
 optK (binA .eql (AV.strip t18) (.int .i64 4)) fun t20 =>
 ifK t20
 (optK (some c1) fun _ =>
 optK (lloadA T_int (some c1) 2) fun t23 =>
 optK (some c1) fun _ =>
 optK (lloadA T_int (some c1) 3) fun t28 =>
 optK (some c1) fun _ =>
 optK (lloadA T_string (some c1) 1) fun t33 =>
 callK Ca F_strconv_Itoa [(AV.strip t23)] S fun t24 S_2 =>
 optK (binA .add (AV.strip t16) t24) fun t25 =>
 optK (binA .add t25 (.str [32])) fun t26 =>
 callK Ca F_strconv_Itoa [(AV.strip t28)] S_2 fun t29 S_3 =>
 optK (binA .add t26 t29) fun t30 =>
 optK (binA .add t30 (.str [32])) fun t31 =>
 optK (binA .add t31 (AV.strip t33)) fun t34 =>
 Q t34 S_3)
 (optK (binA .eql (AV.strip t18) (.int .i64 6)) fun t36 =>
 ifK t36
 (optK (some c1) fun _ =>
 optK (lloadA T_int (some c1) 4) fun t39 =>
 optK (some c1) fun _ =>
 optK (lloadA T_int (some c1) 3) fun t44 =>
 callK Ca F_strconv_Itoa [(AV.strip t39)] S fun t40 S_4 =>
 optK (binA .add (AV.strip t16) t40) fun t41 =>
 optK (binA .add t41 (.str [32])) fun t42 =>
 callK Ca F_strconv_Itoa [(AV.strip t44)] S_4 fun t45 S_5 =>
 optK (binA .add t42 t45) fun t46 =>
 Q t46 S_5)
 (joinK (fun (x47 : AV) =>
 ifK x47
 (optK (some c1) fun _ =>
 optK (lloadA T_int (some c1) 4) fun t52 =>
 callK Ca F_strconv_Itoa [(AV.strip t52)] S fun t53 S_6 =>
 optK (binA .add (AV.strip t16) t53) fun t54 =>
 Q t54 S_6)
 (optK (binA .eql (AV.strip t18) (.int .i64 8)) fun t56 =>
 ifK t56
 (optK (some c1) fun _ =>
 optK (lloadA T_string (some c1) 5) fun t59 =>
 callK Ca F_call_Hex [(AV.strip t59)] S fun t60 S_7 =>
 optK (binA .add (AV.strip t16) t60) fun t61 =>
 Q t61 S_7)
 (optK (some c1) fun _ =>
 optK (lloadA T_string (some c1) 1) fun t64 =>
 optK (binA .add (AV.strip t16) (AV.strip t64)) fun t65 =>
 Q t65 S))) fun j_2 =>
 optK (binA .eql (AV.strip t18) (.int .i64 7)) fun t48 =>
 ifK t48
 (j_2 t48)
 (optK (binA .eql (AV.strip t18) (.int .i64 9)) fun t49 =>
 j_2 t49))))) fun j =>
 ifK (AV.strip t6)
 (j (.tup []))
 (optK (some c1) fun _ =>
 optK (lloadA T_int (some c1) 0) fun t9 =>
 optK (binA .gtr (AV.strip t9) (.int .i64 9)) fun t10 =>
 j t10)
theorem call_Text_eq (Ca) (a0a : Int) (a0b : List UInt8) (a0c : Int) (a0d : Int) (a0e : Int) (a0f : List UInt8) (S0 Q) : WF C Ca 20 (Drw C Ca 20) Tryd.f20 [(.agg [(.int .i64 a0a), (.str a0b), (.int .i64 a0c), (.int .i64 a0d), (.int .i64 a0e), (.str a0f)])] S0 Q = G_call_Text Ca a0a a0b a0c a0d a0e a0f S0 Q := by kernel_rfl
theorem call_Text_ok {w0 : World} {a0a : Int} {a0b : List UInt8} {a0c : Int} {a0d : Int} {a0e : Int} {a0f : List UInt8} {S0 : St} {Q : AV → St → Prop} (h : G_call_Text (ACalls (En w0)) a0a a0b a0c a0d a0e a0f S0 Q) : AC w0 F_call_Text [(.agg [(.int .i64 a0a), (.str a0b), (.int .i64 a0c), (.int .i64 a0d), (.int .i64 a0e), (.str a0f)])] S0 Q := fn_ok w0 Tryd.func20 (by kernel_rfl) (by rw [call_Text_eq]; exact h)
def G_call_Right (Ca : Nat → List AV → St → (AV → St → Prop) → Prop) (a0a : Int) (a0b : List UInt8) (a0c : Int) (a0d : Int) (a0e : Int) (a0f : List UInt8) (S0 : St) (Q : AV → St → Prop) : Prop :=
 optK (boxA T_api_Op (.agg [(.int .i64 a0a), (.str a0b), (.int .i64 a0c), (.int .i64 a0d), (.int .i64 a0e), (.str a0f)])) fun c1 =>
 optK (some c1) fun _ =>
 optK (lloadA T_int (some c1) 0) fun t6 =>
 optK (binA .lss (AV.strip t6) (.int .i64 1)) fun t7 =>
 joinK (fun (x11 : AV) =>
 optK (pickA (AV.strip t7) (.bool true) x11) fun t12 =>
 joinK (fun (x16 : AV) (S_2 : St) =>
 optK (pickA (AV.strip (AV.strip t12)) (.bool true) x16) fun t17 =>
 ifK (AV.strip t17)
 (Q (.bool false) S_2)
 (optK (lloadA T_api_Op (some c1) 0) fun t19 =>
 callK Ca F_call_Text [(AV.strip t19)] S_2 fun t20 S_3 =>
 callK Ca F_call_Parse [t20] S_3 fun t21 S_4 =>
 optK (extractA t21 0) fun t22 =>
 optK (extractA (stripTup t21 0) 1) fun t23 =>
 optK (lstoreA T_api_Op (some [(.int .i64 0), (.str []), (.int .i64 0), (.int .i64 0), (.int .i64 0), (.str [])]) 0 t22) fun b3 =>
 optK (lloadA T_api_Op (some b3) 0) fun t24 =>
 optK (lloadA T_api_Op (some c1) 0) fun t25 =>
 optK (binE (.agg T_api_Op.zero) .eql (AV.strip t24) (AV.strip t25)) fun t26 =>
 Q t26 S_4)) fun j =>
 ifK (AV.strip (AV.strip t12))
 (j (.tup []) S0)
 (optK (some c1) fun _ =>
 optK (lloadA T_string (some c1) 1) fun t15 =>
 callK Ca F_strings_Contains [(AV.strip t15), (.str [10])] S0 fun t16 S =>
 j t16 S)) fun j_2 =>
 ifK (AV.strip t7)
 (j_2 (.tup []))
 (optK (some c1) fun _ =>
 optK (lloadA T_int (some c1) 0) fun t10 =>
 optK (binA .gtr (AV.strip t10) (.int .i64 9)) fun t11 =>
 j_2 t11)
theorem call_Right_eq (Ca) (a0a : Int) (a0b : List UInt8) (a0c : Int) (a0d : Int) (a0e : Int) (a0f : List UInt8) (S0 Q) : WF C Ca 21 (Drw C Ca 21) Tryd.f21 [(.agg [(.int .i64 a0a), (.str a0b), (.int .i64 a0c), (.int .i64 a0d), (.int .i64 a0e), (.str a0f)])] S0 Q = G_call_Right Ca a0a a0b a0c a0d a0e a0f S0 Q := by kernel_rfl
theorem call_Right_ok {w0 : World} {a0a : Int} {a0b : List UInt8} {a0c : Int} {a0d : Int} {a0e : Int} {a0f : List UInt8} {S0 : St} {Q : AV → St → Prop} (h : G_call_Right (ACalls (En w0)) a0a a0b a0c a0d a0e a0f S0 Q) : AC w0 F_call_Right [(.agg [(.int .i64 a0a), (.str a0b), (.int .i64 a0c), (.int .i64 a0d), (.int .i64 a0e), (.str a0f)])] S0 Q := fn_ok w0 Tryd.func21 (by kernel_rfl) (by rw [call_Right_eq]; exact h)
def G_call_names (Ca : Nat → List AV → St → (AV → St → Prop) → Prop) (S0 : St) (Q : AV → St → Prop) : Prop :=
 optK (buildA T_10_string 1 [(0, (.str [])), (1, (.str [108, 111, 111, 107, 117, 112])), (2, (.str [115, 116, 97, 116])), (3, (.str [114, 101, 97, 100, 108, 105, 110, 107])), (4, (.str [114, 101, 97, 100])), (5, (.str [111, 112, 101, 110])), (6, (.str [112, 97, 103, 101])), (7, (.str [99, 108, 111, 115, 101])), (8, (.str [97, 100, 100])), (9, (.str [114, 101, 109, 111, 118, 101]))]) fun t1 =>
 optK (lstoreA T_10_string (some [(.str []), (.str []), (.str []), (.str []), (.str []), (.str []), (.str []), (.str []), (.str []), (.str [])]) 0 t1) fun b0 =>
 optK ((lloadA T_10_string (some b0) 0).map AV.strip) fun r0 =>
 Q r0 S0
theorem call_names_eq (Ca) (S0 Q) : WF C Ca 34 (Drw C Ca 34) Tryd.f34 [] S0 Q = G_call_names Ca  S0 Q := by kernel_rfl
theorem call_names_ok {w0 : World} {S0 : St} {Q : AV → St → Prop} (h : G_call_names (ACalls (En w0))  S0 Q) : AC w0 F_call_names [] S0 Q := fn_ok w0 Tryd.func34 (by kernel_rfl) (by rw [call_names_eq]; exact h)
def G_call_numbers (Ca : Nat → List AV → St → (AV → St → Prop) → Prop) (a0 : List UInt8) (a1 : Int) (a2 : Bool) (S0 : St) (Q : AV → St → Prop) : Prop :=
 joinK (fun (x9 : AV) =>
 callK Ca F_strings_SplitN [(.str a0), (.str [32]), (AV.strip x9)] S0 fun t22 S =>
 optK (lenSlA (AV.strip t22)) fun t24 =>
 optK (binA .neq t24 (AV.strip x9)) fun t26 =>
 ifK t26
 (Q (.tup [(.vs 1 [] .nil), (.str []), (.bool false)]) S)
 (joinK (fun (x10 : AV) (x11 : AV) (S_4 : St) =>
 ifK (.bool a2)
 (optK (idxSlA T_string (AV.strip x10) (.int .i64 a1)) fun t51 =>
 optK (loadA T_string S_4 t51) fun t52 =>
 Q (.tup [(AV.flat (AV.strip x11)), (AV.flat (AV.strip t52)), (.bool true)]) S_4)
 (Q (.tup [(AV.flat (AV.strip x11)), (.str []), (.bool true)]) S_4)) fun j =>
 optK (cutA T_string t22 none (some (.int .i64 a1)) none) fun t29 =>
 optK (lenSlA t29) fun t30 =>
 loopQ ([(.vs 1 [] .nil), (.int .i64 0)], []) (fun v bx => ([v 11, v 31], [])) (fun nx v bx S_2 =>
 optK (binA .lss (v 31) t30) fun t32 =>
 ifK t32
 (optK (idxSlA T_string t29 (v 31)) fun t33 =>
 optK (loadA T_string S_2 t33) fun t34 =>
 callK Ca F_call_Number [(AV.strip (AV.strip t34))] S_2 fun t37 S_3 =>
 optK (extractA t37 0) fun t38 =>
 optK (extractA (stripTup t37 0) 1) fun t39 =>
 optK (unA .not (AV.strip t39)) fun t41 =>
 ifK t41
 (Q (.tup [(.vs 1 [] .nil), (.str []), (.bool false)]) S_3)
 (optK (elemVals 1 [(AV.strip t38)]) fun e44 =>
 optK (appendA T_int S_3 (v 11) (.vs 1 e44 .full)) fun t45 =>
 optK (binA .add (v 31) (.int .i64 1)) fun t46 =>
 nx ([t45, (AV.strip t46)], []) S_3))
 (j (AV.strip t22) (v 11) S_2)) S)) fun j_2 =>
 ifK (.bool a2)
 (j_2 (.int .i64 (IntKind.i64.wrap (a1 + 1))))
 (j_2 (.int .i64 a1))
theorem call_numbers_eq (Ca) (a0 : List UInt8) (a1 : Int) (a2 : Bool) (S0 Q) : WF C Ca 35 (Drw C Ca 35) Tryd.f35 [(.str a0), (.int .i64 a1), (.bool a2)] S0 Q = G_call_numbers Ca a0 a1 a2 S0 Q := by kernel_rfl
theorem call_numbers_ok {w0 : World} {a0 : List UInt8} {a1 : Int} {a2 : Bool} {S0 : St} {Q : AV → St → Prop} (h : G_call_numbers (ACalls (En w0)) a0 a1 a2 S0 Q) : AC w0 F_call_numbers [(.str a0), (.int .i64 a1), (.bool a2)] S0 Q := fn_ok w0 Tryd.func35 (by kernel_rfl) (by rw [call_numbers_eq]; exact h)
def G_ref19_Name (Ca : Nat → List AV → St → (AV → St → Prop) → Prop) (a0 : Int) (S0 : St) (Q : AV → St → Prop) : Prop :=
 ifK (.bool (a0 == 1))
 (Q (.str [108, 111, 111, 107, 117, 112]) S0)
 (ifK (.bool (a0 == 2))
 (Q (.str [115, 116, 97, 116]) S0)
 (ifK (.bool (a0 == 3))
 (Q (.str [114, 101, 97, 100, 108, 105, 110, 107]) S0)
 (ifK (.bool (a0 == 4))
 (Q (.str [114, 101, 97, 100]) S0)
 (ifK (.bool (a0 == 5))
 (Q (.str [111, 112, 101, 110]) S0)
 (ifK (.bool (a0 == 6))
 (Q (.str [112, 97, 103, 101]) S0)
 (ifK (.bool (a0 == 7))
 (Q (.str [99, 108, 111, 115, 101]) S0)
 (ifK (.bool (a0 == 8))
 (Q (.str [97, 100, 100]) S0)
 (ifK (.bool (a0 == 9))
 (Q (.str [114, 101, 109, 111, 118, 101]) S0)
 (Q (.str []) S0)))))))))
theorem ref19_Name_eq (Ca) (a0 : Int) (S0 Q) : WF C Ca 36 (Drw C Ca 36) Tryd.f36 [(.int .i64 a0)] S0 Q = G_ref19_Name Ca a0 S0 Q := by kernel_rfl
theorem ref19_Name_ok {w0 : World} {a0 : Int} {S0 : St} {Q : AV → St → Prop} (h : G_ref19_Name (ACalls (En w0)) a0 S0 Q) : AC w0 F_ref19_Name [(.int .i64 a0)] S0 Q := fn_ok w0 Tryd.func36 (by kernel_rfl) (by rw [ref19_Name_eq]; exact h)
def G_strings_Builder_WriteByte (Ca : Nat → List AV → St → (AV → St → Prop) → Prop) (a0 : Nat) (a0o : Nat) (a1 : Int) (S0 : St) (Q : AV → St → Prop) : Prop :=
 Ca F_strings_Builder_copyCheck [(.ptr a0 a0o)] S0 fun t6 S =>
 optK (loadA T_s_uint8 S (.ptr a0 (a0o + 1))) fun t11 =>
 optK (appendA T_uint8 (stripMem S (.ptr a0 (a0o + 1))) (AV.strip0 t11) (.vs 1 [[(.int .u8 a1)]] .full)) fun t14 =>
 optK (storeA T_s_uint8 (stripMem S (.ptr a0 (a0o + 1))) (.ptr a0 (a0o + 1)) t14) fun S_2 =>
 Q .nilifc S_2
theorem strings_Builder_WriteByte_eq (Ca) (a0 : Nat) (a0o : Nat) (a1 : Int) (S0 Q) : WF C Ca 38 (Drw C Ca 38) Tryd.f38 [(.ptr a0 a0o), (.int .u8 a1)] S0 Q = G_strings_Builder_WriteByte Ca a0 a0o a1 S0 Q := by kernel_rfl
theorem strings_Builder_WriteByte_ok {w0 : World} {a0 : Nat} {a0o : Nat} {a1 : Int} {S0 : St} {Q : AV → St → Prop} (h : G_strings_Builder_WriteByte (ACalls (En w0)) a0 a0o a1 S0 Q) : AC w0 F_strings_Builder_WriteByte [(.ptr a0 a0o), (.int .u8 a1)] S0 Q := fn_ok w0 Tryd.func38 (by kernel_rfl) (by rw [strings_Builder_WriteByte_eq]; exact h)
def G_ref19_digit (Ca : Nat → List AV → St → (AV → St → Prop) → Prop) (a0 : Int) (S0 : St) (Q : AV → St → Prop) : Prop :=
 ifK (.bool (decide (a0 < 10)))
 (Q (.int .u8 (IntKind.u8.wrap (IntKind.i64.wrap (48 + a0)))) S0)
 (Q (.int .u8 (IntKind.u8.wrap (IntKind.i64.wrap ((IntKind.i64.wrap (97 + a0)) - 10)))) S0)
theorem ref19_digit_eq (Ca) (a0 : Int) (S0 Q) : WF C Ca 42 (Drw C Ca 42) Tryd.f42 [(.int .i64 a0)] S0 Q = G_ref19_digit Ca a0 S0 Q := by kernel_rfl
theorem ref19_digit_ok {w0 : World} {a0 : Int} {S0 : St} {Q : AV → St → Prop} (h : G_ref19_digit (ACalls (En w0)) a0 S0 Q) : AC w0 F_ref19_digit [(.int .i64 a0)] S0 Q := fn_ok w0 Tryd.func42 (by kernel_rfl) (by rw [ref19_digit_eq]; exact h)
end Go.Av
