/- Parts of the proofs of this seat: abstract values over the model, and what the functions of the program do. No condition. -/
import Derived.Test.YtcmiahkfbnojnaaM6
import Derived.Test.YtcmiahkfbnojnaaM5
import Derived.Test.YtcmiahkfbnojnaaProg
import Derived.KernelRfl
set_option linter.all false
set_option linter.unusedVariables false
/-! The seat: its types, and that they agree with its program. -/
namespace Go.Av
open Go.Proofs
abbrev t_unit : Nat := 0
abbrev t_func : Nat := 1
abbrev t_int64 : Nat := 2
abbrev t_int : Nat := 3
abbrev t_bool : Nat := 4
abbrev t_uint8 : Nat := 5
abbrev t_abi_BoundsErrorCode : Nat := 6
abbrev t_struct_x_int64_y_int_signed_bool_code_abi_BoundsErrorCode : Nat := 7
abbrev t_runtime_boundsError : Nat := 8
abbrev t_string : Nat := 9
abbrev t_runtime_errorString : Nat := 10
abbrev t_runtime_plainError : Nat := 11
abbrev t_uintptr : Nat := 12
abbrev t_struct_msg_string_addr_uintptr : Nat := 13
abbrev t_runtime_errorAddressString : Nat := 14
abbrev t_p_runtime_TypeAssertionError : Nat := 15
abbrev t_p_runtime_PanicNilError : Nat := 16
abbrev t_p_abi_Type : Nat := 17
abbrev t_struct_typ_p_abi_Type : Nat := 18
abbrev t_maps_unhashableTypeError : Nat := 19
abbrev t_interface : Nat := 20
abbrev t_int32 : Nat := 21
abbrev t_s_socagelaw17_Act : Nat := 22
abbrev t_func_bool : Nat := 23
abbrev t_map_int_struct : Nat := 24
abbrev t_s_int : Nat := 25
abbrev t_struct_readers_map_int_struct_writer_int_waiting_s_int : Nat := 26
abbrev t_gate_Gate : Nat := 27
abbrev t_struct_Readers_s_int_Writers_s_int_Waiting_s_int : Nat := 28
abbrev t_socageref17_Gate : Nat := 29
abbrev t_struct_Kind_uint8_ID_uint8 : Nat := 30
abbrev t_socagelaw17_Act : Nat := 31
abbrev t_func_int_bool : Nat := 32
abbrev t_socageref17_Gate_bool : Nat := 33
abbrev t_func_socageref17_Gate_int_socageref17_Gate_bool : Nat := 34
abbrev t_func_int : Nat := 35
abbrev t_func_socageref17_Gate_int_bool : Nat := 36
abbrev t_func_s_socagelaw17_Act_bool : Nat := 37
abbrev t_func_uint8_uint8_bool : Nat := 38
abbrev t_s_s_string : Nat := 39
abbrev t_s_string : Nat := 40
abbrev t_func_s_string_bool : Nat := 41
abbrev t_s_heap_Item : Nat := 42
abbrev t_func_s_string_s_heap_Item : Nat := 43
abbrev t_s_socageref09_Item : Nat := 44
abbrev t_func_s_s_string_s_socageref09_Item : Nat := 45
abbrev t_func_s_heap_Item_s_heap_Item : Nat := 46
abbrev t_struct_Name_string_Row_int : Nat := 47
abbrev t_heap_Item : Nat := 48
abbrev t_socageref09_Item : Nat := 49
abbrev t_func_s_s_string_bool : Nat := 50
abbrev t_func_s_heap_Item_s_string : Nat := 51
abbrev t_func_s_s_string_uint8_bool : Nat := 52
abbrev t_s_api_Extent : Nat := 53
abbrev t_func_s_api_Extent_bool : Nat := 54
abbrev t_func_int_api_Extent_bool : Nat := 55
abbrev t_func_int_s_api_Extent_bool : Nat := 56
abbrev t_2_int : Nat := 57
abbrev t_func_int_s_api_Extent_int_int_string : Nat := 58
abbrev t_func_int_s_api_Extent_2_int_bool : Nat := 59
abbrev t_func_string_s_api_Extent : Nat := 60
abbrev t_struct_Off_int_Data_string : Nat := 61
abbrev t_api_Extent : Nat := 62
abbrev t_func_string_bool : Nat := 63
abbrev t_p_gate_Gate : Nat := 64
abbrev t_struct : Nat := 65
abbrev t_func_int_int : Nat := 66
abbrev t_func_s_int_int_bool : Nat := 67
abbrev t_func_s_int_int_s_int : Nat := 68
abbrev t_struct_bool : Nat := 69
abbrev t_func_string_string_bool : Nat := 70
abbrev t_p_heap_heads : Nat := 71
abbrev t_func_heap_Item_heap_Item_bool : Nat := 72
abbrev t_func_heap_Item_bool : Nat := 73
abbrev t_s_heap_head : Nat := 74
abbrev t_struct_l_s_heap_head_less_func_heap_Item_heap_Item_bool : Nat := 75
abbrev t_heap_heads : Nat := 76
abbrev t_struct_heap_Item_rest_s_string : Nat := 77
abbrev t_heap_head : Nat := 78
abbrev t_func_heap_Interface : Nat := 79
abbrev t_p_heap_head : Nat := 80
abbrev t_func_heap_Interface_interface : Nat := 81
abbrev t_func_heap_Interface_int : Nat := 82
abbrev t_p_strings_Builder : Nat := 83
abbrev t_s_uint8 : Nat := 84
abbrev t_struct_addr_p_strings_Builder_buf_s_uint8 : Nat := 85
abbrev t_strings_Builder : Nat := 86
abbrev t_interface_Error_string : Nat := 87
abbrev t_error : Nat := 88
abbrev t_int_error : Nat := 89
abbrev t_func_string_int_error : Nat := 90
abbrev t_func_string_int_string : Nat := 91
abbrev t_func_string : Nat := 92
abbrev t_func_s_api_Extent_int_uint8 : Nat := 93
abbrev t_interface_Len_int_Less_int_int_bool_Pop_interfac_d7b234c6 : Nat := 94
abbrev t_heap_Interface : Nat := 95
abbrev t_func_heap_Interface_int_int_bool : Nat := 96
abbrev t_func_int_int_7d0cc0 : Nat := 97
abbrev t_func_interface : Nat := 98
abbrev t_uint : Nat := 99
abbrev t_uint_uint : Nat := 100
abbrev t_func_uint_uint_uint_uint : Nat := 101
abbrev t_func_int_f2d63e : Nat := 102
abbrev t_p_uint8 : Nat := 103
abbrev t_func_int_int_bool : Nat := 104
abbrev t_unsafe_Pointer : Nat := 105
abbrev t_func_unsafe_Pointer_unsafe_Pointer : Nat := 106
abbrev t_uint32 : Nat := 107
abbrev t_uint32_uint32 : Nat := 108
abbrev t_func_uint32_uint32_uint32_uint32 : Nat := 109
abbrev t_uint64 : Nat := 110
abbrev t_uint64_uint64 : Nat := 111
abbrev t_func_uint64_uint64_uint64_uint64 : Nat := 112
abbrev t_func_int_s_uint8 : Nat := 113
abbrev t_struct_interface_p_abi_Type_concrete_p_abi_Type__3af7698d : Nat := 114
abbrev t_runtime_TypeAssertionError : Nat := 115
abbrev t_0_p_runtime_PanicNilError : Nat := 116
abbrev t_struct_0_p_runtime_PanicNilError : Nat := 117
abbrev t_runtime_PanicNilError : Nat := 118
abbrev t_abi_TFlag : Nat := 119
abbrev t_abi_Kind : Nat := 120
abbrev t_func_unsafe_Pointer_unsafe_Pointer_bool : Nat := 121
abbrev t_abi_NameOff : Nat := 122
abbrev t_abi_TypeOff : Nat := 123
abbrev t_struct_Size_uintptr_PtrBytes_uintptr_Hash_uint32_7c8ec20b : Nat := 124
abbrev t_abi_Type : Nat := 125
abbrev t_func_interface_1cb4d9 : Nat := 126
abbrev F_main_main : Nat := 0
abbrev F_gosem_cut : Nat := 1
abbrev F_gosem_cut_init : Nat := 2
abbrev F_law17_GateDoes : Nat := 3
abbrev F_law17_GateTurns : Nat := 4
abbrev F_law09_HeapMerges : Nat := 5
abbrev F_law09_HeapParts : Nat := 6
abbrev F_law03_ExtentRight : Nat := 7
abbrev F_law03_ExtentReads : Nat := 8
abbrev F_law03_ExtentBack : Nat := 9
abbrev F_law17_speaks : Nat := 10
abbrev F_gate_Gate_Read : Nat := 11
abbrev F_ref17_Read : Nat := 12
abbrev F_gate_Gate_Write : Nat := 13
abbrev F_ref17_Write : Nat := 14
abbrev F_gate_Gate_Leave : Nat := 15
abbrev F_ref17_Leave : Nat := 16
abbrev F_gate_Gate_Readers : Nat := 17
abbrev F_gate_Gate_Writers : Nat := 18
abbrev F_gate_Gate_Waiting : Nat := 19
abbrev F_gate_Gate_In : Nat := 20
abbrev F_ref17_In : Nat := 21
abbrev F_law09_speaks : Nat := 22
abbrev F_ref09_Rises : Nat := 23
abbrev F_heap_Merge : Nat := 24
abbrev F_ref09_Merge : Nat := 25
abbrev F_heap_First : Nat := 26
abbrev F_law09_HeapParts_1 : Nat := 27
abbrev F_law03_speaks : Nat := 28
abbrev F_law03_big : Nat := 29
abbrev F_extent_Right : Nat := 30
abbrev F_ref03_Right : Nat := 31
abbrev F_extent_Read : Nat := 32
abbrev F_ref03_Read : Nat := 33
abbrev F_extent_Of : Nat := 34
abbrev F_gate_Gate_place : Nat := 35
abbrev F_ref17_has : Nat := 36
abbrev F_ref17_without : Nat := 37
abbrev F_ref01_Less : Nat := 38
abbrev F_heap_Item_less : Nat := 39
abbrev F_cheap_Init : Nat := 40
abbrev F_heap_heads_Len : Nat := 41
abbrev F_cheap_Pop : Nat := 42
abbrev F_cheap_Fix : Nat := 43
abbrev F_strings_Builder_Len : Nat := 44
abbrev F_strings_Builder_WriteString : Nat := 45
abbrev F_strings_Repeat : Nat := 46
abbrev F_strings_Builder_String : Nat := 47
abbrev F_ref03_At : Nat := 48
abbrev F_cheap_down : Nat := 49
abbrev F_cheap_up : Nat := 50
abbrev F_strings_Builder_copyCheck : Nat := 51
abbrev F_math_bits_Mul : Nat := 52
abbrev F_strings_HasPrefix : Nat := 53
abbrev F_strings_Builder_Grow : Nat := 54
abbrev F_abi_NoEscape : Nat := 55
abbrev F_math_bits_Mul32 : Nat := 56
abbrev F_math_bits_Mul64 : Nat := 57
abbrev F_stringslite_HasPrefix : Nat := 58
abbrev F_strings_Builder_grow : Nat := 59
abbrev F_bytealg_MakeNoZero : Nat := 60
abbrev F_runtime_boundsError_Error : Nat := 61
abbrev F_runtime_boundsError_RuntimeError : Nat := 62
abbrev F_runtime_errorString_Error : Nat := 63
abbrev F_runtime_errorString_RuntimeError : Nat := 64
abbrev F_runtime_plainError_Error : Nat := 65
abbrev F_runtime_plainError_RuntimeError : Nat := 66
abbrev F_runtime_errorAddressString_Error : Nat := 67
abbrev F_runtime_errorAddressString_RuntimeError : Nat := 68
abbrev F_runtime_TypeAssertionError_Error : Nat := 69
abbrev F_runtime_TypeAssertionError_RuntimeError : Nat := 70
abbrev F_runtime_PanicNilError_Error : Nat := 71
abbrev F_runtime_PanicNilError_RuntimeError : Nat := 72
abbrev F_abi_Type_Align : Nat := 73
abbrev F_abi_Type_Len : Nat := 74
abbrev F_runtime_maps_unhashableTypeError_Error : Nat := 75
abbrev F_runtime_maps_unhashableTypeError_RuntimeError : Nat := 76
abbrev F_heap_heads_Less : Nat := 77
abbrev F_heap_heads_Pop : Nat := 78
abbrev F_heap_heads_Swap : Nat := 79
abbrev F_strings_Builder_Reset : Nat := 80
abbrev F_abi_Kind_String : Nat := 81
abbrev F_heap_heads_Push : Nat := 82
def T_func : TI := { size := 1, bytes := 8, agg := false, zero := [.nilfn], kind := .func, id := 1 }
@[simp] theorem T_func_size : T_func.size = 1 := rfl
@[simp] theorem T_func_agg : T_func.agg = false := rfl
@[simp] theorem T_func_zero : T_func.zero = [.nilfn] := rfl
@[simp] theorem T_func_kind : T_func.kind = .func := rfl
@[simp] theorem T_func_id : T_func.id = t_func := rfl
def T_int64 : TI := { size := 1, bytes := 8, agg := false, zero := [.int .i64 0], kind := .int .i64, id := 2 }
@[simp] theorem T_int64_size : T_int64.size = 1 := rfl
@[simp] theorem T_int64_agg : T_int64.agg = false := rfl
@[simp] theorem T_int64_zero : T_int64.zero = [.int .i64 0] := rfl
@[simp] theorem T_int64_kind : T_int64.kind = .int .i64 := rfl
@[simp] theorem T_int64_id : T_int64.id = t_int64 := rfl
def T_int : TI := { size := 1, bytes := 8, agg := false, zero := [.int .i64 0], kind := .int .i64, id := 3 }
@[simp] theorem T_int_size : T_int.size = 1 := rfl
@[simp] theorem T_int_agg : T_int.agg = false := rfl
@[simp] theorem T_int_zero : T_int.zero = [.int .i64 0] := rfl
@[simp] theorem T_int_kind : T_int.kind = .int .i64 := rfl
@[simp] theorem T_int_id : T_int.id = t_int := rfl
def T_bool : TI := { size := 1, bytes := 1, agg := false, zero := [.bool false], kind := .bool, id := 4 }
@[simp] theorem T_bool_size : T_bool.size = 1 := rfl
@[simp] theorem T_bool_agg : T_bool.agg = false := rfl
@[simp] theorem T_bool_zero : T_bool.zero = [.bool false] := rfl
@[simp] theorem T_bool_kind : T_bool.kind = .bool := rfl
@[simp] theorem T_bool_id : T_bool.id = t_bool := rfl
def T_uint8 : TI := { size := 1, bytes := 1, agg := false, zero := [.int .u8 0], kind := .int .u8, id := 5 }
@[simp] theorem T_uint8_size : T_uint8.size = 1 := rfl
@[simp] theorem T_uint8_agg : T_uint8.agg = false := rfl
@[simp] theorem T_uint8_zero : T_uint8.zero = [.int .u8 0] := rfl
@[simp] theorem T_uint8_kind : T_uint8.kind = .int .u8 := rfl
@[simp] theorem T_uint8_id : T_uint8.id = t_uint8 := rfl
def T_abi_BoundsErrorCode : TI := { size := 1, bytes := 1, agg := false, zero := [.int .u8 0], kind := .int .u8, id := 6 }
@[simp] theorem T_abi_BoundsErrorCode_size : T_abi_BoundsErrorCode.size = 1 := rfl
@[simp] theorem T_abi_BoundsErrorCode_agg : T_abi_BoundsErrorCode.agg = false := rfl
@[simp] theorem T_abi_BoundsErrorCode_zero : T_abi_BoundsErrorCode.zero = [.int .u8 0] := rfl
@[simp] theorem T_abi_BoundsErrorCode_kind : T_abi_BoundsErrorCode.kind = .int .u8 := rfl
@[simp] theorem T_abi_BoundsErrorCode_id : T_abi_BoundsErrorCode.id = t_abi_BoundsErrorCode := rfl
def T_struct_x_int64_y_int_signed_bool_code_abi_BoundsErrorCode : TI := { size := 4, bytes := 24, agg := true, zero := [.int .i64 0, .int .i64 0, .bool false, .int .u8 0], kind := .struct [(0, 2, 1), (1, 3, 1), (2, 4, 1), (3, 6, 1)], id := 7 }
@[simp] theorem T_struct_x_int64_y_int_signed_bool_code_abi_BoundsErrorCode_size : T_struct_x_int64_y_int_signed_bool_code_abi_BoundsErrorCode.size = 4 := rfl
@[simp] theorem T_struct_x_int64_y_int_signed_bool_code_abi_BoundsErrorCode_agg : T_struct_x_int64_y_int_signed_bool_code_abi_BoundsErrorCode.agg = true := rfl
@[simp] theorem T_struct_x_int64_y_int_signed_bool_code_abi_BoundsErrorCode_zero : T_struct_x_int64_y_int_signed_bool_code_abi_BoundsErrorCode.zero = [.int .i64 0, .int .i64 0, .bool false, .int .u8 0] := rfl
@[simp] theorem T_struct_x_int64_y_int_signed_bool_code_abi_BoundsErrorCode_kind : T_struct_x_int64_y_int_signed_bool_code_abi_BoundsErrorCode.kind = .struct [(0, 2, 1), (1, 3, 1), (2, 4, 1), (3, 6, 1)] := rfl
@[simp] theorem T_struct_x_int64_y_int_signed_bool_code_abi_BoundsErrorCode_id : T_struct_x_int64_y_int_signed_bool_code_abi_BoundsErrorCode.id = t_struct_x_int64_y_int_signed_bool_code_abi_BoundsErrorCode := rfl
def T_runtime_boundsError : TI := { size := 4, bytes := 24, agg := true, zero := [.int .i64 0, .int .i64 0, .bool false, .int .u8 0], kind := .struct [(0, 2, 1), (1, 3, 1), (2, 4, 1), (3, 6, 1)], id := 8 }
@[simp] theorem T_runtime_boundsError_size : T_runtime_boundsError.size = 4 := rfl
@[simp] theorem T_runtime_boundsError_agg : T_runtime_boundsError.agg = true := rfl
@[simp] theorem T_runtime_boundsError_zero : T_runtime_boundsError.zero = [.int .i64 0, .int .i64 0, .bool false, .int .u8 0] := rfl
@[simp] theorem T_runtime_boundsError_kind : T_runtime_boundsError.kind = .struct [(0, 2, 1), (1, 3, 1), (2, 4, 1), (3, 6, 1)] := rfl
@[simp] theorem T_runtime_boundsError_id : T_runtime_boundsError.id = t_runtime_boundsError := rfl
def T_string : TI := { size := 1, bytes := 16, agg := false, zero := [.str []], kind := .str, id := 9 }
@[simp] theorem T_string_size : T_string.size = 1 := rfl
@[simp] theorem T_string_agg : T_string.agg = false := rfl
@[simp] theorem T_string_zero : T_string.zero = [.str []] := rfl
@[simp] theorem T_string_kind : T_string.kind = .str := rfl
@[simp] theorem T_string_id : T_string.id = t_string := rfl
def T_runtime_errorString : TI := { size := 1, bytes := 16, agg := false, zero := [.str []], kind := .str, id := 10 }
@[simp] theorem T_runtime_errorString_size : T_runtime_errorString.size = 1 := rfl
@[simp] theorem T_runtime_errorString_agg : T_runtime_errorString.agg = false := rfl
@[simp] theorem T_runtime_errorString_zero : T_runtime_errorString.zero = [.str []] := rfl
@[simp] theorem T_runtime_errorString_kind : T_runtime_errorString.kind = .str := rfl
@[simp] theorem T_runtime_errorString_id : T_runtime_errorString.id = t_runtime_errorString := rfl
def T_runtime_plainError : TI := { size := 1, bytes := 16, agg := false, zero := [.str []], kind := .str, id := 11 }
@[simp] theorem T_runtime_plainError_size : T_runtime_plainError.size = 1 := rfl
@[simp] theorem T_runtime_plainError_agg : T_runtime_plainError.agg = false := rfl
@[simp] theorem T_runtime_plainError_zero : T_runtime_plainError.zero = [.str []] := rfl
@[simp] theorem T_runtime_plainError_kind : T_runtime_plainError.kind = .str := rfl
@[simp] theorem T_runtime_plainError_id : T_runtime_plainError.id = t_runtime_plainError := rfl
def T_uintptr : TI := { size := 1, bytes := 8, agg := false, zero := [.int .u64 0], kind := .int .u64, id := 12 }
@[simp] theorem T_uintptr_size : T_uintptr.size = 1 := rfl
@[simp] theorem T_uintptr_agg : T_uintptr.agg = false := rfl
@[simp] theorem T_uintptr_zero : T_uintptr.zero = [.int .u64 0] := rfl
@[simp] theorem T_uintptr_kind : T_uintptr.kind = .int .u64 := rfl
@[simp] theorem T_uintptr_id : T_uintptr.id = t_uintptr := rfl
def T_struct_msg_string_addr_uintptr : TI := { size := 2, bytes := 24, agg := true, zero := [.str [], .int .u64 0], kind := .struct [(0, 9, 1), (1, 12, 1)], id := 13 }
@[simp] theorem T_struct_msg_string_addr_uintptr_size : T_struct_msg_string_addr_uintptr.size = 2 := rfl
@[simp] theorem T_struct_msg_string_addr_uintptr_agg : T_struct_msg_string_addr_uintptr.agg = true := rfl
@[simp] theorem T_struct_msg_string_addr_uintptr_zero : T_struct_msg_string_addr_uintptr.zero = [.str [], .int .u64 0] := rfl
@[simp] theorem T_struct_msg_string_addr_uintptr_kind : T_struct_msg_string_addr_uintptr.kind = .struct [(0, 9, 1), (1, 12, 1)] := rfl
@[simp] theorem T_struct_msg_string_addr_uintptr_id : T_struct_msg_string_addr_uintptr.id = t_struct_msg_string_addr_uintptr := rfl
def T_runtime_errorAddressString : TI := { size := 2, bytes := 24, agg := true, zero := [.str [], .int .u64 0], kind := .struct [(0, 9, 1), (1, 12, 1)], id := 14 }
@[simp] theorem T_runtime_errorAddressString_size : T_runtime_errorAddressString.size = 2 := rfl
@[simp] theorem T_runtime_errorAddressString_agg : T_runtime_errorAddressString.agg = true := rfl
@[simp] theorem T_runtime_errorAddressString_zero : T_runtime_errorAddressString.zero = [.str [], .int .u64 0] := rfl
@[simp] theorem T_runtime_errorAddressString_kind : T_runtime_errorAddressString.kind = .struct [(0, 9, 1), (1, 12, 1)] := rfl
@[simp] theorem T_runtime_errorAddressString_id : T_runtime_errorAddressString.id = t_runtime_errorAddressString := rfl
def T_p_runtime_TypeAssertionError : TI := { size := 1, bytes := 8, agg := false, zero := [.nil], kind := .ptr 115, id := 15 }
@[simp] theorem T_p_runtime_TypeAssertionError_size : T_p_runtime_TypeAssertionError.size = 1 := rfl
@[simp] theorem T_p_runtime_TypeAssertionError_agg : T_p_runtime_TypeAssertionError.agg = false := rfl
@[simp] theorem T_p_runtime_TypeAssertionError_zero : T_p_runtime_TypeAssertionError.zero = [.nil] := rfl
@[simp] theorem T_p_runtime_TypeAssertionError_kind : T_p_runtime_TypeAssertionError.kind = .ptr 115 := rfl
@[simp] theorem T_p_runtime_TypeAssertionError_id : T_p_runtime_TypeAssertionError.id = t_p_runtime_TypeAssertionError := rfl
def T_p_runtime_PanicNilError : TI := { size := 1, bytes := 8, agg := false, zero := [.nil], kind := .ptr 118, id := 16 }
@[simp] theorem T_p_runtime_PanicNilError_size : T_p_runtime_PanicNilError.size = 1 := rfl
@[simp] theorem T_p_runtime_PanicNilError_agg : T_p_runtime_PanicNilError.agg = false := rfl
@[simp] theorem T_p_runtime_PanicNilError_zero : T_p_runtime_PanicNilError.zero = [.nil] := rfl
@[simp] theorem T_p_runtime_PanicNilError_kind : T_p_runtime_PanicNilError.kind = .ptr 118 := rfl
@[simp] theorem T_p_runtime_PanicNilError_id : T_p_runtime_PanicNilError.id = t_p_runtime_PanicNilError := rfl
def T_p_abi_Type : TI := { size := 1, bytes := 8, agg := false, zero := [.nil], kind := .ptr 125, id := 17 }
@[simp] theorem T_p_abi_Type_size : T_p_abi_Type.size = 1 := rfl
@[simp] theorem T_p_abi_Type_agg : T_p_abi_Type.agg = false := rfl
@[simp] theorem T_p_abi_Type_zero : T_p_abi_Type.zero = [.nil] := rfl
@[simp] theorem T_p_abi_Type_kind : T_p_abi_Type.kind = .ptr 125 := rfl
@[simp] theorem T_p_abi_Type_id : T_p_abi_Type.id = t_p_abi_Type := rfl
def T_struct_typ_p_abi_Type : TI := { size := 1, bytes := 8, agg := true, zero := [.nil], kind := .struct [(0, 17, 1)], id := 18 }
@[simp] theorem T_struct_typ_p_abi_Type_size : T_struct_typ_p_abi_Type.size = 1 := rfl
@[simp] theorem T_struct_typ_p_abi_Type_agg : T_struct_typ_p_abi_Type.agg = true := rfl
@[simp] theorem T_struct_typ_p_abi_Type_zero : T_struct_typ_p_abi_Type.zero = [.nil] := rfl
@[simp] theorem T_struct_typ_p_abi_Type_kind : T_struct_typ_p_abi_Type.kind = .struct [(0, 17, 1)] := rfl
@[simp] theorem T_struct_typ_p_abi_Type_id : T_struct_typ_p_abi_Type.id = t_struct_typ_p_abi_Type := rfl
def T_maps_unhashableTypeError : TI := { size := 1, bytes := 8, agg := true, zero := [.nil], kind := .struct [(0, 17, 1)], id := 19 }
@[simp] theorem T_maps_unhashableTypeError_size : T_maps_unhashableTypeError.size = 1 := rfl
@[simp] theorem T_maps_unhashableTypeError_agg : T_maps_unhashableTypeError.agg = true := rfl
@[simp] theorem T_maps_unhashableTypeError_zero : T_maps_unhashableTypeError.zero = [.nil] := rfl
@[simp] theorem T_maps_unhashableTypeError_kind : T_maps_unhashableTypeError.kind = .struct [(0, 17, 1)] := rfl
@[simp] theorem T_maps_unhashableTypeError_id : T_maps_unhashableTypeError.id = t_maps_unhashableTypeError := rfl
def T_interface : TI := { size := 1, bytes := 16, agg := false, zero := [.nilifc], kind := .iface, id := 20 }
@[simp] theorem T_interface_size : T_interface.size = 1 := rfl
@[simp] theorem T_interface_agg : T_interface.agg = false := rfl
@[simp] theorem T_interface_zero : T_interface.zero = [.nilifc] := rfl
@[simp] theorem T_interface_kind : T_interface.kind = .iface := rfl
@[simp] theorem T_interface_id : T_interface.id = t_interface := rfl
def T_int32 : TI := { size := 1, bytes := 4, agg := false, zero := [.int .i32 0], kind := .int .i32, id := 21 }
@[simp] theorem T_int32_size : T_int32.size = 1 := rfl
@[simp] theorem T_int32_agg : T_int32.agg = false := rfl
@[simp] theorem T_int32_zero : T_int32.zero = [.int .i32 0] := rfl
@[simp] theorem T_int32_kind : T_int32.kind = .int .i32 := rfl
@[simp] theorem T_int32_id : T_int32.id = t_int32 := rfl
def T_s_socagelaw17_Act : TI := { size := 1, bytes := 24, agg := false, zero := [.vs 2 [] .nil], kind := .slice 31, id := 22 }
@[simp] theorem T_s_socagelaw17_Act_size : T_s_socagelaw17_Act.size = 1 := rfl
@[simp] theorem T_s_socagelaw17_Act_agg : T_s_socagelaw17_Act.agg = false := rfl
@[simp] theorem T_s_socagelaw17_Act_zero : T_s_socagelaw17_Act.zero = [.vs 2 [] .nil] := rfl
@[simp] theorem T_s_socagelaw17_Act_kind : T_s_socagelaw17_Act.kind = .slice 31 := rfl
@[simp] theorem T_s_socagelaw17_Act_id : T_s_socagelaw17_Act.id = t_s_socagelaw17_Act := rfl
def T_func_bool : TI := { size := 1, bytes := 8, agg := false, zero := [.nilfn], kind := .func, id := 23 }
@[simp] theorem T_func_bool_size : T_func_bool.size = 1 := rfl
@[simp] theorem T_func_bool_agg : T_func_bool.agg = false := rfl
@[simp] theorem T_func_bool_zero : T_func_bool.zero = [.nilfn] := rfl
@[simp] theorem T_func_bool_kind : T_func_bool.kind = .func := rfl
@[simp] theorem T_func_bool_id : T_func_bool.id = t_func_bool := rfl
def T_map_int_struct : TI := { size := 1, bytes := 8, agg := false, zero := [.map none], kind := .map 3 65, id := 24 }
@[simp] theorem T_map_int_struct_size : T_map_int_struct.size = 1 := rfl
@[simp] theorem T_map_int_struct_agg : T_map_int_struct.agg = false := rfl
@[simp] theorem T_map_int_struct_zero : T_map_int_struct.zero = [.map none] := rfl
@[simp] theorem T_map_int_struct_kind : T_map_int_struct.kind = .map 3 65 := rfl
@[simp] theorem T_map_int_struct_id : T_map_int_struct.id = t_map_int_struct := rfl
def T_s_int : TI := { size := 1, bytes := 24, agg := false, zero := [.vs 1 [] .nil], kind := .slice 3, id := 25 }
@[simp] theorem T_s_int_size : T_s_int.size = 1 := rfl
@[simp] theorem T_s_int_agg : T_s_int.agg = false := rfl
@[simp] theorem T_s_int_zero : T_s_int.zero = [.vs 1 [] .nil] := rfl
@[simp] theorem T_s_int_kind : T_s_int.kind = .slice 3 := rfl
@[simp] theorem T_s_int_id : T_s_int.id = t_s_int := rfl
def T_struct_readers_map_int_struct_writer_int_waiting_s_int : TI := { size := 3, bytes := 40, agg := true, zero := [.map none, .int .i64 0, .vs 1 [] .nil], kind := .struct [(0, 24, 1), (1, 3, 1), (2, 25, 1)], id := 26 }
@[simp] theorem T_struct_readers_map_int_struct_writer_int_waiting_s_int_size : T_struct_readers_map_int_struct_writer_int_waiting_s_int.size = 3 := rfl
@[simp] theorem T_struct_readers_map_int_struct_writer_int_waiting_s_int_agg : T_struct_readers_map_int_struct_writer_int_waiting_s_int.agg = true := rfl
@[simp] theorem T_struct_readers_map_int_struct_writer_int_waiting_s_int_zero : T_struct_readers_map_int_struct_writer_int_waiting_s_int.zero = [.map none, .int .i64 0, .vs 1 [] .nil] := rfl
@[simp] theorem T_struct_readers_map_int_struct_writer_int_waiting_s_int_kind : T_struct_readers_map_int_struct_writer_int_waiting_s_int.kind = .struct [(0, 24, 1), (1, 3, 1), (2, 25, 1)] := rfl
@[simp] theorem T_struct_readers_map_int_struct_writer_int_waiting_s_int_id : T_struct_readers_map_int_struct_writer_int_waiting_s_int.id = t_struct_readers_map_int_struct_writer_int_waiting_s_int := rfl
def T_gate_Gate : TI := { size := 3, bytes := 40, agg := true, zero := [.map none, .int .i64 0, .vs 1 [] .nil], kind := .struct [(0, 24, 1), (1, 3, 1), (2, 25, 1)], id := 27 }
@[simp] theorem T_gate_Gate_size : T_gate_Gate.size = 3 := rfl
@[simp] theorem T_gate_Gate_agg : T_gate_Gate.agg = true := rfl
@[simp] theorem T_gate_Gate_zero : T_gate_Gate.zero = [.map none, .int .i64 0, .vs 1 [] .nil] := rfl
@[simp] theorem T_gate_Gate_kind : T_gate_Gate.kind = .struct [(0, 24, 1), (1, 3, 1), (2, 25, 1)] := rfl
@[simp] theorem T_gate_Gate_id : T_gate_Gate.id = t_gate_Gate := rfl
def T_struct_Readers_s_int_Writers_s_int_Waiting_s_int : TI := { size := 3, bytes := 72, agg := true, zero := [.vs 1 [] .nil, .vs 1 [] .nil, .vs 1 [] .nil], kind := .struct [(0, 25, 1), (1, 25, 1), (2, 25, 1)], id := 28 }
@[simp] theorem T_struct_Readers_s_int_Writers_s_int_Waiting_s_int_size : T_struct_Readers_s_int_Writers_s_int_Waiting_s_int.size = 3 := rfl
@[simp] theorem T_struct_Readers_s_int_Writers_s_int_Waiting_s_int_agg : T_struct_Readers_s_int_Writers_s_int_Waiting_s_int.agg = true := rfl
@[simp] theorem T_struct_Readers_s_int_Writers_s_int_Waiting_s_int_zero : T_struct_Readers_s_int_Writers_s_int_Waiting_s_int.zero = [.vs 1 [] .nil, .vs 1 [] .nil, .vs 1 [] .nil] := rfl
@[simp] theorem T_struct_Readers_s_int_Writers_s_int_Waiting_s_int_kind : T_struct_Readers_s_int_Writers_s_int_Waiting_s_int.kind = .struct [(0, 25, 1), (1, 25, 1), (2, 25, 1)] := rfl
@[simp] theorem T_struct_Readers_s_int_Writers_s_int_Waiting_s_int_id : T_struct_Readers_s_int_Writers_s_int_Waiting_s_int.id = t_struct_Readers_s_int_Writers_s_int_Waiting_s_int := rfl
def T_socageref17_Gate : TI := { size := 3, bytes := 72, agg := true, zero := [.vs 1 [] .nil, .vs 1 [] .nil, .vs 1 [] .nil], kind := .struct [(0, 25, 1), (1, 25, 1), (2, 25, 1)], id := 29 }
@[simp] theorem T_socageref17_Gate_size : T_socageref17_Gate.size = 3 := rfl
@[simp] theorem T_socageref17_Gate_agg : T_socageref17_Gate.agg = true := rfl
@[simp] theorem T_socageref17_Gate_zero : T_socageref17_Gate.zero = [.vs 1 [] .nil, .vs 1 [] .nil, .vs 1 [] .nil] := rfl
@[simp] theorem T_socageref17_Gate_kind : T_socageref17_Gate.kind = .struct [(0, 25, 1), (1, 25, 1), (2, 25, 1)] := rfl
@[simp] theorem T_socageref17_Gate_id : T_socageref17_Gate.id = t_socageref17_Gate := rfl
def T_struct_Kind_uint8_ID_uint8 : TI := { size := 2, bytes := 2, agg := true, zero := [.int .u8 0, .int .u8 0], kind := .struct [(0, 5, 1), (1, 5, 1)], id := 30 }
@[simp] theorem T_struct_Kind_uint8_ID_uint8_size : T_struct_Kind_uint8_ID_uint8.size = 2 := rfl
@[simp] theorem T_struct_Kind_uint8_ID_uint8_agg : T_struct_Kind_uint8_ID_uint8.agg = true := rfl
@[simp] theorem T_struct_Kind_uint8_ID_uint8_zero : T_struct_Kind_uint8_ID_uint8.zero = [.int .u8 0, .int .u8 0] := rfl
@[simp] theorem T_struct_Kind_uint8_ID_uint8_kind : T_struct_Kind_uint8_ID_uint8.kind = .struct [(0, 5, 1), (1, 5, 1)] := rfl
@[simp] theorem T_struct_Kind_uint8_ID_uint8_id : T_struct_Kind_uint8_ID_uint8.id = t_struct_Kind_uint8_ID_uint8 := rfl
def T_socagelaw17_Act : TI := { size := 2, bytes := 2, agg := true, zero := [.int .u8 0, .int .u8 0], kind := .struct [(0, 5, 1), (1, 5, 1)], id := 31 }
@[simp] theorem T_socagelaw17_Act_size : T_socagelaw17_Act.size = 2 := rfl
@[simp] theorem T_socagelaw17_Act_agg : T_socagelaw17_Act.agg = true := rfl
@[simp] theorem T_socagelaw17_Act_zero : T_socagelaw17_Act.zero = [.int .u8 0, .int .u8 0] := rfl
@[simp] theorem T_socagelaw17_Act_kind : T_socagelaw17_Act.kind = .struct [(0, 5, 1), (1, 5, 1)] := rfl
@[simp] theorem T_socagelaw17_Act_id : T_socagelaw17_Act.id = t_socagelaw17_Act := rfl
def T_func_int_bool : TI := { size := 1, bytes := 8, agg := false, zero := [.nilfn], kind := .func, id := 32 }
@[simp] theorem T_func_int_bool_size : T_func_int_bool.size = 1 := rfl
@[simp] theorem T_func_int_bool_agg : T_func_int_bool.agg = false := rfl
@[simp] theorem T_func_int_bool_zero : T_func_int_bool.zero = [.nilfn] := rfl
@[simp] theorem T_func_int_bool_kind : T_func_int_bool.kind = .func := rfl
@[simp] theorem T_func_int_bool_id : T_func_int_bool.id = t_func_int_bool := rfl
def T_func_socageref17_Gate_int_socageref17_Gate_bool : TI := { size := 1, bytes := 8, agg := false, zero := [.nilfn], kind := .func, id := 34 }
@[simp] theorem T_func_socageref17_Gate_int_socageref17_Gate_bool_size : T_func_socageref17_Gate_int_socageref17_Gate_bool.size = 1 := rfl
@[simp] theorem T_func_socageref17_Gate_int_socageref17_Gate_bool_agg : T_func_socageref17_Gate_int_socageref17_Gate_bool.agg = false := rfl
@[simp] theorem T_func_socageref17_Gate_int_socageref17_Gate_bool_zero : T_func_socageref17_Gate_int_socageref17_Gate_bool.zero = [.nilfn] := rfl
@[simp] theorem T_func_socageref17_Gate_int_socageref17_Gate_bool_kind : T_func_socageref17_Gate_int_socageref17_Gate_bool.kind = .func := rfl
@[simp] theorem T_func_socageref17_Gate_int_socageref17_Gate_bool_id : T_func_socageref17_Gate_int_socageref17_Gate_bool.id = t_func_socageref17_Gate_int_socageref17_Gate_bool := rfl
def T_func_int : TI := { size := 1, bytes := 8, agg := false, zero := [.nilfn], kind := .func, id := 35 }
@[simp] theorem T_func_int_size : T_func_int.size = 1 := rfl
@[simp] theorem T_func_int_agg : T_func_int.agg = false := rfl
@[simp] theorem T_func_int_zero : T_func_int.zero = [.nilfn] := rfl
@[simp] theorem T_func_int_kind : T_func_int.kind = .func := rfl
@[simp] theorem T_func_int_id : T_func_int.id = t_func_int := rfl
def T_func_socageref17_Gate_int_bool : TI := { size := 1, bytes := 8, agg := false, zero := [.nilfn], kind := .func, id := 36 }
@[simp] theorem T_func_socageref17_Gate_int_bool_size : T_func_socageref17_Gate_int_bool.size = 1 := rfl
@[simp] theorem T_func_socageref17_Gate_int_bool_agg : T_func_socageref17_Gate_int_bool.agg = false := rfl
@[simp] theorem T_func_socageref17_Gate_int_bool_zero : T_func_socageref17_Gate_int_bool.zero = [.nilfn] := rfl
@[simp] theorem T_func_socageref17_Gate_int_bool_kind : T_func_socageref17_Gate_int_bool.kind = .func := rfl
@[simp] theorem T_func_socageref17_Gate_int_bool_id : T_func_socageref17_Gate_int_bool.id = t_func_socageref17_Gate_int_bool := rfl
def T_func_s_socagelaw17_Act_bool : TI := { size := 1, bytes := 8, agg := false, zero := [.nilfn], kind := .func, id := 37 }
@[simp] theorem T_func_s_socagelaw17_Act_bool_size : T_func_s_socagelaw17_Act_bool.size = 1 := rfl
@[simp] theorem T_func_s_socagelaw17_Act_bool_agg : T_func_s_socagelaw17_Act_bool.agg = false := rfl
@[simp] theorem T_func_s_socagelaw17_Act_bool_zero : T_func_s_socagelaw17_Act_bool.zero = [.nilfn] := rfl
@[simp] theorem T_func_s_socagelaw17_Act_bool_kind : T_func_s_socagelaw17_Act_bool.kind = .func := rfl
@[simp] theorem T_func_s_socagelaw17_Act_bool_id : T_func_s_socagelaw17_Act_bool.id = t_func_s_socagelaw17_Act_bool := rfl
def T_func_uint8_uint8_bool : TI := { size := 1, bytes := 8, agg := false, zero := [.nilfn], kind := .func, id := 38 }
@[simp] theorem T_func_uint8_uint8_bool_size : T_func_uint8_uint8_bool.size = 1 := rfl
@[simp] theorem T_func_uint8_uint8_bool_agg : T_func_uint8_uint8_bool.agg = false := rfl
@[simp] theorem T_func_uint8_uint8_bool_zero : T_func_uint8_uint8_bool.zero = [.nilfn] := rfl
@[simp] theorem T_func_uint8_uint8_bool_kind : T_func_uint8_uint8_bool.kind = .func := rfl
@[simp] theorem T_func_uint8_uint8_bool_id : T_func_uint8_uint8_bool.id = t_func_uint8_uint8_bool := rfl
def T_s_s_string : TI := { size := 1, bytes := 24, agg := false, zero := [.vs 1 [] .nil], kind := .slice 40, id := 39 }
@[simp] theorem T_s_s_string_size : T_s_s_string.size = 1 := rfl
@[simp] theorem T_s_s_string_agg : T_s_s_string.agg = false := rfl
@[simp] theorem T_s_s_string_zero : T_s_s_string.zero = [.vs 1 [] .nil] := rfl
@[simp] theorem T_s_s_string_kind : T_s_s_string.kind = .slice 40 := rfl
@[simp] theorem T_s_s_string_id : T_s_s_string.id = t_s_s_string := rfl
def T_s_string : TI := { size := 1, bytes := 24, agg := false, zero := [.vs 1 [] .nil], kind := .slice 9, id := 40 }
@[simp] theorem T_s_string_size : T_s_string.size = 1 := rfl
@[simp] theorem T_s_string_agg : T_s_string.agg = false := rfl
@[simp] theorem T_s_string_zero : T_s_string.zero = [.vs 1 [] .nil] := rfl
@[simp] theorem T_s_string_kind : T_s_string.kind = .slice 9 := rfl
@[simp] theorem T_s_string_id : T_s_string.id = t_s_string := rfl
def T_func_s_string_bool : TI := { size := 1, bytes := 8, agg := false, zero := [.nilfn], kind := .func, id := 41 }
@[simp] theorem T_func_s_string_bool_size : T_func_s_string_bool.size = 1 := rfl
@[simp] theorem T_func_s_string_bool_agg : T_func_s_string_bool.agg = false := rfl
@[simp] theorem T_func_s_string_bool_zero : T_func_s_string_bool.zero = [.nilfn] := rfl
@[simp] theorem T_func_s_string_bool_kind : T_func_s_string_bool.kind = .func := rfl
@[simp] theorem T_func_s_string_bool_id : T_func_s_string_bool.id = t_func_s_string_bool := rfl
def T_s_heap_Item : TI := { size := 1, bytes := 24, agg := false, zero := [.vs 2 [] .nil], kind := .slice 48, id := 42 }
@[simp] theorem T_s_heap_Item_size : T_s_heap_Item.size = 1 := rfl
@[simp] theorem T_s_heap_Item_agg : T_s_heap_Item.agg = false := rfl
@[simp] theorem T_s_heap_Item_zero : T_s_heap_Item.zero = [.vs 2 [] .nil] := rfl
@[simp] theorem T_s_heap_Item_kind : T_s_heap_Item.kind = .slice 48 := rfl
@[simp] theorem T_s_heap_Item_id : T_s_heap_Item.id = t_s_heap_Item := rfl
def T_func_s_string_s_heap_Item : TI := { size := 1, bytes := 8, agg := false, zero := [.nilfn], kind := .func, id := 43 }
@[simp] theorem T_func_s_string_s_heap_Item_size : T_func_s_string_s_heap_Item.size = 1 := rfl
@[simp] theorem T_func_s_string_s_heap_Item_agg : T_func_s_string_s_heap_Item.agg = false := rfl
@[simp] theorem T_func_s_string_s_heap_Item_zero : T_func_s_string_s_heap_Item.zero = [.nilfn] := rfl
@[simp] theorem T_func_s_string_s_heap_Item_kind : T_func_s_string_s_heap_Item.kind = .func := rfl
@[simp] theorem T_func_s_string_s_heap_Item_id : T_func_s_string_s_heap_Item.id = t_func_s_string_s_heap_Item := rfl
def T_s_socageref09_Item : TI := { size := 1, bytes := 24, agg := false, zero := [.vs 2 [] .nil], kind := .slice 49, id := 44 }
@[simp] theorem T_s_socageref09_Item_size : T_s_socageref09_Item.size = 1 := rfl
@[simp] theorem T_s_socageref09_Item_agg : T_s_socageref09_Item.agg = false := rfl
@[simp] theorem T_s_socageref09_Item_zero : T_s_socageref09_Item.zero = [.vs 2 [] .nil] := rfl
@[simp] theorem T_s_socageref09_Item_kind : T_s_socageref09_Item.kind = .slice 49 := rfl
@[simp] theorem T_s_socageref09_Item_id : T_s_socageref09_Item.id = t_s_socageref09_Item := rfl
def T_func_s_s_string_s_socageref09_Item : TI := { size := 1, bytes := 8, agg := false, zero := [.nilfn], kind := .func, id := 45 }
@[simp] theorem T_func_s_s_string_s_socageref09_Item_size : T_func_s_s_string_s_socageref09_Item.size = 1 := rfl
@[simp] theorem T_func_s_s_string_s_socageref09_Item_agg : T_func_s_s_string_s_socageref09_Item.agg = false := rfl
@[simp] theorem T_func_s_s_string_s_socageref09_Item_zero : T_func_s_s_string_s_socageref09_Item.zero = [.nilfn] := rfl
@[simp] theorem T_func_s_s_string_s_socageref09_Item_kind : T_func_s_s_string_s_socageref09_Item.kind = .func := rfl
@[simp] theorem T_func_s_s_string_s_socageref09_Item_id : T_func_s_s_string_s_socageref09_Item.id = t_func_s_s_string_s_socageref09_Item := rfl
def T_func_s_heap_Item_s_heap_Item : TI := { size := 1, bytes := 8, agg := false, zero := [.nilfn], kind := .func, id := 46 }
@[simp] theorem T_func_s_heap_Item_s_heap_Item_size : T_func_s_heap_Item_s_heap_Item.size = 1 := rfl
@[simp] theorem T_func_s_heap_Item_s_heap_Item_agg : T_func_s_heap_Item_s_heap_Item.agg = false := rfl
@[simp] theorem T_func_s_heap_Item_s_heap_Item_zero : T_func_s_heap_Item_s_heap_Item.zero = [.nilfn] := rfl
@[simp] theorem T_func_s_heap_Item_s_heap_Item_kind : T_func_s_heap_Item_s_heap_Item.kind = .func := rfl
@[simp] theorem T_func_s_heap_Item_s_heap_Item_id : T_func_s_heap_Item_s_heap_Item.id = t_func_s_heap_Item_s_heap_Item := rfl
def T_struct_Name_string_Row_int : TI := { size := 2, bytes := 24, agg := true, zero := [.str [], .int .i64 0], kind := .struct [(0, 9, 1), (1, 3, 1)], id := 47 }
@[simp] theorem T_struct_Name_string_Row_int_size : T_struct_Name_string_Row_int.size = 2 := rfl
@[simp] theorem T_struct_Name_string_Row_int_agg : T_struct_Name_string_Row_int.agg = true := rfl
@[simp] theorem T_struct_Name_string_Row_int_zero : T_struct_Name_string_Row_int.zero = [.str [], .int .i64 0] := rfl
@[simp] theorem T_struct_Name_string_Row_int_kind : T_struct_Name_string_Row_int.kind = .struct [(0, 9, 1), (1, 3, 1)] := rfl
@[simp] theorem T_struct_Name_string_Row_int_id : T_struct_Name_string_Row_int.id = t_struct_Name_string_Row_int := rfl
def T_heap_Item : TI := { size := 2, bytes := 24, agg := true, zero := [.str [], .int .i64 0], kind := .struct [(0, 9, 1), (1, 3, 1)], id := 48 }
@[simp] theorem T_heap_Item_size : T_heap_Item.size = 2 := rfl
@[simp] theorem T_heap_Item_agg : T_heap_Item.agg = true := rfl
@[simp] theorem T_heap_Item_zero : T_heap_Item.zero = [.str [], .int .i64 0] := rfl
@[simp] theorem T_heap_Item_kind : T_heap_Item.kind = .struct [(0, 9, 1), (1, 3, 1)] := rfl
@[simp] theorem T_heap_Item_id : T_heap_Item.id = t_heap_Item := rfl
def T_socageref09_Item : TI := { size := 2, bytes := 24, agg := true, zero := [.str [], .int .i64 0], kind := .struct [(0, 9, 1), (1, 3, 1)], id := 49 }
@[simp] theorem T_socageref09_Item_size : T_socageref09_Item.size = 2 := rfl
@[simp] theorem T_socageref09_Item_agg : T_socageref09_Item.agg = true := rfl
@[simp] theorem T_socageref09_Item_zero : T_socageref09_Item.zero = [.str [], .int .i64 0] := rfl
@[simp] theorem T_socageref09_Item_kind : T_socageref09_Item.kind = .struct [(0, 9, 1), (1, 3, 1)] := rfl
@[simp] theorem T_socageref09_Item_id : T_socageref09_Item.id = t_socageref09_Item := rfl
def T_func_s_s_string_bool : TI := { size := 1, bytes := 8, agg := false, zero := [.nilfn], kind := .func, id := 50 }
@[simp] theorem T_func_s_s_string_bool_size : T_func_s_s_string_bool.size = 1 := rfl
@[simp] theorem T_func_s_s_string_bool_agg : T_func_s_s_string_bool.agg = false := rfl
@[simp] theorem T_func_s_s_string_bool_zero : T_func_s_s_string_bool.zero = [.nilfn] := rfl
@[simp] theorem T_func_s_s_string_bool_kind : T_func_s_s_string_bool.kind = .func := rfl
@[simp] theorem T_func_s_s_string_bool_id : T_func_s_s_string_bool.id = t_func_s_s_string_bool := rfl
def T_func_s_heap_Item_s_string : TI := { size := 1, bytes := 8, agg := false, zero := [.nilfn], kind := .func, id := 51 }
@[simp] theorem T_func_s_heap_Item_s_string_size : T_func_s_heap_Item_s_string.size = 1 := rfl
@[simp] theorem T_func_s_heap_Item_s_string_agg : T_func_s_heap_Item_s_string.agg = false := rfl
@[simp] theorem T_func_s_heap_Item_s_string_zero : T_func_s_heap_Item_s_string.zero = [.nilfn] := rfl
@[simp] theorem T_func_s_heap_Item_s_string_kind : T_func_s_heap_Item_s_string.kind = .func := rfl
@[simp] theorem T_func_s_heap_Item_s_string_id : T_func_s_heap_Item_s_string.id = t_func_s_heap_Item_s_string := rfl
def T_func_s_s_string_uint8_bool : TI := { size := 1, bytes := 8, agg := false, zero := [.nilfn], kind := .func, id := 52 }
@[simp] theorem T_func_s_s_string_uint8_bool_size : T_func_s_s_string_uint8_bool.size = 1 := rfl
@[simp] theorem T_func_s_s_string_uint8_bool_agg : T_func_s_s_string_uint8_bool.agg = false := rfl
@[simp] theorem T_func_s_s_string_uint8_bool_zero : T_func_s_s_string_uint8_bool.zero = [.nilfn] := rfl
@[simp] theorem T_func_s_s_string_uint8_bool_kind : T_func_s_s_string_uint8_bool.kind = .func := rfl
@[simp] theorem T_func_s_s_string_uint8_bool_id : T_func_s_s_string_uint8_bool.id = t_func_s_s_string_uint8_bool := rfl
def T_s_api_Extent : TI := { size := 1, bytes := 24, agg := false, zero := [.vs 2 [] .nil], kind := .slice 62, id := 53 }
@[simp] theorem T_s_api_Extent_size : T_s_api_Extent.size = 1 := rfl
@[simp] theorem T_s_api_Extent_agg : T_s_api_Extent.agg = false := rfl
@[simp] theorem T_s_api_Extent_zero : T_s_api_Extent.zero = [.vs 2 [] .nil] := rfl
@[simp] theorem T_s_api_Extent_kind : T_s_api_Extent.kind = .slice 62 := rfl
@[simp] theorem T_s_api_Extent_id : T_s_api_Extent.id = t_s_api_Extent := rfl
def T_func_s_api_Extent_bool : TI := { size := 1, bytes := 8, agg := false, zero := [.nilfn], kind := .func, id := 54 }
@[simp] theorem T_func_s_api_Extent_bool_size : T_func_s_api_Extent_bool.size = 1 := rfl
@[simp] theorem T_func_s_api_Extent_bool_agg : T_func_s_api_Extent_bool.agg = false := rfl
@[simp] theorem T_func_s_api_Extent_bool_zero : T_func_s_api_Extent_bool.zero = [.nilfn] := rfl
@[simp] theorem T_func_s_api_Extent_bool_kind : T_func_s_api_Extent_bool.kind = .func := rfl
@[simp] theorem T_func_s_api_Extent_bool_id : T_func_s_api_Extent_bool.id = t_func_s_api_Extent_bool := rfl
def T_func_int_api_Extent_bool : TI := { size := 1, bytes := 8, agg := false, zero := [.nilfn], kind := .func, id := 55 }
@[simp] theorem T_func_int_api_Extent_bool_size : T_func_int_api_Extent_bool.size = 1 := rfl
@[simp] theorem T_func_int_api_Extent_bool_agg : T_func_int_api_Extent_bool.agg = false := rfl
@[simp] theorem T_func_int_api_Extent_bool_zero : T_func_int_api_Extent_bool.zero = [.nilfn] := rfl
@[simp] theorem T_func_int_api_Extent_bool_kind : T_func_int_api_Extent_bool.kind = .func := rfl
@[simp] theorem T_func_int_api_Extent_bool_id : T_func_int_api_Extent_bool.id = t_func_int_api_Extent_bool := rfl
def T_func_int_s_api_Extent_bool : TI := { size := 1, bytes := 8, agg := false, zero := [.nilfn], kind := .func, id := 56 }
@[simp] theorem T_func_int_s_api_Extent_bool_size : T_func_int_s_api_Extent_bool.size = 1 := rfl
@[simp] theorem T_func_int_s_api_Extent_bool_agg : T_func_int_s_api_Extent_bool.agg = false := rfl
@[simp] theorem T_func_int_s_api_Extent_bool_zero : T_func_int_s_api_Extent_bool.zero = [.nilfn] := rfl
@[simp] theorem T_func_int_s_api_Extent_bool_kind : T_func_int_s_api_Extent_bool.kind = .func := rfl
@[simp] theorem T_func_int_s_api_Extent_bool_id : T_func_int_s_api_Extent_bool.id = t_func_int_s_api_Extent_bool := rfl
def T_2_int : TI := { size := 2, bytes := 16, agg := true, zero := [.int .i64 0, .int .i64 0], kind := .array 2 3, id := 57 }
@[simp] theorem T_2_int_size : T_2_int.size = 2 := rfl
@[simp] theorem T_2_int_agg : T_2_int.agg = true := rfl
@[simp] theorem T_2_int_zero : T_2_int.zero = [.int .i64 0, .int .i64 0] := rfl
@[simp] theorem T_2_int_kind : T_2_int.kind = .array 2 3 := rfl
@[simp] theorem T_2_int_id : T_2_int.id = t_2_int := rfl
def T_func_int_s_api_Extent_int_int_string : TI := { size := 1, bytes := 8, agg := false, zero := [.nilfn], kind := .func, id := 58 }
@[simp] theorem T_func_int_s_api_Extent_int_int_string_size : T_func_int_s_api_Extent_int_int_string.size = 1 := rfl
@[simp] theorem T_func_int_s_api_Extent_int_int_string_agg : T_func_int_s_api_Extent_int_int_string.agg = false := rfl
@[simp] theorem T_func_int_s_api_Extent_int_int_string_zero : T_func_int_s_api_Extent_int_int_string.zero = [.nilfn] := rfl
@[simp] theorem T_func_int_s_api_Extent_int_int_string_kind : T_func_int_s_api_Extent_int_int_string.kind = .func := rfl
@[simp] theorem T_func_int_s_api_Extent_int_int_string_id : T_func_int_s_api_Extent_int_int_string.id = t_func_int_s_api_Extent_int_int_string := rfl
def T_func_int_s_api_Extent_2_int_bool : TI := { size := 1, bytes := 8, agg := false, zero := [.nilfn], kind := .func, id := 59 }
@[simp] theorem T_func_int_s_api_Extent_2_int_bool_size : T_func_int_s_api_Extent_2_int_bool.size = 1 := rfl
@[simp] theorem T_func_int_s_api_Extent_2_int_bool_agg : T_func_int_s_api_Extent_2_int_bool.agg = false := rfl
@[simp] theorem T_func_int_s_api_Extent_2_int_bool_zero : T_func_int_s_api_Extent_2_int_bool.zero = [.nilfn] := rfl
@[simp] theorem T_func_int_s_api_Extent_2_int_bool_kind : T_func_int_s_api_Extent_2_int_bool.kind = .func := rfl
@[simp] theorem T_func_int_s_api_Extent_2_int_bool_id : T_func_int_s_api_Extent_2_int_bool.id = t_func_int_s_api_Extent_2_int_bool := rfl
def T_func_string_s_api_Extent : TI := { size := 1, bytes := 8, agg := false, zero := [.nilfn], kind := .func, id := 60 }
@[simp] theorem T_func_string_s_api_Extent_size : T_func_string_s_api_Extent.size = 1 := rfl
@[simp] theorem T_func_string_s_api_Extent_agg : T_func_string_s_api_Extent.agg = false := rfl
@[simp] theorem T_func_string_s_api_Extent_zero : T_func_string_s_api_Extent.zero = [.nilfn] := rfl
@[simp] theorem T_func_string_s_api_Extent_kind : T_func_string_s_api_Extent.kind = .func := rfl
@[simp] theorem T_func_string_s_api_Extent_id : T_func_string_s_api_Extent.id = t_func_string_s_api_Extent := rfl
def T_struct_Off_int_Data_string : TI := { size := 2, bytes := 24, agg := true, zero := [.int .i64 0, .str []], kind := .struct [(0, 3, 1), (1, 9, 1)], id := 61 }
@[simp] theorem T_struct_Off_int_Data_string_size : T_struct_Off_int_Data_string.size = 2 := rfl
@[simp] theorem T_struct_Off_int_Data_string_agg : T_struct_Off_int_Data_string.agg = true := rfl
@[simp] theorem T_struct_Off_int_Data_string_zero : T_struct_Off_int_Data_string.zero = [.int .i64 0, .str []] := rfl
@[simp] theorem T_struct_Off_int_Data_string_kind : T_struct_Off_int_Data_string.kind = .struct [(0, 3, 1), (1, 9, 1)] := rfl
@[simp] theorem T_struct_Off_int_Data_string_id : T_struct_Off_int_Data_string.id = t_struct_Off_int_Data_string := rfl
def T_api_Extent : TI := { size := 2, bytes := 24, agg := true, zero := [.int .i64 0, .str []], kind := .struct [(0, 3, 1), (1, 9, 1)], id := 62 }
@[simp] theorem T_api_Extent_size : T_api_Extent.size = 2 := rfl
@[simp] theorem T_api_Extent_agg : T_api_Extent.agg = true := rfl
@[simp] theorem T_api_Extent_zero : T_api_Extent.zero = [.int .i64 0, .str []] := rfl
@[simp] theorem T_api_Extent_kind : T_api_Extent.kind = .struct [(0, 3, 1), (1, 9, 1)] := rfl
@[simp] theorem T_api_Extent_id : T_api_Extent.id = t_api_Extent := rfl
def T_func_string_bool : TI := { size := 1, bytes := 8, agg := false, zero := [.nilfn], kind := .func, id := 63 }
@[simp] theorem T_func_string_bool_size : T_func_string_bool.size = 1 := rfl
@[simp] theorem T_func_string_bool_agg : T_func_string_bool.agg = false := rfl
@[simp] theorem T_func_string_bool_zero : T_func_string_bool.zero = [.nilfn] := rfl
@[simp] theorem T_func_string_bool_kind : T_func_string_bool.kind = .func := rfl
@[simp] theorem T_func_string_bool_id : T_func_string_bool.id = t_func_string_bool := rfl
def T_p_gate_Gate : TI := { size := 1, bytes := 8, agg := false, zero := [.nil], kind := .ptr 27, id := 64 }
@[simp] theorem T_p_gate_Gate_size : T_p_gate_Gate.size = 1 := rfl
@[simp] theorem T_p_gate_Gate_agg : T_p_gate_Gate.agg = false := rfl
@[simp] theorem T_p_gate_Gate_zero : T_p_gate_Gate.zero = [.nil] := rfl
@[simp] theorem T_p_gate_Gate_kind : T_p_gate_Gate.kind = .ptr 27 := rfl
@[simp] theorem T_p_gate_Gate_id : T_p_gate_Gate.id = t_p_gate_Gate := rfl
def T_struct : TI := { size := 0, bytes := 0, agg := true, zero := [], kind := .struct [], id := 65 }
@[simp] theorem T_struct_size : T_struct.size = 0 := rfl
@[simp] theorem T_struct_agg : T_struct.agg = true := rfl
@[simp] theorem T_struct_zero : T_struct.zero = [] := rfl
@[simp] theorem T_struct_kind : T_struct.kind = .struct [] := rfl
@[simp] theorem T_struct_id : T_struct.id = t_struct := rfl
def T_func_int_int : TI := { size := 1, bytes := 8, agg := false, zero := [.nilfn], kind := .func, id := 66 }
@[simp] theorem T_func_int_int_size : T_func_int_int.size = 1 := rfl
@[simp] theorem T_func_int_int_agg : T_func_int_int.agg = false := rfl
@[simp] theorem T_func_int_int_zero : T_func_int_int.zero = [.nilfn] := rfl
@[simp] theorem T_func_int_int_kind : T_func_int_int.kind = .func := rfl
@[simp] theorem T_func_int_int_id : T_func_int_int.id = t_func_int_int := rfl
def T_func_s_int_int_bool : TI := { size := 1, bytes := 8, agg := false, zero := [.nilfn], kind := .func, id := 67 }
@[simp] theorem T_func_s_int_int_bool_size : T_func_s_int_int_bool.size = 1 := rfl
@[simp] theorem T_func_s_int_int_bool_agg : T_func_s_int_int_bool.agg = false := rfl
@[simp] theorem T_func_s_int_int_bool_zero : T_func_s_int_int_bool.zero = [.nilfn] := rfl
@[simp] theorem T_func_s_int_int_bool_kind : T_func_s_int_int_bool.kind = .func := rfl
@[simp] theorem T_func_s_int_int_bool_id : T_func_s_int_int_bool.id = t_func_s_int_int_bool := rfl
def T_func_s_int_int_s_int : TI := { size := 1, bytes := 8, agg := false, zero := [.nilfn], kind := .func, id := 68 }
@[simp] theorem T_func_s_int_int_s_int_size : T_func_s_int_int_s_int.size = 1 := rfl
@[simp] theorem T_func_s_int_int_s_int_agg : T_func_s_int_int_s_int.agg = false := rfl
@[simp] theorem T_func_s_int_int_s_int_zero : T_func_s_int_int_s_int.zero = [.nilfn] := rfl
@[simp] theorem T_func_s_int_int_s_int_kind : T_func_s_int_int_s_int.kind = .func := rfl
@[simp] theorem T_func_s_int_int_s_int_id : T_func_s_int_int_s_int.id = t_func_s_int_int_s_int := rfl
def T_func_string_string_bool : TI := { size := 1, bytes := 8, agg := false, zero := [.nilfn], kind := .func, id := 70 }
@[simp] theorem T_func_string_string_bool_size : T_func_string_string_bool.size = 1 := rfl
@[simp] theorem T_func_string_string_bool_agg : T_func_string_string_bool.agg = false := rfl
@[simp] theorem T_func_string_string_bool_zero : T_func_string_string_bool.zero = [.nilfn] := rfl
@[simp] theorem T_func_string_string_bool_kind : T_func_string_string_bool.kind = .func := rfl
@[simp] theorem T_func_string_string_bool_id : T_func_string_string_bool.id = t_func_string_string_bool := rfl
def T_p_heap_heads : TI := { size := 1, bytes := 8, agg := false, zero := [.nil], kind := .ptr 76, id := 71 }
@[simp] theorem T_p_heap_heads_size : T_p_heap_heads.size = 1 := rfl
@[simp] theorem T_p_heap_heads_agg : T_p_heap_heads.agg = false := rfl
@[simp] theorem T_p_heap_heads_zero : T_p_heap_heads.zero = [.nil] := rfl
@[simp] theorem T_p_heap_heads_kind : T_p_heap_heads.kind = .ptr 76 := rfl
@[simp] theorem T_p_heap_heads_id : T_p_heap_heads.id = t_p_heap_heads := rfl
def T_func_heap_Item_heap_Item_bool : TI := { size := 1, bytes := 8, agg := false, zero := [.nilfn], kind := .func, id := 72 }
@[simp] theorem T_func_heap_Item_heap_Item_bool_size : T_func_heap_Item_heap_Item_bool.size = 1 := rfl
@[simp] theorem T_func_heap_Item_heap_Item_bool_agg : T_func_heap_Item_heap_Item_bool.agg = false := rfl
@[simp] theorem T_func_heap_Item_heap_Item_bool_zero : T_func_heap_Item_heap_Item_bool.zero = [.nilfn] := rfl
@[simp] theorem T_func_heap_Item_heap_Item_bool_kind : T_func_heap_Item_heap_Item_bool.kind = .func := rfl
@[simp] theorem T_func_heap_Item_heap_Item_bool_id : T_func_heap_Item_heap_Item_bool.id = t_func_heap_Item_heap_Item_bool := rfl
def T_func_heap_Item_bool : TI := { size := 1, bytes := 8, agg := false, zero := [.nilfn], kind := .func, id := 73 }
@[simp] theorem T_func_heap_Item_bool_size : T_func_heap_Item_bool.size = 1 := rfl
@[simp] theorem T_func_heap_Item_bool_agg : T_func_heap_Item_bool.agg = false := rfl
@[simp] theorem T_func_heap_Item_bool_zero : T_func_heap_Item_bool.zero = [.nilfn] := rfl
@[simp] theorem T_func_heap_Item_bool_kind : T_func_heap_Item_bool.kind = .func := rfl
@[simp] theorem T_func_heap_Item_bool_id : T_func_heap_Item_bool.id = t_func_heap_Item_bool := rfl
def T_s_heap_head : TI := { size := 1, bytes := 24, agg := false, zero := [.vs 3 [] .nil], kind := .slice 78, id := 74 }
@[simp] theorem T_s_heap_head_size : T_s_heap_head.size = 1 := rfl
@[simp] theorem T_s_heap_head_agg : T_s_heap_head.agg = false := rfl
@[simp] theorem T_s_heap_head_zero : T_s_heap_head.zero = [.vs 3 [] .nil] := rfl
@[simp] theorem T_s_heap_head_kind : T_s_heap_head.kind = .slice 78 := rfl
@[simp] theorem T_s_heap_head_id : T_s_heap_head.id = t_s_heap_head := rfl
def T_struct_l_s_heap_head_less_func_heap_Item_heap_Item_bool : TI := { size := 2, bytes := 32, agg := true, zero := [.vs 3 [] .nil, .nilfn], kind := .struct [(0, 74, 1), (1, 72, 1)], id := 75 }
@[simp] theorem T_struct_l_s_heap_head_less_func_heap_Item_heap_Item_bool_size : T_struct_l_s_heap_head_less_func_heap_Item_heap_Item_bool.size = 2 := rfl
@[simp] theorem T_struct_l_s_heap_head_less_func_heap_Item_heap_Item_bool_agg : T_struct_l_s_heap_head_less_func_heap_Item_heap_Item_bool.agg = true := rfl
@[simp] theorem T_struct_l_s_heap_head_less_func_heap_Item_heap_Item_bool_zero : T_struct_l_s_heap_head_less_func_heap_Item_heap_Item_bool.zero = [.vs 3 [] .nil, .nilfn] := rfl
@[simp] theorem T_struct_l_s_heap_head_less_func_heap_Item_heap_Item_bool_kind : T_struct_l_s_heap_head_less_func_heap_Item_heap_Item_bool.kind = .struct [(0, 74, 1), (1, 72, 1)] := rfl
@[simp] theorem T_struct_l_s_heap_head_less_func_heap_Item_heap_Item_bool_id : T_struct_l_s_heap_head_less_func_heap_Item_heap_Item_bool.id = t_struct_l_s_heap_head_less_func_heap_Item_heap_Item_bool := rfl
def T_heap_heads : TI := { size := 2, bytes := 32, agg := true, zero := [.vs 3 [] .nil, .nilfn], kind := .struct [(0, 74, 1), (1, 72, 1)], id := 76 }
@[simp] theorem T_heap_heads_size : T_heap_heads.size = 2 := rfl
@[simp] theorem T_heap_heads_agg : T_heap_heads.agg = true := rfl
@[simp] theorem T_heap_heads_zero : T_heap_heads.zero = [.vs 3 [] .nil, .nilfn] := rfl
@[simp] theorem T_heap_heads_kind : T_heap_heads.kind = .struct [(0, 74, 1), (1, 72, 1)] := rfl
@[simp] theorem T_heap_heads_id : T_heap_heads.id = t_heap_heads := rfl
def T_struct_heap_Item_rest_s_string : TI := { size := 3, bytes := 48, agg := true, zero := [.str [], .int .i64 0, .vs 1 [] .nil], kind := .struct [(0, 48, 2), (2, 40, 1)], id := 77 }
@[simp] theorem T_struct_heap_Item_rest_s_string_size : T_struct_heap_Item_rest_s_string.size = 3 := rfl
@[simp] theorem T_struct_heap_Item_rest_s_string_agg : T_struct_heap_Item_rest_s_string.agg = true := rfl
@[simp] theorem T_struct_heap_Item_rest_s_string_zero : T_struct_heap_Item_rest_s_string.zero = [.str [], .int .i64 0, .vs 1 [] .nil] := rfl
@[simp] theorem T_struct_heap_Item_rest_s_string_kind : T_struct_heap_Item_rest_s_string.kind = .struct [(0, 48, 2), (2, 40, 1)] := rfl
@[simp] theorem T_struct_heap_Item_rest_s_string_id : T_struct_heap_Item_rest_s_string.id = t_struct_heap_Item_rest_s_string := rfl
def T_heap_head : TI := { size := 3, bytes := 48, agg := true, zero := [.str [], .int .i64 0, .vs 1 [] .nil], kind := .struct [(0, 48, 2), (2, 40, 1)], id := 78 }
@[simp] theorem T_heap_head_size : T_heap_head.size = 3 := rfl
@[simp] theorem T_heap_head_agg : T_heap_head.agg = true := rfl
@[simp] theorem T_heap_head_zero : T_heap_head.zero = [.str [], .int .i64 0, .vs 1 [] .nil] := rfl
@[simp] theorem T_heap_head_kind : T_heap_head.kind = .struct [(0, 48, 2), (2, 40, 1)] := rfl
@[simp] theorem T_heap_head_id : T_heap_head.id = t_heap_head := rfl
def T_func_heap_Interface : TI := { size := 1, bytes := 8, agg := false, zero := [.nilfn], kind := .func, id := 79 }
@[simp] theorem T_func_heap_Interface_size : T_func_heap_Interface.size = 1 := rfl
@[simp] theorem T_func_heap_Interface_agg : T_func_heap_Interface.agg = false := rfl
@[simp] theorem T_func_heap_Interface_zero : T_func_heap_Interface.zero = [.nilfn] := rfl
@[simp] theorem T_func_heap_Interface_kind : T_func_heap_Interface.kind = .func := rfl
@[simp] theorem T_func_heap_Interface_id : T_func_heap_Interface.id = t_func_heap_Interface := rfl
def T_p_heap_head : TI := { size := 1, bytes := 8, agg := false, zero := [.nil], kind := .ptr 78, id := 80 }
@[simp] theorem T_p_heap_head_size : T_p_heap_head.size = 1 := rfl
@[simp] theorem T_p_heap_head_agg : T_p_heap_head.agg = false := rfl
@[simp] theorem T_p_heap_head_zero : T_p_heap_head.zero = [.nil] := rfl
@[simp] theorem T_p_heap_head_kind : T_p_heap_head.kind = .ptr 78 := rfl
@[simp] theorem T_p_heap_head_id : T_p_heap_head.id = t_p_heap_head := rfl
def T_func_heap_Interface_interface : TI := { size := 1, bytes := 8, agg := false, zero := [.nilfn], kind := .func, id := 81 }
@[simp] theorem T_func_heap_Interface_interface_size : T_func_heap_Interface_interface.size = 1 := rfl
@[simp] theorem T_func_heap_Interface_interface_agg : T_func_heap_Interface_interface.agg = false := rfl
@[simp] theorem T_func_heap_Interface_interface_zero : T_func_heap_Interface_interface.zero = [.nilfn] := rfl
@[simp] theorem T_func_heap_Interface_interface_kind : T_func_heap_Interface_interface.kind = .func := rfl
@[simp] theorem T_func_heap_Interface_interface_id : T_func_heap_Interface_interface.id = t_func_heap_Interface_interface := rfl
def T_func_heap_Interface_int : TI := { size := 1, bytes := 8, agg := false, zero := [.nilfn], kind := .func, id := 82 }
@[simp] theorem T_func_heap_Interface_int_size : T_func_heap_Interface_int.size = 1 := rfl
@[simp] theorem T_func_heap_Interface_int_agg : T_func_heap_Interface_int.agg = false := rfl
@[simp] theorem T_func_heap_Interface_int_zero : T_func_heap_Interface_int.zero = [.nilfn] := rfl
@[simp] theorem T_func_heap_Interface_int_kind : T_func_heap_Interface_int.kind = .func := rfl
@[simp] theorem T_func_heap_Interface_int_id : T_func_heap_Interface_int.id = t_func_heap_Interface_int := rfl
def T_p_strings_Builder : TI := { size := 1, bytes := 8, agg := false, zero := [.nil], kind := .ptr 86, id := 83 }
@[simp] theorem T_p_strings_Builder_size : T_p_strings_Builder.size = 1 := rfl
@[simp] theorem T_p_strings_Builder_agg : T_p_strings_Builder.agg = false := rfl
@[simp] theorem T_p_strings_Builder_zero : T_p_strings_Builder.zero = [.nil] := rfl
@[simp] theorem T_p_strings_Builder_kind : T_p_strings_Builder.kind = .ptr 86 := rfl
@[simp] theorem T_p_strings_Builder_id : T_p_strings_Builder.id = t_p_strings_Builder := rfl
def T_s_uint8 : TI := { size := 1, bytes := 24, agg := false, zero := [.vs 1 [] .nil], kind := .slice 5, id := 84 }
@[simp] theorem T_s_uint8_size : T_s_uint8.size = 1 := rfl
@[simp] theorem T_s_uint8_agg : T_s_uint8.agg = false := rfl
@[simp] theorem T_s_uint8_zero : T_s_uint8.zero = [.vs 1 [] .nil] := rfl
@[simp] theorem T_s_uint8_kind : T_s_uint8.kind = .slice 5 := rfl
@[simp] theorem T_s_uint8_id : T_s_uint8.id = t_s_uint8 := rfl
def T_struct_addr_p_strings_Builder_buf_s_uint8 : TI := { size := 2, bytes := 32, agg := true, zero := [.nil, .vs 1 [] .nil], kind := .struct [(0, 83, 1), (1, 84, 1)], id := 85 }
@[simp] theorem T_struct_addr_p_strings_Builder_buf_s_uint8_size : T_struct_addr_p_strings_Builder_buf_s_uint8.size = 2 := rfl
@[simp] theorem T_struct_addr_p_strings_Builder_buf_s_uint8_agg : T_struct_addr_p_strings_Builder_buf_s_uint8.agg = true := rfl
@[simp] theorem T_struct_addr_p_strings_Builder_buf_s_uint8_zero : T_struct_addr_p_strings_Builder_buf_s_uint8.zero = [.nil, .vs 1 [] .nil] := rfl
@[simp] theorem T_struct_addr_p_strings_Builder_buf_s_uint8_kind : T_struct_addr_p_strings_Builder_buf_s_uint8.kind = .struct [(0, 83, 1), (1, 84, 1)] := rfl
@[simp] theorem T_struct_addr_p_strings_Builder_buf_s_uint8_id : T_struct_addr_p_strings_Builder_buf_s_uint8.id = t_struct_addr_p_strings_Builder_buf_s_uint8 := rfl
def T_strings_Builder : TI := { size := 2, bytes := 32, agg := true, zero := [.nil, .vs 1 [] .nil], kind := .struct [(0, 83, 1), (1, 84, 1)], id := 86 }
@[simp] theorem T_strings_Builder_size : T_strings_Builder.size = 2 := rfl
@[simp] theorem T_strings_Builder_agg : T_strings_Builder.agg = true := rfl
@[simp] theorem T_strings_Builder_zero : T_strings_Builder.zero = [.nil, .vs 1 [] .nil] := rfl
@[simp] theorem T_strings_Builder_kind : T_strings_Builder.kind = .struct [(0, 83, 1), (1, 84, 1)] := rfl
@[simp] theorem T_strings_Builder_id : T_strings_Builder.id = t_strings_Builder := rfl
def T_interface_Error_string : TI := { size := 1, bytes := 16, agg := false, zero := [.nilifc], kind := .iface, id := 87 }
@[simp] theorem T_interface_Error_string_size : T_interface_Error_string.size = 1 := rfl
@[simp] theorem T_interface_Error_string_agg : T_interface_Error_string.agg = false := rfl
@[simp] theorem T_interface_Error_string_zero : T_interface_Error_string.zero = [.nilifc] := rfl
@[simp] theorem T_interface_Error_string_kind : T_interface_Error_string.kind = .iface := rfl
@[simp] theorem T_interface_Error_string_id : T_interface_Error_string.id = t_interface_Error_string := rfl
def T_error : TI := { size := 1, bytes := 16, agg := false, zero := [.nilifc], kind := .iface, id := 88 }
@[simp] theorem T_error_size : T_error.size = 1 := rfl
@[simp] theorem T_error_agg : T_error.agg = false := rfl
@[simp] theorem T_error_zero : T_error.zero = [.nilifc] := rfl
@[simp] theorem T_error_kind : T_error.kind = .iface := rfl
@[simp] theorem T_error_id : T_error.id = t_error := rfl
def T_func_string_int_error : TI := { size := 1, bytes := 8, agg := false, zero := [.nilfn], kind := .func, id := 90 }
@[simp] theorem T_func_string_int_error_size : T_func_string_int_error.size = 1 := rfl
@[simp] theorem T_func_string_int_error_agg : T_func_string_int_error.agg = false := rfl
@[simp] theorem T_func_string_int_error_zero : T_func_string_int_error.zero = [.nilfn] := rfl
@[simp] theorem T_func_string_int_error_kind : T_func_string_int_error.kind = .func := rfl
@[simp] theorem T_func_string_int_error_id : T_func_string_int_error.id = t_func_string_int_error := rfl
def T_func_string_int_string : TI := { size := 1, bytes := 8, agg := false, zero := [.nilfn], kind := .func, id := 91 }
@[simp] theorem T_func_string_int_string_size : T_func_string_int_string.size = 1 := rfl
@[simp] theorem T_func_string_int_string_agg : T_func_string_int_string.agg = false := rfl
@[simp] theorem T_func_string_int_string_zero : T_func_string_int_string.zero = [.nilfn] := rfl
@[simp] theorem T_func_string_int_string_kind : T_func_string_int_string.kind = .func := rfl
@[simp] theorem T_func_string_int_string_id : T_func_string_int_string.id = t_func_string_int_string := rfl
def T_func_string : TI := { size := 1, bytes := 8, agg := false, zero := [.nilfn], kind := .func, id := 92 }
@[simp] theorem T_func_string_size : T_func_string.size = 1 := rfl
@[simp] theorem T_func_string_agg : T_func_string.agg = false := rfl
@[simp] theorem T_func_string_zero : T_func_string.zero = [.nilfn] := rfl
@[simp] theorem T_func_string_kind : T_func_string.kind = .func := rfl
@[simp] theorem T_func_string_id : T_func_string.id = t_func_string := rfl
def T_func_s_api_Extent_int_uint8 : TI := { size := 1, bytes := 8, agg := false, zero := [.nilfn], kind := .func, id := 93 }
@[simp] theorem T_func_s_api_Extent_int_uint8_size : T_func_s_api_Extent_int_uint8.size = 1 := rfl
@[simp] theorem T_func_s_api_Extent_int_uint8_agg : T_func_s_api_Extent_int_uint8.agg = false := rfl
@[simp] theorem T_func_s_api_Extent_int_uint8_zero : T_func_s_api_Extent_int_uint8.zero = [.nilfn] := rfl
@[simp] theorem T_func_s_api_Extent_int_uint8_kind : T_func_s_api_Extent_int_uint8.kind = .func := rfl
@[simp] theorem T_func_s_api_Extent_int_uint8_id : T_func_s_api_Extent_int_uint8.id = t_func_s_api_Extent_int_uint8 := rfl
def T_interface_Len_int_Less_int_int_bool_Pop_interfac_d7b234c6 : TI := { size := 1, bytes := 16, agg := false, zero := [.nilifc], kind := .iface, id := 94 }
@[simp] theorem T_interface_Len_int_Less_int_int_bool_Pop_interfac_d7b234c6_size : T_interface_Len_int_Less_int_int_bool_Pop_interfac_d7b234c6.size = 1 := rfl
@[simp] theorem T_interface_Len_int_Less_int_int_bool_Pop_interfac_d7b234c6_agg : T_interface_Len_int_Less_int_int_bool_Pop_interfac_d7b234c6.agg = false := rfl
@[simp] theorem T_interface_Len_int_Less_int_int_bool_Pop_interfac_d7b234c6_zero : T_interface_Len_int_Less_int_int_bool_Pop_interfac_d7b234c6.zero = [.nilifc] := rfl
@[simp] theorem T_interface_Len_int_Less_int_int_bool_Pop_interfac_d7b234c6_kind : T_interface_Len_int_Less_int_int_bool_Pop_interfac_d7b234c6.kind = .iface := rfl
@[simp] theorem T_interface_Len_int_Less_int_int_bool_Pop_interfac_d7b234c6_id : T_interface_Len_int_Less_int_int_bool_Pop_interfac_d7b234c6.id = t_interface_Len_int_Less_int_int_bool_Pop_interfac_d7b234c6 := rfl
def T_heap_Interface : TI := { size := 1, bytes := 16, agg := false, zero := [.nilifc], kind := .iface, id := 95 }
@[simp] theorem T_heap_Interface_size : T_heap_Interface.size = 1 := rfl
@[simp] theorem T_heap_Interface_agg : T_heap_Interface.agg = false := rfl
@[simp] theorem T_heap_Interface_zero : T_heap_Interface.zero = [.nilifc] := rfl
@[simp] theorem T_heap_Interface_kind : T_heap_Interface.kind = .iface := rfl
@[simp] theorem T_heap_Interface_id : T_heap_Interface.id = t_heap_Interface := rfl
def T_func_heap_Interface_int_int_bool : TI := { size := 1, bytes := 8, agg := false, zero := [.nilfn], kind := .func, id := 96 }
@[simp] theorem T_func_heap_Interface_int_int_bool_size : T_func_heap_Interface_int_int_bool.size = 1 := rfl
@[simp] theorem T_func_heap_Interface_int_int_bool_agg : T_func_heap_Interface_int_int_bool.agg = false := rfl
@[simp] theorem T_func_heap_Interface_int_int_bool_zero : T_func_heap_Interface_int_int_bool.zero = [.nilfn] := rfl
@[simp] theorem T_func_heap_Interface_int_int_bool_kind : T_func_heap_Interface_int_int_bool.kind = .func := rfl
@[simp] theorem T_func_heap_Interface_int_int_bool_id : T_func_heap_Interface_int_int_bool.id = t_func_heap_Interface_int_int_bool := rfl
def T_func_int_int_7d0cc0 : TI := { size := 1, bytes := 8, agg := false, zero := [.nilfn], kind := .func, id := 97 }
@[simp] theorem T_func_int_int_7d0cc0_size : T_func_int_int_7d0cc0.size = 1 := rfl
@[simp] theorem T_func_int_int_7d0cc0_agg : T_func_int_int_7d0cc0.agg = false := rfl
@[simp] theorem T_func_int_int_7d0cc0_zero : T_func_int_int_7d0cc0.zero = [.nilfn] := rfl
@[simp] theorem T_func_int_int_7d0cc0_kind : T_func_int_int_7d0cc0.kind = .func := rfl
@[simp] theorem T_func_int_int_7d0cc0_id : T_func_int_int_7d0cc0.id = t_func_int_int_7d0cc0 := rfl
def T_func_interface : TI := { size := 1, bytes := 8, agg := false, zero := [.nilfn], kind := .func, id := 98 }
@[simp] theorem T_func_interface_size : T_func_interface.size = 1 := rfl
@[simp] theorem T_func_interface_agg : T_func_interface.agg = false := rfl
@[simp] theorem T_func_interface_zero : T_func_interface.zero = [.nilfn] := rfl
@[simp] theorem T_func_interface_kind : T_func_interface.kind = .func := rfl
@[simp] theorem T_func_interface_id : T_func_interface.id = t_func_interface := rfl
def T_uint : TI := { size := 1, bytes := 8, agg := false, zero := [.int .u64 0], kind := .int .u64, id := 99 }
@[simp] theorem T_uint_size : T_uint.size = 1 := rfl
@[simp] theorem T_uint_agg : T_uint.agg = false := rfl
@[simp] theorem T_uint_zero : T_uint.zero = [.int .u64 0] := rfl
@[simp] theorem T_uint_kind : T_uint.kind = .int .u64 := rfl
@[simp] theorem T_uint_id : T_uint.id = t_uint := rfl
def T_func_uint_uint_uint_uint : TI := { size := 1, bytes := 8, agg := false, zero := [.nilfn], kind := .func, id := 101 }
@[simp] theorem T_func_uint_uint_uint_uint_size : T_func_uint_uint_uint_uint.size = 1 := rfl
@[simp] theorem T_func_uint_uint_uint_uint_agg : T_func_uint_uint_uint_uint.agg = false := rfl
@[simp] theorem T_func_uint_uint_uint_uint_zero : T_func_uint_uint_uint_uint.zero = [.nilfn] := rfl
@[simp] theorem T_func_uint_uint_uint_uint_kind : T_func_uint_uint_uint_uint.kind = .func := rfl
@[simp] theorem T_func_uint_uint_uint_uint_id : T_func_uint_uint_uint_uint.id = t_func_uint_uint_uint_uint := rfl
def T_func_int_f2d63e : TI := { size := 1, bytes := 8, agg := false, zero := [.nilfn], kind := .func, id := 102 }
@[simp] theorem T_func_int_f2d63e_size : T_func_int_f2d63e.size = 1 := rfl
@[simp] theorem T_func_int_f2d63e_agg : T_func_int_f2d63e.agg = false := rfl
@[simp] theorem T_func_int_f2d63e_zero : T_func_int_f2d63e.zero = [.nilfn] := rfl
@[simp] theorem T_func_int_f2d63e_kind : T_func_int_f2d63e.kind = .func := rfl
@[simp] theorem T_func_int_f2d63e_id : T_func_int_f2d63e.id = t_func_int_f2d63e := rfl
def T_p_uint8 : TI := { size := 1, bytes := 8, agg := false, zero := [.nil], kind := .ptr 5, id := 103 }
@[simp] theorem T_p_uint8_size : T_p_uint8.size = 1 := rfl
@[simp] theorem T_p_uint8_agg : T_p_uint8.agg = false := rfl
@[simp] theorem T_p_uint8_zero : T_p_uint8.zero = [.nil] := rfl
@[simp] theorem T_p_uint8_kind : T_p_uint8.kind = .ptr 5 := rfl
@[simp] theorem T_p_uint8_id : T_p_uint8.id = t_p_uint8 := rfl
def T_func_int_int_bool : TI := { size := 1, bytes := 8, agg := false, zero := [.nilfn], kind := .func, id := 104 }
@[simp] theorem T_func_int_int_bool_size : T_func_int_int_bool.size = 1 := rfl
@[simp] theorem T_func_int_int_bool_agg : T_func_int_int_bool.agg = false := rfl
@[simp] theorem T_func_int_int_bool_zero : T_func_int_int_bool.zero = [.nilfn] := rfl
@[simp] theorem T_func_int_int_bool_kind : T_func_int_int_bool.kind = .func := rfl
@[simp] theorem T_func_int_int_bool_id : T_func_int_int_bool.id = t_func_int_int_bool := rfl
def T_func_unsafe_Pointer_unsafe_Pointer : TI := { size := 1, bytes := 8, agg := false, zero := [.nilfn], kind := .func, id := 106 }
@[simp] theorem T_func_unsafe_Pointer_unsafe_Pointer_size : T_func_unsafe_Pointer_unsafe_Pointer.size = 1 := rfl
@[simp] theorem T_func_unsafe_Pointer_unsafe_Pointer_agg : T_func_unsafe_Pointer_unsafe_Pointer.agg = false := rfl
@[simp] theorem T_func_unsafe_Pointer_unsafe_Pointer_zero : T_func_unsafe_Pointer_unsafe_Pointer.zero = [.nilfn] := rfl
@[simp] theorem T_func_unsafe_Pointer_unsafe_Pointer_kind : T_func_unsafe_Pointer_unsafe_Pointer.kind = .func := rfl
@[simp] theorem T_func_unsafe_Pointer_unsafe_Pointer_id : T_func_unsafe_Pointer_unsafe_Pointer.id = t_func_unsafe_Pointer_unsafe_Pointer := rfl
def T_uint32 : TI := { size := 1, bytes := 4, agg := false, zero := [.int .u32 0], kind := .int .u32, id := 107 }
@[simp] theorem T_uint32_size : T_uint32.size = 1 := rfl
@[simp] theorem T_uint32_agg : T_uint32.agg = false := rfl
@[simp] theorem T_uint32_zero : T_uint32.zero = [.int .u32 0] := rfl
@[simp] theorem T_uint32_kind : T_uint32.kind = .int .u32 := rfl
@[simp] theorem T_uint32_id : T_uint32.id = t_uint32 := rfl
def T_func_uint32_uint32_uint32_uint32 : TI := { size := 1, bytes := 8, agg := false, zero := [.nilfn], kind := .func, id := 109 }
@[simp] theorem T_func_uint32_uint32_uint32_uint32_size : T_func_uint32_uint32_uint32_uint32.size = 1 := rfl
@[simp] theorem T_func_uint32_uint32_uint32_uint32_agg : T_func_uint32_uint32_uint32_uint32.agg = false := rfl
@[simp] theorem T_func_uint32_uint32_uint32_uint32_zero : T_func_uint32_uint32_uint32_uint32.zero = [.nilfn] := rfl
@[simp] theorem T_func_uint32_uint32_uint32_uint32_kind : T_func_uint32_uint32_uint32_uint32.kind = .func := rfl
@[simp] theorem T_func_uint32_uint32_uint32_uint32_id : T_func_uint32_uint32_uint32_uint32.id = t_func_uint32_uint32_uint32_uint32 := rfl
def T_uint64 : TI := { size := 1, bytes := 8, agg := false, zero := [.int .u64 0], kind := .int .u64, id := 110 }
@[simp] theorem T_uint64_size : T_uint64.size = 1 := rfl
@[simp] theorem T_uint64_agg : T_uint64.agg = false := rfl
@[simp] theorem T_uint64_zero : T_uint64.zero = [.int .u64 0] := rfl
@[simp] theorem T_uint64_kind : T_uint64.kind = .int .u64 := rfl
@[simp] theorem T_uint64_id : T_uint64.id = t_uint64 := rfl
def T_func_uint64_uint64_uint64_uint64 : TI := { size := 1, bytes := 8, agg := false, zero := [.nilfn], kind := .func, id := 112 }
@[simp] theorem T_func_uint64_uint64_uint64_uint64_size : T_func_uint64_uint64_uint64_uint64.size = 1 := rfl
@[simp] theorem T_func_uint64_uint64_uint64_uint64_agg : T_func_uint64_uint64_uint64_uint64.agg = false := rfl
@[simp] theorem T_func_uint64_uint64_uint64_uint64_zero : T_func_uint64_uint64_uint64_uint64.zero = [.nilfn] := rfl
@[simp] theorem T_func_uint64_uint64_uint64_uint64_kind : T_func_uint64_uint64_uint64_uint64.kind = .func := rfl
@[simp] theorem T_func_uint64_uint64_uint64_uint64_id : T_func_uint64_uint64_uint64_uint64.id = t_func_uint64_uint64_uint64_uint64 := rfl
def T_func_int_s_uint8 : TI := { size := 1, bytes := 8, agg := false, zero := [.nilfn], kind := .func, id := 113 }
@[simp] theorem T_func_int_s_uint8_size : T_func_int_s_uint8.size = 1 := rfl
@[simp] theorem T_func_int_s_uint8_agg : T_func_int_s_uint8.agg = false := rfl
@[simp] theorem T_func_int_s_uint8_zero : T_func_int_s_uint8.zero = [.nilfn] := rfl
@[simp] theorem T_func_int_s_uint8_kind : T_func_int_s_uint8.kind = .func := rfl
@[simp] theorem T_func_int_s_uint8_id : T_func_int_s_uint8.id = t_func_int_s_uint8 := rfl
def T_struct_interface_p_abi_Type_concrete_p_abi_Type__3af7698d : TI := { size := 4, bytes := 40, agg := true, zero := [.nil, .nil, .nil, .str []], kind := .struct [(0, 17, 1), (1, 17, 1), (2, 17, 1), (3, 9, 1)], id := 114 }
@[simp] theorem T_struct_interface_p_abi_Type_concrete_p_abi_Type__3af7698d_size : T_struct_interface_p_abi_Type_concrete_p_abi_Type__3af7698d.size = 4 := rfl
@[simp] theorem T_struct_interface_p_abi_Type_concrete_p_abi_Type__3af7698d_agg : T_struct_interface_p_abi_Type_concrete_p_abi_Type__3af7698d.agg = true := rfl
@[simp] theorem T_struct_interface_p_abi_Type_concrete_p_abi_Type__3af7698d_zero : T_struct_interface_p_abi_Type_concrete_p_abi_Type__3af7698d.zero = [.nil, .nil, .nil, .str []] := rfl
@[simp] theorem T_struct_interface_p_abi_Type_concrete_p_abi_Type__3af7698d_kind : T_struct_interface_p_abi_Type_concrete_p_abi_Type__3af7698d.kind = .struct [(0, 17, 1), (1, 17, 1), (2, 17, 1), (3, 9, 1)] := rfl
@[simp] theorem T_struct_interface_p_abi_Type_concrete_p_abi_Type__3af7698d_id : T_struct_interface_p_abi_Type_concrete_p_abi_Type__3af7698d.id = t_struct_interface_p_abi_Type_concrete_p_abi_Type__3af7698d := rfl
def T_runtime_TypeAssertionError : TI := { size := 4, bytes := 40, agg := true, zero := [.nil, .nil, .nil, .str []], kind := .struct [(0, 17, 1), (1, 17, 1), (2, 17, 1), (3, 9, 1)], id := 115 }
@[simp] theorem T_runtime_TypeAssertionError_size : T_runtime_TypeAssertionError.size = 4 := rfl
@[simp] theorem T_runtime_TypeAssertionError_agg : T_runtime_TypeAssertionError.agg = true := rfl
@[simp] theorem T_runtime_TypeAssertionError_zero : T_runtime_TypeAssertionError.zero = [.nil, .nil, .nil, .str []] := rfl
@[simp] theorem T_runtime_TypeAssertionError_kind : T_runtime_TypeAssertionError.kind = .struct [(0, 17, 1), (1, 17, 1), (2, 17, 1), (3, 9, 1)] := rfl
@[simp] theorem T_runtime_TypeAssertionError_id : T_runtime_TypeAssertionError.id = t_runtime_TypeAssertionError := rfl
def T_0_p_runtime_PanicNilError : TI := { size := 0, bytes := 0, agg := true, zero := [], kind := .array 0 16, id := 116 }
@[simp] theorem T_0_p_runtime_PanicNilError_size : T_0_p_runtime_PanicNilError.size = 0 := rfl
@[simp] theorem T_0_p_runtime_PanicNilError_agg : T_0_p_runtime_PanicNilError.agg = true := rfl
@[simp] theorem T_0_p_runtime_PanicNilError_zero : T_0_p_runtime_PanicNilError.zero = [] := rfl
@[simp] theorem T_0_p_runtime_PanicNilError_kind : T_0_p_runtime_PanicNilError.kind = .array 0 16 := rfl
@[simp] theorem T_0_p_runtime_PanicNilError_id : T_0_p_runtime_PanicNilError.id = t_0_p_runtime_PanicNilError := rfl
def T_struct_0_p_runtime_PanicNilError : TI := { size := 0, bytes := 0, agg := true, zero := [], kind := .struct [(0, 116, 0)], id := 117 }
@[simp] theorem T_struct_0_p_runtime_PanicNilError_size : T_struct_0_p_runtime_PanicNilError.size = 0 := rfl
@[simp] theorem T_struct_0_p_runtime_PanicNilError_agg : T_struct_0_p_runtime_PanicNilError.agg = true := rfl
@[simp] theorem T_struct_0_p_runtime_PanicNilError_zero : T_struct_0_p_runtime_PanicNilError.zero = [] := rfl
@[simp] theorem T_struct_0_p_runtime_PanicNilError_kind : T_struct_0_p_runtime_PanicNilError.kind = .struct [(0, 116, 0)] := rfl
@[simp] theorem T_struct_0_p_runtime_PanicNilError_id : T_struct_0_p_runtime_PanicNilError.id = t_struct_0_p_runtime_PanicNilError := rfl
def T_runtime_PanicNilError : TI := { size := 0, bytes := 0, agg := true, zero := [], kind := .struct [(0, 116, 0)], id := 118 }
@[simp] theorem T_runtime_PanicNilError_size : T_runtime_PanicNilError.size = 0 := rfl
@[simp] theorem T_runtime_PanicNilError_agg : T_runtime_PanicNilError.agg = true := rfl
@[simp] theorem T_runtime_PanicNilError_zero : T_runtime_PanicNilError.zero = [] := rfl
@[simp] theorem T_runtime_PanicNilError_kind : T_runtime_PanicNilError.kind = .struct [(0, 116, 0)] := rfl
@[simp] theorem T_runtime_PanicNilError_id : T_runtime_PanicNilError.id = t_runtime_PanicNilError := rfl
def T_abi_TFlag : TI := { size := 1, bytes := 1, agg := false, zero := [.int .u8 0], kind := .int .u8, id := 119 }
@[simp] theorem T_abi_TFlag_size : T_abi_TFlag.size = 1 := rfl
@[simp] theorem T_abi_TFlag_agg : T_abi_TFlag.agg = false := rfl
@[simp] theorem T_abi_TFlag_zero : T_abi_TFlag.zero = [.int .u8 0] := rfl
@[simp] theorem T_abi_TFlag_kind : T_abi_TFlag.kind = .int .u8 := rfl
@[simp] theorem T_abi_TFlag_id : T_abi_TFlag.id = t_abi_TFlag := rfl
def T_abi_Kind : TI := { size := 1, bytes := 1, agg := false, zero := [.int .u8 0], kind := .int .u8, id := 120 }
@[simp] theorem T_abi_Kind_size : T_abi_Kind.size = 1 := rfl
@[simp] theorem T_abi_Kind_agg : T_abi_Kind.agg = false := rfl
@[simp] theorem T_abi_Kind_zero : T_abi_Kind.zero = [.int .u8 0] := rfl
@[simp] theorem T_abi_Kind_kind : T_abi_Kind.kind = .int .u8 := rfl
@[simp] theorem T_abi_Kind_id : T_abi_Kind.id = t_abi_Kind := rfl
def T_func_unsafe_Pointer_unsafe_Pointer_bool : TI := { size := 1, bytes := 8, agg := false, zero := [.nilfn], kind := .func, id := 121 }
@[simp] theorem T_func_unsafe_Pointer_unsafe_Pointer_bool_size : T_func_unsafe_Pointer_unsafe_Pointer_bool.size = 1 := rfl
@[simp] theorem T_func_unsafe_Pointer_unsafe_Pointer_bool_agg : T_func_unsafe_Pointer_unsafe_Pointer_bool.agg = false := rfl
@[simp] theorem T_func_unsafe_Pointer_unsafe_Pointer_bool_zero : T_func_unsafe_Pointer_unsafe_Pointer_bool.zero = [.nilfn] := rfl
@[simp] theorem T_func_unsafe_Pointer_unsafe_Pointer_bool_kind : T_func_unsafe_Pointer_unsafe_Pointer_bool.kind = .func := rfl
@[simp] theorem T_func_unsafe_Pointer_unsafe_Pointer_bool_id : T_func_unsafe_Pointer_unsafe_Pointer_bool.id = t_func_unsafe_Pointer_unsafe_Pointer_bool := rfl
def T_abi_NameOff : TI := { size := 1, bytes := 4, agg := false, zero := [.int .i32 0], kind := .int .i32, id := 122 }
@[simp] theorem T_abi_NameOff_size : T_abi_NameOff.size = 1 := rfl
@[simp] theorem T_abi_NameOff_agg : T_abi_NameOff.agg = false := rfl
@[simp] theorem T_abi_NameOff_zero : T_abi_NameOff.zero = [.int .i32 0] := rfl
@[simp] theorem T_abi_NameOff_kind : T_abi_NameOff.kind = .int .i32 := rfl
@[simp] theorem T_abi_NameOff_id : T_abi_NameOff.id = t_abi_NameOff := rfl
def T_abi_TypeOff : TI := { size := 1, bytes := 4, agg := false, zero := [.int .i32 0], kind := .int .i32, id := 123 }
@[simp] theorem T_abi_TypeOff_size : T_abi_TypeOff.size = 1 := rfl
@[simp] theorem T_abi_TypeOff_agg : T_abi_TypeOff.agg = false := rfl
@[simp] theorem T_abi_TypeOff_zero : T_abi_TypeOff.zero = [.int .i32 0] := rfl
@[simp] theorem T_abi_TypeOff_kind : T_abi_TypeOff.kind = .int .i32 := rfl
@[simp] theorem T_abi_TypeOff_id : T_abi_TypeOff.id = t_abi_TypeOff := rfl
def T_struct_Size_uintptr_PtrBytes_uintptr_Hash_uint32_7c8ec20b : TI := { size := 11, bytes := 48, agg := true, zero := [.int .u64 0, .int .u64 0, .int .u32 0, .int .u8 0, .int .u8 0, .int .u8 0, .int .u8 0, .nilfn, .nil, .int .i32 0, .int .i32 0], kind := .struct [(0, 12, 1), (1, 12, 1), (2, 107, 1), (3, 119, 1), (4, 5, 1), (5, 5, 1), (6, 120, 1), (7, 121, 1), (8, 103, 1), (9, 122, 1), (10, 123, 1)], id := 124 }
@[simp] theorem T_struct_Size_uintptr_PtrBytes_uintptr_Hash_uint32_7c8ec20b_size : T_struct_Size_uintptr_PtrBytes_uintptr_Hash_uint32_7c8ec20b.size = 11 := rfl
@[simp] theorem T_struct_Size_uintptr_PtrBytes_uintptr_Hash_uint32_7c8ec20b_agg : T_struct_Size_uintptr_PtrBytes_uintptr_Hash_uint32_7c8ec20b.agg = true := rfl
@[simp] theorem T_struct_Size_uintptr_PtrBytes_uintptr_Hash_uint32_7c8ec20b_zero : T_struct_Size_uintptr_PtrBytes_uintptr_Hash_uint32_7c8ec20b.zero = [.int .u64 0, .int .u64 0, .int .u32 0, .int .u8 0, .int .u8 0, .int .u8 0, .int .u8 0, .nilfn, .nil, .int .i32 0, .int .i32 0] := rfl
@[simp] theorem T_struct_Size_uintptr_PtrBytes_uintptr_Hash_uint32_7c8ec20b_kind : T_struct_Size_uintptr_PtrBytes_uintptr_Hash_uint32_7c8ec20b.kind = .struct [(0, 12, 1), (1, 12, 1), (2, 107, 1), (3, 119, 1), (4, 5, 1), (5, 5, 1), (6, 120, 1), (7, 121, 1), (8, 103, 1), (9, 122, 1), (10, 123, 1)] := rfl
@[simp] theorem T_struct_Size_uintptr_PtrBytes_uintptr_Hash_uint32_7c8ec20b_id : T_struct_Size_uintptr_PtrBytes_uintptr_Hash_uint32_7c8ec20b.id = t_struct_Size_uintptr_PtrBytes_uintptr_Hash_uint32_7c8ec20b := rfl
def T_abi_Type : TI := { size := 11, bytes := 48, agg := true, zero := [.int .u64 0, .int .u64 0, .int .u32 0, .int .u8 0, .int .u8 0, .int .u8 0, .int .u8 0, .nilfn, .nil, .int .i32 0, .int .i32 0], kind := .struct [(0, 12, 1), (1, 12, 1), (2, 107, 1), (3, 119, 1), (4, 5, 1), (5, 5, 1), (6, 120, 1), (7, 121, 1), (8, 103, 1), (9, 122, 1), (10, 123, 1)], id := 125 }
@[simp] theorem T_abi_Type_size : T_abi_Type.size = 11 := rfl
@[simp] theorem T_abi_Type_agg : T_abi_Type.agg = true := rfl
@[simp] theorem T_abi_Type_zero : T_abi_Type.zero = [.int .u64 0, .int .u64 0, .int .u32 0, .int .u8 0, .int .u8 0, .int .u8 0, .int .u8 0, .nilfn, .nil, .int .i32 0, .int .i32 0] := rfl
@[simp] theorem T_abi_Type_kind : T_abi_Type.kind = .struct [(0, 12, 1), (1, 12, 1), (2, 107, 1), (3, 119, 1), (4, 5, 1), (5, 5, 1), (6, 120, 1), (7, 121, 1), (8, 103, 1), (9, 122, 1), (10, 123, 1)] := rfl
@[simp] theorem T_abi_Type_id : T_abi_Type.id = t_abi_Type := rfl
def T_func_interface_1cb4d9 : TI := { size := 1, bytes := 8, agg := false, zero := [.nilfn], kind := .func, id := 126 }
@[simp] theorem T_func_interface_1cb4d9_size : T_func_interface_1cb4d9.size = 1 := rfl
@[simp] theorem T_func_interface_1cb4d9_agg : T_func_interface_1cb4d9.agg = false := rfl
@[simp] theorem T_func_interface_1cb4d9_zero : T_func_interface_1cb4d9.zero = [.nilfn] := rfl
@[simp] theorem T_func_interface_1cb4d9_kind : T_func_interface_1cb4d9.kind = .func := rfl
@[simp] theorem T_func_interface_1cb4d9_id : T_func_interface_1cb4d9.id = t_func_interface_1cb4d9 := rfl
def tyOf : Nat → TI
  | 1 => T_func
  | 2 => T_int64
  | 3 => T_int
  | 4 => T_bool
  | 5 => T_uint8
  | 6 => T_abi_BoundsErrorCode
  | 7 => T_struct_x_int64_y_int_signed_bool_code_abi_BoundsErrorCode
  | 8 => T_runtime_boundsError
  | 9 => T_string
  | 10 => T_runtime_errorString
  | 11 => T_runtime_plainError
  | 12 => T_uintptr
  | 13 => T_struct_msg_string_addr_uintptr
  | 14 => T_runtime_errorAddressString
  | 15 => T_p_runtime_TypeAssertionError
  | 16 => T_p_runtime_PanicNilError
  | 17 => T_p_abi_Type
  | 18 => T_struct_typ_p_abi_Type
  | 19 => T_maps_unhashableTypeError
  | 20 => T_interface
  | 21 => T_int32
  | 22 => T_s_socagelaw17_Act
  | 23 => T_func_bool
  | 24 => T_map_int_struct
  | 25 => T_s_int
  | 26 => T_struct_readers_map_int_struct_writer_int_waiting_s_int
  | 27 => T_gate_Gate
  | 28 => T_struct_Readers_s_int_Writers_s_int_Waiting_s_int
  | 29 => T_socageref17_Gate
  | 30 => T_struct_Kind_uint8_ID_uint8
  | 31 => T_socagelaw17_Act
  | 32 => T_func_int_bool
  | 34 => T_func_socageref17_Gate_int_socageref17_Gate_bool
  | 35 => T_func_int
  | 36 => T_func_socageref17_Gate_int_bool
  | 37 => T_func_s_socagelaw17_Act_bool
  | 38 => T_func_uint8_uint8_bool
  | 39 => T_s_s_string
  | 40 => T_s_string
  | 41 => T_func_s_string_bool
  | 42 => T_s_heap_Item
  | 43 => T_func_s_string_s_heap_Item
  | 44 => T_s_socageref09_Item
  | 45 => T_func_s_s_string_s_socageref09_Item
  | 46 => T_func_s_heap_Item_s_heap_Item
  | 47 => T_struct_Name_string_Row_int
  | 48 => T_heap_Item
  | 49 => T_socageref09_Item
  | 50 => T_func_s_s_string_bool
  | 51 => T_func_s_heap_Item_s_string
  | 52 => T_func_s_s_string_uint8_bool
  | 53 => T_s_api_Extent
  | 54 => T_func_s_api_Extent_bool
  | 55 => T_func_int_api_Extent_bool
  | 56 => T_func_int_s_api_Extent_bool
  | 57 => T_2_int
  | 58 => T_func_int_s_api_Extent_int_int_string
  | 59 => T_func_int_s_api_Extent_2_int_bool
  | 60 => T_func_string_s_api_Extent
  | 61 => T_struct_Off_int_Data_string
  | 62 => T_api_Extent
  | 63 => T_func_string_bool
  | 64 => T_p_gate_Gate
  | 65 => T_struct
  | 66 => T_func_int_int
  | 67 => T_func_s_int_int_bool
  | 68 => T_func_s_int_int_s_int
  | 70 => T_func_string_string_bool
  | 71 => T_p_heap_heads
  | 72 => T_func_heap_Item_heap_Item_bool
  | 73 => T_func_heap_Item_bool
  | 74 => T_s_heap_head
  | 75 => T_struct_l_s_heap_head_less_func_heap_Item_heap_Item_bool
  | 76 => T_heap_heads
  | 77 => T_struct_heap_Item_rest_s_string
  | 78 => T_heap_head
  | 79 => T_func_heap_Interface
  | 80 => T_p_heap_head
  | 81 => T_func_heap_Interface_interface
  | 82 => T_func_heap_Interface_int
  | 83 => T_p_strings_Builder
  | 84 => T_s_uint8
  | 85 => T_struct_addr_p_strings_Builder_buf_s_uint8
  | 86 => T_strings_Builder
  | 87 => T_interface_Error_string
  | 88 => T_error
  | 90 => T_func_string_int_error
  | 91 => T_func_string_int_string
  | 92 => T_func_string
  | 93 => T_func_s_api_Extent_int_uint8
  | 94 => T_interface_Len_int_Less_int_int_bool_Pop_interfac_d7b234c6
  | 95 => T_heap_Interface
  | 96 => T_func_heap_Interface_int_int_bool
  | 97 => T_func_int_int_7d0cc0
  | 98 => T_func_interface
  | 99 => T_uint
  | 101 => T_func_uint_uint_uint_uint
  | 102 => T_func_int_f2d63e
  | 103 => T_p_uint8
  | 104 => T_func_int_int_bool
  | 106 => T_func_unsafe_Pointer_unsafe_Pointer
  | 107 => T_uint32
  | 109 => T_func_uint32_uint32_uint32_uint32
  | 110 => T_uint64
  | 112 => T_func_uint64_uint64_uint64_uint64
  | 113 => T_func_int_s_uint8
  | 114 => T_struct_interface_p_abi_Type_concrete_p_abi_Type__3af7698d
  | 115 => T_runtime_TypeAssertionError
  | 116 => T_0_p_runtime_PanicNilError
  | 117 => T_struct_0_p_runtime_PanicNilError
  | 118 => T_runtime_PanicNilError
  | 119 => T_abi_TFlag
  | 120 => T_abi_Kind
  | 121 => T_func_unsafe_Pointer_unsafe_Pointer_bool
  | 122 => T_abi_NameOff
  | 123 => T_abi_TypeOff
  | 124 => T_struct_Size_uintptr_PtrBytes_uintptr_Hash_uint32_7c8ec20b
  | 125 => T_abi_Type
  | 126 => T_func_interface_1cb4d9
  | n => { size := 0, bytes := 0, agg := false, zero := [], kind := match n with | 0 | 33 | 69 | 89 | 100 | 108 | 111 => .tuple | _ => .other }
def locOf : Nat → Nat → Bool
  | 3, 4 => true
  | 3, 6 => true
  | 5, 10 => true
  | 8, 5 => true
  | 9, 6 => true
  | 12, 2 => true
  | 12, 4 => true
  | 14, 2 => true
  | 14, 4 => true
  | 16, 2 => true
  | 16, 4 => true
  | 20, 5 => true
  | 21, 2 => true
  | 26, 5 => true
  | 27, 5 => true
  | 29, 5 => true
  | 30, 7 => true
  | 32, 11 => true
  | 39, 2 => true
  | 39, 3 => true
  | 78, 4 => true
  | _, _ => false
def liveOf : Nat → Nat → List Nat × List Nat
  | 3, 8 => ([17], [4])
  | 4, 6 => ([22], [])
  | 4, 12 => ([30], [])
  | 4, 18 => ([45], [])
  | 4, 24 => ([60], [])
  | 4, 27 => ([12], [])
  | 5, 6 => ([18], [])
  | 5, 16 => ([7, 44], [])
  | 6, 6 => ([21], [])
  | 6, 18 => ([74], [])
  | 9, 8 => ([4, 17], [])
  | 9, 13 => ([28], [6])
  | 23, 2 => ([3], [])
  | 24, 4 => ([4, 13], [])
  | 24, 12 => ([7], [])
  | 25, 3 => ([4], [])
  | 25, 5 => ([5, 6], [])
  | 26, 3 => ([3, 8], [])
  | 27, 3 => ([3, 9], [])
  | 29, 3 => ([3, 8], [])
  | 30, 3 => ([5, 10], [])
  | 31, 4 => ([5], [])
  | 32, 6 => ([32], [])
  | 33, 5 => ([9, 10], [])
  | 34, 3 => ([0, 3, 4], [])
  | 34, 5 => ([5], [])
  | 35, 2 => ([12], [])
  | 36, 2 => ([5], [])
  | 37, 3 => ([5, 6], [])
  | 38, 2 => ([5], [])
  | 40, 2 => ([3], [])
  | 48, 2 => ([5], [])
  | 49, 2 => ([7], [])
  | 50, 0 => ([1], [])
  | _, _ => ([], [])
def hasL : List Nat := [1, 2, 3, 4, 5, 6, 7, 8, 9, 10, 11, 12, 13, 14, 15, 16, 17, 18, 19, 20, 21, 22, 23, 24, 25, 26, 27, 28, 29, 30, 31, 32, 34, 35, 36, 37, 38, 39, 40, 41, 42, 43, 44, 45, 46, 47, 48, 49, 50, 51, 52, 53, 54, 55, 56, 57, 58, 59, 60, 61, 62, 63, 64, 65, 66, 67, 68, 70, 71, 72, 73, 74, 75, 76, 77, 78, 79, 80, 81, 82, 83, 84, 85, 86, 87, 88, 90, 91, 92, 93, 94, 95, 96, 97, 98, 99, 101, 102, 103, 104, 106, 107, 109, 110, 112, 113, 114, 115, 116, 117, 118, 119, 120, 121, 122, 123, 124, 125, 126]
def hasOf : Nat → Bool
  | 1 => true
  | 2 => true
  | 3 => true
  | 4 => true
  | 5 => true
  | 6 => true
  | 7 => true
  | 8 => true
  | 9 => true
  | 10 => true
  | 11 => true
  | 12 => true
  | 13 => true
  | 14 => true
  | 15 => true
  | 16 => true
  | 17 => true
  | 18 => true
  | 19 => true
  | 20 => true
  | 21 => true
  | 22 => true
  | 23 => true
  | 24 => true
  | 25 => true
  | 26 => true
  | 27 => true
  | 28 => true
  | 29 => true
  | 30 => true
  | 31 => true
  | 32 => true
  | 34 => true
  | 35 => true
  | 36 => true
  | 37 => true
  | 38 => true
  | 39 => true
  | 40 => true
  | 41 => true
  | 42 => true
  | 43 => true
  | 44 => true
  | 45 => true
  | 46 => true
  | 47 => true
  | 48 => true
  | 49 => true
  | 50 => true
  | 51 => true
  | 52 => true
  | 53 => true
  | 54 => true
  | 55 => true
  | 56 => true
  | 57 => true
  | 58 => true
  | 59 => true
  | 60 => true
  | 61 => true
  | 62 => true
  | 63 => true
  | 64 => true
  | 65 => true
  | 66 => true
  | 67 => true
  | 68 => true
  | 70 => true
  | 71 => true
  | 72 => true
  | 73 => true
  | 74 => true
  | 75 => true
  | 76 => true
  | 77 => true
  | 78 => true
  | 79 => true
  | 80 => true
  | 81 => true
  | 82 => true
  | 83 => true
  | 84 => true
  | 85 => true
  | 86 => true
  | 87 => true
  | 88 => true
  | 90 => true
  | 91 => true
  | 92 => true
  | 93 => true
  | 94 => true
  | 95 => true
  | 96 => true
  | 97 => true
  | 98 => true
  | 99 => true
  | 101 => true
  | 102 => true
  | 103 => true
  | 104 => true
  | 106 => true
  | 107 => true
  | 109 => true
  | 110 => true
  | 112 => true
  | 113 => true
  | 114 => true
  | 115 => true
  | 116 => true
  | 117 => true
  | 118 => true
  | 119 => true
  | 120 => true
  | 121 => true
  | 122 => true
  | 123 => true
  | 124 => true
  | 125 => true
  | 126 => true
  | _ => false
def eqkL : List Nat := [7, 8, 30, 31, 47, 48, 49, 61, 62, 65]
def eqkOf : Nat → Bool
  | 7 => true
  | 8 => true
  | 30 => true
  | 31 => true
  | 47 => true
  | 48 => true
  | 49 => true
  | 61 => true
  | 62 => true
  | 65 => true
  | _ => false
def byrefOf : Nat → Bool
  | 78 => true
  | _ => false
def methOf (t : Nat) (m : String) : Option Nat :=
  match t with
  | 71 => if m = "Len" then some F_heap_heads_Len else if m = "Less" then some F_heap_heads_Less else if m = "Pop" then some F_heap_heads_Pop else if m = "Swap" then some F_heap_heads_Swap else none
  | _ => none
@[simp] theorem meth_p_heap_heads_Len : methOf t_p_heap_heads "Len" = some F_heap_heads_Len := by simp [methOf]
@[simp] theorem meth_p_heap_heads_Less : methOf t_p_heap_heads "Less" = some F_heap_heads_Less := by simp [methOf]
@[simp] theorem meth_p_heap_heads_Pop : methOf t_p_heap_heads "Pop" = some F_heap_heads_Pop := by simp [methOf]
@[simp] theorem meth_p_heap_heads_Swap : methOf t_p_heap_heads "Swap" = some F_heap_heads_Swap := by simp [methOf]
def C : Ctx := { ty := tyOf, has := hasOf, eqk := eqkOf, loc := locOf, byref := byrefOf, meth := methOf, live := liveOf }
@[simp] theorem C_meth : C.meth = methOf := rfl
noncomputable def En (w0 : World) : Env := ⟨Try.prog, C, w0⟩
theorem hasOf_mem : ∀ t, hasOf t = true → hasL.elem t = true := by
  intro t h
  unfold hasOf at h
  split at h <;> first | rfl | cases h
theorem eqkOf_mem : ∀ t, eqkOf t = true → eqkL.elem t = true := by
  intro t h
  unfold eqkOf at h
  split at h <;> first | rfl | cases h
theorem tabOk : hasL.all (fun t => tyCheck Try.prog t (tyOf t)) = true := by kernel_rfl
theorem eqkOk : eqkL.all (fun t => eqkCheck Try.prog t (tyOf t).zero) = true := by kernel_rfl
theorem meth0 (v : Value) (w : World) : (method (Try.prog.types.size + Made.depth) 71 v "Len").run Try.prog w = .ok (41, v) w := by kernel_rfl
theorem meth1 (v : Value) (w : World) : (method (Try.prog.types.size + Made.depth) 71 v "Less").run Try.prog w = .ok (77, v) w := by kernel_rfl
theorem meth2 (v : Value) (w : World) : (method (Try.prog.types.size + Made.depth) 71 v "Pop").run Try.prog w = .ok (78, v) w := by kernel_rfl
theorem meth3 (v : Value) (w : World) : (method (Try.prog.types.size + Made.depth) 71 v "Swap").run Try.prog w = .ok (79, v) w := by kernel_rfl
theorem methOk : ∀ t m g, methOf t m = some g → ∀ v w, (method (Try.prog.types.size + Made.depth) t v m).run Try.prog w = .ok (g, v) w := by
  intro t m g h v w
  unfold methOf at h
  split at h
  · split at h
    · rename_i e; subst e; cases h; exact meth0 v w
    split at h
    · rename_i e; subst e; cases h; exact meth1 v w
    split at h
    · rename_i e; subst e; cases h; exact meth2 v w
    split at h
    · rename_i e; subst e; cases h; exact meth3 v w
    cases h
  · cases h
theorem agree (w0 : World) : Agree (En w0) := agree_of (En w0) hasL eqkL hasOf_mem eqkOf_mem tabOk eqkOk methOk
theorem mixed : Try.prog.follows .mixedOrders = true := by kernel_rfl
/-- What stands for a call: the call. -/
theorem Ca_sound (w0 : World) : CaSound (En w0) (ACalls (En w0)) := fun _ _ _ _ h => h
theorem Ca_mono (w0 : World) : CaMono (ACalls (En w0)) := fun g xs S Q Q' h hq => ⟨h.1, fun G w hr hro args' hl ha => (h.2 G w hr hro args' hl ha).mono fun e w' ⟨v, r, S', G', h1, h2, h3⟩ => ⟨v, r, S', G', h1, hq _ _ h2, h3⟩⟩
theorem fn_ok (w0 : World) {n : Nat} {fn : Func} (hf : Try.prog.funcs[n]? = some fn) (hname : (fn.name == "runtime.NumGoroutine") = false) {args : List AV} {S : St} {Q : AV → St → Prop}
    (h : WF C (ACalls (En w0)) n (Drw C (ACalls (En w0)) n) fn args S Q) : ACalls (En w0) n args S Q :=
  WF_sound (E := En w0) (agree w0) (Ca_sound w0) (Ca_mono w0) (Drw_sound (agree w0) (Ca_sound w0) (Ca_mono w0) mixed) (Drw_mono (Ca_mono w0)) hf hname h
abbrev AC (w0 : World) := ACalls (En w0)
theorem AC_mono {w0 : World} {g : Nat} {xs : List AV} {S : St} {Q Q' : AV → St → Prop} (h : AC w0 g xs S Q) (hq : ∀ r S', Q r S' → Q' r S') : AC w0 g xs S Q' := Ca_mono w0 g xs S Q Q' h hq
abbrev un_func := @Try.underlying1
abbrev un_int64 := @Try.underlying2
abbrev un_int := @Try.underlying3
abbrev un_bool := @Try.underlying4
abbrev un_uint8 := @Try.underlying5
abbrev ag_uint8 := @Try.isAgg5
abbrev sz_uint8 := @Try.sizeOf5
abbrev zv_uint8 := @Try.zeroValue5
abbrev un_abi_BoundsErrorCode := @Try.underlying6
abbrev un_struct_x_int64_y_int_signed_bool_code_abi_BoundsErrorCode := @Try.underlying7
abbrev un_runtime_boundsError := @Try.underlying8
abbrev un_string := @Try.underlying9
abbrev un_runtime_errorString := @Try.underlying10
abbrev un_runtime_plainError := @Try.underlying11
abbrev un_uintptr := @Try.underlying12
abbrev un_struct_msg_string_addr_uintptr := @Try.underlying13
abbrev un_runtime_errorAddressString := @Try.underlying14
abbrev un_p_runtime_TypeAssertionError := @Try.underlying15
abbrev un_p_runtime_PanicNilError := @Try.underlying16
abbrev un_p_abi_Type := @Try.underlying17
abbrev un_struct_typ_p_abi_Type := @Try.underlying18
abbrev un_maps_unhashableTypeError := @Try.underlying19
abbrev un_interface := @Try.underlying20
abbrev un_int32 := @Try.underlying21
abbrev un_s_socagelaw17_Act := @Try.underlying22
abbrev un_func_bool := @Try.underlying23
abbrev un_map_int_struct := @Try.underlying24
abbrev un_s_int := @Try.underlying25
abbrev un_struct_readers_map_int_struct_writer_int_waiting_s_int := @Try.underlying26
abbrev un_gate_Gate := @Try.underlying27
abbrev un_struct_Readers_s_int_Writers_s_int_Waiting_s_int := @Try.underlying28
abbrev un_socageref17_Gate := @Try.underlying29
abbrev un_struct_Kind_uint8_ID_uint8 := @Try.underlying30
abbrev un_socagelaw17_Act := @Try.underlying31
abbrev un_func_int_bool := @Try.underlying32
abbrev un_func_socageref17_Gate_int_socageref17_Gate_bool := @Try.underlying34
abbrev un_func_int := @Try.underlying35
abbrev un_func_socageref17_Gate_int_bool := @Try.underlying36
abbrev un_func_s_socagelaw17_Act_bool := @Try.underlying37
abbrev un_func_uint8_uint8_bool := @Try.underlying38
abbrev un_s_s_string := @Try.underlying39
abbrev un_s_string := @Try.underlying40
abbrev un_func_s_string_bool := @Try.underlying41
abbrev un_s_heap_Item := @Try.underlying42
abbrev un_func_s_string_s_heap_Item := @Try.underlying43
abbrev un_s_socageref09_Item := @Try.underlying44
abbrev un_func_s_s_string_s_socageref09_Item := @Try.underlying45
abbrev un_func_s_heap_Item_s_heap_Item := @Try.underlying46
abbrev un_struct_Name_string_Row_int := @Try.underlying47
abbrev un_heap_Item := @Try.underlying48
abbrev un_socageref09_Item := @Try.underlying49
abbrev un_func_s_s_string_bool := @Try.underlying50
abbrev un_func_s_heap_Item_s_string := @Try.underlying51
abbrev un_func_s_s_string_uint8_bool := @Try.underlying52
abbrev un_s_api_Extent := @Try.underlying53
abbrev un_func_s_api_Extent_bool := @Try.underlying54
abbrev un_func_int_api_Extent_bool := @Try.underlying55
abbrev un_func_int_s_api_Extent_bool := @Try.underlying56
abbrev un_2_int := @Try.underlying57
abbrev un_func_int_s_api_Extent_int_int_string := @Try.underlying58
abbrev un_func_int_s_api_Extent_2_int_bool := @Try.underlying59
abbrev un_func_string_s_api_Extent := @Try.underlying60
abbrev un_struct_Off_int_Data_string := @Try.underlying61
abbrev un_api_Extent := @Try.underlying62
abbrev un_func_string_bool := @Try.underlying63
abbrev un_p_gate_Gate := @Try.underlying64
abbrev un_struct := @Try.underlying65
abbrev un_func_int_int := @Try.underlying66
abbrev un_func_s_int_int_bool := @Try.underlying67
abbrev un_func_s_int_int_s_int := @Try.underlying68
abbrev un_func_string_string_bool := @Try.underlying70
abbrev un_p_heap_heads := @Try.underlying71
abbrev un_func_heap_Item_heap_Item_bool := @Try.underlying72
abbrev un_func_heap_Item_bool := @Try.underlying73
abbrev un_s_heap_head := @Try.underlying74
abbrev un_struct_l_s_heap_head_less_func_heap_Item_heap_Item_bool := @Try.underlying75
abbrev un_heap_heads := @Try.underlying76
abbrev un_struct_heap_Item_rest_s_string := @Try.underlying77
abbrev un_heap_head := @Try.underlying78
abbrev un_func_heap_Interface := @Try.underlying79
abbrev un_p_heap_head := @Try.underlying80
abbrev un_func_heap_Interface_interface := @Try.underlying81
abbrev un_func_heap_Interface_int := @Try.underlying82
abbrev un_p_strings_Builder := @Try.underlying83
abbrev un_s_uint8 := @Try.underlying84
abbrev un_struct_addr_p_strings_Builder_buf_s_uint8 := @Try.underlying85
abbrev un_strings_Builder := @Try.underlying86
abbrev un_interface_Error_string := @Try.underlying87
abbrev un_error := @Try.underlying88
abbrev un_func_string_int_error := @Try.underlying90
abbrev un_func_string_int_string := @Try.underlying91
abbrev un_func_string := @Try.underlying92
abbrev un_func_s_api_Extent_int_uint8 := @Try.underlying93
abbrev un_interface_Len_int_Less_int_int_bool_Pop_interfac_d7b234c6 := @Try.underlying94
abbrev un_heap_Interface := @Try.underlying95
abbrev un_func_heap_Interface_int_int_bool := @Try.underlying96
abbrev un_func_int_int_7d0cc0 := @Try.underlying97
abbrev un_func_interface := @Try.underlying98
abbrev un_uint := @Try.underlying99
abbrev un_func_uint_uint_uint_uint := @Try.underlying101
abbrev un_func_int_f2d63e := @Try.underlying102
abbrev un_p_uint8 := @Try.underlying103
abbrev un_func_int_int_bool := @Try.underlying104
abbrev un_unsafe_Pointer := @Try.underlying105
abbrev un_func_unsafe_Pointer_unsafe_Pointer := @Try.underlying106
abbrev un_uint32 := @Try.underlying107
abbrev un_func_uint32_uint32_uint32_uint32 := @Try.underlying109
abbrev un_uint64 := @Try.underlying110
abbrev un_func_uint64_uint64_uint64_uint64 := @Try.underlying112
abbrev un_func_int_s_uint8 := @Try.underlying113
abbrev un_struct_interface_p_abi_Type_concrete_p_abi_Type__3af7698d := @Try.underlying114
abbrev un_runtime_TypeAssertionError := @Try.underlying115
abbrev un_0_p_runtime_PanicNilError := @Try.underlying116
abbrev un_struct_0_p_runtime_PanicNilError := @Try.underlying117
abbrev un_runtime_PanicNilError := @Try.underlying118
abbrev un_abi_TFlag := @Try.underlying119
abbrev un_abi_Kind := @Try.underlying120
abbrev un_func_unsafe_Pointer_unsafe_Pointer_bool := @Try.underlying121
abbrev un_abi_NameOff := @Try.underlying122
abbrev un_abi_TypeOff := @Try.underlying123
abbrev un_struct_Size_uintptr_PtrBytes_uintptr_Hash_uint32_7c8ec20b := @Try.underlying124
abbrev un_abi_Type := @Try.underlying125
abbrev un_func_interface_1cb4d9 := @Try.underlying126
theorem ce_func : Try.prog.cellsOf t_func = 1 := by kernel_rfl
theorem ce_int64 : Try.prog.cellsOf t_int64 = 1 := by kernel_rfl
theorem ce_int : Try.prog.cellsOf t_int = 1 := by kernel_rfl
theorem ce_bool : Try.prog.cellsOf t_bool = 1 := by kernel_rfl
theorem ce_uint8 : Try.prog.cellsOf t_uint8 = 1 := by kernel_rfl
theorem ce_abi_BoundsErrorCode : Try.prog.cellsOf t_abi_BoundsErrorCode = 1 := by kernel_rfl
theorem ce_struct_x_int64_y_int_signed_bool_code_abi_BoundsErrorCode : Try.prog.cellsOf t_struct_x_int64_y_int_signed_bool_code_abi_BoundsErrorCode = 4 := by kernel_rfl
theorem ce_runtime_boundsError : Try.prog.cellsOf t_runtime_boundsError = 4 := by kernel_rfl
theorem ce_string : Try.prog.cellsOf t_string = 1 := by kernel_rfl
theorem ce_runtime_errorString : Try.prog.cellsOf t_runtime_errorString = 1 := by kernel_rfl
theorem ce_runtime_plainError : Try.prog.cellsOf t_runtime_plainError = 1 := by kernel_rfl
theorem ce_uintptr : Try.prog.cellsOf t_uintptr = 1 := by kernel_rfl
theorem ce_struct_msg_string_addr_uintptr : Try.prog.cellsOf t_struct_msg_string_addr_uintptr = 2 := by kernel_rfl
theorem ce_runtime_errorAddressString : Try.prog.cellsOf t_runtime_errorAddressString = 2 := by kernel_rfl
theorem ce_p_runtime_TypeAssertionError : Try.prog.cellsOf t_p_runtime_TypeAssertionError = 1 := by kernel_rfl
theorem ce_p_runtime_PanicNilError : Try.prog.cellsOf t_p_runtime_PanicNilError = 1 := by kernel_rfl
theorem ce_p_abi_Type : Try.prog.cellsOf t_p_abi_Type = 1 := by kernel_rfl
theorem ce_struct_typ_p_abi_Type : Try.prog.cellsOf t_struct_typ_p_abi_Type = 1 := by kernel_rfl
theorem ce_maps_unhashableTypeError : Try.prog.cellsOf t_maps_unhashableTypeError = 1 := by kernel_rfl
theorem ce_interface : Try.prog.cellsOf t_interface = 1 := by kernel_rfl
theorem ce_int32 : Try.prog.cellsOf t_int32 = 1 := by kernel_rfl
theorem ce_s_socagelaw17_Act : Try.prog.cellsOf t_s_socagelaw17_Act = 1 := by kernel_rfl
theorem ce_func_bool : Try.prog.cellsOf t_func_bool = 1 := by kernel_rfl
theorem ce_map_int_struct : Try.prog.cellsOf t_map_int_struct = 1 := by kernel_rfl
theorem ce_s_int : Try.prog.cellsOf t_s_int = 1 := by kernel_rfl
theorem ce_struct_readers_map_int_struct_writer_int_waiting_s_int : Try.prog.cellsOf t_struct_readers_map_int_struct_writer_int_waiting_s_int = 3 := by kernel_rfl
theorem ce_gate_Gate : Try.prog.cellsOf t_gate_Gate = 3 := by kernel_rfl
theorem ce_struct_Readers_s_int_Writers_s_int_Waiting_s_int : Try.prog.cellsOf t_struct_Readers_s_int_Writers_s_int_Waiting_s_int = 3 := by kernel_rfl
theorem ce_socageref17_Gate : Try.prog.cellsOf t_socageref17_Gate = 3 := by kernel_rfl
theorem ce_struct_Kind_uint8_ID_uint8 : Try.prog.cellsOf t_struct_Kind_uint8_ID_uint8 = 2 := by kernel_rfl
theorem ce_socagelaw17_Act : Try.prog.cellsOf t_socagelaw17_Act = 2 := by kernel_rfl
theorem ce_func_int_bool : Try.prog.cellsOf t_func_int_bool = 1 := by kernel_rfl
theorem ce_func_socageref17_Gate_int_socageref17_Gate_bool : Try.prog.cellsOf t_func_socageref17_Gate_int_socageref17_Gate_bool = 1 := by kernel_rfl
theorem ce_func_int : Try.prog.cellsOf t_func_int = 1 := by kernel_rfl
theorem ce_func_socageref17_Gate_int_bool : Try.prog.cellsOf t_func_socageref17_Gate_int_bool = 1 := by kernel_rfl
theorem ce_func_s_socagelaw17_Act_bool : Try.prog.cellsOf t_func_s_socagelaw17_Act_bool = 1 := by kernel_rfl
theorem ce_func_uint8_uint8_bool : Try.prog.cellsOf t_func_uint8_uint8_bool = 1 := by kernel_rfl
theorem ce_s_s_string : Try.prog.cellsOf t_s_s_string = 1 := by kernel_rfl
theorem ce_s_string : Try.prog.cellsOf t_s_string = 1 := by kernel_rfl
theorem ce_func_s_string_bool : Try.prog.cellsOf t_func_s_string_bool = 1 := by kernel_rfl
theorem ce_s_heap_Item : Try.prog.cellsOf t_s_heap_Item = 1 := by kernel_rfl
theorem ce_func_s_string_s_heap_Item : Try.prog.cellsOf t_func_s_string_s_heap_Item = 1 := by kernel_rfl
theorem ce_s_socageref09_Item : Try.prog.cellsOf t_s_socageref09_Item = 1 := by kernel_rfl
theorem ce_func_s_s_string_s_socageref09_Item : Try.prog.cellsOf t_func_s_s_string_s_socageref09_Item = 1 := by kernel_rfl
theorem ce_func_s_heap_Item_s_heap_Item : Try.prog.cellsOf t_func_s_heap_Item_s_heap_Item = 1 := by kernel_rfl
theorem ce_struct_Name_string_Row_int : Try.prog.cellsOf t_struct_Name_string_Row_int = 2 := by kernel_rfl
theorem ce_heap_Item : Try.prog.cellsOf t_heap_Item = 2 := by kernel_rfl
theorem ce_socageref09_Item : Try.prog.cellsOf t_socageref09_Item = 2 := by kernel_rfl
theorem ce_func_s_s_string_bool : Try.prog.cellsOf t_func_s_s_string_bool = 1 := by kernel_rfl
theorem ce_func_s_heap_Item_s_string : Try.prog.cellsOf t_func_s_heap_Item_s_string = 1 := by kernel_rfl
theorem ce_func_s_s_string_uint8_bool : Try.prog.cellsOf t_func_s_s_string_uint8_bool = 1 := by kernel_rfl
theorem ce_s_api_Extent : Try.prog.cellsOf t_s_api_Extent = 1 := by kernel_rfl
theorem ce_func_s_api_Extent_bool : Try.prog.cellsOf t_func_s_api_Extent_bool = 1 := by kernel_rfl
theorem ce_func_int_api_Extent_bool : Try.prog.cellsOf t_func_int_api_Extent_bool = 1 := by kernel_rfl
theorem ce_func_int_s_api_Extent_bool : Try.prog.cellsOf t_func_int_s_api_Extent_bool = 1 := by kernel_rfl
theorem ce_2_int : Try.prog.cellsOf t_2_int = 2 := by kernel_rfl
theorem ce_func_int_s_api_Extent_int_int_string : Try.prog.cellsOf t_func_int_s_api_Extent_int_int_string = 1 := by kernel_rfl
theorem ce_func_int_s_api_Extent_2_int_bool : Try.prog.cellsOf t_func_int_s_api_Extent_2_int_bool = 1 := by kernel_rfl
theorem ce_func_string_s_api_Extent : Try.prog.cellsOf t_func_string_s_api_Extent = 1 := by kernel_rfl
theorem ce_struct_Off_int_Data_string : Try.prog.cellsOf t_struct_Off_int_Data_string = 2 := by kernel_rfl
theorem ce_api_Extent : Try.prog.cellsOf t_api_Extent = 2 := by kernel_rfl
theorem ce_func_string_bool : Try.prog.cellsOf t_func_string_bool = 1 := by kernel_rfl
theorem ce_p_gate_Gate : Try.prog.cellsOf t_p_gate_Gate = 1 := by kernel_rfl
theorem ce_struct : Try.prog.cellsOf t_struct = 0 := by kernel_rfl
theorem ce_func_int_int : Try.prog.cellsOf t_func_int_int = 1 := by kernel_rfl
theorem ce_func_s_int_int_bool : Try.prog.cellsOf t_func_s_int_int_bool = 1 := by kernel_rfl
theorem ce_func_s_int_int_s_int : Try.prog.cellsOf t_func_s_int_int_s_int = 1 := by kernel_rfl
theorem ce_func_string_string_bool : Try.prog.cellsOf t_func_string_string_bool = 1 := by kernel_rfl
theorem ce_p_heap_heads : Try.prog.cellsOf t_p_heap_heads = 1 := by kernel_rfl
theorem ce_func_heap_Item_heap_Item_bool : Try.prog.cellsOf t_func_heap_Item_heap_Item_bool = 1 := by kernel_rfl
theorem ce_func_heap_Item_bool : Try.prog.cellsOf t_func_heap_Item_bool = 1 := by kernel_rfl
theorem ce_s_heap_head : Try.prog.cellsOf t_s_heap_head = 1 := by kernel_rfl
theorem ce_struct_l_s_heap_head_less_func_heap_Item_heap_Item_bool : Try.prog.cellsOf t_struct_l_s_heap_head_less_func_heap_Item_heap_Item_bool = 2 := by kernel_rfl
theorem ce_heap_heads : Try.prog.cellsOf t_heap_heads = 2 := by kernel_rfl
theorem ce_struct_heap_Item_rest_s_string : Try.prog.cellsOf t_struct_heap_Item_rest_s_string = 3 := by kernel_rfl
theorem ce_heap_head : Try.prog.cellsOf t_heap_head = 3 := by kernel_rfl
theorem ce_func_heap_Interface : Try.prog.cellsOf t_func_heap_Interface = 1 := by kernel_rfl
theorem ce_p_heap_head : Try.prog.cellsOf t_p_heap_head = 1 := by kernel_rfl
theorem ce_func_heap_Interface_interface : Try.prog.cellsOf t_func_heap_Interface_interface = 1 := by kernel_rfl
theorem ce_func_heap_Interface_int : Try.prog.cellsOf t_func_heap_Interface_int = 1 := by kernel_rfl
theorem ce_p_strings_Builder : Try.prog.cellsOf t_p_strings_Builder = 1 := by kernel_rfl
theorem ce_s_uint8 : Try.prog.cellsOf t_s_uint8 = 1 := by kernel_rfl
theorem ce_struct_addr_p_strings_Builder_buf_s_uint8 : Try.prog.cellsOf t_struct_addr_p_strings_Builder_buf_s_uint8 = 2 := by kernel_rfl
theorem ce_strings_Builder : Try.prog.cellsOf t_strings_Builder = 2 := by kernel_rfl
theorem ce_interface_Error_string : Try.prog.cellsOf t_interface_Error_string = 1 := by kernel_rfl
theorem ce_error : Try.prog.cellsOf t_error = 1 := by kernel_rfl
theorem ce_func_string_int_error : Try.prog.cellsOf t_func_string_int_error = 1 := by kernel_rfl
theorem ce_func_string_int_string : Try.prog.cellsOf t_func_string_int_string = 1 := by kernel_rfl
theorem ce_func_string : Try.prog.cellsOf t_func_string = 1 := by kernel_rfl
theorem ce_func_s_api_Extent_int_uint8 : Try.prog.cellsOf t_func_s_api_Extent_int_uint8 = 1 := by kernel_rfl
theorem ce_interface_Len_int_Less_int_int_bool_Pop_interfac_d7b234c6 : Try.prog.cellsOf t_interface_Len_int_Less_int_int_bool_Pop_interfac_d7b234c6 = 1 := by kernel_rfl
theorem ce_heap_Interface : Try.prog.cellsOf t_heap_Interface = 1 := by kernel_rfl
theorem ce_func_heap_Interface_int_int_bool : Try.prog.cellsOf t_func_heap_Interface_int_int_bool = 1 := by kernel_rfl
theorem ce_func_int_int_7d0cc0 : Try.prog.cellsOf t_func_int_int_7d0cc0 = 1 := by kernel_rfl
theorem ce_func_interface : Try.prog.cellsOf t_func_interface = 1 := by kernel_rfl
theorem ce_uint : Try.prog.cellsOf t_uint = 1 := by kernel_rfl
theorem ce_func_uint_uint_uint_uint : Try.prog.cellsOf t_func_uint_uint_uint_uint = 1 := by kernel_rfl
theorem ce_func_int_f2d63e : Try.prog.cellsOf t_func_int_f2d63e = 1 := by kernel_rfl
theorem ce_p_uint8 : Try.prog.cellsOf t_p_uint8 = 1 := by kernel_rfl
theorem ce_func_int_int_bool : Try.prog.cellsOf t_func_int_int_bool = 1 := by kernel_rfl
theorem ce_func_unsafe_Pointer_unsafe_Pointer : Try.prog.cellsOf t_func_unsafe_Pointer_unsafe_Pointer = 1 := by kernel_rfl
theorem ce_uint32 : Try.prog.cellsOf t_uint32 = 1 := by kernel_rfl
theorem ce_func_uint32_uint32_uint32_uint32 : Try.prog.cellsOf t_func_uint32_uint32_uint32_uint32 = 1 := by kernel_rfl
theorem ce_uint64 : Try.prog.cellsOf t_uint64 = 1 := by kernel_rfl
theorem ce_func_uint64_uint64_uint64_uint64 : Try.prog.cellsOf t_func_uint64_uint64_uint64_uint64 = 1 := by kernel_rfl
theorem ce_func_int_s_uint8 : Try.prog.cellsOf t_func_int_s_uint8 = 1 := by kernel_rfl
theorem ce_struct_interface_p_abi_Type_concrete_p_abi_Type__3af7698d : Try.prog.cellsOf t_struct_interface_p_abi_Type_concrete_p_abi_Type__3af7698d = 4 := by kernel_rfl
theorem ce_runtime_TypeAssertionError : Try.prog.cellsOf t_runtime_TypeAssertionError = 4 := by kernel_rfl
theorem ce_0_p_runtime_PanicNilError : Try.prog.cellsOf t_0_p_runtime_PanicNilError = 0 := by kernel_rfl
theorem ce_struct_0_p_runtime_PanicNilError : Try.prog.cellsOf t_struct_0_p_runtime_PanicNilError = 0 := by kernel_rfl
theorem ce_runtime_PanicNilError : Try.prog.cellsOf t_runtime_PanicNilError = 0 := by kernel_rfl
theorem ce_abi_TFlag : Try.prog.cellsOf t_abi_TFlag = 1 := by kernel_rfl
theorem ce_abi_Kind : Try.prog.cellsOf t_abi_Kind = 1 := by kernel_rfl
theorem ce_func_unsafe_Pointer_unsafe_Pointer_bool : Try.prog.cellsOf t_func_unsafe_Pointer_unsafe_Pointer_bool = 1 := by kernel_rfl
theorem ce_abi_NameOff : Try.prog.cellsOf t_abi_NameOff = 1 := by kernel_rfl
theorem ce_abi_TypeOff : Try.prog.cellsOf t_abi_TypeOff = 1 := by kernel_rfl
theorem ce_struct_Size_uintptr_PtrBytes_uintptr_Hash_uint32_7c8ec20b : Try.prog.cellsOf t_struct_Size_uintptr_PtrBytes_uintptr_Hash_uint32_7c8ec20b = 11 := by kernel_rfl
theorem ce_abi_Type : Try.prog.cellsOf t_abi_Type = 11 := by kernel_rfl
theorem ce_func_interface_1cb4d9 : Try.prog.cellsOf t_func_interface_1cb4d9 = 1 := by kernel_rfl
abbrev fn_gosem_cut_init := @Try.func2
abbrev fn_law17_GateDoes := @Try.func3
abbrev fn_law17_GateTurns := @Try.func4
abbrev fn_law09_HeapMerges := @Try.func5
abbrev fn_law09_HeapParts := @Try.func6
abbrev fn_law03_ExtentRight := @Try.func7
abbrev fn_law03_ExtentReads := @Try.func8
abbrev fn_law03_ExtentBack := @Try.func9
abbrev fn_law17_speaks := @Try.func10
abbrev fn_gate_Gate_Read := @Try.func11
abbrev fn_ref17_Read := @Try.func12
abbrev fn_gate_Gate_Write := @Try.func13
abbrev fn_ref17_Write := @Try.func14
abbrev fn_gate_Gate_Leave := @Try.func15
abbrev fn_ref17_Leave := @Try.func16
abbrev fn_gate_Gate_Readers := @Try.func17
abbrev fn_gate_Gate_Writers := @Try.func18
abbrev fn_gate_Gate_Waiting := @Try.func19
abbrev fn_gate_Gate_In := @Try.func20
abbrev fn_ref17_In := @Try.func21
abbrev fn_law09_speaks := @Try.func22
abbrev fn_ref09_Rises := @Try.func23
abbrev fn_heap_Merge := @Try.func24
abbrev fn_ref09_Merge := @Try.func25
abbrev fn_heap_First := @Try.func26
abbrev fn_law09_HeapParts_1 := @Try.func27
abbrev fn_law03_speaks := @Try.func28
abbrev fn_law03_big := @Try.func29
abbrev fn_extent_Right := @Try.func30
abbrev fn_ref03_Right := @Try.func31
abbrev fn_extent_Read := @Try.func32
abbrev fn_ref03_Read := @Try.func33
abbrev fn_extent_Of := @Try.func34
abbrev fn_gate_Gate_place := @Try.func35
abbrev fn_ref17_has := @Try.func36
abbrev fn_ref17_without := @Try.func37
abbrev fn_ref01_Less := @Try.func38
abbrev fn_heap_Item_less := @Try.func39
abbrev fn_cheap_Init := @Try.func40
abbrev fn_heap_heads_Len := @Try.func41
abbrev fn_cheap_Pop := @Try.func42
abbrev fn_cheap_Fix := @Try.func43
abbrev fn_strings_Builder_Len := @Try.func44
abbrev fn_strings_Builder_WriteString := @Try.func45
abbrev fn_strings_Repeat := @Try.func46
abbrev fn_strings_Builder_String := @Try.func47
abbrev fn_ref03_At := @Try.func48
abbrev fn_cheap_down := @Try.func49
abbrev fn_cheap_up := @Try.func50
abbrev fn_strings_Builder_copyCheck := @Try.func51
abbrev fn_math_bits_Mul := @Try.func52
abbrev fn_strings_HasPrefix := @Try.func53
abbrev fn_strings_Builder_Grow := @Try.func54
abbrev fn_math_bits_Mul32 := @Try.func56
abbrev fn_math_bits_Mul64 := @Try.func57
abbrev fn_stringslite_HasPrefix := @Try.func58
abbrev fn_strings_Builder_grow := @Try.func59
abbrev fn_heap_heads_Less := @Try.func77
abbrev fn_heap_heads_Pop := @Try.func78
abbrev fn_heap_heads_Swap := @Try.func79
end Go.Av
set_option linter.unusedVariables false
namespace Go.Av
open Go.Proofs
def G_law17_GateDoes (Ca : Nat → List AV → St → (AV → St → Prop) → Prop) (a0 : List (List AV)) (a0r : Rt) (S0 : St) (Q : AV → St → Prop) : Prop :=
 Ca F_law17_speaks [] S0 fun t10 S =>
 optK (unA .not t10) fun t11 =>
 ifK t11
 (Q (.bool false) S)
 (ifK (.bool (decide ((List.length a0 : Int) > 300)))
 (Q (.bool true) S)
 (joinK (fun (S_25 : St) =>
 Q (.bool true) S_25) fun j_9 =>
 loopQ ([(.int .i64 0)], [(some [(.vs 1 [] .nil), (.vs 1 [] .nil), (.vs 1 [] .nil)])]) (fun v bx => ([v 17], [bx 4])) (fun nx v bx S_2 =>
 optK (binA .lss (v 17) (.int .i64 (List.length a0 : Int))) fun t18 =>
 ifK t18
 (optK (idxSlA T_socagelaw17_Act (.vs 2 a0 (Rt.strip a0r)) (v 17)) fun t19 =>
 optK (loadA T_socagelaw17_Act S_2 t19) fun t20 =>
 optK (lstoreA T_socagelaw17_Act (some [(.int .u8 0), (.int .u8 0)]) 0 (AV.strip t20)) fun b6 =>
 optK (some b6) fun _ =>
 optK (lloadA T_uint8 (some b6) 1) fun t22 =>
 optK (convIntA .i64 (AV.strip t22)) fun t23 =>
 joinK (fun (x7 : AV) (x8 : AV) (y4 : Option (List AV)) (S_9 : St) =>
 optK (binE .bool .neq (AV.strip x7) (AV.strip x8)) fun t57 =>
 joinK (fun (x63 : AV) (S_11 : St) =>
 optK (pickA (AV.strip t57) (.bool true) x63) fun t64 =>
 joinK (fun (x70 : AV) (S_13 : St) =>
 optK (pickA (AV.strip (AV.strip t64)) (.bool true) x70) fun t71 =>
 joinK (fun (x77 : AV) (S_15 : St) =>
 optK (pickA (AV.strip (AV.strip t71)) (.bool true) x77) fun t78 =>
 joinK (fun (x85 : AV) (S_18 : St) =>
 optK (pickA (AV.strip (AV.strip t78)) (.bool true) x85) fun t86 =>
 joinK (fun (x89 : AV) (S_20 : St) =>
 optK (pickA (AV.strip (AV.strip t86)) (.bool true) x89) fun t90 =>
 joinK (fun (x97 : AV) (S_24 : St) =>
 optK (pickA (AV.strip (AV.strip t90)) (.bool true) x97) fun t98 =>
 ifK (AV.strip t98)
 (Q (.bool false) S_24)
 (optK (binA .add (v 17) (.int .i64 1)) fun t99 =>
 nx ([(AV.strip t99)], [y4]) S_24)) fun j_2 =>
 ifK (AV.strip (AV.strip t90))
 (j_2 (.tup []) S_20)
 (Ca F_gate_Gate_Writers [(.ptr S.length 0)] S_20 fun t92 S_21 =>
 optK (binA .eql t92 (.int .i64 1)) fun t93 =>
 joinK (fun (x96 : AV) (S_23 : St) =>
 optK (pickA (AV.strip t93) x96 (.bool false)) fun t97 =>
 j_2 (AV.strip t97) S_23) fun j =>
 gK (AV.strip t93)
 (Ca F_gate_Gate_Readers [(.ptr S.length 0)] S_21 fun t95 S_22 =>
 optK (binA .gtr t95 (.int .i64 0)) fun t96 =>
 j t96 S_22)
 (j (.tup []) S_21)
 (j (.tup []) S_21))) fun j_3 =>
 ifK (AV.strip (AV.strip t86))
 (j_3 (.tup []) S_18)
 (Ca F_gate_Gate_Writers [(.ptr S.length 0)] S_18 fun t88 S_19 =>
 optK (binA .gtr t88 (.int .i64 1)) fun t89 =>
 j_3 t89 S_19)) fun j_4 =>
 ifK (AV.strip (AV.strip t78))
 (j_4 (.tup []) S_15)
 (optK (lloadA T_socageref17_Gate y4 0) fun t82 =>
 callK Ca F_gate_Gate_In [(.ptr S.length 0), (AV.strip t23)] S_15 fun t81 S_16 =>
 callK Ca F_ref17_In [(AV.strip t82), (AV.strip t23)] S_16 fun t84 S_17 =>
 optK (binE .bool .neq t81 t84) fun t85 =>
 j_4 t85 S_17)) fun j_5 =>
 ifK (AV.strip (AV.strip t71))
 (j_5 (.tup []) S_13)
 (optK y4 fun _ =>
 optK (lloadA T_s_int y4 2) fun t75 =>
 optK (lenSlA (AV.strip t75)) fun t76 =>
 Ca F_gate_Gate_Waiting [(.ptr S.length 0)] S_13 fun t73 S_14 =>
 optK (binA .neq t73 t76) fun t77 =>
 j_5 t77 S_14)) fun j_6 =>
 ifK (AV.strip (AV.strip t64))
 (j_6 (.tup []) S_11)
 (optK y4 fun _ =>
 optK (lloadA T_s_int y4 1) fun t68 =>
 optK (lenSlA (AV.strip t68)) fun t69 =>
 Ca F_gate_Gate_Writers [(.ptr S.length 0)] S_11 fun t66 S_12 =>
 optK (binA .neq t66 t69) fun t70 =>
 j_6 t70 S_12)) fun j_7 =>
 ifK (AV.strip t57)
 (j_7 (.tup []) S_9)
 (optK y4 fun _ =>
 optK (lloadA T_s_int y4 0) fun t61 =>
 optK (lenSlA (AV.strip t61)) fun t62 =>
 Ca F_gate_Gate_Readers [(.ptr S.length 0)] S_9 fun t59 S_10 =>
 optK (binA .neq t59 t62) fun t63 =>
 j_7 t63 S_10)) fun j_8 =>
 optK (some b6) fun _ =>
 optK (lloadA T_uint8 (some b6) 0) fun t25 =>
 optK (binA .rem (AV.strip t25) (.int .u8 3)) fun t26 =>
 optK (binA .eql t26 (.int .u8 0)) fun t36 =>
 ifK t36
 (callK Ca F_gate_Gate_Read [(.ptr S.length 0), (AV.strip t23)] S_2 fun t38 S_3 =>
 optK (lloadA T_socageref17_Gate (bx 4) 0) fun t40 =>
 callK Ca F_ref17_Read [(AV.strip t40), (AV.strip t23)] S_3 fun t42 S_4 =>
 optK (extractA t42 0) fun t43 =>
 optK (extractA (stripTup t42 0) 1) fun t44 =>
 optK (lstoreA T_socageref17_Gate (bx 4) 0 t43) fun b4 =>
 j_8 t38 t44 (some b4) S_4)
 (optK (binA .eql t26 (.int .u8 1)) fun t46 =>
 ifK t46
 (callK Ca F_gate_Gate_Write [(.ptr S.length 0), (AV.strip t23)] S_2 fun t48 S_5 =>
 optK (lloadA T_socageref17_Gate (bx 4) 0) fun t50 =>
 callK Ca F_ref17_Write [(AV.strip t50), (AV.strip t23)] S_5 fun t52 S_6 =>
 optK (extractA t52 0) fun t53 =>
 optK (extractA (stripTup t52 0) 1) fun t54 =>
 optK (lstoreA T_socageref17_Gate (bx 4) 0 t53) fun b4_2 =>
 j_8 t48 t54 (some b4_2) S_6)
 (callK Ca F_gate_Gate_Leave [(.ptr S.length 0), (AV.strip t23)] S_2 fun t28 S_7 =>
 optK (lloadA T_socageref17_Gate (bx 4) 0) fun t30 =>
 callK Ca F_ref17_Leave [(AV.strip t30), (AV.strip t23)] S_7 fun t32 S_8 =>
 optK (extractA t32 0) fun t33 =>
 optK (extractA (stripTup t32 0) 1) fun t34 =>
 optK (lstoreA T_socageref17_Gate (bx 4) 0 t33) fun b4_3 =>
 j_8 t28 t34 (some b4_3) S_8)))
 (j_9 S_2)) (S ++ [.cells T_gate_Gate.zero t_gate_Gate])))
theorem law17_GateDoes_eq (Ca) (a0 : List (List AV)) (a0r : Rt) (S0 Q) : WF C Ca 3 (Drw C Ca 3) Try.f3 [(.vs 2 a0 a0r)] S0 Q = G_law17_GateDoes Ca a0 a0r S0 Q := by kernel_rfl
theorem law17_GateDoes_ok {w0 : World} {a0 : List (List AV)} {a0r : Rt} {S0 : St} {Q : AV → St → Prop} (h : G_law17_GateDoes (ACalls (En w0)) a0 a0r S0 Q) : AC w0 F_law17_GateDoes [(.vs 2 a0 a0r)] S0 Q := fn_ok w0 Try.func3 (by kernel_rfl) (by rw [law17_GateDoes_eq]; exact h)
def G_law17_GateTurns (Ca : Nat → List AV → St → (AV → St → Prop) → Prop) (a0 : Int) (a1 : Int) (S0 : St) (Q : AV → St → Prop) : Prop :=
 Ca F_law17_speaks [] S0 fun t13 S =>
 optK (unA .not t13) fun t14 =>
 ifK t14
 (Q (.bool false) S)
 (joinK (fun (S_4 : St) =>
 joinK (fun (S_7 : St) =>
 joinK (fun (S_13 : St) =>
 joinK (fun (S_26 : St) =>
 Ca F_gate_Gate_Read [(.ptr S.length 0), (.int .i64 5)] S_26 fun t93 S_27 =>
 joinK (fun (x96 : AV) (S_29 : St) =>
 optK (pickA (AV.strip t93) x96 (.bool false)) fun t97 =>
 joinK (fun (x100 : AV) (S_31 : St) =>
 optK (pickA (AV.strip (AV.strip t97)) x100 (.bool false)) fun t101 =>
 Q (AV.strip t101) S_31) fun j_9 =>
 ifK (AV.strip (AV.strip t97))
 (Ca F_gate_Gate_Waiting [(.ptr S.length 0)] S_29 fun t99 S_30 =>
 optK (binA .eql t99 (.int .i64 0)) fun t100 =>
 j_9 t100 S_30)
 (j_9 (.tup []) S_29)) fun j_10 =>
 ifK (AV.strip t93)
 (Ca F_gate_Gate_Readers [(.ptr S.length 0)] S_27 fun t95 S_28 =>
 optK (binA .eql t95 (.int .i64 1)) fun t96 =>
 j_10 t96 S_28)
 (j_10 (.tup []) S_27)) fun j_11 =>
 loopQ ([(.int .i64 0)], []) (fun v_4 bx_4 => ([v_4 60], [])) (fun nx_4 v_4 bx_4 S_14 =>
 optK (binA .lss (v_4 60) (.int .i64 (Int.tmod (IntKind.i64.wrap a1) 20))) fun t61 =>
 ifK t61
 (joinK (fun (S_25 : St) =>
 optK (binA .add (v_4 60) (.int .i64 1)) fun t92 =>
 nx_4 ([(AV.strip t92)], []) S_25) fun j_8 =>
 joinK (fun (S_17 : St) =>
 optK (binA .add (.int .i64 100) (AV.strip (AV.strip (v_4 60)))) fun t74 =>
 callK Ca F_gate_Gate_In [(.ptr S.length 0), t74] S_17 fun t75 S_18 =>
 optK (unA .not t75) fun t76 =>
 joinK (fun (x81 : AV) (S_20 : St) =>
 optK (pickA (AV.strip t76) x81 (.bool false)) fun t82 =>
 joinK (fun (x84 : AV) (S_22 : St) =>
 optK (pickA (AV.strip (AV.strip t82)) (.bool true) x84) fun t85 =>
 joinK (fun (x90 : AV) (S_24 : St) =>
 optK (pickA (AV.strip (AV.strip t85)) (.bool true) x90) fun t91 =>
 ifK (AV.strip t91)
 (Q (.bool false) S_24)
 (j_8 S_24)) fun j_4 =>
 ifK (AV.strip (AV.strip t85))
 (j_4 (.tup []) S_22)
 (optK (binA .add (.int .i64 100) (AV.strip (AV.strip (v_4 60)))) fun t88 =>
 callK Ca F_gate_Gate_Leave [(.ptr S.length 0), t88] S_22 fun t89 S_23 =>
 optK (unA .not t89) fun t90 =>
 j_4 t90 S_23)) fun j_5 =>
 ifK (AV.strip (AV.strip t82))
 (j_5 (.tup []) S_20)
 (Ca F_gate_Gate_Read [(.ptr S.length 0), (.int .i64 5)] S_20 fun t84 S_21 =>
 j_5 t84 S_21)) fun j_6 =>
 ifK (AV.strip t76)
 (optK (binA .add (.int .i64 100) (AV.strip (AV.strip (v_4 60)))) fun t79 =>
 callK Ca F_gate_Gate_Write [(.ptr S.length 0), t79] S_18 fun t80 S_19 =>
 optK (unA .not t80) fun t81 =>
 j_6 t81 S_19)
 (j_6 (.tup []) S_18)) fun j_7 =>
 optK (binA .add (AV.strip (AV.strip (v_4 60))) (.int .i64 1)) fun t64 =>
 loopQ ([t64], []) (fun v_5 bx_5 => ([v_5 12], [])) (fun nx_5 v_5 bx_5 S_15 =>
 optK (binA .lss (AV.strip (v_5 12)) (.int .i64 (Int.tmod (IntKind.i64.wrap a1) 20))) fun t67 =>
 ifK t67
 (optK (binA .add (.int .i64 100) (AV.strip (v_5 12))) fun t71 =>
 callK Ca F_gate_Gate_Write [(.ptr S.length 0), t71] S_15 fun t72 S_16 =>
 ifK t72
 (Q (.bool false) S_16)
 (optK (binA .add (AV.strip (v_5 12)) (.int .i64 1)) fun t69 =>
 nx_5 ([t69], []) S_16))
 (j_7 S_15)) S_14)
 (j_11 S_14)) S_13) fun j_12 =>
 loopQ ([(.int .i64 0)], []) (fun v_3 bx_3 => ([v_3 45], [])) (fun nx_3 v_3 bx_3 S_8 =>
 optK (binA .lss (v_3 45) (.int .i64 (Int.tmod (IntKind.i64.wrap a0) 20))) fun t46 =>
 ifK t46
 (joinK (fun (x51 : AV) (S_10 : St) =>
 optK (pickA (.bool (decide ((Int.tmod (IntKind.i64.wrap a1) 20) > 0))) x51 (.bool false)) fun t52 =>
 joinK (fun (x56 : AV) (S_12 : St) =>
 optK (pickA (AV.strip (AV.strip t52)) (.bool true) x56) fun t57 =>
 ifK (AV.strip t57)
 (Q (.bool false) S_12)
 (optK (binA .add (v_3 45) (.int .i64 1)) fun t58 =>
 nx_3 ([(AV.strip t58)], []) S_12)) fun j_2 =>
 ifK (AV.strip (AV.strip t52))
 (j_2 (.tup []) S_10)
 (callK Ca F_gate_Gate_Leave [(.ptr S.length 0), (AV.strip (AV.strip (v_3 45)))] S_10 fun t55 S_11 =>
 optK (unA .not t55) fun t56 =>
 j_2 t56 S_11)) fun j_3 =>
 ifK (.bool (decide ((Int.tmod (IntKind.i64.wrap a1) 20) > 0)))
 (Ca F_gate_Gate_Write [(.ptr S.length 0), (.int .i64 100)] S_8 fun t51 S_9 =>
 j_3 t51 S_9)
 (j_3 (.tup []) S_8))
 (j_12 S_8)) S_7) fun j_13 =>
 loopQ ([(.int .i64 0)], []) (fun v_2 bx_2 => ([v_2 30], [])) (fun nx_2 v_2 bx_2 S_5 =>
 optK (binA .lss (v_2 30) (.int .i64 (Int.tmod (IntKind.i64.wrap a1) 20))) fun t31 =>
 ifK t31
 (optK (binA .add (.int .i64 100) (AV.strip (AV.strip (v_2 30)))) fun t34 =>
 callK Ca F_gate_Gate_Write [(.ptr S.length 0), t34] S_5 fun t35 S_6 =>
 joinK (fun (x40 : AV) =>
 optK (pickA (.bool ((Int.tmod (IntKind.i64.wrap a0) 20) == 0)) x40 (.bool false)) fun t41 =>
 optK (binE .bool .neq t35 (AV.strip t41)) fun t42 =>
 ifK t42
 (Q (.bool false) S_6)
 (optK (binA .add (v_2 30) (.int .i64 1)) fun t43 =>
 nx_2 ([(AV.strip t43)], []) S_6)) fun j =>
 ifK (.bool ((Int.tmod (IntKind.i64.wrap a0) 20) == 0))
 (optK (binA .eql (AV.strip (AV.strip (v_2 30))) (.int .i64 0)) fun t40 =>
 j t40)
 (j (.tup [])))
 (j_13 S_5)) S_4) fun j_14 =>
 loopQ ([(.int .i64 0)], []) (fun v bx => ([v 22], [])) (fun nx v bx S_2 =>
 optK (binA .lss (v 22) (.int .i64 (Int.tmod (IntKind.i64.wrap a0) 20))) fun t23 =>
 ifK t23
 (callK Ca F_gate_Gate_Read [(.ptr S.length 0), (AV.strip (AV.strip (v 22)))] S_2 fun t26 S_3 =>
 optK (unA .not t26) fun t27 =>
 ifK t27
 (Q (.bool false) S_3)
 (optK (binA .add (v 22) (.int .i64 1)) fun t28 =>
 nx ([(AV.strip t28)], []) S_3))
 (j_14 S_2)) (S ++ [.cells T_gate_Gate.zero t_gate_Gate]))
theorem law17_GateTurns_eq (Ca) (a0 : Int) (a1 : Int) (S0 Q) : WF C Ca 4 (Drw C Ca 4) Try.f4 [(.int .u8 a0), (.int .u8 a1)] S0 Q = G_law17_GateTurns Ca a0 a1 S0 Q := by kernel_rfl
theorem law17_GateTurns_ok {w0 : World} {a0 : Int} {a1 : Int} {S0 : St} {Q : AV → St → Prop} (h : G_law17_GateTurns (ACalls (En w0)) a0 a1 S0 Q) : AC w0 F_law17_GateTurns [(.int .u8 a0), (.int .u8 a1)] S0 Q := fn_ok w0 Try.func4 (by kernel_rfl) (by rw [law17_GateTurns_eq]; exact h)
def G_law09_HeapMerges (Ca : Nat → List AV → St → (AV → St → Prop) → Prop) (a0 : List (List AV)) (a0r : Rt) (S0 : St) (Q : AV → St → Prop) : Prop :=
 Ca F_law09_speaks [] S0 fun t11 S =>
 optK (unA .not t11) fun t12 =>
 ifK t12
 (Q (.bool false) S)
 (ifK (.bool (decide ((List.length a0 : Int) > 70)))
 (Q (.bool true) S)
 (joinK (fun (S_5 : St) =>
 Ca F_heap_Merge [(.vs 1 a0 (Rt.strip (Rt.strip a0r)))] S_5 fun t32 S_6 =>
 Ca F_ref09_Merge [(.vs 1 a0 (Rt.strip (Rt.strip a0r)))] S_6 fun t34 S_7 =>
 optK (lenSlA (AV.strip t32)) fun t36 =>
 optK (lenSlA (AV.strip t34)) fun t38 =>
 optK (binA .neq t36 t38) fun t39 =>
 ifK t39
 (Q (.bool false) S_7)
 (callK Ca F_heap_First [(AV.strip t32)] S_7 fun t41 S_8 =>
 joinK (fun (x7_2 : AV) (S_10 : St) =>
 optK (lenSlA (AV.strip t41)) fun t88 =>
 optK (binA .eql (AV.strip x7_2) t88) fun t89 =>
 Q t89 S_10) fun j_5 =>
 optK (lenSlA (AV.strip t32)) fun t43 =>
 loopQ ([(.int .i64 0), (.int .i64 0)], []) (fun v_2 bx_2 => ([v_2 7, v_2 44], [])) (fun nx_2 v_2 bx_2 S_9 =>
 optK (binA .lss (v_2 44) t43) fun t45 =>
 ifK t45
 (joinK (fun (x7 : AV) =>
 optK (binA .add (v_2 44) (.int .i64 1)) fun t85 =>
 nx_2 ([x7, (AV.strip t85)], []) S_9) fun j_4 =>
 optK (idxSlA T_heap_Item (AV.strip t32) (v_2 44)) fun t47 =>
 optK (loadA T_heap_Item S_9 t47) fun t48 =>
 optK (lstoreA T_heap_Item (some [(.str []), (.int .i64 0)]) 0 (AV.strip t48)) fun b10 =>
 optK (lloadA T_heap_Item (some b10) 0) fun t49 =>
 optK (idxSlA T_socageref09_Item (AV.strip t34) (AV.strip (AV.strip (v_2 44)))) fun t52 =>
 optK (loadA T_socageref09_Item S_9 t52) fun t53 =>
 optK (binE (.agg T_heap_Item.zero) .neq (AV.strip t49) (AV.strip t53)) fun t54 =>
 ifK t54
 (Q (.bool false) S_9)
 (optK (binA .eql (AV.strip (AV.strip (v_2 44))) (.int .i64 0)) fun t56 =>
 joinK (fun (x69 : AV) =>
 optK (pickA (AV.strip t56) (.bool true) x69) fun t70 =>
 ifK (AV.strip t70)
 (optK (lenSlA (AV.strip t41)) fun t73 =>
 optK (binA .geq (AV.strip (v_2 7)) t73) fun t74 =>
 joinK (fun (x81 : AV) =>
 optK (pickA (AV.strip t74) (.bool true) x81) fun t82 =>
 ifK (AV.strip t82)
 (Q (.bool false) S_9)
 (optK (binA .add (AV.strip (v_2 7)) (.int .i64 1)) fun t84 =>
 j_4 t84)) fun j_2 =>
 ifK (AV.strip t74)
 (j_2 (.tup []))
 (optK (idxSlA T_heap_Item (AV.strip t41) (AV.strip (v_2 7))) fun t78 =>
 optK (loadA T_heap_Item S_9 t78) fun t79 =>
 optK (lloadA T_heap_Item (some b10) 0) fun t80 =>
 optK (binE (.agg T_heap_Item.zero) .neq (AV.strip t79) (AV.strip t80)) fun t81 =>
 j_2 t81))
 (j_4 (v_2 7))) fun j_3 =>
 ifK (AV.strip t56)
 (j_3 (.tup []))
 (optK (binA .sub (AV.strip (AV.strip (v_2 44))) (.int .i64 1)) fun t60 =>
 optK (idxSlA T_socageref09_Item (AV.strip t34) t60) fun t61 =>
 optK (movePtr t61 0) fun t62 =>
 optK (loadA T_string S_9 t62) fun t63 =>
 optK (idxSlA T_socageref09_Item (AV.strip t34) (AV.strip (AV.strip (v_2 44)))) fun t66 =>
 optK (movePtr t66 0) fun t67 =>
 optK (loadA T_string S_9 t67) fun t68 =>
 optK (binA .neq (AV.strip t63) (AV.strip t68)) fun t69 =>
 j_3 t69)))
 (j_5 (v_2 7) S_9)) S_8)) fun j_6 =>
 loopQ ([(.int .i64 0)], []) (fun v bx => ([v 18], [])) (fun nx v bx S_2 =>
 optK (binA .lss (v 18) (.int .i64 (List.length a0 : Int))) fun t19 =>
 ifK t19
 (optK (idxSlA T_s_string (.vs 1 a0 (Rt.strip a0r)) (v 18)) fun t20 =>
 optK (loadA T_s_string S_2 t20) fun t21 =>
 optK (lenSlA (AV.strip (AV.strip t21))) fun t23 =>
 optK (binA .gtr t23 (.int .i64 60)) fun t24 =>
 joinK (fun (x28 : AV) (S_4 : St) =>
 optK (pickA (AV.strip t24) (.bool true) x28) fun t29 =>
 ifK (AV.strip t29)
 (Q (.bool true) S_4)
 (optK (binA .add (v 18) (.int .i64 1)) fun t30 =>
 nx ([(AV.strip t30)], []) S_4)) fun j =>
 ifK (AV.strip t24)
 (j (.tup []) S_2)
 (callK Ca F_ref09_Rises [(AV.strip (AV.strip t21))] S_2 fun t27 S_3 =>
 optK (unA .not t27) fun t28 =>
 j t28 S_3))
 (j_6 S_2)) S))
theorem law09_HeapMerges_eq (Ca) (a0 : List (List AV)) (a0r : Rt) (S0 Q) : WF C Ca 5 (Drw C Ca 5) Try.f5 [(.vs 1 a0 a0r)] S0 Q = G_law09_HeapMerges Ca a0 a0r S0 Q := by kernel_rfl
theorem law09_HeapMerges_ok {w0 : World} {a0 : List (List AV)} {a0r : Rt} {S0 : St} {Q : AV → St → Prop} (h : G_law09_HeapMerges (ACalls (En w0)) a0 a0r S0 Q) : AC w0 F_law09_HeapMerges [(.vs 1 a0 a0r)] S0 Q := fn_ok w0 Try.func5 (by kernel_rfl) (by rw [law09_HeapMerges_eq]; exact h)
def G_law09_HeapParts (Ca : Nat → List AV → St → (AV → St → Prop) → Prop) (a0 : List (List AV)) (a0r : Rt) (a1 : Int) (S0 : St) (Q : AV → St → Prop) : Prop :=
 Ca F_law09_speaks [] S0 fun t14 S =>
 optK (unA .not t14) fun t15 =>
 ifK t15
 (Q (.bool false) S)
 (ifK (.bool (decide ((List.length a0 : Int) > 70)))
 (Q (.bool true) S)
 (joinK (fun (S_5 : St) =>
 optK (binA .rem (.int .i64 (IntKind.i64.wrap a1)) (.int .i64 (IntKind.i64.wrap ((List.length a0 : Int) + 1)))) fun t39 =>
 optK (cutA T_s_string (.vs 1 a0 (Rt.strip a0r)) none (some (AV.strip t39)) none) fun t43 =>
 optK (cutA T_s_string (.vs 1 a0 (Rt.strip a0r)) (some (AV.strip t39)) none none) fun t49 =>
 callK Ca F_heap_Merge [t43] S_5 fun t44 S_6 =>
 optK (calleeA (.fn F_law09_HeapParts_1 [] []) [t44]) fun a =>
 Ca a.1 a.2 S_6 fun t45 S_7 =>
 callK Ca F_heap_Merge [t49] S_7 fun t50 S_8 =>
 optK (calleeA (.fn F_law09_HeapParts_1 [] []) [t50]) fun a_2 =>
 Ca a_2.1 a_2.2 S_8 fun t51 S_9 =>
 optK (elemVals 1 [(AV.strip t45), (AV.strip t51)]) fun e55 =>
 Ca F_heap_Merge [(.vs 1 e55 .full)] S_9 fun t56 S_10 =>
 optK (calleeA (.fn F_law09_HeapParts_1 [] []) [t56]) fun a_3 =>
 Ca a_3.1 a_3.2 S_10 fun t57 S_11 =>
 Ca F_heap_Merge [(.vs 1 a0 (Rt.strip (Rt.strip a0r)))] S_11 fun t60 S_12 =>
 optK (calleeA (.fn F_law09_HeapParts_1 [] []) [t60]) fun a_4 =>
 Ca a_4.1 a_4.2 S_12 fun t61 S_13 =>
 optK (lenSlA (AV.strip t57)) fun t63 =>
 optK (lenSlA (AV.strip t61)) fun t65 =>
 optK (binA .neq t63 t65) fun t66 =>
 joinK (fun (x70 : AV) (S_15 : St) =>
 optK (pickA (AV.strip t66) (.bool true) x70) fun t71 =>
 ifK (AV.strip t71)
 (Q (.bool false) S_15)
 (joinK (fun (S_17 : St) =>
 Q (.bool true) S_17) fun j_3 =>
 optK (lenSlA (AV.strip t57)) fun t73 =>
 loopQ ([(.int .i64 0)], []) (fun v_2 bx_2 => ([v_2 74], [])) (fun nx_2 v_2 bx_2 S_16 =>
 optK (binA .lss (v_2 74) t73) fun t75 =>
 ifK t75
 (optK (idxSlA T_string (AV.strip t57) (AV.strip (AV.strip (v_2 74)))) fun t79 =>
 optK (loadA T_string S_16 t79) fun t80 =>
 optK (idxSlA T_string (AV.strip t61) (AV.strip (AV.strip (v_2 74)))) fun t83 =>
 optK (loadA T_string S_16 t83) fun t84 =>
 optK (binA .neq (AV.strip t80) (AV.strip t84)) fun t85 =>
 ifK t85
 (Q (.bool false) S_16)
 (optK (binA .add (v_2 74) (.int .i64 1)) fun t86 =>
 nx_2 ([(AV.strip t86)], []) S_16))
 (j_3 S_16)) S_15)) fun j_2 =>
 ifK (AV.strip t66)
 (j_2 (.tup []) S_13)
 (callK Ca F_ref09_Rises [(AV.strip t61)] S_13 fun t69 S_14 =>
 optK (unA .not t69) fun t70 =>
 j_2 t70 S_14)) fun j_4 =>
 loopQ ([(.int .i64 0)], []) (fun v bx => ([v 21], [])) (fun nx v bx S_2 =>
 optK (binA .lss (v 21) (.int .i64 (List.length a0 : Int))) fun t22 =>
 ifK t22
 (optK (idxSlA T_s_string (.vs 1 a0 (Rt.strip a0r)) (v 21)) fun t23 =>
 optK (loadA T_s_string S_2 t23) fun t24 =>
 optK (lenSlA (AV.strip (AV.strip t24))) fun t26 =>
 optK (binA .gtr t26 (.int .i64 60)) fun t27 =>
 joinK (fun (x31 : AV) (S_4 : St) =>
 optK (pickA (AV.strip t27) (.bool true) x31) fun t32 =>
 ifK (AV.strip t32)
 (Q (.bool true) S_4)
 (optK (binA .add (v 21) (.int .i64 1)) fun t33 =>
 nx ([(AV.strip t33)], []) S_4)) fun j =>
 ifK (AV.strip t27)
 (j (.tup []) S_2)
 (callK Ca F_ref09_Rises [(AV.strip (AV.strip t24))] S_2 fun t30 S_3 =>
 optK (unA .not t30) fun t31 =>
 j t31 S_3))
 (j_4 S_2)) S))
theorem law09_HeapParts_eq (Ca) (a0 : List (List AV)) (a0r : Rt) (a1 : Int) (S0 Q) : WF C Ca 6 (Drw C Ca 6) Try.f6 [(.vs 1 a0 a0r), (.int .u8 a1)] S0 Q = G_law09_HeapParts Ca a0 a0r a1 S0 Q := by kernel_rfl
theorem law09_HeapParts_ok {w0 : World} {a0 : List (List AV)} {a0r : Rt} {a1 : Int} {S0 : St} {Q : AV → St → Prop} (h : G_law09_HeapParts (ACalls (En w0)) a0 a0r a1 S0 Q) : AC w0 F_law09_HeapParts [(.vs 1 a0 a0r), (.int .u8 a1)] S0 Q := fn_ok w0 Try.func6 (by kernel_rfl) (by rw [law09_HeapParts_eq]; exact h)
def G_law03_ExtentRight (Ca : Nat → List AV → St → (AV → St → Prop) → Prop) (a0 : Int) (a1 : List (List AV)) (a1r : Rt) (S0 : St) (Q : AV → St → Prop) : Prop :=
 Ca F_law03_speaks [] S0 fun t5 S =>
 optK (unA .not t5) fun t6 =>
 ifK t6
 (Q (.bool false) S)
 (Ca F_law03_big [(.vs 2 a1 (Rt.strip (Rt.strip a1r)))] S fun t8 S_2 =>
 joinK (fun (x16 : AV) (S_5 : St) =>
 optK (pickA (AV.strip t8) (.bool true) x16) fun t17 =>
 Q (AV.strip t17) S_5) fun j =>
 ifK (AV.strip t8)
 (j (.tup []) S_2)
 (Ca F_extent_Right [(.int .i64 a0), (.vs 2 a1 (Rt.strip (Rt.strip a1r)))] S_2 fun t12 S_3 =>
 Ca F_ref03_Right [(.int .i64 a0), (.vs 2 a1 (Rt.strip (Rt.strip a1r)))] S_3 fun t15 S_4 =>
 optK (binE .bool .eql t12 t15) fun t16 =>
 j t16 S_4))
theorem law03_ExtentRight_eq (Ca) (a0 : Int) (a1 : List (List AV)) (a1r : Rt) (S0 Q) : WF C Ca 7 (Drw C Ca 7) Try.f7 [(.int .i64 a0), (.vs 2 a1 a1r)] S0 Q = G_law03_ExtentRight Ca a0 a1 a1r S0 Q := by kernel_rfl
theorem law03_ExtentRight_ok {w0 : World} {a0 : Int} {a1 : List (List AV)} {a1r : Rt} {S0 : St} {Q : AV → St → Prop} (h : G_law03_ExtentRight (ACalls (En w0)) a0 a1 a1r S0 Q) : AC w0 F_law03_ExtentRight [(.int .i64 a0), (.vs 2 a1 a1r)] S0 Q := fn_ok w0 Try.func7 (by kernel_rfl) (by rw [law03_ExtentRight_eq]; exact h)
def G_law03_ExtentReads (Ca : Nat → List AV → St → (AV → St → Prop) → Prop) (a0 : Int) (a1 : List (List AV)) (a1r : Rt) (a20_ : Int) (a21_ : Int) (S0 : St) (Q : AV → St → Prop) : Prop :=
 optK (boxA T_2_int (.agg [(.int .i64 a20_), (.int .i64 a21_)])) fun c5 =>
 Ca F_law03_speaks [] S0 fun t7 S =>
 optK (unA .not t7) fun t8 =>
 ifK t8
 (Q (.bool false) S)
 (Ca F_law03_big [(.vs 2 a1 (Rt.strip (Rt.strip a1r)))] S fun t10 S_2 =>
 joinK (fun (x15 : AV) (S_4 : St) =>
 optK (pickA (AV.strip t10) (.bool true) x15) fun t16 =>
 joinK (fun (x19 : AV) =>
 optK (pickA (AV.strip (AV.strip t16)) (.bool true) x19) fun t20 =>
 ifK (AV.strip t20)
 (Q (.bool true) S_4)
 (optK (some c5) fun _ =>
 optK (lloadA T_int (some c5) 0) fun t24 =>
 optK (some c5) fun _ =>
 optK (lloadA T_int (some c5) 1) fun t26 =>
 optK (some c5) fun _ =>
 optK (lloadA T_int (some c5) 0) fun t31 =>
 optK (some c5) fun _ =>
 optK (lloadA T_int (some c5) 1) fun t33 =>
 callK Ca F_extent_Read [(.int .i64 a0), (.vs 2 a1 (Rt.strip a1r)), (AV.strip t24), (AV.strip t26)] S_4 fun t27 S_5 =>
 callK Ca F_ref03_Read [(.int .i64 a0), (.vs 2 a1 (Rt.strip a1r)), (AV.strip t31), (AV.strip t33)] S_5 fun t34 S_6 =>
 optK (binA .eql t27 t34) fun t35 =>
 Q t35 S_6)) fun j =>
 ifK (AV.strip (AV.strip t16))
 (j (.tup []))
 (j (.bool (decide (a0 > 3000))))) fun j_2 =>
 ifK (AV.strip t10)
 (j_2 (.tup []) S_2)
 (Ca F_ref03_Right [(.int .i64 a0), (.vs 2 a1 (Rt.strip (Rt.strip a1r)))] S_2 fun t14 S_3 =>
 optK (unA .not t14) fun t15 =>
 j_2 t15 S_3))
theorem law03_ExtentReads_eq (Ca) (a0 : Int) (a1 : List (List AV)) (a1r : Rt) (a20_ : Int) (a21_ : Int) (S0 Q) : WF C Ca 8 (Drw C Ca 8) Try.f8 [(.int .i64 a0), (.vs 2 a1 a1r), (.agg [(.int .i64 a20_), (.int .i64 a21_)])] S0 Q = G_law03_ExtentReads Ca a0 a1 a1r a20_ a21_ S0 Q := by kernel_rfl
theorem law03_ExtentReads_ok {w0 : World} {a0 : Int} {a1 : List (List AV)} {a1r : Rt} {a20_ : Int} {a21_ : Int} {S0 : St} {Q : AV → St → Prop} (h : G_law03_ExtentReads (ACalls (En w0)) a0 a1 a1r a20_ a21_ S0 Q) : AC w0 F_law03_ExtentReads [(.int .i64 a0), (.vs 2 a1 a1r), (.agg [(.int .i64 a20_), (.int .i64 a21_)])] S0 Q := fn_ok w0 Try.func8 (by kernel_rfl) (by rw [law03_ExtentReads_eq]; exact h)
def G_law03_ExtentBack (Ca : Nat → List AV → St → (AV → St → Prop) → Prop) (a0 : List UInt8) (S0 : St) (Q : AV → St → Prop) : Prop :=
 Ca F_law03_speaks [] S0 fun t8 S =>
 optK (unA .not t8) fun t9 =>
 ifK t9
 (Q (.bool false) S)
 (ifK (.bool (decide ((List.length a0 : Int) > 1000)))
 (Q (.bool true) S)
 (Ca F_extent_Of [(.str a0)] S fun t14 S_2 =>
 joinK (fun (S_7 : St) =>
 callK Ca F_ref03_Right [(.int .i64 (List.length a0 : Int)), (AV.strip t14)] S_7 fun t47 S_8 =>
 joinK (fun (x56 : AV) (S_10 : St) =>
 optK (pickA (AV.strip t47) x56 (.bool false)) fun t57 =>
 Q (AV.strip t57) S_10) fun j_3 =>
 ifK (AV.strip t47)
 (callK Ca F_extent_Read [(.int .i64 (List.length a0 : Int)), (AV.strip t14), (.int .i64 0), (.int .i64 (List.length a0 : Int))] S_8 fun t54 S_9 =>
 optK (binA .eql t54 (.str a0)) fun t56 =>
 j_3 t56 S_9)
 (j_3 (.tup []) S_8)) fun j_4 =>
 optK (lenSlA (AV.strip t14)) fun t16 =>
 loopQ ([(.int .i64 (-1)), (.int .i64 0)], []) (fun v bx => ([v 4, v 17], [])) (fun nx v bx S_3 =>
 optK (binA .lss (v 17) t16) fun t18 =>
 ifK t18
 (joinK (fun (x4 : AV) (S_6 : St) =>
 optK (binA .add (v 17) (.int .i64 1)) fun t43 =>
 nx ([x4, (AV.strip t43)], []) S_6) fun j_2 =>
 optK (idxSlA T_api_Extent (AV.strip t14) (v 17)) fun t19 =>
 optK (loadA T_api_Extent S_3 t19) fun t20 =>
 optK (lstoreA T_api_Extent (some [(.int .i64 0), (.str [])]) 0 (AV.strip t20)) fun b6 =>
 optK (some b6) fun _ =>
 optK (lloadA T_int (some b6) 0) fun t22 =>
 optK (binA .leq (AV.strip t22) (AV.strip (v 4))) fun t24 =>
 ifK t24
 (Q (.bool false) S_3)
 (joinK (fun (y6 : Option (List AV)) (S_5 : St) =>
 optK y6 fun _ =>
 optK (lloadA T_int y6 0) fun t38 =>
 optK y6 fun _ =>
 optK (lloadA T_string y6 1) fun t40 =>
 optK (lenStrA (AV.strip t40)) fun t41 =>
 optK (binA .add (AV.strip t38) t41) fun t42 =>
 j_2 t42 S_5) fun j =>
 optK (some b6) fun _ =>
 optK (lloadA T_string (some b6) 1) fun t26 =>
 optK (lenStrA (AV.strip t26)) fun t27 =>
 loopQ ([(.int .i64 0)], [(some b6)]) (fun v_2 bx_2 => ([v_2 28], [bx_2 6])) (fun nx_2 v_2 bx_2 S_4 =>
 optK (binA .lss (v_2 28) t27) fun t29 =>
 ifK t29
 (optK (bx_2 6) fun _ =>
 optK (lloadA T_string (bx_2 6) 1) fun t32 =>
 optK (charA (AV.strip t32) (AV.strip (AV.strip (v_2 28)))) fun t34 =>
 optK (binA .eql t34 (.int .u8 0)) fun t35 =>
 ifK t35
 (Q (.bool false) S_4)
 (optK (binA .add (v_2 28) (.int .i64 1)) fun t36 =>
 nx_2 ([(AV.strip t36)], [(bx_2 6)]) S_4))
 (j (bx_2 6) S_4)) S_3))
 (j_4 S_3)) S_2))
theorem law03_ExtentBack_eq (Ca) (a0 : List UInt8) (S0 Q) : WF C Ca 9 (Drw C Ca 9) Try.f9 [(.str a0)] S0 Q = G_law03_ExtentBack Ca a0 S0 Q := by kernel_rfl
theorem law03_ExtentBack_ok {w0 : World} {a0 : List UInt8} {S0 : St} {Q : AV → St → Prop} (h : G_law03_ExtentBack (ACalls (En w0)) a0 S0 Q) : AC w0 F_law03_ExtentBack [(.str a0)] S0 Q := fn_ok w0 Try.func9 (by kernel_rfl) (by rw [law03_ExtentBack_eq]; exact h)
def G_law17_speaks (Ca : Nat → List AV → St → (AV → St → Prop) → Prop) (S0 : St) (Q : AV → St → Prop) : Prop :=
 Ca F_gate_Gate_Read [(.ptr S0.length 0), (.int .i64 1)] (S0 ++ [.cells T_gate_Gate.zero t_gate_Gate]) fun t7 S =>
 Ca F_gate_Gate_Write [(.ptr S0.length 0), (.int .i64 2)] S fun t8 S_2 =>
 Ca F_gate_Gate_Read [(.ptr S0.length 0), (.int .i64 3)] S_2 fun t9 S_3 =>
 Ca F_gate_Gate_Leave [(.ptr S0.length 0), (.int .i64 1)] S_3 fun t10 S_4 =>
 Ca F_gate_Gate_Write [(.ptr S0.length 0), (.int .i64 2)] S_4 fun t11 S_5 =>
 joinK (fun (x15 : AV) =>
 optK (pickA (AV.strip (AV.strip t7)) x15 (.bool false)) fun t16 =>
 joinK (fun (x19 : AV) =>
 optK (pickA (AV.strip (AV.strip t16)) x19 (.bool false)) fun t20 =>
 joinK (fun (x22 : AV) =>
 optK (pickA (AV.strip (AV.strip t20)) x22 (.bool false)) fun t23 =>
 joinK (fun (x25 : AV) =>
 optK (pickA (AV.strip (AV.strip t23)) x25 (.bool false)) fun t26 =>
 joinK (fun (x28 : AV) (S_7 : St) =>
 optK (pickA (AV.strip (AV.strip t26)) x28 (.bool false)) fun t29 =>
 joinK (fun (x32 : AV) (S_9 : St) =>
 optK (pickA (AV.strip (AV.strip t29)) x32 (.bool false)) fun t33 =>
 joinK (fun (x36 : AV) (S_11 : St) =>
 optK (pickA (AV.strip (AV.strip t33)) x36 (.bool false)) fun t37 =>
 joinK (fun (x40 : AV) (S_13 : St) =>
 optK (pickA (AV.strip (AV.strip t37)) x40 (.bool false)) fun t41 =>
 Q (AV.strip t41) S_13) fun j =>
 ifK (AV.strip (AV.strip t37))
 (Ca F_gate_Gate_Readers [(.ptr S0.length 0)] S_11 fun t39 S_12 =>
 optK (binA .eql t39 (.int .i64 0)) fun t40 =>
 j t40 S_12)
 (j (.tup []) S_11)) fun j_2 =>
 ifK (AV.strip (AV.strip t33))
 (Ca F_gate_Gate_Waiting [(.ptr S0.length 0)] S_9 fun t35 S_10 =>
 optK (binA .eql t35 (.int .i64 0)) fun t36 =>
 j_2 t36 S_10)
 (j_2 (.tup []) S_9)) fun j_3 =>
 ifK (AV.strip (AV.strip t29))
 (Ca F_gate_Gate_Writers [(.ptr S0.length 0)] S_7 fun t31 S_8 =>
 optK (binA .eql t31 (.int .i64 1)) fun t32 =>
 j_3 t32 S_8)
 (j_3 (.tup []) S_7)) fun j_4 =>
 ifK (AV.strip (AV.strip t26))
 (Ca F_gate_Gate_In [(.ptr S0.length 0), (.int .i64 2)] S_5 fun t28 S_6 =>
 j_4 t28 S_6)
 (j_4 (.tup []) S_5)) fun j_5 =>
 ifK (AV.strip (AV.strip t23))
 (j_5 (AV.strip t11))
 (j_5 (.tup []))) fun j_6 =>
 ifK (AV.strip (AV.strip t20))
 (j_6 (AV.strip t10))
 (j_6 (.tup []))) fun j_7 =>
 ifK (AV.strip (AV.strip t16))
 (optK (unA .not (AV.strip t9)) fun t19 =>
 j_7 t19)
 (j_7 (.tup []))) fun j_8 =>
 ifK (AV.strip (AV.strip t7))
 (optK (unA .not (AV.strip t8)) fun t15 =>
 j_8 t15)
 (j_8 (.tup []))
theorem law17_speaks_eq (Ca) (S0 Q) : WF C Ca 10 (Drw C Ca 10) Try.f10 [] S0 Q = G_law17_speaks Ca  S0 Q := by kernel_rfl
theorem law17_speaks_ok {w0 : World} {S0 : St} {Q : AV → St → Prop} (h : G_law17_speaks (ACalls (En w0))  S0 Q) : AC w0 F_law17_speaks [] S0 Q := fn_ok w0 Try.func10 (by kernel_rfl) (by rw [law17_speaks_eq]; exact h)
def G_gate_Gate_Read (Ca : Nat → List AV → St → (AV → St → Prop) → Prop) (a0 : Nat) (a0o : Nat) (a1 : Int) (S0 : St) (Q : AV → St → Prop) : Prop :=
 optK (loadA T_int S0 (.ptr a0 (a0o + 1))) fun t8 =>
 optK (binA .neq (AV.strip t8) (.int .i64 0)) fun t9 =>
 joinK (fun (x16 : AV) =>
 optK (pickA (AV.strip t9) (.bool true) x16) fun t17 =>
 joinK (fun (x21 : AV) (S_2 : St) =>
 optK (pickA (AV.strip (AV.strip t17)) (.bool true) x21) fun t22 =>
 ifK (AV.strip t22)
 (Q (.bool false) S_2)
 (joinK (fun (S_4 : St) =>
 optK (loadA T_map_int_struct S_4 (.ptr a0 (a0o + 0))) fun t35 =>
 optK (mapUpdateA .int S_4 (AV.strip t35) (.int .i64 a1) (.agg [])) fun S_5 =>
 Q (.bool true) S_5) fun j_3 =>
 optK (loadA T_map_int_struct S_2 (.ptr a0 (a0o + 0))) fun t26 =>
 optK (binE .map .eql (AV.strip t26) (.map none)) fun t27 =>
 ifK t27
 (optK (storeA T_map_int_struct (S_2 ++ [.map []]) (.ptr a0 (a0o + 0)) (.map (some S_2.length))) fun S_3 =>
 j_3 S_3)
 (j_3 S_2))) fun j =>
 ifK (AV.strip (AV.strip t17))
 (j (.tup []) S0)
 (Ca F_gate_Gate_In [(.ptr a0 a0o), (.int .i64 a1)] S0 fun t21 S =>
 j t21 S)) fun j_2 =>
 ifK (AV.strip t9)
 (j_2 (.tup []))
 (optK (loadA T_s_int S0 (.ptr a0 (a0o + 2))) fun t14 =>
 optK (lenSlA (AV.strip t14)) fun t15 =>
 optK (binA .gtr t15 (.int .i64 0)) fun t16 =>
 j_2 t16)
theorem gate_Gate_Read_eq (Ca) (a0 : Nat) (a0o : Nat) (a1 : Int) (S0 Q) : WF C Ca 11 (Drw C Ca 11) Try.f11 [(.ptr a0 a0o), (.int .i64 a1)] S0 Q = G_gate_Gate_Read Ca a0 a0o a1 S0 Q := by kernel_rfl
theorem gate_Gate_Read_ok {w0 : World} {a0 : Nat} {a0o : Nat} {a1 : Int} {S0 : St} {Q : AV → St → Prop} (h : G_gate_Gate_Read (ACalls (En w0)) a0 a0o a1 S0 Q) : AC w0 F_gate_Gate_Read [(.ptr a0 a0o), (.int .i64 a1)] S0 Q := fn_ok w0 Try.func11 (by kernel_rfl) (by rw [gate_Gate_Read_eq]; exact h)
def G_ref17_Read (Ca : Nat → List AV → St → (AV → St → Prop) → Prop) (a0a : List (List AV)) (a0ar : Rt) (a0b : List (List AV)) (a0br : Rt) (a0c : List (List AV)) (a0cr : Rt) (a1 : Int) (S0 : St) (Q : AV → St → Prop) : Prop :=
 optK (boxA T_socageref17_Gate (.agg [(.vs 1 a0a a0ar), (.vs 1 a0b a0br), (.vs 1 a0c a0cr)])) fun c2 =>
 optK (lloadA T_socageref17_Gate (some c2) 0) fun t6 =>
 callK Ca F_ref17_In [(AV.strip t6), (.int .i64 a1)] S0 fun t8 S =>
 joinK (fun (x13 : AV) =>
 optK (pickA (AV.strip t8) (.bool true) x13) fun t14 =>
 joinK (fun (x19 : AV) =>
 optK (pickA (AV.strip (AV.strip t14)) (.bool true) x19) fun t20 =>
 ifK (AV.strip t20)
 (optK (lloadA T_socageref17_Gate (some c2) 0) fun t21 =>
 optK (lstoreA T_socageref17_Gate (some [(.vs 1 [] .nil), (.vs 1 [] .nil), (.vs 1 [] .nil)]) 0 (AV.strip t21)) fun b4 =>
 optK ((lloadA T_socageref17_Gate (some b4) 0).map AV.strip) fun r4 =>
 Q (.tup [(AV.flat r4), (.bool false)]) S)
 (optK (some c2) fun _ =>
 optK (lloadA T_s_int (some c2) 0) fun t24 =>
 optK (appendA T_int S (.vs 1 [] .full) (AV.strip t24)) fun t25 =>
 optK (appendA T_int S t25 (.vs 1 [[(.int .i64 a1)]] .full)) fun t28 =>
 optK (some c2) fun _ =>
 optK (lstoreA T_s_int (some c2) 0 t28) fun b2 =>
 optK (lloadA T_socageref17_Gate (some b2) 0) fun t30 =>
 optK (lstoreA T_socageref17_Gate (some [(.vs 1 [] .nil), (.vs 1 [] .nil), (.vs 1 [] .nil)]) 0 (AV.strip t30)) fun b4_2 =>
 optK ((lloadA T_socageref17_Gate (some b4_2) 0).map AV.strip) fun r4_2 =>
 Q (.tup [(AV.flat r4_2), (.bool true)]) S)) fun j =>
 ifK (AV.strip (AV.strip t14))
 (j (.tup []))
 (optK (some c2) fun _ =>
 optK (lloadA T_s_int (some c2) 2) fun t17 =>
 optK (lenSlA (AV.strip t17)) fun t18 =>
 optK (binA .gtr t18 (.int .i64 0)) fun t19 =>
 j t19)) fun j_2 =>
 ifK (AV.strip t8)
 (j_2 (.tup []))
 (optK (some c2) fun _ =>
 optK (lloadA T_s_int (some c2) 1) fun t11 =>
 optK (lenSlA (AV.strip t11)) fun t12 =>
 optK (binA .gtr t12 (.int .i64 0)) fun t13 =>
 j_2 t13)
theorem ref17_Read_eq (Ca) (a0a : List (List AV)) (a0ar : Rt) (a0b : List (List AV)) (a0br : Rt) (a0c : List (List AV)) (a0cr : Rt) (a1 : Int) (S0 Q) : WF C Ca 12 (Drw C Ca 12) Try.f12 [(.agg [(.vs 1 a0a a0ar), (.vs 1 a0b a0br), (.vs 1 a0c a0cr)]), (.int .i64 a1)] S0 Q = G_ref17_Read Ca a0a a0ar a0b a0br a0c a0cr a1 S0 Q := by kernel_rfl
theorem ref17_Read_ok {w0 : World} {a0a : List (List AV)} {a0ar : Rt} {a0b : List (List AV)} {a0br : Rt} {a0c : List (List AV)} {a0cr : Rt} {a1 : Int} {S0 : St} {Q : AV → St → Prop} (h : G_ref17_Read (ACalls (En w0)) a0a a0ar a0b a0br a0c a0cr a1 S0 Q) : AC w0 F_ref17_Read [(.agg [(.vs 1 a0a a0ar), (.vs 1 a0b a0br), (.vs 1 a0c a0cr)]), (.int .i64 a1)] S0 Q := fn_ok w0 Try.func12 (by kernel_rfl) (by rw [ref17_Read_eq]; exact h)
def G_gate_Gate_Write (Ca : Nat → List AV → St → (AV → St → Prop) → Prop) (a0 : Nat) (a0o : Nat) (a1 : Int) (S0 : St) (Q : AV → St → Prop) : Prop :=
 Ca F_gate_Gate_In [(.ptr a0 a0o), (.int .i64 a1)] S0 fun t8 S =>
 ifK t8
 (Q (.bool false) S)
 (Ca F_gate_Gate_place [(.ptr a0 a0o), (.int .i64 a1)] S fun t11 S_2 =>
 joinK (fun (x5 : AV) (S_4 : St) =>
 optK (binA .gtr (AV.strip x5) (.int .i64 0)) fun t30 =>
 joinK (fun (x36 : AV) =>
 optK (pickA (AV.strip t30) (.bool true) x36) fun t37 =>
 joinK (fun (x44 : AV) =>
 optK (pickA (AV.strip (AV.strip t37)) (.bool true) x44) fun t45 =>
 ifK (AV.strip t45)
 (Q (.bool false) S_4)
 (optK (loadA T_s_int S_4 (.ptr a0 (a0o + 2))) fun t50 =>
 optK (cutA T_int (AV.strip0 t50) (some (.int .i64 1)) none none) fun t51 =>
 optK (storeA T_s_int (stripMem S_4 (.ptr a0 (a0o + 2))) (.ptr a0 (a0o + 2)) t51) fun S_5 =>
 optK (storeA T_int S_5 (.ptr a0 (a0o + 1)) (.int .i64 (IntKind.i64.wrap (a1 + 1)))) fun S_6 =>
 Q (.bool true) S_6)) fun j =>
 ifK (AV.strip (AV.strip t37))
 (j (.tup []))
 (optK (loadA T_map_int_struct S_4 (.ptr a0 (a0o + 0))) fun t42 =>
 optK (lenMapA S_4 (AV.strip t42)) fun t43 =>
 optK (binA .gtr t43 (.int .i64 0)) fun t44 =>
 j t44)) fun j_2 =>
 ifK (AV.strip t30)
 (j_2 (.tup []))
 (optK (loadA T_int S_4 (.ptr a0 (a0o + 1))) fun t35 =>
 optK (binA .neq (AV.strip t35) (.int .i64 0)) fun t36 =>
 j_2 t36)) fun j_3 =>
 optK (binA .lss (AV.strip t11) (.int .i64 0)) fun t13 =>
 ifK t13
 (optK (loadA T_s_int S_2 (.ptr a0 (a0o + 2))) fun t17 =>
 optK (lenSlA (AV.strip t17)) fun t18 =>
 optK (loadA T_s_int S_2 (.ptr a0 (a0o + 2))) fun t23 =>
 optK (appendA T_int (stripMem S_2 (.ptr a0 (a0o + 2))) (AV.strip0 t23) (.vs 1 [[(.int .i64 a1)]] .full)) fun t26 =>
 optK (storeA T_s_int (stripMem S_2 (.ptr a0 (a0o + 2))) (.ptr a0 (a0o + 2)) t26) fun S_3 =>
 j_3 t18 S_3)
 (j_3 t11 S_2))
theorem gate_Gate_Write_eq (Ca) (a0 : Nat) (a0o : Nat) (a1 : Int) (S0 Q) : WF C Ca 13 (Drw C Ca 13) Try.f13 [(.ptr a0 a0o), (.int .i64 a1)] S0 Q = G_gate_Gate_Write Ca a0 a0o a1 S0 Q := by kernel_rfl
theorem gate_Gate_Write_ok {w0 : World} {a0 : Nat} {a0o : Nat} {a1 : Int} {S0 : St} {Q : AV → St → Prop} (h : G_gate_Gate_Write (ACalls (En w0)) a0 a0o a1 S0 Q) : AC w0 F_gate_Gate_Write [(.ptr a0 a0o), (.int .i64 a1)] S0 Q := fn_ok w0 Try.func13 (by kernel_rfl) (by rw [gate_Gate_Write_eq]; exact h)
def G_ref17_Write (Ca : Nat → List AV → St → (AV → St → Prop) → Prop) (a0a : List (List AV)) (a0ar : Rt) (a0b : List (List AV)) (a0br : Rt) (a0c : List (List AV)) (a0cr : Rt) (a1 : Int) (S0 : St) (Q : AV → St → Prop) : Prop :=
 optK (boxA T_socageref17_Gate (.agg [(.vs 1 a0a a0ar), (.vs 1 a0b a0br), (.vs 1 a0c a0cr)])) fun c2 =>
 optK (lloadA T_socageref17_Gate (some c2) 0) fun t6 =>
 callK Ca F_ref17_In [(AV.strip t6), (.int .i64 a1)] S0 fun t8 S =>
 ifK t8
 (optK (lloadA T_socageref17_Gate (some c2) 0) fun t9 =>
 optK (lstoreA T_socageref17_Gate (some [(.vs 1 [] .nil), (.vs 1 [] .nil), (.vs 1 [] .nil)]) 0 (AV.strip t9)) fun b4 =>
 optK ((lloadA T_socageref17_Gate (some b4) 0).map AV.strip) fun r4 =>
 Q (.tup [(AV.flat r4), (.bool false)]) S)
 (joinK (fun (y2 : Option (List AV)) (S_3 : St) =>
 optK y2 fun _ =>
 optK (lloadA T_s_int y2 2) fun t24 =>
 optK (idxSlA T_int (AV.strip t24) (.int .i64 0)) fun t25 =>
 optK (loadA T_int S_3 t25) fun t26 =>
 optK (binA .neq (AV.strip t26) (.int .i64 a1)) fun t28 =>
 joinK (fun (x33 : AV) =>
 optK (pickA (AV.strip t28) (.bool true) x33) fun t34 =>
 joinK (fun (x39 : AV) =>
 optK (pickA (AV.strip (AV.strip t34)) (.bool true) x39) fun t40 =>
 ifK (AV.strip t40)
 (optK (lloadA T_socageref17_Gate y2 0) fun t41 =>
 optK (lstoreA T_socageref17_Gate (some [(.vs 1 [] .nil), (.vs 1 [] .nil), (.vs 1 [] .nil)]) 0 (AV.strip t41)) fun b4_2 =>
 optK ((lloadA T_socageref17_Gate (some b4_2) 0).map AV.strip) fun r4_2 =>
 Q (.tup [(AV.flat r4_2), (.bool false)]) S_3)
 (optK y2 fun _ =>
 optK (lloadA T_s_int y2 2) fun t43 =>
 callK Ca F_ref17_without [(AV.strip t43), (.int .i64 a1)] S_3 fun t45 S_4 =>
 optK y2 fun _ =>
 optK (lstoreA T_s_int y2 2 t45) fun b2_2 =>
 optK (some b2_2) fun _ =>
 optK (lstoreA T_s_int (some b2_2) 1 (.vs 1 [[(.int .i64 a1)]] .full)) fun b2_3 =>
 optK (lloadA T_socageref17_Gate (some b2_3) 0) fun t50 =>
 optK (lstoreA T_socageref17_Gate (some [(.vs 1 [] .nil), (.vs 1 [] .nil), (.vs 1 [] .nil)]) 0 (AV.strip t50)) fun b4_3 =>
 optK ((lloadA T_socageref17_Gate (some b4_3) 0).map AV.strip) fun r4_3 =>
 Q (.tup [(AV.flat r4_3), (.bool true)]) S_4)) fun j =>
 ifK (AV.strip (AV.strip t34))
 (j (.tup []))
 (optK y2 fun _ =>
 optK (lloadA T_s_int y2 1) fun t37 =>
 optK (lenSlA (AV.strip t37)) fun t38 =>
 optK (binA .gtr t38 (.int .i64 0)) fun t39 =>
 j t39)) fun j_2 =>
 ifK (AV.strip t28)
 (j_2 (.tup []))
 (optK y2 fun _ =>
 optK (lloadA T_s_int y2 0) fun t31 =>
 optK (lenSlA (AV.strip t31)) fun t32 =>
 optK (binA .gtr t32 (.int .i64 0)) fun t33 =>
 j_2 t33)) fun j_3 =>
 optK (some c2) fun _ =>
 optK (lloadA T_s_int (some c2) 2) fun t11 =>
 callK Ca F_ref17_has [(AV.strip t11), (.int .i64 a1)] S fun t13 S_2 =>
 optK (unA .not t13) fun t14 =>
 ifK t14
 (optK (some c2) fun _ =>
 optK (lloadA T_s_int (some c2) 2) fun t17 =>
 optK (appendA T_int S_2 (.vs 1 [] .full) (AV.strip t17)) fun t18 =>
 optK (appendA T_int S_2 t18 (.vs 1 [[(.int .i64 a1)]] .full)) fun t21 =>
 optK (some c2) fun _ =>
 optK (lstoreA T_s_int (some c2) 2 t21) fun b2 =>
 j_3 (some b2) S_2)
 (j_3 (some c2) S_2))
theorem ref17_Write_eq (Ca) (a0a : List (List AV)) (a0ar : Rt) (a0b : List (List AV)) (a0br : Rt) (a0c : List (List AV)) (a0cr : Rt) (a1 : Int) (S0 Q) : WF C Ca 14 (Drw C Ca 14) Try.f14 [(.agg [(.vs 1 a0a a0ar), (.vs 1 a0b a0br), (.vs 1 a0c a0cr)]), (.int .i64 a1)] S0 Q = G_ref17_Write Ca a0a a0ar a0b a0br a0c a0cr a1 S0 Q := by kernel_rfl
theorem ref17_Write_ok {w0 : World} {a0a : List (List AV)} {a0ar : Rt} {a0b : List (List AV)} {a0br : Rt} {a0c : List (List AV)} {a0cr : Rt} {a1 : Int} {S0 : St} {Q : AV → St → Prop} (h : G_ref17_Write (ACalls (En w0)) a0a a0ar a0b a0br a0c a0cr a1 S0 Q) : AC w0 F_ref17_Write [(.agg [(.vs 1 a0a a0ar), (.vs 1 a0b a0br), (.vs 1 a0c a0cr)]), (.int .i64 a1)] S0 Q := fn_ok w0 Try.func14 (by kernel_rfl) (by rw [ref17_Write_eq]; exact h)
def G_gate_Gate_Leave (Ca : Nat → List AV → St → (AV → St → Prop) → Prop) (a0 : Nat) (a0o : Nat) (a1 : Int) (S0 : St) (Q : AV → St → Prop) : Prop :=
 Ca F_gate_Gate_In [(.ptr a0 a0o), (.int .i64 a1)] S0 fun t7 S =>
 optK (unA .not t7) fun t8 =>
 ifK t8
 (Q (.bool false) S)
 (optK (loadA T_map_int_struct S (.ptr a0 (a0o + 0))) fun t12 =>
 optK (deleteA .int S (AV.strip t12) (.int .i64 a1)) fun S_2 =>
 joinK (fun (S_4 : St) =>
 Q (.bool true) S_4) fun j =>
 optK (loadA T_int S_2 (.ptr a0 (a0o + 1))) fun t17 =>
 optK (binA .eql (AV.strip t17) (.int .i64 (IntKind.i64.wrap (a1 + 1)))) fun t20 =>
 ifK t20
 (optK (storeA T_int S_2 (.ptr a0 (a0o + 1)) (.int .i64 0)) fun S_3 =>
 j S_3)
 (j S_2))
theorem gate_Gate_Leave_eq (Ca) (a0 : Nat) (a0o : Nat) (a1 : Int) (S0 Q) : WF C Ca 15 (Drw C Ca 15) Try.f15 [(.ptr a0 a0o), (.int .i64 a1)] S0 Q = G_gate_Gate_Leave Ca a0 a0o a1 S0 Q := by kernel_rfl
theorem gate_Gate_Leave_ok {w0 : World} {a0 : Nat} {a0o : Nat} {a1 : Int} {S0 : St} {Q : AV → St → Prop} (h : G_gate_Gate_Leave (ACalls (En w0)) a0 a0o a1 S0 Q) : AC w0 F_gate_Gate_Leave [(.ptr a0 a0o), (.int .i64 a1)] S0 Q := fn_ok w0 Try.func15 (by kernel_rfl) (by rw [gate_Gate_Leave_eq]; exact h)
def G_ref17_Leave (Ca : Nat → List AV → St → (AV → St → Prop) → Prop) (a0a : List (List AV)) (a0ar : Rt) (a0b : List (List AV)) (a0br : Rt) (a0c : List (List AV)) (a0cr : Rt) (a1 : Int) (S0 : St) (Q : AV → St → Prop) : Prop :=
 optK (boxA T_socageref17_Gate (.agg [(.vs 1 a0a a0ar), (.vs 1 a0b a0br), (.vs 1 a0c a0cr)])) fun c2 =>
 optK (lloadA T_socageref17_Gate (some c2) 0) fun t6 =>
 callK Ca F_ref17_In [(AV.strip t6), (.int .i64 a1)] S0 fun t8 S =>
 optK (unA .not t8) fun t9 =>
 ifK t9
 (optK (lloadA T_socageref17_Gate (some c2) 0) fun t10 =>
 optK (lstoreA T_socageref17_Gate (some [(.vs 1 [] .nil), (.vs 1 [] .nil), (.vs 1 [] .nil)]) 0 (AV.strip t10)) fun b4 =>
 optK ((lloadA T_socageref17_Gate (some b4) 0).map AV.strip) fun r4 =>
 Q (.tup [(AV.flat r4), (.bool false)]) S)
 (optK (some c2) fun _ =>
 optK (lloadA T_s_int (some c2) 0) fun t12 =>
 callK Ca F_ref17_without [(AV.strip t12), (.int .i64 a1)] S fun t14 S_2 =>
 optK (some c2) fun _ =>
 optK (lstoreA T_s_int (some c2) 0 t14) fun b2 =>
 optK (some b2) fun _ =>
 optK (lloadA T_s_int (some b2) 1) fun t17 =>
 callK Ca F_ref17_without [(AV.strip t17), (.int .i64 a1)] S_2 fun t19 S_3 =>
 optK (some b2) fun _ =>
 optK (lstoreA T_s_int (some b2) 1 t19) fun b2_2 =>
 optK (lloadA T_socageref17_Gate (some b2_2) 0) fun t21 =>
 optK (lstoreA T_socageref17_Gate (some [(.vs 1 [] .nil), (.vs 1 [] .nil), (.vs 1 [] .nil)]) 0 (AV.strip t21)) fun b4_2 =>
 optK ((lloadA T_socageref17_Gate (some b4_2) 0).map AV.strip) fun r4_2 =>
 Q (.tup [(AV.flat r4_2), (.bool true)]) S_3)
theorem ref17_Leave_eq (Ca) (a0a : List (List AV)) (a0ar : Rt) (a0b : List (List AV)) (a0br : Rt) (a0c : List (List AV)) (a0cr : Rt) (a1 : Int) (S0 Q) : WF C Ca 16 (Drw C Ca 16) Try.f16 [(.agg [(.vs 1 a0a a0ar), (.vs 1 a0b a0br), (.vs 1 a0c a0cr)]), (.int .i64 a1)] S0 Q = G_ref17_Leave Ca a0a a0ar a0b a0br a0c a0cr a1 S0 Q := by kernel_rfl
theorem ref17_Leave_ok {w0 : World} {a0a : List (List AV)} {a0ar : Rt} {a0b : List (List AV)} {a0br : Rt} {a0c : List (List AV)} {a0cr : Rt} {a1 : Int} {S0 : St} {Q : AV → St → Prop} (h : G_ref17_Leave (ACalls (En w0)) a0a a0ar a0b a0br a0c a0cr a1 S0 Q) : AC w0 F_ref17_Leave [(.agg [(.vs 1 a0a a0ar), (.vs 1 a0b a0br), (.vs 1 a0c a0cr)]), (.int .i64 a1)] S0 Q := fn_ok w0 Try.func16 (by kernel_rfl) (by rw [ref17_Leave_eq]; exact h)
def G_gate_Gate_Readers (Ca : Nat → List AV → St → (AV → St → Prop) → Prop) (a0 : Nat) (a0o : Nat) (S0 : St) (Q : AV → St → Prop) : Prop :=
 optK (loadA T_map_int_struct S0 (.ptr a0 (a0o + 0))) fun t6 =>
 optK (lenMapA S0 (AV.strip t6)) fun t7 =>
 Q t7 S0
theorem gate_Gate_Readers_eq (Ca) (a0 : Nat) (a0o : Nat) (S0 Q) : WF C Ca 17 (Drw C Ca 17) Try.f17 [(.ptr a0 a0o)] S0 Q = G_gate_Gate_Readers Ca a0 a0o S0 Q := by kernel_rfl
theorem gate_Gate_Readers_ok {w0 : World} {a0 : Nat} {a0o : Nat} {S0 : St} {Q : AV → St → Prop} (h : G_gate_Gate_Readers (ACalls (En w0)) a0 a0o S0 Q) : AC w0 F_gate_Gate_Readers [(.ptr a0 a0o)] S0 Q := fn_ok w0 Try.func17 (by kernel_rfl) (by rw [gate_Gate_Readers_eq]; exact h)
def G_gate_Gate_Writers (Ca : Nat → List AV → St → (AV → St → Prop) → Prop) (a0 : Nat) (a0o : Nat) (S0 : St) (Q : AV → St → Prop) : Prop :=
 optK (loadA T_int S0 (.ptr a0 (a0o + 1))) fun t6 =>
 optK (minA [(AV.strip t6), (.int .i64 1)]) fun t7 =>
 Q t7 S0
theorem gate_Gate_Writers_eq (Ca) (a0 : Nat) (a0o : Nat) (S0 Q) : WF C Ca 18 (Drw C Ca 18) Try.f18 [(.ptr a0 a0o)] S0 Q = G_gate_Gate_Writers Ca a0 a0o S0 Q := by kernel_rfl
theorem gate_Gate_Writers_ok {w0 : World} {a0 : Nat} {a0o : Nat} {S0 : St} {Q : AV → St → Prop} (h : G_gate_Gate_Writers (ACalls (En w0)) a0 a0o S0 Q) : AC w0 F_gate_Gate_Writers [(.ptr a0 a0o)] S0 Q := fn_ok w0 Try.func18 (by kernel_rfl) (by rw [gate_Gate_Writers_eq]; exact h)
def G_gate_Gate_Waiting (Ca : Nat → List AV → St → (AV → St → Prop) → Prop) (a0 : Nat) (a0o : Nat) (S0 : St) (Q : AV → St → Prop) : Prop :=
 optK (loadA T_s_int S0 (.ptr a0 (a0o + 2))) fun t6 =>
 optK (lenSlA (AV.strip t6)) fun t7 =>
 Q t7 S0
theorem gate_Gate_Waiting_eq (Ca) (a0 : Nat) (a0o : Nat) (S0 Q) : WF C Ca 19 (Drw C Ca 19) Try.f19 [(.ptr a0 a0o)] S0 Q = G_gate_Gate_Waiting Ca a0 a0o S0 Q := by kernel_rfl
theorem gate_Gate_Waiting_ok {w0 : World} {a0 : Nat} {a0o : Nat} {S0 : St} {Q : AV → St → Prop} (h : G_gate_Gate_Waiting (ACalls (En w0)) a0 a0o S0 Q) : AC w0 F_gate_Gate_Waiting [(.ptr a0 a0o)] S0 Q := fn_ok w0 Try.func19 (by kernel_rfl) (by rw [gate_Gate_Waiting_eq]; exact h)
def G_gate_Gate_In (Ca : Nat → List AV → St → (AV → St → Prop) → Prop) (a0 : Nat) (a0o : Nat) (a1 : Int) (S0 : St) (Q : AV → St → Prop) : Prop :=
 optK (loadA T_map_int_struct S0 (.ptr a0 (a0o + 0))) fun t11 =>
 optK (lookupA .int T_struct S0 (AV.strip t11) (.int .i64 a1)) fun p13 =>
 optK (extractA (stripTup (.tup [p13.1, .bool p13.2]) 0) 1) fun t15 =>
 optK (lstoreA T_struct (some []) 0 p13.1) fun b5 =>
 joinK (fun (x24 : AV) =>
 optK (pickA (AV.strip (AV.strip t15)) (.bool true) x24) fun t25 =>
 Q (AV.strip t25) S0) fun j =>
 ifK (AV.strip (AV.strip t15))
 (j (.tup []))
 (optK (loadA T_int S0 (.ptr a0 (a0o + 1))) fun t21 =>
 optK (binA .eql (AV.strip t21) (.int .i64 (IntKind.i64.wrap (a1 + 1)))) fun t24 =>
 j t24)
theorem gate_Gate_In_eq (Ca) (a0 : Nat) (a0o : Nat) (a1 : Int) (S0 Q) : WF C Ca 20 (Drw C Ca 20) Try.f20 [(.ptr a0 a0o), (.int .i64 a1)] S0 Q = G_gate_Gate_In Ca a0 a0o a1 S0 Q := by kernel_rfl
theorem gate_Gate_In_ok {w0 : World} {a0 : Nat} {a0o : Nat} {a1 : Int} {S0 : St} {Q : AV → St → Prop} (h : G_gate_Gate_In (ACalls (En w0)) a0 a0o a1 S0 Q) : AC w0 F_gate_Gate_In [(.ptr a0 a0o), (.int .i64 a1)] S0 Q := fn_ok w0 Try.func20 (by kernel_rfl) (by rw [gate_Gate_In_eq]; exact h)
def G_ref17_In (Ca : Nat → List AV → St → (AV → St → Prop) → Prop) (a0a : List (List AV)) (a0ar : Rt) (a0b : List (List AV)) (a0br : Rt) (a0c : List (List AV)) (a0cr : Rt) (a1 : Int) (S0 : St) (Q : AV → St → Prop) : Prop :=
 optK (boxA T_socageref17_Gate (.agg [(.vs 1 a0a a0ar), (.vs 1 a0b a0br), (.vs 1 a0c a0cr)])) fun c2 =>
 optK (some c2) fun _ =>
 optK (lloadA T_s_int (some c2) 0) fun t6 =>
 callK Ca F_ref17_has [(AV.strip t6), (.int .i64 a1)] S0 fun t8 S =>
 joinK (fun (x13 : AV) (S_3 : St) =>
 optK (pickA (AV.strip t8) (.bool true) x13) fun t14 =>
 Q (AV.strip t14) S_3) fun j =>
 ifK (AV.strip t8)
 (j (.tup []) S)
 (optK (some c2) fun _ =>
 optK (lloadA T_s_int (some c2) 1) fun t11 =>
 callK Ca F_ref17_has [(AV.strip t11), (.int .i64 a1)] S fun t13 S_2 =>
 j t13 S_2)
theorem ref17_In_eq (Ca) (a0a : List (List AV)) (a0ar : Rt) (a0b : List (List AV)) (a0br : Rt) (a0c : List (List AV)) (a0cr : Rt) (a1 : Int) (S0 Q) : WF C Ca 21 (Drw C Ca 21) Try.f21 [(.agg [(.vs 1 a0a a0ar), (.vs 1 a0b a0br), (.vs 1 a0c a0cr)]), (.int .i64 a1)] S0 Q = G_ref17_In Ca a0a a0ar a0b a0br a0c a0cr a1 S0 Q := by kernel_rfl
theorem ref17_In_ok {w0 : World} {a0a : List (List AV)} {a0ar : Rt} {a0b : List (List AV)} {a0br : Rt} {a0c : List (List AV)} {a0cr : Rt} {a1 : Int} {S0 : St} {Q : AV → St → Prop} (h : G_ref17_In (ACalls (En w0)) a0a a0ar a0b a0br a0c a0cr a1 S0 Q) : AC w0 F_ref17_In [(.agg [(.vs 1 a0a a0ar), (.vs 1 a0b a0br), (.vs 1 a0c a0cr)]), (.int .i64 a1)] S0 Q := fn_ok w0 Try.func21 (by kernel_rfl) (by rw [ref17_In_eq]; exact h)
def G_law09_speaks (Ca : Nat → List AV → St → (AV → St → Prop) → Prop) (S0 : St) (Q : AV → St → Prop) : Prop :=
 Ca F_heap_Merge [(.vs 1 [[(.vs 1 [[(.str [97])], [(.str [99])]] .full)], [(.vs 1 [[(.str [98])], [(.str [99])]] .full)]] .full)] S0 fun t5 S =>
 optK (lenSlA (AV.strip t5)) fun t7 =>
 optK (binA .eql t7 (.int .i64 4)) fun t8 =>
 joinK (fun (x14 : AV) =>
 optK (pickA (AV.strip t8) x14 (.bool false)) fun t15 =>
 joinK (fun (x21 : AV) =>
 optK (pickA (AV.strip (AV.strip t15)) x21 (.bool false)) fun t22 =>
 joinK (fun (x27 : AV) (S_3 : St) =>
 optK (pickA (AV.strip (AV.strip t22)) x27 (.bool false)) fun t28 =>
 Q (AV.strip t28) S_3) fun j =>
 ifK (AV.strip (AV.strip t22))
 (callK Ca F_heap_First [(AV.strip t5)] S fun t25 S_2 =>
 optK (lenSlA t25) fun t26 =>
 optK (binA .eql t26 (.int .i64 3)) fun t27 =>
 j t27 S_2)
 (j (.tup []) S)) fun j_2 =>
 ifK (AV.strip (AV.strip t15))
 (optK (idxSlA T_heap_Item (AV.strip t5) (.int .i64 3)) fun t18 =>
 optK (loadA T_heap_Item S t18) fun t19 =>
 optK (binE (.agg T_heap_Item.zero) .eql (AV.strip t19) (.agg [(.str [99]), (.int .i64 1)])) fun t21 =>
 j_2 t21)
 (j_2 (.tup []))) fun j_3 =>
 ifK (AV.strip t8)
 (optK (idxSlA T_heap_Item (AV.strip t5) (.int .i64 1)) fun t11 =>
 optK (loadA T_heap_Item S t11) fun t12 =>
 optK (binE (.agg T_heap_Item.zero) .eql (AV.strip t12) (.agg [(.str [98]), (.int .i64 1)])) fun t14 =>
 j_3 t14)
 (j_3 (.tup []))
theorem law09_speaks_eq (Ca) (S0 Q) : WF C Ca 22 (Drw C Ca 22) Try.f22 [] S0 Q = G_law09_speaks Ca  S0 Q := by kernel_rfl
theorem law09_speaks_ok {w0 : World} {S0 : St} {Q : AV → St → Prop} (h : G_law09_speaks (ACalls (En w0))  S0 Q) : AC w0 F_law09_speaks [] S0 Q := fn_ok w0 Try.func22 (by kernel_rfl) (by rw [law09_speaks_eq]; exact h)
def G_ref09_Rises (Ca : Nat → List AV → St → (AV → St → Prop) → Prop) (a0 : List (List AV)) (a0r : Rt) (S0 : St) (Q : AV → St → Prop) : Prop :=
 joinK (fun (S_3 : St) =>
 Q (.bool true) S_3) fun j =>
 loopQ ([(.int .i64 1)], []) (fun v bx => ([v 3], [])) (fun nx v bx S =>
 optK (binA .lss (AV.strip (v 3)) (.int .i64 (List.length a0 : Int))) fun t7 =>
 ifK t7
 (optK (binA .sub (AV.strip (v 3)) (.int .i64 1)) fun t12 =>
 optK (idxSlA T_string (.vs 1 a0 (Rt.strip a0r)) t12) fun t13 =>
 optK (loadA T_string S t13) fun t14 =>
 optK (idxSlA T_string (.vs 1 a0 (Rt.strip a0r)) (AV.strip (v 3))) fun t17 =>
 optK (loadA T_string S t17) fun t18 =>
 callK Ca F_ref01_Less [(AV.strip t14), (AV.strip t18)] S fun t19 S_2 =>
 optK (unA .not t19) fun t20 =>
 ifK t20
 (Q (.bool false) S_2)
 (optK (binA .add (AV.strip (v 3)) (.int .i64 1)) fun t9 =>
 nx ([t9], []) S_2))
 (j S)) S0
theorem ref09_Rises_eq (Ca) (a0 : List (List AV)) (a0r : Rt) (S0 Q) : WF C Ca 23 (Drw C Ca 23) Try.f23 [(.vs 1 a0 a0r)] S0 Q = G_ref09_Rises Ca a0 a0r S0 Q := by kernel_rfl
theorem ref09_Rises_ok {w0 : World} {a0 : List (List AV)} {a0r : Rt} {S0 : St} {Q : AV → St → Prop} (h : G_ref09_Rises (ACalls (En w0)) a0 a0r S0 Q) : AC w0 F_ref09_Rises [(.vs 1 a0 a0r)] S0 Q := fn_ok w0 Try.func23 (by kernel_rfl) (by rw [ref09_Rises_eq]; exact h)
def G_heap_Merge (Ca : Nat → List AV → St → (AV → St → Prop) → Prop) (a0 : List (List AV)) (a0r : Rt) (S0 : St) (Q : AV → St → Prop) : Prop :=
 optK (boxA T_heap_heads (.agg [(.vs 3 [] .nil), (.fn F_heap_Item_less [] [])])) fun c10 =>
 joinK (fun (x4_2 : AV) (S_4 : St) =>
 optK (ifaceA T_p_heap_heads t_p_heap_heads (.ptr S0.length 0)) fun t44 =>
 callK Ca F_cheap_Init [t44] S_4 fun t45 S_5 =>
 optK (makeSliceA T_heap_Item false S_5 (.int .i64 0) (AV.strip x4_2)) fun p47 =>
 joinK (fun (x7 : AV) (S_12 : St) =>
 Q (AV.strip x7) S_12) fun j_2 =>
 loopQ ([p47.1], []) (fun v_2 bx_2 => ([v_2 7], [])) (fun nx_2 v_2 bx_2 S_6 =>
 Ca F_heap_heads_Len [(.ptr S0.length 0)] S_6 fun t49 S_7 =>
 optK (binA .gtr t49 (.int .i64 0)) fun t50 =>
 ifK t50
 (optK (loadA T_s_heap_head S_7 (.ptr S0.length 0)) fun t54 =>
 optK (idxSlA T_heap_head (AV.strip t54) (.int .i64 0)) fun t55 =>
 optK (nilA (AV.strip t55)) fun t58 =>
 optK (movePtr t58 0) fun t59 =>
 optK (loadA T_heap_Item S_7 t59) fun t60 =>
 optK (elemVals 2 [(AV.strip t60)]) fun e61 =>
 optK (appendA T_heap_Item S_7 (v_2 7) (.vs 2 e61 .full)) fun t62 =>
 optK (nilA (AV.strip t55)) fun t64 =>
 optK (movePtr t64 2) fun t65 =>
 optK (loadA T_s_string S_7 t65) fun t66 =>
 optK (lenSlA (AV.strip t66)) fun t67 =>
 optK (binA .eql t67 (.int .i64 0)) fun t68 =>
 ifK t68
 (optK (ifaceA T_p_heap_heads t_p_heap_heads (.ptr S0.length 0)) fun t70 =>
 callK Ca F_cheap_Pop [t70] S_7 fun t71 S_8 =>
 nx_2 ([t62], []) S_8)
 (optK (nilA (AV.strip t55)) fun t75 =>
 optK (movePtr t75 2) fun t76 =>
 optK (loadA T_s_string S_7 t76) fun t77 =>
 optK (idxSlA T_string (AV.strip t77) (.int .i64 0)) fun t78 =>
 optK (loadA T_string S_7 t78) fun t79 =>
 optK (nilA (AV.strip t55)) fun t81 =>
 optK (movePtr t81 2) fun t82 =>
 optK (loadA T_s_string S_7 t82) fun t83 =>
 optK (nilA (AV.strip t55)) fun t85 =>
 optK (movePtr t85 0) fun t86 =>
 optK (movePtr t86 0) fun t87 =>
 optK (cutA T_string (AV.strip t83) (some (.int .i64 1)) none none) fun t84 =>
 optK (storeA T_string S_7 t87 (AV.strip t79)) fun S_9 =>
 optK (nilA (AV.strip t55)) fun t88 =>
 optK (movePtr t88 2) fun t89 =>
 optK (storeA T_s_string S_9 t89 t84) fun S_10 =>
 optK (ifaceA T_p_heap_heads t_p_heap_heads (.ptr S0.length 0)) fun t91 =>
 callK Ca F_cheap_Fix [t91, (.int .i64 0)] S_10 fun t92 S_11 =>
 nx_2 ([t62], []) S_11))
 (j_2 (v_2 7) S_7)) p47.2) fun j_3 =>
 loopQ ([(.int .i64 0), (.int .i64 0)], []) (fun v bx => ([v 4, v 13], [])) (fun nx v bx S =>
 optK (binA .lss (v 13) (.int .i64 (List.length a0 : Int))) fun t14 =>
 ifK t14
 (joinK (fun (x4 : AV) (S_3 : St) =>
 optK (binA .add (v 13) (.int .i64 1)) fun t42 =>
 nx ([x4, (AV.strip t42)], []) S_3) fun j =>
 optK (idxSlA T_s_string (.vs 1 a0 (Rt.strip a0r)) (v 13)) fun t16 =>
 optK (loadA T_s_string S t16) fun t17 =>
 optK (lenSlA (AV.strip (AV.strip t17))) fun t20 =>
 optK (binA .add (AV.strip (v 4)) t20) fun t21 =>
 optK (lenSlA (AV.strip (AV.strip t17))) fun t23 =>
 optK (binA .gtr t23 (.int .i64 0)) fun t24 =>
 ifK t24
 (optK (idxSlA T_string (AV.strip (AV.strip t17)) (.int .i64 0)) fun t31 =>
 optK (loadA T_string S t31) fun t32 =>
 optK (buildA T_heap_Item 1 [(0, (AV.strip t32)), (1, (AV.strip (AV.strip (v 13))))]) fun t34 =>
 optK (cutA T_string (AV.strip (AV.strip t17)) (some (.int .i64 1)) none none) fun t36 =>
 optK (buildA T_heap_head 1 [(0, t34), (1, t36)]) fun t37 =>
 optK (elemVals 3 [t37]) fun e38 =>
 optK (loadA T_s_heap_head S (.ptr S0.length 0)) fun t29 =>
 (optK (loadA T_string (stripMem S (.ptr S0.length 0)) t31) fun t32_2 =>
 (AV.strip t32_2) = (AV.strip t32)) ∧
 (optK (appendR T_heap_head (stripMem S (.ptr S0.length 0)) (AV.strip0 t29) (.vs 3 e38 .full)) fun p39 =>
 optK (storeA T_s_heap_head p39.2 (.ptr S0.length 0) p39.1) fun S_2 =>
 j t21 S_2))
 (j t21 S))
 (j_3 (v 4) S)) (S0 ++ [.cells c10 t_heap_heads])
theorem heap_Merge_eq (Ca) (a0 : List (List AV)) (a0r : Rt) (S0 Q) : WF C Ca 24 (Drw C Ca 24) Try.f24 [(.vs 1 a0 a0r)] S0 Q = G_heap_Merge Ca a0 a0r S0 Q := by kernel_rfl
theorem heap_Merge_ok {w0 : World} {a0 : List (List AV)} {a0r : Rt} {S0 : St} {Q : AV → St → Prop} (h : G_heap_Merge (ACalls (En w0)) a0 a0r S0 Q) : AC w0 F_heap_Merge [(.vs 1 a0 a0r)] S0 Q := fn_ok w0 Try.func24 (by kernel_rfl) (by rw [heap_Merge_eq]; exact h)
def G_ref09_Merge (Ca : Nat → List AV → St → (AV → St → Prop) → Prop) (a0 : List (List AV)) (a0r : Rt) (S0 : St) (Q : AV → St → Prop) : Prop :=
 optK (makeSliceA T_int false S0 (.int .i64 (List.length a0 : Int)) (.int .i64 (List.length a0 : Int))) fun p9 =>
 loopQ ([(.vs 2 [] .full)], []) (fun v bx => ([v 4], [])) (fun nx v bx S =>
 joinK (fun (x5_2 : AV) (S_7 : St) =>
 optK (binA .lss (AV.strip x5_2) (.int .i64 0)) fun t56 =>
 ifK t56
 (Q (AV.strip (v 4)) S_7)
 (optK (idxSlA T_s_string (.vs 1 a0 (Rt.strip a0r)) (AV.strip x5_2)) fun t61 =>
 optK (loadA T_s_string S_7 t61) fun t62 =>
 optK (idxSlA T_int (AV.strip p9.1) (AV.strip x5_2)) fun t65 =>
 optK (loadA T_int S_7 t65) fun t66 =>
 optK (idxSlA T_string (AV.strip t62) (AV.strip t66)) fun t67 =>
 optK (loadA T_string S_7 t67) fun t68 =>
 optK (buildA T_socageref09_Item 1 [(0, (AV.strip t68)), (1, (AV.strip x5_2))]) fun t70 =>
 optK (elemVals 2 [t70]) fun e71 =>
 optK (appendA T_socageref09_Item S_7 (v 4) (.vs 2 e71 .full)) fun t72 =>
 optK (idxSlA T_int (AV.strip p9.1) (AV.strip x5_2)) fun t77 =>
 optK (loadA T_int S_7 t77) fun t78 =>
 optK (binA .add (AV.strip t78) (.int .i64 1)) fun t79 =>
 optK (idxSlA T_int (AV.strip p9.1) (AV.strip x5_2)) fun t80 =>
 optK (storeA T_int S_7 t80 t79) fun S_8 =>
 nx ([t72], []) S_8)) fun j_4 =>
 loopQ ([(.int .i64 (-1)), (.int .i64 0)], []) (fun v_2 bx_2 => ([v_2 5, v_2 6], [])) (fun nx_2 v_2 bx_2 S_2 =>
 optK (binA .lss (AV.strip (v_2 6)) (.int .i64 (List.length a0 : Int))) fun t14 =>
 ifK t14
 (joinK (fun (x5 : AV) (S_6 : St) =>
 optK (binA .add (AV.strip (v_2 6)) (.int .i64 1)) fun t16 =>
 nx_2 ([x5, t16], []) S_6) fun j_3 =>
 optK (idxSlA T_int (AV.strip p9.1) (AV.strip (v_2 6))) fun t19 =>
 optK (loadA T_int S_2 t19) fun t20 =>
 optK (idxSlA T_s_string (.vs 1 a0 (Rt.strip a0r)) (AV.strip (v_2 6))) fun t23 =>
 optK (loadA T_s_string S_2 t23) fun t24 =>
 optK (lenSlA (AV.strip t24)) fun t25 =>
 optK (binA .lss (AV.strip t20) t25) fun t26 =>
 joinK (fun (x52 : AV) (S_5 : St) =>
 optK (pickA (AV.strip t26) x52 (.bool false)) fun t53 =>
 ifK (AV.strip t53)
 (j_3 (AV.strip (v_2 6)) S_5)
 (j_3 (v_2 5) S_5)) fun j_2 =>
 ifK (AV.strip t26)
 (optK (binA .lss (AV.strip (v_2 5)) (.int .i64 0)) fun t29 =>
 joinK (fun (x51 : AV) (S_4 : St) =>
 optK (pickA (AV.strip t29) (.bool true) x51) fun t52 =>
 j_2 (AV.strip t52) S_4) fun j =>
 gK (AV.strip t29)
 (j (.tup []) S_2)
 (optK (idxSlA T_s_string (.vs 1 a0 (Rt.strip a0r)) (AV.strip (v_2 6))) fun t33 =>
 optK (loadA T_s_string S_2 t33) fun t34 =>
 optK (idxSlA T_int (AV.strip p9.1) (AV.strip (v_2 6))) fun t37 =>
 optK (loadA T_int S_2 t37) fun t38 =>
 optK (idxSlA T_string (AV.strip t34) (AV.strip t38)) fun t39 =>
 optK (loadA T_string S_2 t39) fun t40 =>
 optK (idxSlA T_s_string (.vs 1 a0 (Rt.strip a0r)) (AV.strip (v_2 5))) fun t43 =>
 optK (loadA T_s_string S_2 t43) fun t44 =>
 optK (idxSlA T_int (AV.strip p9.1) (AV.strip (v_2 5))) fun t47 =>
 optK (loadA T_int S_2 t47) fun t48 =>
 optK (idxSlA T_string (AV.strip t44) (AV.strip t48)) fun t49 =>
 optK (loadA T_string S_2 t49) fun t50 =>
 callK Ca F_ref01_Less [(AV.strip t40), (AV.strip t50)] S_2 fun t51 S_3 =>
 j t51 S_3)
 (j (.tup []) S_2))
 (j_2 (.tup []) S_2))
 (j_4 (v_2 5) S_2)) S) p9.2
theorem ref09_Merge_eq (Ca) (a0 : List (List AV)) (a0r : Rt) (S0 Q) : WF C Ca 25 (Drw C Ca 25) Try.f25 [(.vs 1 a0 a0r)] S0 Q = G_ref09_Merge Ca a0 a0r S0 Q := by kernel_rfl
theorem ref09_Merge_ok {w0 : World} {a0 : List (List AV)} {a0r : Rt} {S0 : St} {Q : AV → St → Prop} (h : G_ref09_Merge (ACalls (En w0)) a0 a0r S0 Q) : AC w0 F_ref09_Merge [(.vs 1 a0 a0r)] S0 Q := fn_ok w0 Try.func25 (by kernel_rfl) (by rw [ref09_Merge_eq]; exact h)
def G_heap_First (Ca : Nat → List AV → St → (AV → St → Prop) → Prop) (a0 : List (List AV)) (a0r : Rt) (S0 : St) (Q : AV → St → Prop) : Prop :=
 joinK (fun (x3_2 : AV) (S_2 : St) =>
 Q (AV.strip x3_2) S_2) fun j_3 =>
 loopQ ([(.vs 2 [] .nil), (.int .i64 0)], []) (fun v bx => ([v 3, v 8], [])) (fun nx v bx S =>
 optK (binA .lss (v 8) (.int .i64 (List.length a0 : Int))) fun t9 =>
 ifK t9
 (joinK (fun (x3 : AV) =>
 optK (binA .add (v 8) (.int .i64 1)) fun t30 =>
 nx ([x3, (AV.strip t30)], []) S) fun j_2 =>
 optK (idxSlA T_heap_Item (.vs 2 a0 (Rt.strip a0r)) (v 8)) fun t11 =>
 optK (loadA T_heap_Item S t11) fun t12 =>
 optK (lstoreA T_heap_Item (some [(.str []), (.int .i64 0)]) 0 (AV.strip t12)) fun b5 =>
 optK (binA .eql (AV.strip (AV.strip (v 8))) (.int .i64 0)) fun t14 =>
 joinK (fun (x24 : AV) =>
 optK (pickA (AV.strip t14) (.bool true) x24) fun t25 =>
 ifK (AV.strip t25)
 (optK (lloadA T_heap_Item (some b5) 0) fun t27 =>
 optK (elemVals 2 [(AV.strip t27)]) fun e28 =>
 optK (appendA T_heap_Item S (v 3) (.vs 2 e28 .full)) fun t29 =>
 j_2 t29)
 (j_2 (v 3))) fun j =>
 ifK (AV.strip t14)
 (j (.tup []))
 (optK (binA .sub (AV.strip (AV.strip (v 8))) (.int .i64 1)) fun t18 =>
 optK (idxSlA T_heap_Item (.vs 2 a0 (Rt.strip a0r)) t18) fun t19 =>
 optK (movePtr t19 0) fun t20 =>
 optK (loadA T_string S t20) fun t21 =>
 optK (some b5) fun _ =>
 optK (lloadA T_string (some b5) 0) fun t23 =>
 optK (binA .neq (AV.strip t21) (AV.strip t23)) fun t24 =>
 j t24))
 (j_3 (v 3) S)) S0
theorem heap_First_eq (Ca) (a0 : List (List AV)) (a0r : Rt) (S0 Q) : WF C Ca 26 (Drw C Ca 26) Try.f26 [(.vs 2 a0 a0r)] S0 Q = G_heap_First Ca a0 a0r S0 Q := by kernel_rfl
theorem heap_First_ok {w0 : World} {a0 : List (List AV)} {a0r : Rt} {S0 : St} {Q : AV → St → Prop} (h : G_heap_First (ACalls (En w0)) a0 a0r S0 Q) : AC w0 F_heap_First [(.vs 2 a0 a0r)] S0 Q := fn_ok w0 Try.func26 (by kernel_rfl) (by rw [heap_First_eq]; exact h)
def G_law09_HeapParts_1 (Ca : Nat → List AV → St → (AV → St → Prop) → Prop) (a0 : List (List AV)) (a0r : Rt) (S0 : St) (Q : AV → St → Prop) : Prop :=
 joinK (fun (x3 : AV) (S_3 : St) =>
 Q (AV.strip x3) S_3) fun j =>
 Ca F_heap_First [(.vs 2 a0 (Rt.strip (Rt.strip a0r)))] S0 fun t7 S =>
 optK (lenSlA t7) fun t8 =>
 loopQ ([(.vs 1 [] .nil), (.int .i64 0)], []) (fun v bx => ([v 3, v 9], [])) (fun nx v bx S_2 =>
 optK (binA .lss (v 9) t8) fun t10 =>
 ifK t10
 (optK (idxSlA T_heap_Item t7 (v 9)) fun t11 =>
 optK (loadA T_heap_Item S_2 t11) fun t12 =>
 optK (lstoreA T_heap_Item (some [(.str []), (.int .i64 0)]) 0 (AV.strip t12)) fun b5 =>
 optK (some b5) fun _ =>
 optK (lloadA T_string (some b5) 0) fun t15 =>
 optK (elemVals 1 [(AV.strip t15)]) fun e16 =>
 optK (appendA T_string S_2 (v 3) (.vs 1 e16 .full)) fun t17 =>
 optK (binA .add (v 9) (.int .i64 1)) fun t18 =>
 nx ([t17, (AV.strip t18)], []) S_2)
 (j (v 3) S_2)) S
theorem law09_HeapParts_1_eq (Ca) (a0 : List (List AV)) (a0r : Rt) (S0 Q) : WF C Ca 27 (Drw C Ca 27) Try.f27 [(.vs 2 a0 a0r)] S0 Q = G_law09_HeapParts_1 Ca a0 a0r S0 Q := by kernel_rfl
theorem law09_HeapParts_1_ok {w0 : World} {a0 : List (List AV)} {a0r : Rt} {S0 : St} {Q : AV → St → Prop} (h : G_law09_HeapParts_1 (ACalls (En w0)) a0 a0r S0 Q) : AC w0 F_law09_HeapParts_1 [(.vs 2 a0 a0r)] S0 Q := fn_ok w0 Try.func27 (by kernel_rfl) (by rw [law09_HeapParts_1_eq]; exact h)
def G_law03_speaks (Ca : Nat → List AV → St → (AV → St → Prop) → Prop) (S0 : St) (Q : AV → St → Prop) : Prop :=
 Ca F_extent_Right [(.int .i64 6), (.vs 2 [[(.int .i64 1), (.str [98])]] .full)] S0 fun t5 S =>
 joinK (fun (x9 : AV) (S_3 : St) =>
 optK (pickA (AV.strip t5) x9 (.bool false)) fun t10 =>
 joinK (fun (x14 : AV) (S_5 : St) =>
 optK (pickA (AV.strip (AV.strip t10)) x14 (.bool false)) fun t15 =>
 joinK (fun (x19 : AV) (S_7 : St) =>
 optK (pickA (AV.strip (AV.strip t15)) x19 (.bool false)) fun t20 =>
 Q (AV.strip t20) S_7) fun j =>
 ifK (AV.strip (AV.strip t15))
 (Ca F_extent_Of [(.str [0, 98, 0])] S_5 fun t17 S_6 =>
 optK (lenSlA t17) fun t18 =>
 optK (binA .eql t18 (.int .i64 1)) fun t19 =>
 j t19 S_6)
 (j (.tup []) S_5)) fun j_2 =>
 ifK (AV.strip (AV.strip t10))
 (Ca F_extent_Read [(.int .i64 6), (.vs 2 [[(.int .i64 1), (.str [98])]] .full), (.int .i64 0), (.int .i64 9)] S_3 fun t13 S_4 =>
 optK (binA .eql t13 (.str [0, 98, 0, 0, 0, 0])) fun t14 =>
 j_2 t14 S_4)
 (j_2 (.tup []) S_3)) fun j_3 =>
 ifK (AV.strip t5)
 (Ca F_extent_Right [(.int .i64 1), (.vs 2 [[(.int .i64 1), (.str [98])]] .full)] S fun t8 S_2 =>
 optK (unA .not t8) fun t9 =>
 j_3 t9 S_2)
 (j_3 (.tup []) S)
theorem law03_speaks_eq (Ca) (S0 Q) : WF C Ca 28 (Drw C Ca 28) Try.f28 [] S0 Q = G_law03_speaks Ca  S0 Q := by kernel_rfl
theorem law03_speaks_ok {w0 : World} {S0 : St} {Q : AV → St → Prop} (h : G_law03_speaks (ACalls (En w0))  S0 Q) : AC w0 F_law03_speaks [] S0 Q := fn_ok w0 Try.func28 (by kernel_rfl) (by rw [law03_speaks_eq]; exact h)
def G_law03_big (Ca : Nat → List AV → St → (AV → St → Prop) → Prop) (a0 : List (List AV)) (a0r : Rt) (S0 : St) (Q : AV → St → Prop) : Prop :=
 joinK (fun (S_2 : St) =>
 Q (.bool false) S_2) fun j =>
 loopQ ([(.int .i64 0), (.int .i64 0)], []) (fun v bx => ([v 3, v 8], [])) (fun nx v bx S =>
 optK (binA .lss (v 8) (.int .i64 (List.length a0 : Int))) fun t9 =>
 ifK t9
 (optK (idxSlA T_api_Extent (.vs 2 a0 (Rt.strip a0r)) (v 8)) fun t10 =>
 optK (loadA T_api_Extent S t10) fun t11 =>
 optK (lstoreA T_api_Extent (some [(.int .i64 0), (.str [])]) 0 (AV.strip t11)) fun b5 =>
 optK (some b5) fun _ =>
 optK (lloadA T_string (some b5) 1) fun t14 =>
 optK (lenStrA (AV.strip t14)) fun t15 =>
 optK (binA .add t15 (.int .i64 1)) fun t16 =>
 optK (binA .add (AV.strip (v 3)) t16) fun t17 =>
 optK (binA .gtr (AV.strip t17) (.int .i64 500)) fun t19 =>
 ifK t19
 (Q (.bool true) S)
 (optK (binA .add (v 8) (.int .i64 1)) fun t20 =>
 nx ([t17, (AV.strip t20)], []) S))
 (j S)) S0
theorem law03_big_eq (Ca) (a0 : List (List AV)) (a0r : Rt) (S0 Q) : WF C Ca 29 (Drw C Ca 29) Try.f29 [(.vs 2 a0 a0r)] S0 Q = G_law03_big Ca a0 a0r S0 Q := by kernel_rfl
theorem law03_big_ok {w0 : World} {a0 : List (List AV)} {a0r : Rt} {S0 : St} {Q : AV → St → Prop} (h : G_law03_big (ACalls (En w0)) a0 a0r S0 Q) : AC w0 F_law03_big [(.vs 2 a0 a0r)] S0 Q := fn_ok w0 Try.func29 (by kernel_rfl) (by rw [law03_big_eq]; exact h)
def G_extent_Right (Ca : Nat → List AV → St → (AV → St → Prop) → Prop) (a0 : Int) (a1 : List (List AV)) (a1r : Rt) (S0 : St) (Q : AV → St → Prop) : Prop :=
 joinK (fun (S_2 : St) =>
 joinK (fun (x44 : AV) =>
 optK (pickA (.bool (decide (a0 ≥ 0))) x44 (.bool false)) fun t45 =>
 Q (AV.strip t45) S_2) fun j_3 =>
 ifK (.bool (decide (a0 ≥ 0)))
 (j_3 (.bool (decide (a0 ≤ 1048576))))
 (j_3 (.tup []))) fun j_4 =>
 loopQ ([(.int .i64 0), (.int .i64 0)], []) (fun v bx => ([v 5, v 10], [])) (fun nx v bx S =>
 optK (binA .lss (v 10) (.int .i64 (List.length a1 : Int))) fun t11 =>
 ifK t11
 (optK (idxSlA T_api_Extent (.vs 2 a1 (Rt.strip a1r)) (v 10)) fun t12 =>
 optK (loadA T_api_Extent S t12) fun t13 =>
 optK (lstoreA T_api_Extent (some [(.int .i64 0), (.str [])]) 0 (AV.strip t13)) fun b7 =>
 optK (some b7) fun _ =>
 optK (lloadA T_int (some b7) 0) fun t15 =>
 optK (binA .lss (AV.strip t15) (AV.strip (v 5))) fun t17 =>
 joinK (fun (x21 : AV) =>
 optK (pickA (AV.strip t17) (.bool true) x21) fun t22 =>
 joinK (fun (x31 : AV) =>
 optK (pickA (AV.strip (AV.strip t22)) (.bool true) x31) fun t32 =>
 ifK (AV.strip t32)
 (Q (.bool false) S)
 (optK (some b7) fun _ =>
 optK (lloadA T_int (some b7) 0) fun t34 =>
 optK (some b7) fun _ =>
 optK (lloadA T_string (some b7) 1) fun t36 =>
 optK (lenStrA (AV.strip t36)) fun t37 =>
 optK (binA .add (AV.strip t34) t37) fun t38 =>
 optK (binA .add (v 10) (.int .i64 1)) fun t39 =>
 nx ([t38, (AV.strip t39)], []) S)) fun j =>
 ifK (AV.strip (AV.strip t22))
 (j (.tup []))
 (optK (some b7) fun _ =>
 optK (lloadA T_string (some b7) 1) fun t25 =>
 optK (lenStrA (AV.strip t25)) fun t26 =>
 optK (some b7) fun _ =>
 optK (lloadA T_int (some b7) 0) fun t29 =>
 optK (binA .sub (.int .i64 a0) (AV.strip t29)) fun t30 =>
 optK (binA .gtr t26 t30) fun t31 =>
 j t31)) fun j_2 =>
 ifK (AV.strip t17)
 (j_2 (.tup []))
 (optK (some b7) fun _ =>
 optK (lloadA T_string (some b7) 1) fun t20 =>
 optK (binA .eql (AV.strip t20) (.str [])) fun t21 =>
 j_2 t21))
 (j_4 S)) S0
theorem extent_Right_eq (Ca) (a0 : Int) (a1 : List (List AV)) (a1r : Rt) (S0 Q) : WF C Ca 30 (Drw C Ca 30) Try.f30 [(.int .i64 a0), (.vs 2 a1 a1r)] S0 Q = G_extent_Right Ca a0 a1 a1r S0 Q := by kernel_rfl
theorem extent_Right_ok {w0 : World} {a0 : Int} {a1 : List (List AV)} {a1r : Rt} {S0 : St} {Q : AV → St → Prop} (h : G_extent_Right (ACalls (En w0)) a0 a1 a1r S0 Q) : AC w0 F_extent_Right [(.int .i64 a0), (.vs 2 a1 a1r)] S0 Q := fn_ok w0 Try.func30 (by kernel_rfl) (by rw [extent_Right_eq]; exact h)
def G_ref03_Right (Ca : Nat → List AV → St → (AV → St → Prop) → Prop) (a0 : Int) (a1 : List (List AV)) (a1r : Rt) (S0 : St) (Q : AV → St → Prop) : Prop :=
 joinK (fun (x10 : AV) =>
 optK (pickA (.bool (decide (a0 < 0))) (.bool true) x10) fun t11 =>
 ifK (AV.strip t11)
 (Q (.bool false) S0)
 (joinK (fun (S_2 : St) =>
 Q (.bool true) S_2) fun j_6 =>
 loopQ ([(.int .i64 0)], []) (fun v bx => ([v 5], [])) (fun nx v bx S =>
 optK (binA .lss (AV.strip (v 5)) (.int .i64 (List.length a1 : Int))) fun t15 =>
 ifK t15
 (optK (idxSlA T_api_Extent (.vs 2 a1 (Rt.strip a1r)) (AV.strip (v 5))) fun t20 =>
 optK (movePtr t20 0) fun t21 =>
 optK (loadA T_int S t21) fun t22 =>
 optK (binA .lss (AV.strip t22) (.int .i64 0)) fun t23 =>
 joinK (fun (x31 : AV) =>
 optK (pickA (AV.strip t23) (.bool true) x31) fun t32 =>
 joinK (fun (x40 : AV) =>
 optK (pickA (AV.strip (AV.strip t32)) (.bool true) x40) fun t41 =>
 joinK (fun (x56 : AV) =>
 optK (pickA (AV.strip (AV.strip t41)) (.bool true) x56) fun t57 =>
 ifK (AV.strip t57)
 (Q (.bool false) S)
 (optK (binA .gtr (AV.strip (v 5)) (.int .i64 0)) fun t59 =>
 joinK (fun (x80 : AV) =>
 optK (pickA (AV.strip t59) x80 (.bool false)) fun t81 =>
 ifK (AV.strip t81)
 (Q (.bool false) S)
 (optK (binA .add (AV.strip (v 5)) (.int .i64 1)) fun t17 =>
 nx ([t17], []) S)) fun j_5 =>
 ifK (AV.strip t59)
 (optK (idxSlA T_api_Extent (.vs 2 a1 (Rt.strip a1r)) (AV.strip (v 5))) fun t63 =>
 optK (movePtr t63 0) fun t64 =>
 optK (loadA T_int S t64) fun t65 =>
 optK (binA .sub (AV.strip (v 5)) (.int .i64 1)) fun t68 =>
 optK (idxSlA T_api_Extent (.vs 2 a1 (Rt.strip a1r)) t68) fun t69 =>
 optK (movePtr t69 0) fun t70 =>
 optK (loadA T_int S t70) fun t71 =>
 optK (binA .sub (AV.strip (v 5)) (.int .i64 1)) fun t74 =>
 optK (idxSlA T_api_Extent (.vs 2 a1 (Rt.strip a1r)) t74) fun t75 =>
 optK (movePtr t75 1) fun t76 =>
 optK (loadA T_string S t76) fun t77 =>
 optK (lenStrA (AV.strip t77)) fun t78 =>
 optK (binA .add (AV.strip t71) t78) fun t79 =>
 optK (binA .lss (AV.strip t65) t79) fun t80 =>
 j_5 t80)
 (j_5 (.tup [])))) fun j_2 =>
 ifK (AV.strip (AV.strip t41))
 (j_2 (.tup []))
 (optK (idxSlA T_api_Extent (.vs 2 a1 (Rt.strip a1r)) (AV.strip (v 5))) fun t45 =>
 optK (movePtr t45 0) fun t46 =>
 optK (loadA T_int S t46) fun t47 =>
 optK (idxSlA T_api_Extent (.vs 2 a1 (Rt.strip a1r)) (AV.strip (v 5))) fun t50 =>
 optK (movePtr t50 1) fun t51 =>
 optK (loadA T_string S t51) fun t52 =>
 optK (lenStrA (AV.strip t52)) fun t53 =>
 optK (binA .add (AV.strip t47) t53) fun t54 =>
 optK (binA .gtr t54 (.int .i64 a0)) fun t56 =>
 j_2 t56)) fun j_3 =>
 ifK (AV.strip (AV.strip t32))
 (j_3 (.tup []))
 (optK (idxSlA T_api_Extent (.vs 2 a1 (Rt.strip a1r)) (AV.strip (v 5))) fun t36 =>
 optK (movePtr t36 1) fun t37 =>
 optK (loadA T_string S t37) fun t38 =>
 optK (lenStrA (AV.strip t38)) fun t39 =>
 optK (binA .lss t39 (.int .i64 1)) fun t40 =>
 j_3 t40)) fun j_4 =>
 ifK (AV.strip t23)
 (j_4 (.tup []))
 (optK (idxSlA T_api_Extent (.vs 2 a1 (Rt.strip a1r)) (AV.strip (v 5))) fun t27 =>
 optK (movePtr t27 0) fun t28 =>
 optK (loadA T_int S t28) fun t29 =>
 optK (binA .gtr (AV.strip t29) (.int .i64 a0)) fun t31 =>
 j_4 t31))
 (j_6 S)) S0)) fun j =>
 ifK (.bool (decide (a0 < 0)))
 (j (.tup []))
 (j (.bool (decide (a0 > 1048576))))
theorem ref03_Right_eq (Ca) (a0 : Int) (a1 : List (List AV)) (a1r : Rt) (S0 Q) : WF C Ca 31 (Drw C Ca 31) Try.f31 [(.int .i64 a0), (.vs 2 a1 a1r)] S0 Q = G_ref03_Right Ca a0 a1 a1r S0 Q := by kernel_rfl
theorem ref03_Right_ok {w0 : World} {a0 : Int} {a1 : List (List AV)} {a1r : Rt} {S0 : St} {Q : AV → St → Prop} (h : G_ref03_Right (ACalls (En w0)) a0 a1 a1r S0 Q) : AC w0 F_ref03_Right [(.int .i64 a0), (.vs 2 a1 a1r)] S0 Q := fn_ok w0 Try.func31 (by kernel_rfl) (by rw [ref03_Right_eq]; exact h)
def G_extent_Read (Ca : Nat → List AV → St → (AV → St → Prop) → Prop) (a0 : Int) (a1 : List (List AV)) (a1r : Rt) (a2 : Int) (a3 : Int) (S0 : St) (Q : AV → St → Prop) : Prop :=
 joinK (fun (x19 : AV) =>
 optK (pickA (.bool (decide (a2 < 0))) (.bool true) x19) fun t20 =>
 joinK (fun (x23 : AV) =>
 optK (pickA (AV.strip (AV.strip t20)) (.bool true) x23) fun t24 =>
 ifK (AV.strip t24)
 (Q (.str []) S0)
 (joinK (fun (S_8 : St) =>
 Ca F_strings_Builder_Len [(.ptr S0.length 0)] S_8 fun t76 S_9 =>
 optK (binA .sub (.int .i64 (if (IntKind.i64.wrap (a0 - a2)) < a3 then (IntKind.i64.wrap (a0 - a2)) else a3)) t76) fun t77 =>
 callK Ca F_strings_Repeat [(.str [0]), t77] S_9 fun t78 S_10 =>
 callK Ca F_strings_Builder_WriteString [(.ptr S0.length 0), t78] S_10 fun t79 S_11 =>
 Ca F_strings_Builder_String [(.ptr S0.length 0)] S_11 fun t80 S_12 =>
 Q t80 S_12) fun j_4 =>
 loopQ ([(.int .i64 0)], []) (fun v bx => ([v 32], [])) (fun nx v bx S =>
 optK (binA .lss (v 32) (.int .i64 (List.length a1 : Int))) fun t33 =>
 ifK t33
 (joinK (fun (S_7 : St) =>
 optK (binA .add (v 32) (.int .i64 1)) fun t74 =>
 nx ([(AV.strip t74)], []) S_7) fun j_3 =>
 optK (idxSlA T_api_Extent (.vs 2 a1 (Rt.strip a1r)) (v 32)) fun t34 =>
 optK (loadA T_api_Extent S t34) fun t35 =>
 optK (lstoreA T_api_Extent (some [(.int .i64 0), (.str [])]) 0 (AV.strip t35)) fun b11 =>
 optK (some b11) fun _ =>
 optK (lloadA T_int (some b11) 0) fun t37 =>
 optK (some b11) fun _ =>
 optK (lloadA T_int (some b11) 0) fun t43 =>
 optK (some b11) fun _ =>
 optK (lloadA T_string (some b11) 1) fun t45 =>
 optK (lenStrA (AV.strip t45)) fun t46 =>
 optK (binA .add (AV.strip t43) t46) fun t47 =>
 optK (minA [t47, (.int .i64 (IntKind.i64.wrap (a2 + (if (IntKind.i64.wrap (a0 - a2)) < a3 then (IntKind.i64.wrap (a0 - a2)) else a3))))]) fun t51 =>
 Ca F_strings_Builder_Len [(.ptr S0.length 0)] S fun t39 S_2 =>
 optK (binA .add (.int .i64 a2) t39) fun t40 =>
 optK (maxA [(AV.strip t37), t40]) fun t41 =>
 optK (binA .geq (AV.strip t41) (AV.strip t51)) fun t54 =>
 ifK t54
 (j_3 S_2)
 (optK (binA .sub (AV.strip t41) (.int .i64 a2)) fun t57 =>
 Ca F_strings_Builder_Len [(.ptr S0.length 0)] S_2 fun t58 S_3 =>
 optK (binA .sub t57 t58) fun t59 =>
 callK Ca F_strings_Repeat [(.str [0]), t59] S_3 fun t60 S_4 =>
 callK Ca F_strings_Builder_WriteString [(.ptr S0.length 0), t60] S_4 fun t61 S_5 =>
 optK (some b11) fun _ =>
 optK (lloadA T_string (some b11) 1) fun t63 =>
 optK (stripBox (some b11) 1) fun _ =>
 optK (lloadA T_int (stripBox (some b11) 1) 0) fun t66 =>
 optK (binA .sub (AV.strip t41) (AV.strip t66)) fun t67 =>
 optK (stripBox (some b11) 1) fun _ =>
 optK (lloadA T_int (stripBox (some b11) 1) 0) fun t70 =>
 optK (binA .sub (AV.strip t51) (AV.strip t70)) fun t71 =>
 optK (cutStrA (AV.strip0 t63) (some t67) (some t71)) fun t72 =>
 callK Ca F_strings_Builder_WriteString [(.ptr S0.length 0), t72] S_5 fun t73 S_6 =>
 j_3 S_6))
 (j_4 S)) (S0 ++ [.cells T_strings_Builder.zero t_strings_Builder]))) fun j =>
 ifK (AV.strip (AV.strip t20))
 (j (.tup []))
 (j (.bool (decide (a3 < 1))))) fun j_2 =>
 ifK (.bool (decide (a2 < 0)))
 (j_2 (.tup []))
 (j_2 (.bool (decide (a2 ≥ a0))))
theorem extent_Read_eq (Ca) (a0 : Int) (a1 : List (List AV)) (a1r : Rt) (a2 : Int) (a3 : Int) (S0 Q) : WF C Ca 32 (Drw C Ca 32) Try.f32 [(.int .i64 a0), (.vs 2 a1 a1r), (.int .i64 a2), (.int .i64 a3)] S0 Q = G_extent_Read Ca a0 a1 a1r a2 a3 S0 Q := by kernel_rfl
theorem extent_Read_ok {w0 : World} {a0 : Int} {a1 : List (List AV)} {a1r : Rt} {a2 : Int} {a3 : Int} {S0 : St} {Q : AV → St → Prop} (h : G_extent_Read (ACalls (En w0)) a0 a1 a1r a2 a3 S0 Q) : AC w0 F_extent_Read [(.int .i64 a0), (.vs 2 a1 a1r), (.int .i64 a2), (.int .i64 a3)] S0 Q := fn_ok w0 Try.func32 (by kernel_rfl) (by rw [extent_Read_eq]; exact h)
def G_ref03_Read (Ca : Nat → List AV → St → (AV → St → Prop) → Prop) (a0 : Int) (a1 : List (List AV)) (a1r : Rt) (a2 : Int) (a3 : Int) (S0 : St) (Q : AV → St → Prop) : Prop :=
 ifK (.bool (decide (a2 < 0)))
 (Q (.str []) S0)
 (joinK (fun (x9 : AV) (S_3 : St) =>
 optK (convBytesA (AV.strip x9)) fun t35 =>
 Q t35 S_3) fun j_2 =>
 loopQ ([(.vs 1 [] .full), (.int .i64 0)], []) (fun v bx => ([v 9, v 10], [])) (fun nx v bx S =>
 optK (binA .lss (AV.strip (v 10)) (.int .i64 a3)) fun t16 =>
 joinK (fun (x22 : AV) =>
 optK (pickA (AV.strip t16) x22 (.bool false)) fun t23 =>
 ifK (AV.strip t23)
 (optK (binA .add (.int .i64 a2) (AV.strip (v 10))) fun t30 =>
 callK Ca F_ref03_At [(.vs 2 a1 (Rt.strip a1r)), t30] S fun t31 S_2 =>
 optK (elemVals 1 [t31]) fun e32 =>
 optK (appendA T_uint8 S_2 (v 9) (.vs 1 e32 .full)) fun t33 =>
 optK (binA .add (AV.strip (v 10)) (.int .i64 1)) fun t25 =>
 nx ([t33, t25], []) S_2)
 (j_2 (v 9) S)) fun j =>
 ifK (AV.strip t16)
 (optK (binA .lss (AV.strip (v 10)) (.int .i64 (IntKind.i64.wrap (a0 - a2)))) fun t22 =>
 j t22)
 (j (.tup []))) S0)
theorem ref03_Read_eq (Ca) (a0 : Int) (a1 : List (List AV)) (a1r : Rt) (a2 : Int) (a3 : Int) (S0 Q) : WF C Ca 33 (Drw C Ca 33) Try.f33 [(.int .i64 a0), (.vs 2 a1 a1r), (.int .i64 a2), (.int .i64 a3)] S0 Q = G_ref03_Read Ca a0 a1 a1r a2 a3 S0 Q := by kernel_rfl
theorem ref03_Read_ok {w0 : World} {a0 : Int} {a1 : List (List AV)} {a1r : Rt} {a2 : Int} {a3 : Int} {S0 : St} {Q : AV → St → Prop} (h : G_ref03_Read (ACalls (En w0)) a0 a1 a1r a2 a3 S0 Q) : AC w0 F_ref03_Read [(.int .i64 a0), (.vs 2 a1 a1r), (.int .i64 a2), (.int .i64 a3)] S0 Q := fn_ok w0 Try.func33 (by kernel_rfl) (by rw [ref03_Read_eq]; exact h)
def G_extent_Of (Ca : Nat → List AV → St → (AV → St → Prop) → Prop) (a0 : List UInt8) (S0 : St) (Q : AV → St → Prop) : Prop :=
 joinK (fun (x3_2 : AV) (S_4 : St) =>
 Q (AV.strip x3_2) S_4) fun j_4 =>
 loopQ ([(.str a0), (.vs 2 [] .nil), (.int .i64 0)], []) (fun v bx => ([v 0, v 3, v 4], [])) (fun nx v bx S =>
 optK (lenStrA (AV.strip (v 0))) fun t8 =>
 optK (binA .lss (AV.strip (v 4)) t8) fun t9 =>
 ifK t9
 (joinK (fun (x5 : AV) (S_3 : St) =>
 joinK (fun (x0 : AV) (x3 : AV) =>
 optK (binA .add (AV.strip x5) (.int .i64 1)) fun t36 =>
 nx ([x0, x3, t36], []) S_3) fun j_2 =>
 optK (binA .gtr (AV.strip x5) (AV.strip (v 4))) fun t25 =>
 ifK t25
 (optK (cutStrA (v 0) (some (AV.strip (v 4))) (some (AV.strip x5))) fun t31 =>
 optK (buildA T_api_Extent 1 [(0, (AV.strip (v 4))), (1, t31)]) fun t32 =>
 optK (elemVals 2 [t32]) fun e33 =>
 optK (appendA T_api_Extent S_3 (v 3) (.vs 2 e33 .full)) fun t34 =>
 j_2 (AV.strip (v 0)) t34)
 (j_2 (v 0) (v 3))) fun j_3 =>
 loopQ ([(AV.strip (v 4))], []) (fun v_2 bx_2 => ([v_2 5], [])) (fun nx_2 v_2 bx_2 S_2 =>
 optK (lenStrA (AV.strip (v 0))) fun t13 =>
 optK (binA .lss (AV.strip (v_2 5)) t13) fun t14 =>
 joinK (fun (x19 : AV) =>
 optK (pickA (AV.strip t14) x19 (.bool false)) fun t20 =>
 ifK (AV.strip t20)
 (optK (binA .add (AV.strip (v_2 5)) (.int .i64 1)) fun t22 =>
 nx_2 ([t22], []) S_2)
 (j_3 (v_2 5) S_2)) fun j =>
 ifK (AV.strip t14)
 (optK (charA (AV.strip (v 0)) (AV.strip (v_2 5))) fun t18 =>
 optK (binA .neq t18 (.int .u8 0)) fun t19 =>
 j t19)
 (j (.tup []))) S)
 (j_4 (v 3) S)) S0
theorem extent_Of_eq (Ca) (a0 : List UInt8) (S0 Q) : WF C Ca 34 (Drw C Ca 34) Try.f34 [(.str a0)] S0 Q = G_extent_Of Ca a0 S0 Q := by kernel_rfl
theorem extent_Of_ok {w0 : World} {a0 : List UInt8} {S0 : St} {Q : AV → St → Prop} (h : G_extent_Of (ACalls (En w0)) a0 S0 Q) : AC w0 F_extent_Of [(.str a0)] S0 Q := fn_ok w0 Try.func34 (by kernel_rfl) (by rw [extent_Of_eq]; exact h)
def G_gate_Gate_place (Ca : Nat → List AV → St → (AV → St → Prop) → Prop) (a0 : Nat) (a0o : Nat) (a1 : Int) (S0 : St) (Q : AV → St → Prop) : Prop :=
 joinK (fun (S_2 : St) =>
 Q (.int .i64 (-1)) S_2) fun j =>
 optK (loadA T_s_int S0 (.ptr a0 (a0o + 2))) fun t10 =>
 optK (lenSlA (AV.strip t10)) fun t11 =>
 loopQ ([(.int .i64 0)], []) (fun v bx => ([v 12], [])) (fun nx v bx S =>
 optK (binA .lss (v 12) t11) fun t13 =>
 ifK t13
 (optK (idxSlA T_int (AV.strip t10) (v 12)) fun t15 =>
 optK (loadA T_int S t15) fun t16 =>
 optK (binA .eql (AV.strip (AV.strip t16)) (.int .i64 a1)) fun t19 =>
 ifK t19
 (Q (AV.strip (AV.strip (v 12))) S)
 (optK (binA .add (v 12) (.int .i64 1)) fun t21 =>
 nx ([(AV.strip t21)], []) S))
 (j S)) S0
theorem gate_Gate_place_eq (Ca) (a0 : Nat) (a0o : Nat) (a1 : Int) (S0 Q) : WF C Ca 35 (Drw C Ca 35) Try.f35 [(.ptr a0 a0o), (.int .i64 a1)] S0 Q = G_gate_Gate_place Ca a0 a0o a1 S0 Q := by kernel_rfl
theorem gate_Gate_place_ok {w0 : World} {a0 : Nat} {a0o : Nat} {a1 : Int} {S0 : St} {Q : AV → St → Prop} (h : G_gate_Gate_place (ACalls (En w0)) a0 a0o a1 S0 Q) : AC w0 F_gate_Gate_place [(.ptr a0 a0o), (.int .i64 a1)] S0 Q := fn_ok w0 Try.func35 (by kernel_rfl) (by rw [gate_Gate_place_eq]; exact h)
def G_ref17_has (Ca : Nat → List AV → St → (AV → St → Prop) → Prop) (a0 : List (List AV)) (a0r : Rt) (a1 : Int) (S0 : St) (Q : AV → St → Prop) : Prop :=
 joinK (fun (S_2 : St) =>
 Q (.bool false) S_2) fun j =>
 loopQ ([(.int .i64 0)], []) (fun v bx => ([v 5], [])) (fun nx v bx S =>
 optK (binA .lss (AV.strip (v 5)) (.int .i64 (List.length a0 : Int))) fun t9 =>
 ifK t9
 (optK (idxSlA T_int (.vs 1 a0 (Rt.strip a0r)) (AV.strip (v 5))) fun t14 =>
 optK (loadA T_int S t14) fun t15 =>
 optK (binA .eql (AV.strip t15) (.int .i64 a1)) fun t17 =>
 ifK t17
 (Q (.bool true) S)
 (optK (binA .add (AV.strip (v 5)) (.int .i64 1)) fun t11 =>
 nx ([t11], []) S))
 (j S)) S0
theorem ref17_has_eq (Ca) (a0 : List (List AV)) (a0r : Rt) (a1 : Int) (S0 Q) : WF C Ca 36 (Drw C Ca 36) Try.f36 [(.vs 1 a0 a0r), (.int .i64 a1)] S0 Q = G_ref17_has Ca a0 a0r a1 S0 Q := by kernel_rfl
theorem ref17_has_ok {w0 : World} {a0 : List (List AV)} {a0r : Rt} {a1 : Int} {S0 : St} {Q : AV → St → Prop} (h : G_ref17_has (ACalls (En w0)) a0 a0r a1 S0 Q) : AC w0 F_ref17_has [(.vs 1 a0 a0r), (.int .i64 a1)] S0 Q := fn_ok w0 Try.func36 (by kernel_rfl) (by rw [ref17_has_eq]; exact h)
def G_ref17_without (Ca : Nat → List AV → St → (AV → St → Prop) → Prop) (a0 : List (List AV)) (a0r : Rt) (a1 : Int) (S0 : St) (Q : AV → St → Prop) : Prop :=
 joinK (fun (x5_2 : AV) (S_2 : St) =>
 Q (AV.strip x5_2) S_2) fun j_2 =>
 loopQ ([(.vs 1 [] .full), (.int .i64 0)], []) (fun v bx => ([v 5, v 6], [])) (fun nx v bx S =>
 optK (binA .lss (AV.strip (v 6)) (.int .i64 (List.length a0 : Int))) fun t11 =>
 ifK t11
 (joinK (fun (x5 : AV) =>
 optK (binA .add (AV.strip (v 6)) (.int .i64 1)) fun t13 =>
 nx ([x5, t13], []) S) fun j =>
 optK (idxSlA T_int (.vs 1 a0 (Rt.strip a0r)) (AV.strip (v 6))) fun t16 =>
 optK (loadA T_int S t16) fun t17 =>
 optK (binA .neq (AV.strip t17) (.int .i64 a1)) fun t19 =>
 ifK t19
 (optK (idxSlA T_int (.vs 1 a0 (Rt.strip a0r)) (AV.strip (v 6))) fun t23 =>
 optK (loadA T_int S t23) fun t24 =>
 optK (elemVals 1 [(AV.strip t24)]) fun e25 =>
 optK (appendA T_int S (v 5) (.vs 1 e25 .full)) fun t26 =>
 j t26)
 (j (v 5)))
 (j_2 (v 5) S)) S0
theorem ref17_without_eq (Ca) (a0 : List (List AV)) (a0r : Rt) (a1 : Int) (S0 Q) : WF C Ca 37 (Drw C Ca 37) Try.f37 [(.vs 1 a0 a0r), (.int .i64 a1)] S0 Q = G_ref17_without Ca a0 a0r a1 S0 Q := by kernel_rfl
theorem ref17_without_ok {w0 : World} {a0 : List (List AV)} {a0r : Rt} {a1 : Int} {S0 : St} {Q : AV → St → Prop} (h : G_ref17_without (ACalls (En w0)) a0 a0r a1 S0 Q) : AC w0 F_ref17_without [(.vs 1 a0 a0r), (.int .i64 a1)] S0 Q := fn_ok w0 Try.func37 (by kernel_rfl) (by rw [ref17_without_eq]; exact h)
def G_ref01_Less (Ca : Nat → List AV → St → (AV → St → Prop) → Prop) (a0 : List UInt8) (a1 : List UInt8) (S0 : St) (Q : AV → St → Prop) : Prop :=
 joinK (fun (S_2 : St) =>
 Q (.bool (decide ((List.length a0 : Int) < (List.length a1 : Int)))) S_2) fun j_2 =>
 loopQ ([(.int .i64 0)], []) (fun v bx => ([v 5], [])) (fun nx v bx S =>
 optK (binA .lss (AV.strip (v 5)) (.int .i64 (List.length a0 : Int))) fun t9 =>
 joinK (fun (x14 : AV) =>
 optK (pickA (AV.strip t9) x14 (.bool false)) fun t15 =>
 ifK (AV.strip t15)
 (optK (charA (.str a0) (AV.strip (v 5))) fun t20 =>
 optK (charA (.str a1) (AV.strip (v 5))) fun t23 =>
 optK (binA .neq t20 t23) fun t24 =>
 ifK t24
 (optK (charA (.str a0) (AV.strip (v 5))) fun t27 =>
 optK (charA (.str a1) (AV.strip (v 5))) fun t30 =>
 optK (binA .lss t27 t30) fun t31 =>
 Q t31 S)
 (optK (binA .add (AV.strip (v 5)) (.int .i64 1)) fun t17 =>
 nx ([t17], []) S))
 (j_2 S)) fun j =>
 ifK (AV.strip t9)
 (optK (binA .lss (AV.strip (v 5)) (.int .i64 (List.length a1 : Int))) fun t14 =>
 j t14)
 (j (.tup []))) S0
theorem ref01_Less_eq (Ca) (a0 : List UInt8) (a1 : List UInt8) (S0 Q) : WF C Ca 38 (Drw C Ca 38) Try.f38 [(.str a0), (.str a1)] S0 Q = G_ref01_Less Ca a0 a1 S0 Q := by kernel_rfl
theorem ref01_Less_ok {w0 : World} {a0 : List UInt8} {a1 : List UInt8} {S0 : St} {Q : AV → St → Prop} (h : G_ref01_Less (ACalls (En w0)) a0 a1 S0 Q) : AC w0 F_ref01_Less [(.str a0), (.str a1)] S0 Q := fn_ok w0 Try.func38 (by kernel_rfl) (by rw [ref01_Less_eq]; exact h)
def G_heap_Item_less (Ca : Nat → List AV → St → (AV → St → Prop) → Prop) (a0a : List UInt8) (a0b : Int) (a1a : List UInt8) (a1b : Int) (S0 : St) (Q : AV → St → Prop) : Prop :=
 optK (boxA T_heap_Item (.agg [(.str a0a), (.int .i64 a0b)])) fun c2 =>
 optK (boxA T_heap_Item (.agg [(.str a1a), (.int .i64 a1b)])) fun c3 =>
 optK (some c2) fun _ =>
 optK (lloadA T_string (some c2) 0) fun t6 =>
 optK (some c3) fun _ =>
 optK (lloadA T_string (some c3) 0) fun t8 =>
 optK (binA .neq (AV.strip t6) (AV.strip t8)) fun t9 =>
 ifK t9
 (optK (some c2) fun _ =>
 optK (lloadA T_string (some c2) 0) fun t11 =>
 optK (some c3) fun _ =>
 optK (lloadA T_string (some c3) 0) fun t13 =>
 optK (binA .lss (AV.strip t11) (AV.strip t13)) fun t14 =>
 Q t14 S0)
 (optK (some c2) fun _ =>
 optK (lloadA T_int (some c2) 1) fun t16 =>
 optK (some c3) fun _ =>
 optK (lloadA T_int (some c3) 1) fun t18 =>
 optK (binA .lss (AV.strip t16) (AV.strip t18)) fun t19 =>
 Q t19 S0)
theorem heap_Item_less_eq (Ca) (a0a : List UInt8) (a0b : Int) (a1a : List UInt8) (a1b : Int) (S0 Q) : WF C Ca 39 (Drw C Ca 39) Try.f39 [(.agg [(.str a0a), (.int .i64 a0b)]), (.agg [(.str a1a), (.int .i64 a1b)])] S0 Q = G_heap_Item_less Ca a0a a0b a1a a1b S0 Q := by kernel_rfl
theorem heap_Item_less_ok {w0 : World} {a0a : List UInt8} {a0b : Int} {a1a : List UInt8} {a1b : Int} {S0 : St} {Q : AV → St → Prop} (h : G_heap_Item_less (ACalls (En w0)) a0a a0b a1a a1b S0 Q) : AC w0 F_heap_Item_less [(.agg [(.str a0a), (.int .i64 a0b)]), (.agg [(.str a1a), (.int .i64 a1b)])] S0 Q := fn_ok w0 Try.func39 (by kernel_rfl) (by rw [heap_Item_less_eq]; exact h)
def G_cheap_Init (Ca : Nat → List AV → St → (AV → St → Prop) → Prop) (a0 : AV) (S0 : St) (Q : AV → St → Prop) : Prop :=
 optK (invokeA C (AV.strip a0) "Len" []) fun a =>
 Ca a.1 a.2 S0 fun t5 S =>
 optK (binA .quo (AV.strip t5) (.int .i64 2)) fun t7 =>
 optK (binA .sub t7 (.int .i64 1)) fun t8 =>
 loopQ ([t8], []) (fun v bx => ([v 3], [])) (fun nx v bx S_2 =>
 optK (binA .geq (AV.strip (v 3)) (.int .i64 0)) fun t10 =>
 ifK t10
 (callK Ca F_cheap_down [(AV.strip a0), (AV.strip (v 3)), (AV.strip t5)] S_2 fun t16 S_3 =>
 optK (binA .sub (AV.strip (v 3)) (.int .i64 1)) fun t12 =>
 nx ([t12], []) S_3)
 (Q (.tup []) S_2)) S
theorem cheap_Init_eq (Ca) (a0 : AV) (S0 Q) : WF C Ca 40 (Drw C Ca 40) Try.f40 [a0] S0 Q = G_cheap_Init Ca a0 S0 Q := by kernel_rfl
theorem cheap_Init_ok {w0 : World} {a0 : AV} {S0 : St} {Q : AV → St → Prop} (h : G_cheap_Init (ACalls (En w0)) a0 S0 Q) : AC w0 F_cheap_Init [a0] S0 Q := fn_ok w0 Try.func40 (by kernel_rfl) (by rw [cheap_Init_eq]; exact h)
def G_heap_heads_Len (Ca : Nat → List AV → St → (AV → St → Prop) → Prop) (a0 : Nat) (a0o : Nat) (S0 : St) (Q : AV → St → Prop) : Prop :=
 optK (loadA T_s_heap_head S0 (.ptr a0 (a0o + 0))) fun t6 =>
 optK (lenSlA (AV.strip t6)) fun t7 =>
 Q t7 S0
theorem heap_heads_Len_eq (Ca) (a0 : Nat) (a0o : Nat) (S0 Q) : WF C Ca 41 (Drw C Ca 41) Try.f41 [(.ptr a0 a0o)] S0 Q = G_heap_heads_Len Ca a0 a0o S0 Q := by kernel_rfl
theorem heap_heads_Len_ok {w0 : World} {a0 : Nat} {a0o : Nat} {S0 : St} {Q : AV → St → Prop} (h : G_heap_heads_Len (ACalls (En w0)) a0 a0o S0 Q) : AC w0 F_heap_heads_Len [(.ptr a0 a0o)] S0 Q := fn_ok w0 Try.func41 (by kernel_rfl) (by rw [heap_heads_Len_eq]; exact h)
def G_cheap_Pop (Ca : Nat → List AV → St → (AV → St → Prop) → Prop) (a0 : AV) (S0 : St) (Q : AV → St → Prop) : Prop :=
 optK (invokeA C (AV.strip a0) "Len" []) fun a =>
 Ca a.1 a.2 S0 fun t5 S =>
 optK (binA .sub t5 (.int .i64 1)) fun t6 =>
 optK (invokeA C (AV.strip a0) "Swap" [(.int .i64 0), (AV.strip t6)]) fun a_2 =>
 Ca a_2.1 a_2.2 S fun t9 S_2 =>
 callK Ca F_cheap_down [(AV.strip a0), (.int .i64 0), (AV.strip t6)] S_2 fun t12 S_3 =>
 optK (invokeA C (AV.strip a0) "Pop" []) fun a_3 =>
 Ca a_3.1 a_3.2 S_3 fun t14 S_4 =>
 Q t14 S_4
theorem cheap_Pop_eq (Ca) (a0 : AV) (S0 Q) : WF C Ca 42 (Drw C Ca 42) Try.f42 [a0] S0 Q = G_cheap_Pop Ca a0 S0 Q := by kernel_rfl
theorem cheap_Pop_ok {w0 : World} {a0 : AV} {S0 : St} {Q : AV → St → Prop} (h : G_cheap_Pop (ACalls (En w0)) a0 S0 Q) : AC w0 F_cheap_Pop [a0] S0 Q := fn_ok w0 Try.func42 (by kernel_rfl) (by rw [cheap_Pop_eq]; exact h)
def G_cheap_Fix (Ca : Nat → List AV → St → (AV → St → Prop) → Prop) (a0 : AV) (a1 : Int) (S0 : St) (Q : AV → St → Prop) : Prop :=
 optK (invokeA C (AV.strip a0) "Len" []) fun a =>
 Ca a.1 a.2 S0 fun t7 S =>
 callK Ca F_cheap_down [(AV.strip a0), (.int .i64 a1), t7] S fun t8 S_2 =>
 optK (unA .not t8) fun t9 =>
 ifK t9
 (callK Ca F_cheap_up [(AV.strip a0), (.int .i64 a1)] S_2 fun t12 S_3 =>
 Q (.tup []) S_3)
 (Q (.tup []) S_2)
theorem cheap_Fix_eq (Ca) (a0 : AV) (a1 : Int) (S0 Q) : WF C Ca 43 (Drw C Ca 43) Try.f43 [a0, (.int .i64 a1)] S0 Q = G_cheap_Fix Ca a0 a1 S0 Q := by kernel_rfl
theorem cheap_Fix_ok {w0 : World} {a0 : AV} {a1 : Int} {S0 : St} {Q : AV → St → Prop} (h : G_cheap_Fix (ACalls (En w0)) a0 a1 S0 Q) : AC w0 F_cheap_Fix [a0, (.int .i64 a1)] S0 Q := fn_ok w0 Try.func43 (by kernel_rfl) (by rw [cheap_Fix_eq]; exact h)
def G_strings_Builder_Len (Ca : Nat → List AV → St → (AV → St → Prop) → Prop) (a0 : Nat) (a0o : Nat) (S0 : St) (Q : AV → St → Prop) : Prop :=
 optK (loadA T_s_uint8 S0 (.ptr a0 (a0o + 1))) fun t6 =>
 optK (lenSlA (AV.strip t6)) fun t7 =>
 Q t7 S0
theorem strings_Builder_Len_eq (Ca) (a0 : Nat) (a0o : Nat) (S0 Q) : WF C Ca 44 (Drw C Ca 44) Try.f44 [(.ptr a0 a0o)] S0 Q = G_strings_Builder_Len Ca a0 a0o S0 Q := by kernel_rfl
theorem strings_Builder_Len_ok {w0 : World} {a0 : Nat} {a0o : Nat} {S0 : St} {Q : AV → St → Prop} (h : G_strings_Builder_Len (ACalls (En w0)) a0 a0o S0 Q) : AC w0 F_strings_Builder_Len [(.ptr a0 a0o)] S0 Q := fn_ok w0 Try.func44 (by kernel_rfl) (by rw [strings_Builder_Len_eq]; exact h)
def G_strings_Builder_WriteString (Ca : Nat → List AV → St → (AV → St → Prop) → Prop) (a0 : Nat) (a0o : Nat) (a1 : List UInt8) (S0 : St) (Q : AV → St → Prop) : Prop :=
 Ca F_strings_Builder_copyCheck [(.ptr a0 a0o)] S0 fun t7 S =>
 optK (loadA T_s_uint8 S (.ptr a0 (a0o + 1))) fun t12 =>
 optK (appendA T_uint8 (stripMem S (.ptr a0 (a0o + 1))) (AV.strip0 t12) (.str a1)) fun t14 =>
 optK (storeA T_s_uint8 (stripMem S (.ptr a0 (a0o + 1))) (.ptr a0 (a0o + 1)) t14) fun S_2 =>
 Q (.tup [(.int .i64 (List.length a1 : Int)), .nilifc]) S_2
theorem strings_Builder_WriteString_eq (Ca) (a0 : Nat) (a0o : Nat) (a1 : List UInt8) (S0 Q) : WF C Ca 45 (Drw C Ca 45) Try.f45 [(.ptr a0 a0o), (.str a1)] S0 Q = G_strings_Builder_WriteString Ca a0 a0o a1 S0 Q := by kernel_rfl
theorem strings_Builder_WriteString_ok {w0 : World} {a0 : Nat} {a0o : Nat} {a1 : List UInt8} {S0 : St} {Q : AV → St → Prop} (h : G_strings_Builder_WriteString (ACalls (En w0)) a0 a0o a1 S0 Q) : AC w0 F_strings_Builder_WriteString [(.ptr a0 a0o), (.str a1)] S0 Q := fn_ok w0 Try.func45 (by kernel_rfl) (by rw [strings_Builder_WriteString_eq]; exact h)
def G_ref03_At (Ca : Nat → List AV → St → (AV → St → Prop) → Prop) (a0 : List (List AV)) (a0r : Rt) (a1 : Int) (S0 : St) (Q : AV → St → Prop) : Prop :=
 joinK (fun (S_2 : St) =>
 Q (.int .u8 0) S_2) fun j_2 =>
 loopQ ([(.int .i64 0)], []) (fun v bx => ([v 5], [])) (fun nx v bx S =>
 optK (binA .lss (AV.strip (v 5)) (.int .i64 (List.length a0 : Int))) fun t9 =>
 ifK t9
 (optK (idxSlA T_api_Extent (.vs 2 a0 (Rt.strip a0r)) (AV.strip (v 5))) fun t15 =>
 optK (movePtr t15 0) fun t16 =>
 optK (loadA T_int S t16) fun t17 =>
 optK (binA .geq (.int .i64 a1) (AV.strip t17)) fun t18 =>
 joinK (fun (x33 : AV) =>
 optK (pickA (AV.strip t18) x33 (.bool false)) fun t34 =>
 ifK (AV.strip t34)
 (optK (idxSlA T_api_Extent (.vs 2 a0 (Rt.strip a0r)) (AV.strip (v 5))) fun t37 =>
 optK (movePtr t37 1) fun t38 =>
 optK (loadA T_string S t38) fun t39 =>
 optK (idxSlA T_api_Extent (.vs 2 a0 (Rt.strip a0r)) (AV.strip (v 5))) fun t43 =>
 optK (movePtr t43 0) fun t44 =>
 optK (loadA T_int S t44) fun t45 =>
 optK (binA .sub (.int .i64 a1) (AV.strip t45)) fun t46 =>
 optK (charA (AV.strip t39) t46) fun t47 =>
 Q t47 S)
 (optK (binA .add (AV.strip (v 5)) (.int .i64 1)) fun t11 =>
 nx ([t11], []) S)) fun j =>
 ifK (AV.strip t18)
 (optK (idxSlA T_api_Extent (.vs 2 a0 (Rt.strip a0r)) (AV.strip (v 5))) fun t23 =>
 optK (movePtr t23 0) fun t24 =>
 optK (loadA T_int S t24) fun t25 =>
 optK (idxSlA T_api_Extent (.vs 2 a0 (Rt.strip a0r)) (AV.strip (v 5))) fun t28 =>
 optK (movePtr t28 1) fun t29 =>
 optK (loadA T_string S t29) fun t30 =>
 optK (lenStrA (AV.strip t30)) fun t31 =>
 optK (binA .add (AV.strip t25) t31) fun t32 =>
 optK (binA .lss (.int .i64 a1) t32) fun t33 =>
 j t33)
 (j (.tup [])))
 (j_2 S)) S0
theorem ref03_At_eq (Ca) (a0 : List (List AV)) (a0r : Rt) (a1 : Int) (S0 Q) : WF C Ca 48 (Drw C Ca 48) Try.f48 [(.vs 2 a0 a0r), (.int .i64 a1)] S0 Q = G_ref03_At Ca a0 a0r a1 S0 Q := by kernel_rfl
theorem ref03_At_ok {w0 : World} {a0 : List (List AV)} {a0r : Rt} {a1 : Int} {S0 : St} {Q : AV → St → Prop} (h : G_ref03_At (ACalls (En w0)) a0 a0r a1 S0 Q) : AC w0 F_ref03_At [(.vs 2 a0 a0r), (.int .i64 a1)] S0 Q := fn_ok w0 Try.func48 (by kernel_rfl) (by rw [ref03_At_eq]; exact h)
def G_cheap_down (Ca : Nat → List AV → St → (AV → St → Prop) → Prop) (a0 : AV) (a1 : Int) (a2 : Int) (S0 : St) (Q : AV → St → Prop) : Prop :=
 joinK (fun (x7 : AV) (S_7 : St) =>
 optK (binA .gtr (AV.strip x7) (.int .i64 a1)) fun t47 =>
 Q t47 S_7) fun j_4 =>
 loopQ ([(.int .i64 a1)], []) (fun v bx => ([v 7], [])) (fun nx v bx S =>
 optK (binA .mul (.int .i64 2) (AV.strip (v 7))) fun t13 =>
 optK (binA .add t13 (.int .i64 1)) fun t14 =>
 optK (binA .geq (AV.strip t14) (.int .i64 a2)) fun t17 =>
 joinK (fun (x20 : AV) =>
 optK (pickA (AV.strip t17) (.bool true) x20) fun t21 =>
 ifK (AV.strip t21)
 (j_4 (v 7) S)
 (joinK (fun (x9 : AV) (S_4 : St) =>
 optK (invokeA C (AV.strip a0) "Less" [(AV.strip x9), (AV.strip (v 7))]) fun a_2 =>
 Ca a_2.1 a_2.2 S_4 fun t38 S_5 =>
 optK (unA .not t38) fun t39 =>
 ifK t39
 (j_4 (v 7) S_5)
 (optK (invokeA C (AV.strip a0) "Swap" [(AV.strip (v 7)), (AV.strip x9)]) fun a_3 =>
 Ca a_3.1 a_3.2 S_5 fun t43 S_6 =>
 nx ([(AV.strip x9)], []) S_6)) fun j_3 =>
 optK (binA .add (AV.strip t14) (.int .i64 1)) fun t24 =>
 optK (binA .lss (AV.strip t24) (.int .i64 a2)) fun t27 =>
 joinK (fun (x32 : AV) (S_3 : St) =>
 optK (pickA (AV.strip t27) x32 (.bool false)) fun t33 =>
 ifK (AV.strip t33)
 (j_3 (AV.strip t24) S_3)
 (j_3 (AV.strip t14) S_3)) fun j_2 =>
 ifK (AV.strip t27)
 (optK (invokeA C (AV.strip a0) "Less" [(AV.strip t24), (AV.strip t14)]) fun a =>
 Ca a.1 a.2 S fun t32 S_2 =>
 j_2 t32 S_2)
 (j_2 (.tup []) S))) fun j =>
 ifK (AV.strip t17)
 (j (.tup []))
 (optK (binA .lss (AV.strip t14) (.int .i64 0)) fun t20 =>
 j t20)) S0
theorem cheap_down_eq (Ca) (a0 : AV) (a1 : Int) (a2 : Int) (S0 Q) : WF C Ca 49 (Drw C Ca 49) Try.f49 [a0, (.int .i64 a1), (.int .i64 a2)] S0 Q = G_cheap_down Ca a0 a1 a2 S0 Q := by kernel_rfl
theorem cheap_down_ok {w0 : World} {a0 : AV} {a1 : Int} {a2 : Int} {S0 : St} {Q : AV → St → Prop} (h : G_cheap_down (ACalls (En w0)) a0 a1 a2 S0 Q) : AC w0 F_cheap_down [a0, (.int .i64 a1), (.int .i64 a2)] S0 Q := fn_ok w0 Try.func49 (by kernel_rfl) (by rw [cheap_down_eq]; exact h)
def G_cheap_up (Ca : Nat → List AV → St → (AV → St → Prop) → Prop) (a0 : AV) (a1 : Int) (S0 : St) (Q : AV → St → Prop) : Prop :=
 loopQ ([(.int .i64 a1)], []) (fun v bx => ([v 1], [])) (fun nx v bx S =>
 optK (binA .sub (AV.strip (v 1)) (.int .i64 1)) fun t6 =>
 optK (binA .quo t6 (.int .i64 2)) fun t7 =>
 optK (binA .eql (AV.strip t7) (AV.strip (v 1))) fun t10 =>
 joinK (fun (x16 : AV) (S_3 : St) =>
 optK (pickA (AV.strip t10) (.bool true) x16) fun t17 =>
 ifK (AV.strip t17)
 (Q (.tup []) S_3)
 (optK (invokeA C (AV.strip a0) "Swap" [(AV.strip t7), (AV.strip (v 1))]) fun a_2 =>
 Ca a_2.1 a_2.2 S_3 fun t21 S_4 =>
 nx ([(AV.strip t7)], []) S_4)) fun j =>
 ifK (AV.strip t10)
 (j (.tup []) S)
 (optK (invokeA C (AV.strip a0) "Less" [(AV.strip (v 1)), (AV.strip t7)]) fun a =>
 Ca a.1 a.2 S fun t15 S_2 =>
 optK (unA .not t15) fun t16 =>
 j t16 S_2)) S0
theorem cheap_up_eq (Ca) (a0 : AV) (a1 : Int) (S0 Q) : WF C Ca 50 (Drw C Ca 50) Try.f50 [a0, (.int .i64 a1)] S0 Q = G_cheap_up Ca a0 a1 S0 Q := by kernel_rfl
theorem cheap_up_ok {w0 : World} {a0 : AV} {a1 : Int} {S0 : St} {Q : AV → St → Prop} (h : G_cheap_up (ACalls (En w0)) a0 a1 S0 Q) : AC w0 F_cheap_up [a0, (.int .i64 a1)] S0 Q := fn_ok w0 Try.func50 (by kernel_rfl) (by rw [cheap_up_eq]; exact h)
def G_heap_heads_Less (Ca : Nat → List AV → St → (AV → St → Prop) → Prop) (a0 : Nat) (a0o : Nat) (a1 : Int) (a2 : Int) (S0 : St) (Q : AV → St → Prop) : Prop :=
 optK (loadA T_func_heap_Item_heap_Item_bool S0 (.ptr a0 (a0o + 1))) fun t10 =>
 optK (loadA T_s_heap_head S0 (.ptr a0 (a0o + 0))) fun t14 =>
 optK (idxSlA T_heap_head (AV.strip t14) (.int .i64 a1)) fun t16 =>
 optK (movePtr t16 0) fun t17 =>
 optK (loadA T_heap_Item S0 t17) fun t18 =>
 optK (loadA T_s_heap_head S0 (.ptr a0 (a0o + 0))) fun t22 =>
 optK (idxSlA T_heap_head (AV.strip t22) (.int .i64 a2)) fun t24 =>
 optK (movePtr t24 0) fun t25 =>
 optK (loadA T_heap_Item S0 t25) fun t26 =>
 optK (calleeA (AV.strip t10) [(AV.strip t18), (AV.strip t26)]) fun a =>
 Ca a.1 a.2 S0 fun t27 S =>
 Q t27 S
theorem heap_heads_Less_eq (Ca) (a0 : Nat) (a0o : Nat) (a1 : Int) (a2 : Int) (S0 Q) : WF C Ca 77 (Drw C Ca 77) Try.f77 [(.ptr a0 a0o), (.int .i64 a1), (.int .i64 a2)] S0 Q = G_heap_heads_Less Ca a0 a0o a1 a2 S0 Q := by kernel_rfl
theorem heap_heads_Less_ok {w0 : World} {a0 : Nat} {a0o : Nat} {a1 : Int} {a2 : Int} {S0 : St} {Q : AV → St → Prop} (h : G_heap_heads_Less (ACalls (En w0)) a0 a0o a1 a2 S0 Q) : AC w0 F_heap_heads_Less [(.ptr a0 a0o), (.int .i64 a1), (.int .i64 a2)] S0 Q := fn_ok w0 Try.func77 (by kernel_rfl) (by rw [heap_heads_Less_eq]; exact h)
def G_heap_heads_Pop (Ca : Nat → List AV → St → (AV → St → Prop) → Prop) (a0 : Nat) (a0o : Nat) (S0 : St) (Q : AV → St → Prop) : Prop :=
 optK (loadA T_s_heap_head S0 (.ptr a0 (a0o + 0))) fun t8 =>
 optK (lenSlA (AV.strip t8)) fun t9 =>
 optK (binA .sub t9 (.int .i64 1)) fun t10 =>
 optK (loadA T_s_heap_head S0 (.ptr a0 (a0o + 0))) fun t14 =>
 optK (idxSlA T_heap_head (AV.strip t14) (AV.strip t10)) fun t16 =>
 optK (loadA T_heap_head S0 t16) fun t17 =>
 optK (lstoreA T_heap_head (some [(.str []), (.int .i64 0), (.vs 1 [] .nil)]) 0 (AV.strip t17)) fun b4 =>
 optK (loadA T_s_heap_head S0 (.ptr a0 (a0o + 0))) fun t22 =>
 optK (cutA T_heap_head (AV.strip0 t22) none (some (AV.strip t10)) none) fun t24 =>
 optK (storeA T_s_heap_head (stripMem S0 (.ptr a0 (a0o + 0))) (.ptr a0 (a0o + 0)) t24) fun S =>
 optK (lloadA T_heap_head (some b4) 0) fun t27 =>
 optK (ifaceA T_heap_head t_heap_head (AV.strip t27)) fun t28 =>
 Q t28 S
theorem heap_heads_Pop_eq (Ca) (a0 : Nat) (a0o : Nat) (S0 Q) : WF C Ca 78 (Drw C Ca 78) Try.f78 [(.ptr a0 a0o)] S0 Q = G_heap_heads_Pop Ca a0 a0o S0 Q := by kernel_rfl
theorem heap_heads_Pop_ok {w0 : World} {a0 : Nat} {a0o : Nat} {S0 : St} {Q : AV → St → Prop} (h : G_heap_heads_Pop (ACalls (En w0)) a0 a0o S0 Q) : AC w0 F_heap_heads_Pop [(.ptr a0 a0o)] S0 Q := fn_ok w0 Try.func78 (by kernel_rfl) (by rw [heap_heads_Pop_eq]; exact h)
end Go.Av
set_option linter.unusedVariables false
namespace Go.Av
open Go.Proofs
def G_heap_heads_Swap (Ca : Nat → List AV → St → (AV → St → Prop) → Prop) (a0 : Nat) (a0o : Nat) (a1 : Int) (a2 : Int) (S0 : St) (Q : AV → St → Prop) : Prop :=
 optK (loadA T_s_heap_head S0 (.ptr a0 (a0o + 0))) fun t9 =>
 optK (loadA T_s_heap_head S0 (.ptr a0 (a0o + 0))) fun t14 =>
 optK (loadA T_s_heap_head S0 (.ptr a0 (a0o + 0))) fun t19 =>
 optK (idxSlA T_heap_head (AV.strip t19) (.int .i64 a2)) fun t21 =>
 optK (loadA T_heap_head S0 t21) fun t22 =>
 optK (loadA T_s_heap_head S0 (.ptr a0 (a0o + 0))) fun t26 =>
 optK (idxSlA T_heap_head (AV.strip t26) (.int .i64 a1)) fun t28 =>
 optK (loadA T_heap_head S0 t28) fun t29 =>
 optK (idxSlA T_heap_head (AV.strip t9) (.int .i64 a1)) fun t30 =>
 optK (storeA T_heap_head S0 t30 (AV.strip t22)) fun S =>
 optK (idxSlA T_heap_head (AV.strip t14) (.int .i64 a2)) fun t31 =>
 optK (storeA T_heap_head S t31 (AV.strip t29)) fun S_2 =>
 Q (.tup []) S_2
theorem heap_heads_Swap_eq (Ca) (a0 : Nat) (a0o : Nat) (a1 : Int) (a2 : Int) (S0 Q) : WF C Ca 79 (Drw C Ca 79) Try.f79 [(.ptr a0 a0o), (.int .i64 a1), (.int .i64 a2)] S0 Q = G_heap_heads_Swap Ca a0 a0o a1 a2 S0 Q := by kernel_rfl
theorem heap_heads_Swap_ok {w0 : World} {a0 : Nat} {a0o : Nat} {a1 : Int} {a2 : Int} {S0 : St} {Q : AV → St → Prop} (h : G_heap_heads_Swap (ACalls (En w0)) a0 a0o a1 a2 S0 Q) : AC w0 F_heap_heads_Swap [(.ptr a0 a0o), (.int .i64 a1), (.int .i64 a2)] S0 Q := fn_ok w0 Try.func79 (by kernel_rfl) (by rw [heap_heads_Swap_eq]; exact h)
end Go.Av
