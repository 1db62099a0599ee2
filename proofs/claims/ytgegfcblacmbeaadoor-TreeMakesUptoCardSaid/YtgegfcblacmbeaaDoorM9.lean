/- Parts of the proofs of this seat: abstract values over the model, and what the functions of the program do. No condition. -/
import Derived.Test.YtgegfcblacmbeaaDoorM8
import Derived.Test.YtgegfcblacmbeaaDoorM7
import Derived.Test.YtgegfcblacmbeaaDoorProg
import Derived.KernelRfl
set_option linter.all false
set_option linter.unusedVariables false
set_option maxRecDepth 100000
/-! The seat: its types, and that they agree with its program. -/
namespace Go.Av
open Go.Proofs
abbrev t_unit : Nat := 0
abbrev t_func : Nat := 1
abbrev t_int64 : Nat := 2
abbrev t_int : Nat := 3
abbrev t_bool : Nat := 4
abbrev t_uint8 : Nat := 5
abbrev t_abi_BoundsErrorCode : Nat := 6
abbrev t_struct_x_int64_y_int_signed_bool_code_abi_BoundsErrorCode : Nat := 7
abbrev t_runtime_boundsError : Nat := 8
abbrev t_string : Nat := 9
abbrev t_runtime_errorString : Nat := 10
abbrev t_runtime_plainError : Nat := 11
abbrev t_uintptr : Nat := 12
abbrev t_struct_msg_string_addr_uintptr : Nat := 13
abbrev t_runtime_errorAddressString : Nat := 14
abbrev t_p_runtime_TypeAssertionError : Nat := 15
abbrev t_p_runtime_PanicNilError : Nat := 16
abbrev t_p_abi_Type : Nat := 17
abbrev t_struct_typ_p_abi_Type : Nat := 18
abbrev t_maps_unhashableTypeError : Nat := 19
abbrev t_interface : Nat := 20
abbrev t_int32 : Nat := 21
abbrev t_func_bool : Nat := 22
abbrev t_s_string : Nat := 23
abbrev t_api_Errno : Nat := 24
abbrev t_s_string_bool_api_Errno : Nat := 25
abbrev t_func_string_s_string_bool_api_Errno : Nat := 26
abbrev t_s_string_bool : Nat := 27
abbrev t_func_string_s_string_bool : Nat := 28
abbrev t_func_s_string_s_string_bool : Nat := 29
abbrev t_func_string_bool : Nat := 30
abbrev t_func_string_string : Nat := 31
abbrev t_func_s_string_string : Nat := 32
abbrev t_func_string_string_string : Nat := 33
abbrev t_func_string_string_b43980 : Nat := 34
abbrev t_func_s_string_bool : Nat := 35
abbrev t_s_socagelaw07_Act : Nat := 36
abbrev t_s_stack_mount : Nat := 37
abbrev t_struct_l_s_stack_mount_next_int : Nat := 38
abbrev t_stack_Stack : Nat := 39
abbrev t_s_int : Nat := 40
abbrev t_s_p_branch_Branch : Nat := 41
abbrev t_s_stack_Stack : Nat := 42
abbrev t_s_s_int : Nat := 43
abbrev t_struct_Out_bool_ID_int : Nat := 44
abbrev t_socagelaw07_Act : Nat := 45
abbrev t_stack_Stack_api_Errno : Nat := 46
abbrev t_func_int_stack_Stack_api_Errno : Nat := 47
abbrev t_p_branch_Branch : Nat := 48
abbrev t_branch_Branch_api_Errno : Nat := 49
abbrev t_func_api_Node_p_branch_Branch_api_Errno : Nat := 50
abbrev t_s_api_Node : Nat := 51
abbrev t_s_api_Extent : Nat := 52
abbrev t_struct_Kind_int_Opaque_bool_Names_s_string_Items_8666df6f : Nat := 53
abbrev t_api_Node : Nat := 54
abbrev t_func_s_string_api_Node_api_Node : Nat := 55
abbrev t_stack_Stack_int_api_Errno : Nat := 56
abbrev t_func_p_branch_Branch_stack_Stack_int_api_Errno : Nat := 57
abbrev t_func_stack_Stack_s_int_s_p_branch_Branch_bool : Nat := 58
abbrev t_func_s_socagelaw07_Act_bool : Nat := 59
abbrev t_func_api_Node_int : Nat := 60
abbrev t_func_api_Node_bool : Nat := 61
abbrev t_func_api_Node_stack_Stack_api_Errno : Nat := 62
abbrev t_func_int : Nat := 63
abbrev t_func_int_p_branch_Branch : Nat := 64
abbrev t_func_int_int : Nat := 65
abbrev t_func_s_api_Node_uint8_bool : Nat := 66
abbrev t_func_api_Node_api_Node_bool : Nat := 67
abbrev t_api_Node_bool : Nat := 68
abbrev t_func_api_Node_string_api_Node_bool : Nat := 69
abbrev t_func_api_Node_string_int : Nat := 70
abbrev t_func_api_Node_api_Node_string_bool : Nat := 71
abbrev t_func_string_api_Node : Nat := 72
abbrev t_func_int_s_api_Extent_int_int_string : Nat := 73
abbrev t_func_api_Node : Nat := 74
abbrev t_func_api_Node_api_Node : Nat := 75
abbrev t_func_string_s_string_uint8_bool : Nat := 76
abbrev t_string_api_Errno : Nat := 77
abbrev t_func_api_Node_string_api_Errno : Nat := 78
abbrev t_string_bool : Nat := 79
abbrev t_func_api_Node_string_bool : Nat := 80
abbrev t_api_Node_api_Errno : Nat := 81
abbrev t_func_string_api_Node_api_Errno : Nat := 82
abbrev t_func_string_api_Node_bool : Nat := 83
abbrev t_uint16 : Nat := 84
abbrev t_func_api_Node_uint16_string_bool : Nat := 85
abbrev t_func_s_api_Node_int : Nat := 86
abbrev t_stack_Stack_bool : Nat := 87
abbrev t_func_s_api_Node_stack_Stack_bool : Nat := 88
abbrev t_struct_Level_int_Inode_int : Nat := 89
abbrev t_seen_Spot : Nat := 90
abbrev t_s_seen_Spot : Nat := 91
abbrev t_seen_Place : Nat := 92
abbrev t_struct_Kind_int_seen_Spot_Dirs_seen_Place : Nat := 93
abbrev t_seen_Found : Nat := 94
abbrev t_seen_Found_bool : Nat := 95
abbrev t_func_stack_Stack_seen_Place_string_seen_Found_bool : Nat := 96
abbrev t_func_stack_Stack_seen_Place : Nat := 97
abbrev t_func_api_Node_s_api_Node_string_bool : Nat := 98
abbrev t_func_string_string_s_string : Nat := 99
abbrev t_func_string_string_bool : Nat := 100
abbrev t_func_s_string_string_string : Nat := 101
abbrev t_func_string_uint8_int : Nat := 102
abbrev t_func_s_stack_mount_func_stack_mount_bool_int : Nat := 103
abbrev t_struct_id_int_p_branch_Branch : Nat := 104
abbrev t_stack_mount : Nat := 105
abbrev t_func_stack_mount_bool : Nat := 106
abbrev t_func_s_stack_mount_int_int_s_stack_mount : Nat := 107
abbrev t_func_s_stack_mount_s_stack_mount : Nat := 108
abbrev t_s_branch_inode : Nat := 109
abbrev t_struct_table_s_branch_inode : Nat := 110
abbrev t_branch_Branch : Nat := 111
abbrev t_func_s_string_s_string : Nat := 112
abbrev t_func_s_api_Node_s_api_Node : Nat := 113
abbrev t_func_api_Node_int_p_int_bool : Nat := 114
abbrev t_p_int : Nat := 115
abbrev t_func_s_api_Extent_s_api_Extent_bool : Nat := 116
abbrev t_struct_Off_int_Data_string : Nat := 117
abbrev t_api_Extent : Nat := 118
abbrev t_func_int_s_api_Extent_bool : Nat := 119
abbrev t_int_bool : Nat := 120
abbrev t_func_s_string_string_int_bool : Nat := 121
abbrev t_func_string_s_api_Extent : Nat := 122
abbrev t_s_uint8 : Nat := 123
abbrev t_func_s_api_Extent_int_uint8 : Nat := 124
abbrev t_struct_b_s_uint8 : Nat := 125
abbrev t_wire_Writer : Nat := 126
abbrev t_func_p_wire_Writer_api_Node : Nat := 127
abbrev t_p_wire_Writer : Nat := 128
abbrev t_func_string : Nat := 129
abbrev t_func_api_Node_string : Nat := 130
abbrev t_p_image_reader : Nat := 131
abbrev t_p_wire_Reader : Nat := 132
abbrev t_func_string_p_wire_Reader : Nat := 133
abbrev t_struct_p_wire_Reader_bad_bool_left_int : Nat := 134
abbrev t_image_reader : Nat := 135
abbrev t_func_int_api_Node : Nat := 136
abbrev t_struct_Node_api_Node_Len_int : Nat := 137
abbrev t_socageref05_Got : Nat := 138
abbrev t_func_string_int_socageref05_Got : Nat := 139
abbrev t_func_int_string_int_bool : Nat := 140
abbrev t_func_int_bool : Nat := 141
abbrev t_func_string_string_int_int_s_string : Nat := 142
abbrev t_func_string_string_int : Nat := 143
abbrev t_p_strings_Builder : Nat := 144
abbrev t_struct_addr_p_strings_Builder_buf_s_uint8 : Nat := 145
abbrev t_strings_Builder : Nat := 146
abbrev t_func_int_f2d63e : Nat := 147
abbrev t_interface_Error_string : Nat := 148
abbrev t_error : Nat := 149
abbrev t_int_error : Nat := 150
abbrev t_func_string_int_error : Nat := 151
abbrev t_struct_api_Node_ids_s_int : Nat := 152
abbrev t_branch_inode : Nat := 153
abbrev t_func_s_api_Extent_s_api_Extent : Nat := 154
abbrev t_func_int_api_Extent_bool : Nat := 155
abbrev t_uint : Nat := 156
abbrev t_func_int_int_bool : Nat := 157
abbrev t_func_string_int_bool : Nat := 158
abbrev t_func_string_int_int_string : Nat := 159
abbrev t_func_string_string_int_string : Nat := 160
abbrev t_struct_s_string : Nat := 161
abbrev t_wire_Reader : Nat := 162
abbrev t_func_int_string : Nat := 163
abbrev t_func_string_int_int_int : Nat := 164
abbrev t_func_int_branch_inode : Nat := 165
abbrev t_func_string_int_s_string : Nat := 166
abbrev t_func_string_int32_int : Nat := 167
abbrev t_256_bool : Nat := 168
abbrev t_strings_asciiSet : Nat := 169
abbrev t_strings_asciiSet_bool : Nat := 170
abbrev t_func_string_strings_asciiSet_bool : Nat := 171
abbrev t_func_uint8_bool : Nat := 172
abbrev t_p_uint8 : Nat := 173
abbrev t_func_int_int_bool_ea9af1 : Nat := 174
abbrev t_func_int_string_bool : Nat := 175
abbrev t_func_string_int : Nat := 176
abbrev t_int32_int : Nat := 177
abbrev t_func_string_int32_int_dd94b7 : Nat := 178
abbrev t_func_int32_bool : Nat := 179
abbrev t_p_strings_asciiSet : Nat := 180
abbrev t_unsafe_Pointer : Nat := 181
abbrev t_func_unsafe_Pointer_unsafe_Pointer : Nat := 182
abbrev t_func_int_s_uint8 : Nat := 183
abbrev t_256_uint8 : Nat := 184
abbrev t_struct_lo_uint8_hi_uint8 : Nat := 185
abbrev t_utf8_acceptRange : Nat := 186
abbrev t_16_utf8_acceptRange : Nat := 187
abbrev t_uint32 : Nat := 188
abbrev t_uint32_uint32 : Nat := 189
abbrev t_func_string_uint32_uint32 : Nat := 190
abbrev t_struct_interface_p_abi_Type_concrete_p_abi_Type__3af7698d : Nat := 191
abbrev t_runtime_TypeAssertionError : Nat := 192
abbrev t_0_p_runtime_PanicNilError : Nat := 193
abbrev t_struct_0_p_runtime_PanicNilError : Nat := 194
abbrev t_runtime_PanicNilError : Nat := 195
abbrev t_abi_TFlag : Nat := 196
abbrev t_abi_Kind : Nat := 197
abbrev t_func_unsafe_Pointer_unsafe_Pointer_bool : Nat := 198
abbrev t_abi_NameOff : Nat := 199
abbrev t_abi_TypeOff : Nat := 200
abbrev t_struct_Size_uintptr_PtrBytes_uintptr_Hash_uint32_7c8ec20b : Nat := 201
abbrev t_abi_Type : Nat := 202
abbrev F_main_main : Nat := 0
abbrev F_gosem_cut : Nat := 1
abbrev F_gosem_cut_init : Nat := 2
abbrev F_law01_NameSplits : Nat := 3
abbrev F_law01_NameRight : Nat := 4
abbrev F_law01_NameJoins : Nat := 5
abbrev F_law07_StackDoes : Nat := 6
abbrev F_law07_StackOf : Nat := 7
abbrev F_law04_TreeRight : Nat := 8
abbrev F_law04_TreeSame : Nat := 9
abbrev F_law04_TreeMakes : Nat := 10
abbrev F_law05_ImageEncodes : Nat := 11
abbrev F_law05_ImageDecodes : Nat := 12
abbrev F_law05_ImageCuts : Nat := 13
abbrev F_law08_SeenOne : Nat := 14
abbrev F_law01_speaks : Nat := 15
abbrev F_name_Split : Nat := 16
abbrev F_ref01_Split : Nat := 17
abbrev F_ref01_Same : Nat := 18
abbrev F_name_Right : Nat := 19
abbrev F_ref01_Right : Nat := 20
abbrev F_name_Join : Nat := 21
abbrev F_ref01_Join : Nat := 22
abbrev F_name_Child : Nat := 23
abbrev F_name_Parent : Nat := 24
abbrev F_law07_speaks : Nat := 25
abbrev F_stack_Stack_Remove : Nat := 26
abbrev F_branch_New : Nat := 27
abbrev F_tree_Dir : Nat := 28
abbrev F_stack_Stack_Add : Nat := 29
abbrev F_law07_same : Nat := 30
abbrev F_law04_Small : Nat := 31
abbrev F_ref04_Right : Nat := 32
abbrev F_stack_Of : Nat := 33
abbrev F_stack_Stack_Len : Nat := 34
abbrev F_stack_Stack_At : Nat := 35
abbrev F_stack_Stack_ID : Nat := 36
abbrev F_branch_Branch_Count : Nat := 37
abbrev F_ref04_Count : Nat := 38
abbrev F_law04_speaks : Nat := 39
abbrev F_tree_Right : Nat := 40
abbrev F_tree_Count : Nat := 41
abbrev F_tree_Same : Nat := 42
abbrev F_ref04_Same : Nat := 43
abbrev F_ref04_One : Nat := 44
abbrev F_tree_Find : Nat := 45
abbrev F_ref04_Find : Nat := 46
abbrev F_tree_Text : Nat := 47
abbrev F_ref03_Read : Nat := 48
abbrev F_tree_Link : Nat := 49
abbrev F_tree_White : Nat := 50
abbrev F_tree_Opaque : Nat := 51
abbrev F_law05_speaks : Nat := 52
abbrev F_image_Encode : Nat := 53
abbrev F_ref05_Encode : Nat := 54
abbrev F_image_Decode : Nat := 55
abbrev F_ref05_Decode : Nat := 56
abbrev F_law08_speaks : Nat := 57
abbrev F_law08_May : Nat := 58
abbrev F_law08_Stack : Nat := 59
abbrev F_seen_Look : Nat := 60
abbrev F_seen_Root : Nat := 61
abbrev F_strings_Split : Nat := 62
abbrev F_strings_ContainsAny : Nat := 63
abbrev F_strings_Join : Nat := 64
abbrev F_strings_LastIndexByte : Nat := 65
abbrev F_slices_IndexFunc_s_stack_mount_stack_mount : Nat := 66
abbrev F_stack_Stack_Remove_1 : Nat := 67
abbrev F_slices_Delete_s_stack_mount_stack_mount : Nat := 68
abbrev F_slices_Clone_s_stack_mount_stack_mount : Nat := 69
abbrev F_branch_Branch_add : Nat := 70
abbrev F_slices_Clone_s_string_string : Nat := 71
abbrev F_slices_Clone_s_api_Node_api_Node : Nat := 72
abbrev F_law04_small : Nat := 73
abbrev F_ref04_all : Nat := 74
abbrev F_ref04_Depth : Nat := 75
abbrev F_tree_right : Nat := 76
abbrev F_slices_Equal_s_string_string : Nat := 77
abbrev F_slices_Equal_s_api_Extent_api_Extent : Nat := 78
abbrev F_ref03_Right : Nat := 79
abbrev F_ref04_entries : Nat := 80
abbrev F_slices_BinarySearch_s_string_string : Nat := 81
abbrev F_extent_Of : Nat := 82
abbrev F_ref03_At : Nat := 83
abbrev F_image_put : Nat := 84
abbrev F_wire_Writer_Bytes : Nat := 85
abbrev F_ref05_Put : Nat := 86
abbrev F_wire_Read : Nat := 87
abbrev F_image_reader_node : Nat := 88
abbrev F_wire_Reader_Left : Nat := 89
abbrev F_ref05_get : Nat := 90
abbrev F_branch_Branch_Look : Nat := 91
abbrev F_branch_Branch_Kind : Nat := 92
abbrev F_branch_Branch_Opaque : Nat := 93
abbrev F_strings_genSplit : Nat := 94
abbrev F_strings_IndexAny : Nat := 95
abbrev F_strings_Builder_Grow : Nat := 96
abbrev F_strings_Builder_WriteString : Nat := 97
abbrev F_strings_Builder_String : Nat := 98
abbrev F_bytealg_LastIndexByteString : Nat := 99
abbrev F_slices_Clone_s_api_Extent_api_Extent : Nat := 100
abbrev F_tree_zero : Nat := 101
abbrev F_extent_Right : Nat := 102
abbrev F_tree_names : Nat := 103
abbrev F_ref01_Less : Nat := 104
abbrev F_cmp_Less_string : Nat := 105
abbrev F_slices_isNaN_string : Nat := 106
abbrev F_wire_Writer_Put : Nat := 107
abbrev F_wire_Writer_Text : Nat := 108
abbrev F_ref02_Put : Nat := 109
abbrev F_ref05_text : Nat := 110
abbrev F_image_reader_number : Nat := 111
abbrev F_image_reader_text : Nat := 112
abbrev F_ref05_number : Nat := 113
abbrev F_branch_Branch_at : Nat := 114
abbrev F_strings_explode : Nat := 115
abbrev F_strings_Count : Nat := 116
abbrev F_strings_Index : Nat := 117
abbrev F_strings_IndexRune : Nat := 118
abbrev F_strings_shouldUseASCIISet : Nat := 119
abbrev F_strings_makeASCIISet : Nat := 120
abbrev F_strings_asciiSet_contains : Nat := 121
abbrev F_strings_Builder_copyCheck : Nat := 122
abbrev F_strings_Builder_grow : Nat := 123
abbrev F_cmp_isNaN_string : Nat := 124
abbrev F_wire_Reader_Take : Nat := 125
abbrev F_wire_Reader_Text : Nat := 126
abbrev F_ref02_Get : Nat := 127
abbrev F_utf8_RuneCountInString : Nat := 128
abbrev F_utf8_DecodeRuneInString : Nat := 129
abbrev F_bytealg_CountString : Nat := 130
abbrev F_stringslite_Index : Nat := 131
abbrev F_strings_IndexByte : Nat := 132
abbrev F_utf8_ValidRune : Nat := 133
abbrev F_bytealg_Cutover : Nat := 134
abbrev F_bytealg_IndexString : Nat := 135
abbrev F_abi_NoEscape : Nat := 136
abbrev F_bytealg_MakeNoZero : Nat := 137
abbrev F_utf8_decodeRuneInStringSlow : Nat := 138
abbrev F_stringslite_IndexByte : Nat := 139
abbrev F_bytealg_IndexRabinKarp_string : Nat := 140
abbrev F_bytealg_IndexByteString : Nat := 141
abbrev F_bytealg_hashStr_string : Nat := 142
abbrev F_runtime_boundsError_Error : Nat := 143
abbrev F_runtime_boundsError_RuntimeError : Nat := 144
abbrev F_runtime_errorString_Error : Nat := 145
abbrev F_runtime_errorString_RuntimeError : Nat := 146
abbrev F_runtime_plainError_Error : Nat := 147
abbrev F_runtime_plainError_RuntimeError : Nat := 148
abbrev F_runtime_errorAddressString_Error : Nat := 149
abbrev F_runtime_errorAddressString_RuntimeError : Nat := 150
abbrev F_runtime_TypeAssertionError_Error : Nat := 151
abbrev F_runtime_TypeAssertionError_RuntimeError : Nat := 152
abbrev F_runtime_PanicNilError_Error : Nat := 153
abbrev F_runtime_PanicNilError_RuntimeError : Nat := 154
abbrev F_abi_Type_Align : Nat := 155
abbrev F_runtime_maps_unhashableTypeError_Error : Nat := 156
abbrev F_runtime_maps_unhashableTypeError_RuntimeError : Nat := 157
abbrev F_api_Errno_Error : Nat := 158
abbrev F_strings_Builder_Reset : Nat := 159
abbrev F_abi_Kind_String : Nat := 160
abbrev F_var_s_door_gosem_cut_vars_holds_initialisers_alo_7ec60fb9 : Nat := 161
abbrev F_var_s_door_the_look_of_gosem_cut_vars_went_over__3e16989e : Nat := 162
abbrev F_var_s_door_utf8_acceptRanges_is_laid_by_its_own__ccb41731 : Nat := 163
abbrev F_var_s_door_utf8_first_is_laid_by_its_text_alone_pinned_1 : Nat := 164
abbrev F_gosem_cut_vars : Nat := 165
def T_func : TI := { size := 1, bytes := 8, agg := false, zero := [.nilfn], kind := .func, id := 1 }
@[simp] theorem T_func_size : T_func.size = 1 := rfl
@[simp] theorem T_func_agg : T_func.agg = false := rfl
@[simp] theorem T_func_zero : T_func.zero = [.nilfn] := rfl
@[simp] theorem T_func_kind : T_func.kind = .func := rfl
@[simp] theorem T_func_id : T_func.id = t_func := rfl
def T_int64 : TI := { size := 1, bytes := 8, agg := false, zero := [.int .i64 0], kind := .int .i64, id := 2 }
@[simp] theorem T_int64_size : T_int64.size = 1 := rfl
@[simp] theorem T_int64_agg : T_int64.agg = false := rfl
@[simp] theorem T_int64_zero : T_int64.zero = [.int .i64 0] := rfl
@[simp] theorem T_int64_kind : T_int64.kind = .int .i64 := rfl
@[simp] theorem T_int64_id : T_int64.id = t_int64 := rfl
def T_int : TI := { size := 1, bytes := 8, agg := false, zero := [.int .i64 0], kind := .int .i64, id := 3 }
@[simp] theorem T_int_size : T_int.size = 1 := rfl
@[simp] theorem T_int_agg : T_int.agg = false := rfl
@[simp] theorem T_int_zero : T_int.zero = [.int .i64 0] := rfl
@[simp] theorem T_int_kind : T_int.kind = .int .i64 := rfl
@[simp] theorem T_int_id : T_int.id = t_int := rfl
def T_bool : TI := { size := 1, bytes := 1, agg := false, zero := [.bool false], kind := .bool, id := 4 }
@[simp] theorem T_bool_size : T_bool.size = 1 := rfl
@[simp] theorem T_bool_agg : T_bool.agg = false := rfl
@[simp] theorem T_bool_zero : T_bool.zero = [.bool false] := rfl
@[simp] theorem T_bool_kind : T_bool.kind = .bool := rfl
@[simp] theorem T_bool_id : T_bool.id = t_bool := rfl
def T_uint8 : TI := { size := 1, bytes := 1, agg := false, zero := [.int .u8 0], kind := .int .u8, id := 5 }
@[simp] theorem T_uint8_size : T_uint8.size = 1 := rfl
@[simp] theorem T_uint8_agg : T_uint8.agg = false := rfl
@[simp] theorem T_uint8_zero : T_uint8.zero = [.int .u8 0] := rfl
@[simp] theorem T_uint8_kind : T_uint8.kind = .int .u8 := rfl
@[simp] theorem T_uint8_id : T_uint8.id = t_uint8 := rfl
def T_abi_BoundsErrorCode : TI := { size := 1, bytes := 1, agg := false, zero := [.int .u8 0], kind := .int .u8, id := 6 }
@[simp] theorem T_abi_BoundsErrorCode_size : T_abi_BoundsErrorCode.size = 1 := rfl
@[simp] theorem T_abi_BoundsErrorCode_agg : T_abi_BoundsErrorCode.agg = false := rfl
@[simp] theorem T_abi_BoundsErrorCode_zero : T_abi_BoundsErrorCode.zero = [.int .u8 0] := rfl
@[simp] theorem T_abi_BoundsErrorCode_kind : T_abi_BoundsErrorCode.kind = .int .u8 := rfl
@[simp] theorem T_abi_BoundsErrorCode_id : T_abi_BoundsErrorCode.id = t_abi_BoundsErrorCode := rfl
def T_struct_x_int64_y_int_signed_bool_code_abi_BoundsErrorCode : TI := { size := 4, bytes := 24, agg := true, zero := [.int .i64 0, .int .i64 0, .bool false, .int .u8 0], kind := .struct [(0, 2, 1), (1, 3, 1), (2, 4, 1), (3, 6, 1)], id := 7 }
@[simp] theorem T_struct_x_int64_y_int_signed_bool_code_abi_BoundsErrorCode_size : T_struct_x_int64_y_int_signed_bool_code_abi_BoundsErrorCode.size = 4 := rfl
@[simp] theorem T_struct_x_int64_y_int_signed_bool_code_abi_BoundsErrorCode_agg : T_struct_x_int64_y_int_signed_bool_code_abi_BoundsErrorCode.agg = true := rfl
@[simp] theorem T_struct_x_int64_y_int_signed_bool_code_abi_BoundsErrorCode_zero : T_struct_x_int64_y_int_signed_bool_code_abi_BoundsErrorCode.zero = [.int .i64 0, .int .i64 0, .bool false, .int .u8 0] := rfl
@[simp] theorem T_struct_x_int64_y_int_signed_bool_code_abi_BoundsErrorCode_kind : T_struct_x_int64_y_int_signed_bool_code_abi_BoundsErrorCode.kind = .struct [(0, 2, 1), (1, 3, 1), (2, 4, 1), (3, 6, 1)] := rfl
@[simp] theorem T_struct_x_int64_y_int_signed_bool_code_abi_BoundsErrorCode_id : T_struct_x_int64_y_int_signed_bool_code_abi_BoundsErrorCode.id = t_struct_x_int64_y_int_signed_bool_code_abi_BoundsErrorCode := rfl
def T_runtime_boundsError : TI := { size := 4, bytes := 24, agg := true, zero := [.int .i64 0, .int .i64 0, .bool false, .int .u8 0], kind := .struct [(0, 2, 1), (1, 3, 1), (2, 4, 1), (3, 6, 1)], id := 8 }
@[simp] theorem T_runtime_boundsError_size : T_runtime_boundsError.size = 4 := rfl
@[simp] theorem T_runtime_boundsError_agg : T_runtime_boundsError.agg = true := rfl
@[simp] theorem T_runtime_boundsError_zero : T_runtime_boundsError.zero = [.int .i64 0, .int .i64 0, .bool false, .int .u8 0] := rfl
@[simp] theorem T_runtime_boundsError_kind : T_runtime_boundsError.kind = .struct [(0, 2, 1), (1, 3, 1), (2, 4, 1), (3, 6, 1)] := rfl
@[simp] theorem T_runtime_boundsError_id : T_runtime_boundsError.id = t_runtime_boundsError := rfl
def T_string : TI := { size := 1, bytes := 16, agg := false, zero := [.str []], kind := .str, id := 9 }
@[simp] theorem T_string_size : T_string.size = 1 := rfl
@[simp] theorem T_string_agg : T_string.agg = false := rfl
@[simp] theorem T_string_zero : T_string.zero = [.str []] := rfl
@[simp] theorem T_string_kind : T_string.kind = .str := rfl
@[simp] theorem T_string_id : T_string.id = t_string := rfl
def T_runtime_errorString : TI := { size := 1, bytes := 16, agg := false, zero := [.str []], kind := .str, id := 10 }
@[simp] theorem T_runtime_errorString_size : T_runtime_errorString.size = 1 := rfl
@[simp] theorem T_runtime_errorString_agg : T_runtime_errorString.agg = false := rfl
@[simp] theorem T_runtime_errorString_zero : T_runtime_errorString.zero = [.str []] := rfl
@[simp] theorem T_runtime_errorString_kind : T_runtime_errorString.kind = .str := rfl
@[simp] theorem T_runtime_errorString_id : T_runtime_errorString.id = t_runtime_errorString := rfl
def T_runtime_plainError : TI := { size := 1, bytes := 16, agg := false, zero := [.str []], kind := .str, id := 11 }
@[simp] theorem T_runtime_plainError_size : T_runtime_plainError.size = 1 := rfl
@[simp] theorem T_runtime_plainError_agg : T_runtime_plainError.agg = false := rfl
@[simp] theorem T_runtime_plainError_zero : T_runtime_plainError.zero = [.str []] := rfl
@[simp] theorem T_runtime_plainError_kind : T_runtime_plainError.kind = .str := rfl
@[simp] theorem T_runtime_plainError_id : T_runtime_plainError.id = t_runtime_plainError := rfl
def T_uintptr : TI := { size := 1, bytes := 8, agg := false, zero := [.int .u64 0], kind := .int .u64, id := 12 }
@[simp] theorem T_uintptr_size : T_uintptr.size = 1 := rfl
@[simp] theorem T_uintptr_agg : T_uintptr.agg = false := rfl
@[simp] theorem T_uintptr_zero : T_uintptr.zero = [.int .u64 0] := rfl
@[simp] theorem T_uintptr_kind : T_uintptr.kind = .int .u64 := rfl
@[simp] theorem T_uintptr_id : T_uintptr.id = t_uintptr := rfl
def T_struct_msg_string_addr_uintptr : TI := { size := 2, bytes := 24, agg := true, zero := [.str [], .int .u64 0], kind := .struct [(0, 9, 1), (1, 12, 1)], id := 13 }
@[simp] theorem T_struct_msg_string_addr_uintptr_size : T_struct_msg_string_addr_uintptr.size = 2 := rfl
@[simp] theorem T_struct_msg_string_addr_uintptr_agg : T_struct_msg_string_addr_uintptr.agg = true := rfl
@[simp] theorem T_struct_msg_string_addr_uintptr_zero : T_struct_msg_string_addr_uintptr.zero = [.str [], .int .u64 0] := rfl
@[simp] theorem T_struct_msg_string_addr_uintptr_kind : T_struct_msg_string_addr_uintptr.kind = .struct [(0, 9, 1), (1, 12, 1)] := rfl
@[simp] theorem T_struct_msg_string_addr_uintptr_id : T_struct_msg_string_addr_uintptr.id = t_struct_msg_string_addr_uintptr := rfl
def T_runtime_errorAddressString : TI := { size := 2, bytes := 24, agg := true, zero := [.str [], .int .u64 0], kind := .struct [(0, 9, 1), (1, 12, 1)], id := 14 }
@[simp] theorem T_runtime_errorAddressString_size : T_runtime_errorAddressString.size = 2 := rfl
@[simp] theorem T_runtime_errorAddressString_agg : T_runtime_errorAddressString.agg = true := rfl
@[simp] theorem T_runtime_errorAddressString_zero : T_runtime_errorAddressString.zero = [.str [], .int .u64 0] := rfl
@[simp] theorem T_runtime_errorAddressString_kind : T_runtime_errorAddressString.kind = .struct [(0, 9, 1), (1, 12, 1)] := rfl
@[simp] theorem T_runtime_errorAddressString_id : T_runtime_errorAddressString.id = t_runtime_errorAddressString := rfl
def T_p_runtime_TypeAssertionError : TI := { size := 1, bytes := 8, agg := false, zero := [.nil], kind := .ptr 192, id := 15 }
@[simp] theorem T_p_runtime_TypeAssertionError_size : T_p_runtime_TypeAssertionError.size = 1 := rfl
@[simp] theorem T_p_runtime_TypeAssertionError_agg : T_p_runtime_TypeAssertionError.agg = false := rfl
@[simp] theorem T_p_runtime_TypeAssertionError_zero : T_p_runtime_TypeAssertionError.zero = [.nil] := rfl
@[simp] theorem T_p_runtime_TypeAssertionError_kind : T_p_runtime_TypeAssertionError.kind = .ptr 192 := rfl
@[simp] theorem T_p_runtime_TypeAssertionError_id : T_p_runtime_TypeAssertionError.id = t_p_runtime_TypeAssertionError := rfl
def T_p_runtime_PanicNilError : TI := { size := 1, bytes := 8, agg := false, zero := [.nil], kind := .ptr 195, id := 16 }
@[simp] theorem T_p_runtime_PanicNilError_size : T_p_runtime_PanicNilError.size = 1 := rfl
@[simp] theorem T_p_runtime_PanicNilError_agg : T_p_runtime_PanicNilError.agg = false := rfl
@[simp] theorem T_p_runtime_PanicNilError_zero : T_p_runtime_PanicNilError.zero = [.nil] := rfl
@[simp] theorem T_p_runtime_PanicNilError_kind : T_p_runtime_PanicNilError.kind = .ptr 195 := rfl
@[simp] theorem T_p_runtime_PanicNilError_id : T_p_runtime_PanicNilError.id = t_p_runtime_PanicNilError := rfl
def T_p_abi_Type : TI := { size := 1, bytes := 8, agg := false, zero := [.nil], kind := .ptr 202, id := 17 }
@[simp] theorem T_p_abi_Type_size : T_p_abi_Type.size = 1 := rfl
@[simp] theorem T_p_abi_Type_agg : T_p_abi_Type.agg = false := rfl
@[simp] theorem T_p_abi_Type_zero : T_p_abi_Type.zero = [.nil] := rfl
@[simp] theorem T_p_abi_Type_kind : T_p_abi_Type.kind = .ptr 202 := rfl
@[simp] theorem T_p_abi_Type_id : T_p_abi_Type.id = t_p_abi_Type := rfl
def T_struct_typ_p_abi_Type : TI := { size := 1, bytes := 8, agg := true, zero := [.nil], kind := .struct [(0, 17, 1)], id := 18 }
@[simp] theorem T_struct_typ_p_abi_Type_size : T_struct_typ_p_abi_Type.size = 1 := rfl
@[simp] theorem T_struct_typ_p_abi_Type_agg : T_struct_typ_p_abi_Type.agg = true := rfl
@[simp] theorem T_struct_typ_p_abi_Type_zero : T_struct_typ_p_abi_Type.zero = [.nil] := rfl
@[simp] theorem T_struct_typ_p_abi_Type_kind : T_struct_typ_p_abi_Type.kind = .struct [(0, 17, 1)] := rfl
@[simp] theorem T_struct_typ_p_abi_Type_id : T_struct_typ_p_abi_Type.id = t_struct_typ_p_abi_Type := rfl
def T_maps_unhashableTypeError : TI := { size := 1, bytes := 8, agg := true, zero := [.nil], kind := .struct [(0, 17, 1)], id := 19 }
@[simp] theorem T_maps_unhashableTypeError_size : T_maps_unhashableTypeError.size = 1 := rfl
@[simp] theorem T_maps_unhashableTypeError_agg : T_maps_unhashableTypeError.agg = true := rfl
@[simp] theorem T_maps_unhashableTypeError_zero : T_maps_unhashableTypeError.zero = [.nil] := rfl
@[simp] theorem T_maps_unhashableTypeError_kind : T_maps_unhashableTypeError.kind = .struct [(0, 17, 1)] := rfl
@[simp] theorem T_maps_unhashableTypeError_id : T_maps_unhashableTypeError.id = t_maps_unhashableTypeError := rfl
def T_interface : TI := { size := 1, bytes := 16, agg := false, zero := [.nilifc], kind := .iface, id := 20 }
@[simp] theorem T_interface_size : T_interface.size = 1 := rfl
@[simp] theorem T_interface_agg : T_interface.agg = false := rfl
@[simp] theorem T_interface_zero : T_interface.zero = [.nilifc] := rfl
@[simp] theorem T_interface_kind : T_interface.kind = .iface := rfl
@[simp] theorem T_interface_id : T_interface.id = t_interface := rfl
def T_int32 : TI := { size := 1, bytes := 4, agg := false, zero := [.int .i32 0], kind := .int .i32, id := 21 }
@[simp] theorem T_int32_size : T_int32.size = 1 := rfl
@[simp] theorem T_int32_agg : T_int32.agg = false := rfl
@[simp] theorem T_int32_zero : T_int32.zero = [.int .i32 0] := rfl
@[simp] theorem T_int32_kind : T_int32.kind = .int .i32 := rfl
@[simp] theorem T_int32_id : T_int32.id = t_int32 := rfl
def T_func_bool : TI := { size := 1, bytes := 8, agg := false, zero := [.nilfn], kind := .func, id := 22 }
@[simp] theorem T_func_bool_size : T_func_bool.size = 1 := rfl
@[simp] theorem T_func_bool_agg : T_func_bool.agg = false := rfl
@[simp] theorem T_func_bool_zero : T_func_bool.zero = [.nilfn] := rfl
@[simp] theorem T_func_bool_kind : T_func_bool.kind = .func := rfl
@[simp] theorem T_func_bool_id : T_func_bool.id = t_func_bool := rfl
def T_s_string : TI := { size := 1, bytes := 24, agg := false, zero := [.vs 1 [] .nil], kind := .slice 9, id := 23 }
@[simp] theorem T_s_string_size : T_s_string.size = 1 := rfl
@[simp] theorem T_s_string_agg : T_s_string.agg = false := rfl
@[simp] theorem T_s_string_zero : T_s_string.zero = [.vs 1 [] .nil] := rfl
@[simp] theorem T_s_string_kind : T_s_string.kind = .slice 9 := rfl
@[simp] theorem T_s_string_id : T_s_string.id = t_s_string := rfl
def T_api_Errno : TI := { size := 1, bytes := 8, agg := false, zero := [.int .i64 0], kind := .int .i64, id := 24 }
@[simp] theorem T_api_Errno_size : T_api_Errno.size = 1 := rfl
@[simp] theorem T_api_Errno_agg : T_api_Errno.agg = false := rfl
@[simp] theorem T_api_Errno_zero : T_api_Errno.zero = [.int .i64 0] := rfl
@[simp] theorem T_api_Errno_kind : T_api_Errno.kind = .int .i64 := rfl
@[simp] theorem T_api_Errno_id : T_api_Errno.id = t_api_Errno := rfl
def T_func_string_s_string_bool_api_Errno : TI := { size := 1, bytes := 8, agg := false, zero := [.nilfn], kind := .func, id := 26 }
@[simp] theorem T_func_string_s_string_bool_api_Errno_size : T_func_string_s_string_bool_api_Errno.size = 1 := rfl
@[simp] theorem T_func_string_s_string_bool_api_Errno_agg : T_func_string_s_string_bool_api_Errno.agg = false := rfl
@[simp] theorem T_func_string_s_string_bool_api_Errno_zero : T_func_string_s_string_bool_api_Errno.zero = [.nilfn] := rfl
@[simp] theorem T_func_string_s_string_bool_api_Errno_kind : T_func_string_s_string_bool_api_Errno.kind = .func := rfl
@[simp] theorem T_func_string_s_string_bool_api_Errno_id : T_func_string_s_string_bool_api_Errno.id = t_func_string_s_string_bool_api_Errno := rfl
def T_func_string_s_string_bool : TI := { size := 1, bytes := 8, agg := false, zero := [.nilfn], kind := .func, id := 28 }
@[simp] theorem T_func_string_s_string_bool_size : T_func_string_s_string_bool.size = 1 := rfl
@[simp] theorem T_func_string_s_string_bool_agg : T_func_string_s_string_bool.agg = false := rfl
@[simp] theorem T_func_string_s_string_bool_zero : T_func_string_s_string_bool.zero = [.nilfn] := rfl
@[simp] theorem T_func_string_s_string_bool_kind : T_func_string_s_string_bool.kind = .func := rfl
@[simp] theorem T_func_string_s_string_bool_id : T_func_string_s_string_bool.id = t_func_string_s_string_bool := rfl
def T_func_s_string_s_string_bool : TI := { size := 1, bytes := 8, agg := false, zero := [.nilfn], kind := .func, id := 29 }
@[simp] theorem T_func_s_string_s_string_bool_size : T_func_s_string_s_string_bool.size = 1 := rfl
@[simp] theorem T_func_s_string_s_string_bool_agg : T_func_s_string_s_string_bool.agg = false := rfl
@[simp] theorem T_func_s_string_s_string_bool_zero : T_func_s_string_s_string_bool.zero = [.nilfn] := rfl
@[simp] theorem T_func_s_string_s_string_bool_kind : T_func_s_string_s_string_bool.kind = .func := rfl
@[simp] theorem T_func_s_string_s_string_bool_id : T_func_s_string_s_string_bool.id = t_func_s_string_s_string_bool := rfl
def T_func_string_bool : TI := { size := 1, bytes := 8, agg := false, zero := [.nilfn], kind := .func, id := 30 }
@[simp] theorem T_func_string_bool_size : T_func_string_bool.size = 1 := rfl
@[simp] theorem T_func_string_bool_agg : T_func_string_bool.agg = false := rfl
@[simp] theorem T_func_string_bool_zero : T_func_string_bool.zero = [.nilfn] := rfl
@[simp] theorem T_func_string_bool_kind : T_func_string_bool.kind = .func := rfl
@[simp] theorem T_func_string_bool_id : T_func_string_bool.id = t_func_string_bool := rfl
def T_func_string_string : TI := { size := 1, bytes := 8, agg := false, zero := [.nilfn], kind := .func, id := 31 }
@[simp] theorem T_func_string_string_size : T_func_string_string.size = 1 := rfl
@[simp] theorem T_func_string_string_agg : T_func_string_string.agg = false := rfl
@[simp] theorem T_func_string_string_zero : T_func_string_string.zero = [.nilfn] := rfl
@[simp] theorem T_func_string_string_kind : T_func_string_string.kind = .func := rfl
@[simp] theorem T_func_string_string_id : T_func_string_string.id = t_func_string_string := rfl
def T_func_s_string_string : TI := { size := 1, bytes := 8, agg := false, zero := [.nilfn], kind := .func, id := 32 }
@[simp] theorem T_func_s_string_string_size : T_func_s_string_string.size = 1 := rfl
@[simp] theorem T_func_s_string_string_agg : T_func_s_string_string.agg = false := rfl
@[simp] theorem T_func_s_string_string_zero : T_func_s_string_string.zero = [.nilfn] := rfl
@[simp] theorem T_func_s_string_string_kind : T_func_s_string_string.kind = .func := rfl
@[simp] theorem T_func_s_string_string_id : T_func_s_string_string.id = t_func_s_string_string := rfl
def T_func_string_string_string : TI := { size := 1, bytes := 8, agg := false, zero := [.nilfn], kind := .func, id := 33 }
@[simp] theorem T_func_string_string_string_size : T_func_string_string_string.size = 1 := rfl
@[simp] theorem T_func_string_string_string_agg : T_func_string_string_string.agg = false := rfl
@[simp] theorem T_func_string_string_string_zero : T_func_string_string_string.zero = [.nilfn] := rfl
@[simp] theorem T_func_string_string_string_kind : T_func_string_string_string.kind = .func := rfl
@[simp] theorem T_func_string_string_string_id : T_func_string_string_string.id = t_func_string_string_string := rfl
def T_func_string_string_b43980 : TI := { size := 1, bytes := 8, agg := false, zero := [.nilfn], kind := .func, id := 34 }
@[simp] theorem T_func_string_string_b43980_size : T_func_string_string_b43980.size = 1 := rfl
@[simp] theorem T_func_string_string_b43980_agg : T_func_string_string_b43980.agg = false := rfl
@[simp] theorem T_func_string_string_b43980_zero : T_func_string_string_b43980.zero = [.nilfn] := rfl
@[simp] theorem T_func_string_string_b43980_kind : T_func_string_string_b43980.kind = .func := rfl
@[simp] theorem T_func_string_string_b43980_id : T_func_string_string_b43980.id = t_func_string_string_b43980 := rfl
def T_func_s_string_bool : TI := { size := 1, bytes := 8, agg := false, zero := [.nilfn], kind := .func, id := 35 }
@[simp] theorem T_func_s_string_bool_size : T_func_s_string_bool.size = 1 := rfl
@[simp] theorem T_func_s_string_bool_agg : T_func_s_string_bool.agg = false := rfl
@[simp] theorem T_func_s_string_bool_zero : T_func_s_string_bool.zero = [.nilfn] := rfl
@[simp] theorem T_func_s_string_bool_kind : T_func_s_string_bool.kind = .func := rfl
@[simp] theorem T_func_s_string_bool_id : T_func_s_string_bool.id = t_func_s_string_bool := rfl
def T_s_socagelaw07_Act : TI := { size := 1, bytes := 24, agg := false, zero := [.vs 2 [] .nil], kind := .slice 45, id := 36 }
@[simp] theorem T_s_socagelaw07_Act_size : T_s_socagelaw07_Act.size = 1 := rfl
@[simp] theorem T_s_socagelaw07_Act_agg : T_s_socagelaw07_Act.agg = false := rfl
@[simp] theorem T_s_socagelaw07_Act_zero : T_s_socagelaw07_Act.zero = [.vs 2 [] .nil] := rfl
@[simp] theorem T_s_socagelaw07_Act_kind : T_s_socagelaw07_Act.kind = .slice 45 := rfl
@[simp] theorem T_s_socagelaw07_Act_id : T_s_socagelaw07_Act.id = t_s_socagelaw07_Act := rfl
def T_s_stack_mount : TI := { size := 1, bytes := 24, agg := false, zero := [.vs 2 [] .nil], kind := .slice 105, id := 37 }
@[simp] theorem T_s_stack_mount_size : T_s_stack_mount.size = 1 := rfl
@[simp] theorem T_s_stack_mount_agg : T_s_stack_mount.agg = false := rfl
@[simp] theorem T_s_stack_mount_zero : T_s_stack_mount.zero = [.vs 2 [] .nil] := rfl
@[simp] theorem T_s_stack_mount_kind : T_s_stack_mount.kind = .slice 105 := rfl
@[simp] theorem T_s_stack_mount_id : T_s_stack_mount.id = t_s_stack_mount := rfl
def T_struct_l_s_stack_mount_next_int : TI := { size := 2, bytes := 32, agg := true, zero := [.vs 2 [] .nil, .int .i64 0], kind := .struct [(0, 37, 1), (1, 3, 1)], id := 38 }
@[simp] theorem T_struct_l_s_stack_mount_next_int_size : T_struct_l_s_stack_mount_next_int.size = 2 := rfl
@[simp] theorem T_struct_l_s_stack_mount_next_int_agg : T_struct_l_s_stack_mount_next_int.agg = true := rfl
@[simp] theorem T_struct_l_s_stack_mount_next_int_zero : T_struct_l_s_stack_mount_next_int.zero = [.vs 2 [] .nil, .int .i64 0] := rfl
@[simp] theorem T_struct_l_s_stack_mount_next_int_kind : T_struct_l_s_stack_mount_next_int.kind = .struct [(0, 37, 1), (1, 3, 1)] := rfl
@[simp] theorem T_struct_l_s_stack_mount_next_int_id : T_struct_l_s_stack_mount_next_int.id = t_struct_l_s_stack_mount_next_int := rfl
def T_stack_Stack : TI := { size := 2, bytes := 32, agg := true, zero := [.vs 2 [] .nil, .int .i64 0], kind := .struct [(0, 37, 1), (1, 3, 1)], id := 39 }
@[simp] theorem T_stack_Stack_size : T_stack_Stack.size = 2 := rfl
@[simp] theorem T_stack_Stack_agg : T_stack_Stack.agg = true := rfl
@[simp] theorem T_stack_Stack_zero : T_stack_Stack.zero = [.vs 2 [] .nil, .int .i64 0] := rfl
@[simp] theorem T_stack_Stack_kind : T_stack_Stack.kind = .struct [(0, 37, 1), (1, 3, 1)] := rfl
@[simp] theorem T_stack_Stack_id : T_stack_Stack.id = t_stack_Stack := rfl
def T_s_int : TI := { size := 1, bytes := 24, agg := false, zero := [.vs 1 [] .nil], kind := .slice 3, id := 40 }
@[simp] theorem T_s_int_size : T_s_int.size = 1 := rfl
@[simp] theorem T_s_int_agg : T_s_int.agg = false := rfl
@[simp] theorem T_s_int_zero : T_s_int.zero = [.vs 1 [] .nil] := rfl
@[simp] theorem T_s_int_kind : T_s_int.kind = .slice 3 := rfl
@[simp] theorem T_s_int_id : T_s_int.id = t_s_int := rfl
def T_s_p_branch_Branch : TI := { size := 1, bytes := 24, agg := false, zero := [.vs 1 [] .nil], kind := .slice 48, id := 41 }
@[simp] theorem T_s_p_branch_Branch_size : T_s_p_branch_Branch.size = 1 := rfl
@[simp] theorem T_s_p_branch_Branch_agg : T_s_p_branch_Branch.agg = false := rfl
@[simp] theorem T_s_p_branch_Branch_zero : T_s_p_branch_Branch.zero = [.vs 1 [] .nil] := rfl
@[simp] theorem T_s_p_branch_Branch_kind : T_s_p_branch_Branch.kind = .slice 48 := rfl
@[simp] theorem T_s_p_branch_Branch_id : T_s_p_branch_Branch.id = t_s_p_branch_Branch := rfl
def T_s_stack_Stack : TI := { size := 1, bytes := 24, agg := false, zero := [.vs 2 [] .nil], kind := .slice 39, id := 42 }
@[simp] theorem T_s_stack_Stack_size : T_s_stack_Stack.size = 1 := rfl
@[simp] theorem T_s_stack_Stack_agg : T_s_stack_Stack.agg = false := rfl
@[simp] theorem T_s_stack_Stack_zero : T_s_stack_Stack.zero = [.vs 2 [] .nil] := rfl
@[simp] theorem T_s_stack_Stack_kind : T_s_stack_Stack.kind = .slice 39 := rfl
@[simp] theorem T_s_stack_Stack_id : T_s_stack_Stack.id = t_s_stack_Stack := rfl
def T_s_s_int : TI := { size := 1, bytes := 24, agg := false, zero := [.vs 1 [] .nil], kind := .slice 40, id := 43 }
@[simp] theorem T_s_s_int_size : T_s_s_int.size = 1 := rfl
@[simp] theorem T_s_s_int_agg : T_s_s_int.agg = false := rfl
@[simp] theorem T_s_s_int_zero : T_s_s_int.zero = [.vs 1 [] .nil] := rfl
@[simp] theorem T_s_s_int_kind : T_s_s_int.kind = .slice 40 := rfl
@[simp] theorem T_s_s_int_id : T_s_s_int.id = t_s_s_int := rfl
def T_struct_Out_bool_ID_int : TI := { size := 2, bytes := 16, agg := true, zero := [.bool false, .int .i64 0], kind := .struct [(0, 4, 1), (1, 3, 1)], id := 44 }
@[simp] theorem T_struct_Out_bool_ID_int_size : T_struct_Out_bool_ID_int.size = 2 := rfl
@[simp] theorem T_struct_Out_bool_ID_int_agg : T_struct_Out_bool_ID_int.agg = true := rfl
@[simp] theorem T_struct_Out_bool_ID_int_zero : T_struct_Out_bool_ID_int.zero = [.bool false, .int .i64 0] := rfl
@[simp] theorem T_struct_Out_bool_ID_int_kind : T_struct_Out_bool_ID_int.kind = .struct [(0, 4, 1), (1, 3, 1)] := rfl
@[simp] theorem T_struct_Out_bool_ID_int_id : T_struct_Out_bool_ID_int.id = t_struct_Out_bool_ID_int := rfl
def T_socagelaw07_Act : TI := { size := 2, bytes := 16, agg := true, zero := [.bool false, .int .i64 0], kind := .struct [(0, 4, 1), (1, 3, 1)], id := 45 }
@[simp] theorem T_socagelaw07_Act_size : T_socagelaw07_Act.size = 2 := rfl
@[simp] theorem T_socagelaw07_Act_agg : T_socagelaw07_Act.agg = true := rfl
@[simp] theorem T_socagelaw07_Act_zero : T_socagelaw07_Act.zero = [.bool false, .int .i64 0] := rfl
@[simp] theorem T_socagelaw07_Act_kind : T_socagelaw07_Act.kind = .struct [(0, 4, 1), (1, 3, 1)] := rfl
@[simp] theorem T_socagelaw07_Act_id : T_socagelaw07_Act.id = t_socagelaw07_Act := rfl
def T_func_int_stack_Stack_api_Errno : TI := { size := 1, bytes := 8, agg := false, zero := [.nilfn], kind := .func, id := 47 }
@[simp] theorem T_func_int_stack_Stack_api_Errno_size : T_func_int_stack_Stack_api_Errno.size = 1 := rfl
@[simp] theorem T_func_int_stack_Stack_api_Errno_agg : T_func_int_stack_Stack_api_Errno.agg = false := rfl
@[simp] theorem T_func_int_stack_Stack_api_Errno_zero : T_func_int_stack_Stack_api_Errno.zero = [.nilfn] := rfl
@[simp] theorem T_func_int_stack_Stack_api_Errno_kind : T_func_int_stack_Stack_api_Errno.kind = .func := rfl
@[simp] theorem T_func_int_stack_Stack_api_Errno_id : T_func_int_stack_Stack_api_Errno.id = t_func_int_stack_Stack_api_Errno := rfl
def T_p_branch_Branch : TI := { size := 1, bytes := 8, agg := false, zero := [.nil], kind := .ptr 111, id := 48 }
@[simp] theorem T_p_branch_Branch_size : T_p_branch_Branch.size = 1 := rfl
@[simp] theorem T_p_branch_Branch_agg : T_p_branch_Branch.agg = false := rfl
@[simp] theorem T_p_branch_Branch_zero : T_p_branch_Branch.zero = [.nil] := rfl
@[simp] theorem T_p_branch_Branch_kind : T_p_branch_Branch.kind = .ptr 111 := rfl
@[simp] theorem T_p_branch_Branch_id : T_p_branch_Branch.id = t_p_branch_Branch := rfl
def T_func_api_Node_p_branch_Branch_api_Errno : TI := { size := 1, bytes := 8, agg := false, zero := [.nilfn], kind := .func, id := 50 }
@[simp] theorem T_func_api_Node_p_branch_Branch_api_Errno_size : T_func_api_Node_p_branch_Branch_api_Errno.size = 1 := rfl
@[simp] theorem T_func_api_Node_p_branch_Branch_api_Errno_agg : T_func_api_Node_p_branch_Branch_api_Errno.agg = false := rfl
@[simp] theorem T_func_api_Node_p_branch_Branch_api_Errno_zero : T_func_api_Node_p_branch_Branch_api_Errno.zero = [.nilfn] := rfl
@[simp] theorem T_func_api_Node_p_branch_Branch_api_Errno_kind : T_func_api_Node_p_branch_Branch_api_Errno.kind = .func := rfl
@[simp] theorem T_func_api_Node_p_branch_Branch_api_Errno_id : T_func_api_Node_p_branch_Branch_api_Errno.id = t_func_api_Node_p_branch_Branch_api_Errno := rfl
def T_s_api_Node : TI := { size := 1, bytes := 24, agg := false, zero := [.vs 7 [] .nil], kind := .slice 54, id := 51 }
@[simp] theorem T_s_api_Node_size : T_s_api_Node.size = 1 := rfl
@[simp] theorem T_s_api_Node_agg : T_s_api_Node.agg = false := rfl
@[simp] theorem T_s_api_Node_zero : T_s_api_Node.zero = [.vs 7 [] .nil] := rfl
@[simp] theorem T_s_api_Node_kind : T_s_api_Node.kind = .slice 54 := rfl
@[simp] theorem T_s_api_Node_id : T_s_api_Node.id = t_s_api_Node := rfl
def T_s_api_Extent : TI := { size := 1, bytes := 24, agg := false, zero := [.vs 2 [] .nil], kind := .slice 118, id := 52 }
@[simp] theorem T_s_api_Extent_size : T_s_api_Extent.size = 1 := rfl
@[simp] theorem T_s_api_Extent_agg : T_s_api_Extent.agg = false := rfl
@[simp] theorem T_s_api_Extent_zero : T_s_api_Extent.zero = [.vs 2 [] .nil] := rfl
@[simp] theorem T_s_api_Extent_kind : T_s_api_Extent.kind = .slice 118 := rfl
@[simp] theorem T_s_api_Extent_id : T_s_api_Extent.id = t_s_api_Extent := rfl
def T_struct_Kind_int_Opaque_bool_Names_s_string_Items_8666df6f : TI := { size := 7, bytes := 112, agg := true, zero := [.int .i64 0, .bool false, .vs 1 [] .nil, .vs 7 [] .nil, .int .i64 0, .vs 2 [] .nil, .str []], kind := .struct [(0, 3, 1), (1, 4, 1), (2, 23, 1), (3, 51, 1), (4, 3, 1), (5, 52, 1), (6, 9, 1)], id := 53 }
@[simp] theorem T_struct_Kind_int_Opaque_bool_Names_s_string_Items_8666df6f_size : T_struct_Kind_int_Opaque_bool_Names_s_string_Items_8666df6f.size = 7 := rfl
@[simp] theorem T_struct_Kind_int_Opaque_bool_Names_s_string_Items_8666df6f_agg : T_struct_Kind_int_Opaque_bool_Names_s_string_Items_8666df6f.agg = true := rfl
@[simp] theorem T_struct_Kind_int_Opaque_bool_Names_s_string_Items_8666df6f_zero : T_struct_Kind_int_Opaque_bool_Names_s_string_Items_8666df6f.zero = [.int .i64 0, .bool false, .vs 1 [] .nil, .vs 7 [] .nil, .int .i64 0, .vs 2 [] .nil, .str []] := rfl
@[simp] theorem T_struct_Kind_int_Opaque_bool_Names_s_string_Items_8666df6f_kind : T_struct_Kind_int_Opaque_bool_Names_s_string_Items_8666df6f.kind = .struct [(0, 3, 1), (1, 4, 1), (2, 23, 1), (3, 51, 1), (4, 3, 1), (5, 52, 1), (6, 9, 1)] := rfl
@[simp] theorem T_struct_Kind_int_Opaque_bool_Names_s_string_Items_8666df6f_id : T_struct_Kind_int_Opaque_bool_Names_s_string_Items_8666df6f.id = t_struct_Kind_int_Opaque_bool_Names_s_string_Items_8666df6f := rfl
def T_api_Node : TI := { size := 7, bytes := 112, agg := true, zero := [.int .i64 0, .bool false, .vs 1 [] .nil, .vs 7 [] .nil, .int .i64 0, .vs 2 [] .nil, .str []], kind := .struct [(0, 3, 1), (1, 4, 1), (2, 23, 1), (3, 51, 1), (4, 3, 1), (5, 52, 1), (6, 9, 1)], id := 54 }
@[simp] theorem T_api_Node_size : T_api_Node.size = 7 := rfl
@[simp] theorem T_api_Node_agg : T_api_Node.agg = true := rfl
@[simp] theorem T_api_Node_zero : T_api_Node.zero = [.int .i64 0, .bool false, .vs 1 [] .nil, .vs 7 [] .nil, .int .i64 0, .vs 2 [] .nil, .str []] := rfl
@[simp] theorem T_api_Node_kind : T_api_Node.kind = .struct [(0, 3, 1), (1, 4, 1), (2, 23, 1), (3, 51, 1), (4, 3, 1), (5, 52, 1), (6, 9, 1)] := rfl
@[simp] theorem T_api_Node_id : T_api_Node.id = t_api_Node := rfl
def T_func_s_string_api_Node_api_Node : TI := { size := 1, bytes := 8, agg := false, zero := [.nilfn], kind := .func, id := 55 }
@[simp] theorem T_func_s_string_api_Node_api_Node_size : T_func_s_string_api_Node_api_Node.size = 1 := rfl
@[simp] theorem T_func_s_string_api_Node_api_Node_agg : T_func_s_string_api_Node_api_Node.agg = false := rfl
@[simp] theorem T_func_s_string_api_Node_api_Node_zero : T_func_s_string_api_Node_api_Node.zero = [.nilfn] := rfl
@[simp] theorem T_func_s_string_api_Node_api_Node_kind : T_func_s_string_api_Node_api_Node.kind = .func := rfl
@[simp] theorem T_func_s_string_api_Node_api_Node_id : T_func_s_string_api_Node_api_Node.id = t_func_s_string_api_Node_api_Node := rfl
def T_func_p_branch_Branch_stack_Stack_int_api_Errno : TI := { size := 1, bytes := 8, agg := false, zero := [.nilfn], kind := .func, id := 57 }
@[simp] theorem T_func_p_branch_Branch_stack_Stack_int_api_Errno_size : T_func_p_branch_Branch_stack_Stack_int_api_Errno.size = 1 := rfl
@[simp] theorem T_func_p_branch_Branch_stack_Stack_int_api_Errno_agg : T_func_p_branch_Branch_stack_Stack_int_api_Errno.agg = false := rfl
@[simp] theorem T_func_p_branch_Branch_stack_Stack_int_api_Errno_zero : T_func_p_branch_Branch_stack_Stack_int_api_Errno.zero = [.nilfn] := rfl
@[simp] theorem T_func_p_branch_Branch_stack_Stack_int_api_Errno_kind : T_func_p_branch_Branch_stack_Stack_int_api_Errno.kind = .func := rfl
@[simp] theorem T_func_p_branch_Branch_stack_Stack_int_api_Errno_id : T_func_p_branch_Branch_stack_Stack_int_api_Errno.id = t_func_p_branch_Branch_stack_Stack_int_api_Errno := rfl
def T_func_stack_Stack_s_int_s_p_branch_Branch_bool : TI := { size := 1, bytes := 8, agg := false, zero := [.nilfn], kind := .func, id := 58 }
@[simp] theorem T_func_stack_Stack_s_int_s_p_branch_Branch_bool_size : T_func_stack_Stack_s_int_s_p_branch_Branch_bool.size = 1 := rfl
@[simp] theorem T_func_stack_Stack_s_int_s_p_branch_Branch_bool_agg : T_func_stack_Stack_s_int_s_p_branch_Branch_bool.agg = false := rfl
@[simp] theorem T_func_stack_Stack_s_int_s_p_branch_Branch_bool_zero : T_func_stack_Stack_s_int_s_p_branch_Branch_bool.zero = [.nilfn] := rfl
@[simp] theorem T_func_stack_Stack_s_int_s_p_branch_Branch_bool_kind : T_func_stack_Stack_s_int_s_p_branch_Branch_bool.kind = .func := rfl
@[simp] theorem T_func_stack_Stack_s_int_s_p_branch_Branch_bool_id : T_func_stack_Stack_s_int_s_p_branch_Branch_bool.id = t_func_stack_Stack_s_int_s_p_branch_Branch_bool := rfl
def T_func_s_socagelaw07_Act_bool : TI := { size := 1, bytes := 8, agg := false, zero := [.nilfn], kind := .func, id := 59 }
@[simp] theorem T_func_s_socagelaw07_Act_bool_size : T_func_s_socagelaw07_Act_bool.size = 1 := rfl
@[simp] theorem T_func_s_socagelaw07_Act_bool_agg : T_func_s_socagelaw07_Act_bool.agg = false := rfl
@[simp] theorem T_func_s_socagelaw07_Act_bool_zero : T_func_s_socagelaw07_Act_bool.zero = [.nilfn] := rfl
@[simp] theorem T_func_s_socagelaw07_Act_bool_kind : T_func_s_socagelaw07_Act_bool.kind = .func := rfl
@[simp] theorem T_func_s_socagelaw07_Act_bool_id : T_func_s_socagelaw07_Act_bool.id = t_func_s_socagelaw07_Act_bool := rfl
def T_func_api_Node_int : TI := { size := 1, bytes := 8, agg := false, zero := [.nilfn], kind := .func, id := 60 }
@[simp] theorem T_func_api_Node_int_size : T_func_api_Node_int.size = 1 := rfl
@[simp] theorem T_func_api_Node_int_agg : T_func_api_Node_int.agg = false := rfl
@[simp] theorem T_func_api_Node_int_zero : T_func_api_Node_int.zero = [.nilfn] := rfl
@[simp] theorem T_func_api_Node_int_kind : T_func_api_Node_int.kind = .func := rfl
@[simp] theorem T_func_api_Node_int_id : T_func_api_Node_int.id = t_func_api_Node_int := rfl
def T_func_api_Node_bool : TI := { size := 1, bytes := 8, agg := false, zero := [.nilfn], kind := .func, id := 61 }
@[simp] theorem T_func_api_Node_bool_size : T_func_api_Node_bool.size = 1 := rfl
@[simp] theorem T_func_api_Node_bool_agg : T_func_api_Node_bool.agg = false := rfl
@[simp] theorem T_func_api_Node_bool_zero : T_func_api_Node_bool.zero = [.nilfn] := rfl
@[simp] theorem T_func_api_Node_bool_kind : T_func_api_Node_bool.kind = .func := rfl
@[simp] theorem T_func_api_Node_bool_id : T_func_api_Node_bool.id = t_func_api_Node_bool := rfl
def T_func_api_Node_stack_Stack_api_Errno : TI := { size := 1, bytes := 8, agg := false, zero := [.nilfn], kind := .func, id := 62 }
@[simp] theorem T_func_api_Node_stack_Stack_api_Errno_size : T_func_api_Node_stack_Stack_api_Errno.size = 1 := rfl
@[simp] theorem T_func_api_Node_stack_Stack_api_Errno_agg : T_func_api_Node_stack_Stack_api_Errno.agg = false := rfl
@[simp] theorem T_func_api_Node_stack_Stack_api_Errno_zero : T_func_api_Node_stack_Stack_api_Errno.zero = [.nilfn] := rfl
@[simp] theorem T_func_api_Node_stack_Stack_api_Errno_kind : T_func_api_Node_stack_Stack_api_Errno.kind = .func := rfl
@[simp] theorem T_func_api_Node_stack_Stack_api_Errno_id : T_func_api_Node_stack_Stack_api_Errno.id = t_func_api_Node_stack_Stack_api_Errno := rfl
def T_func_int : TI := { size := 1, bytes := 8, agg := false, zero := [.nilfn], kind := .func, id := 63 }
@[simp] theorem T_func_int_size : T_func_int.size = 1 := rfl
@[simp] theorem T_func_int_agg : T_func_int.agg = false := rfl
@[simp] theorem T_func_int_zero : T_func_int.zero = [.nilfn] := rfl
@[simp] theorem T_func_int_kind : T_func_int.kind = .func := rfl
@[simp] theorem T_func_int_id : T_func_int.id = t_func_int := rfl
def T_func_int_p_branch_Branch : TI := { size := 1, bytes := 8, agg := false, zero := [.nilfn], kind := .func, id := 64 }
@[simp] theorem T_func_int_p_branch_Branch_size : T_func_int_p_branch_Branch.size = 1 := rfl
@[simp] theorem T_func_int_p_branch_Branch_agg : T_func_int_p_branch_Branch.agg = false := rfl
@[simp] theorem T_func_int_p_branch_Branch_zero : T_func_int_p_branch_Branch.zero = [.nilfn] := rfl
@[simp] theorem T_func_int_p_branch_Branch_kind : T_func_int_p_branch_Branch.kind = .func := rfl
@[simp] theorem T_func_int_p_branch_Branch_id : T_func_int_p_branch_Branch.id = t_func_int_p_branch_Branch := rfl
def T_func_int_int : TI := { size := 1, bytes := 8, agg := false, zero := [.nilfn], kind := .func, id := 65 }
@[simp] theorem T_func_int_int_size : T_func_int_int.size = 1 := rfl
@[simp] theorem T_func_int_int_agg : T_func_int_int.agg = false := rfl
@[simp] theorem T_func_int_int_zero : T_func_int_int.zero = [.nilfn] := rfl
@[simp] theorem T_func_int_int_kind : T_func_int_int.kind = .func := rfl
@[simp] theorem T_func_int_int_id : T_func_int_int.id = t_func_int_int := rfl
def T_func_s_api_Node_uint8_bool : TI := { size := 1, bytes := 8, agg := false, zero := [.nilfn], kind := .func, id := 66 }
@[simp] theorem T_func_s_api_Node_uint8_bool_size : T_func_s_api_Node_uint8_bool.size = 1 := rfl
@[simp] theorem T_func_s_api_Node_uint8_bool_agg : T_func_s_api_Node_uint8_bool.agg = false := rfl
@[simp] theorem T_func_s_api_Node_uint8_bool_zero : T_func_s_api_Node_uint8_bool.zero = [.nilfn] := rfl
@[simp] theorem T_func_s_api_Node_uint8_bool_kind : T_func_s_api_Node_uint8_bool.kind = .func := rfl
@[simp] theorem T_func_s_api_Node_uint8_bool_id : T_func_s_api_Node_uint8_bool.id = t_func_s_api_Node_uint8_bool := rfl
def T_func_api_Node_api_Node_bool : TI := { size := 1, bytes := 8, agg := false, zero := [.nilfn], kind := .func, id := 67 }
@[simp] theorem T_func_api_Node_api_Node_bool_size : T_func_api_Node_api_Node_bool.size = 1 := rfl
@[simp] theorem T_func_api_Node_api_Node_bool_agg : T_func_api_Node_api_Node_bool.agg = false := rfl
@[simp] theorem T_func_api_Node_api_Node_bool_zero : T_func_api_Node_api_Node_bool.zero = [.nilfn] := rfl
@[simp] theorem T_func_api_Node_api_Node_bool_kind : T_func_api_Node_api_Node_bool.kind = .func := rfl
@[simp] theorem T_func_api_Node_api_Node_bool_id : T_func_api_Node_api_Node_bool.id = t_func_api_Node_api_Node_bool := rfl
def T_func_api_Node_string_api_Node_bool : TI := { size := 1, bytes := 8, agg := false, zero := [.nilfn], kind := .func, id := 69 }
@[simp] theorem T_func_api_Node_string_api_Node_bool_size : T_func_api_Node_string_api_Node_bool.size = 1 := rfl
@[simp] theorem T_func_api_Node_string_api_Node_bool_agg : T_func_api_Node_string_api_Node_bool.agg = false := rfl
@[simp] theorem T_func_api_Node_string_api_Node_bool_zero : T_func_api_Node_string_api_Node_bool.zero = [.nilfn] := rfl
@[simp] theorem T_func_api_Node_string_api_Node_bool_kind : T_func_api_Node_string_api_Node_bool.kind = .func := rfl
@[simp] theorem T_func_api_Node_string_api_Node_bool_id : T_func_api_Node_string_api_Node_bool.id = t_func_api_Node_string_api_Node_bool := rfl
def T_func_api_Node_string_int : TI := { size := 1, bytes := 8, agg := false, zero := [.nilfn], kind := .func, id := 70 }
@[simp] theorem T_func_api_Node_string_int_size : T_func_api_Node_string_int.size = 1 := rfl
@[simp] theorem T_func_api_Node_string_int_agg : T_func_api_Node_string_int.agg = false := rfl
@[simp] theorem T_func_api_Node_string_int_zero : T_func_api_Node_string_int.zero = [.nilfn] := rfl
@[simp] theorem T_func_api_Node_string_int_kind : T_func_api_Node_string_int.kind = .func := rfl
@[simp] theorem T_func_api_Node_string_int_id : T_func_api_Node_string_int.id = t_func_api_Node_string_int := rfl
def T_func_api_Node_api_Node_string_bool : TI := { size := 1, bytes := 8, agg := false, zero := [.nilfn], kind := .func, id := 71 }
@[simp] theorem T_func_api_Node_api_Node_string_bool_size : T_func_api_Node_api_Node_string_bool.size = 1 := rfl
@[simp] theorem T_func_api_Node_api_Node_string_bool_agg : T_func_api_Node_api_Node_string_bool.agg = false := rfl
@[simp] theorem T_func_api_Node_api_Node_string_bool_zero : T_func_api_Node_api_Node_string_bool.zero = [.nilfn] := rfl
@[simp] theorem T_func_api_Node_api_Node_string_bool_kind : T_func_api_Node_api_Node_string_bool.kind = .func := rfl
@[simp] theorem T_func_api_Node_api_Node_string_bool_id : T_func_api_Node_api_Node_string_bool.id = t_func_api_Node_api_Node_string_bool := rfl
def T_func_string_api_Node : TI := { size := 1, bytes := 8, agg := false, zero := [.nilfn], kind := .func, id := 72 }
@[simp] theorem T_func_string_api_Node_size : T_func_string_api_Node.size = 1 := rfl
@[simp] theorem T_func_string_api_Node_agg : T_func_string_api_Node.agg = false := rfl
@[simp] theorem T_func_string_api_Node_zero : T_func_string_api_Node.zero = [.nilfn] := rfl
@[simp] theorem T_func_string_api_Node_kind : T_func_string_api_Node.kind = .func := rfl
@[simp] theorem T_func_string_api_Node_id : T_func_string_api_Node.id = t_func_string_api_Node := rfl
def T_func_int_s_api_Extent_int_int_string : TI := { size := 1, bytes := 8, agg := false, zero := [.nilfn], kind := .func, id := 73 }
@[simp] theorem T_func_int_s_api_Extent_int_int_string_size : T_func_int_s_api_Extent_int_int_string.size = 1 := rfl
@[simp] theorem T_func_int_s_api_Extent_int_int_string_agg : T_func_int_s_api_Extent_int_int_string.agg = false := rfl
@[simp] theorem T_func_int_s_api_Extent_int_int_string_zero : T_func_int_s_api_Extent_int_int_string.zero = [.nilfn] := rfl
@[simp] theorem T_func_int_s_api_Extent_int_int_string_kind : T_func_int_s_api_Extent_int_int_string.kind = .func := rfl
@[simp] theorem T_func_int_s_api_Extent_int_int_string_id : T_func_int_s_api_Extent_int_int_string.id = t_func_int_s_api_Extent_int_int_string := rfl
def T_func_api_Node : TI := { size := 1, bytes := 8, agg := false, zero := [.nilfn], kind := .func, id := 74 }
@[simp] theorem T_func_api_Node_size : T_func_api_Node.size = 1 := rfl
@[simp] theorem T_func_api_Node_agg : T_func_api_Node.agg = false := rfl
@[simp] theorem T_func_api_Node_zero : T_func_api_Node.zero = [.nilfn] := rfl
@[simp] theorem T_func_api_Node_kind : T_func_api_Node.kind = .func := rfl
@[simp] theorem T_func_api_Node_id : T_func_api_Node.id = t_func_api_Node := rfl
def T_func_api_Node_api_Node : TI := { size := 1, bytes := 8, agg := false, zero := [.nilfn], kind := .func, id := 75 }
@[simp] theorem T_func_api_Node_api_Node_size : T_func_api_Node_api_Node.size = 1 := rfl
@[simp] theorem T_func_api_Node_api_Node_agg : T_func_api_Node_api_Node.agg = false := rfl
@[simp] theorem T_func_api_Node_api_Node_zero : T_func_api_Node_api_Node.zero = [.nilfn] := rfl
@[simp] theorem T_func_api_Node_api_Node_kind : T_func_api_Node_api_Node.kind = .func := rfl
@[simp] theorem T_func_api_Node_api_Node_id : T_func_api_Node_api_Node.id = t_func_api_Node_api_Node := rfl
def T_func_string_s_string_uint8_bool : TI := { size := 1, bytes := 8, agg := false, zero := [.nilfn], kind := .func, id := 76 }
@[simp] theorem T_func_string_s_string_uint8_bool_size : T_func_string_s_string_uint8_bool.size = 1 := rfl
@[simp] theorem T_func_string_s_string_uint8_bool_agg : T_func_string_s_string_uint8_bool.agg = false := rfl
@[simp] theorem T_func_string_s_string_uint8_bool_zero : T_func_string_s_string_uint8_bool.zero = [.nilfn] := rfl
@[simp] theorem T_func_string_s_string_uint8_bool_kind : T_func_string_s_string_uint8_bool.kind = .func := rfl
@[simp] theorem T_func_string_s_string_uint8_bool_id : T_func_string_s_string_uint8_bool.id = t_func_string_s_string_uint8_bool := rfl
def T_func_api_Node_string_api_Errno : TI := { size := 1, bytes := 8, agg := false, zero := [.nilfn], kind := .func, id := 78 }
@[simp] theorem T_func_api_Node_string_api_Errno_size : T_func_api_Node_string_api_Errno.size = 1 := rfl
@[simp] theorem T_func_api_Node_string_api_Errno_agg : T_func_api_Node_string_api_Errno.agg = false := rfl
@[simp] theorem T_func_api_Node_string_api_Errno_zero : T_func_api_Node_string_api_Errno.zero = [.nilfn] := rfl
@[simp] theorem T_func_api_Node_string_api_Errno_kind : T_func_api_Node_string_api_Errno.kind = .func := rfl
@[simp] theorem T_func_api_Node_string_api_Errno_id : T_func_api_Node_string_api_Errno.id = t_func_api_Node_string_api_Errno := rfl
def T_func_api_Node_string_bool : TI := { size := 1, bytes := 8, agg := false, zero := [.nilfn], kind := .func, id := 80 }
@[simp] theorem T_func_api_Node_string_bool_size : T_func_api_Node_string_bool.size = 1 := rfl
@[simp] theorem T_func_api_Node_string_bool_agg : T_func_api_Node_string_bool.agg = false := rfl
@[simp] theorem T_func_api_Node_string_bool_zero : T_func_api_Node_string_bool.zero = [.nilfn] := rfl
@[simp] theorem T_func_api_Node_string_bool_kind : T_func_api_Node_string_bool.kind = .func := rfl
@[simp] theorem T_func_api_Node_string_bool_id : T_func_api_Node_string_bool.id = t_func_api_Node_string_bool := rfl
def T_func_string_api_Node_api_Errno : TI := { size := 1, bytes := 8, agg := false, zero := [.nilfn], kind := .func, id := 82 }
@[simp] theorem T_func_string_api_Node_api_Errno_size : T_func_string_api_Node_api_Errno.size = 1 := rfl
@[simp] theorem T_func_string_api_Node_api_Errno_agg : T_func_string_api_Node_api_Errno.agg = false := rfl
@[simp] theorem T_func_string_api_Node_api_Errno_zero : T_func_string_api_Node_api_Errno.zero = [.nilfn] := rfl
@[simp] theorem T_func_string_api_Node_api_Errno_kind : T_func_string_api_Node_api_Errno.kind = .func := rfl
@[simp] theorem T_func_string_api_Node_api_Errno_id : T_func_string_api_Node_api_Errno.id = t_func_string_api_Node_api_Errno := rfl
def T_func_string_api_Node_bool : TI := { size := 1, bytes := 8, agg := false, zero := [.nilfn], kind := .func, id := 83 }
@[simp] theorem T_func_string_api_Node_bool_size : T_func_string_api_Node_bool.size = 1 := rfl
@[simp] theorem T_func_string_api_Node_bool_agg : T_func_string_api_Node_bool.agg = false := rfl
@[simp] theorem T_func_string_api_Node_bool_zero : T_func_string_api_Node_bool.zero = [.nilfn] := rfl
@[simp] theorem T_func_string_api_Node_bool_kind : T_func_string_api_Node_bool.kind = .func := rfl
@[simp] theorem T_func_string_api_Node_bool_id : T_func_string_api_Node_bool.id = t_func_string_api_Node_bool := rfl
def T_uint16 : TI := { size := 1, bytes := 2, agg := false, zero := [.int .u16 0], kind := .int .u16, id := 84 }
@[simp] theorem T_uint16_size : T_uint16.size = 1 := rfl
@[simp] theorem T_uint16_agg : T_uint16.agg = false := rfl
@[simp] theorem T_uint16_zero : T_uint16.zero = [.int .u16 0] := rfl
@[simp] theorem T_uint16_kind : T_uint16.kind = .int .u16 := rfl
@[simp] theorem T_uint16_id : T_uint16.id = t_uint16 := rfl
def T_func_api_Node_uint16_string_bool : TI := { size := 1, bytes := 8, agg := false, zero := [.nilfn], kind := .func, id := 85 }
@[simp] theorem T_func_api_Node_uint16_string_bool_size : T_func_api_Node_uint16_string_bool.size = 1 := rfl
@[simp] theorem T_func_api_Node_uint16_string_bool_agg : T_func_api_Node_uint16_string_bool.agg = false := rfl
@[simp] theorem T_func_api_Node_uint16_string_bool_zero : T_func_api_Node_uint16_string_bool.zero = [.nilfn] := rfl
@[simp] theorem T_func_api_Node_uint16_string_bool_kind : T_func_api_Node_uint16_string_bool.kind = .func := rfl
@[simp] theorem T_func_api_Node_uint16_string_bool_id : T_func_api_Node_uint16_string_bool.id = t_func_api_Node_uint16_string_bool := rfl
def T_func_s_api_Node_int : TI := { size := 1, bytes := 8, agg := false, zero := [.nilfn], kind := .func, id := 86 }
@[simp] theorem T_func_s_api_Node_int_size : T_func_s_api_Node_int.size = 1 := rfl
@[simp] theorem T_func_s_api_Node_int_agg : T_func_s_api_Node_int.agg = false := rfl
@[simp] theorem T_func_s_api_Node_int_zero : T_func_s_api_Node_int.zero = [.nilfn] := rfl
@[simp] theorem T_func_s_api_Node_int_kind : T_func_s_api_Node_int.kind = .func := rfl
@[simp] theorem T_func_s_api_Node_int_id : T_func_s_api_Node_int.id = t_func_s_api_Node_int := rfl
def T_func_s_api_Node_stack_Stack_bool : TI := { size := 1, bytes := 8, agg := false, zero := [.nilfn], kind := .func, id := 88 }
@[simp] theorem T_func_s_api_Node_stack_Stack_bool_size : T_func_s_api_Node_stack_Stack_bool.size = 1 := rfl
@[simp] theorem T_func_s_api_Node_stack_Stack_bool_agg : T_func_s_api_Node_stack_Stack_bool.agg = false := rfl
@[simp] theorem T_func_s_api_Node_stack_Stack_bool_zero : T_func_s_api_Node_stack_Stack_bool.zero = [.nilfn] := rfl
@[simp] theorem T_func_s_api_Node_stack_Stack_bool_kind : T_func_s_api_Node_stack_Stack_bool.kind = .func := rfl
@[simp] theorem T_func_s_api_Node_stack_Stack_bool_id : T_func_s_api_Node_stack_Stack_bool.id = t_func_s_api_Node_stack_Stack_bool := rfl
def T_struct_Level_int_Inode_int : TI := { size := 2, bytes := 16, agg := true, zero := [.int .i64 0, .int .i64 0], kind := .struct [(0, 3, 1), (1, 3, 1)], id := 89 }
@[simp] theorem T_struct_Level_int_Inode_int_size : T_struct_Level_int_Inode_int.size = 2 := rfl
@[simp] theorem T_struct_Level_int_Inode_int_agg : T_struct_Level_int_Inode_int.agg = true := rfl
@[simp] theorem T_struct_Level_int_Inode_int_zero : T_struct_Level_int_Inode_int.zero = [.int .i64 0, .int .i64 0] := rfl
@[simp] theorem T_struct_Level_int_Inode_int_kind : T_struct_Level_int_Inode_int.kind = .struct [(0, 3, 1), (1, 3, 1)] := rfl
@[simp] theorem T_struct_Level_int_Inode_int_id : T_struct_Level_int_Inode_int.id = t_struct_Level_int_Inode_int := rfl
def T_seen_Spot : TI := { size := 2, bytes := 16, agg := true, zero := [.int .i64 0, .int .i64 0], kind := .struct [(0, 3, 1), (1, 3, 1)], id := 90 }
@[simp] theorem T_seen_Spot_size : T_seen_Spot.size = 2 := rfl
@[simp] theorem T_seen_Spot_agg : T_seen_Spot.agg = true := rfl
@[simp] theorem T_seen_Spot_zero : T_seen_Spot.zero = [.int .i64 0, .int .i64 0] := rfl
@[simp] theorem T_seen_Spot_kind : T_seen_Spot.kind = .struct [(0, 3, 1), (1, 3, 1)] := rfl
@[simp] theorem T_seen_Spot_id : T_seen_Spot.id = t_seen_Spot := rfl
def T_s_seen_Spot : TI := { size := 1, bytes := 24, agg := false, zero := [.vs 2 [] .nil], kind := .slice 90, id := 91 }
@[simp] theorem T_s_seen_Spot_size : T_s_seen_Spot.size = 1 := rfl
@[simp] theorem T_s_seen_Spot_agg : T_s_seen_Spot.agg = false := rfl
@[simp] theorem T_s_seen_Spot_zero : T_s_seen_Spot.zero = [.vs 2 [] .nil] := rfl
@[simp] theorem T_s_seen_Spot_kind : T_s_seen_Spot.kind = .slice 90 := rfl
@[simp] theorem T_s_seen_Spot_id : T_s_seen_Spot.id = t_s_seen_Spot := rfl
def T_seen_Place : TI := { size := 1, bytes := 24, agg := false, zero := [.vs 2 [] .nil], kind := .slice 90, id := 92 }
@[simp] theorem T_seen_Place_size : T_seen_Place.size = 1 := rfl
@[simp] theorem T_seen_Place_agg : T_seen_Place.agg = false := rfl
@[simp] theorem T_seen_Place_zero : T_seen_Place.zero = [.vs 2 [] .nil] := rfl
@[simp] theorem T_seen_Place_kind : T_seen_Place.kind = .slice 90 := rfl
@[simp] theorem T_seen_Place_id : T_seen_Place.id = t_seen_Place := rfl
def T_struct_Kind_int_seen_Spot_Dirs_seen_Place : TI := { size := 4, bytes := 48, agg := true, zero := [.int .i64 0, .int .i64 0, .int .i64 0, .vs 2 [] .nil], kind := .struct [(0, 3, 1), (1, 90, 2), (3, 92, 1)], id := 93 }
@[simp] theorem T_struct_Kind_int_seen_Spot_Dirs_seen_Place_size : T_struct_Kind_int_seen_Spot_Dirs_seen_Place.size = 4 := rfl
@[simp] theorem T_struct_Kind_int_seen_Spot_Dirs_seen_Place_agg : T_struct_Kind_int_seen_Spot_Dirs_seen_Place.agg = true := rfl
@[simp] theorem T_struct_Kind_int_seen_Spot_Dirs_seen_Place_zero : T_struct_Kind_int_seen_Spot_Dirs_seen_Place.zero = [.int .i64 0, .int .i64 0, .int .i64 0, .vs 2 [] .nil] := rfl
@[simp] theorem T_struct_Kind_int_seen_Spot_Dirs_seen_Place_kind : T_struct_Kind_int_seen_Spot_Dirs_seen_Place.kind = .struct [(0, 3, 1), (1, 90, 2), (3, 92, 1)] := rfl
@[simp] theorem T_struct_Kind_int_seen_Spot_Dirs_seen_Place_id : T_struct_Kind_int_seen_Spot_Dirs_seen_Place.id = t_struct_Kind_int_seen_Spot_Dirs_seen_Place := rfl
def T_seen_Found : TI := { size := 4, bytes := 48, agg := true, zero := [.int .i64 0, .int .i64 0, .int .i64 0, .vs 2 [] .nil], kind := .struct [(0, 3, 1), (1, 90, 2), (3, 92, 1)], id := 94 }
@[simp] theorem T_seen_Found_size : T_seen_Found.size = 4 := rfl
@[simp] theorem T_seen_Found_agg : T_seen_Found.agg = true := rfl
@[simp] theorem T_seen_Found_zero : T_seen_Found.zero = [.int .i64 0, .int .i64 0, .int .i64 0, .vs 2 [] .nil] := rfl
@[simp] theorem T_seen_Found_kind : T_seen_Found.kind = .struct [(0, 3, 1), (1, 90, 2), (3, 92, 1)] := rfl
@[simp] theorem T_seen_Found_id : T_seen_Found.id = t_seen_Found := rfl
def T_func_stack_Stack_seen_Place_string_seen_Found_bool : TI := { size := 1, bytes := 8, agg := false, zero := [.nilfn], kind := .func, id := 96 }
@[simp] theorem T_func_stack_Stack_seen_Place_string_seen_Found_bool_size : T_func_stack_Stack_seen_Place_string_seen_Found_bool.size = 1 := rfl
@[simp] theorem T_func_stack_Stack_seen_Place_string_seen_Found_bool_agg : T_func_stack_Stack_seen_Place_string_seen_Found_bool.agg = false := rfl
@[simp] theorem T_func_stack_Stack_seen_Place_string_seen_Found_bool_zero : T_func_stack_Stack_seen_Place_string_seen_Found_bool.zero = [.nilfn] := rfl
@[simp] theorem T_func_stack_Stack_seen_Place_string_seen_Found_bool_kind : T_func_stack_Stack_seen_Place_string_seen_Found_bool.kind = .func := rfl
@[simp] theorem T_func_stack_Stack_seen_Place_string_seen_Found_bool_id : T_func_stack_Stack_seen_Place_string_seen_Found_bool.id = t_func_stack_Stack_seen_Place_string_seen_Found_bool := rfl
def T_func_stack_Stack_seen_Place : TI := { size := 1, bytes := 8, agg := false, zero := [.nilfn], kind := .func, id := 97 }
@[simp] theorem T_func_stack_Stack_seen_Place_size : T_func_stack_Stack_seen_Place.size = 1 := rfl
@[simp] theorem T_func_stack_Stack_seen_Place_agg : T_func_stack_Stack_seen_Place.agg = false := rfl
@[simp] theorem T_func_stack_Stack_seen_Place_zero : T_func_stack_Stack_seen_Place.zero = [.nilfn] := rfl
@[simp] theorem T_func_stack_Stack_seen_Place_kind : T_func_stack_Stack_seen_Place.kind = .func := rfl
@[simp] theorem T_func_stack_Stack_seen_Place_id : T_func_stack_Stack_seen_Place.id = t_func_stack_Stack_seen_Place := rfl
def T_func_api_Node_s_api_Node_string_bool : TI := { size := 1, bytes := 8, agg := false, zero := [.nilfn], kind := .func, id := 98 }
@[simp] theorem T_func_api_Node_s_api_Node_string_bool_size : T_func_api_Node_s_api_Node_string_bool.size = 1 := rfl
@[simp] theorem T_func_api_Node_s_api_Node_string_bool_agg : T_func_api_Node_s_api_Node_string_bool.agg = false := rfl
@[simp] theorem T_func_api_Node_s_api_Node_string_bool_zero : T_func_api_Node_s_api_Node_string_bool.zero = [.nilfn] := rfl
@[simp] theorem T_func_api_Node_s_api_Node_string_bool_kind : T_func_api_Node_s_api_Node_string_bool.kind = .func := rfl
@[simp] theorem T_func_api_Node_s_api_Node_string_bool_id : T_func_api_Node_s_api_Node_string_bool.id = t_func_api_Node_s_api_Node_string_bool := rfl
def T_func_string_string_s_string : TI := { size := 1, bytes := 8, agg := false, zero := [.nilfn], kind := .func, id := 99 }
@[simp] theorem T_func_string_string_s_string_size : T_func_string_string_s_string.size = 1 := rfl
@[simp] theorem T_func_string_string_s_string_agg : T_func_string_string_s_string.agg = false := rfl
@[simp] theorem T_func_string_string_s_string_zero : T_func_string_string_s_string.zero = [.nilfn] := rfl
@[simp] theorem T_func_string_string_s_string_kind : T_func_string_string_s_string.kind = .func := rfl
@[simp] theorem T_func_string_string_s_string_id : T_func_string_string_s_string.id = t_func_string_string_s_string := rfl
def T_func_string_string_bool : TI := { size := 1, bytes := 8, agg := false, zero := [.nilfn], kind := .func, id := 100 }
@[simp] theorem T_func_string_string_bool_size : T_func_string_string_bool.size = 1 := rfl
@[simp] theorem T_func_string_string_bool_agg : T_func_string_string_bool.agg = false := rfl
@[simp] theorem T_func_string_string_bool_zero : T_func_string_string_bool.zero = [.nilfn] := rfl
@[simp] theorem T_func_string_string_bool_kind : T_func_string_string_bool.kind = .func := rfl
@[simp] theorem T_func_string_string_bool_id : T_func_string_string_bool.id = t_func_string_string_bool := rfl
def T_func_s_string_string_string : TI := { size := 1, bytes := 8, agg := false, zero := [.nilfn], kind := .func, id := 101 }
@[simp] theorem T_func_s_string_string_string_size : T_func_s_string_string_string.size = 1 := rfl
@[simp] theorem T_func_s_string_string_string_agg : T_func_s_string_string_string.agg = false := rfl
@[simp] theorem T_func_s_string_string_string_zero : T_func_s_string_string_string.zero = [.nilfn] := rfl
@[simp] theorem T_func_s_string_string_string_kind : T_func_s_string_string_string.kind = .func := rfl
@[simp] theorem T_func_s_string_string_string_id : T_func_s_string_string_string.id = t_func_s_string_string_string := rfl
def T_func_string_uint8_int : TI := { size := 1, bytes := 8, agg := false, zero := [.nilfn], kind := .func, id := 102 }
@[simp] theorem T_func_string_uint8_int_size : T_func_string_uint8_int.size = 1 := rfl
@[simp] theorem T_func_string_uint8_int_agg : T_func_string_uint8_int.agg = false := rfl
@[simp] theorem T_func_string_uint8_int_zero : T_func_string_uint8_int.zero = [.nilfn] := rfl
@[simp] theorem T_func_string_uint8_int_kind : T_func_string_uint8_int.kind = .func := rfl
@[simp] theorem T_func_string_uint8_int_id : T_func_string_uint8_int.id = t_func_string_uint8_int := rfl
def T_func_s_stack_mount_func_stack_mount_bool_int : TI := { size := 1, bytes := 8, agg := false, zero := [.nilfn], kind := .func, id := 103 }
@[simp] theorem T_func_s_stack_mount_func_stack_mount_bool_int_size : T_func_s_stack_mount_func_stack_mount_bool_int.size = 1 := rfl
@[simp] theorem T_func_s_stack_mount_func_stack_mount_bool_int_agg : T_func_s_stack_mount_func_stack_mount_bool_int.agg = false := rfl
@[simp] theorem T_func_s_stack_mount_func_stack_mount_bool_int_zero : T_func_s_stack_mount_func_stack_mount_bool_int.zero = [.nilfn] := rfl
@[simp] theorem T_func_s_stack_mount_func_stack_mount_bool_int_kind : T_func_s_stack_mount_func_stack_mount_bool_int.kind = .func := rfl
@[simp] theorem T_func_s_stack_mount_func_stack_mount_bool_int_id : T_func_s_stack_mount_func_stack_mount_bool_int.id = t_func_s_stack_mount_func_stack_mount_bool_int := rfl
def T_struct_id_int_p_branch_Branch : TI := { size := 2, bytes := 16, agg := true, zero := [.int .i64 0, .nil], kind := .struct [(0, 3, 1), (1, 48, 1)], id := 104 }
@[simp] theorem T_struct_id_int_p_branch_Branch_size : T_struct_id_int_p_branch_Branch.size = 2 := rfl
@[simp] theorem T_struct_id_int_p_branch_Branch_agg : T_struct_id_int_p_branch_Branch.agg = true := rfl
@[simp] theorem T_struct_id_int_p_branch_Branch_zero : T_struct_id_int_p_branch_Branch.zero = [.int .i64 0, .nil] := rfl
@[simp] theorem T_struct_id_int_p_branch_Branch_kind : T_struct_id_int_p_branch_Branch.kind = .struct [(0, 3, 1), (1, 48, 1)] := rfl
@[simp] theorem T_struct_id_int_p_branch_Branch_id : T_struct_id_int_p_branch_Branch.id = t_struct_id_int_p_branch_Branch := rfl
def T_stack_mount : TI := { size := 2, bytes := 16, agg := true, zero := [.int .i64 0, .nil], kind := .struct [(0, 3, 1), (1, 48, 1)], id := 105 }
@[simp] theorem T_stack_mount_size : T_stack_mount.size = 2 := rfl
@[simp] theorem T_stack_mount_agg : T_stack_mount.agg = true := rfl
@[simp] theorem T_stack_mount_zero : T_stack_mount.zero = [.int .i64 0, .nil] := rfl
@[simp] theorem T_stack_mount_kind : T_stack_mount.kind = .struct [(0, 3, 1), (1, 48, 1)] := rfl
@[simp] theorem T_stack_mount_id : T_stack_mount.id = t_stack_mount := rfl
def T_func_stack_mount_bool : TI := { size := 1, bytes := 8, agg := false, zero := [.nilfn], kind := .func, id := 106 }
@[simp] theorem T_func_stack_mount_bool_size : T_func_stack_mount_bool.size = 1 := rfl
@[simp] theorem T_func_stack_mount_bool_agg : T_func_stack_mount_bool.agg = false := rfl
@[simp] theorem T_func_stack_mount_bool_zero : T_func_stack_mount_bool.zero = [.nilfn] := rfl
@[simp] theorem T_func_stack_mount_bool_kind : T_func_stack_mount_bool.kind = .func := rfl
@[simp] theorem T_func_stack_mount_bool_id : T_func_stack_mount_bool.id = t_func_stack_mount_bool := rfl
def T_func_s_stack_mount_int_int_s_stack_mount : TI := { size := 1, bytes := 8, agg := false, zero := [.nilfn], kind := .func, id := 107 }
@[simp] theorem T_func_s_stack_mount_int_int_s_stack_mount_size : T_func_s_stack_mount_int_int_s_stack_mount.size = 1 := rfl
@[simp] theorem T_func_s_stack_mount_int_int_s_stack_mount_agg : T_func_s_stack_mount_int_int_s_stack_mount.agg = false := rfl
@[simp] theorem T_func_s_stack_mount_int_int_s_stack_mount_zero : T_func_s_stack_mount_int_int_s_stack_mount.zero = [.nilfn] := rfl
@[simp] theorem T_func_s_stack_mount_int_int_s_stack_mount_kind : T_func_s_stack_mount_int_int_s_stack_mount.kind = .func := rfl
@[simp] theorem T_func_s_stack_mount_int_int_s_stack_mount_id : T_func_s_stack_mount_int_int_s_stack_mount.id = t_func_s_stack_mount_int_int_s_stack_mount := rfl
def T_func_s_stack_mount_s_stack_mount : TI := { size := 1, bytes := 8, agg := false, zero := [.nilfn], kind := .func, id := 108 }
@[simp] theorem T_func_s_stack_mount_s_stack_mount_size : T_func_s_stack_mount_s_stack_mount.size = 1 := rfl
@[simp] theorem T_func_s_stack_mount_s_stack_mount_agg : T_func_s_stack_mount_s_stack_mount.agg = false := rfl
@[simp] theorem T_func_s_stack_mount_s_stack_mount_zero : T_func_s_stack_mount_s_stack_mount.zero = [.nilfn] := rfl
@[simp] theorem T_func_s_stack_mount_s_stack_mount_kind : T_func_s_stack_mount_s_stack_mount.kind = .func := rfl
@[simp] theorem T_func_s_stack_mount_s_stack_mount_id : T_func_s_stack_mount_s_stack_mount.id = t_func_s_stack_mount_s_stack_mount := rfl
def T_s_branch_inode : TI := { size := 1, bytes := 24, agg := false, zero := [.vs 8 [] .nil], kind := .slice 153, id := 109 }
@[simp] theorem T_s_branch_inode_size : T_s_branch_inode.size = 1 := rfl
@[simp] theorem T_s_branch_inode_agg : T_s_branch_inode.agg = false := rfl
@[simp] theorem T_s_branch_inode_zero : T_s_branch_inode.zero = [.vs 8 [] .nil] := rfl
@[simp] theorem T_s_branch_inode_kind : T_s_branch_inode.kind = .slice 153 := rfl
@[simp] theorem T_s_branch_inode_id : T_s_branch_inode.id = t_s_branch_inode := rfl
def T_struct_table_s_branch_inode : TI := { size := 1, bytes := 24, agg := true, zero := [.vs 8 [] .nil], kind := .struct [(0, 109, 1)], id := 110 }
@[simp] theorem T_struct_table_s_branch_inode_size : T_struct_table_s_branch_inode.size = 1 := rfl
@[simp] theorem T_struct_table_s_branch_inode_agg : T_struct_table_s_branch_inode.agg = true := rfl
@[simp] theorem T_struct_table_s_branch_inode_zero : T_struct_table_s_branch_inode.zero = [.vs 8 [] .nil] := rfl
@[simp] theorem T_struct_table_s_branch_inode_kind : T_struct_table_s_branch_inode.kind = .struct [(0, 109, 1)] := rfl
@[simp] theorem T_struct_table_s_branch_inode_id : T_struct_table_s_branch_inode.id = t_struct_table_s_branch_inode := rfl
def T_branch_Branch : TI := { size := 1, bytes := 24, agg := true, zero := [.vs 8 [] .nil], kind := .struct [(0, 109, 1)], id := 111 }
@[simp] theorem T_branch_Branch_size : T_branch_Branch.size = 1 := rfl
@[simp] theorem T_branch_Branch_agg : T_branch_Branch.agg = true := rfl
@[simp] theorem T_branch_Branch_zero : T_branch_Branch.zero = [.vs 8 [] .nil] := rfl
@[simp] theorem T_branch_Branch_kind : T_branch_Branch.kind = .struct [(0, 109, 1)] := rfl
@[simp] theorem T_branch_Branch_id : T_branch_Branch.id = t_branch_Branch := rfl
def T_func_s_string_s_string : TI := { size := 1, bytes := 8, agg := false, zero := [.nilfn], kind := .func, id := 112 }
@[simp] theorem T_func_s_string_s_string_size : T_func_s_string_s_string.size = 1 := rfl
@[simp] theorem T_func_s_string_s_string_agg : T_func_s_string_s_string.agg = false := rfl
@[simp] theorem T_func_s_string_s_string_zero : T_func_s_string_s_string.zero = [.nilfn] := rfl
@[simp] theorem T_func_s_string_s_string_kind : T_func_s_string_s_string.kind = .func := rfl
@[simp] theorem T_func_s_string_s_string_id : T_func_s_string_s_string.id = t_func_s_string_s_string := rfl
def T_func_s_api_Node_s_api_Node : TI := { size := 1, bytes := 8, agg := false, zero := [.nilfn], kind := .func, id := 113 }
@[simp] theorem T_func_s_api_Node_s_api_Node_size : T_func_s_api_Node_s_api_Node.size = 1 := rfl
@[simp] theorem T_func_s_api_Node_s_api_Node_agg : T_func_s_api_Node_s_api_Node.agg = false := rfl
@[simp] theorem T_func_s_api_Node_s_api_Node_zero : T_func_s_api_Node_s_api_Node.zero = [.nilfn] := rfl
@[simp] theorem T_func_s_api_Node_s_api_Node_kind : T_func_s_api_Node_s_api_Node.kind = .func := rfl
@[simp] theorem T_func_s_api_Node_s_api_Node_id : T_func_s_api_Node_s_api_Node.id = t_func_s_api_Node_s_api_Node := rfl
def T_func_api_Node_int_p_int_bool : TI := { size := 1, bytes := 8, agg := false, zero := [.nilfn], kind := .func, id := 114 }
@[simp] theorem T_func_api_Node_int_p_int_bool_size : T_func_api_Node_int_p_int_bool.size = 1 := rfl
@[simp] theorem T_func_api_Node_int_p_int_bool_agg : T_func_api_Node_int_p_int_bool.agg = false := rfl
@[simp] theorem T_func_api_Node_int_p_int_bool_zero : T_func_api_Node_int_p_int_bool.zero = [.nilfn] := rfl
@[simp] theorem T_func_api_Node_int_p_int_bool_kind : T_func_api_Node_int_p_int_bool.kind = .func := rfl
@[simp] theorem T_func_api_Node_int_p_int_bool_id : T_func_api_Node_int_p_int_bool.id = t_func_api_Node_int_p_int_bool := rfl
def T_p_int : TI := { size := 1, bytes := 8, agg := false, zero := [.nil], kind := .ptr 3, id := 115 }
@[simp] theorem T_p_int_size : T_p_int.size = 1 := rfl
@[simp] theorem T_p_int_agg : T_p_int.agg = false := rfl
@[simp] theorem T_p_int_zero : T_p_int.zero = [.nil] := rfl
@[simp] theorem T_p_int_kind : T_p_int.kind = .ptr 3 := rfl
@[simp] theorem T_p_int_id : T_p_int.id = t_p_int := rfl
def T_func_s_api_Extent_s_api_Extent_bool : TI := { size := 1, bytes := 8, agg := false, zero := [.nilfn], kind := .func, id := 116 }
@[simp] theorem T_func_s_api_Extent_s_api_Extent_bool_size : T_func_s_api_Extent_s_api_Extent_bool.size = 1 := rfl
@[simp] theorem T_func_s_api_Extent_s_api_Extent_bool_agg : T_func_s_api_Extent_s_api_Extent_bool.agg = false := rfl
@[simp] theorem T_func_s_api_Extent_s_api_Extent_bool_zero : T_func_s_api_Extent_s_api_Extent_bool.zero = [.nilfn] := rfl
@[simp] theorem T_func_s_api_Extent_s_api_Extent_bool_kind : T_func_s_api_Extent_s_api_Extent_bool.kind = .func := rfl
@[simp] theorem T_func_s_api_Extent_s_api_Extent_bool_id : T_func_s_api_Extent_s_api_Extent_bool.id = t_func_s_api_Extent_s_api_Extent_bool := rfl
def T_struct_Off_int_Data_string : TI := { size := 2, bytes := 24, agg := true, zero := [.int .i64 0, .str []], kind := .struct [(0, 3, 1), (1, 9, 1)], id := 117 }
@[simp] theorem T_struct_Off_int_Data_string_size : T_struct_Off_int_Data_string.size = 2 := rfl
@[simp] theorem T_struct_Off_int_Data_string_agg : T_struct_Off_int_Data_string.agg = true := rfl
@[simp] theorem T_struct_Off_int_Data_string_zero : T_struct_Off_int_Data_string.zero = [.int .i64 0, .str []] := rfl
@[simp] theorem T_struct_Off_int_Data_string_kind : T_struct_Off_int_Data_string.kind = .struct [(0, 3, 1), (1, 9, 1)] := rfl
@[simp] theorem T_struct_Off_int_Data_string_id : T_struct_Off_int_Data_string.id = t_struct_Off_int_Data_string := rfl
def T_api_Extent : TI := { size := 2, bytes := 24, agg := true, zero := [.int .i64 0, .str []], kind := .struct [(0, 3, 1), (1, 9, 1)], id := 118 }
@[simp] theorem T_api_Extent_size : T_api_Extent.size = 2 := rfl
@[simp] theorem T_api_Extent_agg : T_api_Extent.agg = true := rfl
@[simp] theorem T_api_Extent_zero : T_api_Extent.zero = [.int .i64 0, .str []] := rfl
@[simp] theorem T_api_Extent_kind : T_api_Extent.kind = .struct [(0, 3, 1), (1, 9, 1)] := rfl
@[simp] theorem T_api_Extent_id : T_api_Extent.id = t_api_Extent := rfl
def T_func_int_s_api_Extent_bool : TI := { size := 1, bytes := 8, agg := false, zero := [.nilfn], kind := .func, id := 119 }
@[simp] theorem T_func_int_s_api_Extent_bool_size : T_func_int_s_api_Extent_bool.size = 1 := rfl
@[simp] theorem T_func_int_s_api_Extent_bool_agg : T_func_int_s_api_Extent_bool.agg = false := rfl
@[simp] theorem T_func_int_s_api_Extent_bool_zero : T_func_int_s_api_Extent_bool.zero = [.nilfn] := rfl
@[simp] theorem T_func_int_s_api_Extent_bool_kind : T_func_int_s_api_Extent_bool.kind = .func := rfl
@[simp] theorem T_func_int_s_api_Extent_bool_id : T_func_int_s_api_Extent_bool.id = t_func_int_s_api_Extent_bool := rfl
def T_func_s_string_string_int_bool : TI := { size := 1, bytes := 8, agg := false, zero := [.nilfn], kind := .func, id := 121 }
@[simp] theorem T_func_s_string_string_int_bool_size : T_func_s_string_string_int_bool.size = 1 := rfl
@[simp] theorem T_func_s_string_string_int_bool_agg : T_func_s_string_string_int_bool.agg = false := rfl
@[simp] theorem T_func_s_string_string_int_bool_zero : T_func_s_string_string_int_bool.zero = [.nilfn] := rfl
@[simp] theorem T_func_s_string_string_int_bool_kind : T_func_s_string_string_int_bool.kind = .func := rfl
@[simp] theorem T_func_s_string_string_int_bool_id : T_func_s_string_string_int_bool.id = t_func_s_string_string_int_bool := rfl
def T_func_string_s_api_Extent : TI := { size := 1, bytes := 8, agg := false, zero := [.nilfn], kind := .func, id := 122 }
@[simp] theorem T_func_string_s_api_Extent_size : T_func_string_s_api_Extent.size = 1 := rfl
@[simp] theorem T_func_string_s_api_Extent_agg : T_func_string_s_api_Extent.agg = false := rfl
@[simp] theorem T_func_string_s_api_Extent_zero : T_func_string_s_api_Extent.zero = [.nilfn] := rfl
@[simp] theorem T_func_string_s_api_Extent_kind : T_func_string_s_api_Extent.kind = .func := rfl
@[simp] theorem T_func_string_s_api_Extent_id : T_func_string_s_api_Extent.id = t_func_string_s_api_Extent := rfl
def T_s_uint8 : TI := { size := 1, bytes := 24, agg := false, zero := [.vs 1 [] .nil], kind := .slice 5, id := 123 }
@[simp] theorem T_s_uint8_size : T_s_uint8.size = 1 := rfl
@[simp] theorem T_s_uint8_agg : T_s_uint8.agg = false := rfl
@[simp] theorem T_s_uint8_zero : T_s_uint8.zero = [.vs 1 [] .nil] := rfl
@[simp] theorem T_s_uint8_kind : T_s_uint8.kind = .slice 5 := rfl
@[simp] theorem T_s_uint8_id : T_s_uint8.id = t_s_uint8 := rfl
def T_func_s_api_Extent_int_uint8 : TI := { size := 1, bytes := 8, agg := false, zero := [.nilfn], kind := .func, id := 124 }
@[simp] theorem T_func_s_api_Extent_int_uint8_size : T_func_s_api_Extent_int_uint8.size = 1 := rfl
@[simp] theorem T_func_s_api_Extent_int_uint8_agg : T_func_s_api_Extent_int_uint8.agg = false := rfl
@[simp] theorem T_func_s_api_Extent_int_uint8_zero : T_func_s_api_Extent_int_uint8.zero = [.nilfn] := rfl
@[simp] theorem T_func_s_api_Extent_int_uint8_kind : T_func_s_api_Extent_int_uint8.kind = .func := rfl
@[simp] theorem T_func_s_api_Extent_int_uint8_id : T_func_s_api_Extent_int_uint8.id = t_func_s_api_Extent_int_uint8 := rfl
def T_struct_b_s_uint8 : TI := { size := 1, bytes := 24, agg := true, zero := [.vs 1 [] .nil], kind := .struct [(0, 123, 1)], id := 125 }
@[simp] theorem T_struct_b_s_uint8_size : T_struct_b_s_uint8.size = 1 := rfl
@[simp] theorem T_struct_b_s_uint8_agg : T_struct_b_s_uint8.agg = true := rfl
@[simp] theorem T_struct_b_s_uint8_zero : T_struct_b_s_uint8.zero = [.vs 1 [] .nil] := rfl
@[simp] theorem T_struct_b_s_uint8_kind : T_struct_b_s_uint8.kind = .struct [(0, 123, 1)] := rfl
@[simp] theorem T_struct_b_s_uint8_id : T_struct_b_s_uint8.id = t_struct_b_s_uint8 := rfl
def T_wire_Writer : TI := { size := 1, bytes := 24, agg := true, zero := [.vs 1 [] .nil], kind := .struct [(0, 123, 1)], id := 126 }
@[simp] theorem T_wire_Writer_size : T_wire_Writer.size = 1 := rfl
@[simp] theorem T_wire_Writer_agg : T_wire_Writer.agg = true := rfl
@[simp] theorem T_wire_Writer_zero : T_wire_Writer.zero = [.vs 1 [] .nil] := rfl
@[simp] theorem T_wire_Writer_kind : T_wire_Writer.kind = .struct [(0, 123, 1)] := rfl
@[simp] theorem T_wire_Writer_id : T_wire_Writer.id = t_wire_Writer := rfl
def T_func_p_wire_Writer_api_Node : TI := { size := 1, bytes := 8, agg := false, zero := [.nilfn], kind := .func, id := 127 }
@[simp] theorem T_func_p_wire_Writer_api_Node_size : T_func_p_wire_Writer_api_Node.size = 1 := rfl
@[simp] theorem T_func_p_wire_Writer_api_Node_agg : T_func_p_wire_Writer_api_Node.agg = false := rfl
@[simp] theorem T_func_p_wire_Writer_api_Node_zero : T_func_p_wire_Writer_api_Node.zero = [.nilfn] := rfl
@[simp] theorem T_func_p_wire_Writer_api_Node_kind : T_func_p_wire_Writer_api_Node.kind = .func := rfl
@[simp] theorem T_func_p_wire_Writer_api_Node_id : T_func_p_wire_Writer_api_Node.id = t_func_p_wire_Writer_api_Node := rfl
def T_p_wire_Writer : TI := { size := 1, bytes := 8, agg := false, zero := [.nil], kind := .ptr 126, id := 128 }
@[simp] theorem T_p_wire_Writer_size : T_p_wire_Writer.size = 1 := rfl
@[simp] theorem T_p_wire_Writer_agg : T_p_wire_Writer.agg = false := rfl
@[simp] theorem T_p_wire_Writer_zero : T_p_wire_Writer.zero = [.nil] := rfl
@[simp] theorem T_p_wire_Writer_kind : T_p_wire_Writer.kind = .ptr 126 := rfl
@[simp] theorem T_p_wire_Writer_id : T_p_wire_Writer.id = t_p_wire_Writer := rfl
def T_func_string : TI := { size := 1, bytes := 8, agg := false, zero := [.nilfn], kind := .func, id := 129 }
@[simp] theorem T_func_string_size : T_func_string.size = 1 := rfl
@[simp] theorem T_func_string_agg : T_func_string.agg = false := rfl
@[simp] theorem T_func_string_zero : T_func_string.zero = [.nilfn] := rfl
@[simp] theorem T_func_string_kind : T_func_string.kind = .func := rfl
@[simp] theorem T_func_string_id : T_func_string.id = t_func_string := rfl
def T_func_api_Node_string : TI := { size := 1, bytes := 8, agg := false, zero := [.nilfn], kind := .func, id := 130 }
@[simp] theorem T_func_api_Node_string_size : T_func_api_Node_string.size = 1 := rfl
@[simp] theorem T_func_api_Node_string_agg : T_func_api_Node_string.agg = false := rfl
@[simp] theorem T_func_api_Node_string_zero : T_func_api_Node_string.zero = [.nilfn] := rfl
@[simp] theorem T_func_api_Node_string_kind : T_func_api_Node_string.kind = .func := rfl
@[simp] theorem T_func_api_Node_string_id : T_func_api_Node_string.id = t_func_api_Node_string := rfl
def T_p_image_reader : TI := { size := 1, bytes := 8, agg := false, zero := [.nil], kind := .ptr 135, id := 131 }
@[simp] theorem T_p_image_reader_size : T_p_image_reader.size = 1 := rfl
@[simp] theorem T_p_image_reader_agg : T_p_image_reader.agg = false := rfl
@[simp] theorem T_p_image_reader_zero : T_p_image_reader.zero = [.nil] := rfl
@[simp] theorem T_p_image_reader_kind : T_p_image_reader.kind = .ptr 135 := rfl
@[simp] theorem T_p_image_reader_id : T_p_image_reader.id = t_p_image_reader := rfl
def T_p_wire_Reader : TI := { size := 1, bytes := 8, agg := false, zero := [.nil], kind := .ptr 162, id := 132 }
@[simp] theorem T_p_wire_Reader_size : T_p_wire_Reader.size = 1 := rfl
@[simp] theorem T_p_wire_Reader_agg : T_p_wire_Reader.agg = false := rfl
@[simp] theorem T_p_wire_Reader_zero : T_p_wire_Reader.zero = [.nil] := rfl
@[simp] theorem T_p_wire_Reader_kind : T_p_wire_Reader.kind = .ptr 162 := rfl
@[simp] theorem T_p_wire_Reader_id : T_p_wire_Reader.id = t_p_wire_Reader := rfl
def T_func_string_p_wire_Reader : TI := { size := 1, bytes := 8, agg := false, zero := [.nilfn], kind := .func, id := 133 }
@[simp] theorem T_func_string_p_wire_Reader_size : T_func_string_p_wire_Reader.size = 1 := rfl
@[simp] theorem T_func_string_p_wire_Reader_agg : T_func_string_p_wire_Reader.agg = false := rfl
@[simp] theorem T_func_string_p_wire_Reader_zero : T_func_string_p_wire_Reader.zero = [.nilfn] := rfl
@[simp] theorem T_func_string_p_wire_Reader_kind : T_func_string_p_wire_Reader.kind = .func := rfl
@[simp] theorem T_func_string_p_wire_Reader_id : T_func_string_p_wire_Reader.id = t_func_string_p_wire_Reader := rfl
def T_struct_p_wire_Reader_bad_bool_left_int : TI := { size := 3, bytes := 24, agg := true, zero := [.nil, .bool false, .int .i64 0], kind := .struct [(0, 132, 1), (1, 4, 1), (2, 3, 1)], id := 134 }
@[simp] theorem T_struct_p_wire_Reader_bad_bool_left_int_size : T_struct_p_wire_Reader_bad_bool_left_int.size = 3 := rfl
@[simp] theorem T_struct_p_wire_Reader_bad_bool_left_int_agg : T_struct_p_wire_Reader_bad_bool_left_int.agg = true := rfl
@[simp] theorem T_struct_p_wire_Reader_bad_bool_left_int_zero : T_struct_p_wire_Reader_bad_bool_left_int.zero = [.nil, .bool false, .int .i64 0] := rfl
@[simp] theorem T_struct_p_wire_Reader_bad_bool_left_int_kind : T_struct_p_wire_Reader_bad_bool_left_int.kind = .struct [(0, 132, 1), (1, 4, 1), (2, 3, 1)] := rfl
@[simp] theorem T_struct_p_wire_Reader_bad_bool_left_int_id : T_struct_p_wire_Reader_bad_bool_left_int.id = t_struct_p_wire_Reader_bad_bool_left_int := rfl
def T_image_reader : TI := { size := 3, bytes := 24, agg := true, zero := [.nil, .bool false, .int .i64 0], kind := .struct [(0, 132, 1), (1, 4, 1), (2, 3, 1)], id := 135 }
@[simp] theorem T_image_reader_size : T_image_reader.size = 3 := rfl
@[simp] theorem T_image_reader_agg : T_image_reader.agg = true := rfl
@[simp] theorem T_image_reader_zero : T_image_reader.zero = [.nil, .bool false, .int .i64 0] := rfl
@[simp] theorem T_image_reader_kind : T_image_reader.kind = .struct [(0, 132, 1), (1, 4, 1), (2, 3, 1)] := rfl
@[simp] theorem T_image_reader_id : T_image_reader.id = t_image_reader := rfl
def T_func_int_api_Node : TI := { size := 1, bytes := 8, agg := false, zero := [.nilfn], kind := .func, id := 136 }
@[simp] theorem T_func_int_api_Node_size : T_func_int_api_Node.size = 1 := rfl
@[simp] theorem T_func_int_api_Node_agg : T_func_int_api_Node.agg = false := rfl
@[simp] theorem T_func_int_api_Node_zero : T_func_int_api_Node.zero = [.nilfn] := rfl
@[simp] theorem T_func_int_api_Node_kind : T_func_int_api_Node.kind = .func := rfl
@[simp] theorem T_func_int_api_Node_id : T_func_int_api_Node.id = t_func_int_api_Node := rfl
def T_struct_Node_api_Node_Len_int : TI := { size := 8, bytes := 120, agg := true, zero := [.int .i64 0, .bool false, .vs 1 [] .nil, .vs 7 [] .nil, .int .i64 0, .vs 2 [] .nil, .str [], .int .i64 0], kind := .struct [(0, 54, 7), (7, 3, 1)], id := 137 }
@[simp] theorem T_struct_Node_api_Node_Len_int_size : T_struct_Node_api_Node_Len_int.size = 8 := rfl
@[simp] theorem T_struct_Node_api_Node_Len_int_agg : T_struct_Node_api_Node_Len_int.agg = true := rfl
@[simp] theorem T_struct_Node_api_Node_Len_int_zero : T_struct_Node_api_Node_Len_int.zero = [.int .i64 0, .bool false, .vs 1 [] .nil, .vs 7 [] .nil, .int .i64 0, .vs 2 [] .nil, .str [], .int .i64 0] := rfl
@[simp] theorem T_struct_Node_api_Node_Len_int_kind : T_struct_Node_api_Node_Len_int.kind = .struct [(0, 54, 7), (7, 3, 1)] := rfl
@[simp] theorem T_struct_Node_api_Node_Len_int_id : T_struct_Node_api_Node_Len_int.id = t_struct_Node_api_Node_Len_int := rfl
def T_socageref05_Got : TI := { size := 8, bytes := 120, agg := true, zero := [.int .i64 0, .bool false, .vs 1 [] .nil, .vs 7 [] .nil, .int .i64 0, .vs 2 [] .nil, .str [], .int .i64 0], kind := .struct [(0, 54, 7), (7, 3, 1)], id := 138 }
@[simp] theorem T_socageref05_Got_size : T_socageref05_Got.size = 8 := rfl
@[simp] theorem T_socageref05_Got_agg : T_socageref05_Got.agg = true := rfl
@[simp] theorem T_socageref05_Got_zero : T_socageref05_Got.zero = [.int .i64 0, .bool false, .vs 1 [] .nil, .vs 7 [] .nil, .int .i64 0, .vs 2 [] .nil, .str [], .int .i64 0] := rfl
@[simp] theorem T_socageref05_Got_kind : T_socageref05_Got.kind = .struct [(0, 54, 7), (7, 3, 1)] := rfl
@[simp] theorem T_socageref05_Got_id : T_socageref05_Got.id = t_socageref05_Got := rfl
def T_func_string_int_socageref05_Got : TI := { size := 1, bytes := 8, agg := false, zero := [.nilfn], kind := .func, id := 139 }
@[simp] theorem T_func_string_int_socageref05_Got_size : T_func_string_int_socageref05_Got.size = 1 := rfl
@[simp] theorem T_func_string_int_socageref05_Got_agg : T_func_string_int_socageref05_Got.agg = false := rfl
@[simp] theorem T_func_string_int_socageref05_Got_zero : T_func_string_int_socageref05_Got.zero = [.nilfn] := rfl
@[simp] theorem T_func_string_int_socageref05_Got_kind : T_func_string_int_socageref05_Got.kind = .func := rfl
@[simp] theorem T_func_string_int_socageref05_Got_id : T_func_string_int_socageref05_Got.id = t_func_string_int_socageref05_Got := rfl
def T_func_int_string_int_bool : TI := { size := 1, bytes := 8, agg := false, zero := [.nilfn], kind := .func, id := 140 }
@[simp] theorem T_func_int_string_int_bool_size : T_func_int_string_int_bool.size = 1 := rfl
@[simp] theorem T_func_int_string_int_bool_agg : T_func_int_string_int_bool.agg = false := rfl
@[simp] theorem T_func_int_string_int_bool_zero : T_func_int_string_int_bool.zero = [.nilfn] := rfl
@[simp] theorem T_func_int_string_int_bool_kind : T_func_int_string_int_bool.kind = .func := rfl
@[simp] theorem T_func_int_string_int_bool_id : T_func_int_string_int_bool.id = t_func_int_string_int_bool := rfl
def T_func_int_bool : TI := { size := 1, bytes := 8, agg := false, zero := [.nilfn], kind := .func, id := 141 }
@[simp] theorem T_func_int_bool_size : T_func_int_bool.size = 1 := rfl
@[simp] theorem T_func_int_bool_agg : T_func_int_bool.agg = false := rfl
@[simp] theorem T_func_int_bool_zero : T_func_int_bool.zero = [.nilfn] := rfl
@[simp] theorem T_func_int_bool_kind : T_func_int_bool.kind = .func := rfl
@[simp] theorem T_func_int_bool_id : T_func_int_bool.id = t_func_int_bool := rfl
def T_func_string_string_int_int_s_string : TI := { size := 1, bytes := 8, agg := false, zero := [.nilfn], kind := .func, id := 142 }
@[simp] theorem T_func_string_string_int_int_s_string_size : T_func_string_string_int_int_s_string.size = 1 := rfl
@[simp] theorem T_func_string_string_int_int_s_string_agg : T_func_string_string_int_int_s_string.agg = false := rfl
@[simp] theorem T_func_string_string_int_int_s_string_zero : T_func_string_string_int_int_s_string.zero = [.nilfn] := rfl
@[simp] theorem T_func_string_string_int_int_s_string_kind : T_func_string_string_int_int_s_string.kind = .func := rfl
@[simp] theorem T_func_string_string_int_int_s_string_id : T_func_string_string_int_int_s_string.id = t_func_string_string_int_int_s_string := rfl
def T_func_string_string_int : TI := { size := 1, bytes := 8, agg := false, zero := [.nilfn], kind := .func, id := 143 }
@[simp] theorem T_func_string_string_int_size : T_func_string_string_int.size = 1 := rfl
@[simp] theorem T_func_string_string_int_agg : T_func_string_string_int.agg = false := rfl
@[simp] theorem T_func_string_string_int_zero : T_func_string_string_int.zero = [.nilfn] := rfl
@[simp] theorem T_func_string_string_int_kind : T_func_string_string_int.kind = .func := rfl
@[simp] theorem T_func_string_string_int_id : T_func_string_string_int.id = t_func_string_string_int := rfl
def T_p_strings_Builder : TI := { size := 1, bytes := 8, agg := false, zero := [.nil], kind := .ptr 146, id := 144 }
@[simp] theorem T_p_strings_Builder_size : T_p_strings_Builder.size = 1 := rfl
@[simp] theorem T_p_strings_Builder_agg : T_p_strings_Builder.agg = false := rfl
@[simp] theorem T_p_strings_Builder_zero : T_p_strings_Builder.zero = [.nil] := rfl
@[simp] theorem T_p_strings_Builder_kind : T_p_strings_Builder.kind = .ptr 146 := rfl
@[simp] theorem T_p_strings_Builder_id : T_p_strings_Builder.id = t_p_strings_Builder := rfl
def T_struct_addr_p_strings_Builder_buf_s_uint8 : TI := { size := 2, bytes := 32, agg := true, zero := [.nil, .vs 1 [] .nil], kind := .struct [(0, 144, 1), (1, 123, 1)], id := 145 }
@[simp] theorem T_struct_addr_p_strings_Builder_buf_s_uint8_size : T_struct_addr_p_strings_Builder_buf_s_uint8.size = 2 := rfl
@[simp] theorem T_struct_addr_p_strings_Builder_buf_s_uint8_agg : T_struct_addr_p_strings_Builder_buf_s_uint8.agg = true := rfl
@[simp] theorem T_struct_addr_p_strings_Builder_buf_s_uint8_zero : T_struct_addr_p_strings_Builder_buf_s_uint8.zero = [.nil, .vs 1 [] .nil] := rfl
@[simp] theorem T_struct_addr_p_strings_Builder_buf_s_uint8_kind : T_struct_addr_p_strings_Builder_buf_s_uint8.kind = .struct [(0, 144, 1), (1, 123, 1)] := rfl
@[simp] theorem T_struct_addr_p_strings_Builder_buf_s_uint8_id : T_struct_addr_p_strings_Builder_buf_s_uint8.id = t_struct_addr_p_strings_Builder_buf_s_uint8 := rfl
def T_strings_Builder : TI := { size := 2, bytes := 32, agg := true, zero := [.nil, .vs 1 [] .nil], kind := .struct [(0, 144, 1), (1, 123, 1)], id := 146 }
@[simp] theorem T_strings_Builder_size : T_strings_Builder.size = 2 := rfl
@[simp] theorem T_strings_Builder_agg : T_strings_Builder.agg = true := rfl
@[simp] theorem T_strings_Builder_zero : T_strings_Builder.zero = [.nil, .vs 1 [] .nil] := rfl
@[simp] theorem T_strings_Builder_kind : T_strings_Builder.kind = .struct [(0, 144, 1), (1, 123, 1)] := rfl
@[simp] theorem T_strings_Builder_id : T_strings_Builder.id = t_strings_Builder := rfl
def T_func_int_f2d63e : TI := { size := 1, bytes := 8, agg := false, zero := [.nilfn], kind := .func, id := 147 }
@[simp] theorem T_func_int_f2d63e_size : T_func_int_f2d63e.size = 1 := rfl
@[simp] theorem T_func_int_f2d63e_agg : T_func_int_f2d63e.agg = false := rfl
@[simp] theorem T_func_int_f2d63e_zero : T_func_int_f2d63e.zero = [.nilfn] := rfl
@[simp] theorem T_func_int_f2d63e_kind : T_func_int_f2d63e.kind = .func := rfl
@[simp] theorem T_func_int_f2d63e_id : T_func_int_f2d63e.id = t_func_int_f2d63e := rfl
def T_interface_Error_string : TI := { size := 1, bytes := 16, agg := false, zero := [.nilifc], kind := .iface, id := 148 }
@[simp] theorem T_interface_Error_string_size : T_interface_Error_string.size = 1 := rfl
@[simp] theorem T_interface_Error_string_agg : T_interface_Error_string.agg = false := rfl
@[simp] theorem T_interface_Error_string_zero : T_interface_Error_string.zero = [.nilifc] := rfl
@[simp] theorem T_interface_Error_string_kind : T_interface_Error_string.kind = .iface := rfl
@[simp] theorem T_interface_Error_string_id : T_interface_Error_string.id = t_interface_Error_string := rfl
def T_error : TI := { size := 1, bytes := 16, agg := false, zero := [.nilifc], kind := .iface, id := 149 }
@[simp] theorem T_error_size : T_error.size = 1 := rfl
@[simp] theorem T_error_agg : T_error.agg = false := rfl
@[simp] theorem T_error_zero : T_error.zero = [.nilifc] := rfl
@[simp] theorem T_error_kind : T_error.kind = .iface := rfl
@[simp] theorem T_error_id : T_error.id = t_error := rfl
def T_func_string_int_error : TI := { size := 1, bytes := 8, agg := false, zero := [.nilfn], kind := .func, id := 151 }
@[simp] theorem T_func_string_int_error_size : T_func_string_int_error.size = 1 := rfl
@[simp] theorem T_func_string_int_error_agg : T_func_string_int_error.agg = false := rfl
@[simp] theorem T_func_string_int_error_zero : T_func_string_int_error.zero = [.nilfn] := rfl
@[simp] theorem T_func_string_int_error_kind : T_func_string_int_error.kind = .func := rfl
@[simp] theorem T_func_string_int_error_id : T_func_string_int_error.id = t_func_string_int_error := rfl
def T_struct_api_Node_ids_s_int : TI := { size := 8, bytes := 136, agg := true, zero := [.int .i64 0, .bool false, .vs 1 [] .nil, .vs 7 [] .nil, .int .i64 0, .vs 2 [] .nil, .str [], .vs 1 [] .nil], kind := .struct [(0, 54, 7), (7, 40, 1)], id := 152 }
@[simp] theorem T_struct_api_Node_ids_s_int_size : T_struct_api_Node_ids_s_int.size = 8 := rfl
@[simp] theorem T_struct_api_Node_ids_s_int_agg : T_struct_api_Node_ids_s_int.agg = true := rfl
@[simp] theorem T_struct_api_Node_ids_s_int_zero : T_struct_api_Node_ids_s_int.zero = [.int .i64 0, .bool false, .vs 1 [] .nil, .vs 7 [] .nil, .int .i64 0, .vs 2 [] .nil, .str [], .vs 1 [] .nil] := rfl
@[simp] theorem T_struct_api_Node_ids_s_int_kind : T_struct_api_Node_ids_s_int.kind = .struct [(0, 54, 7), (7, 40, 1)] := rfl
@[simp] theorem T_struct_api_Node_ids_s_int_id : T_struct_api_Node_ids_s_int.id = t_struct_api_Node_ids_s_int := rfl
def T_branch_inode : TI := { size := 8, bytes := 136, agg := true, zero := [.int .i64 0, .bool false, .vs 1 [] .nil, .vs 7 [] .nil, .int .i64 0, .vs 2 [] .nil, .str [], .vs 1 [] .nil], kind := .struct [(0, 54, 7), (7, 40, 1)], id := 153 }
@[simp] theorem T_branch_inode_size : T_branch_inode.size = 8 := rfl
@[simp] theorem T_branch_inode_agg : T_branch_inode.agg = true := rfl
@[simp] theorem T_branch_inode_zero : T_branch_inode.zero = [.int .i64 0, .bool false, .vs 1 [] .nil, .vs 7 [] .nil, .int .i64 0, .vs 2 [] .nil, .str [], .vs 1 [] .nil] := rfl
@[simp] theorem T_branch_inode_kind : T_branch_inode.kind = .struct [(0, 54, 7), (7, 40, 1)] := rfl
@[simp] theorem T_branch_inode_id : T_branch_inode.id = t_branch_inode := rfl
def T_func_s_api_Extent_s_api_Extent : TI := { size := 1, bytes := 8, agg := false, zero := [.nilfn], kind := .func, id := 154 }
@[simp] theorem T_func_s_api_Extent_s_api_Extent_size : T_func_s_api_Extent_s_api_Extent.size = 1 := rfl
@[simp] theorem T_func_s_api_Extent_s_api_Extent_agg : T_func_s_api_Extent_s_api_Extent.agg = false := rfl
@[simp] theorem T_func_s_api_Extent_s_api_Extent_zero : T_func_s_api_Extent_s_api_Extent.zero = [.nilfn] := rfl
@[simp] theorem T_func_s_api_Extent_s_api_Extent_kind : T_func_s_api_Extent_s_api_Extent.kind = .func := rfl
@[simp] theorem T_func_s_api_Extent_s_api_Extent_id : T_func_s_api_Extent_s_api_Extent.id = t_func_s_api_Extent_s_api_Extent := rfl
def T_func_int_api_Extent_bool : TI := { size := 1, bytes := 8, agg := false, zero := [.nilfn], kind := .func, id := 155 }
@[simp] theorem T_func_int_api_Extent_bool_size : T_func_int_api_Extent_bool.size = 1 := rfl
@[simp] theorem T_func_int_api_Extent_bool_agg : T_func_int_api_Extent_bool.agg = false := rfl
@[simp] theorem T_func_int_api_Extent_bool_zero : T_func_int_api_Extent_bool.zero = [.nilfn] := rfl
@[simp] theorem T_func_int_api_Extent_bool_kind : T_func_int_api_Extent_bool.kind = .func := rfl
@[simp] theorem T_func_int_api_Extent_bool_id : T_func_int_api_Extent_bool.id = t_func_int_api_Extent_bool := rfl
def T_uint : TI := { size := 1, bytes := 8, agg := false, zero := [.int .u64 0], kind := .int .u64, id := 156 }
@[simp] theorem T_uint_size : T_uint.size = 1 := rfl
@[simp] theorem T_uint_agg : T_uint.agg = false := rfl
@[simp] theorem T_uint_zero : T_uint.zero = [.int .u64 0] := rfl
@[simp] theorem T_uint_kind : T_uint.kind = .int .u64 := rfl
@[simp] theorem T_uint_id : T_uint.id = t_uint := rfl
def T_func_int_int_bool : TI := { size := 1, bytes := 8, agg := false, zero := [.nilfn], kind := .func, id := 157 }
@[simp] theorem T_func_int_int_bool_size : T_func_int_int_bool.size = 1 := rfl
@[simp] theorem T_func_int_int_bool_agg : T_func_int_int_bool.agg = false := rfl
@[simp] theorem T_func_int_int_bool_zero : T_func_int_int_bool.zero = [.nilfn] := rfl
@[simp] theorem T_func_int_int_bool_kind : T_func_int_int_bool.kind = .func := rfl
@[simp] theorem T_func_int_int_bool_id : T_func_int_int_bool.id = t_func_int_int_bool := rfl
def T_func_string_int_bool : TI := { size := 1, bytes := 8, agg := false, zero := [.nilfn], kind := .func, id := 158 }
@[simp] theorem T_func_string_int_bool_size : T_func_string_int_bool.size = 1 := rfl
@[simp] theorem T_func_string_int_bool_agg : T_func_string_int_bool.agg = false := rfl
@[simp] theorem T_func_string_int_bool_zero : T_func_string_int_bool.zero = [.nilfn] := rfl
@[simp] theorem T_func_string_int_bool_kind : T_func_string_int_bool.kind = .func := rfl
@[simp] theorem T_func_string_int_bool_id : T_func_string_int_bool.id = t_func_string_int_bool := rfl
def T_func_string_int_int_string : TI := { size := 1, bytes := 8, agg := false, zero := [.nilfn], kind := .func, id := 159 }
@[simp] theorem T_func_string_int_int_string_size : T_func_string_int_int_string.size = 1 := rfl
@[simp] theorem T_func_string_int_int_string_agg : T_func_string_int_int_string.agg = false := rfl
@[simp] theorem T_func_string_int_int_string_zero : T_func_string_int_int_string.zero = [.nilfn] := rfl
@[simp] theorem T_func_string_int_int_string_kind : T_func_string_int_int_string.kind = .func := rfl
@[simp] theorem T_func_string_int_int_string_id : T_func_string_int_int_string.id = t_func_string_int_int_string := rfl
def T_func_string_string_int_string : TI := { size := 1, bytes := 8, agg := false, zero := [.nilfn], kind := .func, id := 160 }
@[simp] theorem T_func_string_string_int_string_size : T_func_string_string_int_string.size = 1 := rfl
@[simp] theorem T_func_string_string_int_string_agg : T_func_string_string_int_string.agg = false := rfl
@[simp] theorem T_func_string_string_int_string_zero : T_func_string_string_int_string.zero = [.nilfn] := rfl
@[simp] theorem T_func_string_string_int_string_kind : T_func_string_string_int_string.kind = .func := rfl
@[simp] theorem T_func_string_string_int_string_id : T_func_string_string_int_string.id = t_func_string_string_int_string := rfl
def T_struct_s_string : TI := { size := 1, bytes := 16, agg := true, zero := [.str []], kind := .struct [(0, 9, 1)], id := 161 }
@[simp] theorem T_struct_s_string_size : T_struct_s_string.size = 1 := rfl
@[simp] theorem T_struct_s_string_agg : T_struct_s_string.agg = true := rfl
@[simp] theorem T_struct_s_string_zero : T_struct_s_string.zero = [.str []] := rfl
@[simp] theorem T_struct_s_string_kind : T_struct_s_string.kind = .struct [(0, 9, 1)] := rfl
@[simp] theorem T_struct_s_string_id : T_struct_s_string.id = t_struct_s_string := rfl
def T_wire_Reader : TI := { size := 1, bytes := 16, agg := true, zero := [.str []], kind := .struct [(0, 9, 1)], id := 162 }
@[simp] theorem T_wire_Reader_size : T_wire_Reader.size = 1 := rfl
@[simp] theorem T_wire_Reader_agg : T_wire_Reader.agg = true := rfl
@[simp] theorem T_wire_Reader_zero : T_wire_Reader.zero = [.str []] := rfl
@[simp] theorem T_wire_Reader_kind : T_wire_Reader.kind = .struct [(0, 9, 1)] := rfl
@[simp] theorem T_wire_Reader_id : T_wire_Reader.id = t_wire_Reader := rfl
def T_func_int_string : TI := { size := 1, bytes := 8, agg := false, zero := [.nilfn], kind := .func, id := 163 }
@[simp] theorem T_func_int_string_size : T_func_int_string.size = 1 := rfl
@[simp] theorem T_func_int_string_agg : T_func_int_string.agg = false := rfl
@[simp] theorem T_func_int_string_zero : T_func_int_string.zero = [.nilfn] := rfl
@[simp] theorem T_func_int_string_kind : T_func_int_string.kind = .func := rfl
@[simp] theorem T_func_int_string_id : T_func_int_string.id = t_func_int_string := rfl
def T_func_string_int_int_int : TI := { size := 1, bytes := 8, agg := false, zero := [.nilfn], kind := .func, id := 164 }
@[simp] theorem T_func_string_int_int_int_size : T_func_string_int_int_int.size = 1 := rfl
@[simp] theorem T_func_string_int_int_int_agg : T_func_string_int_int_int.agg = false := rfl
@[simp] theorem T_func_string_int_int_int_zero : T_func_string_int_int_int.zero = [.nilfn] := rfl
@[simp] theorem T_func_string_int_int_int_kind : T_func_string_int_int_int.kind = .func := rfl
@[simp] theorem T_func_string_int_int_int_id : T_func_string_int_int_int.id = t_func_string_int_int_int := rfl
def T_func_int_branch_inode : TI := { size := 1, bytes := 8, agg := false, zero := [.nilfn], kind := .func, id := 165 }
@[simp] theorem T_func_int_branch_inode_size : T_func_int_branch_inode.size = 1 := rfl
@[simp] theorem T_func_int_branch_inode_agg : T_func_int_branch_inode.agg = false := rfl
@[simp] theorem T_func_int_branch_inode_zero : T_func_int_branch_inode.zero = [.nilfn] := rfl
@[simp] theorem T_func_int_branch_inode_kind : T_func_int_branch_inode.kind = .func := rfl
@[simp] theorem T_func_int_branch_inode_id : T_func_int_branch_inode.id = t_func_int_branch_inode := rfl
def T_func_string_int_s_string : TI := { size := 1, bytes := 8, agg := false, zero := [.nilfn], kind := .func, id := 166 }
@[simp] theorem T_func_string_int_s_string_size : T_func_string_int_s_string.size = 1 := rfl
@[simp] theorem T_func_string_int_s_string_agg : T_func_string_int_s_string.agg = false := rfl
@[simp] theorem T_func_string_int_s_string_zero : T_func_string_int_s_string.zero = [.nilfn] := rfl
@[simp] theorem T_func_string_int_s_string_kind : T_func_string_int_s_string.kind = .func := rfl
@[simp] theorem T_func_string_int_s_string_id : T_func_string_int_s_string.id = t_func_string_int_s_string := rfl
def T_func_string_int32_int : TI := { size := 1, bytes := 8, agg := false, zero := [.nilfn], kind := .func, id := 167 }
@[simp] theorem T_func_string_int32_int_size : T_func_string_int32_int.size = 1 := rfl
@[simp] theorem T_func_string_int32_int_agg : T_func_string_int32_int.agg = false := rfl
@[simp] theorem T_func_string_int32_int_zero : T_func_string_int32_int.zero = [.nilfn] := rfl
@[simp] theorem T_func_string_int32_int_kind : T_func_string_int32_int.kind = .func := rfl
@[simp] theorem T_func_string_int32_int_id : T_func_string_int32_int.id = t_func_string_int32_int := rfl
def T_func_string_strings_asciiSet_bool : TI := { size := 1, bytes := 8, agg := false, zero := [.nilfn], kind := .func, id := 171 }
@[simp] theorem T_func_string_strings_asciiSet_bool_size : T_func_string_strings_asciiSet_bool.size = 1 := rfl
@[simp] theorem T_func_string_strings_asciiSet_bool_agg : T_func_string_strings_asciiSet_bool.agg = false := rfl
@[simp] theorem T_func_string_strings_asciiSet_bool_zero : T_func_string_strings_asciiSet_bool.zero = [.nilfn] := rfl
@[simp] theorem T_func_string_strings_asciiSet_bool_kind : T_func_string_strings_asciiSet_bool.kind = .func := rfl
@[simp] theorem T_func_string_strings_asciiSet_bool_id : T_func_string_strings_asciiSet_bool.id = t_func_string_strings_asciiSet_bool := rfl
def T_func_uint8_bool : TI := { size := 1, bytes := 8, agg := false, zero := [.nilfn], kind := .func, id := 172 }
@[simp] theorem T_func_uint8_bool_size : T_func_uint8_bool.size = 1 := rfl
@[simp] theorem T_func_uint8_bool_agg : T_func_uint8_bool.agg = false := rfl
@[simp] theorem T_func_uint8_bool_zero : T_func_uint8_bool.zero = [.nilfn] := rfl
@[simp] theorem T_func_uint8_bool_kind : T_func_uint8_bool.kind = .func := rfl
@[simp] theorem T_func_uint8_bool_id : T_func_uint8_bool.id = t_func_uint8_bool := rfl
def T_p_uint8 : TI := { size := 1, bytes := 8, agg := false, zero := [.nil], kind := .ptr 5, id := 173 }
@[simp] theorem T_p_uint8_size : T_p_uint8.size = 1 := rfl
@[simp] theorem T_p_uint8_agg : T_p_uint8.agg = false := rfl
@[simp] theorem T_p_uint8_zero : T_p_uint8.zero = [.nil] := rfl
@[simp] theorem T_p_uint8_kind : T_p_uint8.kind = .ptr 5 := rfl
@[simp] theorem T_p_uint8_id : T_p_uint8.id = t_p_uint8 := rfl
def T_func_int_int_bool_ea9af1 : TI := { size := 1, bytes := 8, agg := false, zero := [.nilfn], kind := .func, id := 174 }
@[simp] theorem T_func_int_int_bool_ea9af1_size : T_func_int_int_bool_ea9af1.size = 1 := rfl
@[simp] theorem T_func_int_int_bool_ea9af1_agg : T_func_int_int_bool_ea9af1.agg = false := rfl
@[simp] theorem T_func_int_int_bool_ea9af1_zero : T_func_int_int_bool_ea9af1.zero = [.nilfn] := rfl
@[simp] theorem T_func_int_int_bool_ea9af1_kind : T_func_int_int_bool_ea9af1.kind = .func := rfl
@[simp] theorem T_func_int_int_bool_ea9af1_id : T_func_int_int_bool_ea9af1.id = t_func_int_int_bool_ea9af1 := rfl
def T_func_int_string_bool : TI := { size := 1, bytes := 8, agg := false, zero := [.nilfn], kind := .func, id := 175 }
@[simp] theorem T_func_int_string_bool_size : T_func_int_string_bool.size = 1 := rfl
@[simp] theorem T_func_int_string_bool_agg : T_func_int_string_bool.agg = false := rfl
@[simp] theorem T_func_int_string_bool_zero : T_func_int_string_bool.zero = [.nilfn] := rfl
@[simp] theorem T_func_int_string_bool_kind : T_func_int_string_bool.kind = .func := rfl
@[simp] theorem T_func_int_string_bool_id : T_func_int_string_bool.id = t_func_int_string_bool := rfl
def T_func_string_int : TI := { size := 1, bytes := 8, agg := false, zero := [.nilfn], kind := .func, id := 176 }
@[simp] theorem T_func_string_int_size : T_func_string_int.size = 1 := rfl
@[simp] theorem T_func_string_int_agg : T_func_string_int.agg = false := rfl
@[simp] theorem T_func_string_int_zero : T_func_string_int.zero = [.nilfn] := rfl
@[simp] theorem T_func_string_int_kind : T_func_string_int.kind = .func := rfl
@[simp] theorem T_func_string_int_id : T_func_string_int.id = t_func_string_int := rfl
def T_func_string_int32_int_dd94b7 : TI := { size := 1, bytes := 8, agg := false, zero := [.nilfn], kind := .func, id := 178 }
@[simp] theorem T_func_string_int32_int_dd94b7_size : T_func_string_int32_int_dd94b7.size = 1 := rfl
@[simp] theorem T_func_string_int32_int_dd94b7_agg : T_func_string_int32_int_dd94b7.agg = false := rfl
@[simp] theorem T_func_string_int32_int_dd94b7_zero : T_func_string_int32_int_dd94b7.zero = [.nilfn] := rfl
@[simp] theorem T_func_string_int32_int_dd94b7_kind : T_func_string_int32_int_dd94b7.kind = .func := rfl
@[simp] theorem T_func_string_int32_int_dd94b7_id : T_func_string_int32_int_dd94b7.id = t_func_string_int32_int_dd94b7 := rfl
def T_func_int32_bool : TI := { size := 1, bytes := 8, agg := false, zero := [.nilfn], kind := .func, id := 179 }
@[simp] theorem T_func_int32_bool_size : T_func_int32_bool.size = 1 := rfl
@[simp] theorem T_func_int32_bool_agg : T_func_int32_bool.agg = false := rfl
@[simp] theorem T_func_int32_bool_zero : T_func_int32_bool.zero = [.nilfn] := rfl
@[simp] theorem T_func_int32_bool_kind : T_func_int32_bool.kind = .func := rfl
@[simp] theorem T_func_int32_bool_id : T_func_int32_bool.id = t_func_int32_bool := rfl
def T_p_strings_asciiSet : TI := { size := 1, bytes := 8, agg := false, zero := [.nil], kind := .ptr 169, id := 180 }
@[simp] theorem T_p_strings_asciiSet_size : T_p_strings_asciiSet.size = 1 := rfl
@[simp] theorem T_p_strings_asciiSet_agg : T_p_strings_asciiSet.agg = false := rfl
@[simp] theorem T_p_strings_asciiSet_zero : T_p_strings_asciiSet.zero = [.nil] := rfl
@[simp] theorem T_p_strings_asciiSet_kind : T_p_strings_asciiSet.kind = .ptr 169 := rfl
@[simp] theorem T_p_strings_asciiSet_id : T_p_strings_asciiSet.id = t_p_strings_asciiSet := rfl
def T_func_unsafe_Pointer_unsafe_Pointer : TI := { size := 1, bytes := 8, agg := false, zero := [.nilfn], kind := .func, id := 182 }
@[simp] theorem T_func_unsafe_Pointer_unsafe_Pointer_size : T_func_unsafe_Pointer_unsafe_Pointer.size = 1 := rfl
@[simp] theorem T_func_unsafe_Pointer_unsafe_Pointer_agg : T_func_unsafe_Pointer_unsafe_Pointer.agg = false := rfl
@[simp] theorem T_func_unsafe_Pointer_unsafe_Pointer_zero : T_func_unsafe_Pointer_unsafe_Pointer.zero = [.nilfn] := rfl
@[simp] theorem T_func_unsafe_Pointer_unsafe_Pointer_kind : T_func_unsafe_Pointer_unsafe_Pointer.kind = .func := rfl
@[simp] theorem T_func_unsafe_Pointer_unsafe_Pointer_id : T_func_unsafe_Pointer_unsafe_Pointer.id = t_func_unsafe_Pointer_unsafe_Pointer := rfl
def T_func_int_s_uint8 : TI := { size := 1, bytes := 8, agg := false, zero := [.nilfn], kind := .func, id := 183 }
@[simp] theorem T_func_int_s_uint8_size : T_func_int_s_uint8.size = 1 := rfl
@[simp] theorem T_func_int_s_uint8_agg : T_func_int_s_uint8.agg = false := rfl
@[simp] theorem T_func_int_s_uint8_zero : T_func_int_s_uint8.zero = [.nilfn] := rfl
@[simp] theorem T_func_int_s_uint8_kind : T_func_int_s_uint8.kind = .func := rfl
@[simp] theorem T_func_int_s_uint8_id : T_func_int_s_uint8.id = t_func_int_s_uint8 := rfl
def T_struct_lo_uint8_hi_uint8 : TI := { size := 2, bytes := 2, agg := true, zero := [.int .u8 0, .int .u8 0], kind := .struct [(0, 5, 1), (1, 5, 1)], id := 185 }
@[simp] theorem T_struct_lo_uint8_hi_uint8_size : T_struct_lo_uint8_hi_uint8.size = 2 := rfl
@[simp] theorem T_struct_lo_uint8_hi_uint8_agg : T_struct_lo_uint8_hi_uint8.agg = true := rfl
@[simp] theorem T_struct_lo_uint8_hi_uint8_zero : T_struct_lo_uint8_hi_uint8.zero = [.int .u8 0, .int .u8 0] := rfl
@[simp] theorem T_struct_lo_uint8_hi_uint8_kind : T_struct_lo_uint8_hi_uint8.kind = .struct [(0, 5, 1), (1, 5, 1)] := rfl
@[simp] theorem T_struct_lo_uint8_hi_uint8_id : T_struct_lo_uint8_hi_uint8.id = t_struct_lo_uint8_hi_uint8 := rfl
def T_utf8_acceptRange : TI := { size := 2, bytes := 2, agg := true, zero := [.int .u8 0, .int .u8 0], kind := .struct [(0, 5, 1), (1, 5, 1)], id := 186 }
@[simp] theorem T_utf8_acceptRange_size : T_utf8_acceptRange.size = 2 := rfl
@[simp] theorem T_utf8_acceptRange_agg : T_utf8_acceptRange.agg = true := rfl
@[simp] theorem T_utf8_acceptRange_zero : T_utf8_acceptRange.zero = [.int .u8 0, .int .u8 0] := rfl
@[simp] theorem T_utf8_acceptRange_kind : T_utf8_acceptRange.kind = .struct [(0, 5, 1), (1, 5, 1)] := rfl
@[simp] theorem T_utf8_acceptRange_id : T_utf8_acceptRange.id = t_utf8_acceptRange := rfl
def T_16_utf8_acceptRange : TI := { size := 32, bytes := 32, agg := true, zero := [.int .u8 0, .int .u8 0, .int .u8 0, .int .u8 0, .int .u8 0, .int .u8 0, .int .u8 0, .int .u8 0, .int .u8 0, .int .u8 0, .int .u8 0, .int .u8 0, .int .u8 0, .int .u8 0, .int .u8 0, .int .u8 0, .int .u8 0, .int .u8 0, .int .u8 0, .int .u8 0, .int .u8 0, .int .u8 0, .int .u8 0, .int .u8 0, .int .u8 0, .int .u8 0, .int .u8 0, .int .u8 0, .int .u8 0, .int .u8 0, .int .u8 0, .int .u8 0], kind := .array 16 186, id := 187 }
@[simp] theorem T_16_utf8_acceptRange_size : T_16_utf8_acceptRange.size = 32 := rfl
@[simp] theorem T_16_utf8_acceptRange_agg : T_16_utf8_acceptRange.agg = true := rfl
@[simp] theorem T_16_utf8_acceptRange_zero : T_16_utf8_acceptRange.zero = [.int .u8 0, .int .u8 0, .int .u8 0, .int .u8 0, .int .u8 0, .int .u8 0, .int .u8 0, .int .u8 0, .int .u8 0, .int .u8 0, .int .u8 0, .int .u8 0, .int .u8 0, .int .u8 0, .int .u8 0, .int .u8 0, .int .u8 0, .int .u8 0, .int .u8 0, .int .u8 0, .int .u8 0, .int .u8 0, .int .u8 0, .int .u8 0, .int .u8 0, .int .u8 0, .int .u8 0, .int .u8 0, .int .u8 0, .int .u8 0, .int .u8 0, .int .u8 0] := rfl
@[simp] theorem T_16_utf8_acceptRange_kind : T_16_utf8_acceptRange.kind = .array 16 186 := rfl
@[simp] theorem T_16_utf8_acceptRange_id : T_16_utf8_acceptRange.id = t_16_utf8_acceptRange := rfl
def T_uint32 : TI := { size := 1, bytes := 4, agg := false, zero := [.int .u32 0], kind := .int .u32, id := 188 }
@[simp] theorem T_uint32_size : T_uint32.size = 1 := rfl
@[simp] theorem T_uint32_agg : T_uint32.agg = false := rfl
@[simp] theorem T_uint32_zero : T_uint32.zero = [.int .u32 0] := rfl
@[simp] theorem T_uint32_kind : T_uint32.kind = .int .u32 := rfl
@[simp] theorem T_uint32_id : T_uint32.id = t_uint32 := rfl
def T_func_string_uint32_uint32 : TI := { size := 1, bytes := 8, agg := false, zero := [.nilfn], kind := .func, id := 190 }
@[simp] theorem T_func_string_uint32_uint32_size : T_func_string_uint32_uint32.size = 1 := rfl
@[simp] theorem T_func_string_uint32_uint32_agg : T_func_string_uint32_uint32.agg = false := rfl
@[simp] theorem T_func_string_uint32_uint32_zero : T_func_string_uint32_uint32.zero = [.nilfn] := rfl
@[simp] theorem T_func_string_uint32_uint32_kind : T_func_string_uint32_uint32.kind = .func := rfl
@[simp] theorem T_func_string_uint32_uint32_id : T_func_string_uint32_uint32.id = t_func_string_uint32_uint32 := rfl
def T_struct_interface_p_abi_Type_concrete_p_abi_Type__3af7698d : TI := { size := 4, bytes := 40, agg := true, zero := [.nil, .nil, .nil, .str []], kind := .struct [(0, 17, 1), (1, 17, 1), (2, 17, 1), (3, 9, 1)], id := 191 }
@[simp] theorem T_struct_interface_p_abi_Type_concrete_p_abi_Type__3af7698d_size : T_struct_interface_p_abi_Type_concrete_p_abi_Type__3af7698d.size = 4 := rfl
@[simp] theorem T_struct_interface_p_abi_Type_concrete_p_abi_Type__3af7698d_agg : T_struct_interface_p_abi_Type_concrete_p_abi_Type__3af7698d.agg = true := rfl
@[simp] theorem T_struct_interface_p_abi_Type_concrete_p_abi_Type__3af7698d_zero : T_struct_interface_p_abi_Type_concrete_p_abi_Type__3af7698d.zero = [.nil, .nil, .nil, .str []] := rfl
@[simp] theorem T_struct_interface_p_abi_Type_concrete_p_abi_Type__3af7698d_kind : T_struct_interface_p_abi_Type_concrete_p_abi_Type__3af7698d.kind = .struct [(0, 17, 1), (1, 17, 1), (2, 17, 1), (3, 9, 1)] := rfl
@[simp] theorem T_struct_interface_p_abi_Type_concrete_p_abi_Type__3af7698d_id : T_struct_interface_p_abi_Type_concrete_p_abi_Type__3af7698d.id = t_struct_interface_p_abi_Type_concrete_p_abi_Type__3af7698d := rfl
def T_runtime_TypeAssertionError : TI := { size := 4, bytes := 40, agg := true, zero := [.nil, .nil, .nil, .str []], kind := .struct [(0, 17, 1), (1, 17, 1), (2, 17, 1), (3, 9, 1)], id := 192 }
@[simp] theorem T_runtime_TypeAssertionError_size : T_runtime_TypeAssertionError.size = 4 := rfl
@[simp] theorem T_runtime_TypeAssertionError_agg : T_runtime_TypeAssertionError.agg = true := rfl
@[simp] theorem T_runtime_TypeAssertionError_zero : T_runtime_TypeAssertionError.zero = [.nil, .nil, .nil, .str []] := rfl
@[simp] theorem T_runtime_TypeAssertionError_kind : T_runtime_TypeAssertionError.kind = .struct [(0, 17, 1), (1, 17, 1), (2, 17, 1), (3, 9, 1)] := rfl
@[simp] theorem T_runtime_TypeAssertionError_id : T_runtime_TypeAssertionError.id = t_runtime_TypeAssertionError := rfl
def T_0_p_runtime_PanicNilError : TI := { size := 0, bytes := 0, agg := true, zero := [], kind := .array 0 16, id := 193 }
@[simp] theorem T_0_p_runtime_PanicNilError_size : T_0_p_runtime_PanicNilError.size = 0 := rfl
@[simp] theorem T_0_p_runtime_PanicNilError_agg : T_0_p_runtime_PanicNilError.agg = true := rfl
@[simp] theorem T_0_p_runtime_PanicNilError_zero : T_0_p_runtime_PanicNilError.zero = [] := rfl
@[simp] theorem T_0_p_runtime_PanicNilError_kind : T_0_p_runtime_PanicNilError.kind = .array 0 16 := rfl
@[simp] theorem T_0_p_runtime_PanicNilError_id : T_0_p_runtime_PanicNilError.id = t_0_p_runtime_PanicNilError := rfl
def T_struct_0_p_runtime_PanicNilError : TI := { size := 0, bytes := 0, agg := true, zero := [], kind := .struct [(0, 193, 0)], id := 194 }
@[simp] theorem T_struct_0_p_runtime_PanicNilError_size : T_struct_0_p_runtime_PanicNilError.size = 0 := rfl
@[simp] theorem T_struct_0_p_runtime_PanicNilError_agg : T_struct_0_p_runtime_PanicNilError.agg = true := rfl
@[simp] theorem T_struct_0_p_runtime_PanicNilError_zero : T_struct_0_p_runtime_PanicNilError.zero = [] := rfl
@[simp] theorem T_struct_0_p_runtime_PanicNilError_kind : T_struct_0_p_runtime_PanicNilError.kind = .struct [(0, 193, 0)] := rfl
@[simp] theorem T_struct_0_p_runtime_PanicNilError_id : T_struct_0_p_runtime_PanicNilError.id = t_struct_0_p_runtime_PanicNilError := rfl
def T_runtime_PanicNilError : TI := { size := 0, bytes := 0, agg := true, zero := [], kind := .struct [(0, 193, 0)], id := 195 }
@[simp] theorem T_runtime_PanicNilError_size : T_runtime_PanicNilError.size = 0 := rfl
@[simp] theorem T_runtime_PanicNilError_agg : T_runtime_PanicNilError.agg = true := rfl
@[simp] theorem T_runtime_PanicNilError_zero : T_runtime_PanicNilError.zero = [] := rfl
@[simp] theorem T_runtime_PanicNilError_kind : T_runtime_PanicNilError.kind = .struct [(0, 193, 0)] := rfl
@[simp] theorem T_runtime_PanicNilError_id : T_runtime_PanicNilError.id = t_runtime_PanicNilError := rfl
def T_abi_TFlag : TI := { size := 1, bytes := 1, agg := false, zero := [.int .u8 0], kind := .int .u8, id := 196 }
@[simp] theorem T_abi_TFlag_size : T_abi_TFlag.size = 1 := rfl
@[simp] theorem T_abi_TFlag_agg : T_abi_TFlag.agg = false := rfl
@[simp] theorem T_abi_TFlag_zero : T_abi_TFlag.zero = [.int .u8 0] := rfl
@[simp] theorem T_abi_TFlag_kind : T_abi_TFlag.kind = .int .u8 := rfl
@[simp] theorem T_abi_TFlag_id : T_abi_TFlag.id = t_abi_TFlag := rfl
def T_abi_Kind : TI := { size := 1, bytes := 1, agg := false, zero := [.int .u8 0], kind := .int .u8, id := 197 }
@[simp] theorem T_abi_Kind_size : T_abi_Kind.size = 1 := rfl
@[simp] theorem T_abi_Kind_agg : T_abi_Kind.agg = false := rfl
@[simp] theorem T_abi_Kind_zero : T_abi_Kind.zero = [.int .u8 0] := rfl
@[simp] theorem T_abi_Kind_kind : T_abi_Kind.kind = .int .u8 := rfl
@[simp] theorem T_abi_Kind_id : T_abi_Kind.id = t_abi_Kind := rfl
def T_func_unsafe_Pointer_unsafe_Pointer_bool : TI := { size := 1, bytes := 8, agg := false, zero := [.nilfn], kind := .func, id := 198 }
@[simp] theorem T_func_unsafe_Pointer_unsafe_Pointer_bool_size : T_func_unsafe_Pointer_unsafe_Pointer_bool.size = 1 := rfl
@[simp] theorem T_func_unsafe_Pointer_unsafe_Pointer_bool_agg : T_func_unsafe_Pointer_unsafe_Pointer_bool.agg = false := rfl
@[simp] theorem T_func_unsafe_Pointer_unsafe_Pointer_bool_zero : T_func_unsafe_Pointer_unsafe_Pointer_bool.zero = [.nilfn] := rfl
@[simp] theorem T_func_unsafe_Pointer_unsafe_Pointer_bool_kind : T_func_unsafe_Pointer_unsafe_Pointer_bool.kind = .func := rfl
@[simp] theorem T_func_unsafe_Pointer_unsafe_Pointer_bool_id : T_func_unsafe_Pointer_unsafe_Pointer_bool.id = t_func_unsafe_Pointer_unsafe_Pointer_bool := rfl
def T_abi_NameOff : TI := { size := 1, bytes := 4, agg := false, zero := [.int .i32 0], kind := .int .i32, id := 199 }
@[simp] theorem T_abi_NameOff_size : T_abi_NameOff.size = 1 := rfl
@[simp] theorem T_abi_NameOff_agg : T_abi_NameOff.agg = false := rfl
@[simp] theorem T_abi_NameOff_zero : T_abi_NameOff.zero = [.int .i32 0] := rfl
@[simp] theorem T_abi_NameOff_kind : T_abi_NameOff.kind = .int .i32 := rfl
@[simp] theorem T_abi_NameOff_id : T_abi_NameOff.id = t_abi_NameOff := rfl
def T_abi_TypeOff : TI := { size := 1, bytes := 4, agg := false, zero := [.int .i32 0], kind := .int .i32, id := 200 }
@[simp] theorem T_abi_TypeOff_size : T_abi_TypeOff.size = 1 := rfl
@[simp] theorem T_abi_TypeOff_agg : T_abi_TypeOff.agg = false := rfl
@[simp] theorem T_abi_TypeOff_zero : T_abi_TypeOff.zero = [.int .i32 0] := rfl
@[simp] theorem T_abi_TypeOff_kind : T_abi_TypeOff.kind = .int .i32 := rfl
@[simp] theorem T_abi_TypeOff_id : T_abi_TypeOff.id = t_abi_TypeOff := rfl
def T_struct_Size_uintptr_PtrBytes_uintptr_Hash_uint32_7c8ec20b : TI := { size := 11, bytes := 48, agg := true, zero := [.int .u64 0, .int .u64 0, .int .u32 0, .int .u8 0, .int .u8 0, .int .u8 0, .int .u8 0, .nilfn, .nil, .int .i32 0, .int .i32 0], kind := .struct [(0, 12, 1), (1, 12, 1), (2, 188, 1), (3, 196, 1), (4, 5, 1), (5, 5, 1), (6, 197, 1), (7, 198, 1), (8, 173, 1), (9, 199, 1), (10, 200, 1)], id := 201 }
@[simp] theorem T_struct_Size_uintptr_PtrBytes_uintptr_Hash_uint32_7c8ec20b_size : T_struct_Size_uintptr_PtrBytes_uintptr_Hash_uint32_7c8ec20b.size = 11 := rfl
@[simp] theorem T_struct_Size_uintptr_PtrBytes_uintptr_Hash_uint32_7c8ec20b_agg : T_struct_Size_uintptr_PtrBytes_uintptr_Hash_uint32_7c8ec20b.agg = true := rfl
@[simp] theorem T_struct_Size_uintptr_PtrBytes_uintptr_Hash_uint32_7c8ec20b_zero : T_struct_Size_uintptr_PtrBytes_uintptr_Hash_uint32_7c8ec20b.zero = [.int .u64 0, .int .u64 0, .int .u32 0, .int .u8 0, .int .u8 0, .int .u8 0, .int .u8 0, .nilfn, .nil, .int .i32 0, .int .i32 0] := rfl
@[simp] theorem T_struct_Size_uintptr_PtrBytes_uintptr_Hash_uint32_7c8ec20b_kind : T_struct_Size_uintptr_PtrBytes_uintptr_Hash_uint32_7c8ec20b.kind = .struct [(0, 12, 1), (1, 12, 1), (2, 188, 1), (3, 196, 1), (4, 5, 1), (5, 5, 1), (6, 197, 1), (7, 198, 1), (8, 173, 1), (9, 199, 1), (10, 200, 1)] := rfl
@[simp] theorem T_struct_Size_uintptr_PtrBytes_uintptr_Hash_uint32_7c8ec20b_id : T_struct_Size_uintptr_PtrBytes_uintptr_Hash_uint32_7c8ec20b.id = t_struct_Size_uintptr_PtrBytes_uintptr_Hash_uint32_7c8ec20b := rfl
def T_abi_Type : TI := { size := 11, bytes := 48, agg := true, zero := [.int .u64 0, .int .u64 0, .int .u32 0, .int .u8 0, .int .u8 0, .int .u8 0, .int .u8 0, .nilfn, .nil, .int .i32 0, .int .i32 0], kind := .struct [(0, 12, 1), (1, 12, 1), (2, 188, 1), (3, 196, 1), (4, 5, 1), (5, 5, 1), (6, 197, 1), (7, 198, 1), (8, 173, 1), (9, 199, 1), (10, 200, 1)], id := 202 }
@[simp] theorem T_abi_Type_size : T_abi_Type.size = 11 := rfl
@[simp] theorem T_abi_Type_agg : T_abi_Type.agg = true := rfl
@[simp] theorem T_abi_Type_zero : T_abi_Type.zero = [.int .u64 0, .int .u64 0, .int .u32 0, .int .u8 0, .int .u8 0, .int .u8 0, .int .u8 0, .nilfn, .nil, .int .i32 0, .int .i32 0] := rfl
@[simp] theorem T_abi_Type_kind : T_abi_Type.kind = .struct [(0, 12, 1), (1, 12, 1), (2, 188, 1), (3, 196, 1), (4, 5, 1), (5, 5, 1), (6, 197, 1), (7, 198, 1), (8, 173, 1), (9, 199, 1), (10, 200, 1)] := rfl
@[simp] theorem T_abi_Type_id : T_abi_Type.id = t_abi_Type := rfl
def tyOf : Nat → TI
  | 1 => T_func
  | 2 => T_int64
  | 3 => T_int
  | 4 => T_bool
  | 5 => T_uint8
  | 6 => T_abi_BoundsErrorCode
  | 7 => T_struct_x_int64_y_int_signed_bool_code_abi_BoundsErrorCode
  | 8 => T_runtime_boundsError
  | 9 => T_string
  | 10 => T_runtime_errorString
  | 11 => T_runtime_plainError
  | 12 => T_uintptr
  | 13 => T_struct_msg_string_addr_uintptr
  | 14 => T_runtime_errorAddressString
  | 15 => T_p_runtime_TypeAssertionError
  | 16 => T_p_runtime_PanicNilError
  | 17 => T_p_abi_Type
  | 18 => T_struct_typ_p_abi_Type
  | 19 => T_maps_unhashableTypeError
  | 20 => T_interface
  | 21 => T_int32
  | 22 => T_func_bool
  | 23 => T_s_string
  | 24 => T_api_Errno
  | 26 => T_func_string_s_string_bool_api_Errno
  | 28 => T_func_string_s_string_bool
  | 29 => T_func_s_string_s_string_bool
  | 30 => T_func_string_bool
  | 31 => T_func_string_string
  | 32 => T_func_s_string_string
  | 33 => T_func_string_string_string
  | 34 => T_func_string_string_b43980
  | 35 => T_func_s_string_bool
  | 36 => T_s_socagelaw07_Act
  | 37 => T_s_stack_mount
  | 38 => T_struct_l_s_stack_mount_next_int
  | 39 => T_stack_Stack
  | 40 => T_s_int
  | 41 => T_s_p_branch_Branch
  | 42 => T_s_stack_Stack
  | 43 => T_s_s_int
  | 44 => T_struct_Out_bool_ID_int
  | 45 => T_socagelaw07_Act
  | 47 => T_func_int_stack_Stack_api_Errno
  | 48 => T_p_branch_Branch
  | 50 => T_func_api_Node_p_branch_Branch_api_Errno
  | 51 => T_s_api_Node
  | 52 => T_s_api_Extent
  | 53 => T_struct_Kind_int_Opaque_bool_Names_s_string_Items_8666df6f
  | 54 => T_api_Node
  | 55 => T_func_s_string_api_Node_api_Node
  | 57 => T_func_p_branch_Branch_stack_Stack_int_api_Errno
  | 58 => T_func_stack_Stack_s_int_s_p_branch_Branch_bool
  | 59 => T_func_s_socagelaw07_Act_bool
  | 60 => T_func_api_Node_int
  | 61 => T_func_api_Node_bool
  | 62 => T_func_api_Node_stack_Stack_api_Errno
  | 63 => T_func_int
  | 64 => T_func_int_p_branch_Branch
  | 65 => T_func_int_int
  | 66 => T_func_s_api_Node_uint8_bool
  | 67 => T_func_api_Node_api_Node_bool
  | 69 => T_func_api_Node_string_api_Node_bool
  | 70 => T_func_api_Node_string_int
  | 71 => T_func_api_Node_api_Node_string_bool
  | 72 => T_func_string_api_Node
  | 73 => T_func_int_s_api_Extent_int_int_string
  | 74 => T_func_api_Node
  | 75 => T_func_api_Node_api_Node
  | 76 => T_func_string_s_string_uint8_bool
  | 78 => T_func_api_Node_string_api_Errno
  | 80 => T_func_api_Node_string_bool
  | 82 => T_func_string_api_Node_api_Errno
  | 83 => T_func_string_api_Node_bool
  | 84 => T_uint16
  | 85 => T_func_api_Node_uint16_string_bool
  | 86 => T_func_s_api_Node_int
  | 88 => T_func_s_api_Node_stack_Stack_bool
  | 89 => T_struct_Level_int_Inode_int
  | 90 => T_seen_Spot
  | 91 => T_s_seen_Spot
  | 92 => T_seen_Place
  | 93 => T_struct_Kind_int_seen_Spot_Dirs_seen_Place
  | 94 => T_seen_Found
  | 96 => T_func_stack_Stack_seen_Place_string_seen_Found_bool
  | 97 => T_func_stack_Stack_seen_Place
  | 98 => T_func_api_Node_s_api_Node_string_bool
  | 99 => T_func_string_string_s_string
  | 100 => T_func_string_string_bool
  | 101 => T_func_s_string_string_string
  | 102 => T_func_string_uint8_int
  | 103 => T_func_s_stack_mount_func_stack_mount_bool_int
  | 104 => T_struct_id_int_p_branch_Branch
  | 105 => T_stack_mount
  | 106 => T_func_stack_mount_bool
  | 107 => T_func_s_stack_mount_int_int_s_stack_mount
  | 108 => T_func_s_stack_mount_s_stack_mount
  | 109 => T_s_branch_inode
  | 110 => T_struct_table_s_branch_inode
  | 111 => T_branch_Branch
  | 112 => T_func_s_string_s_string
  | 113 => T_func_s_api_Node_s_api_Node
  | 114 => T_func_api_Node_int_p_int_bool
  | 115 => T_p_int
  | 116 => T_func_s_api_Extent_s_api_Extent_bool
  | 117 => T_struct_Off_int_Data_string
  | 118 => T_api_Extent
  | 119 => T_func_int_s_api_Extent_bool
  | 121 => T_func_s_string_string_int_bool
  | 122 => T_func_string_s_api_Extent
  | 123 => T_s_uint8
  | 124 => T_func_s_api_Extent_int_uint8
  | 125 => T_struct_b_s_uint8
  | 126 => T_wire_Writer
  | 127 => T_func_p_wire_Writer_api_Node
  | 128 => T_p_wire_Writer
  | 129 => T_func_string
  | 130 => T_func_api_Node_string
  | 131 => T_p_image_reader
  | 132 => T_p_wire_Reader
  | 133 => T_func_string_p_wire_Reader
  | 134 => T_struct_p_wire_Reader_bad_bool_left_int
  | 135 => T_image_reader
  | 136 => T_func_int_api_Node
  | 137 => T_struct_Node_api_Node_Len_int
  | 138 => T_socageref05_Got
  | 139 => T_func_string_int_socageref05_Got
  | 140 => T_func_int_string_int_bool
  | 141 => T_func_int_bool
  | 142 => T_func_string_string_int_int_s_string
  | 143 => T_func_string_string_int
  | 144 => T_p_strings_Builder
  | 145 => T_struct_addr_p_strings_Builder_buf_s_uint8
  | 146 => T_strings_Builder
  | 147 => T_func_int_f2d63e
  | 148 => T_interface_Error_string
  | 149 => T_error
  | 151 => T_func_string_int_error
  | 152 => T_struct_api_Node_ids_s_int
  | 153 => T_branch_inode
  | 154 => T_func_s_api_Extent_s_api_Extent
  | 155 => T_func_int_api_Extent_bool
  | 156 => T_uint
  | 157 => T_func_int_int_bool
  | 158 => T_func_string_int_bool
  | 159 => T_func_string_int_int_string
  | 160 => T_func_string_string_int_string
  | 161 => T_struct_s_string
  | 162 => T_wire_Reader
  | 163 => T_func_int_string
  | 164 => T_func_string_int_int_int
  | 165 => T_func_int_branch_inode
  | 166 => T_func_string_int_s_string
  | 167 => T_func_string_int32_int
  | 171 => T_func_string_strings_asciiSet_bool
  | 172 => T_func_uint8_bool
  | 173 => T_p_uint8
  | 174 => T_func_int_int_bool_ea9af1
  | 175 => T_func_int_string_bool
  | 176 => T_func_string_int
  | 178 => T_func_string_int32_int_dd94b7
  | 179 => T_func_int32_bool
  | 180 => T_p_strings_asciiSet
  | 182 => T_func_unsafe_Pointer_unsafe_Pointer
  | 183 => T_func_int_s_uint8
  | 185 => T_struct_lo_uint8_hi_uint8
  | 186 => T_utf8_acceptRange
  | 187 => T_16_utf8_acceptRange
  | 188 => T_uint32
  | 190 => T_func_string_uint32_uint32
  | 191 => T_struct_interface_p_abi_Type_concrete_p_abi_Type__3af7698d
  | 192 => T_runtime_TypeAssertionError
  | 193 => T_0_p_runtime_PanicNilError
  | 194 => T_struct_0_p_runtime_PanicNilError
  | 195 => T_runtime_PanicNilError
  | 196 => T_abi_TFlag
  | 197 => T_abi_Kind
  | 198 => T_func_unsafe_Pointer_unsafe_Pointer_bool
  | 199 => T_abi_NameOff
  | 200 => T_abi_TypeOff
  | 201 => T_struct_Size_uintptr_PtrBytes_uintptr_Hash_uint32_7c8ec20b
  | 202 => T_abi_Type
  | n => { size := 0, bytes := 0, agg := false, zero := [], kind := match n with | 0 | 25 | 27 | 46 | 49 | 56 | 68 | 77 | 79 | 81 | 87 | 95 | 120 | 150 | 170 | 177 | 189 => .tuple | _ => .other }
def locOf : Nat → Nat → Bool
  | 6, 3 => true
  | 6, 9 => true
  | 6, 13 => true
  | 6, 17 => true
  | 6, 21 => true
  | 7, 7 => true
  | 7, 8 => true
  | 7, 14 => true
  | 8, 1 => true
  | 9, 3 => true
  | 9, 4 => true
  | 9, 7 => true
  | 10, 7 => true
  | 10, 9 => true
  | 10, 10 => true
  | 11, 1 => true
  | 11, 7 => true
  | 12, 3 => true
  | 12, 5 => true
  | 13, 3 => true
  | 13, 9 => true
  | 13, 11 => true
  | 14, 3 => true
  | 14, 8 => true
  | 14, 10 => true
  | 14, 13 => true
  | 14, 15 => true
  | 25, 1 => true
  | 25, 3 => true
  | 25, 5 => true
  | 26, 2 => true
  | 26, 4 => true
  | 27, 1 => true
  | 28, 4 => true
  | 29, 2 => true
  | 29, 4 => true
  | 30, 3 => true
  | 31, 1 => true
  | 32, 1 => true
  | 33, 2 => true
  | 33, 4 => true
  | 33, 6 => true
  | 34, 1 => true
  | 35, 2 => true
  | 36, 2 => true
  | 38, 1 => true
  | 39, 1 => true
  | 39, 2 => true
  | 40, 1 => true
  | 41, 1 => true
  | 41, 5 => true
  | 42, 2 => true
  | 42, 3 => true
  | 43, 2 => true
  | 43, 3 => true
  | 44, 1 => true
  | 45, 2 => true
  | 45, 4 => true
  | 46, 2 => true
  | 47, 2 => true
  | 49, 2 => true
  | 50, 0 => true
  | 51, 1 => true
  | 51, 2 => true
  | 52, 3 => true
  | 53, 1 => true
  | 54, 1 => true
  | 55, 2 => true
  | 55, 5 => true
  | 56, 2 => true
  | 56, 4 => true
  | 57, 1 => true
  | 57, 4 => true
  | 57, 6 => true
  | 58, 4 => true
  | 59, 2 => true
  | 59, 5 => true
  | 59, 6 => true
  | 60, 3 => true
  | 60, 6 => true
  | 60, 8 => true
  | 60, 10 => true
  | 61, 1 => true
  | 67, 2 => true
  | 70, 3 => true
  | 70, 6 => true
  | 70, 8 => true
  | 73, 3 => true
  | 73, 8 => true
  | 73, 10 => true
  | 74, 1 => true
  | 75, 1 => true
  | 76, 3 => true
  | 76, 11 => true
  | 80, 1 => true
  | 84, 3 => true
  | 84, 5 => true
  | 86, 1 => true
  | 88, 4 => true
  | 88, 5 => true
  | 90, 4 => true
  | 90, 5 => true
  | 90, 6 => true
  | 90, 15 => true
  | 91, 8 => true
  | 101, 1 => true
  | 102, 7 => true
  | 103, 1 => true
  | 114, 4 => true
  | _, _ => false
def liveOf : Nat → Nat → List Nat × List Nat
  | 5, 6 => ([20], [])
  | 5, 17 => ([0, 9, 56], [])
  | 6, 11 => ([4, 5, 6, 7, 29], [3])
  | 6, 17 => ([10, 45], [9])
  | 6, 42 => ([135], [])
  | 7, 7 => ([5, 23], [])
  | 7, 18 => ([64], [8])
  | 7, 27 => ([13, 103], [])
  | 10, 10 => ([8, 60], [])
  | 10, 18 => ([98], [10])
  | 16, 4 => ([2, 17], [])
  | 17, 6 => ([0, 4, 5, 6], [])
  | 18, 4 => ([5], [])
  | 20, 4 => ([3], [])
  | 22, 3 => ([3, 4], [])
  | 30, 4 => ([40], [3])
  | 33, 3 => ([11], [2, 4])
  | 38, 3 => ([3, 4], [1])
  | 41, 3 => ([3, 9], [])
  | 42, 4 => ([60], [2, 3])
  | 43, 4 => ([5], [2, 3])
  | 43, 9 => ([6], [2, 3])
  | 46, 2 => ([5], [2])
  | 48, 5 => ([9, 10], [])
  | 58, 4 => ([10], [])
  | 59, 4 => ([14], [2])
  | 60, 3 => ([17], [3, 8])
  | 61, 3 => ([3, 7], [1])
  | 66, 2 => ([8], [])
  | 70, 5 => ([29], [6])
  | 73, 3 => ([27], [])
  | 73, 11 => ([59], [])
  | 74, 2 => ([3], [1])
  | 75, 3 => ([3, 4], [1])
  | 76, 16 => ([66], [])
  | 77, 4 => ([13], [])
  | 78, 4 => ([13], [])
  | 79, 4 => ([5], [])
  | 80, 4 => ([3], [1])
  | 81, 3 => ([7, 8], [])
  | 82, 3 => ([0, 3, 4], [])
  | 82, 5 => ([5], [])
  | 83, 2 => ([5], [])
  | 84, 7 => ([29], [])
  | 84, 19 => ([57], [3])
  | 86, 5 => ([3, 4], [1])
  | 86, 14 => ([3, 6], [1])
  | 88, 11 => ([6], [5])
  | 88, 19 => ([9], [5])
  | 90, 13 => ([0, 7, 9], [4, 5, 6])
  | 90, 28 => ([0, 7, 13], [4, 5, 6])
  | 102, 3 => ([5, 10], [])
  | 103, 2 => ([8], [1])
  | 104, 2 => ([5], [])
  | 107, 4 => ([7], [])
  | 109, 3 => ([1, 8], [])
  | 125, 5 => ([6, 24], [])
  | 127, 3 => ([3, 4], [])
  | _, _ => ([], [])
def hasL : List Nat := [1, 2, 3, 4, 5, 6, 7, 8, 9, 10, 11, 12, 13, 14, 15, 16, 17, 18, 19, 20, 21, 22, 23, 24, 26, 28, 29, 30, 31, 32, 33, 34, 35, 36, 37, 38, 39, 40, 41, 42, 43, 44, 45, 47, 48, 50, 51, 52, 53, 54, 55, 57, 58, 59, 60, 61, 62, 63, 64, 65, 66, 67, 69, 70, 71, 72, 73, 74, 75, 76, 78, 80, 82, 83, 84, 85, 86, 88, 89, 90, 91, 92, 93, 94, 96, 97, 98, 99, 100, 101, 102, 103, 104, 105, 106, 107, 108, 109, 110, 111, 112, 113, 114, 115, 116, 117, 118, 119, 121, 122, 123, 124, 125, 126, 127, 128, 129, 130, 131, 132, 133, 134, 135, 136, 137, 138, 139, 140, 141, 142, 143, 144, 145, 146, 147, 148, 149, 151, 152, 153, 154, 155, 156, 157, 158, 159, 160, 161, 162, 163, 164, 165, 166, 167, 171, 172, 173, 174, 175, 176, 178, 179, 180, 182, 183, 185, 186, 187, 188, 190, 191, 192, 193, 194, 195, 196, 197, 198, 199, 200, 201, 202]
def hasOf : Nat → Bool
  | 1 => true
  | 2 => true
  | 3 => true
  | 4 => true
  | 5 => true
  | 6 => true
  | 7 => true
  | 8 => true
  | 9 => true
  | 10 => true
  | 11 => true
  | 12 => true
  | 13 => true
  | 14 => true
  | 15 => true
  | 16 => true
  | 17 => true
  | 18 => true
  | 19 => true
  | 20 => true
  | 21 => true
  | 22 => true
  | 23 => true
  | 24 => true
  | 26 => true
  | 28 => true
  | 29 => true
  | 30 => true
  | 31 => true
  | 32 => true
  | 33 => true
  | 34 => true
  | 35 => true
  | 36 => true
  | 37 => true
  | 38 => true
  | 39 => true
  | 40 => true
  | 41 => true
  | 42 => true
  | 43 => true
  | 44 => true
  | 45 => true
  | 47 => true
  | 48 => true
  | 50 => true
  | 51 => true
  | 52 => true
  | 53 => true
  | 54 => true
  | 55 => true
  | 57 => true
  | 58 => true
  | 59 => true
  | 60 => true
  | 61 => true
  | 62 => true
  | 63 => true
  | 64 => true
  | 65 => true
  | 66 => true
  | 67 => true
  | 69 => true
  | 70 => true
  | 71 => true
  | 72 => true
  | 73 => true
  | 74 => true
  | 75 => true
  | 76 => true
  | 78 => true
  | 80 => true
  | 82 => true
  | 83 => true
  | 84 => true
  | 85 => true
  | 86 => true
  | 88 => true
  | 89 => true
  | 90 => true
  | 91 => true
  | 92 => true
  | 93 => true
  | 94 => true
  | 96 => true
  | 97 => true
  | 98 => true
  | 99 => true
  | 100 => true
  | 101 => true
  | 102 => true
  | 103 => true
  | 104 => true
  | 105 => true
  | 106 => true
  | 107 => true
  | 108 => true
  | 109 => true
  | 110 => true
  | 111 => true
  | 112 => true
  | 113 => true
  | 114 => true
  | 115 => true
  | 116 => true
  | 117 => true
  | 118 => true
  | 119 => true
  | 121 => true
  | 122 => true
  | 123 => true
  | 124 => true
  | 125 => true
  | 126 => true
  | 127 => true
  | 128 => true
  | 129 => true
  | 130 => true
  | 131 => true
  | 132 => true
  | 133 => true
  | 134 => true
  | 135 => true
  | 136 => true
  | 137 => true
  | 138 => true
  | 139 => true
  | 140 => true
  | 141 => true
  | 142 => true
  | 143 => true
  | 144 => true
  | 145 => true
  | 146 => true
  | 147 => true
  | 148 => true
  | 149 => true
  | 151 => true
  | 152 => true
  | 153 => true
  | 154 => true
  | 155 => true
  | 156 => true
  | 157 => true
  | 158 => true
  | 159 => true
  | 160 => true
  | 161 => true
  | 162 => true
  | 163 => true
  | 164 => true
  | 165 => true
  | 166 => true
  | 167 => true
  | 171 => true
  | 172 => true
  | 173 => true
  | 174 => true
  | 175 => true
  | 176 => true
  | 178 => true
  | 179 => true
  | 180 => true
  | 182 => true
  | 183 => true
  | 185 => true
  | 186 => true
  | 187 => true
  | 188 => true
  | 190 => true
  | 191 => true
  | 192 => true
  | 193 => true
  | 194 => true
  | 195 => true
  | 196 => true
  | 197 => true
  | 198 => true
  | 199 => true
  | 200 => true
  | 201 => true
  | 202 => true
  | _ => false
def eqkL : List Nat := [7, 8, 44, 45, 89, 90, 117, 118, 161, 162, 185, 186]
def eqkOf : Nat → Bool
  | 7 => true
  | 8 => true
  | 44 => true
  | 45 => true
  | 89 => true
  | 90 => true
  | 117 => true
  | 118 => true
  | 161 => true
  | 162 => true
  | 185 => true
  | 186 => true
  | _ => false
def byrefOf : Nat → Bool
  | 153 => true
  | _ => false
def methOf (t : Nat) (m : String) : Option Nat :=
  match t with
  | _ => none
def tkOf : Nat → Nat → Bool
  | 16, 2 => true
  | 16, 3 => true
  | 16, 4 => true
  | _, _ => false
def C : Ctx := { ty := tyOf, has := hasOf, eqk := eqkOf, loc := locOf, byref := byrefOf, meth := methOf, live := liveOf, tk := tkOf }
@[simp] theorem C_meth : C.meth = methOf := rfl
noncomputable def En (w0 : World) : Env := ⟨Tryd.prog, C, w0⟩
theorem hasOf_mem : ∀ t, hasOf t = true → hasL.elem t = true := by
  intro t h
  unfold hasOf at h
  split at h <;> first | rfl | cases h
theorem eqkOf_mem : ∀ t, eqkOf t = true → eqkL.elem t = true := by
  intro t h
  unfold eqkOf at h
  split at h <;> first | rfl | cases h
theorem tabOk : hasL.all (fun t => tyCheck Tryd.prog t (tyOf t)) = true := by kernel_rfl
theorem eqkOk : eqkL.all (fun t => eqkCheck Tryd.prog t (tyOf t).zero) = true := by kernel_rfl
theorem methOk : ∀ t m g, methOf t m = some g → ∀ v w, (method (Tryd.prog.types.size + Made.depth) t v m).run Tryd.prog w = .ok (g, v) w := by
  intro t m g h v w
  unfold methOf at h
  cases h
theorem agree (w0 : World) : Agree (En w0) := agree_of (En w0) hasL eqkL hasOf_mem eqkOf_mem tabOk eqkOk methOk
theorem mixed : Tryd.prog.follows .mixedOrders = true := by kernel_rfl
/-- What stands for a call: the call. -/
theorem Ca_sound (w0 : World) : CaSound (En w0) (ACalls (En w0)) := fun _ _ _ _ h => h
theorem Ca_mono (w0 : World) : CaMono (ACalls (En w0)) := fun g xs S Q Q' h hq => ⟨h.1, fun G w hr hro args' hl ha => (h.2 G w hr hro args' hl ha).mono fun e w' ⟨v, r, S', G', h1, h2, h3⟩ => ⟨v, r, S', G', h1, hq _ _ h2, h3⟩⟩
theorem fn_ok (w0 : World) {n : Nat} {fn : Func} (hf : Tryd.prog.funcs[n]? = some fn) (hname : (fn.name == "runtime.NumGoroutine") = false) {args : List AV} {S : St} {Q : AV → St → Prop}
    (h : WF C (ACalls (En w0)) n (Drw C (ACalls (En w0)) n) fn args S Q) : ACalls (En w0) n args S Q :=
  WF_sound (E := En w0) (agree w0) (Ca_sound w0) (Ca_mono w0) (Drw_sound (agree w0) (Ca_sound w0) (Ca_mono w0) mixed) (Drw_mono (Ca_mono w0)) hf hname h
abbrev AC (w0 : World) := ACalls (En w0)
theorem AC_mono {w0 : World} {g : Nat} {xs : List AV} {S : St} {Q Q' : AV → St → Prop} (h : AC w0 g xs S Q) (hq : ∀ r S', Q r S' → Q' r S') : AC w0 g xs S Q' := Ca_mono w0 g xs S Q Q' h hq
abbrev un_func := @Tryd.underlying1
abbrev un_int64 := @Tryd.underlying2
abbrev un_int := @Tryd.underlying3
abbrev un_bool := @Tryd.underlying4
abbrev un_uint8 := @Tryd.underlying5
abbrev ag_uint8 := @Tryd.isAgg5
abbrev sz_uint8 := @Tryd.sizeOf5
abbrev zv_uint8 := @Tryd.zeroValue5
abbrev un_abi_BoundsErrorCode := @Tryd.underlying6
abbrev un_struct_x_int64_y_int_signed_bool_code_abi_BoundsErrorCode := @Tryd.underlying7
abbrev un_runtime_boundsError := @Tryd.underlying8
abbrev un_string := @Tryd.underlying9
abbrev un_runtime_errorString := @Tryd.underlying10
abbrev un_runtime_plainError := @Tryd.underlying11
abbrev un_uintptr := @Tryd.underlying12
abbrev un_struct_msg_string_addr_uintptr := @Tryd.underlying13
abbrev un_runtime_errorAddressString := @Tryd.underlying14
abbrev un_p_runtime_TypeAssertionError := @Tryd.underlying15
abbrev un_p_runtime_PanicNilError := @Tryd.underlying16
abbrev un_p_abi_Type := @Tryd.underlying17
abbrev un_struct_typ_p_abi_Type := @Tryd.underlying18
abbrev un_maps_unhashableTypeError := @Tryd.underlying19
abbrev un_interface := @Tryd.underlying20
abbrev un_int32 := @Tryd.underlying21
abbrev un_func_bool := @Tryd.underlying22
abbrev un_s_string := @Tryd.underlying23
abbrev un_api_Errno := @Tryd.underlying24
abbrev un_func_string_s_string_bool_api_Errno := @Tryd.underlying26
abbrev un_func_string_s_string_bool := @Tryd.underlying28
abbrev un_func_s_string_s_string_bool := @Tryd.underlying29
abbrev un_func_string_bool := @Tryd.underlying30
abbrev un_func_string_string := @Tryd.underlying31
abbrev un_func_s_string_string := @Tryd.underlying32
abbrev un_func_string_string_string := @Tryd.underlying33
abbrev un_func_string_string_b43980 := @Tryd.underlying34
abbrev un_func_s_string_bool := @Tryd.underlying35
abbrev un_s_socagelaw07_Act := @Tryd.underlying36
abbrev un_s_stack_mount := @Tryd.underlying37
abbrev un_struct_l_s_stack_mount_next_int := @Tryd.underlying38
abbrev un_stack_Stack := @Tryd.underlying39
abbrev un_s_int := @Tryd.underlying40
abbrev un_s_p_branch_Branch := @Tryd.underlying41
abbrev un_s_stack_Stack := @Tryd.underlying42
abbrev un_s_s_int := @Tryd.underlying43
abbrev un_struct_Out_bool_ID_int := @Tryd.underlying44
abbrev un_socagelaw07_Act := @Tryd.underlying45
abbrev un_func_int_stack_Stack_api_Errno := @Tryd.underlying47
abbrev un_p_branch_Branch := @Tryd.underlying48
abbrev un_func_api_Node_p_branch_Branch_api_Errno := @Tryd.underlying50
abbrev un_s_api_Node := @Tryd.underlying51
abbrev un_s_api_Extent := @Tryd.underlying52
abbrev un_struct_Kind_int_Opaque_bool_Names_s_string_Items_8666df6f := @Tryd.underlying53
abbrev un_api_Node := @Tryd.underlying54
abbrev un_func_s_string_api_Node_api_Node := @Tryd.underlying55
abbrev un_func_p_branch_Branch_stack_Stack_int_api_Errno := @Tryd.underlying57
abbrev un_func_stack_Stack_s_int_s_p_branch_Branch_bool := @Tryd.underlying58
abbrev un_func_s_socagelaw07_Act_bool := @Tryd.underlying59
abbrev un_func_api_Node_int := @Tryd.underlying60
abbrev un_func_api_Node_bool := @Tryd.underlying61
abbrev un_func_api_Node_stack_Stack_api_Errno := @Tryd.underlying62
abbrev un_func_int := @Tryd.underlying63
abbrev un_func_int_p_branch_Branch := @Tryd.underlying64
abbrev un_func_int_int := @Tryd.underlying65
abbrev un_func_s_api_Node_uint8_bool := @Tryd.underlying66
abbrev un_func_api_Node_api_Node_bool := @Tryd.underlying67
abbrev un_func_api_Node_string_api_Node_bool := @Tryd.underlying69
abbrev un_func_api_Node_string_int := @Tryd.underlying70
abbrev un_func_api_Node_api_Node_string_bool := @Tryd.underlying71
abbrev un_func_string_api_Node := @Tryd.underlying72
abbrev un_func_int_s_api_Extent_int_int_string := @Tryd.underlying73
abbrev un_func_api_Node := @Tryd.underlying74
abbrev un_func_api_Node_api_Node := @Tryd.underlying75
abbrev un_func_string_s_string_uint8_bool := @Tryd.underlying76
abbrev un_func_api_Node_string_api_Errno := @Tryd.underlying78
abbrev un_func_api_Node_string_bool := @Tryd.underlying80
abbrev un_func_string_api_Node_api_Errno := @Tryd.underlying82
abbrev un_func_string_api_Node_bool := @Tryd.underlying83
abbrev un_uint16 := @Tryd.underlying84
abbrev un_func_api_Node_uint16_string_bool := @Tryd.underlying85
abbrev un_func_s_api_Node_int := @Tryd.underlying86
abbrev un_func_s_api_Node_stack_Stack_bool := @Tryd.underlying88
abbrev un_struct_Level_int_Inode_int := @Tryd.underlying89
abbrev un_seen_Spot := @Tryd.underlying90
abbrev un_s_seen_Spot := @Tryd.underlying91
abbrev un_seen_Place := @Tryd.underlying92
abbrev un_struct_Kind_int_seen_Spot_Dirs_seen_Place := @Tryd.underlying93
abbrev un_seen_Found := @Tryd.underlying94
abbrev un_func_stack_Stack_seen_Place_string_seen_Found_bool := @Tryd.underlying96
abbrev un_func_stack_Stack_seen_Place := @Tryd.underlying97
abbrev un_func_api_Node_s_api_Node_string_bool := @Tryd.underlying98
abbrev un_func_string_string_s_string := @Tryd.underlying99
abbrev un_func_string_string_bool := @Tryd.underlying100
abbrev un_func_s_string_string_string := @Tryd.underlying101
abbrev un_func_string_uint8_int := @Tryd.underlying102
abbrev un_func_s_stack_mount_func_stack_mount_bool_int := @Tryd.underlying103
abbrev un_struct_id_int_p_branch_Branch := @Tryd.underlying104
abbrev un_stack_mount := @Tryd.underlying105
abbrev un_func_stack_mount_bool := @Tryd.underlying106
abbrev un_func_s_stack_mount_int_int_s_stack_mount := @Tryd.underlying107
abbrev un_func_s_stack_mount_s_stack_mount := @Tryd.underlying108
abbrev un_s_branch_inode := @Tryd.underlying109
abbrev un_struct_table_s_branch_inode := @Tryd.underlying110
abbrev un_branch_Branch := @Tryd.underlying111
abbrev un_func_s_string_s_string := @Tryd.underlying112
abbrev un_func_s_api_Node_s_api_Node := @Tryd.underlying113
abbrev un_func_api_Node_int_p_int_bool := @Tryd.underlying114
abbrev un_p_int := @Tryd.underlying115
abbrev un_func_s_api_Extent_s_api_Extent_bool := @Tryd.underlying116
abbrev un_struct_Off_int_Data_string := @Tryd.underlying117
abbrev un_api_Extent := @Tryd.underlying118
abbrev un_func_int_s_api_Extent_bool := @Tryd.underlying119
abbrev un_func_s_string_string_int_bool := @Tryd.underlying121
abbrev un_func_string_s_api_Extent := @Tryd.underlying122
abbrev un_s_uint8 := @Tryd.underlying123
abbrev un_func_s_api_Extent_int_uint8 := @Tryd.underlying124
abbrev un_struct_b_s_uint8 := @Tryd.underlying125
abbrev un_wire_Writer := @Tryd.underlying126
abbrev un_func_p_wire_Writer_api_Node := @Tryd.underlying127
abbrev un_p_wire_Writer := @Tryd.underlying128
abbrev un_func_string := @Tryd.underlying129
abbrev un_func_api_Node_string := @Tryd.underlying130
abbrev un_p_image_reader := @Tryd.underlying131
abbrev un_p_wire_Reader := @Tryd.underlying132
abbrev un_func_string_p_wire_Reader := @Tryd.underlying133
abbrev un_struct_p_wire_Reader_bad_bool_left_int := @Tryd.underlying134
abbrev un_image_reader := @Tryd.underlying135
abbrev un_func_int_api_Node := @Tryd.underlying136
abbrev un_struct_Node_api_Node_Len_int := @Tryd.underlying137
abbrev un_socageref05_Got := @Tryd.underlying138
abbrev un_func_string_int_socageref05_Got := @Tryd.underlying139
abbrev un_func_int_string_int_bool := @Tryd.underlying140
abbrev un_func_int_bool := @Tryd.underlying141
abbrev un_func_string_string_int_int_s_string := @Tryd.underlying142
abbrev un_func_string_string_int := @Tryd.underlying143
abbrev un_p_strings_Builder := @Tryd.underlying144
abbrev un_struct_addr_p_strings_Builder_buf_s_uint8 := @Tryd.underlying145
abbrev un_strings_Builder := @Tryd.underlying146
abbrev un_func_int_f2d63e := @Tryd.underlying147
abbrev un_interface_Error_string := @Tryd.underlying148
abbrev un_error := @Tryd.underlying149
abbrev un_func_string_int_error := @Tryd.underlying151
abbrev un_struct_api_Node_ids_s_int := @Tryd.underlying152
abbrev un_branch_inode := @Tryd.underlying153
abbrev un_func_s_api_Extent_s_api_Extent := @Tryd.underlying154
abbrev un_func_int_api_Extent_bool := @Tryd.underlying155
abbrev un_uint := @Tryd.underlying156
abbrev un_func_int_int_bool := @Tryd.underlying157
abbrev un_func_string_int_bool := @Tryd.underlying158
abbrev un_func_string_int_int_string := @Tryd.underlying159
abbrev un_func_string_string_int_string := @Tryd.underlying160
abbrev un_struct_s_string := @Tryd.underlying161
abbrev un_wire_Reader := @Tryd.underlying162
abbrev un_func_int_string := @Tryd.underlying163
abbrev un_func_string_int_int_int := @Tryd.underlying164
abbrev un_func_int_branch_inode := @Tryd.underlying165
abbrev un_func_string_int_s_string := @Tryd.underlying166
abbrev un_func_string_int32_int := @Tryd.underlying167
abbrev un_256_bool := @Tryd.underlying168
abbrev un_strings_asciiSet := @Tryd.underlying169
abbrev un_func_string_strings_asciiSet_bool := @Tryd.underlying171
abbrev un_func_uint8_bool := @Tryd.underlying172
abbrev un_p_uint8 := @Tryd.underlying173
abbrev un_func_int_int_bool_ea9af1 := @Tryd.underlying174
abbrev un_func_int_string_bool := @Tryd.underlying175
abbrev un_func_string_int := @Tryd.underlying176
abbrev un_func_string_int32_int_dd94b7 := @Tryd.underlying178
abbrev un_func_int32_bool := @Tryd.underlying179
abbrev un_p_strings_asciiSet := @Tryd.underlying180
abbrev un_unsafe_Pointer := @Tryd.underlying181
abbrev un_func_unsafe_Pointer_unsafe_Pointer := @Tryd.underlying182
abbrev un_func_int_s_uint8 := @Tryd.underlying183
abbrev un_256_uint8 := @Tryd.underlying184
abbrev un_struct_lo_uint8_hi_uint8 := @Tryd.underlying185
abbrev un_utf8_acceptRange := @Tryd.underlying186
abbrev un_16_utf8_acceptRange := @Tryd.underlying187
abbrev un_uint32 := @Tryd.underlying188
abbrev un_func_string_uint32_uint32 := @Tryd.underlying190
abbrev un_struct_interface_p_abi_Type_concrete_p_abi_Type__3af7698d := @Tryd.underlying191
abbrev un_runtime_TypeAssertionError := @Tryd.underlying192
abbrev un_0_p_runtime_PanicNilError := @Tryd.underlying193
abbrev un_struct_0_p_runtime_PanicNilError := @Tryd.underlying194
abbrev un_runtime_PanicNilError := @Tryd.underlying195
abbrev un_abi_TFlag := @Tryd.underlying196
abbrev un_abi_Kind := @Tryd.underlying197
abbrev un_func_unsafe_Pointer_unsafe_Pointer_bool := @Tryd.underlying198
abbrev un_abi_NameOff := @Tryd.underlying199
abbrev un_abi_TypeOff := @Tryd.underlying200
abbrev un_struct_Size_uintptr_PtrBytes_uintptr_Hash_uint32_7c8ec20b := @Tryd.underlying201
abbrev un_abi_Type := @Tryd.underlying202
theorem ce_func : Tryd.prog.cellsOf t_func = 1 := by kernel_rfl
theorem ce_int64 : Tryd.prog.cellsOf t_int64 = 1 := by kernel_rfl
theorem ce_int : Tryd.prog.cellsOf t_int = 1 := by kernel_rfl
theorem ce_bool : Tryd.prog.cellsOf t_bool = 1 := by kernel_rfl
theorem ce_uint8 : Tryd.prog.cellsOf t_uint8 = 1 := by kernel_rfl
theorem ce_abi_BoundsErrorCode : Tryd.prog.cellsOf t_abi_BoundsErrorCode = 1 := by kernel_rfl
theorem ce_struct_x_int64_y_int_signed_bool_code_abi_BoundsErrorCode : Tryd.prog.cellsOf t_struct_x_int64_y_int_signed_bool_code_abi_BoundsErrorCode = 4 := by kernel_rfl
theorem ce_runtime_boundsError : Tryd.prog.cellsOf t_runtime_boundsError = 4 := by kernel_rfl
theorem ce_string : Tryd.prog.cellsOf t_string = 1 := by kernel_rfl
theorem ce_runtime_errorString : Tryd.prog.cellsOf t_runtime_errorString = 1 := by kernel_rfl
theorem ce_runtime_plainError : Tryd.prog.cellsOf t_runtime_plainError = 1 := by kernel_rfl
theorem ce_uintptr : Tryd.prog.cellsOf t_uintptr = 1 := by kernel_rfl
theorem ce_struct_msg_string_addr_uintptr : Tryd.prog.cellsOf t_struct_msg_string_addr_uintptr = 2 := by kernel_rfl
theorem ce_runtime_errorAddressString : Tryd.prog.cellsOf t_runtime_errorAddressString = 2 := by kernel_rfl
theorem ce_p_runtime_TypeAssertionError : Tryd.prog.cellsOf t_p_runtime_TypeAssertionError = 1 := by kernel_rfl
theorem ce_p_runtime_PanicNilError : Tryd.prog.cellsOf t_p_runtime_PanicNilError = 1 := by kernel_rfl
theorem ce_p_abi_Type : Tryd.prog.cellsOf t_p_abi_Type = 1 := by kernel_rfl
theorem ce_struct_typ_p_abi_Type : Tryd.prog.cellsOf t_struct_typ_p_abi_Type = 1 := by kernel_rfl
theorem ce_maps_unhashableTypeError : Tryd.prog.cellsOf t_maps_unhashableTypeError = 1 := by kernel_rfl
theorem ce_interface : Tryd.prog.cellsOf t_interface = 1 := by kernel_rfl
theorem ce_int32 : Tryd.prog.cellsOf t_int32 = 1 := by kernel_rfl
theorem ce_func_bool : Tryd.prog.cellsOf t_func_bool = 1 := by kernel_rfl
theorem ce_s_string : Tryd.prog.cellsOf t_s_string = 1 := by kernel_rfl
theorem ce_api_Errno : Tryd.prog.cellsOf t_api_Errno = 1 := by kernel_rfl
theorem ce_func_string_s_string_bool_api_Errno : Tryd.prog.cellsOf t_func_string_s_string_bool_api_Errno = 1 := by kernel_rfl
theorem ce_func_string_s_string_bool : Tryd.prog.cellsOf t_func_string_s_string_bool = 1 := by kernel_rfl
theorem ce_func_s_string_s_string_bool : Tryd.prog.cellsOf t_func_s_string_s_string_bool = 1 := by kernel_rfl
theorem ce_func_string_bool : Tryd.prog.cellsOf t_func_string_bool = 1 := by kernel_rfl
theorem ce_func_string_string : Tryd.prog.cellsOf t_func_string_string = 1 := by kernel_rfl
theorem ce_func_s_string_string : Tryd.prog.cellsOf t_func_s_string_string = 1 := by kernel_rfl
theorem ce_func_string_string_string : Tryd.prog.cellsOf t_func_string_string_string = 1 := by kernel_rfl
theorem ce_func_string_string_b43980 : Tryd.prog.cellsOf t_func_string_string_b43980 = 1 := by kernel_rfl
theorem ce_func_s_string_bool : Tryd.prog.cellsOf t_func_s_string_bool = 1 := by kernel_rfl
theorem ce_s_socagelaw07_Act : Tryd.prog.cellsOf t_s_socagelaw07_Act = 1 := by kernel_rfl
theorem ce_s_stack_mount : Tryd.prog.cellsOf t_s_stack_mount = 1 := by kernel_rfl
theorem ce_struct_l_s_stack_mount_next_int : Tryd.prog.cellsOf t_struct_l_s_stack_mount_next_int = 2 := by kernel_rfl
theorem ce_stack_Stack : Tryd.prog.cellsOf t_stack_Stack = 2 := by kernel_rfl
theorem ce_s_int : Tryd.prog.cellsOf t_s_int = 1 := by kernel_rfl
theorem ce_s_p_branch_Branch : Tryd.prog.cellsOf t_s_p_branch_Branch = 1 := by kernel_rfl
theorem ce_s_stack_Stack : Tryd.prog.cellsOf t_s_stack_Stack = 1 := by kernel_rfl
theorem ce_s_s_int : Tryd.prog.cellsOf t_s_s_int = 1 := by kernel_rfl
theorem ce_struct_Out_bool_ID_int : Tryd.prog.cellsOf t_struct_Out_bool_ID_int = 2 := by kernel_rfl
theorem ce_socagelaw07_Act : Tryd.prog.cellsOf t_socagelaw07_Act = 2 := by kernel_rfl
theorem ce_func_int_stack_Stack_api_Errno : Tryd.prog.cellsOf t_func_int_stack_Stack_api_Errno = 1 := by kernel_rfl
theorem ce_p_branch_Branch : Tryd.prog.cellsOf t_p_branch_Branch = 1 := by kernel_rfl
theorem ce_func_api_Node_p_branch_Branch_api_Errno : Tryd.prog.cellsOf t_func_api_Node_p_branch_Branch_api_Errno = 1 := by kernel_rfl
theorem ce_s_api_Node : Tryd.prog.cellsOf t_s_api_Node = 1 := by kernel_rfl
theorem ce_s_api_Extent : Tryd.prog.cellsOf t_s_api_Extent = 1 := by kernel_rfl
theorem ce_struct_Kind_int_Opaque_bool_Names_s_string_Items_8666df6f : Tryd.prog.cellsOf t_struct_Kind_int_Opaque_bool_Names_s_string_Items_8666df6f = 7 := by kernel_rfl
theorem ce_api_Node : Tryd.prog.cellsOf t_api_Node = 7 := by kernel_rfl
theorem ce_func_s_string_api_Node_api_Node : Tryd.prog.cellsOf t_func_s_string_api_Node_api_Node = 1 := by kernel_rfl
theorem ce_func_p_branch_Branch_stack_Stack_int_api_Errno : Tryd.prog.cellsOf t_func_p_branch_Branch_stack_Stack_int_api_Errno = 1 := by kernel_rfl
theorem ce_func_stack_Stack_s_int_s_p_branch_Branch_bool : Tryd.prog.cellsOf t_func_stack_Stack_s_int_s_p_branch_Branch_bool = 1 := by kernel_rfl
theorem ce_func_s_socagelaw07_Act_bool : Tryd.prog.cellsOf t_func_s_socagelaw07_Act_bool = 1 := by kernel_rfl
theorem ce_func_api_Node_int : Tryd.prog.cellsOf t_func_api_Node_int = 1 := by kernel_rfl
theorem ce_func_api_Node_bool : Tryd.prog.cellsOf t_func_api_Node_bool = 1 := by kernel_rfl
theorem ce_func_api_Node_stack_Stack_api_Errno : Tryd.prog.cellsOf t_func_api_Node_stack_Stack_api_Errno = 1 := by kernel_rfl
theorem ce_func_int : Tryd.prog.cellsOf t_func_int = 1 := by kernel_rfl
theorem ce_func_int_p_branch_Branch : Tryd.prog.cellsOf t_func_int_p_branch_Branch = 1 := by kernel_rfl
theorem ce_func_int_int : Tryd.prog.cellsOf t_func_int_int = 1 := by kernel_rfl
theorem ce_func_s_api_Node_uint8_bool : Tryd.prog.cellsOf t_func_s_api_Node_uint8_bool = 1 := by kernel_rfl
theorem ce_func_api_Node_api_Node_bool : Tryd.prog.cellsOf t_func_api_Node_api_Node_bool = 1 := by kernel_rfl
theorem ce_func_api_Node_string_api_Node_bool : Tryd.prog.cellsOf t_func_api_Node_string_api_Node_bool = 1 := by kernel_rfl
theorem ce_func_api_Node_string_int : Tryd.prog.cellsOf t_func_api_Node_string_int = 1 := by kernel_rfl
theorem ce_func_api_Node_api_Node_string_bool : Tryd.prog.cellsOf t_func_api_Node_api_Node_string_bool = 1 := by kernel_rfl
theorem ce_func_string_api_Node : Tryd.prog.cellsOf t_func_string_api_Node = 1 := by kernel_rfl
theorem ce_func_int_s_api_Extent_int_int_string : Tryd.prog.cellsOf t_func_int_s_api_Extent_int_int_string = 1 := by kernel_rfl
theorem ce_func_api_Node : Tryd.prog.cellsOf t_func_api_Node = 1 := by kernel_rfl
theorem ce_func_api_Node_api_Node : Tryd.prog.cellsOf t_func_api_Node_api_Node = 1 := by kernel_rfl
theorem ce_func_string_s_string_uint8_bool : Tryd.prog.cellsOf t_func_string_s_string_uint8_bool = 1 := by kernel_rfl
theorem ce_func_api_Node_string_api_Errno : Tryd.prog.cellsOf t_func_api_Node_string_api_Errno = 1 := by kernel_rfl
theorem ce_func_api_Node_string_bool : Tryd.prog.cellsOf t_func_api_Node_string_bool = 1 := by kernel_rfl
theorem ce_func_string_api_Node_api_Errno : Tryd.prog.cellsOf t_func_string_api_Node_api_Errno = 1 := by kernel_rfl
theorem ce_func_string_api_Node_bool : Tryd.prog.cellsOf t_func_string_api_Node_bool = 1 := by kernel_rfl
theorem ce_uint16 : Tryd.prog.cellsOf t_uint16 = 1 := by kernel_rfl
theorem ce_func_api_Node_uint16_string_bool : Tryd.prog.cellsOf t_func_api_Node_uint16_string_bool = 1 := by kernel_rfl
theorem ce_func_s_api_Node_int : Tryd.prog.cellsOf t_func_s_api_Node_int = 1 := by kernel_rfl
theorem ce_func_s_api_Node_stack_Stack_bool : Tryd.prog.cellsOf t_func_s_api_Node_stack_Stack_bool = 1 := by kernel_rfl
theorem ce_struct_Level_int_Inode_int : Tryd.prog.cellsOf t_struct_Level_int_Inode_int = 2 := by kernel_rfl
theorem ce_seen_Spot : Tryd.prog.cellsOf t_seen_Spot = 2 := by kernel_rfl
theorem ce_s_seen_Spot : Tryd.prog.cellsOf t_s_seen_Spot = 1 := by kernel_rfl
theorem ce_seen_Place : Tryd.prog.cellsOf t_seen_Place = 1 := by kernel_rfl
theorem ce_struct_Kind_int_seen_Spot_Dirs_seen_Place : Tryd.prog.cellsOf t_struct_Kind_int_seen_Spot_Dirs_seen_Place = 4 := by kernel_rfl
theorem ce_seen_Found : Tryd.prog.cellsOf t_seen_Found = 4 := by kernel_rfl
theorem ce_func_stack_Stack_seen_Place_string_seen_Found_bool : Tryd.prog.cellsOf t_func_stack_Stack_seen_Place_string_seen_Found_bool = 1 := by kernel_rfl
theorem ce_func_stack_Stack_seen_Place : Tryd.prog.cellsOf t_func_stack_Stack_seen_Place = 1 := by kernel_rfl
theorem ce_func_api_Node_s_api_Node_string_bool : Tryd.prog.cellsOf t_func_api_Node_s_api_Node_string_bool = 1 := by kernel_rfl
theorem ce_func_string_string_s_string : Tryd.prog.cellsOf t_func_string_string_s_string = 1 := by kernel_rfl
theorem ce_func_string_string_bool : Tryd.prog.cellsOf t_func_string_string_bool = 1 := by kernel_rfl
theorem ce_func_s_string_string_string : Tryd.prog.cellsOf t_func_s_string_string_string = 1 := by kernel_rfl
theorem ce_func_string_uint8_int : Tryd.prog.cellsOf t_func_string_uint8_int = 1 := by kernel_rfl
theorem ce_func_s_stack_mount_func_stack_mount_bool_int : Tryd.prog.cellsOf t_func_s_stack_mount_func_stack_mount_bool_int = 1 := by kernel_rfl
theorem ce_struct_id_int_p_branch_Branch : Tryd.prog.cellsOf t_struct_id_int_p_branch_Branch = 2 := by kernel_rfl
theorem ce_stack_mount : Tryd.prog.cellsOf t_stack_mount = 2 := by kernel_rfl
theorem ce_func_stack_mount_bool : Tryd.prog.cellsOf t_func_stack_mount_bool = 1 := by kernel_rfl
theorem ce_func_s_stack_mount_int_int_s_stack_mount : Tryd.prog.cellsOf t_func_s_stack_mount_int_int_s_stack_mount = 1 := by kernel_rfl
theorem ce_func_s_stack_mount_s_stack_mount : Tryd.prog.cellsOf t_func_s_stack_mount_s_stack_mount = 1 := by kernel_rfl
theorem ce_s_branch_inode : Tryd.prog.cellsOf t_s_branch_inode = 1 := by kernel_rfl
theorem ce_struct_table_s_branch_inode : Tryd.prog.cellsOf t_struct_table_s_branch_inode = 1 := by kernel_rfl
theorem ce_branch_Branch : Tryd.prog.cellsOf t_branch_Branch = 1 := by kernel_rfl
theorem ce_func_s_string_s_string : Tryd.prog.cellsOf t_func_s_string_s_string = 1 := by kernel_rfl
theorem ce_func_s_api_Node_s_api_Node : Tryd.prog.cellsOf t_func_s_api_Node_s_api_Node = 1 := by kernel_rfl
theorem ce_func_api_Node_int_p_int_bool : Tryd.prog.cellsOf t_func_api_Node_int_p_int_bool = 1 := by kernel_rfl
theorem ce_p_int : Tryd.prog.cellsOf t_p_int = 1 := by kernel_rfl
theorem ce_func_s_api_Extent_s_api_Extent_bool : Tryd.prog.cellsOf t_func_s_api_Extent_s_api_Extent_bool = 1 := by kernel_rfl
theorem ce_struct_Off_int_Data_string : Tryd.prog.cellsOf t_struct_Off_int_Data_string = 2 := by kernel_rfl
theorem ce_api_Extent : Tryd.prog.cellsOf t_api_Extent = 2 := by kernel_rfl
theorem ce_func_int_s_api_Extent_bool : Tryd.prog.cellsOf t_func_int_s_api_Extent_bool = 1 := by kernel_rfl
theorem ce_func_s_string_string_int_bool : Tryd.prog.cellsOf t_func_s_string_string_int_bool = 1 := by kernel_rfl
theorem ce_func_string_s_api_Extent : Tryd.prog.cellsOf t_func_string_s_api_Extent = 1 := by kernel_rfl
theorem ce_s_uint8 : Tryd.prog.cellsOf t_s_uint8 = 1 := by kernel_rfl
theorem ce_func_s_api_Extent_int_uint8 : Tryd.prog.cellsOf t_func_s_api_Extent_int_uint8 = 1 := by kernel_rfl
theorem ce_struct_b_s_uint8 : Tryd.prog.cellsOf t_struct_b_s_uint8 = 1 := by kernel_rfl
theorem ce_wire_Writer : Tryd.prog.cellsOf t_wire_Writer = 1 := by kernel_rfl
theorem ce_func_p_wire_Writer_api_Node : Tryd.prog.cellsOf t_func_p_wire_Writer_api_Node = 1 := by kernel_rfl
theorem ce_p_wire_Writer : Tryd.prog.cellsOf t_p_wire_Writer = 1 := by kernel_rfl
theorem ce_func_string : Tryd.prog.cellsOf t_func_string = 1 := by kernel_rfl
theorem ce_func_api_Node_string : Tryd.prog.cellsOf t_func_api_Node_string = 1 := by kernel_rfl
theorem ce_p_image_reader : Tryd.prog.cellsOf t_p_image_reader = 1 := by kernel_rfl
theorem ce_p_wire_Reader : Tryd.prog.cellsOf t_p_wire_Reader = 1 := by kernel_rfl
theorem ce_func_string_p_wire_Reader : Tryd.prog.cellsOf t_func_string_p_wire_Reader = 1 := by kernel_rfl
theorem ce_struct_p_wire_Reader_bad_bool_left_int : Tryd.prog.cellsOf t_struct_p_wire_Reader_bad_bool_left_int = 3 := by kernel_rfl
theorem ce_image_reader : Tryd.prog.cellsOf t_image_reader = 3 := by kernel_rfl
theorem ce_func_int_api_Node : Tryd.prog.cellsOf t_func_int_api_Node = 1 := by kernel_rfl
theorem ce_struct_Node_api_Node_Len_int : Tryd.prog.cellsOf t_struct_Node_api_Node_Len_int = 8 := by kernel_rfl
theorem ce_socageref05_Got : Tryd.prog.cellsOf t_socageref05_Got = 8 := by kernel_rfl
theorem ce_func_string_int_socageref05_Got : Tryd.prog.cellsOf t_func_string_int_socageref05_Got = 1 := by kernel_rfl
theorem ce_func_int_string_int_bool : Tryd.prog.cellsOf t_func_int_string_int_bool = 1 := by kernel_rfl
theorem ce_func_int_bool : Tryd.prog.cellsOf t_func_int_bool = 1 := by kernel_rfl
theorem ce_func_string_string_int_int_s_string : Tryd.prog.cellsOf t_func_string_string_int_int_s_string = 1 := by kernel_rfl
theorem ce_func_string_string_int : Tryd.prog.cellsOf t_func_string_string_int = 1 := by kernel_rfl
theorem ce_p_strings_Builder : Tryd.prog.cellsOf t_p_strings_Builder = 1 := by kernel_rfl
theorem ce_struct_addr_p_strings_Builder_buf_s_uint8 : Tryd.prog.cellsOf t_struct_addr_p_strings_Builder_buf_s_uint8 = 2 := by kernel_rfl
theorem ce_strings_Builder : Tryd.prog.cellsOf t_strings_Builder = 2 := by kernel_rfl
theorem ce_func_int_f2d63e : Tryd.prog.cellsOf t_func_int_f2d63e = 1 := by kernel_rfl
theorem ce_interface_Error_string : Tryd.prog.cellsOf t_interface_Error_string = 1 := by kernel_rfl
theorem ce_error : Tryd.prog.cellsOf t_error = 1 := by kernel_rfl
theorem ce_func_string_int_error : Tryd.prog.cellsOf t_func_string_int_error = 1 := by kernel_rfl
theorem ce_struct_api_Node_ids_s_int : Tryd.prog.cellsOf t_struct_api_Node_ids_s_int = 8 := by kernel_rfl
theorem ce_branch_inode : Tryd.prog.cellsOf t_branch_inode = 8 := by kernel_rfl
theorem ce_func_s_api_Extent_s_api_Extent : Tryd.prog.cellsOf t_func_s_api_Extent_s_api_Extent = 1 := by kernel_rfl
theorem ce_func_int_api_Extent_bool : Tryd.prog.cellsOf t_func_int_api_Extent_bool = 1 := by kernel_rfl
theorem ce_uint : Tryd.prog.cellsOf t_uint = 1 := by kernel_rfl
theorem ce_func_int_int_bool : Tryd.prog.cellsOf t_func_int_int_bool = 1 := by kernel_rfl
theorem ce_func_string_int_bool : Tryd.prog.cellsOf t_func_string_int_bool = 1 := by kernel_rfl
theorem ce_func_string_int_int_string : Tryd.prog.cellsOf t_func_string_int_int_string = 1 := by kernel_rfl
theorem ce_func_string_string_int_string : Tryd.prog.cellsOf t_func_string_string_int_string = 1 := by kernel_rfl
theorem ce_struct_s_string : Tryd.prog.cellsOf t_struct_s_string = 1 := by kernel_rfl
theorem ce_wire_Reader : Tryd.prog.cellsOf t_wire_Reader = 1 := by kernel_rfl
theorem ce_func_int_string : Tryd.prog.cellsOf t_func_int_string = 1 := by kernel_rfl
theorem ce_func_string_int_int_int : Tryd.prog.cellsOf t_func_string_int_int_int = 1 := by kernel_rfl
theorem ce_func_int_branch_inode : Tryd.prog.cellsOf t_func_int_branch_inode = 1 := by kernel_rfl
theorem ce_func_string_int_s_string : Tryd.prog.cellsOf t_func_string_int_s_string = 1 := by kernel_rfl
theorem ce_func_string_int32_int : Tryd.prog.cellsOf t_func_string_int32_int = 1 := by kernel_rfl
theorem ce_func_string_strings_asciiSet_bool : Tryd.prog.cellsOf t_func_string_strings_asciiSet_bool = 1 := by kernel_rfl
theorem ce_func_uint8_bool : Tryd.prog.cellsOf t_func_uint8_bool = 1 := by kernel_rfl
theorem ce_p_uint8 : Tryd.prog.cellsOf t_p_uint8 = 1 := by kernel_rfl
theorem ce_func_int_int_bool_ea9af1 : Tryd.prog.cellsOf t_func_int_int_bool_ea9af1 = 1 := by kernel_rfl
theorem ce_func_int_string_bool : Tryd.prog.cellsOf t_func_int_string_bool = 1 := by kernel_rfl
theorem ce_func_string_int : Tryd.prog.cellsOf t_func_string_int = 1 := by kernel_rfl
theorem ce_func_string_int32_int_dd94b7 : Tryd.prog.cellsOf t_func_string_int32_int_dd94b7 = 1 := by kernel_rfl
theorem ce_func_int32_bool : Tryd.prog.cellsOf t_func_int32_bool = 1 := by kernel_rfl
theorem ce_p_strings_asciiSet : Tryd.prog.cellsOf t_p_strings_asciiSet = 1 := by kernel_rfl
theorem ce_func_unsafe_Pointer_unsafe_Pointer : Tryd.prog.cellsOf t_func_unsafe_Pointer_unsafe_Pointer = 1 := by kernel_rfl
theorem ce_func_int_s_uint8 : Tryd.prog.cellsOf t_func_int_s_uint8 = 1 := by kernel_rfl
theorem ce_struct_lo_uint8_hi_uint8 : Tryd.prog.cellsOf t_struct_lo_uint8_hi_uint8 = 2 := by kernel_rfl
theorem ce_utf8_acceptRange : Tryd.prog.cellsOf t_utf8_acceptRange = 2 := by kernel_rfl
theorem ce_16_utf8_acceptRange : Tryd.prog.cellsOf t_16_utf8_acceptRange = 32 := by kernel_rfl
theorem ce_uint32 : Tryd.prog.cellsOf t_uint32 = 1 := by kernel_rfl
theorem ce_func_string_uint32_uint32 : Tryd.prog.cellsOf t_func_string_uint32_uint32 = 1 := by kernel_rfl
theorem ce_struct_interface_p_abi_Type_concrete_p_abi_Type__3af7698d : Tryd.prog.cellsOf t_struct_interface_p_abi_Type_concrete_p_abi_Type__3af7698d = 4 := by kernel_rfl
theorem ce_runtime_TypeAssertionError : Tryd.prog.cellsOf t_runtime_TypeAssertionError = 4 := by kernel_rfl
theorem ce_0_p_runtime_PanicNilError : Tryd.prog.cellsOf t_0_p_runtime_PanicNilError = 0 := by kernel_rfl
theorem ce_struct_0_p_runtime_PanicNilError : Tryd.prog.cellsOf t_struct_0_p_runtime_PanicNilError = 0 := by kernel_rfl
theorem ce_runtime_PanicNilError : Tryd.prog.cellsOf t_runtime_PanicNilError = 0 := by kernel_rfl
theorem ce_abi_TFlag : Tryd.prog.cellsOf t_abi_TFlag = 1 := by kernel_rfl
theorem ce_abi_Kind : Tryd.prog.cellsOf t_abi_Kind = 1 := by kernel_rfl
theorem ce_func_unsafe_Pointer_unsafe_Pointer_bool : Tryd.prog.cellsOf t_func_unsafe_Pointer_unsafe_Pointer_bool = 1 := by kernel_rfl
theorem ce_abi_NameOff : Tryd.prog.cellsOf t_abi_NameOff = 1 := by kernel_rfl
theorem ce_abi_TypeOff : Tryd.prog.cellsOf t_abi_TypeOff = 1 := by kernel_rfl
theorem ce_struct_Size_uintptr_PtrBytes_uintptr_Hash_uint32_7c8ec20b : Tryd.prog.cellsOf t_struct_Size_uintptr_PtrBytes_uintptr_Hash_uint32_7c8ec20b = 11 := by kernel_rfl
theorem ce_abi_Type : Tryd.prog.cellsOf t_abi_Type = 11 := by kernel_rfl
abbrev fn_gosem_cut_init := @Tryd.func2
abbrev fn_law01_NameSplits := @Tryd.func3
abbrev fn_law01_NameRight := @Tryd.func4
abbrev fn_law01_NameJoins := @Tryd.func5
abbrev fn_law07_StackDoes := @Tryd.func6
abbrev fn_law07_StackOf := @Tryd.func7
abbrev fn_law04_TreeRight := @Tryd.func8
abbrev fn_law04_TreeSame := @Tryd.func9
abbrev fn_law04_TreeMakes := @Tryd.func10
abbrev fn_law05_ImageEncodes := @Tryd.func11
abbrev fn_law05_ImageDecodes := @Tryd.func12
abbrev fn_law05_ImageCuts := @Tryd.func13
abbrev fn_law08_SeenOne := @Tryd.func14
abbrev fn_law01_speaks := @Tryd.func15
abbrev fn_name_Split := @Tryd.func16
abbrev fn_ref01_Split := @Tryd.func17
abbrev fn_ref01_Same := @Tryd.func18
abbrev fn_name_Right := @Tryd.func19
abbrev fn_ref01_Right := @Tryd.func20
abbrev fn_name_Join := @Tryd.func21
abbrev fn_ref01_Join := @Tryd.func22
abbrev fn_name_Child := @Tryd.func23
abbrev fn_name_Parent := @Tryd.func24
abbrev fn_law07_speaks := @Tryd.func25
abbrev fn_stack_Stack_Remove := @Tryd.func26
abbrev fn_branch_New := @Tryd.func27
abbrev fn_tree_Dir := @Tryd.func28
abbrev fn_stack_Stack_Add := @Tryd.func29
abbrev fn_law07_same := @Tryd.func30
abbrev fn_law04_Small := @Tryd.func31
abbrev fn_ref04_Right := @Tryd.func32
abbrev fn_stack_Of := @Tryd.func33
abbrev fn_stack_Stack_Len := @Tryd.func34
abbrev fn_stack_Stack_At := @Tryd.func35
abbrev fn_stack_Stack_ID := @Tryd.func36
abbrev fn_branch_Branch_Count := @Tryd.func37
abbrev fn_ref04_Count := @Tryd.func38
abbrev fn_law04_speaks := @Tryd.func39
abbrev fn_tree_Right := @Tryd.func40
abbrev fn_tree_Count := @Tryd.func41
abbrev fn_tree_Same := @Tryd.func42
abbrev fn_ref04_Same := @Tryd.func43
abbrev fn_ref04_One := @Tryd.func44
abbrev fn_tree_Find := @Tryd.func45
abbrev fn_ref04_Find := @Tryd.func46
abbrev fn_tree_Text := @Tryd.func47
abbrev fn_ref03_Read := @Tryd.func48
abbrev fn_tree_Link := @Tryd.func49
abbrev fn_tree_White := @Tryd.func50
abbrev fn_tree_Opaque := @Tryd.func51
abbrev fn_law05_speaks := @Tryd.func52
abbrev fn_image_Encode := @Tryd.func53
abbrev fn_ref05_Encode := @Tryd.func54
abbrev fn_image_Decode := @Tryd.func55
abbrev fn_ref05_Decode := @Tryd.func56
abbrev fn_law08_speaks := @Tryd.func57
abbrev fn_law08_May := @Tryd.func58
abbrev fn_law08_Stack := @Tryd.func59
abbrev fn_seen_Look := @Tryd.func60
abbrev fn_seen_Root := @Tryd.func61
abbrev fn_strings_Split := @Tryd.func62
abbrev fn_strings_ContainsAny := @Tryd.func63
abbrev fn_strings_Join := @Tryd.func64
abbrev fn_strings_LastIndexByte := @Tryd.func65
abbrev fn_slices_IndexFunc_s_stack_mount_stack_mount := @Tryd.func66
abbrev fn_stack_Stack_Remove_1 := @Tryd.func67
abbrev fn_slices_Delete_s_stack_mount_stack_mount := @Tryd.func68
abbrev fn_slices_Clone_s_stack_mount_stack_mount := @Tryd.func69
abbrev fn_branch_Branch_add := @Tryd.func70
abbrev fn_slices_Clone_s_string_string := @Tryd.func71
abbrev fn_slices_Clone_s_api_Node_api_Node := @Tryd.func72
abbrev fn_law04_small := @Tryd.func73
abbrev fn_ref04_all := @Tryd.func74
abbrev fn_ref04_Depth := @Tryd.func75
abbrev fn_tree_right := @Tryd.func76
abbrev fn_slices_Equal_s_string_string := @Tryd.func77
abbrev fn_slices_Equal_s_api_Extent_api_Extent := @Tryd.func78
abbrev fn_ref03_Right := @Tryd.func79
abbrev fn_ref04_entries := @Tryd.func80
abbrev fn_slices_BinarySearch_s_string_string := @Tryd.func81
abbrev fn_extent_Of := @Tryd.func82
abbrev fn_ref03_At := @Tryd.func83
abbrev fn_image_put := @Tryd.func84
abbrev fn_wire_Writer_Bytes := @Tryd.func85
abbrev fn_ref05_Put := @Tryd.func86
abbrev fn_wire_Read := @Tryd.func87
abbrev fn_image_reader_node := @Tryd.func88
abbrev fn_wire_Reader_Left := @Tryd.func89
abbrev fn_ref05_get := @Tryd.func90
abbrev fn_branch_Branch_Look := @Tryd.func91
abbrev fn_branch_Branch_Kind := @Tryd.func92
abbrev fn_branch_Branch_Opaque := @Tryd.func93
abbrev fn_strings_genSplit := @Tryd.func94
abbrev fn_strings_IndexAny := @Tryd.func95
abbrev fn_strings_Builder_Grow := @Tryd.func96
abbrev fn_strings_Builder_WriteString := @Tryd.func97
abbrev fn_strings_Builder_String := @Tryd.func98
abbrev fn_bytealg_LastIndexByteString := @Tryd.func99
abbrev fn_slices_Clone_s_api_Extent_api_Extent := @Tryd.func100
abbrev fn_tree_zero := @Tryd.func101
abbrev fn_extent_Right := @Tryd.func102
abbrev fn_tree_names := @Tryd.func103
abbrev fn_ref01_Less := @Tryd.func104
abbrev fn_cmp_Less_string := @Tryd.func105
abbrev fn_slices_isNaN_string := @Tryd.func106
abbrev fn_wire_Writer_Put := @Tryd.func107
abbrev fn_wire_Writer_Text := @Tryd.func108
abbrev fn_ref02_Put := @Tryd.func109
abbrev fn_ref05_text := @Tryd.func110
abbrev fn_image_reader_number := @Tryd.func111
abbrev fn_image_reader_text := @Tryd.func112
abbrev fn_ref05_number := @Tryd.func113
abbrev fn_branch_Branch_at := @Tryd.func114
abbrev fn_strings_explode := @Tryd.func115
abbrev fn_strings_Count := @Tryd.func116
abbrev fn_strings_Index := @Tryd.func117
abbrev fn_strings_IndexRune := @Tryd.func118
abbrev fn_strings_shouldUseASCIISet := @Tryd.func119
abbrev fn_strings_makeASCIISet := @Tryd.func120
abbrev fn_strings_asciiSet_contains := @Tryd.func121
abbrev fn_strings_Builder_copyCheck := @Tryd.func122
abbrev fn_strings_Builder_grow := @Tryd.func123
abbrev fn_cmp_isNaN_string := @Tryd.func124
abbrev fn_wire_Reader_Take := @Tryd.func125
abbrev fn_wire_Reader_Text := @Tryd.func126
abbrev fn_ref02_Get := @Tryd.func127
abbrev fn_utf8_RuneCountInString := @Tryd.func128
abbrev fn_utf8_DecodeRuneInString := @Tryd.func129
abbrev fn_stringslite_Index := @Tryd.func131
abbrev fn_strings_IndexByte := @Tryd.func132
abbrev fn_utf8_ValidRune := @Tryd.func133
abbrev fn_bytealg_Cutover := @Tryd.func134
abbrev fn_utf8_decodeRuneInStringSlow := @Tryd.func138
abbrev fn_stringslite_IndexByte := @Tryd.func139
abbrev fn_bytealg_IndexRabinKarp_string := @Tryd.func140
abbrev fn_bytealg_hashStr_string := @Tryd.func142
abbrev fn_gosem_cut_vars := @Tryd.func165
end Go.Av
