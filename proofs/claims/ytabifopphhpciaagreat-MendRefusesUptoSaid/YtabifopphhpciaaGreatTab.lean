/-
  The numbers of this seat's functions and types, and closed facts of the program's tables.
-/
import Derived.Test.YtabifopphhpciaaGreatProg
import Derived.Test.YtabifopphhpciaaGreatAny
namespace Go.Proofs.YtabifopphhpciaaGreat
open Go Go.Vc
noncomputable abbrev PP : Program := Tryz.prog
abbrev F_bytes_Equal : FuncId := 14
abbrev F_bytes_Join : FuncId := 51
abbrev F_cmp_Less : FuncId := 70
abbrev F_cmp_isNaN : FuncId := 98
abbrev F_code_Code_Decode : FuncId := 50
abbrev F_code_Code_Encode : FuncId := 11
abbrev F_code_Code_K : FuncId := 7
abbrev F_code_Code_N : FuncId := 6
abbrev F_code_Code_refused : FuncId := 84
abbrev F_code_Code_refused_c1 : FuncId := 104
abbrev F_code_Code_shaped : FuncId := 18
abbrev F_code_Code_shaped_c1 : FuncId := 35
abbrev F_code_Code_sum : FuncId := 19
abbrev F_code_New : FuncId := 10
abbrev F_code_generator : FuncId := 17
abbrev F_gf_Field_AddMul : FuncId := 36
abbrev F_gf_Field_Eval : FuncId := 57
abbrev F_gf_Field_Inv : FuncId := 102
abbrev F_gf_Field_Mul : FuncId := 52
abbrev F_gf_Field_Poly : FuncId := 78
abbrev F_gf_Field_Pow : FuncId := 53
abbrev F_gf_New : FuncId := 29
abbrev F_gf_Std : FuncId := 16
abbrev F_gf_turns : FuncId := 87
abbrev F_matrix_Matrix_Invert : FuncId := 31
abbrev F_matrix_Matrix_Mul : FuncId := 32
abbrev F_matrix_Matrix_Rows : FuncId := 33
abbrev F_matrix_Matrix_Solve : FuncId := 55
abbrev F_matrix_New : FuncId := 54
abbrev F_matrix_New_c1 : FuncId := 88
abbrev F_matrix_Vandermonde : FuncId := 30
abbrev F_matrix_blank : FuncId := 76
abbrev F_matrix_eliminate : FuncId := 77
abbrev F_matrix_eliminate_c1 : FuncId := 99
abbrev F_matrix_eliminate_c2 : FuncId := 100
abbrev F_matrix_eliminate_c3 : FuncId := 101
abbrev F_matrix_sized : FuncId := 75
abbrev F_mend_Decode : FuncId := 8
abbrev F_mend_Most : FuncId := 9
abbrev F_mend_columns : FuncId := 13
abbrev F_mend_columns_c1 : FuncId := 21
abbrev F_mend_divided : FuncId := 56
abbrev F_mend_divided_c1 : FuncId := 91
abbrev F_mend_place_easy : FuncId := 23
abbrev F_mend_refused : FuncId := 12
abbrev F_sherdlaw04_MendRefuses : FuncId := 3
abbrev F_sherdlaw04_made : FuncId := 4
abbrev F_sherdlaw04_mod : FuncId := 5
abbrev F_slices_Clone : FuncId := 89
abbrev F_slices_Contains : FuncId := 26
abbrev F_slices_ContainsFunc_api_Part_api_Part : FuncId := 103
abbrev F_slices_ContainsFunc_byte_byte : FuncId := 90
abbrev F_slices_ContainsFunc_byte_byte_34 : FuncId := 34
abbrev F_slices_Equal : FuncId := 85
abbrev F_slices_Index : FuncId := 63
abbrev F_slices_IndexFunc_api_Part_api_Part : FuncId := 107
abbrev F_slices_IndexFunc_byte_byte : FuncId := 105
abbrev F_slices_IndexFunc_byte_byte_79 : FuncId := 79
abbrev F_slices_Sort : FuncId := 15
abbrev G_bytealg_MaxLen : Nat := 0
abbrev Ty_0_p_runtime_PanicNilError : TypeId := 169
abbrev Ty_255_bool : TypeId := 158
abbrev Ty_256_int : TypeId := 127
abbrev Ty_510_uint8 : TypeId := 126
abbrev Ty_abi_BoundsErrorCode : TypeId := 6
abbrev Ty_abi_Kind : TypeId := 173
abbrev Ty_abi_NameOff : TypeId := 176
abbrev Ty_abi_TFlag : TypeId := 172
abbrev Ty_abi_Type : TypeId := 179
abbrev Ty_abi_TypeOff : TypeId := 177
abbrev Ty_api_Errno : TypeId := 32
abbrev Ty_api_Part : TypeId := 34
abbrev Ty_atomic_Uint64 : TypeId := 63
abbrev Ty_atomic_align64 : TypeId := 60
abbrev Ty_atomic_noCopy : TypeId := 59
abbrev Ty_bool : TypeId := 4
abbrev Ty_code_Code : TypeId := 46
abbrev Ty_gf_Field : TypeId := 129
abbrev Ty_int : TypeId := 3
abbrev Ty_int32 : TypeId := 21
abbrev Ty_int64 : TypeId := 2
abbrev Ty_interface : TypeId := 20
abbrev Ty_maps_unhashableTypeError : TypeId := 19
abbrev Ty_matrix_Matrix : TypeId := 133
abbrev Ty_mend_place : TypeId := 68
abbrev Ty_p_abi_Type : TypeId := 17
abbrev Ty_p_atomic_Uint64 : TypeId := 136
abbrev Ty_p_code_Code : TypeId := 26
abbrev Ty_p_gf_Field : TypeId := 44
abbrev Ty_p_int : TypeId := 151
abbrev Ty_p_matrix_Matrix : TypeId := 79
abbrev Ty_p_runtime_PanicNilError : TypeId := 16
abbrev Ty_p_runtime_TypeAssertionError : TypeId := 15
abbrev Ty_p_slices_xorshift : TypeId := 162
abbrev Ty_p_sync_WaitGroup : TypeId := 88
abbrev Ty_p_uint32 : TypeId := 96
abbrev Ty_p_uint64 : TypeId := 138
abbrev Ty_p_uint8 : TypeId := 175
abbrev Ty_runtime_PanicNilError : TypeId := 171
abbrev Ty_runtime_TypeAssertionError : TypeId := 168
abbrev Ty_runtime_boundsError : TypeId := 8
abbrev Ty_runtime_errorAddressString : TypeId := 14
abbrev Ty_runtime_errorString : TypeId := 10
abbrev Ty_runtime_plainError : TypeId := 11
abbrev Ty_sherdlaw04_Case : TypeId := 25
abbrev Ty_sl_api_Part : TypeId := 28
abbrev Ty_sl_bool : TypeId := 56
abbrev Ty_sl_int : TypeId := 23
abbrev Ty_sl_sl_uint8 : TypeId := 27
abbrev Ty_sl_uint8 : TypeId := 22
abbrev Ty_slices_sortedHint : TypeId := 116
abbrev Ty_slices_xorshift : TypeId := 148
abbrev Ty_string : TypeId := 9
abbrev Ty_sync_WaitGroup : TypeId := 66
abbrev Ty_sync_noCopy : TypeId := 58
abbrev Ty_synctest_Association : TypeId := 92
abbrev Ty_uint : TypeId := 76
abbrev Ty_uint32 : TypeId := 64
abbrev Ty_uint64 : TypeId := 61
abbrev Ty_uint8 : TypeId := 5
abbrev Ty_uintptr : TypeId := 12
abbrev Ty_unsafe_Pointer : TypeId := 90
set_option maxRecDepth 100000
theorem agg_158 : aggB PP 158 255 = true := by kernel_rfl
theorem agg_25 : aggB PP 25 7 = true := by kernel_rfl
theorem agg_34 : aggB PP 34 2 = true := by kernel_rfl
theorem arr_126 : arrB PP 126 510 1 = true := by kernel_rfl
theorem arr_127 : arrB PP 127 256 1 = true := by kernel_rfl
theorem arr_158 : arrB PP 158 255 1 = true := by kernel_rfl
theorem bd_129_ii640 : ∀ (w : World) (x0 : Int), (Instr.build 129 #[(0, (.int .i64 x0))]).run PP w = .ok (.agg #[(.int .i64 x0), (.int .u8 0), (.int .u8 0), (.int .u8 0), (.int .u8 0), (.int .u8 0), (.int .u8 0), (.int .u8 0), (.int .u8 0), (.int .u8 0), (.int .u8 0), (.int .u8 0), (.int .u8 0), (.int .u8 0), (.int .u8 0), (.int .u8 0), (.int .u8 0), (.int .u8 0), (.int .u8 0), (.int .u8 0), (.int .u8 0), (.int .u8 0), (.int .u8 0), (.int .u8 0), (.int .u8 0), (.int .u8 0), (.int .u8 0), (.int .u8 0), (.int .u8 0), (.int .u8 0), (.int .u8 0), (.int .u8 0), (.int .u8 0), (.int .u8 0), (.int .u8 0), (.int .u8 0), (.int .u8 0), (.int .u8 0), (.int .u8 0), (.int .u8 0), (.int .u8 0), (.int .u8 0), (.int .u8 0), (.int .u8 0), (.int .u8 0), (.int .u8 0), (.int .u8 0), (.int .u8 0), (.int .u8 0), (.int .u8 0), (.int .u8 0), (.int .u8 0), (.int .u8 0), (.int .u8 0), (.int .u8 0), (.int .u8 0), (.int .u8 0), (.int .u8 0), (.int .u8 0), (.int .u8 0), (.int .u8 0), (.int .u8 0), (.int .u8 0), (.int .u8 0), (.int .u8 0), (.int .u8 0), (.int .u8 0), (.int .u8 0), (.int .u8 0), (.int .u8 0), (.int .u8 0), (.int .u8 0), (.int .u8 0), (.int .u8 0), (.int .u8 0), (.int .u8 0), (.int .u8 0), (.int .u8 0), (.int .u8 0), (.int .u8 0), (.int .u8 0), (.int .u8 0), (.int .u8 0), (.int .u8 0), (.int .u8 0), (.int .u8 0), (.int .u8 0), (.int .u8 0), (.int .u8 0), (.int .u8 0), (.int .u8 0), (.int .u8 0), (.int .u8 0), (.int .u8 0), (.int .u8 0), (.int .u8 0), (.int .u8 0), (.int .u8 0), (.int .u8 0), (.int .u8 0), (.int .u8 0), (.int .u8 0), (.int .u8 0), (.int .u8 0), (.int .u8 0), (.int .u8 0), (.int .u8 0), (.int .u8 0), (.int .u8 0), (.int .u8 0), (.int .u8 0), (.int .u8 0), (.int .u8 0), (.int .u8 0), (.int .u8 0), (.int .u8 0), (.int .u8 0), (.int .u8 0), (.int .u8 0), (.int .u8 0), (.int .u8 0), (.int .u8 0), (.int .u8 0), (.int .u8 0), (.int .u8 0), (.int .u8 0), (.int .u8 0), (.int .u8 0), (.int .u8 0), (.int .u8 0), (.int .u8 0), (.int .u8 0), (.int .u8 0), (.int .u8 0), (.int .u8 0), (.int .u8 0), (.int .u8 0), (.int .u8 0), (.int .u8 0), (.int .u8 0), (.int .u8 0), (.int .u8 0), (.int .u8 0), (.int .u8 0), (.int .u8 0), (.int .u8 0), (.int .u8 0), (.int .u8 0), (.int .u8 0), (.int .u8 0), (.int .u8 0), (.int .u8 0), (.int .u8 0), (.int .u8 0), (.int .u8 0), (.int .u8 0), (.int .u8 0), (.int .u8 0), (.int .u8 0), (.int .u8 0), (.int .u8 0), (.int .u8 0), (.int .u8 0), (.int .u8 0), (.int .u8 0), (.int .u8 0), (.int .u8 0), (.int .u8 0), (.int .u8 0), (.int .u8 0), (.int .u8 0), (.int .u8 0), (.int .u8 0), (.int .u8 0), (.int .u8 0), (.int .u8 0), (.int .u8 0), (.int .u8 0), (.int .u8 0), (.int .u8 0), (.int .u8 0), (.int .u8 0), (.int .u8 0), (.int .u8 0), (.int .u8 0), (.int .u8 0), (.int .u8 0), (.int .u8 0), (.int .u8 0), (.int .u8 0), (.int .u8 0), (.int .u8 0), (.int .u8 0), (.int .u8 0), (.int .u8 0), (.int .u8 0), (.int .u8 0), (.int .u8 0), (.int .u8 0), (.int .u8 0), (.int .u8 0), (.int .u8 0), (.int .u8 0), (.int .u8 0), (.int .u8 0), (.int .u8 0), (.int .u8 0), (.int .u8 0), (.int .u8 0), (.int .u8 0), (.int .u8 0), (.int .u8 0), (.int .u8 0), (.int .u8 0), (.int .u8 0), (.int .u8 0), (.int .u8 0), (.int .u8 0), (.int .u8 0), (.int .u8 0), (.int .u8 0), (.int .u8 0), (.int .u8 0), (.int .u8 0), (.int .u8 0), (.int .u8 0), (.int .u8 0), (.int .u8 0), (.int .u8 0), (.int .u8 0), (.int .u8 0), (.int .u8 0), (.int .u8 0), (.int .u8 0), (.int .u8 0), (.int .u8 0), (.int .u8 0), (.int .u8 0), (.int .u8 0), (.int .u8 0), (.int .u8 0), (.int .u8 0), (.int .u8 0), (.int .u8 0), (.int .u8 0), (.int .u8 0), (.int .u8 0), (.int .u8 0), (.int .u8 0), (.int .u8 0), (.int .u8 0), (.int .u8 0), (.int .u8 0), (.int .u8 0), (.int .u8 0), (.int .u8 0), (.int .u8 0), (.int .u8 0), (.int .u8 0), (.int .u8 0), (.int .u8 0), (.int .u8 0), (.int .u8 0), (.int .u8 0), (.int .u8 0), (.int .u8 0), (.int .u8 0), (.int .u8 0), (.int .u8 0), (.int .u8 0), (.int .u8 0), (.int .u8 0), (.int .u8 0), (.int .u8 0), (.int .u8 0), (.int .u8 0), (.int .u8 0), (.int .u8 0), (.int .u8 0), (.int .u8 0), (.int .u8 0), (.int .u8 0), (.int .u8 0), (.int .u8 0), (.int .u8 0), (.int .u8 0), (.int .u8 0), (.int .u8 0), (.int .u8 0), (.int .u8 0), (.int .u8 0), (.int .u8 0), (.int .u8 0), (.int .u8 0), (.int .u8 0), (.int .u8 0), (.int .u8 0), (.int .u8 0), (.int .u8 0), (.int .u8 0), (.int .u8 0), (.int .u8 0), (.int .u8 0), (.int .u8 0), (.int .u8 0), (.int .u8 0), (.int .u8 0), (.int .u8 0), (.int .u8 0), (.int .u8 0), (.int .u8 0), (.int .u8 0), (.int .u8 0), (.int .u8 0), (.int .u8 0), (.int .u8 0), (.int .u8 0), (.int .u8 0), (.int .u8 0), (.int .u8 0), (.int .u8 0), (.int .u8 0), (.int .u8 0), (.int .u8 0), (.int .u8 0), (.int .u8 0), (.int .u8 0), (.int .u8 0), (.int .u8 0), (.int .u8 0), (.int .u8 0), (.int .u8 0), (.int .u8 0), (.int .u8 0), (.int .u8 0), (.int .u8 0), (.int .u8 0), (.int .u8 0), (.int .u8 0), (.int .u8 0), (.int .u8 0), (.int .u8 0), (.int .u8 0), (.int .u8 0), (.int .u8 0), (.int .u8 0), (.int .u8 0), (.int .u8 0), (.int .u8 0), (.int .u8 0), (.int .u8 0), (.int .u8 0), (.int .u8 0), (.int .u8 0), (.int .u8 0), (.int .u8 0), (.int .u8 0), (.int .u8 0), (.int .u8 0), (.int .u8 0), (.int .u8 0), (.int .u8 0), (.int .u8 0), (.int .u8 0), (.int .u8 0), (.int .u8 0), (.int .u8 0), (.int .u8 0), (.int .u8 0), (.int .u8 0), (.int .u8 0), (.int .u8 0), (.int .u8 0), (.int .u8 0), (.int .u8 0), (.int .u8 0), (.int .u8 0), (.int .u8 0), (.int .u8 0), (.int .u8 0), (.int .u8 0), (.int .u8 0), (.int .u8 0), (.int .u8 0), (.int .u8 0), (.int .u8 0), (.int .u8 0), (.int .u8 0), (.int .u8 0), (.int .u8 0), (.int .u8 0), (.int .u8 0), (.int .u8 0), (.int .u8 0), (.int .u8 0), (.int .u8 0), (.int .u8 0), (.int .u8 0), (.int .u8 0), (.int .u8 0), (.int .u8 0), (.int .u8 0), (.int .u8 0), (.int .u8 0), (.int .u8 0), (.int .u8 0), (.int .u8 0), (.int .u8 0), (.int .u8 0), (.int .u8 0), (.int .u8 0), (.int .u8 0), (.int .u8 0), (.int .u8 0), (.int .u8 0), (.int .u8 0), (.int .u8 0), (.int .u8 0), (.int .u8 0), (.int .u8 0), (.int .u8 0), (.int .u8 0), (.int .u8 0), (.int .u8 0), (.int .u8 0), (.int .u8 0), (.int .u8 0), (.int .u8 0), (.int .u8 0), (.int .u8 0), (.int .u8 0), (.int .u8 0), (.int .u8 0), (.int .u8 0), (.int .u8 0), (.int .u8 0), (.int .u8 0), (.int .u8 0), (.int .u8 0), (.int .u8 0), (.int .u8 0), (.int .u8 0), (.int .u8 0), (.int .u8 0), (.int .u8 0), (.int .u8 0), (.int .u8 0), (.int .u8 0), (.int .u8 0), (.int .u8 0), (.int .u8 0), (.int .u8 0), (.int .u8 0), (.int .u8 0), (.int .u8 0), (.int .u8 0), (.int .u8 0), (.int .u8 0), (.int .u8 0), (.int .u8 0), (.int .u8 0), (.int .u8 0), (.int .u8 0), (.int .u8 0), (.int .u8 0), (.int .u8 0), (.int .u8 0), (.int .u8 0), (.int .u8 0), (.int .u8 0), (.int .u8 0), (.int .u8 0), (.int .u8 0), (.int .u8 0), (.int .u8 0), (.int .u8 0), (.int .u8 0), (.int .u8 0), (.int .u8 0), (.int .u8 0), (.int .u8 0), (.int .u8 0), (.int .u8 0), (.int .u8 0), (.int .u8 0), (.int .u8 0), (.int .u8 0), (.int .u8 0), (.int .u8 0), (.int .u8 0), (.int .u8 0), (.int .u8 0), (.int .u8 0), (.int .u8 0), (.int .u8 0), (.int .u8 0), (.int .u8 0), (.int .u8 0), (.int .u8 0), (.int .u8 0), (.int .u8 0), (.int .u8 0), (.int .u8 0), (.int .u8 0), (.int .u8 0), (.int .u8 0), (.int .u8 0), (.int .u8 0), (.int .u8 0), (.int .u8 0), (.int .u8 0), (.int .i64 0), (.int .i64 0), (.int .i64 0), (.int .i64 0), (.int .i64 0), (.int .i64 0), (.int .i64 0), (.int .i64 0), (.int .i64 0), (.int .i64 0), (.int .i64 0), (.int .i64 0), (.int .i64 0), (.int .i64 0), (.int .i64 0), (.int .i64 0), (.int .i64 0), (.int .i64 0), (.int .i64 0), (.int .i64 0), (.int .i64 0), (.int .i64 0), (.int .i64 0), (.int .i64 0), (.int .i64 0), (.int .i64 0), (.int .i64 0), (.int .i64 0), (.int .i64 0), (.int .i64 0), (.int .i64 0), (.int .i64 0), (.int .i64 0), (.int .i64 0), (.int .i64 0), (.int .i64 0), (.int .i64 0), (.int .i64 0), (.int .i64 0), (.int .i64 0), (.int .i64 0), (.int .i64 0), (.int .i64 0), (.int .i64 0), (.int .i64 0), (.int .i64 0), (.int .i64 0), (.int .i64 0), (.int .i64 0), (.int .i64 0), (.int .i64 0), (.int .i64 0), (.int .i64 0), (.int .i64 0), (.int .i64 0), (.int .i64 0), (.int .i64 0), (.int .i64 0), (.int .i64 0), (.int .i64 0), (.int .i64 0), (.int .i64 0), (.int .i64 0), (.int .i64 0), (.int .i64 0), (.int .i64 0), (.int .i64 0), (.int .i64 0), (.int .i64 0), (.int .i64 0), (.int .i64 0), (.int .i64 0), (.int .i64 0), (.int .i64 0), (.int .i64 0), (.int .i64 0), (.int .i64 0), (.int .i64 0), (.int .i64 0), (.int .i64 0), (.int .i64 0), (.int .i64 0), (.int .i64 0), (.int .i64 0), (.int .i64 0), (.int .i64 0), (.int .i64 0), (.int .i64 0), (.int .i64 0), (.int .i64 0), (.int .i64 0), (.int .i64 0), (.int .i64 0), (.int .i64 0), (.int .i64 0), (.int .i64 0), (.int .i64 0), (.int .i64 0), (.int .i64 0), (.int .i64 0), (.int .i64 0), (.int .i64 0), (.int .i64 0), (.int .i64 0), (.int .i64 0), (.int .i64 0), (.int .i64 0), (.int .i64 0), (.int .i64 0), (.int .i64 0), (.int .i64 0), (.int .i64 0), (.int .i64 0), (.int .i64 0), (.int .i64 0), (.int .i64 0), (.int .i64 0), (.int .i64 0), (.int .i64 0), (.int .i64 0), (.int .i64 0), (.int .i64 0), (.int .i64 0), (.int .i64 0), (.int .i64 0), (.int .i64 0), (.int .i64 0), (.int .i64 0), (.int .i64 0), (.int .i64 0), (.int .i64 0), (.int .i64 0), (.int .i64 0), (.int .i64 0), (.int .i64 0), (.int .i64 0), (.int .i64 0), (.int .i64 0), (.int .i64 0), (.int .i64 0), (.int .i64 0), (.int .i64 0), (.int .i64 0), (.int .i64 0), (.int .i64 0), (.int .i64 0), (.int .i64 0), (.int .i64 0), (.int .i64 0), (.int .i64 0), (.int .i64 0), (.int .i64 0), (.int .i64 0), (.int .i64 0), (.int .i64 0), (.int .i64 0), (.int .i64 0), (.int .i64 0), (.int .i64 0), (.int .i64 0), (.int .i64 0), (.int .i64 0), (.int .i64 0), (.int .i64 0), (.int .i64 0), (.int .i64 0), (.int .i64 0), (.int .i64 0), (.int .i64 0), (.int .i64 0), (.int .i64 0), (.int .i64 0), (.int .i64 0), (.int .i64 0), (.int .i64 0), (.int .i64 0), (.int .i64 0), (.int .i64 0), (.int .i64 0), (.int .i64 0), (.int .i64 0), (.int .i64 0), (.int .i64 0), (.int .i64 0), (.int .i64 0), (.int .i64 0), (.int .i64 0), (.int .i64 0), (.int .i64 0), (.int .i64 0), (.int .i64 0), (.int .i64 0), (.int .i64 0), (.int .i64 0), (.int .i64 0), (.int .i64 0), (.int .i64 0), (.int .i64 0), (.int .i64 0), (.int .i64 0), (.int .i64 0), (.int .i64 0), (.int .i64 0), (.int .i64 0), (.int .i64 0), (.int .i64 0), (.int .i64 0), (.int .i64 0), (.int .i64 0), (.int .i64 0), (.int .i64 0), (.int .i64 0), (.int .i64 0), (.int .i64 0), (.int .i64 0), (.int .i64 0), (.int .i64 0), (.int .i64 0), (.int .i64 0), (.int .i64 0), (.int .i64 0), (.int .i64 0), (.int .i64 0), (.int .i64 0), (.int .i64 0), (.int .i64 0), (.int .i64 0), (.int .i64 0), (.int .i64 0), (.int .i64 0), (.int .i64 0), (.int .i64 0), (.int .i64 0), (.int .i64 0), (.int .i64 0), (.int .i64 0), (.int .i64 0), (.int .i64 0), (.int .i64 0), (.int .i64 0), (.int .i64 0), (.int .i64 0), (.int .i64 0), (.int .i64 0), (.int .i64 0), (.int .i64 0), (.int .i64 0), (.int .i64 0), (.int .i64 0), (.int .i64 0), (.int .i64 0), (.int .i64 0), (.int .i64 0), (.int .i64 0), (.int .i64 0), (.int .i64 0)]) w := by intros; kernel_rfl
theorem bd_133_p0_s1 : ∀ (w : World) (x0 : Option Addr) (x1 : Slc), (Instr.build 133 #[(0, (.pointer x0)), (1, (Slc.v x1))]).run PP w = .ok (.agg #[(.pointer x0), (Slc.v x1)]) w := by intros; kernel_rfl
theorem bd_158 : ∀ (w : World), (Instr.build 158 #[]).run PP w = .ok (.agg #[(.bool false), (.bool false), (.bool false), (.bool false), (.bool false), (.bool false), (.bool false), (.bool false), (.bool false), (.bool false), (.bool false), (.bool false), (.bool false), (.bool false), (.bool false), (.bool false), (.bool false), (.bool false), (.bool false), (.bool false), (.bool false), (.bool false), (.bool false), (.bool false), (.bool false), (.bool false), (.bool false), (.bool false), (.bool false), (.bool false), (.bool false), (.bool false), (.bool false), (.bool false), (.bool false), (.bool false), (.bool false), (.bool false), (.bool false), (.bool false), (.bool false), (.bool false), (.bool false), (.bool false), (.bool false), (.bool false), (.bool false), (.bool false), (.bool false), (.bool false), (.bool false), (.bool false), (.bool false), (.bool false), (.bool false), (.bool false), (.bool false), (.bool false), (.bool false), (.bool false), (.bool false), (.bool false), (.bool false), (.bool false), (.bool false), (.bool false), (.bool false), (.bool false), (.bool false), (.bool false), (.bool false), (.bool false), (.bool false), (.bool false), (.bool false), (.bool false), (.bool false), (.bool false), (.bool false), (.bool false), (.bool false), (.bool false), (.bool false), (.bool false), (.bool false), (.bool false), (.bool false), (.bool false), (.bool false), (.bool false), (.bool false), (.bool false), (.bool false), (.bool false), (.bool false), (.bool false), (.bool false), (.bool false), (.bool false), (.bool false), (.bool false), (.bool false), (.bool false), (.bool false), (.bool false), (.bool false), (.bool false), (.bool false), (.bool false), (.bool false), (.bool false), (.bool false), (.bool false), (.bool false), (.bool false), (.bool false), (.bool false), (.bool false), (.bool false), (.bool false), (.bool false), (.bool false), (.bool false), (.bool false), (.bool false), (.bool false), (.bool false), (.bool false), (.bool false), (.bool false), (.bool false), (.bool false), (.bool false), (.bool false), (.bool false), (.bool false), (.bool false), (.bool false), (.bool false), (.bool false), (.bool false), (.bool false), (.bool false), (.bool false), (.bool false), (.bool false), (.bool false), (.bool false), (.bool false), (.bool false), (.bool false), (.bool false), (.bool false), (.bool false), (.bool false), (.bool false), (.bool false), (.bool false), (.bool false), (.bool false), (.bool false), (.bool false), (.bool false), (.bool false), (.bool false), (.bool false), (.bool false), (.bool false), (.bool false), (.bool false), (.bool false), (.bool false), (.bool false), (.bool false), (.bool false), (.bool false), (.bool false), (.bool false), (.bool false), (.bool false), (.bool false), (.bool false), (.bool false), (.bool false), (.bool false), (.bool false), (.bool false), (.bool false), (.bool false), (.bool false), (.bool false), (.bool false), (.bool false), (.bool false), (.bool false), (.bool false), (.bool false), (.bool false), (.bool false), (.bool false), (.bool false), (.bool false), (.bool false), (.bool false), (.bool false), (.bool false), (.bool false), (.bool false), (.bool false), (.bool false), (.bool false), (.bool false), (.bool false), (.bool false), (.bool false), (.bool false), (.bool false), (.bool false), (.bool false), (.bool false), (.bool false), (.bool false), (.bool false), (.bool false), (.bool false), (.bool false), (.bool false), (.bool false), (.bool false), (.bool false), (.bool false), (.bool false), (.bool false), (.bool false), (.bool false), (.bool false), (.bool false), (.bool false), (.bool false), (.bool false), (.bool false), (.bool false), (.bool false), (.bool false), (.bool false), (.bool false), (.bool false), (.bool false), (.bool false), (.bool false), (.bool false), (.bool false), (.bool false), (.bool false), (.bool false)]) w := by intros; kernel_rfl
theorem bd_34_ii640_s1 : ∀ (w : World) (x0 : Int) (x1 : Slc), (Instr.build 34 #[(0, (.int .i64 x0)), (1, (Slc.v x1))]).run PP w = .ok (.agg #[(.int .i64 x0), (Slc.v x1)]) w := by intros; kernel_rfl
theorem bd_46_p0_ii641_ii642_s3 : ∀ (w : World) (x0 : Option Addr) (x1 : Int) (x2 : Int) (x3 : Slc), (Instr.build 46 #[(0, (.pointer x0)), (1, (.int .i64 x1)), (2, (.int .i64 x2)), (3, (Slc.v x3))]).run PP w = .ok (.agg #[(.pointer x0), (.int .i64 x1), (.int .i64 x2), (Slc.v x3)]) w := by intros; kernel_rfl
theorem body_10 : bodyB PP 10 = true := by kernel_rfl
theorem body_100 : bodyB PP 100 = true := by kernel_rfl
theorem body_101 : bodyB PP 101 = true := by kernel_rfl
theorem body_102 : bodyB PP 102 = true := by kernel_rfl
theorem body_103 : bodyB PP 103 = true := by kernel_rfl
theorem body_105 : bodyB PP 105 = true := by kernel_rfl
theorem body_107 : bodyB PP 107 = true := by kernel_rfl
theorem body_11 : bodyB PP 11 = true := by kernel_rfl
theorem body_12 : bodyB PP 12 = true := by kernel_rfl
theorem body_13 : bodyB PP 13 = true := by kernel_rfl
theorem body_14 : bodyB PP 14 = true := by kernel_rfl
theorem body_15 : bodyB PP 15 = true := by kernel_rfl
theorem body_16 : bodyB PP 16 = true := by kernel_rfl
theorem body_17 : bodyB PP 17 = true := by kernel_rfl
theorem body_18 : bodyB PP 18 = true := by kernel_rfl
theorem body_19 : bodyB PP 19 = true := by kernel_rfl
theorem body_29 : bodyB PP 29 = true := by kernel_rfl
theorem body_30 : bodyB PP 30 = true := by kernel_rfl
theorem body_31 : bodyB PP 31 = true := by kernel_rfl
theorem body_32 : bodyB PP 32 = true := by kernel_rfl
theorem body_33 : bodyB PP 33 = true := by kernel_rfl
theorem body_34 : bodyB PP 34 = true := by kernel_rfl
theorem body_36 : bodyB PP 36 = true := by kernel_rfl
theorem body_4 : bodyB PP 4 = true := by kernel_rfl
theorem body_5 : bodyB PP 5 = true := by kernel_rfl
theorem body_50 : bodyB PP 50 = true := by kernel_rfl
theorem body_51 : bodyB PP 51 = true := by kernel_rfl
theorem body_52 : bodyB PP 52 = true := by kernel_rfl
theorem body_54 : bodyB PP 54 = true := by kernel_rfl
theorem body_6 : bodyB PP 6 = true := by kernel_rfl
theorem body_63 : bodyB PP 63 = true := by kernel_rfl
theorem body_7 : bodyB PP 7 = true := by kernel_rfl
theorem body_75 : bodyB PP 75 = true := by kernel_rfl
theorem body_76 : bodyB PP 76 = true := by kernel_rfl
theorem body_77 : bodyB PP 77 = true := by kernel_rfl
theorem body_78 : bodyB PP 78 = true := by kernel_rfl
theorem body_79 : bodyB PP 79 = true := by kernel_rfl
theorem body_8 : bodyB PP 8 = true := by kernel_rfl
theorem body_84 : bodyB PP 84 = true := by kernel_rfl
theorem body_85 : bodyB PP 85 = true := by kernel_rfl
theorem body_87 : bodyB PP 87 = true := by kernel_rfl
theorem body_89 : bodyB PP 89 = true := by kernel_rfl
theorem body_9 : bodyB PP 9 = true := by kernel_rfl
theorem body_90 : bodyB PP 90 = true := by kernel_rfl
theorem body_98 : bodyB PP 98 = true := by kernel_rfl
theorem body_99 : bodyB PP 99 = true := by kernel_rfl
theorem bool_4 : boolB PP 4 = true := by kernel_rfl
theorem bs_22_0 : ∀ (w : World), (Instr.buildSlice 22 0 #[]).run PP w = .ok (.slice (some ⟨w.heap.size, 0, none⟩) 0 0) (w.alloc (.cells #[] 5)) := by intros; kernel_rfl
theorem bs_22_1_iu80 : ∀ (w : World) (x0 : Int), (Instr.buildSlice 22 1 #[(0, (.int .u8 x0))]).run PP w = .ok (.slice (some ⟨w.heap.size, 0, none⟩) 1 1) (w.alloc (.cells #[(.int .u8 x0)] 5)) := by intros; kernel_rfl
theorem bs_23_1_ii640 : ∀ (w : World) (x0 : Int), (Instr.buildSlice 23 1 #[(0, (.int .i64 x0))]).run PP w = .ok (.slice (some ⟨w.heap.size, 0, none⟩) 1 1) (w.alloc (.cells #[(.int .i64 x0)] 3)) := by intros; kernel_rfl
theorem bs_27_1_s0 : ∀ (w : World) (x0 : Slc), (Instr.buildSlice 27 1 #[(0, (Slc.v x0))]).run PP w = .ok (.slice (some ⟨w.heap.size, 0, none⟩) 1 1) (w.alloc (.cells #[(Slc.v x0)] 22)) := by intros; kernel_rfl
theorem bs_28_1_ii64s0 : ∀ (w : World) (x0 : Int) (x1 : Slc), (Instr.buildSlice 28 1 #[(0, (.agg #[(.int .i64 x0), (Slc.v x1)]))]).run PP w = .ok (.slice (some ⟨w.heap.size, 0, none⟩) 1 1) (w.alloc (.cells #[(.int .i64 x0), (Slc.v x1)] 34)) := by intros; kernel_rfl
theorem fld_129_0 : fldB PP 129 0 0 = true := by kernel_rfl
theorem fld_129_1 : fldB PP 129 1 1 = true := by kernel_rfl
theorem fld_129_2 : fldB PP 129 2 511 = true := by kernel_rfl
theorem fld_133_0 : fldB PP 133 0 0 = true := by kernel_rfl
theorem fld_133_1 : fldB PP 133 1 1 = true := by kernel_rfl
theorem fld_25_0 : fldB PP 25 0 0 = true := by kernel_rfl
theorem fld_25_1 : fldB PP 25 1 1 = true := by kernel_rfl
theorem fld_25_2 : fldB PP 25 2 2 = true := by kernel_rfl
theorem fld_25_3 : fldB PP 25 3 3 = true := by kernel_rfl
theorem fld_25_4 : fldB PP 25 4 4 = true := by kernel_rfl
theorem fld_34_0 : fldB PP 34 0 0 = true := by kernel_rfl
theorem fld_34_1 : fldB PP 34 1 1 = true := by kernel_rfl
theorem fld_46_0 : fldB PP 46 0 0 = true := by kernel_rfl
theorem fld_46_1 : fldB PP 46 1 1 = true := by kernel_rfl
theorem fld_46_2 : fldB PP 46 2 2 = true := by kernel_rfl
theorem fld_46_3 : fldB PP 46 3 3 = true := by kernel_rfl
theorem fld_68_0 : fldB PP 68 0 0 = true := by kernel_rfl
theorem fld_68_1 : fldB PP 68 1 1 = true := by kernel_rfl
theorem fld_68_2 : fldB PP 68 2 2 = true := by kernel_rfl
theorem int_3 : intB PP 3 .i64 = true := by kernel_rfl
theorem int_5 : intB PP 5 .u8 = true := by kernel_rfl
theorem mixed : PP.follows .mixedOrders = true := by kernel_rfl
theorem one_22 : oneB PP 22 = true := by kernel_rfl
theorem one_23 : oneB PP 23 = true := by kernel_rfl
theorem one_26 : oneB PP 26 = true := by kernel_rfl
theorem one_27 : oneB PP 27 = true := by kernel_rfl
theorem one_28 : oneB PP 28 = true := by kernel_rfl
theorem one_3 : oneB PP 3 = true := by kernel_rfl
theorem one_4 : oneB PP 4 = true := by kernel_rfl
theorem one_44 : oneB PP 44 = true := by kernel_rfl
theorem one_5 : oneB PP 5 = true := by kernel_rfl
theorem ptr_26 : ptrB PP 26 = true := by kernel_rfl
theorem ptr_44 : ptrB PP 44 = true := by kernel_rfl
theorem ptr_79 : ptrB PP 79 = true := by kernel_rfl
theorem sl_22 : isSlcB PP 22 = true := by kernel_rfl
theorem sl_23 : isSlcB PP 23 = true := by kernel_rfl
theorem sl_27 : isSlcB PP 27 = true := by kernel_rfl
theorem sl_28 : isSlcB PP 28 = true := by kernel_rfl
theorem sl_56 : isSlcB PP 56 = true := by kernel_rfl
theorem slc_22 : slcB PP 22 1 = true := by kernel_rfl
theorem slc_23 : slcB PP 23 1 = true := by kernel_rfl
theorem slc_27 : slcB PP 27 1 = true := by kernel_rfl
theorem slc_28 : slcB PP 28 2 = true := by kernel_rfl
theorem slc_56 : slcB PP 56 1 = true := by kernel_rfl
theorem some_3 : someB PP 3 = true := by kernel_rfl
theorem some_5 : someB PP 5 = true := by kernel_rfl
theorem zero_158 : zeroB PP 158 (.agg #[(.bool false), (.bool false), (.bool false), (.bool false), (.bool false), (.bool false), (.bool false), (.bool false), (.bool false), (.bool false), (.bool false), (.bool false), (.bool false), (.bool false), (.bool false), (.bool false), (.bool false), (.bool false), (.bool false), (.bool false), (.bool false), (.bool false), (.bool false), (.bool false), (.bool false), (.bool false), (.bool false), (.bool false), (.bool false), (.bool false), (.bool false), (.bool false), (.bool false), (.bool false), (.bool false), (.bool false), (.bool false), (.bool false), (.bool false), (.bool false), (.bool false), (.bool false), (.bool false), (.bool false), (.bool false), (.bool false), (.bool false), (.bool false), (.bool false), (.bool false), (.bool false), (.bool false), (.bool false), (.bool false), (.bool false), (.bool false), (.bool false), (.bool false), (.bool false), (.bool false), (.bool false), (.bool false), (.bool false), (.bool false), (.bool false), (.bool false), (.bool false), (.bool false), (.bool false), (.bool false), (.bool false), (.bool false), (.bool false), (.bool false), (.bool false), (.bool false), (.bool false), (.bool false), (.bool false), (.bool false), (.bool false), (.bool false), (.bool false), (.bool false), (.bool false), (.bool false), (.bool false), (.bool false), (.bool false), (.bool false), (.bool false), (.bool false), (.bool false), (.bool false), (.bool false), (.bool false), (.bool false), (.bool false), (.bool false), (.bool false), (.bool false), (.bool false), (.bool false), (.bool false), (.bool false), (.bool false), (.bool false), (.bool false), (.bool false), (.bool false), (.bool false), (.bool false), (.bool false), (.bool false), (.bool false), (.bool false), (.bool false), (.bool false), (.bool false), (.bool false), (.bool false), (.bool false), (.bool false), (.bool false), (.bool false), (.bool false), (.bool false), (.bool false), (.bool false), (.bool false), (.bool false), (.bool false), (.bool false), (.bool false), (.bool false), (.bool false), (.bool false), (.bool false), (.bool false), (.bool false), (.bool false), (.bool false), (.bool false), (.bool false), (.bool false), (.bool false), (.bool false), (.bool false), (.bool false), (.bool false), (.bool false), (.bool false), (.bool false), (.bool false), (.bool false), (.bool false), (.bool false), (.bool false), (.bool false), (.bool false), (.bool false), (.bool false), (.bool false), (.bool false), (.bool false), (.bool false), (.bool false), (.bool false), (.bool false), (.bool false), (.bool false), (.bool false), (.bool false), (.bool false), (.bool false), (.bool false), (.bool false), (.bool false), (.bool false), (.bool false), (.bool false), (.bool false), (.bool false), (.bool false), (.bool false), (.bool false), (.bool false), (.bool false), (.bool false), (.bool false), (.bool false), (.bool false), (.bool false), (.bool false), (.bool false), (.bool false), (.bool false), (.bool false), (.bool false), (.bool false), (.bool false), (.bool false), (.bool false), (.bool false), (.bool false), (.bool false), (.bool false), (.bool false), (.bool false), (.bool false), (.bool false), (.bool false), (.bool false), (.bool false), (.bool false), (.bool false), (.bool false), (.bool false), (.bool false), (.bool false), (.bool false), (.bool false), (.bool false), (.bool false), (.bool false), (.bool false), (.bool false), (.bool false), (.bool false), (.bool false), (.bool false), (.bool false), (.bool false), (.bool false), (.bool false), (.bool false), (.bool false), (.bool false), (.bool false), (.bool false), (.bool false), (.bool false), (.bool false), (.bool false), (.bool false), (.bool false), (.bool false), (.bool false), (.bool false), (.bool false), (.bool false), (.bool false), (.bool false), (.bool false), (.bool false)]) := by unfold zeroB; kernel_rfl
theorem zero_34 : zeroB PP 34 (.agg #[(.int .i64 0), (Slc.v Slc.nil)]) := by unfold zeroB; kernel_rfl
abbrev Ty_int' : TypeId := 3
theorem und_int : PP.underlying 3 = some (.int .i64) := by kernel_rfl
abbrev Ty_string' : TypeId := 9
theorem und_string : PP.underlying 9 = some .string := by kernel_rfl
abbrev Ty_uint8' : TypeId := 5
theorem und_uint8 : PP.underlying 5 = some (.int .u8) := by kernel_rfl
theorem slT_sl_uint8 : SlT PP Ty_sl_uint8 Ty_uint8 1 1 (.int .u8 0) := ⟨by kernel_rfl, by kernel_rfl, rfl, by decide⟩
theorem slT_sl_int : SlT PP Ty_sl_int Ty_int 1 8 (.int .i64 0) := ⟨by kernel_rfl, by kernel_rfl, rfl, by decide⟩
theorem slT_sl_sl_uint8 : SlT PP Ty_sl_sl_uint8 Ty_sl_uint8 1 24 (Slc.v Slc.nil) := ⟨by kernel_rfl, by kernel_rfl, rfl, by decide⟩
theorem slT_sl_api_Part : SlT PP Ty_sl_api_Part Ty_api_Part 2 32 (.agg #[(.int .i64 0), (Slc.v Slc.nil)]) := ⟨by kernel_rfl, by kernel_rfl, rfl, by decide⟩
end Go.Proofs.YtabifopphhpciaaGreat
