/-
  The numbers of this seat's functions and types, and closed facts of the program's tables.
-/
import Derived.Test.YteoeboeaanjehaaDoorProg
import Derived.Test.YteoeboeaanjehaaDoorAny
namespace Go.Proofs.YteoeboeaanjehaaDoor
open Go Go.Vc
noncomputable abbrev PP : Program := Tryd.prog
abbrev F_code_Code_Decode : FuncId := 17
abbrev F_code_Code_Encode : FuncId := 14
abbrev F_code_Code_K : FuncId := 16
abbrev F_code_Code_Row : FuncId := 23
abbrev F_code_Code_refused : FuncId := 28
abbrev F_code_Code_refused_c1 : FuncId := 47
abbrev F_code_Code_shaped : FuncId := 26
abbrev F_code_Code_shaped_c1 : FuncId := 44
abbrev F_code_Code_sum : FuncId := 27
abbrev F_code_New : FuncId := 13
abbrev F_code_generator : FuncId := 25
abbrev F_errors_As : FuncId := 35
abbrev F_errors_Is : FuncId := 19
abbrev F_gf_Field_AddMul : FuncId := 45
abbrev F_gf_Field_Inv : FuncId := 65
abbrev F_gf_Field_Mul : FuncId := 58
abbrev F_gf_Field_Poly : FuncId := 59
abbrev F_gf_New : FuncId := 40
abbrev F_gf_Std : FuncId := 24
abbrev F_matrix_Matrix_Invert : FuncId := 30
abbrev F_matrix_Matrix_Mul : FuncId := 42
abbrev F_matrix_Matrix_Rows : FuncId := 31
abbrev F_matrix_New : FuncId := 29
abbrev F_matrix_New_c1 : FuncId := 48
abbrev F_matrix_Vandermonde : FuncId := 41
abbrev F_matrix_blank : FuncId := 49
abbrev F_matrix_eliminate : FuncId := 50
abbrev F_matrix_eliminate_c1 : FuncId := 62
abbrev F_matrix_eliminate_c2 : FuncId := 63
abbrev F_matrix_eliminate_c3 : FuncId := 64
abbrev F_matrix_sized : FuncId := 57
abbrev F_sherdlaw05_Shape_code : FuncId := 5
abbrev F_sherdlaw05_StripeOnly : FuncId := 3
abbrev F_sherdlaw05_StripeWhole : FuncId := 4
abbrev F_sherdlaw05_chosen : FuncId := 8
abbrev F_sherdlaw05_parts : FuncId := 7
abbrev F_sherdlaw05_taken : FuncId := 10
abbrev F_slices_Clone : FuncId := 39
abbrev F_slices_Concat : FuncId := 36
abbrev F_slices_ContainsFunc_api_Part_api_Part : FuncId := 46
abbrev F_slices_ContainsFunc_byte_byte : FuncId := 43
abbrev F_slices_ContainsFunc_byte_byte_37 : FuncId := 37
abbrev F_slices_Equal : FuncId := 32
abbrev F_slices_Grow : FuncId := 55
abbrev F_slices_IndexFunc_api_Part_api_Part : FuncId := 61
abbrev F_slices_IndexFunc_byte_byte : FuncId := 60
abbrev F_slices_IndexFunc_byte_byte_56 : FuncId := 56
abbrev F_stripe_Cut : FuncId := 12
abbrev F_stripe_Join : FuncId := 9
abbrev F_stripe_Size : FuncId := 11
abbrev F_stripe_Split : FuncId := 6
abbrev F_stripe_cut : FuncId := 15
abbrev F_stripe_number : FuncId := 20
abbrev F_stripe_refusal_Unwrap : FuncId := 88
abbrev F_stripe_size : FuncId := 22
abbrev F_stripe_whole : FuncId := 21
abbrev F_stripe_whole_c1 : FuncId := 38
abbrev F_stripe_why : FuncId := 18
abbrev G_errors_errorType : Nat := 0
abbrev Ty_0_p_runtime_PanicNilError : TypeId := 150
abbrev Ty_255_bool : TypeId := 99
abbrev Ty_256_int : TypeId := 130
abbrev Ty_510_uint8 : TypeId := 129
abbrev Ty_As : TypeId := 144
abbrev Ty_AssignableTo : TypeId := 82
abbrev Ty_Error : TypeId := 56
abbrev Ty_Is : TypeId := 109
abbrev Ty_Unwrap : TypeId := 112
abbrev Ty_abi_BoundsErrorCode : TypeId := 6
abbrev Ty_abi_Kind : TypeId := 123
abbrev Ty_abi_Method : TypeId := 174
abbrev Ty_abi_NameOff : TypeId := 158
abbrev Ty_abi_TFlag : TypeId := 155
abbrev Ty_abi_TextOff : TypeId := 172
abbrev Ty_abi_Type : TypeId := 161
abbrev Ty_abi_TypeOff : TypeId := 159
abbrev Ty_abi_UncommonType : TypeId := 170
abbrev Ty_api_Errno : TypeId := 32
abbrev Ty_api_Part : TypeId := 41
abbrev Ty_bool : TypeId := 4
abbrev Ty_code_Code : TypeId := 69
abbrev Ty_error : TypeId := 57
abbrev Ty_gf_Field : TypeId := 132
abbrev Ty_int : TypeId := 3
abbrev Ty_int32 : TypeId := 21
abbrev Ty_int64 : TypeId := 2
abbrev Ty_interface : TypeId := 20
abbrev Ty_maps_unhashableTypeError : TypeId := 19
abbrev Ty_matrix_Matrix : TypeId := 104
abbrev Ty_p_abi_Type : TypeId := 17
abbrev Ty_p_abi_UncommonType : TypeId := 166
abbrev Ty_p_api_Errno : TypeId := 87
abbrev Ty_p_code_Code : TypeId := 29
abbrev Ty_p_error : TypeId := 175
abbrev Ty_p_gf_Field : TypeId := 65
abbrev Ty_p_matrix_Matrix : TypeId := 73
abbrev Ty_p_reflectlite_ValueError : TypeId := 108
abbrev Ty_p_runtime_PanicNilError : TypeId := 16
abbrev Ty_p_runtime_TypeAssertionError : TypeId := 15
abbrev Ty_p_stripe_refusal : TypeId := 79
abbrev Ty_p_uint8 : TypeId := 157
abbrev Ty_reflectlite_Type : TypeId := 83
abbrev Ty_reflectlite_Value : TypeId := 120
abbrev Ty_reflectlite_ValueError : TypeId := 165
abbrev Ty_reflectlite_flag : TypeId := 118
abbrev Ty_reflectlite_rtype : TypeId := 107
abbrev Ty_runtime_PanicNilError : TypeId := 152
abbrev Ty_runtime_TypeAssertionError : TypeId := 149
abbrev Ty_runtime_boundsError : TypeId := 8
abbrev Ty_runtime_errorAddressString : TypeId := 14
abbrev Ty_runtime_errorString : TypeId := 10
abbrev Ty_runtime_plainError : TypeId := 11
abbrev Ty_sherdlaw05_Case : TypeId := 28
abbrev Ty_sherdlaw05_Shape : TypeId := 23
abbrev Ty_sl_abi_Method : TypeId := 171
abbrev Ty_sl_api_Part : TypeId := 35
abbrev Ty_sl_bool : TypeId := 54
abbrev Ty_sl_error : TypeId := 115
abbrev Ty_sl_int : TypeId := 26
abbrev Ty_sl_sl_uint8 : TypeId := 25
abbrev Ty_sl_uint8 : TypeId := 24
abbrev Ty_string : TypeId := 9
abbrev Ty_stripe_refusal : TypeId := 81
abbrev Ty_uint : TypeId := 47
abbrev Ty_uint16 : TypeId := 168
abbrev Ty_uint32 : TypeId := 154
abbrev Ty_uint8 : TypeId := 5
abbrev Ty_uintptr : TypeId := 12
abbrev Ty_unsafe_Pointer : TypeId := 117
set_option maxRecDepth 100000
theorem agg_23 : aggB PP 23 2 = true := by kernel_rfl
theorem agg_41 : aggB PP 41 2 = true := by kernel_rfl
theorem agg_99 : aggB PP 99 255 = true := by kernel_rfl
theorem arr_129 : arrB PP 129 510 1 = true := by kernel_rfl
theorem arr_130 : arrB PP 130 256 1 = true := by kernel_rfl
theorem arr_99 : arrB PP 99 255 1 = true := by kernel_rfl
theorem bd_104_p0_s1 : ∀ (w : World) (x0 : Option Addr) (x1 : Slc), (Instr.build 104 #[(0, (.pointer x0)), (1, (Slc.v x1))]).run PP w = .ok (.agg #[(.pointer x0), (Slc.v x1)]) w := by intros; kernel_rfl
theorem bd_132_ii640 : ∀ (w : World) (x0 : Int), (Instr.build 132 #[(0, (.int .i64 x0))]).run PP w = .ok (.agg #[(.int .i64 x0), (.int .u8 0), (.int .u8 0), (.int .u8 0), (.int .u8 0), (.int .u8 0), (.int .u8 0), (.int .u8 0), (.int .u8 0), (.int .u8 0), (.int .u8 0), (.int .u8 0), (.int .u8 0), (.int .u8 0), (.int .u8 0), (.int .u8 0), (.int .u8 0), (.int .u8 0), (.int .u8 0), (.int .u8 0), (.int .u8 0), (.int .u8 0), (.int .u8 0), (.int .u8 0), (.int .u8 0), (.int .u8 0), (.int .u8 0), (.int .u8 0), (.int .u8 0), (.int .u8 0), (.int .u8 0), (.int .u8 0), (.int .u8 0), (.int .u8 0), (.int .u8 0), (.int .u8 0), (.int .u8 0), (.int .u8 0), (.int .u8 0), (.int .u8 0), (.int .u8 0), (.int .u8 0), (.int .u8 0), (.int .u8 0), (.int .u8 0), (.int .u8 0), (.int .u8 0), (.int .u8 0), (.int .u8 0), (.int .u8 0), (.int .u8 0), (.int .u8 0), (.int .u8 0), (.int .u8 0), (.int .u8 0), (.int .u8 0), (.int .u8 0), (.int .u8 0), (.int .u8 0), (.int .u8 0), (.int .u8 0), (.int .u8 0), (.int .u8 0), (.int .u8 0), (.int .u8 0), (.int .u8 0), (.int .u8 0), (.int .u8 0), (.int .u8 0), (.int .u8 0), (.int .u8 0), (.int .u8 0), (.int .u8 0), (.int .u8 0), (.int .u8 0), (.int .u8 0), (.int .u8 0), (.int .u8 0), (.int .u8 0), (.int .u8 0), (.int .u8 0), (.int .u8 0), (.int .u8 0), (.int .u8 0), (.int .u8 0), (.int .u8 0), (.int .u8 0), (.int .u8 0), (.int .u8 0), (.int .u8 0), (.int .u8 0), (.int .u8 0), (.int .u8 0), (.int .u8 0), (.int .u8 0), (.int .u8 0), (.int .u8 0), (.int .u8 0), (.int .u8 0), (.int .u8 0), (.int .u8 0), (.int .u8 0), (.int .u8 0), (.int .u8 0), (.int .u8 0), (.int .u8 0), (.int .u8 0), (.int .u8 0), (.int .u8 0), (.int .u8 0), (.int .u8 0), (.int .u8 0), (.int .u8 0), (.int .u8 0), (.int .u8 0), (.int .u8 0), (.int .u8 0), (.int .u8 0), (.int .u8 0), (.int .u8 0), (.int .u8 0), (.int .u8 0), (.int .u8 0), (.int .u8 0), (.int .u8 0), (.int .u8 0), (.int .u8 0), (.int .u8 0), (.int .u8 0), (.int .u8 0), (.int .u8 0), (.int .u8 0), (.int .u8 0), (.int .u8 0), (.int .u8 0), (.int .u8 0), (.int .u8 0), (.int .u8 0), (.int .u8 0), (.int .u8 0), (.int .u8 0), (.int .u8 0), (.int .u8 0), (.int .u8 0), (.int .u8 0), (.int .u8 0), (.int .u8 0), (.int .u8 0), (.int .u8 0), (.int .u8 0), (.int .u8 0), (.int .u8 0), (.int .u8 0), (.int .u8 0), (.int .u8 0), (.int .u8 0), (.int .u8 0), (.int .u8 0), (.int .u8 0), (.int .u8 0), (.int .u8 0), (.int .u8 0), (.int .u8 0), (.int .u8 0), (.int .u8 0), (.int .u8 0), (.int .u8 0), (.int .u8 0), (.int .u8 0), (.int .u8 0), (.int .u8 0), (.int .u8 0), (.int .u8 0), (.int .u8 0), (.int .u8 0), (.int .u8 0), (.int .u8 0), (.int .u8 0), (.int .u8 0), (.int .u8 0), (.int .u8 0), (.int .u8 0), (.int .u8 0), (.int .u8 0), (.int .u8 0), (.int .u8 0), (.int .u8 0), (.int .u8 0), (.int .u8 0), (.int .u8 0), (.int .u8 0), (.int .u8 0), (.int .u8 0), (.int .u8 0), (.int .u8 0), (.int .u8 0), (.int .u8 0), (.int .u8 0), (.int .u8 0), (.int .u8 0), (.int .u8 0), (.int .u8 0), (.int .u8 0), (.int .u8 0), (.int .u8 0), (.int .u8 0), (.int .u8 0), (.int .u8 0), (.int .u8 0), (.int .u8 0), (.int .u8 0), (.int .u8 0), (.int .u8 0), (.int .u8 0), (.int .u8 0), (.int .u8 0), (.int .u8 0), (.int .u8 0), (.int .u8 0), (.int .u8 0), (.int .u8 0), (.int .u8 0), (.int .u8 0), (.int .u8 0), (.int .u8 0), (.int .u8 0), (.int .u8 0), (.int .u8 0), (.int .u8 0), (.int .u8 0), (.int .u8 0), (.int .u8 0), (.int .u8 0), (.int .u8 0), (.int .u8 0), (.int .u8 0), (.int .u8 0), (.int .u8 0), (.int .u8 0), (.int .u8 0), (.int .u8 0), (.int .u8 0), (.int .u8 0), (.int .u8 0), (.int .u8 0), (.int .u8 0), (.int .u8 0), (.int .u8 0), (.int .u8 0), (.int .u8 0), (.int .u8 0), (.int .u8 0), (.int .u8 0), (.int .u8 0), (.int .u8 0), (.int .u8 0), (.int .u8 0), (.int .u8 0), (.int .u8 0), (.int .u8 0), (.int .u8 0), (.int .u8 0), (.int .u8 0), (.int .u8 0), (.int .u8 0), (.int .u8 0), (.int .u8 0), (.int .u8 0), (.int .u8 0), (.int .u8 0), (.int .u8 0), (.int .u8 0), (.int .u8 0), (.int .u8 0), (.int .u8 0), (.int .u8 0), (.int .u8 0), (.int .u8 0), (.int .u8 0), (.int .u8 0), (.int .u8 0), (.int .u8 0), (.int .u8 0), (.int .u8 0), (.int .u8 0), (.int .u8 0), (.int .u8 0), (.int .u8 0), (.int .u8 0), (.int .u8 0), (.int .u8 0), (.int .u8 0), (.int .u8 0), (.int .u8 0), (.int .u8 0), (.int .u8 0), (.int .u8 0), (.int .u8 0), (.int .u8 0), (.int .u8 0), (.int .u8 0), (.int .u8 0), (.int .u8 0), (.int .u8 0), (.int .u8 0), (.int .u8 0), (.int .u8 0), (.int .u8 0), (.int .u8 0), (.int .u8 0), (.int .u8 0), (.int .u8 0), (.int .u8 0), (.int .u8 0), (.int .u8 0), (.int .u8 0), (.int .u8 0), (.int .u8 0), (.int .u8 0), (.int .u8 0), (.int .u8 0), (.int .u8 0), (.int .u8 0), (.int .u8 0), (.int .u8 0), (.int .u8 0), (.int .u8 0), (.int .u8 0), (.int .u8 0), (.int .u8 0), (.int .u8 0), (.int .u8 0), (.int .u8 0), (.int .u8 0), (.int .u8 0), (.int .u8 0), (.int .u8 0), (.int .u8 0), (.int .u8 0), (.int .u8 0), (.int .u8 0), (.int .u8 0), (.int .u8 0), (.int .u8 0), (.int .u8 0), (.int .u8 0), (.int .u8 0), (.int .u8 0), (.int .u8 0), (.int .u8 0), (.int .u8 0), (.int .u8 0), (.int .u8 0), (.int .u8 0), (.int .u8 0), (.int .u8 0), (.int .u8 0), (.int .u8 0), (.int .u8 0), (.int .u8 0), (.int .u8 0), (.int .u8 0), (.int .u8 0), (.int .u8 0), (.int .u8 0), (.int .u8 0), (.int .u8 0), (.int .u8 0), (.int .u8 0), (.int .u8 0), (.int .u8 0), (.int .u8 0), (.int .u8 0), (.int .u8 0), (.int .u8 0), (.int .u8 0), (.int .u8 0), (.int .u8 0), (.int .u8 0), (.int .u8 0), (.int .u8 0), (.int .u8 0), (.int .u8 0), (.int .u8 0), (.int .u8 0), (.int .u8 0), (.int .u8 0), (.int .u8 0), (.int .u8 0), (.int .u8 0), (.int .u8 0), (.int .u8 0), (.int .u8 0), (.int .u8 0), (.int .u8 0), (.int .u8 0), (.int .u8 0), (.int .u8 0), (.int .u8 0), (.int .u8 0), (.int .u8 0), (.int .u8 0), (.int .u8 0), (.int .u8 0), (.int .u8 0), (.int .u8 0), (.int .u8 0), (.int .u8 0), (.int .u8 0), (.int .u8 0), (.int .u8 0), (.int .u8 0), (.int .u8 0), (.int .u8 0), (.int .u8 0), (.int .u8 0), (.int .u8 0), (.int .u8 0), (.int .u8 0), (.int .u8 0), (.int .u8 0), (.int .u8 0), (.int .u8 0), (.int .u8 0), (.int .u8 0), (.int .u8 0), (.int .u8 0), (.int .u8 0), (.int .u8 0), (.int .u8 0), (.int .u8 0), (.int .u8 0), (.int .u8 0), (.int .u8 0), (.int .u8 0), (.int .u8 0), (.int .u8 0), (.int .u8 0), (.int .u8 0), (.int .u8 0), (.int .u8 0), (.int .u8 0), (.int .u8 0), (.int .u8 0), (.int .u8 0), (.int .u8 0), (.int .u8 0), (.int .u8 0), (.int .u8 0), (.int .u8 0), (.int .u8 0), (.int .u8 0), (.int .u8 0), (.int .u8 0), (.int .u8 0), (.int .u8 0), (.int .u8 0), (.int .u8 0), (.int .u8 0), (.int .u8 0), (.int .u8 0), (.int .u8 0), (.int .u8 0), (.int .u8 0), (.int .u8 0), (.int .u8 0), (.int .u8 0), (.int .u8 0), (.int .u8 0), (.int .u8 0), (.int .u8 0), (.int .u8 0), (.int .u8 0), (.int .u8 0), (.int .u8 0), (.int .u8 0), (.int .u8 0), (.int .u8 0), (.int .u8 0), (.int .u8 0), (.int .u8 0), (.int .u8 0), (.int .u8 0), (.int .u8 0), (.int .u8 0), (.int .u8 0), (.int .u8 0), (.int .u8 0), (.int .u8 0), (.int .u8 0), (.int .u8 0), (.int .u8 0), (.int .u8 0), (.int .u8 0), (.int .u8 0), (.int .u8 0), (.int .u8 0), (.int .u8 0), (.int .u8 0), (.int .u8 0), (.int .u8 0), (.int .u8 0), (.int .u8 0), (.int .u8 0), (.int .u8 0), (.int .u8 0), (.int .u8 0), (.int .u8 0), (.int .u8 0), (.int .u8 0), (.int .u8 0), (.int .i64 0), (.int .i64 0), (.int .i64 0), (.int .i64 0), (.int .i64 0), (.int .i64 0), (.int .i64 0), (.int .i64 0), (.int .i64 0), (.int .i64 0), (.int .i64 0), (.int .i64 0), (.int .i64 0), (.int .i64 0), (.int .i64 0), (.int .i64 0), (.int .i64 0), (.int .i64 0), (.int .i64 0), (.int .i64 0), (.int .i64 0), (.int .i64 0), (.int .i64 0), (.int .i64 0), (.int .i64 0), (.int .i64 0), (.int .i64 0), (.int .i64 0), (.int .i64 0), (.int .i64 0), (.int .i64 0), (.int .i64 0), (.int .i64 0), (.int .i64 0), (.int .i64 0), (.int .i64 0), (.int .i64 0), (.int .i64 0), (.int .i64 0), (.int .i64 0), (.int .i64 0), (.int .i64 0), (.int .i64 0), (.int .i64 0), (.int .i64 0), (.int .i64 0), (.int .i64 0), (.int .i64 0), (.int .i64 0), (.int .i64 0), (.int .i64 0), (.int .i64 0), (.int .i64 0), (.int .i64 0), (.int .i64 0), (.int .i64 0), (.int .i64 0), (.int .i64 0), (.int .i64 0), (.int .i64 0), (.int .i64 0), (.int .i64 0), (.int .i64 0), (.int .i64 0), (.int .i64 0), (.int .i64 0), (.int .i64 0), (.int .i64 0), (.int .i64 0), (.int .i64 0), (.int .i64 0), (.int .i64 0), (.int .i64 0), (.int .i64 0), (.int .i64 0), (.int .i64 0), (.int .i64 0), (.int .i64 0), (.int .i64 0), (.int .i64 0), (.int .i64 0), (.int .i64 0), (.int .i64 0), (.int .i64 0), (.int .i64 0), (.int .i64 0), (.int .i64 0), (.int .i64 0), (.int .i64 0), (.int .i64 0), (.int .i64 0), (.int .i64 0), (.int .i64 0), (.int .i64 0), (.int .i64 0), (.int .i64 0), (.int .i64 0), (.int .i64 0), (.int .i64 0), (.int .i64 0), (.int .i64 0), (.int .i64 0), (.int .i64 0), (.int .i64 0), (.int .i64 0), (.int .i64 0), (.int .i64 0), (.int .i64 0), (.int .i64 0), (.int .i64 0), (.int .i64 0), (.int .i64 0), (.int .i64 0), (.int .i64 0), (.int .i64 0), (.int .i64 0), (.int .i64 0), (.int .i64 0), (.int .i64 0), (.int .i64 0), (.int .i64 0), (.int .i64 0), (.int .i64 0), (.int .i64 0), (.int .i64 0), (.int .i64 0), (.int .i64 0), (.int .i64 0), (.int .i64 0), (.int .i64 0), (.int .i64 0), (.int .i64 0), (.int .i64 0), (.int .i64 0), (.int .i64 0), (.int .i64 0), (.int .i64 0), (.int .i64 0), (.int .i64 0), (.int .i64 0), (.int .i64 0), (.int .i64 0), (.int .i64 0), (.int .i64 0), (.int .i64 0), (.int .i64 0), (.int .i64 0), (.int .i64 0), (.int .i64 0), (.int .i64 0), (.int .i64 0), (.int .i64 0), (.int .i64 0), (.int .i64 0), (.int .i64 0), (.int .i64 0), (.int .i64 0), (.int .i64 0), (.int .i64 0), (.int .i64 0), (.int .i64 0), (.int .i64 0), (.int .i64 0), (.int .i64 0), (.int .i64 0), (.int .i64 0), (.int .i64 0), (.int .i64 0), (.int .i64 0), (.int .i64 0), (.int .i64 0), (.int .i64 0), (.int .i64 0), (.int .i64 0), (.int .i64 0), (.int .i64 0), (.int .i64 0), (.int .i64 0), (.int .i64 0), (.int .i64 0), (.int .i64 0), (.int .i64 0), (.int .i64 0), (.int .i64 0), (.int .i64 0), (.int .i64 0), (.int .i64 0), (.int .i64 0), (.int .i64 0), (.int .i64 0), (.int .i64 0), (.int .i64 0), (.int .i64 0), (.int .i64 0), (.int .i64 0), (.int .i64 0), (.int .i64 0), (.int .i64 0), (.int .i64 0), (.int .i64 0), (.int .i64 0), (.int .i64 0), (.int .i64 0), (.int .i64 0), (.int .i64 0), (.int .i64 0), (.int .i64 0), (.int .i64 0), (.int .i64 0), (.int .i64 0), (.int .i64 0), (.int .i64 0), (.int .i64 0), (.int .i64 0), (.int .i64 0), (.int .i64 0), (.int .i64 0), (.int .i64 0), (.int .i64 0), (.int .i64 0), (.int .i64 0), (.int .i64 0), (.int .i64 0), (.int .i64 0), (.int .i64 0), (.int .i64 0), (.int .i64 0), (.int .i64 0), (.int .i64 0), (.int .i64 0), (.int .i64 0), (.int .i64 0), (.int .i64 0), (.int .i64 0), (.int .i64 0), (.int .i64 0), (.int .i64 0), (.int .i64 0), (.int .i64 0), (.int .i64 0), (.int .i64 0), (.int .i64 0), (.int .i64 0), (.int .i64 0), (.int .i64 0), (.int .i64 0), (.int .i64 0), (.int .i64 0), (.int .i64 0), (.int .i64 0), (.int .i64 0), (.int .i64 0), (.int .i64 0), (.int .i64 0), (.int .i64 0), (.int .i64 0)]) w := by intros; kernel_rfl
theorem bd_41_ii640_s1 : ∀ (w : World) (x0 : Int) (x1 : Slc), (Instr.build 41 #[(0, (.int .i64 x0)), (1, (Slc.v x1))]).run PP w = .ok (.agg #[(.int .i64 x0), (Slc.v x1)]) w := by intros; kernel_rfl
theorem bd_69_p0_ii641_ii642_s3 : ∀ (w : World) (x0 : Option Addr) (x1 : Int) (x2 : Int) (x3 : Slc), (Instr.build 69 #[(0, (.pointer x0)), (1, (.int .i64 x1)), (2, (.int .i64 x2)), (3, (Slc.v x3))]).run PP w = .ok (.agg #[(.pointer x0), (.int .i64 x1), (.int .i64 x2), (Slc.v x3)]) w := by intros; kernel_rfl
theorem bd_81_s0_ii641 : ∀ (w : World) (x0 : ByteArray) (x1 : Int), (Instr.build 81 #[(0, (.string x0)), (1, (.int .i64 x1))]).run PP w = .ok (.agg #[(.string x0), (.int .i64 x1)]) w := by intros; kernel_rfl
theorem bd_99 : ∀ (w : World), (Instr.build 99 #[]).run PP w = .ok (.agg #[(.bool false), (.bool false), (.bool false), (.bool false), (.bool false), (.bool false), (.bool false), (.bool false), (.bool false), (.bool false), (.bool false), (.bool false), (.bool false), (.bool false), (.bool false), (.bool false), (.bool false), (.bool false), (.bool false), (.bool false), (.bool false), (.bool false), (.bool false), (.bool false), (.bool false), (.bool false), (.bool false), (.bool false), (.bool false), (.bool false), (.bool false), (.bool false), (.bool false), (.bool false), (.bool false), (.bool false), (.bool false), (.bool false), (.bool false), (.bool false), (.bool false), (.bool false), (.bool false), (.bool false), (.bool false), (.bool false), (.bool false), (.bool false), (.bool false), (.bool false), (.bool false), (.bool false), (.bool false), (.bool false), (.bool false), (.bool false), (.bool false), (.bool false), (.bool false), (.bool false), (.bool false), (.bool false), (.bool false), (.bool false), (.bool false), (.bool false), (.bool false), (.bool false), (.bool false), (.bool false), (.bool false), (.bool false), (.bool false), (.bool false), (.bool false), (.bool false), (.bool false), (.bool false), (.bool false), (.bool false), (.bool false), (.bool false), (.bool false), (.bool false), (.bool false), (.bool false), (.bool false), (.bool false), (.bool false), (.bool false), (.bool false), (.bool false), (.bool false), (.bool false), (.bool false), (.bool false), (.bool false), (.bool false), (.bool false), (.bool false), (.bool false), (.bool false), (.bool false), (.bool false), (.bool false), (.bool false), (.bool false), (.bool false), (.bool false), (.bool false), (.bool false), (.bool false), (.bool false), (.bool false), (.bool false), (.bool false), (.bool false), (.bool false), (.bool false), (.bool false), (.bool false), (.bool false), (.bool false), (.bool false), (.bool false), (.bool false), (.bool false), (.bool false), (.bool false), (.bool false), (.bool false), (.bool false), (.bool false), (.bool false), (.bool false), (.bool false), (.bool false), (.bool false), (.bool false), (.bool false), (.bool false), (.bool false), (.bool false), (.bool false), (.bool false), (.bool false), (.bool false), (.bool false), (.bool false), (.bool false), (.bool false), (.bool false), (.bool false), (.bool false), (.bool false), (.bool false), (.bool false), (.bool false), (.bool false), (.bool false), (.bool false), (.bool false), (.bool false), (.bool false), (.bool false), (.bool false), (.bool false), (.bool false), (.bool false), (.bool false), (.bool false), (.bool false), (.bool false), (.bool false), (.bool false), (.bool false), (.bool false), (.bool false), (.bool false), (.bool false), (.bool false), (.bool false), (.bool false), (.bool false), (.bool false), (.bool false), (.bool false), (.bool false), (.bool false), (.bool false), (.bool false), (.bool false), (.bool false), (.bool false), (.bool false), (.bool false), (.bool false), (.bool false), (.bool false), (.bool false), (.bool false), (.bool false), (.bool false), (.bool false), (.bool false), (.bool false), (.bool false), (.bool false), (.bool false), (.bool false), (.bool false), (.bool false), (.bool false), (.bool false), (.bool false), (.bool false), (.bool false), (.bool false), (.bool false), (.bool false), (.bool false), (.bool false), (.bool false), (.bool false), (.bool false), (.bool false), (.bool false), (.bool false), (.bool false), (.bool false), (.bool false), (.bool false), (.bool false), (.bool false), (.bool false), (.bool false), (.bool false), (.bool false), (.bool false), (.bool false), (.bool false), (.bool false), (.bool false), (.bool false), (.bool false), (.bool false), (.bool false), (.bool false), (.bool false), (.bool false), (.bool false), (.bool false), (.bool false), (.bool false), (.bool false)]) w := by intros; kernel_rfl
theorem body_10 : bodyB PP 10 = true := by kernel_rfl
theorem body_11 : bodyB PP 11 = true := by kernel_rfl
theorem body_12 : bodyB PP 12 = true := by kernel_rfl
theorem body_13 : bodyB PP 13 = true := by kernel_rfl
theorem body_14 : bodyB PP 14 = true := by kernel_rfl
theorem body_15 : bodyB PP 15 = true := by kernel_rfl
theorem body_16 : bodyB PP 16 = true := by kernel_rfl
theorem body_17 : bodyB PP 17 = true := by kernel_rfl
theorem body_18 : bodyB PP 18 = true := by kernel_rfl
theorem body_19 : bodyB PP 19 = true := by kernel_rfl
theorem body_20 : bodyB PP 20 = true := by kernel_rfl
theorem body_21 : bodyB PP 21 = true := by kernel_rfl
theorem body_22 : bodyB PP 22 = true := by kernel_rfl
theorem body_23 : bodyB PP 23 = true := by kernel_rfl
theorem body_24 : bodyB PP 24 = true := by kernel_rfl
theorem body_25 : bodyB PP 25 = true := by kernel_rfl
theorem body_26 : bodyB PP 26 = true := by kernel_rfl
theorem body_27 : bodyB PP 27 = true := by kernel_rfl
theorem body_28 : bodyB PP 28 = true := by kernel_rfl
theorem body_29 : bodyB PP 29 = true := by kernel_rfl
theorem body_30 : bodyB PP 30 = true := by kernel_rfl
theorem body_31 : bodyB PP 31 = true := by kernel_rfl
theorem body_32 : bodyB PP 32 = true := by kernel_rfl
theorem body_35 : bodyB PP 35 = true := by kernel_rfl
theorem body_36 : bodyB PP 36 = true := by kernel_rfl
theorem body_37 : bodyB PP 37 = true := by kernel_rfl
theorem body_39 : bodyB PP 39 = true := by kernel_rfl
theorem body_40 : bodyB PP 40 = true := by kernel_rfl
theorem body_41 : bodyB PP 41 = true := by kernel_rfl
theorem body_42 : bodyB PP 42 = true := by kernel_rfl
theorem body_43 : bodyB PP 43 = true := by kernel_rfl
theorem body_45 : bodyB PP 45 = true := by kernel_rfl
theorem body_46 : bodyB PP 46 = true := by kernel_rfl
theorem body_49 : bodyB PP 49 = true := by kernel_rfl
theorem body_5 : bodyB PP 5 = true := by kernel_rfl
theorem body_50 : bodyB PP 50 = true := by kernel_rfl
theorem body_55 : bodyB PP 55 = true := by kernel_rfl
theorem body_56 : bodyB PP 56 = true := by kernel_rfl
theorem body_57 : bodyB PP 57 = true := by kernel_rfl
theorem body_58 : bodyB PP 58 = true := by kernel_rfl
theorem body_59 : bodyB PP 59 = true := by kernel_rfl
theorem body_6 : bodyB PP 6 = true := by kernel_rfl
theorem body_60 : bodyB PP 60 = true := by kernel_rfl
theorem body_61 : bodyB PP 61 = true := by kernel_rfl
theorem body_62 : bodyB PP 62 = true := by kernel_rfl
theorem body_63 : bodyB PP 63 = true := by kernel_rfl
theorem body_64 : bodyB PP 64 = true := by kernel_rfl
theorem body_65 : bodyB PP 65 = true := by kernel_rfl
theorem body_7 : bodyB PP 7 = true := by kernel_rfl
theorem body_8 : bodyB PP 8 = true := by kernel_rfl
theorem body_9 : bodyB PP 9 = true := by kernel_rfl
theorem bs_24_0 : ∀ (w : World), (Instr.buildSlice 24 0 #[]).run PP w = .ok (.slice (some ⟨w.heap.size, 0, none⟩) 0 0) (w.alloc (.cells #[] 5)) := by intros; kernel_rfl
theorem bs_24_3_iu80_iu81_iu82 : ∀ (w : World) (x0 : Int) (x1 : Int) (x2 : Int), (Instr.buildSlice 24 3 #[(0, (.int .u8 x0)), (1, (.int .u8 x1)), (2, (.int .u8 x2))]).run PP w = .ok (.slice (some ⟨w.heap.size, 0, none⟩) 3 3) (w.alloc (.cells #[(.int .u8 x0), (.int .u8 x1), (.int .u8 x2)] 5)) := by intros; kernel_rfl
theorem bs_24_4_iu80_iu81_iu82_iu83 : ∀ (w : World) (x0 : Int) (x1 : Int) (x2 : Int) (x3 : Int), (Instr.buildSlice 24 4 #[(0, (.int .u8 x0)), (1, (.int .u8 x1)), (2, (.int .u8 x2)), (3, (.int .u8 x3))]).run PP w = .ok (.slice (some ⟨w.heap.size, 0, none⟩) 4 4) (w.alloc (.cells #[(.int .u8 x0), (.int .u8 x1), (.int .u8 x2), (.int .u8 x3)] 5)) := by intros; kernel_rfl
theorem bs_25_1_s0 : ∀ (w : World) (x0 : Slc), (Instr.buildSlice 25 1 #[(0, (Slc.v x0))]).run PP w = .ok (.slice (some ⟨w.heap.size, 0, none⟩) 1 1) (w.alloc (.cells #[(Slc.v x0)] 24)) := by intros; kernel_rfl
theorem bs_26_1_ii640 : ∀ (w : World) (x0 : Int), (Instr.buildSlice 26 1 #[(0, (.int .i64 x0))]).run PP w = .ok (.slice (some ⟨w.heap.size, 0, none⟩) 1 1) (w.alloc (.cells #[(.int .i64 x0)] 3)) := by intros; kernel_rfl
theorem bs_35_1_ii64s0 : ∀ (w : World) (x0 : Int) (x1 : Slc), (Instr.buildSlice 35 1 #[(0, (.agg #[(.int .i64 x0), (Slc.v x1)]))]).run PP w = .ok (.slice (some ⟨w.heap.size, 0, none⟩) 1 1) (w.alloc (.cells #[(.int .i64 x0), (Slc.v x1)] 41)) := by intros; kernel_rfl
theorem bs_35_2_ii64s0_ii64s1 : ∀ (w : World) (x0 : Int) (x1 : Slc) (x2 : Int) (x3 : Slc), (Instr.buildSlice 35 2 #[(0, (.agg #[(.int .i64 x0), (Slc.v x1)])), (1, (.agg #[(.int .i64 x2), (Slc.v x3)]))]).run PP w = .ok (.slice (some ⟨w.heap.size, 0, none⟩) 2 2) (w.alloc (.cells #[(.int .i64 x0), (Slc.v x1), (.int .i64 x2), (Slc.v x3)] 41)) := by intros; kernel_rfl
theorem fld_104_0 : fldB PP 104 0 0 = true := by kernel_rfl
theorem fld_104_1 : fldB PP 104 1 1 = true := by kernel_rfl
theorem fld_132_0 : fldB PP 132 0 0 = true := by kernel_rfl
theorem fld_132_1 : fldB PP 132 1 1 = true := by kernel_rfl
theorem fld_132_2 : fldB PP 132 2 511 = true := by kernel_rfl
theorem fld_23_0 : fldB PP 23 0 0 = true := by kernel_rfl
theorem fld_23_1 : fldB PP 23 1 1 = true := by kernel_rfl
theorem fld_28_0 : fldB PP 28 0 0 = true := by kernel_rfl
theorem fld_28_1 : fldB PP 28 1 1 = true := by kernel_rfl
theorem fld_28_2 : fldB PP 28 2 2 = true := by kernel_rfl
theorem fld_41_0 : fldB PP 41 0 0 = true := by kernel_rfl
theorem fld_41_1 : fldB PP 41 1 1 = true := by kernel_rfl
theorem fld_69_0 : fldB PP 69 0 0 = true := by kernel_rfl
theorem fld_69_1 : fldB PP 69 1 1 = true := by kernel_rfl
theorem fld_69_2 : fldB PP 69 2 2 = true := by kernel_rfl
theorem fld_69_3 : fldB PP 69 3 3 = true := by kernel_rfl
theorem fld_81_1 : fldB PP 81 1 1 = true := by kernel_rfl
theorem ifc_57 : ifcB PP 57 = true := by kernel_rfl
theorem int_3 : intB PP 3 .i64 = true := by kernel_rfl
theorem int_5 : intB PP 5 .u8 = true := by kernel_rfl
theorem mixed : PP.follows .mixedOrders = true := by kernel_rfl
theorem ni_32 : notIfaceB PP 32 = true := by kernel_rfl
theorem ni_79 : notIfaceB PP 79 = true := by kernel_rfl
theorem ni_87 : notIfaceB PP 87 = true := by kernel_rfl
theorem ni_9 : notIfaceB PP 9 = true := by kernel_rfl
theorem one_24 : oneB PP 24 = true := by kernel_rfl
theorem one_25 : oneB PP 25 = true := by kernel_rfl
theorem one_26 : oneB PP 26 = true := by kernel_rfl
theorem one_3 : oneB PP 3 = true := by kernel_rfl
theorem one_32 : oneB PP 32 = true := by kernel_rfl
theorem one_35 : oneB PP 35 = true := by kernel_rfl
theorem one_4 : oneB PP 4 = true := by kernel_rfl
theorem one_5 : oneB PP 5 = true := by kernel_rfl
theorem one_65 : oneB PP 65 = true := by kernel_rfl
theorem ptr_29 : ptrB PP 29 = true := by kernel_rfl
theorem ptr_65 : ptrB PP 65 = true := by kernel_rfl
theorem ptr_73 : ptrB PP 73 = true := by kernel_rfl
theorem sl_24 : isSlcB PP 24 = true := by kernel_rfl
theorem sl_25 : isSlcB PP 25 = true := by kernel_rfl
theorem sl_26 : isSlcB PP 26 = true := by kernel_rfl
theorem sl_35 : isSlcB PP 35 = true := by kernel_rfl
theorem slc_24 : slcB PP 24 1 = true := by kernel_rfl
theorem slc_25 : slcB PP 25 1 = true := by kernel_rfl
theorem slc_26 : slcB PP 26 1 = true := by kernel_rfl
theorem slc_35 : slcB PP 35 2 = true := by kernel_rfl
theorem slc_54 : slcB PP 54 1 = true := by kernel_rfl
theorem some_3 : someB PP 3 = true := by kernel_rfl
theorem some_5 : someB PP 5 = true := by kernel_rfl
theorem zero_32 : zeroB PP 32 (.int .i64 0) := by unfold zeroB; kernel_rfl
theorem zero_41 : zeroB PP 41 (.agg #[(.int .i64 0), (Slc.v Slc.nil)]) := by unfold zeroB; kernel_rfl
theorem zero_99 : zeroB PP 99 (.agg #[(.bool false), (.bool false), (.bool false), (.bool false), (.bool false), (.bool false), (.bool false), (.bool false), (.bool false), (.bool false), (.bool false), (.bool false), (.bool false), (.bool false), (.bool false), (.bool false), (.bool false), (.bool false), (.bool false), (.bool false), (.bool false), (.bool false), (.bool false), (.bool false), (.bool false), (.bool false), (.bool false), (.bool false), (.bool false), (.bool false), (.bool false), (.bool false), (.bool false), (.bool false), (.bool false), (.bool false), (.bool false), (.bool false), (.bool false), (.bool false), (.bool false), (.bool false), (.bool false), (.bool false), (.bool false), (.bool false), (.bool false), (.bool false), (.bool false), (.bool false), (.bool false), (.bool false), (.bool false), (.bool false), (.bool false), (.bool false), (.bool false), (.bool false), (.bool false), (.bool false), (.bool false), (.bool false), (.bool false), (.bool false), (.bool false), (.bool false), (.bool false), (.bool false), (.bool false), (.bool false), (.bool false), (.bool false), (.bool false), (.bool false), (.bool false), (.bool false), (.bool false), (.bool false), (.bool false), (.bool false), (.bool false), (.bool false), (.bool false), (.bool false), (.bool false), (.bool false), (.bool false), (.bool false), (.bool false), (.bool false), (.bool false), (.bool false), (.bool false), (.bool false), (.bool false), (.bool false), (.bool false), (.bool false), (.bool false), (.bool false), (.bool false), (.bool false), (.bool false), (.bool false), (.bool false), (.bool false), (.bool false), (.bool false), (.bool false), (.bool false), (.bool false), (.bool false), (.bool false), (.bool false), (.bool false), (.bool false), (.bool false), (.bool false), (.bool false), (.bool false), (.bool false), (.bool false), (.bool false), (.bool false), (.bool false), (.bool false), (.bool false), (.bool false), (.bool false), (.bool false), (.bool false), (.bool false), (.bool false), (.bool false), (.bool false), (.bool false), (.bool false), (.bool false), (.bool false), (.bool false), (.bool false), (.bool false), (.bool false), (.bool false), (.bool false), (.bool false), (.bool false), (.bool false), (.bool false), (.bool false), (.bool false), (.bool false), (.bool false), (.bool false), (.bool false), (.bool false), (.bool false), (.bool false), (.bool false), (.bool false), (.bool false), (.bool false), (.bool false), (.bool false), (.bool false), (.bool false), (.bool false), (.bool false), (.bool false), (.bool false), (.bool false), (.bool false), (.bool false), (.bool false), (.bool false), (.bool false), (.bool false), (.bool false), (.bool false), (.bool false), (.bool false), (.bool false), (.bool false), (.bool false), (.bool false), (.bool false), (.bool false), (.bool false), (.bool false), (.bool false), (.bool false), (.bool false), (.bool false), (.bool false), (.bool false), (.bool false), (.bool false), (.bool false), (.bool false), (.bool false), (.bool false), (.bool false), (.bool false), (.bool false), (.bool false), (.bool false), (.bool false), (.bool false), (.bool false), (.bool false), (.bool false), (.bool false), (.bool false), (.bool false), (.bool false), (.bool false), (.bool false), (.bool false), (.bool false), (.bool false), (.bool false), (.bool false), (.bool false), (.bool false), (.bool false), (.bool false), (.bool false), (.bool false), (.bool false), (.bool false), (.bool false), (.bool false), (.bool false), (.bool false), (.bool false), (.bool false), (.bool false), (.bool false), (.bool false), (.bool false), (.bool false), (.bool false), (.bool false), (.bool false), (.bool false), (.bool false), (.bool false), (.bool false), (.bool false), (.bool false), (.bool false), (.bool false), (.bool false), (.bool false), (.bool false)]) := by unfold zeroB; kernel_rfl
abbrev Ty_int' : TypeId := 3
theorem und_int : PP.underlying 3 = some (.int .i64) := by kernel_rfl
abbrev Ty_string' : TypeId := 9
theorem und_string : PP.underlying 9 = some .string := by kernel_rfl
abbrev Ty_uint8' : TypeId := 5
theorem und_uint8 : PP.underlying 5 = some (.int .u8) := by kernel_rfl
theorem slT_sl_uint8 : SlT PP Ty_sl_uint8 Ty_uint8 1 1 (.int .u8 0) := ⟨by kernel_rfl, by kernel_rfl, rfl, by decide⟩
theorem slT_sl_sl_uint8 : SlT PP Ty_sl_sl_uint8 Ty_sl_uint8 1 24 (Slc.v Slc.nil) := ⟨by kernel_rfl, by kernel_rfl, rfl, by decide⟩
theorem slT_sl_int : SlT PP Ty_sl_int Ty_int 1 8 (.int .i64 0) := ⟨by kernel_rfl, by kernel_rfl, rfl, by decide⟩
theorem slT_sl_api_Part : SlT PP Ty_sl_api_Part Ty_api_Part 2 32 (.agg #[(.int .i64 0), (Slc.v Slc.nil)]) := ⟨by kernel_rfl, by kernel_rfl, rfl, by decide⟩
end Go.Proofs.YteoeboeaanjehaaDoor
