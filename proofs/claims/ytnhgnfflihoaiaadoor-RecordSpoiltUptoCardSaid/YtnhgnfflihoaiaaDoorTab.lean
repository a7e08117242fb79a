/-
  The numbers of this seat's functions and types, and closed facts of the program's tables.
-/
import Derived.Test.YtnhgnfflihoaiaaDoorProg
import Derived.Test.YtnhgnfflihoaiaaDoorAny
namespace Go.Proofs.YtnhgnfflihoaiaaDoor
open Go Go.Vc
noncomputable abbrev PP : Program := Tryd.prog
abbrev F_pack_NewReader : FuncId := 57
abbrev F_pack_NewWriter : FuncId := 37
abbrev F_pack_Reader_At : FuncId := 63
abbrev F_pack_Reader_Bool : FuncId := 85
abbrev F_pack_Reader_Byte : FuncId := 58
abbrev F_pack_Reader_Bytes : FuncId := 86
abbrev F_pack_Reader_End : FuncId := 87
abbrev F_pack_Reader_Err : FuncId := 61
abbrev F_pack_Reader_Text : FuncId := 84
abbrev F_pack_Reader_Uint : FuncId := 59
abbrev F_pack_Reader_number : FuncId := 82
abbrev F_pack_Reader_stopped : FuncId := 81
abbrev F_pack_Writer_Bool : FuncId := 69
abbrev F_pack_Writer_Byte : FuncId := 38
abbrev F_pack_Writer_Bytes : FuncId := 39
abbrev F_pack_Writer_Data : FuncId := 41
abbrev F_pack_Writer_Text : FuncId := 68
abbrev F_pack_Writer_Uint : FuncId := 52
abbrev F_pack_Writer_put : FuncId := 67
abbrev F_pack_first_Err : FuncId := 83
abbrev F_pack_first_fail : FuncId := 76
abbrev F_pack_form : FuncId := 77
abbrev F_quorum_Check : FuncId := 51
abbrev F_record_New : FuncId := 9
abbrev F_record_Scan : FuncId := 16
abbrev F_record_Scan_c1 : FuncId := 31
abbrev F_record_Scan_c2 : FuncId := 33
abbrev F_record_Writer_Count : FuncId := 20
abbrev F_record_Writer_Put : FuncId := 19
abbrev F_record_body : FuncId := 40
abbrev F_record_caught : FuncId := 30
abbrev F_record_caught_c1 : FuncId := 56
abbrev F_record_four : FuncId := 42
abbrev F_record_headOf : FuncId := 24
abbrev F_record_may : FuncId := 36
abbrev F_record_mayHead : FuncId := 23
abbrev F_record_must : FuncId := 60
abbrev F_record_readBody : FuncId := 64
abbrev F_record_readHead : FuncId := 32
abbrev F_record_scanner_next : FuncId := 34
abbrev F_sherdlaw11_RecordAny : FuncId := 5
abbrev F_sherdlaw11_RecordBack : FuncId := 6
abbrev F_sherdlaw11_RecordSpoilt : FuncId := 4
abbrev F_sherdlaw11_RecordTorn : FuncId := 7
abbrev F_sherdlaw11_RecordWrites : FuncId := 3
abbrev F_sherdlaw11_apart : FuncId := 13
abbrev F_sherdlaw11_equal : FuncId := 35
abbrev F_sherdlaw11_ints : FuncId := 18
abbrev F_sherdlaw11_lent : FuncId := 26
abbrev F_sherdlaw11_mod : FuncId := 15
abbrev F_sherdlaw11_own : FuncId := 29
abbrev F_sherdlaw11_putting : FuncId := 12
abbrev F_sherdlaw11_same : FuncId := 10
abbrev F_sherdlaw11_silent : FuncId := 11
abbrev F_sherdlaw11_updates : FuncId := 17
abbrev F_sherdlaw11_written : FuncId := 14
abbrev F_sherdref06_Of : FuncId := 75
abbrev F_sherdref06_bitwise : FuncId := 89
abbrev F_sherdref07_Form : FuncId := 73
abbrev F_sherdref07_NewWriter : FuncId := 46
abbrev F_sherdref07_Writer_Bool : FuncId := 80
abbrev F_sherdref07_Writer_Byte : FuncId := 47
abbrev F_sherdref07_Writer_Bytes : FuncId := 54
abbrev F_sherdref07_Writer_Data : FuncId := 49
abbrev F_sherdref07_Writer_Text : FuncId := 79
abbrev F_sherdref07_Writer_Uint : FuncId := 48
abbrev F_sherdref07_Writer_put : FuncId := 72
abbrev F_sherdref08_Valid : FuncId := 78
abbrev F_sherdref08_Zero : FuncId := 90
abbrev F_sherdref08_proper : FuncId := 91
abbrev F_sherdref09_Check : FuncId := 45
abbrev F_sherdref11_CheckHead : FuncId := 21
abbrev F_sherdref11_CheckUpdate : FuncId := 53
abbrev F_sherdref11_New : FuncId := 8
abbrev F_sherdref11_Summed : FuncId := 50
abbrev F_sherdref11_Writer_Count : FuncId := 28
abbrev F_sherdref11_Writer_Put : FuncId := 27
abbrev F_sherdref11_body : FuncId := 55
abbrev F_sherdref11_four : FuncId := 74
abbrev F_sherdref11_headBytes : FuncId := 22
abbrev F_slices_Clone : FuncId := 25
abbrev F_slices_Concat : FuncId := 44
abbrev F_slices_Equal : FuncId := 62
abbrev F_slices_Grow : FuncId := 71
abbrev F_sum_Of : FuncId := 43
abbrev F_sum_step : FuncId := 70
abbrev F_tag_Valid : FuncId := 66
abbrev F_tag_Zero : FuncId := 65
abbrev F_tag_proper : FuncId := 88
abbrev G_sum_steps : Nat := 0
abbrev Ty_0_p_runtime_PanicNilError : TypeId := 132
abbrev Ty_16_uint32 : TypeId := 126
abbrev Ty_4_int : TypeId := 100
abbrev Ty_abi_BoundsErrorCode : TypeId := 6
abbrev Ty_abi_Kind : TypeId := 136
abbrev Ty_abi_NameOff : TypeId := 139
abbrev Ty_abi_TFlag : TypeId := 135
abbrev Ty_abi_Type : TypeId := 142
abbrev Ty_abi_TypeOff : TypeId := 140
abbrev Ty_api_Config : TypeId := 23
abbrev Ty_api_Entry : TypeId := 43
abbrev Ty_api_Errno : TypeId := 29
abbrev Ty_api_Head : TypeId := 25
abbrev Ty_api_Tag : TypeId := 41
abbrev Ty_api_Update : TypeId := 45
abbrev Ty_bool : TypeId := 4
abbrev Ty_int : TypeId := 3
abbrev Ty_int32 : TypeId := 21
abbrev Ty_int64 : TypeId := 2
abbrev Ty_interface : TypeId := 20
abbrev Ty_maps_unhashableTypeError : TypeId := 19
abbrev Ty_p_abi_Type : TypeId := 17
abbrev Ty_p_pack_Reader : TypeId := 97
abbrev Ty_p_pack_Writer : TypeId := 81
abbrev Ty_p_pack_first : TypeId := 128
abbrev Ty_p_record_Writer : TypeId := 32
abbrev Ty_p_record_scanner : TypeId := 76
abbrev Ty_p_runtime_PanicNilError : TypeId := 16
abbrev Ty_p_runtime_TypeAssertionError : TypeId := 15
abbrev Ty_p_sherdref07_Writer : TypeId := 92
abbrev Ty_p_sherdref11_Writer : TypeId := 27
abbrev Ty_p_uint8 : TypeId := 138
abbrev Ty_pack_Reader : TypeId := 121
abbrev Ty_pack_Writer : TypeId := 109
abbrev Ty_pack_first : TypeId := 107
abbrev Ty_record_Writer : TypeId := 71
abbrev Ty_record_scanner : TypeId := 78
abbrev Ty_runtime_PanicNilError : TypeId := 134
abbrev Ty_runtime_TypeAssertionError : TypeId := 131
abbrev Ty_runtime_boundsError : TypeId := 8
abbrev Ty_runtime_errorAddressString : TypeId := 14
abbrev Ty_runtime_errorString : TypeId := 10
abbrev Ty_runtime_plainError : TypeId := 11
abbrev Ty_sherdlaw11_Log : TypeId := 49
abbrev Ty_sherdref07_Writer : TypeId := 117
abbrev Ty_sherdref11_Writer : TypeId := 68
abbrev Ty_sl_api_Update : TypeId := 26
abbrev Ty_sl_int : TypeId := 50
abbrev Ty_sl_sl_uint8 : TypeId := 37
abbrev Ty_sl_uint8 : TypeId := 28
abbrev Ty_string : TypeId := 9
abbrev Ty_uint : TypeId := 113
abbrev Ty_uint32 : TypeId := 88
abbrev Ty_uint8 : TypeId := 5
abbrev Ty_uintptr : TypeId := 12
abbrev Ty_unsafe_Pointer : TypeId := 143
set_option maxRecDepth 100000
theorem agg_23 : aggB PP 23 3 = true := by kernel_rfl
theorem agg_25 : aggB PP 25 4 = true := by kernel_rfl
theorem agg_41 : aggB PP 41 2 = true := by kernel_rfl
theorem agg_43 : aggB PP 43 5 = true := by kernel_rfl
theorem agg_45 : aggB PP 45 7 = true := by kernel_rfl
theorem agg_49 : aggB PP 49 5 = true := by kernel_rfl
theorem arr_100 : arrB PP 100 4 1 = true := by kernel_rfl
theorem arr_126 : arrB PP 126 16 1 = true := by kernel_rfl
theorem bd_109 : ∀ (w : World), (Instr.build 109 #[]).run PP w = .ok (.agg #[(.int .i64 0), (Slc.v Slc.nil)]) w := by intros; kernel_rfl
theorem bd_117 : ∀ (w : World), (Instr.build 117 #[]).run PP w = .ok (.agg #[(Slc.v Slc.nil), (.int .i64 0)]) w := by intros; kernel_rfl
theorem bd_121_s1 : ∀ (w : World) (x0 : Slc), (Instr.build 121 #[(1, (Slc.v x0))]).run PP w = .ok (.agg #[(.int .i64 0), (Slc.v x0), (.int .i64 0)]) w := by intros; kernel_rfl
theorem bd_23_ii640_ii641_ii642 : ∀ (w : World) (x0 : Int) (x1 : Int) (x2 : Int), (Instr.build 23 #[(0, (.int .i64 x0)), (1, (.int .i64 x1)), (2, (.int .i64 x2))]).run PP w = .ok (.agg #[(.int .i64 x0), (.int .i64 x1), (.int .i64 x2)]) w := by intros; kernel_rfl
theorem bd_25 : ∀ (w : World), (Instr.build 25 #[]).run PP w = .ok (.agg #[(.int .i64 0), (.int .i64 0), (.int .i64 0), (.int .i64 0)]) w := by intros; kernel_rfl
theorem bd_25_ii64ii64ii640_ii641 : ∀ (w : World) (x0 : Int) (x1 : Int) (x2 : Int) (x3 : Int), (Instr.build 25 #[(0, (.agg #[(.int .i64 x0), (.int .i64 x1), (.int .i64 x2)])), (1, (.int .i64 x3))]).run PP w = .ok (.agg #[(.int .i64 x0), (.int .i64 x1), (.int .i64 x2), (.int .i64 x3)]) w := by intros; kernel_rfl
theorem bd_41 : ∀ (w : World), (Instr.build 41 #[]).run PP w = .ok (.agg #[(.int .i64 0), (.int .i64 0)]) w := by intros; kernel_rfl
theorem bd_45_ii640 : ∀ (w : World) (x0 : Int), (Instr.build 45 #[(0, (.int .i64 x0))]).run PP w = .ok (.agg #[(.int .i64 x0), (.string ⟨#[]⟩), (.int .i64 0), (.int .i64 0), (.bool false), (.bool false), (Slc.v Slc.nil)]) w := by intros; kernel_rfl
theorem bd_45_ii640_s1 : ∀ (w : World) (x0 : Int) (x1 : ByteArray), (Instr.build 45 #[(0, (.int .i64 x0)), (1, (.string x1))]).run PP w = .ok (.agg #[(.int .i64 x0), (.string x1), (.int .i64 0), (.int .i64 0), (.bool false), (.bool false), (Slc.v Slc.nil)]) w := by intros; kernel_rfl
theorem bd_68_s0 : ∀ (w : World) (x0 : Slc), (Instr.build 68 #[(0, (Slc.v x0))]).run PP w = .ok (.agg #[(Slc.v x0), (.int .i64 0)]) w := by intros; kernel_rfl
theorem bd_71_s0 : ∀ (w : World) (x0 : Slc), (Instr.build 71 #[(0, (Slc.v x0))]).run PP w = .ok (.agg #[(Slc.v x0), (.int .i64 0)]) w := by intros; kernel_rfl
theorem bd_78_s0_ii641_p2_s4 : ∀ (w : World) (x0 : Slc) (x1 : Int) (x2 : Option Addr) (x3 : Slc), (Instr.build 78 #[(0, (Slc.v x0)), (1, (.int .i64 x1)), (2, (.pointer x2)), (4, (Slc.v x3))]).run PP w = .ok (.agg #[(Slc.v x0), (.int .i64 x1), (.pointer x2), (Slc.v Slc.nil), (Slc.v x3)]) w := by intros; kernel_rfl
theorem body_10 : bodyB PP 10 = true := by kernel_rfl
theorem body_11 : bodyB PP 11 = true := by kernel_rfl
theorem body_12 : bodyB PP 12 = true := by kernel_rfl
theorem body_13 : bodyB PP 13 = true := by kernel_rfl
theorem body_14 : bodyB PP 14 = true := by kernel_rfl
theorem body_15 : bodyB PP 15 = true := by kernel_rfl
theorem body_16 : bodyB PP 16 = true := by kernel_rfl
theorem body_17 : bodyB PP 17 = true := by kernel_rfl
theorem body_18 : bodyB PP 18 = true := by kernel_rfl
theorem body_19 : bodyB PP 19 = true := by kernel_rfl
theorem body_20 : bodyB PP 20 = true := by kernel_rfl
theorem body_21 : bodyB PP 21 = true := by kernel_rfl
theorem body_22 : bodyB PP 22 = true := by kernel_rfl
theorem body_23 : bodyB PP 23 = true := by kernel_rfl
theorem body_24 : bodyB PP 24 = true := by kernel_rfl
theorem body_25 : bodyB PP 25 = true := by kernel_rfl
theorem body_26 : bodyB PP 26 = true := by kernel_rfl
theorem body_27 : bodyB PP 27 = true := by kernel_rfl
theorem body_28 : bodyB PP 28 = true := by kernel_rfl
theorem body_29 : bodyB PP 29 = true := by kernel_rfl
theorem body_30 : bodyB PP 30 = true := by kernel_rfl
theorem body_32 : bodyB PP 32 = true := by kernel_rfl
theorem body_34 : bodyB PP 34 = true := by kernel_rfl
theorem body_35 : bodyB PP 35 = true := by kernel_rfl
theorem body_36 : bodyB PP 36 = true := by kernel_rfl
theorem body_37 : bodyB PP 37 = true := by kernel_rfl
theorem body_38 : bodyB PP 38 = true := by kernel_rfl
theorem body_39 : bodyB PP 39 = true := by kernel_rfl
theorem body_40 : bodyB PP 40 = true := by kernel_rfl
theorem body_41 : bodyB PP 41 = true := by kernel_rfl
theorem body_42 : bodyB PP 42 = true := by kernel_rfl
theorem body_43 : bodyB PP 43 = true := by kernel_rfl
theorem body_44 : bodyB PP 44 = true := by kernel_rfl
theorem body_45 : bodyB PP 45 = true := by kernel_rfl
theorem body_46 : bodyB PP 46 = true := by kernel_rfl
theorem body_47 : bodyB PP 47 = true := by kernel_rfl
theorem body_48 : bodyB PP 48 = true := by kernel_rfl
theorem body_49 : bodyB PP 49 = true := by kernel_rfl
theorem body_50 : bodyB PP 50 = true := by kernel_rfl
theorem body_51 : bodyB PP 51 = true := by kernel_rfl
theorem body_52 : bodyB PP 52 = true := by kernel_rfl
theorem body_53 : bodyB PP 53 = true := by kernel_rfl
theorem body_54 : bodyB PP 54 = true := by kernel_rfl
theorem body_55 : bodyB PP 55 = true := by kernel_rfl
theorem body_57 : bodyB PP 57 = true := by kernel_rfl
theorem body_58 : bodyB PP 58 = true := by kernel_rfl
theorem body_59 : bodyB PP 59 = true := by kernel_rfl
theorem body_60 : bodyB PP 60 = true := by kernel_rfl
theorem body_61 : bodyB PP 61 = true := by kernel_rfl
theorem body_62 : bodyB PP 62 = true := by kernel_rfl
theorem body_63 : bodyB PP 63 = true := by kernel_rfl
theorem body_64 : bodyB PP 64 = true := by kernel_rfl
theorem body_65 : bodyB PP 65 = true := by kernel_rfl
theorem body_66 : bodyB PP 66 = true := by kernel_rfl
theorem body_67 : bodyB PP 67 = true := by kernel_rfl
theorem body_68 : bodyB PP 68 = true := by kernel_rfl
theorem body_69 : bodyB PP 69 = true := by kernel_rfl
theorem body_70 : bodyB PP 70 = true := by kernel_rfl
theorem body_71 : bodyB PP 71 = true := by kernel_rfl
theorem body_72 : bodyB PP 72 = true := by kernel_rfl
theorem body_73 : bodyB PP 73 = true := by kernel_rfl
theorem body_74 : bodyB PP 74 = true := by kernel_rfl
theorem body_75 : bodyB PP 75 = true := by kernel_rfl
theorem body_76 : bodyB PP 76 = true := by kernel_rfl
theorem body_77 : bodyB PP 77 = true := by kernel_rfl
theorem body_78 : bodyB PP 78 = true := by kernel_rfl
theorem body_79 : bodyB PP 79 = true := by kernel_rfl
theorem body_8 : bodyB PP 8 = true := by kernel_rfl
theorem body_80 : bodyB PP 80 = true := by kernel_rfl
theorem body_81 : bodyB PP 81 = true := by kernel_rfl
theorem body_82 : bodyB PP 82 = true := by kernel_rfl
theorem body_83 : bodyB PP 83 = true := by kernel_rfl
theorem body_84 : bodyB PP 84 = true := by kernel_rfl
theorem body_85 : bodyB PP 85 = true := by kernel_rfl
theorem body_86 : bodyB PP 86 = true := by kernel_rfl
theorem body_87 : bodyB PP 87 = true := by kernel_rfl
theorem body_88 : bodyB PP 88 = true := by kernel_rfl
theorem body_89 : bodyB PP 89 = true := by kernel_rfl
theorem body_9 : bodyB PP 9 = true := by kernel_rfl
theorem body_90 : bodyB PP 90 = true := by kernel_rfl
theorem body_91 : bodyB PP 91 = true := by kernel_rfl
theorem bool_4 : boolB PP 4 = true := by kernel_rfl
theorem bs_26_1_ii64sii64ii64bbs0 : ∀ (w : World) (x0 : Int) (x1 : ByteArray) (x2 : Int) (x3 : Int) (x4 : Bool) (x5 : Bool) (x6 : Slc), (Instr.buildSlice 26 1 #[(0, (.agg #[(.int .i64 x0), (.string x1), (.int .i64 x2), (.int .i64 x3), (.bool x4), (.bool x5), (Slc.v x6)]))]).run PP w = .ok (.slice (some ⟨w.heap.size, 0, none⟩) 1 1) (w.alloc (.cells #[(.int .i64 x0), (.string x1), (.int .i64 x2), (.int .i64 x3), (.bool x4), (.bool x5), (Slc.v x6)] 45)) := by intros; kernel_rfl
theorem bs_28_0 : ∀ (w : World), (Instr.buildSlice 28 0 #[]).run PP w = .ok (.slice (some ⟨w.heap.size, 0, none⟩) 0 0) (w.alloc (.cells #[] 5)) := by intros; kernel_rfl
theorem bs_28_1_iu80 : ∀ (w : World) (x0 : Int), (Instr.buildSlice 28 1 #[(0, (.int .u8 x0))]).run PP w = .ok (.slice (some ⟨w.heap.size, 0, none⟩) 1 1) (w.alloc (.cells #[(.int .u8 x0)] 5)) := by intros; kernel_rfl
theorem bs_28_4_iu80_iu81_iu82_iu83 : ∀ (w : World) (x0 : Int) (x1 : Int) (x2 : Int) (x3 : Int), (Instr.buildSlice 28 4 #[(0, (.int .u8 x0)), (1, (.int .u8 x1)), (2, (.int .u8 x2)), (3, (.int .u8 x3))]).run PP w = .ok (.slice (some ⟨w.heap.size, 0, none⟩) 4 4) (w.alloc (.cells #[(.int .u8 x0), (.int .u8 x1), (.int .u8 x2), (.int .u8 x3)] 5)) := by intros; kernel_rfl
theorem bs_37_1_s0 : ∀ (w : World) (x0 : Slc), (Instr.buildSlice 37 1 #[(0, (Slc.v x0))]).run PP w = .ok (.slice (some ⟨w.heap.size, 0, none⟩) 1 1) (w.alloc (.cells #[(Slc.v x0)] 28)) := by intros; kernel_rfl
theorem bs_37_2_s0_s1 : ∀ (w : World) (x0 : Slc) (x1 : Slc), (Instr.buildSlice 37 2 #[(0, (Slc.v x0)), (1, (Slc.v x1))]).run PP w = .ok (.slice (some ⟨w.heap.size, 0, none⟩) 2 2) (w.alloc (.cells #[(Slc.v x0), (Slc.v x1)] 28)) := by intros; kernel_rfl
theorem bs_50_1_ii640 : ∀ (w : World) (x0 : Int), (Instr.buildSlice 50 1 #[(0, (.int .i64 x0))]).run PP w = .ok (.slice (some ⟨w.heap.size, 0, none⟩) 1 1) (w.alloc (.cells #[(.int .i64 x0)] 3)) := by intros; kernel_rfl
theorem bs_50_4_ii640_ii641_ii642_ii643 : ∀ (w : World) (x0 : Int) (x1 : Int) (x2 : Int) (x3 : Int), (Instr.buildSlice 50 4 #[(0, (.int .i64 x0)), (1, (.int .i64 x1)), (2, (.int .i64 x2)), (3, (.int .i64 x3))]).run PP w = .ok (.slice (some ⟨w.heap.size, 0, none⟩) 4 4) (w.alloc (.cells #[(.int .i64 x0), (.int .i64 x1), (.int .i64 x2), (.int .i64 x3)] 3)) := by intros; kernel_rfl
theorem eqg_23 : PP.eqGuardType PP.depth 23 = false := by kernel_rfl
theorem eqg_25 : PP.eqGuardType PP.depth 25 = false := by kernel_rfl
theorem eqg_41 : PP.eqGuardType PP.depth 41 = false := by kernel_rfl
theorem fld_107_0 : fldB PP 107 0 0 = true := by kernel_rfl
theorem fld_109_0 : fldB PP 109 0 0 = true := by kernel_rfl
theorem fld_109_1 : fldB PP 109 1 1 = true := by kernel_rfl
theorem fld_117_0 : fldB PP 117 0 0 = true := by kernel_rfl
theorem fld_117_1 : fldB PP 117 1 1 = true := by kernel_rfl
theorem fld_121_0 : fldB PP 121 0 0 = true := by kernel_rfl
theorem fld_121_1 : fldB PP 121 1 1 = true := by kernel_rfl
theorem fld_121_2 : fldB PP 121 2 2 = true := by kernel_rfl
theorem fld_23_0 : fldB PP 23 0 0 = true := by kernel_rfl
theorem fld_23_1 : fldB PP 23 1 1 = true := by kernel_rfl
theorem fld_23_2 : fldB PP 23 2 2 = true := by kernel_rfl
theorem fld_25_0 : fldB PP 25 0 0 = true := by kernel_rfl
theorem fld_25_1 : fldB PP 25 1 3 = true := by kernel_rfl
theorem fld_41_0 : fldB PP 41 0 0 = true := by kernel_rfl
theorem fld_41_1 : fldB PP 41 1 1 = true := by kernel_rfl
theorem fld_43_0 : fldB PP 43 0 0 = true := by kernel_rfl
theorem fld_43_1 : fldB PP 43 1 2 = true := by kernel_rfl
theorem fld_43_2 : fldB PP 43 2 3 = true := by kernel_rfl
theorem fld_43_3 : fldB PP 43 3 4 = true := by kernel_rfl
theorem fld_45_0 : fldB PP 45 0 0 = true := by kernel_rfl
theorem fld_45_1 : fldB PP 45 1 1 = true := by kernel_rfl
theorem fld_45_2 : fldB PP 45 2 2 = true := by kernel_rfl
theorem fld_49_0 : fldB PP 49 0 0 = true := by kernel_rfl
theorem fld_49_1 : fldB PP 49 1 1 = true := by kernel_rfl
theorem fld_49_2 : fldB PP 49 2 2 = true := by kernel_rfl
theorem fld_49_3 : fldB PP 49 3 3 = true := by kernel_rfl
theorem fld_49_4 : fldB PP 49 4 4 = true := by kernel_rfl
theorem fld_68_0 : fldB PP 68 0 0 = true := by kernel_rfl
theorem fld_68_1 : fldB PP 68 1 1 = true := by kernel_rfl
theorem fld_71_0 : fldB PP 71 0 0 = true := by kernel_rfl
theorem fld_71_1 : fldB PP 71 1 1 = true := by kernel_rfl
theorem fld_78_0 : fldB PP 78 0 0 = true := by kernel_rfl
theorem fld_78_1 : fldB PP 78 1 1 = true := by kernel_rfl
theorem fld_78_2 : fldB PP 78 2 2 = true := by kernel_rfl
theorem fld_78_3 : fldB PP 78 3 3 = true := by kernel_rfl
theorem fld_78_4 : fldB PP 78 4 4 = true := by kernel_rfl
theorem int_2 : intB PP 2 .i64 = true := by kernel_rfl
theorem int_3 : intB PP 3 .i64 = true := by kernel_rfl
theorem int_5 : intB PP 5 .u8 = true := by kernel_rfl
theorem int_88 : intB PP 88 .u32 = true := by kernel_rfl
theorem mixed : PP.follows .mixedOrders = true := by kernel_rfl
theorem ni_29 : notIfaceB PP 29 = true := by kernel_rfl
theorem ni_9 : notIfaceB PP 9 = true := by kernel_rfl
theorem one_2 : oneB PP 2 = true := by kernel_rfl
theorem one_26 : oneB PP 26 = true := by kernel_rfl
theorem one_28 : oneB PP 28 = true := by kernel_rfl
theorem one_29 : oneB PP 29 = true := by kernel_rfl
theorem one_3 : oneB PP 3 = true := by kernel_rfl
theorem one_32 : oneB PP 32 = true := by kernel_rfl
theorem one_4 : oneB PP 4 = true := by kernel_rfl
theorem one_5 : oneB PP 5 = true := by kernel_rfl
theorem one_50 : oneB PP 50 = true := by kernel_rfl
theorem one_76 : oneB PP 76 = true := by kernel_rfl
theorem one_88 : oneB PP 88 = true := by kernel_rfl
theorem one_9 : oneB PP 9 = true := by kernel_rfl
theorem ptr_27 : ptrB PP 27 = true := by kernel_rfl
theorem ptr_32 : ptrB PP 32 = true := by kernel_rfl
theorem ptr_81 : ptrB PP 81 = true := by kernel_rfl
theorem ptr_97 : ptrB PP 97 = true := by kernel_rfl
theorem sl_26 : isSlcB PP 26 = true := by kernel_rfl
theorem sl_28 : isSlcB PP 28 = true := by kernel_rfl
theorem sl_37 : isSlcB PP 37 = true := by kernel_rfl
theorem sl_50 : isSlcB PP 50 = true := by kernel_rfl
theorem slc_26 : slcB PP 26 7 = true := by kernel_rfl
theorem slc_28 : slcB PP 28 1 = true := by kernel_rfl
theorem slc_37 : slcB PP 37 1 = true := by kernel_rfl
theorem slc_50 : slcB PP 50 1 = true := by kernel_rfl
theorem some_2 : someB PP 2 = true := by kernel_rfl
theorem some_3 : someB PP 3 = true := by kernel_rfl
theorem some_5 : someB PP 5 = true := by kernel_rfl
theorem some_88 : someB PP 88 = true := by kernel_rfl
theorem stood_23 : PP.stoodInHeld 23 = false := by kernel_rfl
theorem stood_25 : PP.stoodInHeld 25 = false := by kernel_rfl
theorem stood_41 : PP.stoodInHeld 41 = false := by kernel_rfl
theorem str_9 : strB PP 9 = true := by kernel_rfl
theorem zero_100 : zeroB PP 100 (.agg #[(.int .i64 0), (.int .i64 0), (.int .i64 0), (.int .i64 0)]) := by unfold zeroB; kernel_rfl
theorem zero_25 : zeroB PP 25 (.agg #[(.int .i64 0), (.int .i64 0), (.int .i64 0), (.int .i64 0)]) := by unfold zeroB; kernel_rfl
theorem zero_3 : zeroB PP 3 (.int .i64 0) := by unfold zeroB; kernel_rfl
theorem zero_43 : zeroB PP 43 (.agg #[(.int .i64 0), (.int .i64 0), (.bool false), (.bool false), (Slc.v Slc.nil)]) := by unfold zeroB; kernel_rfl
theorem zero_45 : zeroB PP 45 (.agg #[(.int .i64 0), (.string ⟨#[]⟩), (.int .i64 0), (.int .i64 0), (.bool false), (.bool false), (Slc.v Slc.nil)]) := by unfold zeroB; kernel_rfl
theorem zero_76 : zeroB PP 76 (.pointer none) := by unfold zeroB; kernel_rfl
abbrev Ty_int' : TypeId := 3
theorem und_int : PP.underlying 3 = some (.int .i64) := by kernel_rfl
abbrev Ty_string' : TypeId := 9
theorem und_string : PP.underlying 9 = some .string := by kernel_rfl
abbrev Ty_uint8' : TypeId := 5
theorem und_uint8 : PP.underlying 5 = some (.int .u8) := by kernel_rfl
theorem slT_sl_api_Update : SlT PP Ty_sl_api_Update Ty_api_Update 7 72 (.agg #[(.int .i64 0), (.string ⟨#[]⟩), (.int .i64 0), (.int .i64 0), (.bool false), (.bool false), (Slc.v Slc.nil)]) := ⟨by kernel_rfl, by kernel_rfl, rfl, by decide⟩
theorem slT_sl_uint8 : SlT PP Ty_sl_uint8 Ty_uint8 1 1 (.int .u8 0) := ⟨by kernel_rfl, by kernel_rfl, rfl, by decide⟩
theorem slT_sl_sl_uint8 : SlT PP Ty_sl_sl_uint8 Ty_sl_uint8 1 24 (Slc.v Slc.nil) := ⟨by kernel_rfl, by kernel_rfl, rfl, by decide⟩
theorem slT_sl_int : SlT PP Ty_sl_int Ty_int 1 8 (.int .i64 0) := ⟨by kernel_rfl, by kernel_rfl, rfl, by decide⟩
theorem eqst_23 (n : Nat) {x0 y0 : Int} {x1 y1 : Int} {x2 y2 : Int} : QE PP (n + 2) 23 (.agg #[(.int .i64 x0), (.int .i64 x1), (.int .i64 x2)]) (.agg #[(.int .i64 y0), (.int .i64 y1), (.int .i64 y2)]) (decide (x0 = y0) && (decide (x1 = y1) && (decide (x2 = y2)))) := q_struct Tryd.underlying23 stood_23 (qf_cons rfl (p_one one_3 rfl) (p_one one_3 rfl) (q_int int_3) (qf_cons rfl (p_one one_3 rfl) (p_one one_3 rfl) (q_int int_3) (qf_last rfl (p_one one_3 rfl) (p_one one_3 rfl) (q_int int_3))))
theorem eqst_25 (n : Nat) {x0 y0 : Int} {x1 y1 : Int} {x2 y2 : Int} {x3 y3 : Int} : QE PP (n + 3) 25 (.agg #[(.int .i64 x0), (.int .i64 x1), (.int .i64 x2), (.int .i64 x3)]) (.agg #[(.int .i64 y0), (.int .i64 y1), (.int .i64 y2), (.int .i64 y3)]) ((decide (x0 = y0) && (decide (x1 = y1) && (decide (x2 = y2)))) && (decide (x3 = y3))) := q_struct Tryd.underlying25 stood_25 (qf_cons rfl (p_agg (m := 3) agg_23 rfl) (p_agg (m := 3) agg_23 rfl) (eqst_23 _) (qf_last rfl (p_one one_3 rfl) (p_one one_3 rfl) (q_int int_3)))
theorem eqst_41 (n : Nat) {x0 y0 : Int} {x1 y1 : Int} : QE PP (n + 2) 41 (.agg #[(.int .i64 x0), (.int .i64 x1)]) (.agg #[(.int .i64 y0), (.int .i64 y1)]) (decide (x0 = y0) && (decide (x1 = y1))) := q_struct Tryd.underlying41 stood_41 (qf_cons rfl (p_one one_2 rfl) (p_one one_2 rfl) (q_int int_2) (qf_last rfl (p_one one_3 rfl) (p_one one_3 rfl) (q_int int_3)))
end Go.Proofs.YtnhgnfflihoaiaaDoor
