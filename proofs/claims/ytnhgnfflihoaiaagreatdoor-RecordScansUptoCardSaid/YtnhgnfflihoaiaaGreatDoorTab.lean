/-
  The numbers of this seat's functions and types, and closed facts of the program's tables.
-/
import Derived.Test.YtnhgnfflihoaiaaGreatDoorProg
import Derived.Test.YtnhgnfflihoaiaaGreatDoorAny
namespace Go.Proofs.YtnhgnfflihoaiaaGreatDoor
open Go Go.Vc
noncomputable abbrev PP : Program := Tryz.prog
abbrev F_pack_NewReader : FuncId := 75
abbrev F_pack_NewWriter : FuncId := 21
abbrev F_pack_Reader_At : FuncId := 81
abbrev F_pack_Reader_Bool : FuncId := 97
abbrev F_pack_Reader_Byte : FuncId := 76
abbrev F_pack_Reader_Bytes : FuncId := 98
abbrev F_pack_Reader_End : FuncId := 99
abbrev F_pack_Reader_Err : FuncId := 79
abbrev F_pack_Reader_Text : FuncId := 96
abbrev F_pack_Reader_Uint : FuncId := 77
abbrev F_pack_Reader_number : FuncId := 94
abbrev F_pack_Reader_stopped : FuncId := 93
abbrev F_pack_Writer_Bool : FuncId := 90
abbrev F_pack_Writer_Byte : FuncId := 22
abbrev F_pack_Writer_Bytes : FuncId := 63
abbrev F_pack_Writer_Data : FuncId := 24
abbrev F_pack_Writer_Text : FuncId := 89
abbrev F_pack_Writer_Uint : FuncId := 23
abbrev F_pack_Writer_put : FuncId := 35
abbrev F_pack_first_Err : FuncId := 95
abbrev F_pack_first_fail : FuncId := 36
abbrev F_pack_form : FuncId := 37
abbrev F_quorum_Check : FuncId := 20
abbrev F_record_New : FuncId := 4
abbrev F_record_Scan : FuncId := 30
abbrev F_record_Scan_c1 : FuncId := 51
abbrev F_record_Scan_c2 : FuncId := 53
abbrev F_record_Writer_Count : FuncId := 18
abbrev F_record_Writer_Put : FuncId := 34
abbrev F_record_body : FuncId := 64
abbrev F_record_caught : FuncId := 50
abbrev F_record_caught_c1 : FuncId := 74
abbrev F_record_four : FuncId := 26
abbrev F_record_headOf : FuncId := 7
abbrev F_record_may : FuncId := 62
abbrev F_record_mayHead : FuncId := 6
abbrev F_record_must : FuncId := 78
abbrev F_record_readBody : FuncId := 82
abbrev F_record_readHead : FuncId := 52
abbrev F_record_scanner_next : FuncId := 54
abbrev F_sherdlaw11_RecordScans : FuncId := 3
abbrev F_sherdlaw11_apart : FuncId := 14
abbrev F_sherdlaw11_ask : FuncId := 11
abbrev F_sherdlaw11_bytes : FuncId := 15
abbrev F_sherdlaw11_equal : FuncId := 55
abbrev F_sherdlaw11_ints : FuncId := 32
abbrev F_sherdlaw11_lent : FuncId := 9
abbrev F_sherdlaw11_marked : FuncId := 16
abbrev F_sherdlaw11_putting : FuncId := 17
abbrev F_sherdlaw11_right : FuncId := 12
abbrev F_sherdlaw11_same : FuncId := 13
abbrev F_sherdlaw11_scanned : FuncId := 5
abbrev F_sherdlaw11_updates : FuncId := 31
abbrev F_sherdref06_Of : FuncId := 69
abbrev F_sherdref06_bitwise : FuncId := 92
abbrev F_sherdref07_Form : FuncId := 91
abbrev F_sherdref07_NewReader : FuncId := 40
abbrev F_sherdref07_NewWriter : FuncId := 57
abbrev F_sherdref07_Reader_At : FuncId := 47
abbrev F_sherdref07_Reader_Bool : FuncId := 71
abbrev F_sherdref07_Reader_Byte : FuncId := 41
abbrev F_sherdref07_Reader_Bytes : FuncId := 72
abbrev F_sherdref07_Reader_End : FuncId := 73
abbrev F_sherdref07_Reader_Err : FuncId := 43
abbrev F_sherdref07_Reader_Text : FuncId := 70
abbrev F_sherdref07_Reader_Uint : FuncId := 42
abbrev F_sherdref07_Writer_Bool : FuncId := 86
abbrev F_sherdref07_Writer_Byte : FuncId := 58
abbrev F_sherdref07_Writer_Bytes : FuncId := 59
abbrev F_sherdref07_Writer_Data : FuncId := 61
abbrev F_sherdref07_Writer_Text : FuncId := 85
abbrev F_sherdref07_Writer_Uint : FuncId := 67
abbrev F_sherdref07_Writer_put : FuncId := 84
abbrev F_sherdref07_number : FuncId := 65
abbrev F_sherdref08_Valid : FuncId := 83
abbrev F_sherdref08_Zero : FuncId := 100
abbrev F_sherdref08_proper : FuncId := 101
abbrev F_sherdref09_Check : FuncId := 66
abbrev F_sherdref11_CheckHead : FuncId := 44
abbrev F_sherdref11_CheckUpdate : FuncId := 56
abbrev F_sherdref11_Scan : FuncId := 10
abbrev F_sherdref11_Summed : FuncId := 48
abbrev F_sherdref11_Writer_Count : FuncId := 19
abbrev F_sherdref11_Writer_Put : FuncId := 33
abbrev F_sherdref11_body : FuncId := 60
abbrev F_sherdref11_equal : FuncId := 46
abbrev F_sherdref11_four : FuncId := 68
abbrev F_sherdref11_head : FuncId := 28
abbrev F_sherdref11_headBytes : FuncId := 45
abbrev F_sherdref11_next : FuncId := 29
abbrev F_sherdref11_update : FuncId := 49
abbrev F_slices_Clone : FuncId := 8
abbrev F_slices_Concat : FuncId := 25
abbrev F_slices_Equal : FuncId := 80
abbrev F_slices_Grow : FuncId := 38
abbrev F_sum_Of : FuncId := 27
abbrev F_sum_step : FuncId := 39
abbrev F_tag_Valid : FuncId := 88
abbrev F_tag_Zero : FuncId := 87
abbrev F_tag_proper : FuncId := 102
abbrev G_sum_steps : Nat := 0
abbrev Ty_16_uint32 : TypeId := 114
abbrev Ty_4_int : TypeId := 125
abbrev Ty_api_Config : TypeId := 34
abbrev Ty_api_Entry : TypeId := 26
abbrev Ty_api_Errno : TypeId := 30
abbrev Ty_api_Head : TypeId := 36
abbrev Ty_api_Tag : TypeId := 24
abbrev Ty_api_Update : TypeId := 28
abbrev Ty_bool : TypeId := 4
abbrev Ty_int : TypeId := 3
abbrev Ty_int64 : TypeId := 2
abbrev Ty_p_record_scanner : TypeId := 104
abbrev Ty_pack_Reader : TypeId := 135
abbrev Ty_pack_Writer : TypeId := 86
abbrev Ty_record_Writer : TypeId := 42
abbrev Ty_record_scanner : TypeId := 106
abbrev Ty_sherdlaw11_answer : TypeId := 49
abbrev Ty_sherdref07_Reader : TypeId := 116
abbrev Ty_sherdref07_Writer : TypeId := 130
abbrev Ty_sherdref11_Writer : TypeId := 74
abbrev Ty_sl_api_Update : TypeId := 43
abbrev Ty_sl_int : TypeId := 44
abbrev Ty_sl_sl_uint8 : TypeId := 55
abbrev Ty_sl_uint8 : TypeId := 22
abbrev Ty_string : TypeId := 9
abbrev Ty_uint32 : TypeId := 69
abbrev Ty_uint8 : TypeId := 5
set_option maxRecDepth 100000
theorem agg_24 : aggB PP 24 2 = true := by kernel_rfl
theorem agg_26 : aggB PP 26 5 = true := by kernel_rfl
theorem agg_28 : aggB PP 28 7 = true := by kernel_rfl
theorem agg_34 : aggB PP 34 3 = true := by kernel_rfl
theorem agg_36 : aggB PP 36 4 = true := by kernel_rfl
theorem agg_49 : aggB PP 49 9 = true := by kernel_rfl
theorem arr_114 : arrB PP 114 16 1 = true := by kernel_rfl
theorem arr_125 : arrB PP 125 4 1 = true := by kernel_rfl
theorem bd_106_s0_ii641_p2_s4 : ∀ (w : World) (x0 : Slc) (x1 : Int) (x2 : Option Addr) (x3 : Slc), (Instr.build 106 #[(0, (Slc.v x0)), (1, (.int .i64 x1)), (2, (.pointer x2)), (4, (Slc.v x3))]).run PP w = .ok (.agg #[(Slc.v x0), (.int .i64 x1), (.pointer x2), (Slc.v Slc.nil), (Slc.v x3)]) w := by intros; kernel_rfl
theorem bd_116_s0 : ∀ (w : World) (x0 : Slc), (Instr.build 116 #[(0, (Slc.v x0))]).run PP w = .ok (.agg #[(Slc.v x0), (.int .i64 0), (.int .i64 0)]) w := by intros; kernel_rfl
theorem bd_130 : ∀ (w : World), (Instr.build 130 #[]).run PP w = .ok (.agg #[(Slc.v Slc.nil), (.int .i64 0)]) w := by intros; kernel_rfl
theorem bd_135_s1 : ∀ (w : World) (x0 : Slc), (Instr.build 135 #[(1, (Slc.v x0))]).run PP w = .ok (.agg #[(.int .i64 0), (Slc.v x0), (.int .i64 0)]) w := by intros; kernel_rfl
theorem bd_24 : ∀ (w : World), (Instr.build 24 #[]).run PP w = .ok (.agg #[(.int .i64 0), (.int .i64 0)]) w := by intros; kernel_rfl
theorem bd_28 : ∀ (w : World), (Instr.build 28 #[]).run PP w = .ok (.agg #[(.int .i64 0), (.string ⟨#[]⟩), (.int .i64 0), (.int .i64 0), (.bool false), (.bool false), (Slc.v Slc.nil)]) w := by intros; kernel_rfl
theorem bd_28_ii640 : ∀ (w : World) (x0 : Int), (Instr.build 28 #[(0, (.int .i64 x0))]).run PP w = .ok (.agg #[(.int .i64 x0), (.string ⟨#[]⟩), (.int .i64 0), (.int .i64 0), (.bool false), (.bool false), (Slc.v Slc.nil)]) w := by intros; kernel_rfl
theorem bd_28_ii640_s1 : ∀ (w : World) (x0 : Int) (x1 : ByteArray), (Instr.build 28 #[(0, (.int .i64 x0)), (1, (.string x1))]).run PP w = .ok (.agg #[(.int .i64 x0), (.string x1), (.int .i64 0), (.int .i64 0), (.bool false), (.bool false), (Slc.v Slc.nil)]) w := by intros; kernel_rfl
theorem bd_34_ii640_ii641 : ∀ (w : World) (x0 : Int) (x1 : Int), (Instr.build 34 #[(0, (.int .i64 x0)), (1, (.int .i64 x1))]).run PP w = .ok (.agg #[(.int .i64 x0), (.int .i64 x1), (.int .i64 0)]) w := by intros; kernel_rfl
theorem bd_34_ii640_ii641_ii642 : ∀ (w : World) (x0 : Int) (x1 : Int) (x2 : Int), (Instr.build 34 #[(0, (.int .i64 x0)), (1, (.int .i64 x1)), (2, (.int .i64 x2))]).run PP w = .ok (.agg #[(.int .i64 x0), (.int .i64 x1), (.int .i64 x2)]) w := by intros; kernel_rfl
theorem bd_36 : ∀ (w : World), (Instr.build 36 #[]).run PP w = .ok (.agg #[(.int .i64 0), (.int .i64 0), (.int .i64 0), (.int .i64 0)]) w := by intros; kernel_rfl
theorem bd_36_ii64ii64ii640_ii641 : ∀ (w : World) (x0 : Int) (x1 : Int) (x2 : Int) (x3 : Int), (Instr.build 36 #[(0, (.agg #[(.int .i64 x0), (.int .i64 x1), (.int .i64 x2)])), (1, (.int .i64 x3))]).run PP w = .ok (.agg #[(.int .i64 x0), (.int .i64 x1), (.int .i64 x2), (.int .i64 x3)]) w := by intros; kernel_rfl
theorem bd_42_s0 : ∀ (w : World) (x0 : Slc), (Instr.build 42 #[(0, (Slc.v x0))]).run PP w = .ok (.agg #[(Slc.v x0), (.int .i64 0)]) w := by intros; kernel_rfl
theorem bd_74_s0 : ∀ (w : World) (x0 : Slc), (Instr.build 74 #[(0, (Slc.v x0))]).run PP w = .ok (.agg #[(Slc.v x0), (.int .i64 0)]) w := by intros; kernel_rfl
theorem bd_86 : ∀ (w : World), (Instr.build 86 #[]).run PP w = .ok (.agg #[(.int .i64 0), (Slc.v Slc.nil)]) w := by intros; kernel_rfl
theorem body_10 : bodyB PP 10 = true := by kernel_rfl
theorem body_100 : bodyB PP 100 = true := by kernel_rfl
theorem body_101 : bodyB PP 101 = true := by kernel_rfl
theorem body_102 : bodyB PP 102 = true := by kernel_rfl
theorem body_11 : bodyB PP 11 = true := by kernel_rfl
theorem body_12 : bodyB PP 12 = true := by kernel_rfl
theorem body_13 : bodyB PP 13 = true := by kernel_rfl
theorem body_14 : bodyB PP 14 = true := by kernel_rfl
theorem body_15 : bodyB PP 15 = true := by kernel_rfl
theorem body_16 : bodyB PP 16 = true := by kernel_rfl
theorem body_17 : bodyB PP 17 = true := by kernel_rfl
theorem body_18 : bodyB PP 18 = true := by kernel_rfl
theorem body_19 : bodyB PP 19 = true := by kernel_rfl
theorem body_20 : bodyB PP 20 = true := by kernel_rfl
theorem body_21 : bodyB PP 21 = true := by kernel_rfl
theorem body_22 : bodyB PP 22 = true := by kernel_rfl
theorem body_23 : bodyB PP 23 = true := by kernel_rfl
theorem body_24 : bodyB PP 24 = true := by kernel_rfl
theorem body_25 : bodyB PP 25 = true := by kernel_rfl
theorem body_26 : bodyB PP 26 = true := by kernel_rfl
theorem body_27 : bodyB PP 27 = true := by kernel_rfl
theorem body_28 : bodyB PP 28 = true := by kernel_rfl
theorem body_29 : bodyB PP 29 = true := by kernel_rfl
theorem body_30 : bodyB PP 30 = true := by kernel_rfl
theorem body_31 : bodyB PP 31 = true := by kernel_rfl
theorem body_32 : bodyB PP 32 = true := by kernel_rfl
theorem body_33 : bodyB PP 33 = true := by kernel_rfl
theorem body_34 : bodyB PP 34 = true := by kernel_rfl
theorem body_35 : bodyB PP 35 = true := by kernel_rfl
theorem body_36 : bodyB PP 36 = true := by kernel_rfl
theorem body_37 : bodyB PP 37 = true := by kernel_rfl
theorem body_38 : bodyB PP 38 = true := by kernel_rfl
theorem body_39 : bodyB PP 39 = true := by kernel_rfl
theorem body_4 : bodyB PP 4 = true := by kernel_rfl
theorem body_40 : bodyB PP 40 = true := by kernel_rfl
theorem body_41 : bodyB PP 41 = true := by kernel_rfl
theorem body_42 : bodyB PP 42 = true := by kernel_rfl
theorem body_43 : bodyB PP 43 = true := by kernel_rfl
theorem body_44 : bodyB PP 44 = true := by kernel_rfl
theorem body_45 : bodyB PP 45 = true := by kernel_rfl
theorem body_46 : bodyB PP 46 = true := by kernel_rfl
theorem body_47 : bodyB PP 47 = true := by kernel_rfl
theorem body_48 : bodyB PP 48 = true := by kernel_rfl
theorem body_49 : bodyB PP 49 = true := by kernel_rfl
theorem body_5 : bodyB PP 5 = true := by kernel_rfl
theorem body_50 : bodyB PP 50 = true := by kernel_rfl
theorem body_52 : bodyB PP 52 = true := by kernel_rfl
theorem body_54 : bodyB PP 54 = true := by kernel_rfl
theorem body_55 : bodyB PP 55 = true := by kernel_rfl
theorem body_56 : bodyB PP 56 = true := by kernel_rfl
theorem body_57 : bodyB PP 57 = true := by kernel_rfl
theorem body_58 : bodyB PP 58 = true := by kernel_rfl
theorem body_59 : bodyB PP 59 = true := by kernel_rfl
theorem body_6 : bodyB PP 6 = true := by kernel_rfl
theorem body_60 : bodyB PP 60 = true := by kernel_rfl
theorem body_61 : bodyB PP 61 = true := by kernel_rfl
theorem body_62 : bodyB PP 62 = true := by kernel_rfl
theorem body_63 : bodyB PP 63 = true := by kernel_rfl
theorem body_64 : bodyB PP 64 = true := by kernel_rfl
theorem body_65 : bodyB PP 65 = true := by kernel_rfl
theorem body_66 : bodyB PP 66 = true := by kernel_rfl
theorem body_67 : bodyB PP 67 = true := by kernel_rfl
theorem body_68 : bodyB PP 68 = true := by kernel_rfl
theorem body_69 : bodyB PP 69 = true := by kernel_rfl
theorem body_7 : bodyB PP 7 = true := by kernel_rfl
theorem body_70 : bodyB PP 70 = true := by kernel_rfl
theorem body_71 : bodyB PP 71 = true := by kernel_rfl
theorem body_72 : bodyB PP 72 = true := by kernel_rfl
theorem body_73 : bodyB PP 73 = true := by kernel_rfl
theorem body_75 : bodyB PP 75 = true := by kernel_rfl
theorem body_76 : bodyB PP 76 = true := by kernel_rfl
theorem body_77 : bodyB PP 77 = true := by kernel_rfl
theorem body_78 : bodyB PP 78 = true := by kernel_rfl
theorem body_79 : bodyB PP 79 = true := by kernel_rfl
theorem body_8 : bodyB PP 8 = true := by kernel_rfl
theorem body_80 : bodyB PP 80 = true := by kernel_rfl
theorem body_81 : bodyB PP 81 = true := by kernel_rfl
theorem body_82 : bodyB PP 82 = true := by kernel_rfl
theorem body_83 : bodyB PP 83 = true := by kernel_rfl
theorem body_84 : bodyB PP 84 = true := by kernel_rfl
theorem body_85 : bodyB PP 85 = true := by kernel_rfl
theorem body_86 : bodyB PP 86 = true := by kernel_rfl
theorem body_87 : bodyB PP 87 = true := by kernel_rfl
theorem body_88 : bodyB PP 88 = true := by kernel_rfl
theorem body_89 : bodyB PP 89 = true := by kernel_rfl
theorem body_9 : bodyB PP 9 = true := by kernel_rfl
theorem body_90 : bodyB PP 90 = true := by kernel_rfl
theorem body_91 : bodyB PP 91 = true := by kernel_rfl
theorem body_92 : bodyB PP 92 = true := by kernel_rfl
theorem body_93 : bodyB PP 93 = true := by kernel_rfl
theorem body_94 : bodyB PP 94 = true := by kernel_rfl
theorem body_95 : bodyB PP 95 = true := by kernel_rfl
theorem body_96 : bodyB PP 96 = true := by kernel_rfl
theorem body_97 : bodyB PP 97 = true := by kernel_rfl
theorem body_98 : bodyB PP 98 = true := by kernel_rfl
theorem body_99 : bodyB PP 99 = true := by kernel_rfl
theorem bool_4 : boolB PP 4 = true := by kernel_rfl
theorem bs_22_0 : ∀ (w : World), (Instr.buildSlice 22 0 #[]).run PP w = .ok (.slice (some ⟨w.heap.size, 0, none⟩) 0 0) (w.alloc (.cells #[] 5)) := by intros; kernel_rfl
theorem bs_22_1_iu80 : ∀ (w : World) (x0 : Int), (Instr.buildSlice 22 1 #[(0, (.int .u8 x0))]).run PP w = .ok (.slice (some ⟨w.heap.size, 0, none⟩) 1 1) (w.alloc (.cells #[(.int .u8 x0)] 5)) := by intros; kernel_rfl
theorem bs_22_4_iu80_iu81_iu82_iu83 : ∀ (w : World) (x0 : Int) (x1 : Int) (x2 : Int) (x3 : Int), (Instr.buildSlice 22 4 #[(0, (.int .u8 x0)), (1, (.int .u8 x1)), (2, (.int .u8 x2)), (3, (.int .u8 x3))]).run PP w = .ok (.slice (some ⟨w.heap.size, 0, none⟩) 4 4) (w.alloc (.cells #[(.int .u8 x0), (.int .u8 x1), (.int .u8 x2), (.int .u8 x3)] 5)) := by intros; kernel_rfl
theorem bs_43_1_ii64sii64ii64bbs0 : ∀ (w : World) (x0 : Int) (x1 : ByteArray) (x2 : Int) (x3 : Int) (x4 : Bool) (x5 : Bool) (x6 : Slc), (Instr.buildSlice 43 1 #[(0, (.agg #[(.int .i64 x0), (.string x1), (.int .i64 x2), (.int .i64 x3), (.bool x4), (.bool x5), (Slc.v x6)]))]).run PP w = .ok (.slice (some ⟨w.heap.size, 0, none⟩) 1 1) (w.alloc (.cells #[(.int .i64 x0), (.string x1), (.int .i64 x2), (.int .i64 x3), (.bool x4), (.bool x5), (Slc.v x6)] 28)) := by intros; kernel_rfl
theorem bs_44_1_ii640 : ∀ (w : World) (x0 : Int), (Instr.buildSlice 44 1 #[(0, (.int .i64 x0))]).run PP w = .ok (.slice (some ⟨w.heap.size, 0, none⟩) 1 1) (w.alloc (.cells #[(.int .i64 x0)] 3)) := by intros; kernel_rfl
theorem bs_44_4_ii640_ii641_ii642_ii643 : ∀ (w : World) (x0 : Int) (x1 : Int) (x2 : Int) (x3 : Int), (Instr.buildSlice 44 4 #[(0, (.int .i64 x0)), (1, (.int .i64 x1)), (2, (.int .i64 x2)), (3, (.int .i64 x3))]).run PP w = .ok (.slice (some ⟨w.heap.size, 0, none⟩) 4 4) (w.alloc (.cells #[(.int .i64 x0), (.int .i64 x1), (.int .i64 x2), (.int .i64 x3)] 3)) := by intros; kernel_rfl
theorem bs_51_3_ii64ii64ii64ii64ssii64pii640_ii64ii64ii64i_811187 : ∀ (w : World) (x0 : Int) (x1 : Int) (x2 : Int) (x3 : Int) (x4 : Slc) (x5 : Slc) (x6 : Int) (x7 : Option Addr) (x8 : Int) (x9 : Int) (x10 : Int) (x11 : Int) (x12 : Int) (x13 : Slc) (x14 : Slc) (x15 : Int) (x16 : Option Addr) (x17 : Int) (x18 : Int) (x19 : Int) (x20 : Int) (x21 : Int) (x22 : Slc) (x23 : Slc) (x24 : Int) (x25 : Option Addr) (x26 : Int), (Instr.buildSlice 51 3 #[(0, (.agg #[(.int .i64 x0), (.int .i64 x1), (.int .i64 x2), (.int .i64 x3), (Slc.v x4), (Slc.v x5), (.int .i64 x6), (.pointer x7), (.int .i64 x8)])), (1, (.agg #[(.int .i64 x9), (.int .i64 x10), (.int .i64 x11), (.int .i64 x12), (Slc.v x13), (Slc.v x14), (.int .i64 x15), (.pointer x16), (.int .i64 x17)])), (2, (.agg #[(.int .i64 x18), (.int .i64 x19), (.int .i64 x20), (.int .i64 x21), (Slc.v x22), (Slc.v x23), (.int .i64 x24), (.pointer x25), (.int .i64 x26)]))]).run PP w = .ok (.slice (some ⟨w.heap.size, 0, none⟩) 3 3) (w.alloc (.cells #[(.int .i64 x0), (.int .i64 x1), (.int .i64 x2), (.int .i64 x3), (Slc.v x4), (Slc.v x5), (.int .i64 x6), (.pointer x7), (.int .i64 x8), (.int .i64 x9), (.int .i64 x10), (.int .i64 x11), (.int .i64 x12), (Slc.v x13), (Slc.v x14), (.int .i64 x15), (.pointer x16), (.int .i64 x17), (.int .i64 x18), (.int .i64 x19), (.int .i64 x20), (.int .i64 x21), (Slc.v x22), (Slc.v x23), (.int .i64 x24), (.pointer x25), (.int .i64 x26)] 49)) := by intros; kernel_rfl
theorem bs_55_1_s0 : ∀ (w : World) (x0 : Slc), (Instr.buildSlice 55 1 #[(0, (Slc.v x0))]).run PP w = .ok (.slice (some ⟨w.heap.size, 0, none⟩) 1 1) (w.alloc (.cells #[(Slc.v x0)] 22)) := by intros; kernel_rfl
theorem bs_55_2_s0_s1 : ∀ (w : World) (x0 : Slc) (x1 : Slc), (Instr.buildSlice 55 2 #[(0, (Slc.v x0)), (1, (Slc.v x1))]).run PP w = .ok (.slice (some ⟨w.heap.size, 0, none⟩) 2 2) (w.alloc (.cells #[(Slc.v x0), (Slc.v x1)] 22)) := by intros; kernel_rfl
theorem eqg_24 : PP.eqGuardType PP.depth 24 = false := by kernel_rfl
theorem eqg_36 : PP.eqGuardType PP.depth 36 = false := by kernel_rfl
theorem fld_106_0 : fldB PP 106 0 0 = true := by kernel_rfl
theorem fld_106_1 : fldB PP 106 1 1 = true := by kernel_rfl
theorem fld_106_2 : fldB PP 106 2 2 = true := by kernel_rfl
theorem fld_106_3 : fldB PP 106 3 3 = true := by kernel_rfl
theorem fld_106_4 : fldB PP 106 4 4 = true := by kernel_rfl
theorem fld_116_0 : fldB PP 116 0 0 = true := by kernel_rfl
theorem fld_116_1 : fldB PP 116 1 1 = true := by kernel_rfl
theorem fld_116_2 : fldB PP 116 2 2 = true := by kernel_rfl
theorem fld_130_0 : fldB PP 130 0 0 = true := by kernel_rfl
theorem fld_130_1 : fldB PP 130 1 1 = true := by kernel_rfl
theorem fld_135_0 : fldB PP 135 0 0 = true := by kernel_rfl
theorem fld_135_1 : fldB PP 135 1 1 = true := by kernel_rfl
theorem fld_135_2 : fldB PP 135 2 2 = true := by kernel_rfl
theorem fld_24_0 : fldB PP 24 0 0 = true := by kernel_rfl
theorem fld_24_1 : fldB PP 24 1 1 = true := by kernel_rfl
theorem fld_26_0 : fldB PP 26 0 0 = true := by kernel_rfl
theorem fld_26_1 : fldB PP 26 1 2 = true := by kernel_rfl
theorem fld_26_2 : fldB PP 26 2 3 = true := by kernel_rfl
theorem fld_26_3 : fldB PP 26 3 4 = true := by kernel_rfl
theorem fld_28_0 : fldB PP 28 0 0 = true := by kernel_rfl
theorem fld_28_1 : fldB PP 28 1 1 = true := by kernel_rfl
theorem fld_28_2 : fldB PP 28 2 2 = true := by kernel_rfl
theorem fld_34_0 : fldB PP 34 0 0 = true := by kernel_rfl
theorem fld_34_1 : fldB PP 34 1 1 = true := by kernel_rfl
theorem fld_34_2 : fldB PP 34 2 2 = true := by kernel_rfl
theorem fld_36_0 : fldB PP 36 0 0 = true := by kernel_rfl
theorem fld_36_1 : fldB PP 36 1 3 = true := by kernel_rfl
theorem fld_42_0 : fldB PP 42 0 0 = true := by kernel_rfl
theorem fld_42_1 : fldB PP 42 1 1 = true := by kernel_rfl
theorem fld_49_0 : fldB PP 49 0 0 = true := by kernel_rfl
theorem fld_49_1 : fldB PP 49 1 4 = true := by kernel_rfl
theorem fld_49_2 : fldB PP 49 2 5 = true := by kernel_rfl
theorem fld_49_3 : fldB PP 49 3 6 = true := by kernel_rfl
theorem fld_49_4 : fldB PP 49 4 7 = true := by kernel_rfl
theorem fld_49_5 : fldB PP 49 5 8 = true := by kernel_rfl
theorem fld_74_0 : fldB PP 74 0 0 = true := by kernel_rfl
theorem fld_74_1 : fldB PP 74 1 1 = true := by kernel_rfl
theorem fld_84_0 : fldB PP 84 0 0 = true := by kernel_rfl
theorem fld_86_0 : fldB PP 86 0 0 = true := by kernel_rfl
theorem fld_86_1 : fldB PP 86 1 1 = true := by kernel_rfl
theorem int_2 : intB PP 2 .i64 = true := by kernel_rfl
theorem int_3 : intB PP 3 .i64 = true := by kernel_rfl
theorem int_5 : intB PP 5 .u8 = true := by kernel_rfl
theorem int_69 : intB PP 69 .u32 = true := by kernel_rfl
theorem mixed : PP.follows .mixedOrders = true := by kernel_rfl
theorem ni_30 : notIfaceB PP 30 = true := by kernel_rfl
theorem ni_9 : notIfaceB PP 9 = true := by kernel_rfl
theorem one_104 : oneB PP 104 = true := by kernel_rfl
theorem one_2 : oneB PP 2 = true := by kernel_rfl
theorem one_22 : oneB PP 22 = true := by kernel_rfl
theorem one_29 : oneB PP 29 = true := by kernel_rfl
theorem one_3 : oneB PP 3 = true := by kernel_rfl
theorem one_30 : oneB PP 30 = true := by kernel_rfl
theorem one_4 : oneB PP 4 = true := by kernel_rfl
theorem one_43 : oneB PP 43 = true := by kernel_rfl
theorem one_44 : oneB PP 44 = true := by kernel_rfl
theorem one_5 : oneB PP 5 = true := by kernel_rfl
theorem one_69 : oneB PP 69 = true := by kernel_rfl
theorem one_9 : oneB PP 9 = true := by kernel_rfl
theorem ptr_123 : ptrB PP 123 = true := by kernel_rfl
theorem ptr_29 : ptrB PP 29 = true := by kernel_rfl
theorem ptr_45 : ptrB PP 45 = true := by kernel_rfl
theorem ptr_62 : ptrB PP 62 = true := by kernel_rfl
theorem sl_22 : isSlcB PP 22 = true := by kernel_rfl
theorem sl_43 : isSlcB PP 43 = true := by kernel_rfl
theorem sl_44 : isSlcB PP 44 = true := by kernel_rfl
theorem sl_51 : isSlcB PP 51 = true := by kernel_rfl
theorem sl_55 : isSlcB PP 55 = true := by kernel_rfl
theorem slc_22 : slcB PP 22 1 = true := by kernel_rfl
theorem slc_43 : slcB PP 43 7 = true := by kernel_rfl
theorem slc_44 : slcB PP 44 1 = true := by kernel_rfl
theorem slc_51 : slcB PP 51 9 = true := by kernel_rfl
theorem slc_55 : slcB PP 55 1 = true := by kernel_rfl
theorem some_2 : someB PP 2 = true := by kernel_rfl
theorem some_3 : someB PP 3 = true := by kernel_rfl
theorem some_5 : someB PP 5 = true := by kernel_rfl
theorem some_69 : someB PP 69 = true := by kernel_rfl
theorem stood_24 : PP.stoodInHeld 24 = false := by kernel_rfl
theorem stood_34 : PP.stoodInHeld 34 = false := by kernel_rfl
theorem stood_36 : PP.stoodInHeld 36 = false := by kernel_rfl
theorem str_9 : strB PP 9 = true := by kernel_rfl
theorem zero_104 : zeroB PP 104 (.pointer none) := by unfold zeroB; kernel_rfl
theorem zero_125 : zeroB PP 125 (.agg #[(.int .i64 0), (.int .i64 0), (.int .i64 0), (.int .i64 0)]) := by unfold zeroB; kernel_rfl
theorem zero_26 : zeroB PP 26 (.agg #[(.int .i64 0), (.int .i64 0), (.bool false), (.bool false), (Slc.v Slc.nil)]) := by unfold zeroB; kernel_rfl
theorem zero_28 : zeroB PP 28 (.agg #[(.int .i64 0), (.string ⟨#[]⟩), (.int .i64 0), (.int .i64 0), (.bool false), (.bool false), (Slc.v Slc.nil)]) := by unfold zeroB; kernel_rfl
theorem zero_3 : zeroB PP 3 (.int .i64 0) := by unfold zeroB; kernel_rfl
theorem zero_36 : zeroB PP 36 (.agg #[(.int .i64 0), (.int .i64 0), (.int .i64 0), (.int .i64 0)]) := by unfold zeroB; kernel_rfl
theorem zero_49 : zeroB PP 49 (.agg #[(.int .i64 0), (.int .i64 0), (.int .i64 0), (.int .i64 0), (Slc.v Slc.nil), (Slc.v Slc.nil), (.int .i64 0), (.pointer none), (.int .i64 0)]) := by unfold zeroB; kernel_rfl
theorem und_int : PP.underlying 3 = some (.int .i64) := by kernel_rfl
theorem und_string : PP.underlying 9 = some .string := by kernel_rfl
theorem und_uint8 : PP.underlying 5 = some (.int .u8) := by kernel_rfl
theorem slT_sl_uint8 : SlT PP Ty_sl_uint8 Ty_uint8 1 1 (.int .u8 0) := ⟨by kernel_rfl, by kernel_rfl, rfl, by decide⟩
theorem slT_sl_api_Update : SlT PP Ty_sl_api_Update Ty_api_Update 7 72 (.agg #[(.int .i64 0), (.string ⟨#[]⟩), (.int .i64 0), (.int .i64 0), (.bool false), (.bool false), (Slc.v Slc.nil)]) := ⟨by kernel_rfl, by kernel_rfl, rfl, by decide⟩
theorem slT_sl_int : SlT PP Ty_sl_int Ty_int 1 8 (.int .i64 0) := ⟨by kernel_rfl, by kernel_rfl, rfl, by decide⟩
theorem slT_sl_sl_uint8 : SlT PP Ty_sl_sl_uint8 Ty_sl_uint8 1 24 (Slc.v Slc.nil) := ⟨by kernel_rfl, by kernel_rfl, rfl, by decide⟩
theorem eqst_24 (n : Nat) {x0 y0 : Int} {x1 y1 : Int} : QE PP (n + 2) 24 (.agg #[(.int .i64 x0), (.int .i64 x1)]) (.agg #[(.int .i64 y0), (.int .i64 y1)]) (decide (x0 = y0) && (decide (x1 = y1))) := q_struct Tryz.underlying24 stood_24 (qf_cons rfl (p_one one_2 rfl) (p_one one_2 rfl) (q_int int_2) (qf_last rfl (p_one one_3 rfl) (p_one one_3 rfl) (q_int int_3)))
theorem eqst_34 (n : Nat) {x0 y0 : Int} {x1 y1 : Int} {x2 y2 : Int} : QE PP (n + 2) 34 (.agg #[(.int .i64 x0), (.int .i64 x1), (.int .i64 x2)]) (.agg #[(.int .i64 y0), (.int .i64 y1), (.int .i64 y2)]) (decide (x0 = y0) && (decide (x1 = y1) && (decide (x2 = y2)))) := q_struct Tryz.underlying34 stood_34 (qf_cons rfl (p_one one_3 rfl) (p_one one_3 rfl) (q_int int_3) (qf_cons rfl (p_one one_3 rfl) (p_one one_3 rfl) (q_int int_3) (qf_last rfl (p_one one_3 rfl) (p_one one_3 rfl) (q_int int_3))))
theorem eqst_36 (n : Nat) {x0 y0 : Int} {x1 y1 : Int} {x2 y2 : Int} {x3 y3 : Int} : QE PP (n + 3) 36 (.agg #[(.int .i64 x0), (.int .i64 x1), (.int .i64 x2), (.int .i64 x3)]) (.agg #[(.int .i64 y0), (.int .i64 y1), (.int .i64 y2), (.int .i64 y3)]) ((decide (x0 = y0) && (decide (x1 = y1) && (decide (x2 = y2)))) && (decide (x3 = y3))) := q_struct Tryz.underlying36 stood_36 (qf_cons rfl (p_agg (m := 3) agg_34 rfl) (p_agg (m := 3) agg_34 rfl) (eqst_34 _) (qf_last rfl (p_one one_3 rfl) (p_one one_3 rfl) (q_int int_3)))
end Go.Proofs.YtnhgnfflihoaiaaGreatDoor
