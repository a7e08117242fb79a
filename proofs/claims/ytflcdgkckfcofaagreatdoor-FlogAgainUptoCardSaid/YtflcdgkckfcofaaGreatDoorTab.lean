/-
  The numbers of this seat's functions and types, and closed facts of the program's tables.
-/
import Derived.Test.YtflcdgkckfcofaaGreatDoorProg
import Derived.Test.YtflcdgkckfcofaaGreatDoorAny
namespace Go.Proofs.YtflcdgkckfcofaaGreatDoor
open Go Go.Vc
noncomputable abbrev PP : Program := Tryz.prog
abbrev F_disk_Disk_Acts : FuncId := 11
abbrev F_disk_Disk_Append : FuncId := 45
abbrev F_disk_Disk_Crash : FuncId := 25
abbrev F_disk_Disk_Crash_c1 : FuncId := 48
abbrev F_disk_Disk_Current : FuncId := 16
abbrev F_disk_Disk_Pending : FuncId := 34
abbrev F_disk_Disk_Read : FuncId := 61
abbrev F_disk_Disk_Stop : FuncId := 24
abbrev F_disk_Disk_Switch : FuncId := 66
abbrev F_disk_Disk_Switch_c1 : FuncId := 107
abbrev F_disk_Disk_Sync : FuncId := 46
abbrev F_disk_Disk_Wipe : FuncId := 65
abbrev F_disk_Disk_act : FuncId := 76
abbrev F_disk_Disk_gone : FuncId := 37
abbrev F_disk_New : FuncId := 19
abbrev F_disk_appending : FuncId := 77
abbrev F_disk_appending_c1 : FuncId := 116
abbrev F_disk_appending_c1_c1 : FuncId := 118
abbrev F_disk_slot_do : FuncId := 117
abbrev F_disk_syncing : FuncId := 78
abbrev F_disk_wiping : FuncId := 106
abbrev F_disk_wiping_c1 : FuncId := 148
abbrev F_errors_As : FuncId := 63
abbrev F_flog_Log_Append : FuncId := 20
abbrev F_flog_Log_Compact : FuncId := 17
abbrev F_flog_Log_Count : FuncId := 18
abbrev F_flog_Log_anew : FuncId := 39
abbrev F_flog_Log_anew_c1 : FuncId := 64
abbrev F_flog_Log_failed : FuncId := 40
abbrev F_flog_Open : FuncId := 12
abbrev F_flog_fault_Unwrap : FuncId := 202
abbrev F_flog_made : FuncId := 38
abbrev F_flog_number : FuncId := 36
abbrev F_flog_opened : FuncId := 35
abbrev F_flog_refused : FuncId := 42
abbrev F_flog_where : FuncId := 44
abbrev F_pack_NewReader : FuncId := 137
abbrev F_pack_NewWriter : FuncId := 68
abbrev F_pack_Reader_At : FuncId := 143
abbrev F_pack_Reader_Bool : FuncId := 171
abbrev F_pack_Reader_Byte : FuncId := 138
abbrev F_pack_Reader_Bytes : FuncId := 172
abbrev F_pack_Reader_End : FuncId := 173
abbrev F_pack_Reader_Err : FuncId := 141
abbrev F_pack_Reader_Text : FuncId := 170
abbrev F_pack_Reader_Uint : FuncId := 139
abbrev F_pack_Reader_number : FuncId := 168
abbrev F_pack_Reader_stopped : FuncId := 167
abbrev F_pack_Writer_Bool : FuncId := 113
abbrev F_pack_Writer_Byte : FuncId := 69
abbrev F_pack_Writer_Bytes : FuncId := 70
abbrev F_pack_Writer_Data : FuncId := 72
abbrev F_pack_Writer_Text : FuncId := 112
abbrev F_pack_Writer_Uint : FuncId := 111
abbrev F_pack_Writer_put : FuncId := 110
abbrev F_pack_first_Err : FuncId := 169
abbrev F_pack_first_fail : FuncId := 150
abbrev F_pack_form : FuncId := 151
abbrev F_quorum_Check : FuncId := 135
abbrev F_record_New : FuncId := 60
abbrev F_record_Scan : FuncId := 62
abbrev F_record_Scan_c1 : FuncId := 98
abbrev F_record_Scan_c2 : FuncId := 100
abbrev F_record_Writer_Count : FuncId := 41
abbrev F_record_Writer_Put : FuncId := 43
abbrev F_record_body : FuncId := 71
abbrev F_record_caught : FuncId := 97
abbrev F_record_caught_c1 : FuncId := 136
abbrev F_record_four : FuncId := 73
abbrev F_record_headOf : FuncId := 96
abbrev F_record_may : FuncId := 67
abbrev F_record_mayHead : FuncId := 95
abbrev F_record_must : FuncId := 140
abbrev F_record_readBody : FuncId := 144
abbrev F_record_readHead : FuncId := 99
abbrev F_record_scanner_next : FuncId := 101
abbrev F_sherdlaw14_FlogAgain : FuncId := 6
abbrev F_sherdlaw14_Life_head : FuncId := 9
abbrev F_sherdlaw14_among : FuncId := 26
abbrev F_sherdlaw14_found : FuncId := 13
abbrev F_sherdlaw14_good : FuncId := 15
abbrev F_sherdlaw14_mod : FuncId := 10
abbrev F_sherdlaw14_played : FuncId := 8
abbrev F_sherdlaw14_same : FuncId := 23
abbrev F_sherdlaw14_updates : FuncId := 14
abbrev F_slices_Clone : FuncId := 47
abbrev F_slices_Concat : FuncId := 75
abbrev F_slices_Equal : FuncId := 142
abbrev F_slices_Grow : FuncId := 115
abbrev F_sum_Of : FuncId := 74
abbrev F_sum_step : FuncId := 114
abbrev F_tag_Valid : FuncId := 109
abbrev F_tag_Zero : FuncId := 108
abbrev F_tag_proper : FuncId := 149
abbrev G_sum_steps : Nat := 1
abbrev Ty_16_uint32 : TypeId := 225
abbrev Ty_4_int : TypeId := 204
abbrev Ty_api_Config : TypeId := 26
abbrev Ty_api_Entry : TypeId := 90
abbrev Ty_api_Errno : TypeId := 40
abbrev Ty_api_Head : TypeId := 28
abbrev Ty_api_Tag : TypeId := 88
abbrev Ty_api_Update : TypeId := 92
abbrev Ty_bool : TypeId := 4
abbrev Ty_disk_Disk : TypeId := 81
abbrev Ty_disk_loose : TypeId := 112
abbrev Ty_flog_Log : TypeId := 95
abbrev Ty_flog_fault : TypeId := 144
abbrev Ty_int : TypeId := 3
abbrev Ty_int64 : TypeId := 2
abbrev Ty_p_disk_Disk : TypeId := 33
abbrev Ty_p_flog_Log : TypeId := 34
abbrev Ty_p_record_Writer : TypeId := 93
abbrev Ty_p_record_scanner : TypeId := 161
abbrev Ty_pack_Reader : TypeId := 233
abbrev Ty_pack_Writer : TypeId := 180
abbrev Ty_record_Writer : TypeId := 101
abbrev Ty_record_scanner : TypeId := 163
abbrev Ty_sherdlaw14_Life : TypeId := 32
abbrev Ty_sherdlaw14_Op : TypeId := 30
abbrev Ty_sl_api_Update : TypeId := 23
abbrev Ty_sl_disk_loose : TypeId := 76
abbrev Ty_sl_int : TypeId := 24
abbrev Ty_sl_sherdlaw14_Op : TypeId := 22
abbrev Ty_sl_uint8 : TypeId := 51
abbrev Ty_string : TypeId := 9
abbrev Ty_uint32 : TypeId := 139
abbrev Ty_uint8 : TypeId := 5
set_option maxRecDepth 100000
theorem agg_101 : aggB PP 101 2 = true := by kernel_rfl
theorem agg_112 : aggB PP 112 2 = true := by kernel_rfl
theorem agg_26 : aggB PP 26 3 = true := by kernel_rfl
theorem agg_28 : aggB PP 28 4 = true := by kernel_rfl
theorem agg_30 : aggB PP 30 9 = true := by kernel_rfl
theorem agg_32 : aggB PP 32 18 = true := by kernel_rfl
theorem agg_78 : aggB PP 78 3 = true := by kernel_rfl
theorem agg_88 : aggB PP 88 2 = true := by kernel_rfl
theorem agg_90 : aggB PP 90 5 = true := by kernel_rfl
theorem agg_92 : aggB PP 92 7 = true := by kernel_rfl
theorem arr_204 : arrB PP 204 4 1 = true := by kernel_rfl
theorem arr_225 : arrB PP 225 16 1 = true := by kernel_rfl
theorem arr_79 : arrB PP 79 2 3 = true := by kernel_rfl
theorem bd_101_s0 : ∀ (w : World) (x0 : Slc), (Instr.build 101 #[(0, (Slc.v x0))]).run PP w = .ok (.agg #[(Slc.v x0), (.int .i64 0)]) w := by intros; kernel_rfl
theorem bd_112_ii641_v0_funcfuncF_disk_appending_c1_c1 : ∀ (w : World) (x0 : Int) (x1 : Array Value), (Instr.build 112 #[(1, (.int .i64 x0)), (0, (.func (.func F_disk_appending_c1_c1) #[] x1))]).run PP w = .ok (.agg #[(.func (.func F_disk_appending_c1_c1) #[] x1), (.int .i64 x0)]) w := by intros; kernel_rfl
theorem bd_112_v0_funcfunc148 : ∀ (w : World) (x0 : Array Value), (Instr.build 112 #[(0, (.func (.func 148) #[] x0))]).run PP w = .ok (.agg #[(.func (.func 148) #[] x0), (.int .i64 0)]) w := by intros; kernel_rfl
theorem bd_144_s0_ii641 : ∀ (w : World) (x0 : ByteArray) (x1 : Int), (Instr.build 144 #[(0, (.string x0)), (1, (.int .i64 x1))]).run PP w = .ok (.agg #[(.string x0), (.int .i64 x1)]) w := by intros; kernel_rfl
theorem bd_163_s0_ii641_p2_s4 : ∀ (w : World) (x0 : Slc) (x1 : Int) (x2 : Option Addr) (x3 : Slc), (Instr.build 163 #[(0, (Slc.v x0)), (1, (.int .i64 x1)), (2, (.pointer x2)), (4, (Slc.v x3))]).run PP w = .ok (.agg #[(Slc.v x0), (.int .i64 x1), (.pointer x2), (Slc.v Slc.nil), (Slc.v x3)]) w := by intros; kernel_rfl
theorem bd_180 : ∀ (w : World), (Instr.build 180 #[]).run PP w = .ok (.agg #[(.int .i64 0), (Slc.v Slc.nil)]) w := by intros; kernel_rfl
theorem bd_233_s1 : ∀ (w : World) (x0 : Slc), (Instr.build 233 #[(1, (Slc.v x0))]).run PP w = .ok (.agg #[(.int .i64 0), (Slc.v x0), (.int .i64 0)]) w := by intros; kernel_rfl
theorem bd_26_ii640_ii641 : ∀ (w : World) (x0 : Int) (x1 : Int), (Instr.build 26 #[(0, (.int .i64 x0)), (1, (.int .i64 x1))]).run PP w = .ok (.agg #[(.int .i64 x0), (.int .i64 x1), (.int .i64 0)]) w := by intros; kernel_rfl
theorem bd_26_ii640_ii641_ii642 : ∀ (w : World) (x0 : Int) (x1 : Int) (x2 : Int), (Instr.build 26 #[(0, (.int .i64 x0)), (1, (.int .i64 x1)), (2, (.int .i64 x2))]).run PP w = .ok (.agg #[(.int .i64 x0), (.int .i64 x1), (.int .i64 x2)]) w := by intros; kernel_rfl
theorem bd_28 : ∀ (w : World), (Instr.build 28 #[]).run PP w = .ok (.agg #[(.int .i64 0), (.int .i64 0), (.int .i64 0), (.int .i64 0)]) w := by intros; kernel_rfl
theorem bd_28_ii64ii64ii640 : ∀ (w : World) (x0 : Int) (x1 : Int) (x2 : Int), (Instr.build 28 #[(0, (.agg #[(.int .i64 x0), (.int .i64 x1), (.int .i64 x2)]))]).run PP w = .ok (.agg #[(.int .i64 x0), (.int .i64 x1), (.int .i64 x2), (.int .i64 0)]) w := by intros; kernel_rfl
theorem bd_28_ii64ii64ii640_ii641 : ∀ (w : World) (x0 : Int) (x1 : Int) (x2 : Int) (x3 : Int), (Instr.build 28 #[(0, (.agg #[(.int .i64 x0), (.int .i64 x1), (.int .i64 x2)])), (1, (.int .i64 x3))]).run PP w = .ok (.agg #[(.int .i64 x0), (.int .i64 x1), (.int .i64 x2), (.int .i64 x3)]) w := by intros; kernel_rfl
theorem bd_78_s0_s1 : ∀ (w : World) (x0 : Slc) (x1 : Slc), (Instr.build 78 #[(0, (Slc.v x0)), (1, (Slc.v x1))]).run PP w = .ok (.agg #[(Slc.v x0), (Slc.v x1), (Slc.v Slc.nil)]) w := by intros; kernel_rfl
theorem bd_81 : ∀ (w : World), (Instr.build 81 #[]).run PP w = .ok (.agg #[(Slc.v Slc.nil), (Slc.v Slc.nil), (Slc.v Slc.nil), (Slc.v Slc.nil), (Slc.v Slc.nil), (Slc.v Slc.nil), (.int .i64 0), (.int .i64 0), (.int .i64 0), (.bool false), (.bool false)]) w := by intros; kernel_rfl
theorem bd_81_ii641 : ∀ (w : World) (x0 : Int), (Instr.build 81 #[(1, (.int .i64 x0))]).run PP w = .ok (.agg #[(Slc.v Slc.nil), (Slc.v Slc.nil), (Slc.v Slc.nil), (Slc.v Slc.nil), (Slc.v Slc.nil), (Slc.v Slc.nil), (.int .i64 x0), (.int .i64 0), (.int .i64 0), (.bool false), (.bool false)]) w := by intros; kernel_rfl
theorem bd_88 : ∀ (w : World), (Instr.build 88 #[]).run PP w = .ok (.agg #[(.int .i64 0), (.int .i64 0)]) w := by intros; kernel_rfl
theorem bd_90_ii64ii640 : ∀ (w : World) (x0 : Int) (x1 : Int), (Instr.build 90 #[(0, (.agg #[(.int .i64 x0), (.int .i64 x1)]))]).run PP w = .ok (.agg #[(.int .i64 x0), (.int .i64 x1), (.bool false), (.bool false), (Slc.v Slc.nil)]) w := by intros; kernel_rfl
theorem bd_92_ii640_s1 : ∀ (w : World) (x0 : Int) (x1 : ByteArray), (Instr.build 92 #[(0, (.int .i64 x0)), (1, (.string x1))]).run PP w = .ok (.agg #[(.int .i64 x0), (.string x1), (.int .i64 0), (.int .i64 0), (.bool false), (.bool false), (Slc.v Slc.nil)]) w := by intros; kernel_rfl
theorem bd_95_p0_ii64ii64ii64ii641_ii642 : ∀ (w : World) (x0 : Option Addr) (x1 : Int) (x2 : Int) (x3 : Int) (x4 : Int) (x5 : Int), (Instr.build 95 #[(0, (.pointer x0)), (1, (.agg #[(.int .i64 x1), (.int .i64 x2), (.int .i64 x3), (.int .i64 x4)])), (2, (.int .i64 x5))]).run PP w = .ok (.agg #[(.pointer x0), (.int .i64 x1), (.int .i64 x2), (.int .i64 x3), (.int .i64 x4), (.int .i64 x5), (.pointer none), (.int .i64 0), (.int .i64 0)]) w := by intros; kernel_rfl
theorem body_10 : bodyB PP 10 = true := by kernel_rfl
theorem body_101 : bodyB PP 101 = true := by kernel_rfl
theorem body_108 : bodyB PP 108 = true := by kernel_rfl
theorem body_109 : bodyB PP 109 = true := by kernel_rfl
theorem body_11 : bodyB PP 11 = true := by kernel_rfl
theorem body_110 : bodyB PP 110 = true := by kernel_rfl
theorem body_111 : bodyB PP 111 = true := by kernel_rfl
theorem body_112 : bodyB PP 112 = true := by kernel_rfl
theorem body_113 : bodyB PP 113 = true := by kernel_rfl
theorem body_114 : bodyB PP 114 = true := by kernel_rfl
theorem body_115 : bodyB PP 115 = true := by kernel_rfl
theorem body_117 : bodyB PP 117 = true := by kernel_rfl
theorem body_12 : bodyB PP 12 = true := by kernel_rfl
theorem body_13 : bodyB PP 13 = true := by kernel_rfl
theorem body_135 : bodyB PP 135 = true := by kernel_rfl
theorem body_137 : bodyB PP 137 = true := by kernel_rfl
theorem body_138 : bodyB PP 138 = true := by kernel_rfl
theorem body_139 : bodyB PP 139 = true := by kernel_rfl
theorem body_14 : bodyB PP 14 = true := by kernel_rfl
theorem body_140 : bodyB PP 140 = true := by kernel_rfl
theorem body_141 : bodyB PP 141 = true := by kernel_rfl
theorem body_142 : bodyB PP 142 = true := by kernel_rfl
theorem body_143 : bodyB PP 143 = true := by kernel_rfl
theorem body_144 : bodyB PP 144 = true := by kernel_rfl
theorem body_149 : bodyB PP 149 = true := by kernel_rfl
theorem body_15 : bodyB PP 15 = true := by kernel_rfl
theorem body_150 : bodyB PP 150 = true := by kernel_rfl
theorem body_151 : bodyB PP 151 = true := by kernel_rfl
theorem body_16 : bodyB PP 16 = true := by kernel_rfl
theorem body_167 : bodyB PP 167 = true := by kernel_rfl
theorem body_168 : bodyB PP 168 = true := by kernel_rfl
theorem body_169 : bodyB PP 169 = true := by kernel_rfl
theorem body_17 : bodyB PP 17 = true := by kernel_rfl
theorem body_170 : bodyB PP 170 = true := by kernel_rfl
theorem body_171 : bodyB PP 171 = true := by kernel_rfl
theorem body_172 : bodyB PP 172 = true := by kernel_rfl
theorem body_173 : bodyB PP 173 = true := by kernel_rfl
theorem body_18 : bodyB PP 18 = true := by kernel_rfl
theorem body_19 : bodyB PP 19 = true := by kernel_rfl
theorem body_20 : bodyB PP 20 = true := by kernel_rfl
theorem body_23 : bodyB PP 23 = true := by kernel_rfl
theorem body_24 : bodyB PP 24 = true := by kernel_rfl
theorem body_25 : bodyB PP 25 = true := by kernel_rfl
theorem body_26 : bodyB PP 26 = true := by kernel_rfl
theorem body_34 : bodyB PP 34 = true := by kernel_rfl
theorem body_35 : bodyB PP 35 = true := by kernel_rfl
theorem body_36 : bodyB PP 36 = true := by kernel_rfl
theorem body_37 : bodyB PP 37 = true := by kernel_rfl
theorem body_38 : bodyB PP 38 = true := by kernel_rfl
theorem body_39 : bodyB PP 39 = true := by kernel_rfl
theorem body_40 : bodyB PP 40 = true := by kernel_rfl
theorem body_41 : bodyB PP 41 = true := by kernel_rfl
theorem body_42 : bodyB PP 42 = true := by kernel_rfl
theorem body_43 : bodyB PP 43 = true := by kernel_rfl
theorem body_44 : bodyB PP 44 = true := by kernel_rfl
theorem body_45 : bodyB PP 45 = true := by kernel_rfl
theorem body_46 : bodyB PP 46 = true := by kernel_rfl
theorem body_47 : bodyB PP 47 = true := by kernel_rfl
theorem body_48 : bodyB PP 48 = true := by kernel_rfl
theorem body_60 : bodyB PP 60 = true := by kernel_rfl
theorem body_61 : bodyB PP 61 = true := by kernel_rfl
theorem body_62 : bodyB PP 62 = true := by kernel_rfl
theorem body_63 : bodyB PP 63 = true := by kernel_rfl
theorem body_67 : bodyB PP 67 = true := by kernel_rfl
theorem body_68 : bodyB PP 68 = true := by kernel_rfl
theorem body_69 : bodyB PP 69 = true := by kernel_rfl
theorem body_70 : bodyB PP 70 = true := by kernel_rfl
theorem body_71 : bodyB PP 71 = true := by kernel_rfl
theorem body_72 : bodyB PP 72 = true := by kernel_rfl
theorem body_73 : bodyB PP 73 = true := by kernel_rfl
theorem body_74 : bodyB PP 74 = true := by kernel_rfl
theorem body_75 : bodyB PP 75 = true := by kernel_rfl
theorem body_76 : bodyB PP 76 = true := by kernel_rfl
theorem body_77 : bodyB PP 77 = true := by kernel_rfl
theorem body_8 : bodyB PP 8 = true := by kernel_rfl
theorem body_9 : bodyB PP 9 = true := by kernel_rfl
theorem body_95 : bodyB PP 95 = true := by kernel_rfl
theorem body_96 : bodyB PP 96 = true := by kernel_rfl
theorem body_97 : bodyB PP 97 = true := by kernel_rfl
theorem body_99 : bodyB PP 99 = true := by kernel_rfl
theorem bool_4 : boolB PP 4 = true := by kernel_rfl
theorem bs_154_1_s0 : ∀ (w : World) (x0 : Slc), (Instr.buildSlice 154 1 #[(0, (Slc.v x0))]).run PP w = .ok (.slice (some ⟨w.heap.size, 0, none⟩) 1 1) (w.alloc (.cells #[(Slc.v x0)] 51)) := by intros; kernel_rfl
theorem bs_154_2_s0_s1 : ∀ (w : World) (x0 : Slc) (x1 : Slc), (Instr.buildSlice 154 2 #[(0, (Slc.v x0)), (1, (Slc.v x1))]).run PP w = .ok (.slice (some ⟨w.heap.size, 0, none⟩) 2 2) (w.alloc (.cells #[(Slc.v x0), (Slc.v x1)] 51)) := by intros; kernel_rfl
theorem bs_23_0 : ∀ (w : World), (Instr.buildSlice 23 0 #[]).run PP w = .ok (.slice (some ⟨w.heap.size, 0, none⟩) 0 0) (w.alloc (.cells #[] 92)) := by intros; kernel_rfl
theorem bs_23_1_ii64sii64ii64bbs0 : ∀ (w : World) (x0 : Int) (x1 : ByteArray) (x2 : Int) (x3 : Int) (x4 : Bool) (x5 : Bool) (x6 : Slc), (Instr.buildSlice 23 1 #[(0, (.agg #[(.int .i64 x0), (.string x1), (.int .i64 x2), (.int .i64 x3), (.bool x4), (.bool x5), (Slc.v x6)]))]).run PP w = .ok (.slice (some ⟨w.heap.size, 0, none⟩) 1 1) (w.alloc (.cells #[(.int .i64 x0), (.string x1), (.int .i64 x2), (.int .i64 x3), (.bool x4), (.bool x5), (Slc.v x6)] 92)) := by intros; kernel_rfl
theorem bs_24_0 : ∀ (w : World), (Instr.buildSlice 24 0 #[]).run PP w = .ok (.slice (some ⟨w.heap.size, 0, none⟩) 0 0) (w.alloc (.cells #[] 3)) := by intros; kernel_rfl
theorem bs_24_1_ii640 : ∀ (w : World) (x0 : Int), (Instr.buildSlice 24 1 #[(0, (.int .i64 x0))]).run PP w = .ok (.slice (some ⟨w.heap.size, 0, none⟩) 1 1) (w.alloc (.cells #[(.int .i64 x0)] 3)) := by intros; kernel_rfl
theorem bs_24_4_ii640_ii641_ii642_ii643 : ∀ (w : World) (x0 : Int) (x1 : Int) (x2 : Int) (x3 : Int), (Instr.buildSlice 24 4 #[(0, (.int .i64 x0)), (1, (.int .i64 x1)), (2, (.int .i64 x2)), (3, (.int .i64 x3))]).run PP w = .ok (.slice (some ⟨w.heap.size, 0, none⟩) 4 4) (w.alloc (.cells #[(.int .i64 x0), (.int .i64 x1), (.int .i64 x2), (.int .i64 x3)] 3)) := by intros; kernel_rfl
theorem bs_51_0 : ∀ (w : World), (Instr.buildSlice 51 0 #[]).run PP w = .ok (.slice (some ⟨w.heap.size, 0, none⟩) 0 0) (w.alloc (.cells #[] 5)) := by intros; kernel_rfl
theorem bs_51_1_iu80 : ∀ (w : World) (x0 : Int), (Instr.buildSlice 51 1 #[(0, (.int .u8 x0))]).run PP w = .ok (.slice (some ⟨w.heap.size, 0, none⟩) 1 1) (w.alloc (.cells #[(.int .u8 x0)] 5)) := by intros; kernel_rfl
theorem bs_51_4_iu80_iu81_iu82_iu83 : ∀ (w : World) (x0 : Int) (x1 : Int) (x2 : Int) (x3 : Int), (Instr.buildSlice 51 4 #[(0, (.int .u8 x0)), (1, (.int .u8 x1)), (2, (.int .u8 x2)), (3, (.int .u8 x3))]).run PP w = .ok (.slice (some ⟨w.heap.size, 0, none⟩) 4 4) (w.alloc (.cells #[(.int .u8 x0), (.int .u8 x1), (.int .u8 x2), (.int .u8 x3)] 5)) := by intros; kernel_rfl
theorem bs_76_1_vii640 : ∀ (w : World) (x0 : Value) (x1 : Int), (Instr.buildSlice 76 1 #[(0, (.agg #[x0, (.int .i64 x1)]))]).run PP w = .ok (.slice (some ⟨w.heap.size, 0, none⟩) 1 1) (w.alloc (.cells #[x0, (.int .i64 x1)] 112)) := by intros; kernel_rfl
theorem eqg_28 : PP.eqGuardType PP.depth 28 = false := by kernel_rfl
theorem eqg_88 : PP.eqGuardType PP.depth 88 = false := by kernel_rfl
theorem fld_101_0 : fldB PP 101 0 0 = true := by kernel_rfl
theorem fld_101_1 : fldB PP 101 1 1 = true := by kernel_rfl
theorem fld_112_0 : fldB PP 112 0 0 = true := by kernel_rfl
theorem fld_112_1 : fldB PP 112 1 1 = true := by kernel_rfl
theorem fld_144_1 : fldB PP 144 1 1 = true := by kernel_rfl
theorem fld_163_0 : fldB PP 163 0 0 = true := by kernel_rfl
theorem fld_163_1 : fldB PP 163 1 1 = true := by kernel_rfl
theorem fld_163_2 : fldB PP 163 2 2 = true := by kernel_rfl
theorem fld_163_3 : fldB PP 163 3 3 = true := by kernel_rfl
theorem fld_163_4 : fldB PP 163 4 4 = true := by kernel_rfl
theorem fld_178_0 : fldB PP 178 0 0 = true := by kernel_rfl
theorem fld_180_0 : fldB PP 180 0 0 = true := by kernel_rfl
theorem fld_180_1 : fldB PP 180 1 1 = true := by kernel_rfl
theorem fld_233_0 : fldB PP 233 0 0 = true := by kernel_rfl
theorem fld_233_1 : fldB PP 233 1 1 = true := by kernel_rfl
theorem fld_233_2 : fldB PP 233 2 2 = true := by kernel_rfl
theorem fld_26_0 : fldB PP 26 0 0 = true := by kernel_rfl
theorem fld_26_1 : fldB PP 26 1 1 = true := by kernel_rfl
theorem fld_26_2 : fldB PP 26 2 2 = true := by kernel_rfl
theorem fld_28_0 : fldB PP 28 0 0 = true := by kernel_rfl
theorem fld_28_1 : fldB PP 28 1 3 = true := by kernel_rfl
theorem fld_30_0 : fldB PP 30 0 0 = true := by kernel_rfl
theorem fld_30_1 : fldB PP 30 1 1 = true := by kernel_rfl
theorem fld_32_0 : fldB PP 32 0 0 = true := by kernel_rfl
theorem fld_32_1 : fldB PP 32 1 1 = true := by kernel_rfl
theorem fld_32_2 : fldB PP 32 2 2 = true := by kernel_rfl
theorem fld_32_3 : fldB PP 32 3 3 = true := by kernel_rfl
theorem fld_32_4 : fldB PP 32 4 4 = true := by kernel_rfl
theorem fld_32_5 : fldB PP 32 5 13 = true := by kernel_rfl
theorem fld_32_6 : fldB PP 32 6 14 = true := by kernel_rfl
theorem fld_32_7 : fldB PP 32 7 15 = true := by kernel_rfl
theorem fld_32_8 : fldB PP 32 8 16 = true := by kernel_rfl
theorem fld_32_9 : fldB PP 32 9 17 = true := by kernel_rfl
theorem fld_78_0 : fldB PP 78 0 0 = true := by kernel_rfl
theorem fld_78_1 : fldB PP 78 1 1 = true := by kernel_rfl
theorem fld_78_2 : fldB PP 78 2 2 = true := by kernel_rfl
theorem fld_81_0 : fldB PP 81 0 0 = true := by kernel_rfl
theorem fld_81_1 : fldB PP 81 1 6 = true := by kernel_rfl
theorem fld_81_2 : fldB PP 81 2 7 = true := by kernel_rfl
theorem fld_81_3 : fldB PP 81 3 8 = true := by kernel_rfl
theorem fld_81_4 : fldB PP 81 4 9 = true := by kernel_rfl
theorem fld_81_5 : fldB PP 81 5 10 = true := by kernel_rfl
theorem fld_88_0 : fldB PP 88 0 0 = true := by kernel_rfl
theorem fld_88_1 : fldB PP 88 1 1 = true := by kernel_rfl
theorem fld_90_0 : fldB PP 90 0 0 = true := by kernel_rfl
theorem fld_90_1 : fldB PP 90 1 2 = true := by kernel_rfl
theorem fld_90_2 : fldB PP 90 2 3 = true := by kernel_rfl
theorem fld_90_3 : fldB PP 90 3 4 = true := by kernel_rfl
theorem fld_92_0 : fldB PP 92 0 0 = true := by kernel_rfl
theorem fld_92_1 : fldB PP 92 1 1 = true := by kernel_rfl
theorem fld_92_2 : fldB PP 92 2 2 = true := by kernel_rfl
theorem fld_95_0 : fldB PP 95 0 0 = true := by kernel_rfl
theorem fld_95_1 : fldB PP 95 1 1 = true := by kernel_rfl
theorem fld_95_2 : fldB PP 95 2 5 = true := by kernel_rfl
theorem fld_95_3 : fldB PP 95 3 6 = true := by kernel_rfl
theorem fld_95_4 : fldB PP 95 4 7 = true := by kernel_rfl
theorem fld_95_5 : fldB PP 95 5 8 = true := by kernel_rfl
theorem ifc_83 : ifcB PP 83 = true := by kernel_rfl
theorem int_139 : intB PP 139 .u32 = true := by kernel_rfl
theorem int_2 : intB PP 2 .i64 = true := by kernel_rfl
theorem int_3 : intB PP 3 .i64 = true := by kernel_rfl
theorem int_5 : intB PP 5 .u8 = true := by kernel_rfl
theorem mixed : PP.follows .mixedOrders = true := by kernel_rfl
theorem ni_131 : notIfaceB PP 131 = true := by kernel_rfl
theorem ni_142 : notIfaceB PP 142 = true := by kernel_rfl
theorem ni_40 : notIfaceB PP 40 = true := by kernel_rfl
theorem ni_9 : notIfaceB PP 9 = true := by kernel_rfl
theorem one_110 : oneB PP 110 = true := by kernel_rfl
theorem one_139 : oneB PP 139 = true := by kernel_rfl
theorem one_161 : oneB PP 161 = true := by kernel_rfl
theorem one_2 : oneB PP 2 = true := by kernel_rfl
theorem one_22 : oneB PP 22 = true := by kernel_rfl
theorem one_23 : oneB PP 23 = true := by kernel_rfl
theorem one_24 : oneB PP 24 = true := by kernel_rfl
theorem one_3 : oneB PP 3 = true := by kernel_rfl
theorem one_33 : oneB PP 33 = true := by kernel_rfl
theorem one_34 : oneB PP 34 = true := by kernel_rfl
theorem one_4 : oneB PP 4 = true := by kernel_rfl
theorem one_40 : oneB PP 40 = true := by kernel_rfl
theorem one_5 : oneB PP 5 = true := by kernel_rfl
theorem one_51 : oneB PP 51 = true := by kernel_rfl
theorem one_76 : oneB PP 76 = true := by kernel_rfl
theorem one_9 : oneB PP 9 = true := by kernel_rfl
theorem one_93 : oneB PP 93 = true := by kernel_rfl
theorem ptr_132 : ptrB PP 132 = true := by kernel_rfl
theorem ptr_201 : ptrB PP 201 = true := by kernel_rfl
theorem ptr_33 : ptrB PP 33 = true := by kernel_rfl
theorem ptr_34 : ptrB PP 34 = true := by kernel_rfl
theorem ptr_93 : ptrB PP 93 = true := by kernel_rfl
theorem sl_154 : isSlcB PP 154 = true := by kernel_rfl
theorem sl_22 : isSlcB PP 22 = true := by kernel_rfl
theorem sl_23 : isSlcB PP 23 = true := by kernel_rfl
theorem sl_24 : isSlcB PP 24 = true := by kernel_rfl
theorem sl_51 : isSlcB PP 51 = true := by kernel_rfl
theorem sl_76 : isSlcB PP 76 = true := by kernel_rfl
theorem slc_154 : slcB PP 154 1 = true := by kernel_rfl
theorem slc_22 : slcB PP 22 9 = true := by kernel_rfl
theorem slc_23 : slcB PP 23 7 = true := by kernel_rfl
theorem slc_24 : slcB PP 24 1 = true := by kernel_rfl
theorem slc_51 : slcB PP 51 1 = true := by kernel_rfl
theorem slc_76 : slcB PP 76 2 = true := by kernel_rfl
theorem some_139 : someB PP 139 = true := by kernel_rfl
theorem some_2 : someB PP 2 = true := by kernel_rfl
theorem some_3 : someB PP 3 = true := by kernel_rfl
theorem some_5 : someB PP 5 = true := by kernel_rfl
theorem stood_26 : PP.stoodInHeld 26 = false := by kernel_rfl
theorem stood_28 : PP.stoodInHeld 28 = false := by kernel_rfl
theorem stood_88 : PP.stoodInHeld 88 = false := by kernel_rfl
theorem str_9 : strB PP 9 = true := by kernel_rfl
theorem zero_101 : zeroB PP 101 (.agg #[(Slc.v Slc.nil), (.int .i64 0)]) := by unfold zeroB; kernel_rfl
theorem zero_112 : zeroB PP 112 (.agg #[.nilFunc, (.int .i64 0)]) := by unfold zeroB; kernel_rfl
theorem zero_161 : zeroB PP 161 (.pointer none) := by unfold zeroB; kernel_rfl
theorem zero_204 : zeroB PP 204 (.agg #[(.int .i64 0), (.int .i64 0), (.int .i64 0), (.int .i64 0)]) := by unfold zeroB; kernel_rfl
theorem zero_24 : zeroB PP 24 (Slc.v Slc.nil) := by unfold zeroB; kernel_rfl
theorem zero_28 : zeroB PP 28 (.agg #[(.int .i64 0), (.int .i64 0), (.int .i64 0), (.int .i64 0)]) := by unfold zeroB; kernel_rfl
theorem zero_3 : zeroB PP 3 (.int .i64 0) := by unfold zeroB; kernel_rfl
theorem zero_40 : zeroB PP 40 (.int .i64 0) := by unfold zeroB; kernel_rfl
theorem zero_51 : zeroB PP 51 (Slc.v Slc.nil) := by unfold zeroB; kernel_rfl
theorem zero_92 : zeroB PP 92 (.agg #[(.int .i64 0), (.string (ByteArray.mk #[])), (.int .i64 0), (.int .i64 0), (.bool false), (.bool false), (Slc.v Slc.nil)]) := by unfold zeroB; kernel_rfl
theorem und_int : PP.underlying 3 = some (.int .i64) := by kernel_rfl
theorem und_string : PP.underlying 9 = some .string := by kernel_rfl
theorem und_uint8 : PP.underlying 5 = some (.int .u8) := by kernel_rfl
theorem slT_sl_api_Update : SlT PP Ty_sl_api_Update Ty_api_Update 7 72 (.agg #[(.int .i64 0), (.string (ByteArray.mk #[])), (.int .i64 0), (.int .i64 0), (.bool false), (.bool false), (Slc.v Slc.nil)]) := ⟨by kernel_rfl, by kernel_rfl, rfl, by decide⟩
theorem slT_sl_int : SlT PP Ty_sl_int Ty_int 1 8 (.int .i64 0) := ⟨by kernel_rfl, by kernel_rfl, rfl, by decide⟩
theorem slT_sl_uint8 : SlT PP Ty_sl_uint8 Ty_uint8 1 1 (.int .u8 0) := ⟨by kernel_rfl, by kernel_rfl, rfl, by decide⟩
theorem slT_sl_disk_loose : SlT PP Ty_sl_disk_loose Ty_disk_loose 2 16 (.agg #[.nilFunc, (.int .i64 0)]) := ⟨by kernel_rfl, by kernel_rfl, rfl, by decide⟩
theorem eqst_26 (n : Nat) {x0 y0 : Int} {x1 y1 : Int} {x2 y2 : Int} : QE PP (n + 2) 26 (.agg #[(.int .i64 x0), (.int .i64 x1), (.int .i64 x2)]) (.agg #[(.int .i64 y0), (.int .i64 y1), (.int .i64 y2)]) (decide (x0 = y0) && (decide (x1 = y1) && (decide (x2 = y2)))) := q_struct Tryz.underlying26 stood_26 (qf_cons rfl (p_one one_3 rfl) (p_one one_3 rfl) (q_int int_3) (qf_cons rfl (p_one one_3 rfl) (p_one one_3 rfl) (q_int int_3) (qf_last rfl (p_one one_3 rfl) (p_one one_3 rfl) (q_int int_3))))
theorem eqst_28 (n : Nat) {x0 y0 : Int} {x1 y1 : Int} {x2 y2 : Int} {x3 y3 : Int} : QE PP (n + 3) 28 (.agg #[(.int .i64 x0), (.int .i64 x1), (.int .i64 x2), (.int .i64 x3)]) (.agg #[(.int .i64 y0), (.int .i64 y1), (.int .i64 y2), (.int .i64 y3)]) ((decide (x0 = y0) && (decide (x1 = y1) && (decide (x2 = y2)))) && (decide (x3 = y3))) := q_struct Tryz.underlying28 stood_28 (qf_cons rfl (p_agg (m := 3) agg_26 rfl) (p_agg (m := 3) agg_26 rfl) (eqst_26 _) (qf_last rfl (p_one one_3 rfl) (p_one one_3 rfl) (q_int int_3)))
theorem eqst_88 (n : Nat) {x0 y0 : Int} {x1 y1 : Int} : QE PP (n + 2) 88 (.agg #[(.int .i64 x0), (.int .i64 x1)]) (.agg #[(.int .i64 y0), (.int .i64 y1)]) (decide (x0 = y0) && (decide (x1 = y1))) := q_struct Tryz.underlying88 stood_88 (qf_cons rfl (p_one one_2 rfl) (p_one one_2 rfl) (q_int int_2) (qf_last rfl (p_one one_3 rfl) (p_one one_3 rfl) (q_int int_3)))
end Go.Proofs.YtflcdgkckfcofaaGreatDoor
