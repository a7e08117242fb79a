/-
  The numbers of this seat's functions and types, and closed facts of the program's tables.
-/
import Derived.Test.YtgnceldnfefnmaaProg
import Derived.Test.YtgnceldnfefnmaaAny
namespace Go.Proofs.Ytgnceldnfefnmaa
open Go Go.Vc
noncomputable abbrev PP : Program := Try.prog
abbrev F_cmp_Compare_int : FuncId := 34
abbrev F_cmp_Compare_int64 : FuncId := 33
abbrev F_cmp_Less : FuncId := 85
abbrev F_cmp_isNaN_int : FuncId := 48
abbrev F_cmp_isNaN_int64 : FuncId := 47
abbrev F_cmp_isNaN_string : FuncId := 95
abbrev F_sherdlaw15_TableAgain : FuncId := 6
abbrev F_sherdlaw15_TableBounds : FuncId := 3
abbrev F_sherdlaw15_TableHolds : FuncId := 4
abbrev F_sherdlaw15_TableTurns : FuncId := 5
abbrev F_sherdlaw15_dataOf : FuncId := 29
abbrev F_sherdlaw15_done : FuncId := 17
abbrev F_sherdlaw15_expected : FuncId := 18
abbrev F_sherdlaw15_keyOf : FuncId := 11
abbrev F_sherdlaw15_sameAll : FuncId := 20
abbrev F_sherdlaw15_sameEntries : FuncId := 19
abbrev F_sherdlaw15_sameEntry : FuncId := 40
abbrev F_sherdlaw15_sameUpdates : FuncId := 22
abbrev F_sherdlaw15_small : FuncId := 7
abbrev F_sherdlaw15_tagOf : FuncId := 28
abbrev F_sherdlaw15_taken : FuncId := 16
abbrev F_sherdlaw15_update : FuncId := 10
abbrev F_slices_Clone : FuncId := 44
abbrev F_slices_MaxFunc : FuncId := 49
abbrev F_slices_Sort : FuncId := 52
abbrev F_slices_SortFunc_api_Entry_api_Entry : FuncId := 31
abbrev F_slices_SortFunc_api_Tag_api_Tag : FuncId := 50
abbrev F_table_New : FuncId := 8
abbrev F_table_Table_All : FuncId := 21
abbrev F_table_Table_Apply : FuncId := 9
abbrev F_table_Table_Copy : FuncId := 24
abbrev F_table_Table_Entries : FuncId := 12
abbrev F_table_Table_Entries_c1 : FuncId := 32
abbrev F_table_Table_Floor : FuncId := 14
abbrev F_table_Table_Fragments : FuncId := 38
abbrev F_table_Table_Keys : FuncId := 41
abbrev F_table_Table_Top : FuncId := 15
abbrev F_table_Table_Updates : FuncId := 23
abbrev F_table_Table_Would : FuncId := 39
abbrev F_table_Table_fin : FuncId := 27
abbrev F_table_Table_pre : FuncId := 26
abbrev F_table_copied : FuncId := 30
abbrev F_table_may : FuncId := 25
abbrev F_table_shelf_finalized : FuncId := 37
abbrev F_table_shelf_finalized_c1 : FuncId := 51
abbrev F_table_shelf_floor : FuncId := 35
abbrev F_tag_Compare : FuncId := 13
abbrev F_tag_Max : FuncId := 36
abbrev F_tag_Valid : FuncId := 42
abbrev F_tag_Zero : FuncId := 43
abbrev F_tag_proper : FuncId := 53
abbrev Ty_ : TypeId := 0
abbrev Ty_0_p_runtime_PanicNilError : TypeId := 143
abbrev Ty_3_api_Tag : TypeId := 30
abbrev Ty_abi_BoundsErrorCode : TypeId := 6
abbrev Ty_abi_Kind : TypeId := 148
abbrev Ty_abi_NameOff : TypeId := 151
abbrev Ty_abi_TFlag : TypeId := 147
abbrev Ty_abi_Type : TypeId := 154
abbrev Ty_abi_TypeOff : TypeId := 152
abbrev Ty_api_Entry : TypeId := 37
abbrev Ty_api_Errno : TypeId := 25
abbrev Ty_api_Held : TypeId := 87
abbrev Ty_api_Tag : TypeId := 29
abbrev Ty_api_Update : TypeId := 39
abbrev Ty_bool : TypeId := 4
abbrev Ty_int : TypeId := 3
abbrev Ty_int32 : TypeId := 21
abbrev Ty_int64 : TypeId := 2
abbrev Ty_interface : TypeId := 20
abbrev Ty_map_api_Tag_api_Entry : TypeId := 73
abbrev Ty_map_string_table_shelf : TypeId := 64
abbrev Ty_maps_unhashableTypeError : TypeId := 19
abbrev Ty_p_abi_Type : TypeId := 17
abbrev Ty_p_int : TypeId := 117
abbrev Ty_p_runtime_PanicNilError : TypeId := 16
abbrev Ty_p_runtime_TypeAssertionError : TypeId := 15
abbrev Ty_p_slices_xorshift : TypeId := 130
abbrev Ty_p_table_Table : TypeId := 24
abbrev Ty_p_uint8 : TypeId := 150
abbrev Ty_runtime_PanicNilError : TypeId := 145
abbrev Ty_runtime_TypeAssertionError : TypeId := 142
abbrev Ty_runtime_boundsError : TypeId := 8
abbrev Ty_runtime_errorAddressString : TypeId := 14
abbrev Ty_runtime_errorString : TypeId := 10
abbrev Ty_runtime_plainError : TypeId := 11
abbrev Ty_sherdlaw15_Move : TypeId := 32
abbrev Ty_sherdlaw15_Rest : TypeId := 61
abbrev Ty_sl_api_Entry : TypeId := 42
abbrev Ty_sl_api_Held : TypeId := 54
abbrev Ty_sl_api_Tag : TypeId := 82
abbrev Ty_sl_api_Update : TypeId := 57
abbrev Ty_sl_int : TypeId := 52
abbrev Ty_sl_sherdlaw15_Move : TypeId := 22
abbrev Ty_sl_string : TypeId := 72
abbrev Ty_sl_uint8 : TypeId := 35
abbrev Ty_slices_sortedHint : TypeId := 100
abbrev Ty_slices_xorshift : TypeId := 113
abbrev Ty_string : TypeId := 9
abbrev Ty_table_Table : TypeId := 66
abbrev Ty_table_shelf : TypeId := 74
abbrev Ty_uint : TypeId := 93
abbrev Ty_uint32 : TypeId := 108
abbrev Ty_uint64 : TypeId := 110
abbrev Ty_uint8 : TypeId := 5
abbrev Ty_uintptr : TypeId := 12
abbrev Ty_unsafe_Pointer : TypeId := 155
set_option maxRecDepth 100000
theorem agg_29 : aggB PP 29 2 = true := by kernel_rfl
theorem agg_32 : aggB PP 32 5 = true := by kernel_rfl
theorem agg_37 : aggB PP 37 5 = true := by kernel_rfl
theorem agg_39 : aggB PP 39 7 = true := by kernel_rfl
theorem agg_87 : aggB PP 87 2 = true := by kernel_rfl
theorem arr_30 : arrB PP 30 3 2 = true := by kernel_rfl
theorem bd_29 : ∀ (w : World), (Instr.build 29 #[]).run PP w = .ok (.agg #[(.int .i64 0), (.int .i64 0)]) w := by intros; kernel_rfl
theorem bd_29_ii640_ii641 : ∀ (w : World) (x0 : Int) (x1 : Int), (Instr.build 29 #[(0, (.int .i64 x0)), (1, (.int .i64 x1))]).run PP w = .ok (.agg #[(.int .i64 x0), (.int .i64 x1)]) w := by intros; kernel_rfl
theorem bd_37_ii64ii640 : ∀ (w : World) (x0 : Int) (x1 : Int), (Instr.build 37 #[(0, (.agg #[(.int .i64 x0), (.int .i64 x1)]))]).run PP w = .ok (.agg #[(.int .i64 x0), (.int .i64 x1), (.bool false), (.bool false), (Slc.v Slc.nil)]) w := by intros; kernel_rfl
theorem bd_37_ii64ii640_b1 : ∀ (w : World) (x0 : Int) (x1 : Int) (x2 : Bool), (Instr.build 37 #[(0, (.agg #[(.int .i64 x0), (.int .i64 x1)])), (1, (.bool x2))]).run PP w = .ok (.agg #[(.int .i64 x0), (.int .i64 x1), (.bool x2), (.bool false), (Slc.v Slc.nil)]) w := by intros; kernel_rfl
theorem bd_37_ii64ii640_b1_b2_s3 : ∀ (w : World) (x0 : Int) (x1 : Int) (x2 : Bool) (x3 : Bool) (x4 : Slc), (Instr.build 37 #[(0, (.agg #[(.int .i64 x0), (.int .i64 x1)])), (1, (.bool x2)), (2, (.bool x3)), (3, (Slc.v x4))]).run PP w = .ok (.agg #[(.int .i64 x0), (.int .i64 x1), (.bool x2), (.bool x3), (Slc.v x4)]) w := by intros; kernel_rfl
theorem bd_37_ii64ii640_s3 : ∀ (w : World) (x0 : Int) (x1 : Int) (x2 : Slc), (Instr.build 37 #[(0, (.agg #[(.int .i64 x0), (.int .i64 x1)])), (3, (Slc.v x2))]).run PP w = .ok (.agg #[(.int .i64 x0), (.int .i64 x1), (.bool false), (.bool false), (Slc.v x2)]) w := by intros; kernel_rfl
theorem bd_39_ii640_s1_ii64ii64bbs2 : ∀ (w : World) (x0 : Int) (x1 : ByteArray) (x2 : Int) (x3 : Int) (x4 : Bool) (x5 : Bool) (x6 : Slc), (Instr.build 39 #[(0, (.int .i64 x0)), (1, (.string x1)), (2, (.agg #[(.int .i64 x2), (.int .i64 x3), (.bool x4), (.bool x5), (Slc.v x6)]))]).run PP w = .ok (.agg #[(.int .i64 x0), (.string x1), (.int .i64 x2), (.int .i64 x3), (.bool x4), (.bool x5), (Slc.v x6)]) w := by intros; kernel_rfl
theorem bd_66_ii640_m1 : ∀ (w : World) (x0 : Int) (x1 : Option Nat), (Instr.build 66 #[(0, (.int .i64 x0)), (1, (.map x1))]).run PP w = .ok (.agg #[(.int .i64 x0), (.map x1)]) w := by intros; kernel_rfl
theorem bd_87_s0_s1 : ∀ (w : World) (x0 : ByteArray) (x1 : Slc), (Instr.build 87 #[(0, (.string x0)), (1, (Slc.v x1))]).run PP w = .ok (.agg #[(.string x0), (Slc.v x1)]) w := by intros; kernel_rfl
theorem body_10 : bodyB PP 10 = true := by kernel_rfl
theorem body_11 : bodyB PP 11 = true := by kernel_rfl
theorem body_12 : bodyB PP 12 = true := by kernel_rfl
theorem body_13 : bodyB PP 13 = true := by kernel_rfl
theorem body_14 : bodyB PP 14 = true := by kernel_rfl
theorem body_15 : bodyB PP 15 = true := by kernel_rfl
theorem body_16 : bodyB PP 16 = true := by kernel_rfl
theorem body_17 : bodyB PP 17 = true := by kernel_rfl
theorem body_18 : bodyB PP 18 = true := by kernel_rfl
theorem body_19 : bodyB PP 19 = true := by kernel_rfl
theorem body_20 : bodyB PP 20 = true := by kernel_rfl
theorem body_21 : bodyB PP 21 = true := by kernel_rfl
theorem body_22 : bodyB PP 22 = true := by kernel_rfl
theorem body_23 : bodyB PP 23 = true := by kernel_rfl
theorem body_24 : bodyB PP 24 = true := by kernel_rfl
theorem body_25 : bodyB PP 25 = true := by kernel_rfl
theorem body_26 : bodyB PP 26 = true := by kernel_rfl
theorem body_27 : bodyB PP 27 = true := by kernel_rfl
theorem body_28 : bodyB PP 28 = true := by kernel_rfl
theorem body_29 : bodyB PP 29 = true := by kernel_rfl
theorem body_30 : bodyB PP 30 = true := by kernel_rfl
theorem body_31 : bodyB PP 31 = true := by kernel_rfl
theorem body_33 : bodyB PP 33 = true := by kernel_rfl
theorem body_34 : bodyB PP 34 = true := by kernel_rfl
theorem body_35 : bodyB PP 35 = true := by kernel_rfl
theorem body_36 : bodyB PP 36 = true := by kernel_rfl
theorem body_37 : bodyB PP 37 = true := by kernel_rfl
theorem body_38 : bodyB PP 38 = true := by kernel_rfl
theorem body_39 : bodyB PP 39 = true := by kernel_rfl
theorem body_40 : bodyB PP 40 = true := by kernel_rfl
theorem body_41 : bodyB PP 41 = true := by kernel_rfl
theorem body_42 : bodyB PP 42 = true := by kernel_rfl
theorem body_43 : bodyB PP 43 = true := by kernel_rfl
theorem body_44 : bodyB PP 44 = true := by kernel_rfl
theorem body_47 : bodyB PP 47 = true := by kernel_rfl
theorem body_48 : bodyB PP 48 = true := by kernel_rfl
theorem body_49 : bodyB PP 49 = true := by kernel_rfl
theorem body_50 : bodyB PP 50 = true := by kernel_rfl
theorem body_52 : bodyB PP 52 = true := by kernel_rfl
theorem body_53 : bodyB PP 53 = true := by kernel_rfl
theorem body_7 : bodyB PP 7 = true := by kernel_rfl
theorem body_8 : bodyB PP 8 = true := by kernel_rfl
theorem body_9 : bodyB PP 9 = true := by kernel_rfl
theorem body_95 : bodyB PP 95 = true := by kernel_rfl
theorem bool_4 : boolB PP 4 = true := by kernel_rfl
theorem bs_22_0 : ∀ (w : World), (Instr.buildSlice 22 0 #[]).run PP w = .ok (.slice (some ⟨w.heap.size, 0, none⟩) 0 0) (w.alloc (.cells #[] 32)) := by intros; kernel_rfl
theorem bs_22_1_ii64bbii64ii640 : ∀ (w : World) (x0 : Int) (x1 : Bool) (x2 : Bool) (x3 : Int) (x4 : Int), (Instr.buildSlice 22 1 #[(0, (.agg #[(.int .i64 x0), (.bool x1), (.bool x2), (.int .i64 x3), (.int .i64 x4)]))]).run PP w = .ok (.slice (some ⟨w.heap.size, 0, none⟩) 1 1) (w.alloc (.cells #[(.int .i64 x0), (.bool x1), (.bool x2), (.int .i64 x3), (.int .i64 x4)] 32)) := by intros; kernel_rfl
theorem bs_35_0 : ∀ (w : World), (Instr.buildSlice 35 0 #[]).run PP w = .ok (.slice (some ⟨w.heap.size, 0, none⟩) 0 0) (w.alloc (.cells #[] 5)) := by intros; kernel_rfl
theorem bs_35_1_iu80 : ∀ (w : World) (x0 : Int), (Instr.buildSlice 35 1 #[(0, (.int .u8 x0))]).run PP w = .ok (.slice (some ⟨w.heap.size, 0, none⟩) 1 1) (w.alloc (.cells #[(.int .u8 x0)] 5)) := by intros; kernel_rfl
theorem bs_35_3_iu80_iu81_iu82 : ∀ (w : World) (x0 : Int) (x1 : Int) (x2 : Int), (Instr.buildSlice 35 3 #[(0, (.int .u8 x0)), (1, (.int .u8 x1)), (2, (.int .u8 x2))]).run PP w = .ok (.slice (some ⟨w.heap.size, 0, none⟩) 3 3) (w.alloc (.cells #[(.int .u8 x0), (.int .u8 x1), (.int .u8 x2)] 5)) := by intros; kernel_rfl
theorem bs_42_1_ii64ii64bbs0 : ∀ (w : World) (x0 : Int) (x1 : Int) (x2 : Bool) (x3 : Bool) (x4 : Slc), (Instr.buildSlice 42 1 #[(0, (.agg #[(.int .i64 x0), (.int .i64 x1), (.bool x2), (.bool x3), (Slc.v x4)]))]).run PP w = .ok (.slice (some ⟨w.heap.size, 0, none⟩) 1 1) (w.alloc (.cells #[(.int .i64 x0), (.int .i64 x1), (.bool x2), (.bool x3), (Slc.v x4)] 37)) := by intros; kernel_rfl
theorem bs_54_1_ss0 : ∀ (w : World) (x0 : ByteArray) (x1 : Slc), (Instr.buildSlice 54 1 #[(0, (.agg #[(.string x0), (Slc.v x1)]))]).run PP w = .ok (.slice (some ⟨w.heap.size, 0, none⟩) 1 1) (w.alloc (.cells #[(.string x0), (Slc.v x1)] 87)) := by intros; kernel_rfl
theorem bs_57_1_ii64sii64ii64bbs0 : ∀ (w : World) (x0 : Int) (x1 : ByteArray) (x2 : Int) (x3 : Int) (x4 : Bool) (x5 : Bool) (x6 : Slc), (Instr.buildSlice 57 1 #[(0, (.agg #[(.int .i64 x0), (.string x1), (.int .i64 x2), (.int .i64 x3), (.bool x4), (.bool x5), (Slc.v x6)]))]).run PP w = .ok (.slice (some ⟨w.heap.size, 0, none⟩) 1 1) (w.alloc (.cells #[(.int .i64 x0), (.string x1), (.int .i64 x2), (.int .i64 x3), (.bool x4), (.bool x5), (Slc.v x6)] 39)) := by intros; kernel_rfl
theorem bs_72_1_s0 : ∀ (w : World) (x0 : ByteArray), (Instr.buildSlice 72 1 #[(0, (.string x0))]).run PP w = .ok (.slice (some ⟨w.heap.size, 0, none⟩) 1 1) (w.alloc (.cells #[(.string x0)] 9)) := by intros; kernel_rfl
theorem bs_72_3_s0_s1_s2 : ∀ (w : World) (x0 : ByteArray) (x1 : ByteArray) (x2 : ByteArray), (Instr.buildSlice 72 3 #[(0, (.string x0)), (1, (.string x1)), (2, (.string x2))]).run PP w = .ok (.slice (some ⟨w.heap.size, 0, none⟩) 3 3) (w.alloc (.cells #[(.string x0), (.string x1), (.string x2)] 9)) := by intros; kernel_rfl
theorem bs_82_1_ii64ii640 : ∀ (w : World) (x0 : Int) (x1 : Int), (Instr.buildSlice 82 1 #[(0, (.agg #[(.int .i64 x0), (.int .i64 x1)]))]).run PP w = .ok (.slice (some ⟨w.heap.size, 0, none⟩) 1 1) (w.alloc (.cells #[(.int .i64 x0), (.int .i64 x1)] 29)) := by intros; kernel_rfl
theorem eqg_29 : PP.eqGuardType PP.depth 29 = false := by kernel_rfl
theorem fld_29_0 : fldB PP 29 0 0 = true := by kernel_rfl
theorem fld_29_1 : fldB PP 29 1 1 = true := by kernel_rfl
theorem fld_32_0 : fldB PP 32 0 0 = true := by kernel_rfl
theorem fld_32_1 : fldB PP 32 1 1 = true := by kernel_rfl
theorem fld_32_2 : fldB PP 32 2 2 = true := by kernel_rfl
theorem fld_32_3 : fldB PP 32 3 3 = true := by kernel_rfl
theorem fld_32_4 : fldB PP 32 4 4 = true := by kernel_rfl
theorem fld_37_0 : fldB PP 37 0 0 = true := by kernel_rfl
theorem fld_37_1 : fldB PP 37 1 2 = true := by kernel_rfl
theorem fld_37_2 : fldB PP 37 2 3 = true := by kernel_rfl
theorem fld_37_3 : fldB PP 37 3 4 = true := by kernel_rfl
theorem fld_39_0 : fldB PP 39 0 0 = true := by kernel_rfl
theorem fld_39_1 : fldB PP 39 1 1 = true := by kernel_rfl
theorem fld_39_2 : fldB PP 39 2 2 = true := by kernel_rfl
theorem fld_61_0 : fldB PP 61 0 0 = true := by kernel_rfl
theorem fld_61_1 : fldB PP 61 1 1 = true := by kernel_rfl
theorem fld_66_0 : fldB PP 66 0 0 = true := by kernel_rfl
theorem fld_66_1 : fldB PP 66 1 1 = true := by kernel_rfl
theorem fld_87_0 : fldB PP 87 0 0 = true := by kernel_rfl
theorem fld_87_1 : fldB PP 87 1 1 = true := by kernel_rfl
theorem int_2 : intB PP 2 .i64 = true := by kernel_rfl
theorem int_3 : intB PP 3 .i64 = true := by kernel_rfl
theorem int_5 : intB PP 5 .u8 = true := by kernel_rfl
theorem map_74 : isMapB PP 74 = true := by kernel_rfl
theorem mixed : PP.follows .mixedOrders = true := by kernel_rfl
theorem ni_9 : notIfaceB PP 9 = true := by kernel_rfl
theorem one_2 : oneB PP 2 = true := by kernel_rfl
theorem one_22 : oneB PP 22 = true := by kernel_rfl
theorem one_3 : oneB PP 3 = true := by kernel_rfl
theorem one_35 : oneB PP 35 = true := by kernel_rfl
theorem one_4 : oneB PP 4 = true := by kernel_rfl
theorem one_42 : oneB PP 42 = true := by kernel_rfl
theorem one_64 : oneB PP 64 = true := by kernel_rfl
theorem one_9 : oneB PP 9 = true := by kernel_rfl
theorem ptr_24 : ptrB PP 24 = true := by kernel_rfl
theorem sl_22 : isSlcB PP 22 = true := by kernel_rfl
theorem sl_35 : isSlcB PP 35 = true := by kernel_rfl
theorem sl_42 : isSlcB PP 42 = true := by kernel_rfl
theorem sl_52 : isSlcB PP 52 = true := by kernel_rfl
theorem sl_54 : isSlcB PP 54 = true := by kernel_rfl
theorem sl_57 : isSlcB PP 57 = true := by kernel_rfl
theorem sl_72 : isSlcB PP 72 = true := by kernel_rfl
theorem sl_82 : isSlcB PP 82 = true := by kernel_rfl
theorem slc_22 : slcB PP 22 5 = true := by kernel_rfl
theorem slc_42 : slcB PP 42 5 = true := by kernel_rfl
theorem slc_52 : slcB PP 52 1 = true := by kernel_rfl
theorem slc_54 : slcB PP 54 2 = true := by kernel_rfl
theorem slc_57 : slcB PP 57 7 = true := by kernel_rfl
theorem slc_72 : slcB PP 72 1 = true := by kernel_rfl
theorem slc_82 : slcB PP 82 2 = true := by kernel_rfl
theorem some_2 : someB PP 2 = true := by kernel_rfl
theorem some_3 : someB PP 3 = true := by kernel_rfl
theorem stood_29 : PP.stoodInHeld 29 = false := by kernel_rfl
theorem str_9 : strB PP 9 = true := by kernel_rfl
theorem zero_29 : zeroB PP 29 (.agg #[(.int .i64 0), (.int .i64 0)]) := by unfold zeroB; kernel_rfl
theorem zero_30 : zeroB PP 30 (.agg #[(.int .i64 0), (.int .i64 0), (.int .i64 0), (.int .i64 0), (.int .i64 0), (.int .i64 0)]) := by unfold zeroB; kernel_rfl
theorem zero_32 : zeroB PP 32 (.agg #[(.int .i64 0), (.bool false), (.bool false), (.int .i64 0), (.int .i64 0)]) := by unfold zeroB; kernel_rfl
theorem zero_37 : zeroB PP 37 (.agg #[(.int .i64 0), (.int .i64 0), (.bool false), (.bool false), (Slc.v Slc.nil)]) := by unfold zeroB; kernel_rfl
theorem zero_39 : zeroB PP 39 (.agg #[(.int .i64 0), (.string (ByteArray.mk #[])), (.int .i64 0), (.int .i64 0), (.bool false), (.bool false), (Slc.v Slc.nil)]) := by unfold zeroB; kernel_rfl
theorem zero_87 : zeroB PP 87 (.agg #[(.string (ByteArray.mk #[])), (Slc.v Slc.nil)]) := by unfold zeroB; kernel_rfl
abbrev Ty_int' : TypeId := 3
theorem und_int : PP.underlying 3 = some (.int .i64) := by kernel_rfl
abbrev Ty_string' : TypeId := 9
theorem und_string : PP.underlying 9 = some .string := by kernel_rfl
abbrev Ty_uint8' : TypeId := 5
theorem und_uint8 : PP.underlying 5 = some (.int .u8) := by kernel_rfl
theorem slT_sl_sherdlaw15_Move : SlT PP Ty_sl_sherdlaw15_Move Ty_sherdlaw15_Move 5 32 (.agg #[(.int .i64 0), (.bool false), (.bool false), (.int .i64 0), (.int .i64 0)]) := ⟨by kernel_rfl, by kernel_rfl, rfl, by decide⟩
theorem slT_sl_uint8 : SlT PP Ty_sl_uint8 Ty_uint8 1 1 (.int .u8 0) := ⟨by kernel_rfl, by kernel_rfl, rfl, by decide⟩
theorem slT_sl_api_Entry : SlT PP Ty_sl_api_Entry Ty_api_Entry 5 48 (.agg #[(.int .i64 0), (.int .i64 0), (.bool false), (.bool false), (Slc.v Slc.nil)]) := ⟨by kernel_rfl, by kernel_rfl, rfl, by decide⟩
theorem slT_sl_api_Held : SlT PP Ty_sl_api_Held Ty_api_Held 2 40 (.agg #[(.string (ByteArray.mk #[])), (Slc.v Slc.nil)]) := ⟨by kernel_rfl, by kernel_rfl, rfl, by decide⟩
theorem slT_sl_api_Update : SlT PP Ty_sl_api_Update Ty_api_Update 7 72 (.agg #[(.int .i64 0), (.string (ByteArray.mk #[])), (.int .i64 0), (.int .i64 0), (.bool false), (.bool false), (Slc.v Slc.nil)]) := ⟨by kernel_rfl, by kernel_rfl, rfl, by decide⟩
theorem slT_sl_string : SlT PP Ty_sl_string Ty_string 1 16 (.string (ByteArray.mk #[])) := ⟨by kernel_rfl, by kernel_rfl, rfl, by decide⟩
theorem slT_sl_api_Tag : SlT PP Ty_sl_api_Tag Ty_api_Tag 2 16 (.agg #[(.int .i64 0), (.int .i64 0)]) := ⟨by kernel_rfl, by kernel_rfl, rfl, by decide⟩
theorem eqst_29 (n : Nat) {x0 y0 : Int} {x1 y1 : Int} : QE PP (n + 2) 29 (.agg #[(.int .i64 x0), (.int .i64 x1)]) (.agg #[(.int .i64 y0), (.int .i64 y1)]) (decide (x0 = y0) && (decide (x1 = y1))) := q_struct Try.underlying29 stood_29 (qf_cons rfl (p_one one_2 rfl) (p_one one_2 rfl) (q_int int_2) (qf_last rfl (p_one one_3 rfl) (p_one one_3 rfl) (q_int int_3)))
end Go.Proofs.Ytgnceldnfefnmaa
