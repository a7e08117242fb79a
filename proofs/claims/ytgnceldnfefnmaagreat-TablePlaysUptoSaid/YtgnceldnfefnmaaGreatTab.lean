/-
  The numbers of this seat's functions and types, and closed facts of the program's tables.
-/
import Derived.Test.YtgnceldnfefnmaaGreatProg
import Derived.Test.YtgnceldnfefnmaaGreatAny
namespace Go.Proofs.YtgnceldnfefnmaaGreat
open Go Go.Vc
noncomputable abbrev PP : Program := Tryz.prog
abbrev F_cmp_Compare_int : FuncId := 64
abbrev F_cmp_Compare_int64 : FuncId := 63
abbrev F_cmp_isNaN_int : FuncId := 80
abbrev F_cmp_isNaN_int64 : FuncId := 79
abbrev F_sherdlaw15_TablePlays : FuncId := 3
abbrev F_sherdlaw15_does : FuncId := 13
abbrev F_sherdlaw15_plays : FuncId := 8
abbrev F_sherdlaw15_roomy : FuncId := 37
abbrev F_sherdlaw15_sameAll : FuncId := 29
abbrev F_sherdlaw15_sameEntries : FuncId := 23
abbrev F_sherdlaw15_sameEntry : FuncId := 16
abbrev F_sherdlaw15_sameKeys : FuncId := 26
abbrev F_sherdlaw15_sameUpdates : FuncId := 32
abbrev F_sherdlaw15_taken : FuncId := 10
abbrev F_sherdlaw15_tells : FuncId := 9
abbrev F_sherdlaw15_untouched : FuncId := 40
abbrev F_sherdref15_May : FuncId := 55
abbrev F_sherdref15_New : FuncId := 4
abbrev F_sherdref15_Table_All : FuncId := 31
abbrev F_sherdref15_Table_Apply : FuncId := 41
abbrev F_sherdref15_Table_Copy : FuncId := 7
abbrev F_sherdref15_Table_Entries : FuncId := 25
abbrev F_sherdref15_Table_Floor : FuncId := 20
abbrev F_sherdref15_Table_Fragments : FuncId := 22
abbrev F_sherdref15_Table_Get : FuncId := 15
abbrev F_sherdref15_Table_Keys : FuncId := 28
abbrev F_sherdref15_Table_Top : FuncId := 18
abbrev F_sherdref15_Table_Updates : FuncId := 34
abbrev F_sherdref15_Table_Would : FuncId := 38
abbrev F_sherdref15_Table_fin : FuncId := 57
abbrev F_sherdref15_Table_finalized : FuncId := 45
abbrev F_sherdref15_Table_place : FuncId := 42
abbrev F_sherdref15_Table_pre : FuncId := 56
abbrev F_sherdref15_below : FuncId := 50
abbrev F_sherdref15_copied : FuncId := 12
abbrev F_slices_Clone : FuncId := 36
abbrev F_slices_MaxFunc : FuncId := 58
abbrev F_slices_Sort : FuncId := 51
abbrev F_slices_SortFunc_api_Entry_api_Entry : FuncId := 47
abbrev F_slices_SortFunc_api_Tag_api_Tag : FuncId := 59
abbrev F_table_New : FuncId := 5
abbrev F_table_Table_All : FuncId := 30
abbrev F_table_Table_Apply : FuncId := 35
abbrev F_table_Table_Copy : FuncId := 6
abbrev F_table_Table_Entries : FuncId := 24
abbrev F_table_Table_Entries_c1 : FuncId := 48
abbrev F_table_Table_Floor : FuncId := 19
abbrev F_table_Table_Fragments : FuncId := 21
abbrev F_table_Table_Get : FuncId := 14
abbrev F_table_Table_Keys : FuncId := 27
abbrev F_table_Table_Top : FuncId := 17
abbrev F_table_Table_Updates : FuncId := 33
abbrev F_table_Table_Would : FuncId := 39
abbrev F_table_Table_fin : FuncId := 54
abbrev F_table_Table_pre : FuncId := 53
abbrev F_table_copied : FuncId := 11
abbrev F_table_may : FuncId := 52
abbrev F_table_shelf_finalized : FuncId := 44
abbrev F_table_shelf_finalized_c1 : FuncId := 60
abbrev F_table_shelf_floor : FuncId := 46
abbrev F_tag_Compare : FuncId := 49
abbrev F_tag_Max : FuncId := 43
abbrev F_tag_Valid : FuncId := 66
abbrev F_tag_Zero : FuncId := 67
abbrev F_tag_proper : FuncId := 90
abbrev Ty_ : TypeId := 0
abbrev Ty_2_p_sherdref15_Table : TypeId := 26
abbrev Ty_2_p_table_Table : TypeId := 24
abbrev Ty_api_Entry : TypeId := 36
abbrev Ty_api_Held : TypeId := 92
abbrev Ty_api_Tag : TypeId := 33
abbrev Ty_api_Update : TypeId := 38
abbrev Ty_bool : TypeId := 4
abbrev Ty_int : TypeId := 3
abbrev Ty_int64 : TypeId := 2
abbrev Ty_map_string_table_shelf : TypeId := 50
abbrev Ty_sherdlaw15_Op : TypeId := 40
abbrev Ty_sherdref15_Row : TypeId := 57
abbrev Ty_sherdref15_Table : TypeId := 49
abbrev Ty_sl_api_Entry : TypeId := 64
abbrev Ty_sl_api_Held : TypeId := 70
abbrev Ty_sl_api_Tag : TypeId := 82
abbrev Ty_sl_api_Update : TypeId := 73
abbrev Ty_sl_sherdlaw15_Op : TypeId := 22
abbrev Ty_sl_sherdref15_Row : TypeId := 47
abbrev Ty_sl_string : TypeId := 67
abbrev Ty_sl_uint8 : TypeId := 34
abbrev Ty_string : TypeId := 9
abbrev Ty_table_Table : TypeId := 52
abbrev Ty_table_shelf : TypeId := 54
abbrev Ty_uint8 : TypeId := 5
set_option maxRecDepth 100000
theorem agg_33 : aggB PP 33 2 = true := by kernel_rfl
theorem agg_36 : aggB PP 36 5 = true := by kernel_rfl
theorem agg_38 : aggB PP 38 7 = true := by kernel_rfl
theorem agg_40 : aggB PP 40 13 = true := by kernel_rfl
theorem agg_57 : aggB PP 57 6 = true := by kernel_rfl
theorem agg_92 : aggB PP 92 2 = true := by kernel_rfl
theorem arr_24 : arrB PP 24 2 1 = true := by kernel_rfl
theorem arr_26 : arrB PP 26 2 1 = true := by kernel_rfl
theorem bd_33 : ∀ (w : World), (Instr.build 33 #[]).run PP w = .ok (.agg #[(.int .i64 0), (.int .i64 0)]) w := by intros; kernel_rfl
theorem bd_33_ii640_ii641 : ∀ (w : World) (x0 : Int) (x1 : Int), (Instr.build 33 #[(0, (.int .i64 x0)), (1, (.int .i64 x1))]).run PP w = .ok (.agg #[(.int .i64 x0), (.int .i64 x1)]) w := by intros; kernel_rfl
theorem bd_36 : ∀ (w : World), (Instr.build 36 #[]).run PP w = .ok (.agg #[(.int .i64 0), (.int .i64 0), (.bool false), (.bool false), (Slc.v Slc.nil)]) w := by intros; kernel_rfl
theorem bd_36_ii64ii640 : ∀ (w : World) (x0 : Int) (x1 : Int), (Instr.build 36 #[(0, (.agg #[(.int .i64 x0), (.int .i64 x1)]))]).run PP w = .ok (.agg #[(.int .i64 x0), (.int .i64 x1), (.bool false), (.bool false), (Slc.v Slc.nil)]) w := by intros; kernel_rfl
theorem bd_36_ii64ii640_b1 : ∀ (w : World) (x0 : Int) (x1 : Int) (x2 : Bool), (Instr.build 36 #[(0, (.agg #[(.int .i64 x0), (.int .i64 x1)])), (1, (.bool x2))]).run PP w = .ok (.agg #[(.int .i64 x0), (.int .i64 x1), (.bool x2), (.bool false), (Slc.v Slc.nil)]) w := by intros; kernel_rfl
theorem bd_36_ii64ii640_b1_b2_s3 : ∀ (w : World) (x0 : Int) (x1 : Int) (x2 : Bool) (x3 : Bool) (x4 : Slc), (Instr.build 36 #[(0, (.agg #[(.int .i64 x0), (.int .i64 x1)])), (1, (.bool x2)), (2, (.bool x3)), (3, (Slc.v x4))]).run PP w = .ok (.agg #[(.int .i64 x0), (.int .i64 x1), (.bool x2), (.bool x3), (Slc.v x4)]) w := by intros; kernel_rfl
theorem bd_36_ii64ii640_b2_s3 : ∀ (w : World) (x0 : Int) (x1 : Int) (x2 : Bool) (x3 : Slc), (Instr.build 36 #[(0, (.agg #[(.int .i64 x0), (.int .i64 x1)])), (2, (.bool x2)), (3, (Slc.v x3))]).run PP w = .ok (.agg #[(.int .i64 x0), (.int .i64 x1), (.bool false), (.bool x2), (Slc.v x3)]) w := by intros; kernel_rfl
theorem bd_36_ii64ii640_s3 : ∀ (w : World) (x0 : Int) (x1 : Int) (x2 : Slc), (Instr.build 36 #[(0, (.agg #[(.int .i64 x0), (.int .i64 x1)])), (3, (Slc.v x2))]).run PP w = .ok (.agg #[(.int .i64 x0), (.int .i64 x1), (.bool false), (.bool false), (Slc.v x2)]) w := by intros; kernel_rfl
theorem bd_38_ii640_s1_ii64ii64bbs2 : ∀ (w : World) (x0 : Int) (x1 : ByteArray) (x2 : Int) (x3 : Int) (x4 : Bool) (x5 : Bool) (x6 : Slc), (Instr.build 38 #[(0, (.int .i64 x0)), (1, (.string x1)), (2, (.agg #[(.int .i64 x2), (.int .i64 x3), (.bool x4), (.bool x5), (Slc.v x6)]))]).run PP w = .ok (.agg #[(.int .i64 x0), (.string x1), (.int .i64 x2), (.int .i64 x3), (.bool x4), (.bool x5), (Slc.v x6)]) w := by intros; kernel_rfl
theorem bd_49_ii640 : ∀ (w : World) (x0 : Int), (Instr.build 49 #[(0, (.int .i64 x0))]).run PP w = .ok (.agg #[(.int .i64 x0), (Slc.v Slc.nil)]) w := by intros; kernel_rfl
theorem bd_52_ii640_m1 : ∀ (w : World) (x0 : Int) (x1 : Option Nat), (Instr.build 52 #[(0, (.int .i64 x0)), (1, (.map x1))]).run PP w = .ok (.agg #[(.int .i64 x0), (.map x1)]) w := by intros; kernel_rfl
theorem bd_57_s0_ii64ii64bbs1 : ∀ (w : World) (x0 : ByteArray) (x1 : Int) (x2 : Int) (x3 : Bool) (x4 : Bool) (x5 : Slc), (Instr.build 57 #[(0, (.string x0)), (1, (.agg #[(.int .i64 x1), (.int .i64 x2), (.bool x3), (.bool x4), (Slc.v x5)]))]).run PP w = .ok (.agg #[(.string x0), (.int .i64 x1), (.int .i64 x2), (.bool x3), (.bool x4), (Slc.v x5)]) w := by intros; kernel_rfl
theorem bd_92_s0_s1 : ∀ (w : World) (x0 : ByteArray) (x1 : Slc), (Instr.build 92 #[(0, (.string x0)), (1, (Slc.v x1))]).run PP w = .ok (.agg #[(.string x0), (Slc.v x1)]) w := by intros; kernel_rfl
theorem body_10 : bodyB PP 10 = true := by kernel_rfl
theorem body_11 : bodyB PP 11 = true := by kernel_rfl
theorem body_12 : bodyB PP 12 = true := by kernel_rfl
theorem body_13 : bodyB PP 13 = true := by kernel_rfl
theorem body_14 : bodyB PP 14 = true := by kernel_rfl
theorem body_15 : bodyB PP 15 = true := by kernel_rfl
theorem body_16 : bodyB PP 16 = true := by kernel_rfl
theorem body_17 : bodyB PP 17 = true := by kernel_rfl
theorem body_18 : bodyB PP 18 = true := by kernel_rfl
theorem body_19 : bodyB PP 19 = true := by kernel_rfl
theorem body_20 : bodyB PP 20 = true := by kernel_rfl
theorem body_21 : bodyB PP 21 = true := by kernel_rfl
theorem body_22 : bodyB PP 22 = true := by kernel_rfl
theorem body_23 : bodyB PP 23 = true := by kernel_rfl
theorem body_24 : bodyB PP 24 = true := by kernel_rfl
theorem body_25 : bodyB PP 25 = true := by kernel_rfl
theorem body_26 : bodyB PP 26 = true := by kernel_rfl
theorem body_27 : bodyB PP 27 = true := by kernel_rfl
theorem body_28 : bodyB PP 28 = true := by kernel_rfl
theorem body_29 : bodyB PP 29 = true := by kernel_rfl
theorem body_30 : bodyB PP 30 = true := by kernel_rfl
theorem body_31 : bodyB PP 31 = true := by kernel_rfl
theorem body_32 : bodyB PP 32 = true := by kernel_rfl
theorem body_33 : bodyB PP 33 = true := by kernel_rfl
theorem body_34 : bodyB PP 34 = true := by kernel_rfl
theorem body_35 : bodyB PP 35 = true := by kernel_rfl
theorem body_36 : bodyB PP 36 = true := by kernel_rfl
theorem body_37 : bodyB PP 37 = true := by kernel_rfl
theorem body_38 : bodyB PP 38 = true := by kernel_rfl
theorem body_39 : bodyB PP 39 = true := by kernel_rfl
theorem body_4 : bodyB PP 4 = true := by kernel_rfl
theorem body_40 : bodyB PP 40 = true := by kernel_rfl
theorem body_41 : bodyB PP 41 = true := by kernel_rfl
theorem body_42 : bodyB PP 42 = true := by kernel_rfl
theorem body_43 : bodyB PP 43 = true := by kernel_rfl
theorem body_44 : bodyB PP 44 = true := by kernel_rfl
theorem body_45 : bodyB PP 45 = true := by kernel_rfl
theorem body_46 : bodyB PP 46 = true := by kernel_rfl
theorem body_47 : bodyB PP 47 = true := by kernel_rfl
theorem body_49 : bodyB PP 49 = true := by kernel_rfl
theorem body_5 : bodyB PP 5 = true := by kernel_rfl
theorem body_50 : bodyB PP 50 = true := by kernel_rfl
theorem body_51 : bodyB PP 51 = true := by kernel_rfl
theorem body_52 : bodyB PP 52 = true := by kernel_rfl
theorem body_53 : bodyB PP 53 = true := by kernel_rfl
theorem body_54 : bodyB PP 54 = true := by kernel_rfl
theorem body_55 : bodyB PP 55 = true := by kernel_rfl
theorem body_56 : bodyB PP 56 = true := by kernel_rfl
theorem body_57 : bodyB PP 57 = true := by kernel_rfl
theorem body_58 : bodyB PP 58 = true := by kernel_rfl
theorem body_59 : bodyB PP 59 = true := by kernel_rfl
theorem body_6 : bodyB PP 6 = true := by kernel_rfl
theorem body_63 : bodyB PP 63 = true := by kernel_rfl
theorem body_64 : bodyB PP 64 = true := by kernel_rfl
theorem body_66 : bodyB PP 66 = true := by kernel_rfl
theorem body_67 : bodyB PP 67 = true := by kernel_rfl
theorem body_7 : bodyB PP 7 = true := by kernel_rfl
theorem body_79 : bodyB PP 79 = true := by kernel_rfl
theorem body_8 : bodyB PP 8 = true := by kernel_rfl
theorem body_80 : bodyB PP 80 = true := by kernel_rfl
theorem body_9 : bodyB PP 9 = true := by kernel_rfl
theorem body_90 : bodyB PP 90 = true := by kernel_rfl
theorem bool_4 : boolB PP 4 = true := by kernel_rfl
theorem bs_34_0 : ∀ (w : World), (Instr.buildSlice 34 0 #[]).run PP w = .ok (.slice (some ⟨w.heap.size, 0, none⟩) 0 0) (w.alloc (.cells #[] 5)) := by intros; kernel_rfl
theorem bs_34_1_iu80 : ∀ (w : World) (x0 : Int), (Instr.buildSlice 34 1 #[(0, (.int .u8 x0))]).run PP w = .ok (.slice (some ⟨w.heap.size, 0, none⟩) 1 1) (w.alloc (.cells #[(.int .u8 x0)] 5)) := by intros; kernel_rfl
theorem bs_47_1_sii64ii64bbs0 : ∀ (w : World) (x0 : ByteArray) (x1 : Int) (x2 : Int) (x3 : Bool) (x4 : Bool) (x5 : Slc), (Instr.buildSlice 47 1 #[(0, (.agg #[(.string x0), (.int .i64 x1), (.int .i64 x2), (.bool x3), (.bool x4), (Slc.v x5)]))]).run PP w = .ok (.slice (some ⟨w.heap.size, 0, none⟩) 1 1) (w.alloc (.cells #[(.string x0), (.int .i64 x1), (.int .i64 x2), (.bool x3), (.bool x4), (Slc.v x5)] 57)) := by intros; kernel_rfl
theorem bs_64_1_ii64ii64bbs0 : ∀ (w : World) (x0 : Int) (x1 : Int) (x2 : Bool) (x3 : Bool) (x4 : Slc), (Instr.buildSlice 64 1 #[(0, (.agg #[(.int .i64 x0), (.int .i64 x1), (.bool x2), (.bool x3), (Slc.v x4)]))]).run PP w = .ok (.slice (some ⟨w.heap.size, 0, none⟩) 1 1) (w.alloc (.cells #[(.int .i64 x0), (.int .i64 x1), (.bool x2), (.bool x3), (Slc.v x4)] 36)) := by intros; kernel_rfl
theorem bs_67_1_s0 : ∀ (w : World) (x0 : ByteArray), (Instr.buildSlice 67 1 #[(0, (.string x0))]).run PP w = .ok (.slice (some ⟨w.heap.size, 0, none⟩) 1 1) (w.alloc (.cells #[(.string x0)] 9)) := by intros; kernel_rfl
theorem bs_70_1_ss0 : ∀ (w : World) (x0 : ByteArray) (x1 : Slc), (Instr.buildSlice 70 1 #[(0, (.agg #[(.string x0), (Slc.v x1)]))]).run PP w = .ok (.slice (some ⟨w.heap.size, 0, none⟩) 1 1) (w.alloc (.cells #[(.string x0), (Slc.v x1)] 92)) := by intros; kernel_rfl
theorem bs_73_1_ii64sii64ii64bbs0 : ∀ (w : World) (x0 : Int) (x1 : ByteArray) (x2 : Int) (x3 : Int) (x4 : Bool) (x5 : Bool) (x6 : Slc), (Instr.buildSlice 73 1 #[(0, (.agg #[(.int .i64 x0), (.string x1), (.int .i64 x2), (.int .i64 x3), (.bool x4), (.bool x5), (Slc.v x6)]))]).run PP w = .ok (.slice (some ⟨w.heap.size, 0, none⟩) 1 1) (w.alloc (.cells #[(.int .i64 x0), (.string x1), (.int .i64 x2), (.int .i64 x3), (.bool x4), (.bool x5), (Slc.v x6)] 38)) := by intros; kernel_rfl
theorem bs_82_1_ii64ii640 : ∀ (w : World) (x0 : Int) (x1 : Int), (Instr.buildSlice 82 1 #[(0, (.agg #[(.int .i64 x0), (.int .i64 x1)]))]).run PP w = .ok (.slice (some ⟨w.heap.size, 0, none⟩) 1 1) (w.alloc (.cells #[(.int .i64 x0), (.int .i64 x1)] 33)) := by intros; kernel_rfl
theorem eqg_33 : PP.eqGuardType PP.depth 33 = false := by kernel_rfl
theorem fld_33_0 : fldB PP 33 0 0 = true := by kernel_rfl
theorem fld_33_1 : fldB PP 33 1 1 = true := by kernel_rfl
theorem fld_36_0 : fldB PP 36 0 0 = true := by kernel_rfl
theorem fld_36_1 : fldB PP 36 1 2 = true := by kernel_rfl
theorem fld_36_2 : fldB PP 36 2 3 = true := by kernel_rfl
theorem fld_36_3 : fldB PP 36 3 4 = true := by kernel_rfl
theorem fld_38_0 : fldB PP 38 0 0 = true := by kernel_rfl
theorem fld_38_1 : fldB PP 38 1 1 = true := by kernel_rfl
theorem fld_38_2 : fldB PP 38 2 2 = true := by kernel_rfl
theorem fld_40_0 : fldB PP 40 0 0 = true := by kernel_rfl
theorem fld_40_1 : fldB PP 40 1 1 = true := by kernel_rfl
theorem fld_40_2 : fldB PP 40 2 2 = true := by kernel_rfl
theorem fld_40_3 : fldB PP 40 3 9 = true := by kernel_rfl
theorem fld_40_4 : fldB PP 40 4 10 = true := by kernel_rfl
theorem fld_40_5 : fldB PP 40 5 12 = true := by kernel_rfl
theorem fld_49_0 : fldB PP 49 0 0 = true := by kernel_rfl
theorem fld_49_1 : fldB PP 49 1 1 = true := by kernel_rfl
theorem fld_52_0 : fldB PP 52 0 0 = true := by kernel_rfl
theorem fld_52_1 : fldB PP 52 1 1 = true := by kernel_rfl
theorem fld_57_0 : fldB PP 57 0 0 = true := by kernel_rfl
theorem fld_57_1 : fldB PP 57 1 1 = true := by kernel_rfl
theorem fld_92_0 : fldB PP 92 0 0 = true := by kernel_rfl
theorem fld_92_1 : fldB PP 92 1 1 = true := by kernel_rfl
theorem int_2 : intB PP 2 .i64 = true := by kernel_rfl
theorem int_3 : intB PP 3 .i64 = true := by kernel_rfl
theorem map_54 : isMapB PP 54 = true := by kernel_rfl
theorem mixed : PP.follows .mixedOrders = true := by kernel_rfl
theorem ni_9 : notIfaceB PP 9 = true := by kernel_rfl
theorem one_2 : oneB PP 2 = true := by kernel_rfl
theorem one_23 : oneB PP 23 = true := by kernel_rfl
theorem one_25 : oneB PP 25 = true := by kernel_rfl
theorem one_3 : oneB PP 3 = true := by kernel_rfl
theorem one_34 : oneB PP 34 = true := by kernel_rfl
theorem one_4 : oneB PP 4 = true := by kernel_rfl
theorem one_47 : oneB PP 47 = true := by kernel_rfl
theorem one_5 : oneB PP 5 = true := by kernel_rfl
theorem one_50 : oneB PP 50 = true := by kernel_rfl
theorem one_64 : oneB PP 64 = true := by kernel_rfl
theorem one_9 : oneB PP 9 = true := by kernel_rfl
theorem ptr_23 : ptrB PP 23 = true := by kernel_rfl
theorem ptr_25 : ptrB PP 25 = true := by kernel_rfl
theorem sl_22 : isSlcB PP 22 = true := by kernel_rfl
theorem sl_34 : isSlcB PP 34 = true := by kernel_rfl
theorem sl_47 : isSlcB PP 47 = true := by kernel_rfl
theorem sl_64 : isSlcB PP 64 = true := by kernel_rfl
theorem sl_67 : isSlcB PP 67 = true := by kernel_rfl
theorem sl_70 : isSlcB PP 70 = true := by kernel_rfl
theorem sl_73 : isSlcB PP 73 = true := by kernel_rfl
theorem sl_82 : isSlcB PP 82 = true := by kernel_rfl
theorem slc_22 : slcB PP 22 13 = true := by kernel_rfl
theorem slc_34 : slcB PP 34 1 = true := by kernel_rfl
theorem slc_47 : slcB PP 47 6 = true := by kernel_rfl
theorem slc_64 : slcB PP 64 5 = true := by kernel_rfl
theorem slc_67 : slcB PP 67 1 = true := by kernel_rfl
theorem slc_70 : slcB PP 70 2 = true := by kernel_rfl
theorem slc_73 : slcB PP 73 7 = true := by kernel_rfl
theorem slc_82 : slcB PP 82 2 = true := by kernel_rfl
theorem stood_33 : PP.stoodInHeld 33 = false := by kernel_rfl
theorem str_9 : strB PP 9 = true := by kernel_rfl
theorem zero_24 : zeroB PP 24 (.agg #[(.pointer none), (.pointer none)]) := by unfold zeroB; kernel_rfl
theorem zero_26 : zeroB PP 26 (.agg #[(.pointer none), (.pointer none)]) := by unfold zeroB; kernel_rfl
theorem zero_33 : zeroB PP 33 (.agg #[(.int .i64 0), (.int .i64 0)]) := by unfold zeroB; kernel_rfl
theorem zero_36 : zeroB PP 36 (.agg #[(.int .i64 0), (.int .i64 0), (.bool false), (.bool false), (Slc.v Slc.nil)]) := by unfold zeroB; kernel_rfl
theorem zero_38 : zeroB PP 38 (.agg #[(.int .i64 0), (.string (ByteArray.mk #[])), (.int .i64 0), (.int .i64 0), (.bool false), (.bool false), (Slc.v Slc.nil)]) := by unfold zeroB; kernel_rfl
theorem zero_40 : zeroB PP 40 (.agg #[(.int .i64 0), (.int .i64 0), (.int .i64 0), (.string (ByteArray.mk #[])), (.int .i64 0), (.int .i64 0), (.bool false), (.bool false), (Slc.v Slc.nil), (.string (ByteArray.mk #[])), (.int .i64 0), (.int .i64 0), (.int .i64 0)]) := by unfold zeroB; kernel_rfl
theorem zero_57 : zeroB PP 57 (.agg #[(.string (ByteArray.mk #[])), (.int .i64 0), (.int .i64 0), (.bool false), (.bool false), (Slc.v Slc.nil)]) := by unfold zeroB; kernel_rfl
theorem zero_92 : zeroB PP 92 (.agg #[(.string (ByteArray.mk #[])), (Slc.v Slc.nil)]) := by unfold zeroB; kernel_rfl
theorem und_int : PP.underlying 3 = some (.int .i64) := by kernel_rfl
theorem und_string : PP.underlying 9 = some .string := by kernel_rfl
theorem und_uint8 : PP.underlying 5 = some (.int .u8) := by kernel_rfl
theorem slT_sl_uint8 : SlT PP Ty_sl_uint8 Ty_uint8 1 1 (.int .u8 0) := ⟨by kernel_rfl, by kernel_rfl, rfl, by decide⟩
theorem slT_sl_sherdref15_Row : SlT PP Ty_sl_sherdref15_Row Ty_sherdref15_Row 6 64 (.agg #[(.string (ByteArray.mk #[])), (.int .i64 0), (.int .i64 0), (.bool false), (.bool false), (Slc.v Slc.nil)]) := ⟨by kernel_rfl, by kernel_rfl, rfl, by decide⟩
theorem slT_sl_api_Entry : SlT PP Ty_sl_api_Entry Ty_api_Entry 5 48 (.agg #[(.int .i64 0), (.int .i64 0), (.bool false), (.bool false), (Slc.v Slc.nil)]) := ⟨by kernel_rfl, by kernel_rfl, rfl, by decide⟩
theorem slT_sl_string : SlT PP Ty_sl_string Ty_string 1 16 (.string (ByteArray.mk #[])) := ⟨by kernel_rfl, by kernel_rfl, rfl, by decide⟩
theorem slT_sl_api_Held : SlT PP Ty_sl_api_Held Ty_api_Held 2 40 (.agg #[(.string (ByteArray.mk #[])), (Slc.v Slc.nil)]) := ⟨by kernel_rfl, by kernel_rfl, rfl, by decide⟩
theorem slT_sl_api_Update : SlT PP Ty_sl_api_Update Ty_api_Update 7 72 (.agg #[(.int .i64 0), (.string (ByteArray.mk #[])), (.int .i64 0), (.int .i64 0), (.bool false), (.bool false), (Slc.v Slc.nil)]) := ⟨by kernel_rfl, by kernel_rfl, rfl, by decide⟩
theorem slT_sl_api_Tag : SlT PP Ty_sl_api_Tag Ty_api_Tag 2 16 (.agg #[(.int .i64 0), (.int .i64 0)]) := ⟨by kernel_rfl, by kernel_rfl, rfl, by decide⟩
theorem eqst_33 (n : Nat) {x0 y0 : Int} {x1 y1 : Int} : QE PP (n + 2) 33 (.agg #[(.int .i64 x0), (.int .i64 x1)]) (.agg #[(.int .i64 y0), (.int .i64 y1)]) (decide (x0 = y0) && (decide (x1 = y1))) := q_struct Tryz.underlying33 stood_33 (qf_cons rfl (p_one one_2 rfl) (p_one one_2 rfl) (q_int int_2) (qf_last rfl (p_one one_3 rfl) (p_one one_3 rfl) (q_int int_3)))
end Go.Proofs.YtgnceldnfefnmaaGreat
