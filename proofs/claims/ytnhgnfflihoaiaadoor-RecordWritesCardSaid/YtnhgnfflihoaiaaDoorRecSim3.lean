/-
  The conditions give the machine's calls; printed by vcgen.py.
-/
import Derived.Test.YtnhgnfflihoaiaaDoorRecVc
namespace Go.Proofs.YtnhgnfflihoaiaaDoor
open Go Go.Vc
set_option maxRecDepth 100000 in
set_option maxHeartbeats 4000000 in
theorem sim_record_headOf (h_Config_N1 : Int) (h_Config_K2 : Int) (h_Config_Delta3 : Int) (h_Server4 : Int) (w : World) (Q : Ending → World → Prop) (h : vc_record_headOf h_Config_N1 h_Config_K2 h_Config_Delta3 h_Server4 w Q) : Calls PP F_record_headOf #[(.agg #[(.int .i64 h_Config_N1), (.int .i64 h_Config_K2), (.int .i64 h_Config_Delta3), (.int .i64 h_Server4)])] w Q := by
  unfold vc_record_headOf at h
  refine enter (n := 40) (l := [(.agg #[(.int .i64 h_Config_N1), (.int .i64 h_Config_K2), (.int .i64 h_Config_Delta3), (.int .i64 h_Server4)])]) Tryd.func24 rfl rfl (Nat.le_of_ble_eq_true rfl) fun a H => ?_
  replace H : Has 40 [] a [(0, (.agg #[(.int .i64 h_Config_N1), (.int .i64 h_Config_K2), (.int .i64 h_Config_Delta3), (.int .i64 h_Server4)]))] := H
  refine c_seq fun K5 hK5 => ?_
  refine c_reg ?_
  replace h := h.get
  obtain ⟨b6, w7, nb8, h⟩ := h
  refine s_box H rfl rfl (lt_ rfl) ?_
  rw [← nb8.at_]
  clear H a
  intro a H
  refine nb8.go ?_
  refine s_assign H rfl rfl (lt_ rfl) ?_
  clear H a
  intro a H
  refine c_nil ?_
  refine hK5 _ _ ?_
  refine c_seq fun K9 hK9 => ?_
  refine c_reg ?_
  refine s_call H rfl body_37 (H.args (vs := []) rfl) (lt_ rfl) h ?_ (fun c w' h H => e_panic (P := PP) (fn := Tryd.f24) H h)
  clear H h a
  rintro _ w10 a ⟨NewWri11, rfl, h⟩ H
  refine s_assign H rfl rfl (lt_ rfl) ?_
  clear H a
  intro a H
  refine c_nil ?_
  refine hK9 _ _ ?_
  refine c_seq fun K12 hK12 => ?_
  refine c_reg ?_
  refine s_move H rfl rfl (lt_ rfl) ?_
  clear H a
  intro a H
  refine s_call H rfl body_38 (H.args (vs := [(.pointer NewWri11), (.int .u8 72)]) rfl) (lt_ rfl) h ?_ (fun c w' h H => e_panic (P := PP) (fn := Tryd.f24) H h)
  clear H h a
  rintro _ w13 a ⟨rfl, h⟩ H
  refine c_nil ?_
  refine hK12 _ _ ?_
  refine c_seq fun K14 hK14 => ?_
  refine c_seq fun K15 hK15 => ?_
  refine c_reg ?_
  refine s_fld H rfl rfl fld_25_0 (lt_ rfl) ?_
  clear H a
  intro a H
  refine s_fld H rfl rfl fld_23_0 (lt_ rfl) ?_
  clear H a
  intro a H
  obtain ⟨l16, hc17, h⟩ := h
  refine s_load (v := (.int .i64 l16)) H rfl rfl one_3 hc17 (lt_ rfl) ?_
  clear H a
  intro a H
  refine s_fld H rfl rfl fld_25_0 (lt_ rfl) ?_
  clear H a
  intro a H
  refine s_fld H rfl rfl fld_23_1 (lt_ rfl) ?_
  clear H a
  intro a H
  obtain ⟨l18, hc19, h⟩ := h
  refine s_load (v := (.int .i64 l18)) H rfl rfl one_3 hc19 (lt_ rfl) ?_
  clear H a
  intro a H
  refine s_fld H rfl rfl fld_25_0 (lt_ rfl) ?_
  clear H a
  intro a H
  refine s_fld H rfl rfl fld_23_2 (lt_ rfl) ?_
  clear H a
  intro a H
  obtain ⟨l20, hc21, h⟩ := h
  refine s_load (v := (.int .i64 l20)) H rfl rfl one_3 hc21 (lt_ rfl) ?_
  clear H a
  intro a H
  refine s_fld H rfl rfl fld_25_1 (lt_ rfl) ?_
  clear H a
  intro a H
  obtain ⟨l22, hc23, h⟩ := h
  refine s_load (v := (.int .i64 l22)) H rfl rfl one_3 hc23 (lt_ rfl) ?_
  clear H a
  intro a H
  replace h := h.get
  obtain ⟨b24, w25, nb26, h⟩ := h
  refine s_bslc H rfl (by rw [H.parts (vs := [(0, (.int .i64 l16)), (1, (.int .i64 l18)), (2, (.int .i64 l20)), (3, (.int .i64 l22))]) rfl]; exact bs_50_4_ii640_ii641_ii642_ii643 w13 l16 l18 l20 l22) (lt_ rfl) ?_
  rw [← nb26.at_]
  clear H a
  intro a H
  refine nb26.go ?_
  refine s_blt H rfl (H.args (vs := [(Slc.v (Slc.mk (some (blk b24)) 4 4))]) rfl) (lt_ rfl) (fun cs => b_lenS (z := Slc.mk (some (blk b24)) 4 4) sl_50) ?_
  clear H a
  intro a H
  refine s_move H rfl rfl (lt_ rfl) ?_
  clear H a
  intro a H
  refine c_nil ?_
  refine hK15 _ _ ?_
  refine c_block ?_
  obtain ⟨I29, mu30, h079, hl80⟩ := h
  refine c_loop (σ := Int) (fun z w => I29 z w) (fun z w => mu30 z w) (fun z => [(3, (.pointer NewWri11)), (21, (Slc.v (Slc.mk (some (blk b24)) 4 4))), (22, (.int .i64 ((Slc.mk (some (blk b24)) 4 4).l : Int))), (23, (.int .i64 z))]) 0 h079 (H.weaken ⟨rfl, rfl, rfl, rfl, trivial⟩) ?_
  clear H h079
  rintro s27 a w28 h H
  replace h := hl80 s27 w28 h
  clear hl80
  replace H : Has 40 [] a [(3, (.pointer NewWri11)), (21, (Slc.v (Slc.mk (some (blk b24)) 4 4))), (22, (.int .i64 ((Slc.mk (some (blk b24)) 4 4).l : Int))), (23, (.int .i64 s27))] := H
  refine c_seq fun K31 hK31 => ?_
  refine c_reg ?_
  refine s_bin H rfl rfl rfl r_lss (lt_ rfl) ?_
  clear H a
  intro a H
  refine c_nil ?_
  refine hK31 _ _ ?_
  refine c_seq fun K32 hK32 => ?_
  refine c_cond H rfl (fun hb33 => ?_) (fun hb33 => ?_)
  · replace h := h.1 hb33
    refine c_skip ?_
    refine hK32 _ _ ?_
    refine c_seq fun K34 hK34 => ?_
    refine c_block ?_
    refine c_seq fun K35 hK35 => ?_
    refine c_reg ?_
    obtain ⟨a36, hi37, hi38, hi39, h⟩ := h
    refine s_idxS (s := Slc.mk (some (blk b24)) 4 4) H rfl rfl rfl slc_50 hi37 hi38 hi39 (lt_ rfl) ?_
    clear H a
    intro a H
    obtain ⟨l40, hc41, h⟩ := h
    refine s_load (v := (.int .i64 l40)) H rfl rfl one_3 hc41 (lt_ rfl) ?_
    clear H a
    intro a H
    refine s_assign H rfl rfl (lt_ rfl) ?_
    clear H a
    intro a H
    refine c_nil ?_
    refine hK35 _ _ ?_
    refine c_reg ?_
    refine s_move H rfl rfl (lt_ rfl) ?_
    clear H a
    intro a H
    refine s_move H rfl rfl (lt_ rfl) ?_
    clear H a
    intro a H
    refine s_call H rfl body_52 (H.args (vs := [(.pointer NewWri11), (.int .i64 l40)]) rfl) (lt_ rfl) h ?_ (fun c w' h H => e_panic (P := PP) (fn := Tryd.f24) H h)
    clear H h a
    rintro _ w42 a ⟨rfl, h⟩ H
    refine c_nil ?_
    refine hK34 _ _ ?_
    refine c_reg ?_
    refine s_bin H rfl rfl rfl r_add (lt_ rfl) ?_
    clear H a
    intro a H
    refine s_move H rfl rfl (lt_ rfl) ?_
    clear H a
    intro a H
    refine c_nil ?_
    refine Exists.intro (wr .i64 (s27 + 1)) ⟨h.1, h.2, H.weaken ⟨rfl, rfl, rfl, rfl, trivial⟩⟩
  · replace h := h.2 hb33
    refine c_exit ?_
    simp only [Exit.then, Exit.inBlock, ↓reduceIte, Nat.reduceEqDiff]
    refine hK14 _ _ ?_
    refine c_seq fun K47 hK47 => ?_
    refine c_reg ?_
    refine s_move H rfl rfl (lt_ rfl) ?_
    clear H a
    intro a H
    refine s_call H rfl body_41 (H.args (vs := [(.pointer NewWri11)]) rfl) (lt_ rfl) h ?_ (fun c w' h H => e_panic (P := PP) (fn := Tryd.f24) H h)
    clear H h a
    rintro _ w48 a ⟨Data49, rfl, h⟩ H
    refine s_assign H rfl rfl (lt_ rfl) ?_
    clear H a
    intro a H
    refine c_nil ?_
    refine hK47 _ _ ?_
    refine c_seq fun K50 hK50 => ?_
    refine c_reg ?_
    refine s_move H rfl rfl (lt_ rfl) ?_
    clear H a
    intro a H
    refine s_move H rfl rfl (lt_ rfl) ?_
    clear H a
    intro a H
    replace h := h.get
    obtain ⟨b51, w52, nb53, h⟩ := h
    refine s_bslc H rfl (by rw [H.parts (vs := [(0, (Slc.v Data49))]) rfl]; exact bs_37_1_s0 w48 Data49) (lt_ rfl) ?_
    rw [← nb53.at_]
    clear H a
    intro a H
    refine nb53.go ?_
    refine s_call H rfl body_43 (H.args (vs := [(Slc.v (Slc.mk (some (blk b51)) 1 1))]) rfl) (lt_ rfl) h ?_ (fun c w' h H => e_panic (P := PP) (fn := Tryd.f24) H h)
    clear H h a
    rintro _ w54 a ⟨Of55, rfl, h⟩ H
    refine s_call H rfl body_42 (H.args (vs := [(.int .u32 Of55)]) rfl) (lt_ rfl) h ?_ (fun c w' h H => e_panic (P := PP) (fn := Tryd.f24) H h)
    clear H h a
    rintro _ w56 a ⟨four57, rfl, h⟩ H
    replace h := h.get
    obtain ⟨b58, w59, nb60, h⟩ := h
    refine s_bslc H rfl (by rw [H.parts (vs := [(0, (Slc.v Data49)), (1, (Slc.v four57))]) rfl]; exact bs_37_2_s0_s1 w56 Data49 four57) (lt_ rfl) ?_
    rw [← nb60.at_]
    clear H a
    intro a H
    refine nb60.go ?_
    refine s_call H rfl body_44 (H.args (vs := [(Slc.v (Slc.mk (some (blk b58)) 2 2))]) rfl) (lt_ rfl) h ?_ (fun c w' h H => e_panic (P := PP) (fn := Tryd.f24) H h)
    clear H h a
    rintro _ w61 a ⟨Concat62, rfl, h⟩ H
    refine s_assign H rfl rfl (lt_ rfl) ?_
    clear H a
    intro a H
    refine c_nil ?_
    refine hK50 _ _ ?_
    refine c_ret ?_
    exact e_ret1 H rfl rfl h

set_option maxRecDepth 100000 in
set_option maxHeartbeats 4000000 in
theorem sim_slices_Clone (s1 : Slc) (w : World) (Q : Ending → World → Prop) (h : vc_slices_Clone s1 w Q) : Calls PP F_slices_Clone #[(Slc.v s1)] w Q := by
  unfold vc_slices_Clone at h
  refine enter (n := 8) (l := [(Slc.v s1)]) Tryd.func25 rfl rfl (Nat.le_of_ble_eq_true rfl) fun a H => ?_
  replace H : Has 8 [] a [(0, (Slc.v s1))] := H
  refine c_seq fun K2 hK2 => ?_
  refine c_reg ?_
  refine s_assign H rfl rfl (lt_ rfl) ?_
  clear H a
  intro a H
  refine c_nil ?_
  refine hK2 _ _ ?_
  refine c_seq fun K3 hK3 => ?_
  refine c_seq fun K4 hK4 => ?_
  refine c_reg ?_
  refine s_move H rfl rfl (lt_ rfl) ?_
  clear H a
  intro a H
  refine s_bin H rfl rfl rfl (r_eqS0 (z := s1) sl_28) (lt_ rfl) ?_
  clear H a
  intro a H
  refine c_nil ?_
  refine hK4 _ _ ?_
  refine c_cond H rfl (fun hb5 => ?_) (fun hb5 => ?_)
  · replace h := h.1 hb5
    refine c_seq fun K6 hK6 => ?_
    refine c_reg ?_
    refine s_assign H rfl rfl (lt_ rfl) ?_
    clear H a
    intro a H
    refine c_nil ?_
    refine hK6 _ _ ?_
    refine c_ret ?_
    exact e_ret1 H rfl rfl h
  · replace h := h.2 hb5
    refine c_skip ?_
    refine hK3 _ _ ?_
    refine c_seq fun K7 hK7 => ?_
    refine c_reg ?_
    replace h := h.get
    obtain ⟨b8, w9, nb10, h⟩ := h
    refine s_bslc H rfl (by rw [H.parts (vs := []) rfl]; exact bs_28_0 w) (lt_ rfl) ?_
    rw [← nb10.at_]
    clear H a
    intro a H
    refine nb10.go ?_
    refine s_move H rfl rfl (lt_ rfl) ?_
    clear H a
    intro a H
    obtain ⟨s11, w12, hq13, h⟩ := h
    refine s_blt H rfl (H.args (vs := [(Slc.v (Slc.mk (some (blk b8)) 0 0)), (Slc.v s1)]) rfl) (lt_ rfl) (fun cs => b_app (z := s11) hq13) ?_
    clear H a hq13
    intro a H
    refine s_assign H rfl rfl (lt_ rfl) ?_
    clear H a
    intro a H
    refine c_nil ?_
    refine hK7 _ _ ?_
    refine c_ret ?_
    exact e_ret1 H rfl rfl h

set_option maxRecDepth 100000 in
set_option maxHeartbeats 4000000 in
theorem sim_sherdlaw11_lent (l1 : Slc) (w : World) (Q : Ending → World → Prop) (h : vc_sherdlaw11_lent l1 w Q) : Calls PP F_sherdlaw11_lent #[(Slc.v l1)] w Q := by
  unfold vc_sherdlaw11_lent at h
  refine enter (n := 8) (l := [(Slc.v l1)]) Tryd.func26 rfl rfl (Nat.le_of_ble_eq_true rfl) fun a H => ?_
  replace H : Has 8 [] a [(0, (Slc.v l1))] := H
  refine c_seq fun K2 hK2 => ?_
  refine c_reg ?_
  refine s_assign H rfl rfl (lt_ rfl) ?_
  clear H a
  intro a H
  refine c_nil ?_
  refine hK2 _ _ ?_
  refine c_seq fun K3 hK3 => ?_
  refine c_reg ?_
  replace h := h.get
  obtain ⟨b4, w5, nb6, h⟩ := h
  refine s_bslc H rfl (by rw [H.parts (vs := []) rfl]; exact bs_28_0 w) (lt_ rfl) ?_
  rw [← nb6.at_]
  clear H a
  intro a H
  refine nb6.go ?_
  refine s_move H rfl rfl (lt_ rfl) ?_
  clear H a
  intro a H
  obtain ⟨s7, w8, hq9, h⟩ := h
  refine s_blt H rfl (H.args (vs := [(Slc.v (Slc.mk (some (blk b4)) 0 0)), (Slc.v l1)]) rfl) (lt_ rfl) (fun cs => b_app (z := s7) hq9) ?_
  clear H a hq9
  intro a H
  replace h := h.get
  obtain ⟨b10, w11, nb12, h⟩ := h
  refine s_bslc H rfl (by rw [H.parts (vs := [(0, (.int .u8 77))]) rfl]; exact bs_28_1_iu80 w8 77) (lt_ rfl) ?_
  rw [← nb12.at_]
  clear H a
  intro a H
  refine nb12.go ?_
  obtain ⟨s13, w14, hq15, h⟩ := h
  refine s_blt H rfl (H.args (vs := [(Slc.v s7), (Slc.v (Slc.mk (some (blk b10)) 1 1))]) rfl) (lt_ rfl) (fun cs => b_app (z := s13) hq15) ?_
  clear H a hq15
  intro a H
  refine s_assign H rfl rfl (lt_ rfl) ?_
  clear H a
  intro a H
  refine c_nil ?_
  refine hK3 _ _ ?_
  refine c_ret ?_
  exact e_ret1 H rfl rfl h

set_option maxRecDepth 100000 in
set_option maxHeartbeats 4000000 in
theorem sim_sherdref11_Writer_Put (w1 : Option Addr) (u_Kind2 : Int) (u_Key3 : ByteArray) (u_Entry_Tag_Count4 : Int) (u_Entry_Tag_Client5 : Int) (u_Entry_Fin6 : Bool) (u_Entry_Has7 : Bool) (u_Entry_Data8 : Slc) (w : World) (Q : Ending → World → Prop) (h : vc_sherdref11_Writer_Put w1 u_Kind2 u_Key3 u_Entry_Tag_Count4 u_Entry_Tag_Client5 u_Entry_Fin6 u_Entry_Has7 u_Entry_Data8 w Q) : Calls PP F_sherdref11_Writer_Put #[(.pointer w1), (.agg #[(.int .i64 u_Kind2), (.string u_Key3), (.int .i64 u_Entry_Tag_Count4), (.int .i64 u_Entry_Tag_Client5), (.bool u_Entry_Fin6), (.bool u_Entry_Has7), (Slc.v u_Entry_Data8)])] w Q := by
  unfold vc_sherdref11_Writer_Put at h
  refine enter (n := 45) (l := [(.pointer w1), (.agg #[(.int .i64 u_Kind2), (.string u_Key3), (.int .i64 u_Entry_Tag_Count4), (.int .i64 u_Entry_Tag_Client5), (.bool u_Entry_Fin6), (.bool u_Entry_Has7), (Slc.v u_Entry_Data8)])]) Tryd.func27 rfl rfl (Nat.le_of_ble_eq_true rfl) fun a H => ?_
  replace H : Has 45 [] a [(0, (.pointer w1)), (1, (.agg #[(.int .i64 u_Kind2), (.string u_Key3), (.int .i64 u_Entry_Tag_Count4), (.int .i64 u_Entry_Tag_Client5), (.bool u_Entry_Fin6), (.bool u_Entry_Has7), (Slc.v u_Entry_Data8)]))] := H
  refine c_seq fun K9 hK9 => ?_
  refine c_reg ?_
  replace h := h.get
  obtain ⟨b10, w11, nb12, h⟩ := h
  refine s_box H rfl rfl (lt_ rfl) ?_
  rw [← nb12.at_]
  clear H a
  intro a H
  refine nb12.go ?_
  refine s_assign H rfl rfl (lt_ rfl) ?_
  clear H a
  intro a H
  refine s_assign H rfl rfl (lt_ rfl) ?_
  clear H a
  intro a H
  refine c_nil ?_
  refine hK9 _ _ ?_
  refine c_seq fun K13 hK13 => ?_
  refine c_reg ?_
  refine s_loadN (l := [(.int .i64 u_Kind2), (.string u_Key3), (.int .i64 u_Entry_Tag_Count4), (.int .i64 u_Entry_Tag_Client5), (.bool u_Entry_Fin6), (.bool u_Entry_Has7), (Slc.v u_Entry_Data8)]) H rfl rfl agg_45 rfl ⟨(nb12.cell (i := 0) rfl), (nb12.cell (i := 1) rfl), (nb12.cell (i := 2) rfl), (nb12.cell (i := 3) rfl), (nb12.cell (i := 4) rfl), (nb12.cell (i := 5) rfl), (nb12.cell (i := 6) rfl), trivial⟩ (lt_ rfl) ?_
  clear H a
  intro a H
  refine s_call H rfl body_53 (H.args (vs := [(.agg #[(.int .i64 u_Kind2), (.string u_Key3), (.int .i64 u_Entry_Tag_Count4), (.int .i64 u_Entry_Tag_Client5), (.bool u_Entry_Fin6), (.bool u_Entry_Has7), (Slc.v u_Entry_Data8)])]) rfl) (lt_ rfl) h ?_ (fun c w' h H => e_panic (P := PP) (fn := Tryd.f27) H h)
  clear H h a
  rintro _ w14 a ⟨CheckU15, rfl, h⟩ H
  refine s_assign H rfl rfl (lt_ rfl) ?_
  clear H a
  intro a H
  refine c_nil ?_
  refine hK13 _ _ ?_
  refine c_seq fun K16 hK16 => ?_
  refine c_seq fun K17 hK17 => ?_
  refine c_reg ?_
  refine s_move H rfl rfl (lt_ rfl) ?_
  clear H a
  intro a H
  refine s_bin H rfl rfl rfl r_neq (lt_ rfl) ?_
  clear H a
  intro a H
  refine c_nil ?_
  refine hK17 _ _ ?_
  refine c_cond H rfl (fun hb18 => ?_) (fun hb18 => ?_)
  · replace h := h.1 hb18
    refine c_seq fun K19 hK19 => ?_
    refine c_reg ?_
    refine s_move H rfl rfl (lt_ rfl) ?_
    clear H a
    intro a H
    refine s_assign H rfl rfl (lt_ rfl) ?_
    clear H a
    intro a H
    refine s_assign H rfl rfl (lt_ rfl) ?_
    clear H a
    intro a H
    refine c_nil ?_
    refine hK19 _ _ ?_
    refine c_ret ?_
    exact e_ret2 H rfl rfl rfl h
  · replace h := h.2 hb18
    refine c_skip ?_
    refine hK16 _ _ ?_
    refine c_seq fun K20 hK20 => ?_
    refine c_reg ?_
    refine s_call H rfl body_46 (H.args (vs := []) rfl) (lt_ rfl) h ?_ (fun c w' h H => e_panic (P := PP) (fn := Tryd.f27) H h)
    clear H h a
    rintro _ w21 a ⟨NewWri22, rfl, h⟩ H
    refine s_assign H rfl rfl (lt_ rfl) ?_
    clear H a
    intro a H
    refine c_nil ?_
    refine hK20 _ _ ?_
    refine c_seq fun K23 hK23 => ?_
    refine c_reg ?_
    refine s_move H rfl rfl (lt_ rfl) ?_
    clear H a
    intro a H
    refine s_call H rfl body_47 (H.args (vs := [(.pointer NewWri22), (.int .u8 82)]) rfl) (lt_ rfl) h ?_ (fun c w' h H => e_panic (P := PP) (fn := Tryd.f27) H h)
    clear H h a
    rintro _ w24 a ⟨rfl, h⟩ H
    refine c_nil ?_
    refine hK23 _ _ ?_
    refine c_seq fun K25 hK25 => ?_
    refine c_reg ?_
    refine s_move H rfl rfl (lt_ rfl) ?_
    clear H a
    intro a H
    obtain ⟨l_Kind26, hc27, h⟩ := h
    obtain ⟨l_Key28, hc29, h⟩ := h
    obtain ⟨l_Entry_Tag_Count30, hc31, h⟩ := h
    obtain ⟨l_Entry_Tag_Client32, hc33, h⟩ := h
    obtain ⟨l_Entry_Fin34, hc35, h⟩ := h
    obtain ⟨l_Entry_Has36, hc37, h⟩ := h
    obtain ⟨l_Entry_Data38, hc39, h⟩ := h
    refine s_loadN (l := [(.int .i64 l_Kind26), (.string l_Key28), (.int .i64 l_Entry_Tag_Count30), (.int .i64 l_Entry_Tag_Client32), (.bool l_Entry_Fin34), (.bool l_Entry_Has36), (Slc.v l_Entry_Data38)]) H rfl rfl agg_45 rfl ⟨hc27, hc29, hc31, hc33, hc35, hc37, hc39, trivial⟩ (lt_ rfl) ?_
    clear H a
    intro a H
    refine s_call H rfl body_55 (H.args (vs := [(.agg #[(.int .i64 l_Kind26), (.string l_Key28), (.int .i64 l_Entry_Tag_Count30), (.int .i64 l_Entry_Tag_Client32), (.bool l_Entry_Fin34), (.bool l_Entry_Has36), (Slc.v l_Entry_Data38)])]) rfl) (lt_ rfl) h ?_ (fun c w' h H => e_panic (P := PP) (fn := Tryd.f27) H h)
    clear H h a
    rintro _ w40 a ⟨body41, rfl, h⟩ H
    refine s_call H rfl body_54 (H.args (vs := [(.pointer NewWri22), (Slc.v body41)]) rfl) (lt_ rfl) h ?_ (fun c w' h H => e_panic (P := PP) (fn := Tryd.f27) H h)
    clear H h a
    rintro _ w42 a ⟨rfl, h⟩ H
    refine c_nil ?_
    refine hK25 _ _ ?_
    refine c_seq fun K43 hK43 => ?_
    refine c_reg ?_
    refine s_move H rfl rfl (lt_ rfl) ?_
    clear H a
    intro a H
    refine s_call H rfl body_49 (H.args (vs := [(.pointer NewWri22)]) rfl) (lt_ rfl) h ?_ (fun c w' h H => e_panic (P := PP) (fn := Tryd.f27) H h)
    clear H h a
    rintro _ w44 a ⟨Data45, rfl, h⟩ H
    refine s_assign H rfl rfl (lt_ rfl) ?_
    clear H a
    intro a H
    refine c_nil ?_
    refine hK43 _ _ ?_
    refine c_seq fun K46 hK46 => ?_
    refine c_reg ?_
    refine s_move H rfl rfl (lt_ rfl) ?_
    clear H a
    intro a H
    refine s_move H rfl rfl (lt_ rfl) ?_
    clear H a
    intro a H
    obtain ⟨a47, hq71, h⟩ := h
    subst hq71
    refine s_nil H rfl rfl (lt_ rfl) ?_
    clear H a
    intro a H
    refine s_fld H rfl rfl fld_68_0 (lt_ rfl) ?_
    clear H a
    intro a H
    obtain ⟨l48, hc49, h⟩ := h
    refine s_load (v := (Slc.v l48)) H rfl rfl one_28 hc49 (lt_ rfl) ?_
    clear H a
    intro a H
    refine s_move H rfl rfl (lt_ rfl) ?_
    clear H a
    intro a H
    refine s_call H rfl body_50 (H.args (vs := [(Slc.v l48), (Slc.v Data45)]) rfl) (lt_ rfl) h ?_ (fun c w' h H => e_panic (P := PP) (fn := Tryd.f27) H h)
    clear H h a
    rintro _ w50 a ⟨Summed51, rfl, h⟩ H
    refine s_nil H rfl rfl (lt_ rfl) ?_
    clear H a
    intro a H
    refine s_fld H rfl rfl fld_68_0 (lt_ rfl) ?_
    clear H a
    intro a H
    obtain ⟨hs53, hf54, h⟩ := h
    refine s_sto (p := a47.add 0) (v := (Slc.v Summed51)) H rfl rfl rfl rfl one_28 rfl hs53 hf54 ?_
    clear H
    intro H
    generalize hww52 : World.setCell w50 (a47.add 0) (Slc.v Summed51) = w52 at h ⊢
    have w52S : SetAt w50 (a47.add 0) (Slc.v Summed51) w52 := ⟨hww52.symm⟩
    clear hww52 hs53 hf54
    refine c_nil ?_
    refine hK46 _ _ ?_
    refine c_seq fun K55 hK55 => ?_
    refine c_reg ?_
    refine s_move H rfl rfl (lt_ rfl) ?_
    clear H a
    intro a H
    refine s_nil H rfl rfl (lt_ rfl) ?_
    clear H a
    intro a H
    refine s_fld H rfl rfl fld_68_1 (lt_ rfl) ?_
    clear H a
    intro a H
    obtain ⟨l56, hc57, h⟩ := h
    refine s_load (v := (.int .i64 l56)) H rfl rfl one_3 hc57 (lt_ rfl) ?_
    clear H a
    intro a H
    refine s_bin H rfl rfl rfl r_add (lt_ rfl) ?_
    clear H a
    intro a H
    refine s_nil H rfl rfl (lt_ rfl) ?_
    clear H a
    intro a H
    refine s_fld H rfl rfl fld_68_1 (lt_ rfl) ?_
    clear H a
    intro a H
    obtain ⟨hs59, hf60, h⟩ := h
    refine s_sto (p := a47.add 1) (v := (.int .i64 (wr .i64 (l56 + 1)))) H rfl rfl rfl rfl one_3 rfl hs59 hf60 ?_
    clear H
    intro H
    generalize hww58 : World.setCell w52 (a47.add 1) (.int .i64 (wr .i64 (l56 + 1))) = w58 at h ⊢
    have w58S : SetAt w52 (a47.add 1) (.int .i64 (wr .i64 (l56 + 1))) w58 := ⟨hww58.symm⟩
    clear hww58 hs59 hf60
    refine c_nil ?_
    refine hK55 _ _ ?_
    refine c_seq fun K61 hK61 => ?_
    refine c_reg ?_
    refine s_move H rfl rfl (lt_ rfl) ?_
    clear H a
    intro a H
    refine s_move H rfl rfl (lt_ rfl) ?_
    clear H a
    intro a H
    refine s_nil H rfl rfl (lt_ rfl) ?_
    clear H a
    intro a H
    refine s_fld H rfl rfl fld_68_0 (lt_ rfl) ?_
    clear H a
    intro a H
    obtain ⟨l62, hc63, h⟩ := h
    refine s_load (v := (Slc.v l62)) H rfl rfl one_28 hc63 (lt_ rfl) ?_
    clear H a
    intro a H
    obtain ⟨s64, w65, hq66, h⟩ := h
    refine s_blt H rfl (H.args (vs := [(Slc.v Data45), (Slc.v l62)]) rfl) (lt_ rfl) (fun cs => b_app (z := s64) hq66) ?_
    clear H a hq66
    intro a H
    refine s_assign H rfl rfl (lt_ rfl) ?_
    clear H a
    intro a H
    refine s_assign H rfl rfl (lt_ rfl) ?_
    clear H a
    intro a H
    refine c_nil ?_
    refine hK61 _ _ ?_
    refine c_ret ?_
    exact e_ret2 H rfl rfl rfl h

set_option maxRecDepth 100000 in
set_option maxHeartbeats 4000000 in
theorem sim_sherdref11_Writer_Count (w1 : Option Addr) (w : World) (Q : Ending → World → Prop) (h : vc_sherdref11_Writer_Count w1 w Q) : Calls PP F_sherdref11_Writer_Count #[(.pointer w1)] w Q := by
  unfold vc_sherdref11_Writer_Count at h
  refine enter (n := 7) (l := [(.pointer w1)]) Tryd.func28 rfl rfl (Nat.le_of_ble_eq_true rfl) fun a H => ?_
  replace H : Has 7 [] a [(0, (.pointer w1))] := H
  refine c_seq fun K2 hK2 => ?_
  refine c_reg ?_
  refine s_assign H rfl rfl (lt_ rfl) ?_
  clear H a
  intro a H
  refine c_nil ?_
  refine hK2 _ _ ?_
  refine c_seq fun K3 hK3 => ?_
  refine c_reg ?_
  refine s_move H rfl rfl (lt_ rfl) ?_
  clear H a
  intro a H
  obtain ⟨a4, hq7, h⟩ := h
  subst hq7
  refine s_nil H rfl rfl (lt_ rfl) ?_
  clear H a
  intro a H
  refine s_fld H rfl rfl fld_68_1 (lt_ rfl) ?_
  clear H a
  intro a H
  obtain ⟨l5, hc6, h⟩ := h
  refine s_load (v := (.int .i64 l5)) H rfl rfl one_3 hc6 (lt_ rfl) ?_
  clear H a
  intro a H
  refine s_assign H rfl rfl (lt_ rfl) ?_
  clear H a
  intro a H
  refine c_nil ?_
  refine hK3 _ _ ?_
  refine c_ret ?_
  exact e_ret1 H rfl rfl h

set_option maxRecDepth 100000 in
set_option maxHeartbeats 4000000 in
theorem sim_sherdlaw11_own (u_Kind1 : Int) (u_Key2 : ByteArray) (u_Entry_Tag_Count3 : Int) (u_Entry_Tag_Client4 : Int) (u_Entry_Fin5 : Bool) (u_Entry_Has6 : Bool) (u_Entry_Data7 : Slc) (w : World) (Q : Ending → World → Prop) (h : vc_sherdlaw11_own u_Kind1 u_Key2 u_Entry_Tag_Count3 u_Entry_Tag_Client4 u_Entry_Fin5 u_Entry_Has6 u_Entry_Data7 w Q) : Calls PP F_sherdlaw11_own #[(.agg #[(.int .i64 u_Kind1), (.string u_Key2), (.int .i64 u_Entry_Tag_Count3), (.int .i64 u_Entry_Tag_Client4), (.bool u_Entry_Fin5), (.bool u_Entry_Has6), (Slc.v u_Entry_Data7)])] w Q := by
  unfold vc_sherdlaw11_own at h
  refine enter (n := 31) (l := [(.agg #[(.int .i64 u_Kind1), (.string u_Key2), (.int .i64 u_Entry_Tag_Count3), (.int .i64 u_Entry_Tag_Client4), (.bool u_Entry_Fin5), (.bool u_Entry_Has6), (Slc.v u_Entry_Data7)])]) Tryd.func29 rfl rfl (Nat.le_of_ble_eq_true rfl) fun a H => ?_
  replace H : Has 31 [] a [(0, (.agg #[(.int .i64 u_Kind1), (.string u_Key2), (.int .i64 u_Entry_Tag_Count3), (.int .i64 u_Entry_Tag_Client4), (.bool u_Entry_Fin5), (.bool u_Entry_Has6), (Slc.v u_Entry_Data7)]))] := H
  refine c_seq fun K8 hK8 => ?_
  refine c_reg ?_
  replace h := h.get
  obtain ⟨b9, w10, nb11, h⟩ := h
  refine s_box H rfl rfl (lt_ rfl) ?_
  rw [← nb11.at_]
  clear H a
  intro a H
  refine nb11.go ?_
  replace h := h.get
  obtain ⟨b12, w13, nb14, h⟩ := h
  refine s_alloc H rfl zero_45 (lt_ rfl) ?_
  rw [← nb14.at_]
  clear H a
  intro a H
  refine nb14.go ?_
  refine c_nil ?_
  refine hK8 _ _ ?_
  refine c_seq fun K15 hK15 => ?_
  obtain ⟨R16, h, hx91⟩ := h
  have hJ67 : ∀ (a : Act) (w17 : World), R16 w17 → Has 31 [] a [(1, (.pointer (some (blk b9)))), (2, (.pointer (some (blk b12))))] → K15 a w17 := by
    clear h
    intro a w17 h H
    replace h := hx91 w17 h
    refine hK15 _ _ ?_
    refine c_seq fun K18 hK18 => ?_
    obtain ⟨R19, h, hx66⟩ := h
    have hJ51 : ∀ (a : Act) (w20 : World), R19 w20 → Has 31 [] a [(1, (.pointer (some (blk b9)))), (2, (.pointer (some (blk b12))))] → K18 a w20 := by
      clear h
      intro a w20 h H
      replace h := hx66 w20 h
      refine hK18 _ _ ?_
      refine c_seq fun K21 hK21 => ?_
      refine c_reg ?_
      obtain ⟨l_Kind22, hc23, h⟩ := h
      obtain ⟨l_Key24, hc25, h⟩ := h
      obtain ⟨l_Entry_Tag_Count26, hc27, h⟩ := h
      obtain ⟨l_Entry_Tag_Client28, hc29, h⟩ := h
      obtain ⟨l_Entry_Fin30, hc31, h⟩ := h
      obtain ⟨l_Entry_Has32, hc33, h⟩ := h
      obtain ⟨l_Entry_Data34, hc35, h⟩ := h
      refine s_loadN (l := [(.int .i64 l_Kind22), (.string l_Key24), (.int .i64 l_Entry_Tag_Count26), (.int .i64 l_Entry_Tag_Client28), (.bool l_Entry_Fin30), (.bool l_Entry_Has32), (Slc.v l_Entry_Data34)]) H rfl rfl agg_45 rfl ⟨hc23, hc25, hc27, hc29, hc31, hc33, hc35, trivial⟩ (lt_ rfl) ?_
      clear H a
      intro a H
      refine s_stoN (l := [(.int .i64 l_Kind22), (.string l_Key24), (.int .i64 l_Entry_Tag_Count26), (.int .i64 l_Entry_Tag_Client28), (.bool l_Entry_Fin30), (.bool l_Entry_Has32), (Slc.v l_Entry_Data34)]) H rfl rfl rfl rfl agg_45 rfl rfl h ?_
      clear h H
      intro w36 h H
      refine c_nil ?_
      refine hK21 _ _ ?_
      refine c_ret ?_
      obtain ⟨res_Kind37, hc38, h⟩ := h
      obtain ⟨res_Key39, hc40, h⟩ := h
      obtain ⟨res_Entry_Tag_Count41, hc42, h⟩ := h
      obtain ⟨res_Entry_Tag_Client43, hc44, h⟩ := h
      obtain ⟨res_Entry_Fin45, hc46, h⟩ := h
      obtain ⟨res_Entry_Has47, hc48, h⟩ := h
      obtain ⟨res_Entry_Data49, hc50, h⟩ := h
      exact e_ret1 H rfl ⟨_, rfl, run_loadN (l := [(.int .i64 res_Kind37), (.string res_Key39), (.int .i64 res_Entry_Tag_Count41), (.int .i64 res_Entry_Tag_Client43), (.bool res_Entry_Fin45), (.bool res_Entry_Has47), (Slc.v res_Entry_Data49)]) agg_45 rfl ⟨hc38, hc40, hc42, hc44, hc46, hc48, hc50, trivial⟩⟩ h
    clear hx66
    refine c_seq fun K52 hK52 => ?_
    refine c_reg ?_
    refine s_fld H rfl rfl fld_45_0 (lt_ rfl) ?_
    clear H a
    intro a H
    obtain ⟨l53, hc54, h⟩ := h
    refine s_load (v := (.int .i64 l53)) H rfl rfl one_3 hc54 (lt_ rfl) ?_
    clear H a
    intro a H
    refine s_bin H rfl rfl rfl r_eql (lt_ rfl) ?_
    clear H a
    intro a H
    refine s_move H rfl rfl (lt_ rfl) ?_
    clear H a
    intro a H
    obtain ⟨x59, hy60, hn61, h⟩ := h
    refine g_join (n := 31) [(27, (.bool x59)), (1, (.pointer (some (blk b9)))), (2, (.pointer (some (blk b12))))] (.succ (.succ (.succ (.succ (.succ (.zero _)))))) ?_ ?_
    · intro hr56
      try clear h
      rcases Bool.eq_false_or_eq_true (decide (l53 = 3)) with hg55 | hg55
      · replace H := H.ch (t := 22) (b := true) rfl hg55
        replace h := hy60 hg55
        refine s_fld H (wantG H rfl rfl) rfl fld_45_2 (lt_ rfl) ?_
        clear H a
        intro a H
        refine s_fld H (wantG H rfl rfl) rfl fld_43_2 (lt_ rfl) ?_
        clear H a
        intro a H
        obtain ⟨l57, hc58, h⟩ := h
        refine s_load (v := (.bool l57)) H (wantG H rfl rfl) rfl one_4 hc58 (lt_ rfl) ?_
        clear H a
        intro a H
        refine s_un H (wantG H rfl rfl) rfl r_not (lt_ rfl) ?_
        clear H a
        intro a H
        refine s_pickT H rfl rfl rfl (lt_ rfl) ?_
        clear H a
        intro a H
        subst h
        exact hr56 _ (H.weaken ⟨rfl, rfl, rfl, trivial⟩)
      · replace H := H.ch (t := 22) (b := false) rfl hg55
        refine s_skip H (wantN H rfl rfl rfl) rfl (lt_ rfl) ?_
        clear H a
        intro a H
        refine s_skip H (wantN H rfl rfl rfl) rfl (lt_ rfl) ?_
        clear H a
        intro a H
        refine s_skip H (wantN H rfl rfl rfl) rfl (lt_ rfl) ?_
        clear H a
        intro a H
        refine s_skip H (wantN H rfl rfl rfl) rfl (lt_ rfl) ?_
        clear H a
        intro a H
        refine s_pickF H rfl rfl rfl (lt_ rfl) ?_
        clear H a
        intro a H
        replace h := hn61 hg55
        subst h
        exact hr56 _ (H.weaken ⟨rfl, rfl, rfl, trivial⟩)
    · clear H a
      clear hy60 hn61
      intro a H
      refine c_nil ?_
      refine hK52 _ _ ?_
      refine c_cond H rfl (fun hb62 => ?_) (fun hb62 => ?_)
      · replace h := h.1 hb62
        refine c_reg ?_
        refine s_fld H rfl rfl fld_45_2 (lt_ rfl) ?_
        clear H a
        intro a H
        refine s_fld H rfl rfl fld_43_3 (lt_ rfl) ?_
        clear H a
        intro a H
        obtain ⟨hs64, hf65, h⟩ := h
        refine s_sto (p := ((blk b9).add 2).add 4) (v := (Slc.v Slc.nil)) H rfl rfl rfl rfl one_28 rfl hs64 hf65 ?_
        clear H
        intro H
        generalize hww63 : World.setCell w17 (((blk b9).add 2).add 4) (Slc.v Slc.nil) = w63 at h ⊢
        have w63S : SetAt w17 (((blk b9).add 2).add 4) (Slc.v Slc.nil) w63 := ⟨hww63.symm⟩
        clear hww63 hs64 hf65
        refine c_nil ?_
        exact hJ51 _ _ h (H.weaken ⟨rfl, rfl, trivial⟩)
      · replace h := h.2 hb62
        refine c_skip ?_
        exact hJ51 _ _ h (H.weaken ⟨rfl, rfl, trivial⟩)
  clear hx91
  refine c_seq fun K68 hK68 => ?_
  refine c_reg ?_
  refine s_fld H rfl rfl fld_45_0 (lt_ rfl) ?_
  clear H a
  intro a H
  refine s_load (v := (.int .i64 u_Kind1)) H rfl rfl one_3 (nb14.old (nb11.cell (i := 0) rfl)) (lt_ rfl) ?_
  clear H a
  intro a H
  refine c_nil ?_
  refine hK68 _ _ ?_
  refine c_block ?_
  refine c_seq fun K69 hK69 => ?_
  refine c_reg ?_
  refine s_bin H rfl rfl rfl r_eql (lt_ rfl) ?_
  clear H a
  intro a H
  refine s_assign H rfl rfl (lt_ rfl) ?_
  clear H a
  intro a H
  refine c_nil ?_
  refine hK69 _ _ ?_
  refine c_cond H rfl (fun hb70 => ?_) (fun hb70 => ?_)
  · replace h := h.1 hb70
    refine c_seq fun K71 hK71 => ?_
    refine c_reg ?_
    refine s_fld H rfl rfl fld_45_2 (lt_ rfl) ?_
    clear H a
    intro a H
    refine s_fld H rfl rfl fld_43_1 (lt_ rfl) ?_
    clear H a
    intro a H
    obtain ⟨hs73, hf74, h⟩ := h
    refine s_sto (p := ((blk b9).add 2).add 2) (v := (.bool false)) H rfl rfl rfl rfl one_4 rfl hs73 hf74 ?_
    clear H
    intro H
    generalize hww72 : World.setCell w13 (((blk b9).add 2).add 2) (.bool false) = w72 at h ⊢
    have w72S : SetAt w13 (((blk b9).add 2).add 2) (.bool false) w72 := ⟨hww72.symm⟩
    clear hww72 hs73 hf74
    refine c_nil ?_
    refine hK71 _ _ ?_
    refine c_reg ?_
    refine s_fld H rfl rfl fld_45_2 (lt_ rfl) ?_
    clear H a
    intro a H
    refine s_fld H rfl rfl fld_43_2 (lt_ rfl) ?_
    clear H a
    intro a H
    obtain ⟨hs76, hf77, h⟩ := h
    refine s_sto (p := ((blk b9).add 2).add 3) (v := (.bool false)) H rfl rfl rfl rfl one_4 rfl hs76 hf77 ?_
    clear H
    intro H
    generalize hww75 : World.setCell w72 (((blk b9).add 2).add 3) (.bool false) = w75 at h ⊢
    have w75S : SetAt w72 (((blk b9).add 2).add 3) (.bool false) w75 := ⟨hww75.symm⟩
    clear hww75 hs76 hf77
    refine c_nil ?_
    exact hJ67 _ _ h (H.weaken ⟨rfl, rfl, trivial⟩)
  · replace h := h.2 hb70
    refine c_seq fun K78 hK78 => ?_
    refine c_reg ?_
    refine s_bin H rfl rfl rfl r_eql (lt_ rfl) ?_
    clear H a
    intro a H
    refine s_assign H rfl rfl (lt_ rfl) ?_
    clear H a
    intro a H
    refine c_nil ?_
    refine hK78 _ _ ?_
    refine c_cond H rfl (fun hb79 => ?_) (fun hb79 => ?_)
    · replace h := h.1 hb79
      refine c_seq fun K80 hK80 => ?_
      refine c_reg ?_
      refine s_fld H rfl rfl fld_45_2 (lt_ rfl) ?_
      clear H a
      intro a H
      refine s_fld H rfl rfl fld_43_1 (lt_ rfl) ?_
      clear H a
      intro a H
      obtain ⟨hs82, hf83, h⟩ := h
      refine s_sto (p := ((blk b9).add 2).add 2) (v := (.bool false)) H rfl rfl rfl rfl one_4 rfl hs82 hf83 ?_
      clear H
      intro H
      generalize hww81 : World.setCell w13 (((blk b9).add 2).add 2) (.bool false) = w81 at h ⊢
      have w81S : SetAt w13 (((blk b9).add 2).add 2) (.bool false) w81 := ⟨hww81.symm⟩
      clear hww81 hs82 hf83
      refine c_nil ?_
      refine hK80 _ _ ?_
      refine c_seq fun K84 hK84 => ?_
      refine c_reg ?_
      refine s_fld H rfl rfl fld_45_2 (lt_ rfl) ?_
      clear H a
      intro a H
      refine s_fld H rfl rfl fld_43_2 (lt_ rfl) ?_
      clear H a
      intro a H
      obtain ⟨hs86, hf87, h⟩ := h
      refine s_sto (p := ((blk b9).add 2).add 3) (v := (.bool false)) H rfl rfl rfl rfl one_4 rfl hs86 hf87 ?_
      clear H
      intro H
      generalize hww85 : World.setCell w81 (((blk b9).add 2).add 3) (.bool false) = w85 at h ⊢
      have w85S : SetAt w81 (((blk b9).add 2).add 3) (.bool false) w85 := ⟨hww85.symm⟩
      clear hww85 hs86 hf87
      refine c_nil ?_
      refine hK84 _ _ ?_
      refine c_reg ?_
      refine s_fld H rfl rfl fld_45_2 (lt_ rfl) ?_
      clear H a
      intro a H
      refine s_fld H rfl rfl fld_43_3 (lt_ rfl) ?_
      clear H a
      intro a H
      obtain ⟨hs89, hf90, h⟩ := h
      refine s_sto (p := ((blk b9).add 2).add 4) (v := (Slc.v Slc.nil)) H rfl rfl rfl rfl one_28 rfl hs89 hf90 ?_
      clear H
      intro H
      generalize hww88 : World.setCell w85 (((blk b9).add 2).add 4) (Slc.v Slc.nil) = w88 at h ⊢
      have w88S : SetAt w85 (((blk b9).add 2).add 4) (Slc.v Slc.nil) w88 := ⟨hww88.symm⟩
      clear hww88 hs89 hf90
      refine c_nil ?_
      exact hJ67 _ _ h (H.weaken ⟨rfl, rfl, trivial⟩)
    · replace h := h.2 hb79
      refine c_skip ?_
      exact hJ67 _ _ h (H.weaken ⟨rfl, rfl, trivial⟩)

set_option maxRecDepth 100000 in
set_option maxHeartbeats 4000000 in
theorem sim_record_readHead (data1 : Slc) (w : World) (Q : Ending → World → Prop) (h : vc_record_readHead data1 w Q) : Calls PP F_record_readHead #[(Slc.v data1)] w Q := by
  unfold vc_record_readHead at h
  refine enter (n := 64) (l := [(Slc.v data1)]) Tryd.func32 rfl rfl (Nat.le_of_ble_eq_true rfl) fun a H => ?_
  replace H : Has 64 [] a [(0, (Slc.v data1))] := H
  refine c_seq fun K2 hK2 => ?_
  refine c_reg ?_
  replace h := h.get
  obtain ⟨b3, w4, nb5, h⟩ := h
  refine s_alloc H rfl zero_25 (lt_ rfl) ?_
  rw [← nb5.at_]
  clear H a
  intro a H
  refine nb5.go ?_
  refine s_assign H rfl rfl (lt_ rfl) ?_
  clear H a
  intro a H
  refine c_nil ?_
  refine hK2 _ _ ?_
  refine c_seq fun K6 hK6 => ?_
  refine c_reg ?_
  refine s_move H rfl rfl (lt_ rfl) ?_
  clear H a
  intro a H
  refine s_call H rfl body_57 (H.args (vs := [(Slc.v data1)]) rfl) (lt_ rfl) h ?_ (fun c w' h H => e_panic (P := PP) (fn := Tryd.f32) H h)
  clear H h a
  rintro _ w7 a ⟨NewRea8, rfl, h⟩ H
  refine s_assign H rfl rfl (lt_ rfl) ?_
  clear H a
  intro a H
  refine c_nil ?_
  refine hK6 _ _ ?_
  refine c_seq fun K9 hK9 => ?_
  refine c_reg ?_
  refine s_move H rfl rfl (lt_ rfl) ?_
  clear H a
  intro a H
  refine s_call H rfl body_58 (H.args (vs := [(.pointer NewRea8)]) rfl) (lt_ rfl) h ?_ (fun c w' h H => e_panic (P := PP) (fn := Tryd.f32) H h)
  clear H h a
  rintro _ w10 a ⟨Byte11, rfl, h⟩ H
  refine s_assign H rfl rfl (lt_ rfl) ?_
  clear H a
  intro a H
  refine c_nil ?_
  refine hK9 _ _ ?_
  refine c_seq fun K12 hK12 => ?_
  refine c_reg ?_
  replace h := h.get
  obtain ⟨b13, w14, nb15, h⟩ := h
  refine s_alloc H rfl zero_100 (lt_ rfl) ?_
  rw [← nb15.at_]
  clear H a
  intro a H
  refine nb15.go ?_
  refine c_nil ?_
  refine hK12 _ _ ?_
  refine c_seq fun K16 hK16 => ?_
  refine c_seq fun K17 hK17 => ?_
  refine c_reg ?_
  refine s_move H rfl rfl (lt_ rfl) ?_
  clear H a
  intro a H
  refine c_nil ?_
  refine hK17 _ _ ?_
  refine c_block ?_
  obtain ⟨I20, mu21, h0139, hl140⟩ := h
  refine c_loop (σ := Int) (fun z w => I20 z w) (fun z w => mu21 z w) (fun z => [(0, (Slc.v data1)), (2, (.pointer (some (blk b3)))), (4, (.pointer NewRea8)), (5, (.int .u8 Byte11)), (6, (.pointer (some (blk b13)))), (14, (.int .i64 z))]) 0 h0139 (H.weaken ⟨rfl, rfl, rfl, rfl, rfl, rfl, trivial⟩) ?_
  clear H h0139
  rintro s18 a w19 h H
  replace h := hl140 s18 w19 h
  clear hl140
  replace H : Has 64 [] a [(0, (Slc.v data1)), (2, (.pointer (some (blk b3)))), (4, (.pointer NewRea8)), (5, (.int .u8 Byte11)), (6, (.pointer (some (blk b13)))), (14, (.int .i64 s18))] := H
  refine c_seq fun K22 hK22 => ?_
  refine c_reg ?_
  refine s_bin H rfl rfl rfl r_lss (lt_ rfl) ?_
  clear H a
  intro a H
  refine c_nil ?_
  refine hK22 _ _ ?_
  refine c_seq fun K23 hK23 => ?_
  refine c_cond H rfl (fun hb24 => ?_) (fun hb24 => ?_)
  · replace h := h.1 hb24
    refine c_skip ?_
    refine hK23 _ _ ?_
    refine c_seq fun K25 hK25 => ?_
    refine c_block ?_
    refine c_seq fun K26 hK26 => ?_
    refine c_reg ?_
    refine s_move H rfl rfl (lt_ rfl) ?_
    clear H a
    intro a H
    refine s_assign H rfl rfl (lt_ rfl) ?_
    clear H a
    intro a H
    refine c_nil ?_
    refine hK26 _ _ ?_
    refine c_reg ?_
    refine s_move H rfl rfl (lt_ rfl) ?_
    clear H a
    intro a H
    refine s_move H rfl rfl (lt_ rfl) ?_
    clear H a
    intro a H
    refine s_call H rfl body_59 (H.args (vs := [(.pointer NewRea8), (.int .i64 4611686018427387903)]) rfl) (lt_ rfl) h ?_ (fun c w' h H => e_panic (P := PP) (fn := Tryd.f32) H h)
    clear H h a
    rintro _ w27 a ⟨Uint28, rfl, h⟩ H
    obtain ⟨hi29, hi30, h⟩ := h
    refine s_idxA H rfl rfl rfl arr_100 hi29 hi30 (lt_ rfl) ?_
    clear H a
    intro a H
    obtain ⟨hs32, hf33, h⟩ := h
    refine s_sto (p := (blk b13).add (Int.toNat (s18) * 1)) (v := (.int .i64 Uint28)) H rfl rfl rfl rfl one_3 rfl hs32 hf33 ?_
    clear H
    intro H
    generalize hww31 : World.setCell w27 ((blk b13).add (Int.toNat (s18) * 1)) (.int .i64 Uint28) = w31 at h ⊢
    have w31S : SetAt w27 ((blk b13).add (Int.toNat (s18) * 1)) (.int .i64 Uint28) w31 := ⟨hww31.symm⟩
    clear hww31 hs32 hf33
    refine c_nil ?_
    refine hK25 _ _ ?_
    refine c_reg ?_
    refine s_bin H rfl rfl rfl r_add (lt_ rfl) ?_
    clear H a
    intro a H
    refine s_move H rfl rfl (lt_ rfl) ?_
    clear H a
    intro a H
    refine c_nil ?_
    refine Exists.intro (wr .i64 (s18 + 1)) ⟨h.1, h.2, H.weaken ⟨rfl, rfl, rfl, rfl, rfl, rfl, trivial⟩⟩
  · replace h := h.2 hb24
    refine c_exit ?_
    simp only [Exit.then, Exit.inBlock, ↓reduceIte, Nat.reduceEqDiff]
    refine hK16 _ _ ?_
    refine c_seq fun K38 hK38 => ?_
    refine c_reg ?_
    refine s_idxA (i := 0) (len := 4) (size := 1) H rfl rfl rfl arr_100 (by decide) (by decide) (lt_ rfl) ?_
    clear H a
    intro a H
    obtain ⟨l39, hc40, h⟩ := h
    refine s_load (v := (.int .i64 l39)) H rfl rfl one_3 hc40 (lt_ rfl) ?_
    clear H a
    intro a H
    refine s_idxA (i := 1) (len := 4) (size := 1) H rfl rfl rfl arr_100 (by decide) (by decide) (lt_ rfl) ?_
    clear H a
    intro a H
    obtain ⟨l41, hc42, h⟩ := h
    refine s_load (v := (.int .i64 l41)) H rfl rfl one_3 hc42 (lt_ rfl) ?_
    clear H a
    intro a H
    refine s_idxA (i := 2) (len := 4) (size := 1) H rfl rfl rfl arr_100 (by decide) (by decide) (lt_ rfl) ?_
    clear H a
    intro a H
    obtain ⟨l43, hc44, h⟩ := h
    refine s_load (v := (.int .i64 l43)) H rfl rfl one_3 hc44 (lt_ rfl) ?_
    clear H a
    intro a H
    refine s_build H rfl (by rw [H.parts (vs := [(0, (.int .i64 l39)), (1, (.int .i64 l41)), (2, (.int .i64 l43))]) rfl]; exact bd_23_ii640_ii641_ii642 w19 l39 l41 l43) (lt_ rfl) ?_
    clear H a
    intro a H
    refine s_idxA (i := 3) (len := 4) (size := 1) H rfl rfl rfl arr_100 (by decide) (by decide) (lt_ rfl) ?_
    clear H a
    intro a H
    obtain ⟨l45, hc46, h⟩ := h
    refine s_load (v := (.int .i64 l45)) H rfl rfl one_3 hc46 (lt_ rfl) ?_
    clear H a
    intro a H
    refine s_build H rfl (by rw [H.parts (vs := [(0, (.agg #[(.int .i64 l39), (.int .i64 l41), (.int .i64 l43)])), (1, (.int .i64 l45))]) rfl]; exact bd_25_ii64ii64ii640_ii641 w19 l39 l41 l43 l45) (lt_ rfl) ?_
    clear H a
    intro a H
    replace h := h.get
    obtain ⟨b47, w48, nb49, h⟩ := h
    refine s_alloc H rfl zero_25 (lt_ rfl) ?_
    rw [← nb49.at_]
    clear H a
    intro a H
    refine nb49.go ?_
    refine s_stoN (l := [(.int .i64 l39), (.int .i64 l41), (.int .i64 l43), (.int .i64 l45)]) H rfl rfl rfl rfl agg_25 rfl rfl h ?_
    clear h H
    intro w50 h H
    refine c_nil ?_
    refine hK38 _ _ ?_
    refine c_seq fun K51 hK51 => ?_
    refine c_reg ?_
    refine s_move H rfl rfl (lt_ rfl) ?_
    clear H a
    intro a H
    refine s_call H rfl body_61 (H.args (vs := [(.pointer NewRea8)]) rfl) (lt_ rfl) h ?_ (fun c w' h H => e_panic (P := PP) (fn := Tryd.f32) H h)
    clear H h a
    rintro _ w52 a ⟨Err53, rfl, h⟩ H
    refine s_bin H rfl rfl rfl r_eql (lt_ rfl) ?_
    clear H a
    intro a H
    refine s_move H rfl rfl (lt_ rfl) ?_
    clear H a
    intro a H
    refine g_join (n := 64) [(38, (.bool ((decide (Err53 = 0)) && (decide (Byte11 = 72))))), (0, (Slc.v data1)), (2, (.pointer (some (blk b3)))), (8, (.pointer (some (blk b47))))] (.succ (.succ (.succ (.zero _)))) ?_ ?_
    · intro hr55
      try clear h
      rcases Bool.eq_false_or_eq_true (decide (Err53 = 0)) with hg54 | hg54
      · replace H := H.ch (t := 35) (b := true) rfl hg54
        refine s_move H (wantG H rfl rfl) rfl (lt_ rfl) ?_
        clear H a
        intro a H
        refine s_bin H (wantG H rfl rfl) rfl rfl r_eql (lt_ rfl) ?_
        clear H a
        intro a H
        refine s_pickT H rfl rfl rfl (lt_ rfl) ?_
        clear H a
        intro a H
        exact hr55 _ (H.weaken ⟨by rw [hg54]; rfl, rfl, rfl, rfl, trivial⟩)
      · replace H := H.ch (t := 35) (b := false) rfl hg54
        refine s_skip H (wantN H rfl rfl rfl) rfl (lt_ rfl) ?_
        clear H a
        intro a H
        refine s_skip H (wantN H rfl rfl rfl) rfl (lt_ rfl) ?_
        clear H a
        intro a H
        refine s_pickF H rfl rfl rfl (lt_ rfl) ?_
        clear H a
        intro a H
        exact hr55 _ (H.weaken ⟨by rw [hg54]; rfl, rfl, rfl, rfl, trivial⟩)
    · clear H a
      intro a H
      refine s_move H rfl rfl (lt_ rfl) ?_
      clear H a
      intro a H
      obtain ⟨R58, h, hx134⟩ := h
      refine g_joinW (n := 64) R58 (fun x59 => [(43, (.bool x59)), (0, (Slc.v data1)), (2, (.pointer (some (blk b3)))), (8, (.pointer (some (blk b47))))]) (.succ (.succ (.succ (.succ (.zero _))))) ?_ ?_
      · intro hr57
        clear hx134
        rcases Bool.eq_false_or_eq_true ((decide (Err53 = 0)) && (decide (Byte11 = 72))) with hg56 | hg56
        · replace H := H.ch (t := 39) (b := true) rfl hg56
          replace h := h.1 hg56
          obtain ⟨l_Config_N61, hc62, h⟩ := h
          obtain ⟨l_Config_K63, hc64, h⟩ := h
          obtain ⟨l_Config_Delta65, hc66, h⟩ := h
          obtain ⟨l_Server67, hc68, h⟩ := h
          refine s_loadN (l := [(.int .i64 l_Config_N61), (.int .i64 l_Config_K63), (.int .i64 l_Config_Delta65), (.int .i64 l_Server67)]) H (wantG H rfl rfl) rfl agg_25 rfl ⟨hc62, hc64, hc66, hc68, trivial⟩ (lt_ rfl) ?_
          clear H a
          intro a H
          refine s_call H (wantG H rfl rfl) body_23 (H.args (vs := [(.agg #[(.int .i64 l_Config_N61), (.int .i64 l_Config_K63), (.int .i64 l_Config_Delta65), (.int .i64 l_Server67)])]) rfl) (lt_ rfl) h ?_ (fun c w' h H => e_panic (P := PP) (fn := Tryd.f32) H h)
          clear H h a
          rintro _ w69 a ⟨mayHea70, rfl, h⟩ H
          refine s_bin H (wantG H rfl rfl) rfl rfl r_eql (lt_ rfl) ?_
          clear H a
          intro a H
          refine s_pickT H rfl rfl rfl (lt_ rfl) ?_
          clear H a
          intro a H
          exact hr57 _ _ _ h (H.weaken ⟨rfl, rfl, rfl, rfl, trivial⟩)
        · replace H := H.ch (t := 39) (b := false) rfl hg56
          replace h := h.2 hg56
          refine s_skip H (wantN H rfl rfl rfl) rfl (lt_ rfl) ?_
          clear H a
          intro a H
          refine s_skip H (wantN H rfl rfl rfl) rfl (lt_ rfl) ?_
          clear H a
          intro a H
          refine s_skip H (wantN H rfl rfl rfl) rfl (lt_ rfl) ?_
          clear H a
          intro a H
          refine s_pickF H rfl rfl rfl (lt_ rfl) ?_
          clear H a
          intro a H
          exact hr57 _ _ _ h (H.weaken ⟨rfl, rfl, rfl, rfl, trivial⟩)
      · clear H a h
        intro a x59 w60 h H
        replace h := hx134 x59 w60 h
        clear hx134
        refine s_call H rfl body_60 (H.args (vs := [(.bool x59), (.int .i64 63)]) rfl) (lt_ rfl) h ?_ (fun c w' h H => e_panic (P := PP) (fn := Tryd.f32) H h)
        clear H h a
        rintro _ w75 a ⟨rfl, h⟩ H
        refine c_nil ?_
        refine hK51 _ _ ?_
        refine c_seq fun K76 hK76 => ?_
        refine c_reg ?_
        obtain ⟨l_Config_N77, hc78, h⟩ := h
        obtain ⟨l_Config_K79, hc80, h⟩ := h
        obtain ⟨l_Config_Delta81, hc82, h⟩ := h
        obtain ⟨l_Server83, hc84, h⟩ := h
        refine s_loadN (l := [(.int .i64 l_Config_N77), (.int .i64 l_Config_K79), (.int .i64 l_Config_Delta81), (.int .i64 l_Server83)]) H rfl rfl agg_25 rfl ⟨hc78, hc80, hc82, hc84, trivial⟩ (lt_ rfl) ?_
        clear H a
        intro a H
        refine s_call H rfl body_24 (H.args (vs := [(.agg #[(.int .i64 l_Config_N77), (.int .i64 l_Config_K79), (.int .i64 l_Config_Delta81), (.int .i64 l_Server83)])]) rfl) (lt_ rfl) h ?_ (fun c w' h H => e_panic (P := PP) (fn := Tryd.f32) H h)
        clear H h a
        rintro _ w85 a ⟨headOf86, rfl, h⟩ H
        refine s_assign H rfl rfl (lt_ rfl) ?_
        clear H a
        intro a H
        refine c_nil ?_
        refine hK76 _ _ ?_
        refine c_seq fun K87 hK87 => ?_
        refine c_reg ?_
        refine s_move H rfl rfl (lt_ rfl) ?_
        clear H a
        intro a H
        refine s_blt H rfl (H.args (vs := [(Slc.v data1)]) rfl) (lt_ rfl) (fun cs => b_lenS (z := data1) sl_28) ?_
        clear H a
        intro a H
        refine s_move H rfl rfl (lt_ rfl) ?_
        clear H a
        intro a H
        refine s_blt H rfl (H.args (vs := [(Slc.v headOf86)]) rfl) (lt_ rfl) (fun cs => b_lenS (z := headOf86) sl_28) ?_
        clear H a
        intro a H
        refine s_bin H rfl rfl rfl r_geq (lt_ rfl) ?_
        clear H a
        intro a H
        refine s_move H rfl rfl (lt_ rfl) ?_
        clear H a
        intro a H
        obtain ⟨R90, h, hx125⟩ := h
        refine g_joinW (n := 64) R90 (fun x91 => [(59, (.bool x91)), (2, (.pointer (some (blk b3)))), (8, (.pointer (some (blk b47)))), (9, (Slc.v headOf86))]) (.succ (.succ (.succ (.succ (.succ (.succ (.succ (.zero _)))))))) ?_ ?_
        · intro hr89
          clear hx125
          rcases Bool.eq_false_or_eq_true (decide ((headOf86.l : Int) ≤ (data1.l : Int))) with hg88 | hg88
          · replace H := H.ch (t := 52) (b := true) rfl hg88
            replace h := h.1 hg88
            refine s_move H (wantG H rfl rfl) rfl (lt_ rfl) ?_
            clear H a
            intro a H
            refine s_move H (wantG H rfl rfl) rfl (lt_ rfl) ?_
            clear H a
            intro a H
            refine s_blt H (wantG H rfl rfl) (H.args (vs := [(Slc.v headOf86)]) rfl) (lt_ rfl) (fun cs => b_lenS (z := headOf86) sl_28) ?_
            clear H a
            intro a H
            obtain ⟨hi93, hi94, hi95, h⟩ := h
            refine s_slice (v := (Slc.v (data1.cut 1 (Int.toNat (0)) (Int.toNat ((headOf86.l : Int)))))) H (wantG H rfl rfl) rfl ⟨rfl, rfl⟩ ⟨rfl, rfl⟩ ⟨rfl, rfl⟩ (r_sliceSlc (lo := none) (hi := (some (.i64, (headOf86.l : Int)))) slc_28 rfl rfl hi93 hi94 hi95) (lt_ rfl) ?_
            clear H a
            intro a H
            refine s_move H (wantG H rfl rfl) rfl (lt_ rfl) ?_
            clear H a
            intro a H
            refine s_call H (wantG H rfl rfl) body_62 (H.args (vs := [(Slc.v (data1.cut 1 (Int.toNat (0)) (Int.toNat ((headOf86.l : Int))))), (Slc.v headOf86)]) rfl) (lt_ rfl) h ?_ (fun c w' h H => e_panic (P := PP) (fn := Tryd.f32) H h)
            clear H h a
            rintro _ w96 a ⟨Equal97, rfl, h⟩ H
            refine s_pickT H rfl rfl rfl (lt_ rfl) ?_
            clear H a
            intro a H
            exact hr89 _ _ _ h (H.weaken ⟨rfl, rfl, rfl, rfl, trivial⟩)
          · replace H := H.ch (t := 52) (b := false) rfl hg88
            replace h := h.2 hg88
            refine s_skip H (wantN H rfl rfl rfl) rfl (lt_ rfl) ?_
            clear H a
            intro a H
            refine s_skip H (wantN H rfl rfl rfl) rfl (lt_ rfl) ?_
            clear H a
            intro a H
            refine s_skip H (wantN H rfl rfl rfl) rfl (lt_ rfl) ?_
            clear H a
            intro a H
            refine s_skip H (wantN H rfl rfl rfl) rfl (lt_ rfl) ?_
            clear H a
            intro a H
            refine s_skip H (wantN H rfl rfl rfl) rfl (lt_ rfl) ?_
            clear H a
            intro a H
            refine s_skip H (wantN H rfl rfl rfl) rfl (lt_ rfl) ?_
            clear H a
            intro a H
            refine s_pickF H rfl rfl rfl (lt_ rfl) ?_
            clear H a
            intro a H
            exact hr89 _ _ _ h (H.weaken ⟨rfl, rfl, rfl, rfl, trivial⟩)
        · clear H a h
          intro a x91 w92 h H
          replace h := hx125 x91 w92 h
          clear hx125
          refine s_call H rfl body_60 (H.args (vs := [(.bool x91), (.int .i64 63)]) rfl) (lt_ rfl) h ?_ (fun c w' h H => e_panic (P := PP) (fn := Tryd.f32) H h)
          clear H h a
          rintro _ w102 a ⟨rfl, h⟩ H
          refine c_nil ?_
          refine hK87 _ _ ?_
          refine c_seq fun K103 hK103 => ?_
          refine c_reg ?_
          obtain ⟨l_Config_N104, hc105, h⟩ := h
          obtain ⟨l_Config_K106, hc107, h⟩ := h
          obtain ⟨l_Config_Delta108, hc109, h⟩ := h
          obtain ⟨l_Server110, hc111, h⟩ := h
          refine s_loadN (l := [(.int .i64 l_Config_N104), (.int .i64 l_Config_K106), (.int .i64 l_Config_Delta108), (.int .i64 l_Server110)]) H rfl rfl agg_25 rfl ⟨hc105, hc107, hc109, hc111, trivial⟩ (lt_ rfl) ?_
          clear H a
          intro a H
          refine s_move H rfl rfl (lt_ rfl) ?_
          clear H a
          intro a H
          refine s_blt H rfl (H.args (vs := [(Slc.v headOf86)]) rfl) (lt_ rfl) (fun cs => b_lenS (z := headOf86) sl_28) ?_
          clear H a
          intro a H
          refine s_stoN (l := [(.int .i64 l_Config_N104), (.int .i64 l_Config_K106), (.int .i64 l_Config_Delta108), (.int .i64 l_Server110)]) H rfl rfl rfl rfl agg_25 rfl rfl h ?_
          clear h H
          intro w112 h H
          refine s_assign H rfl rfl (lt_ rfl) ?_
          clear H a
          intro a H
          refine c_nil ?_
          refine hK103 _ _ ?_
          refine c_ret ?_
          obtain ⟨res_Config_N113, hc114, h⟩ := h
          obtain ⟨res_Config_K115, hc116, h⟩ := h
          obtain ⟨res_Config_Delta117, hc118, h⟩ := h
          obtain ⟨res_Server119, hc120, h⟩ := h
          exact e_ret2 H rfl ⟨_, rfl, run_loadN (l := [(.int .i64 res_Config_N113), (.int .i64 res_Config_K115), (.int .i64 res_Config_Delta117), (.int .i64 res_Server119)]) agg_25 rfl ⟨hc114, hc116, hc118, hc120, trivial⟩⟩ rfl h

set_option maxRecDepth 100000 in
set_option maxHeartbeats 4000000 in
theorem sim_sherdlaw11_equal (a_Kind1 : Int) (a_Key2 : ByteArray) (a_Entry_Tag_Count3 : Int) (a_Entry_Tag_Client4 : Int) (a_Entry_Fin5 : Bool) (a_Entry_Has6 : Bool) (a_Entry_Data7 : Slc) (b_Kind8 : Int) (b_Key9 : ByteArray) (b_Entry_Tag_Count10 : Int) (b_Entry_Tag_Client11 : Int) (b_Entry_Fin12 : Bool) (b_Entry_Has13 : Bool) (b_Entry_Data14 : Slc) (w : World) (Q : Ending → World → Prop) (h : vc_sherdlaw11_equal a_Kind1 a_Key2 a_Entry_Tag_Count3 a_Entry_Tag_Client4 a_Entry_Fin5 a_Entry_Has6 a_Entry_Data7 b_Kind8 b_Key9 b_Entry_Tag_Count10 b_Entry_Tag_Client11 b_Entry_Fin12 b_Entry_Has13 b_Entry_Data14 w Q) : Calls PP F_sherdlaw11_equal #[(.agg #[(.int .i64 a_Kind1), (.string a_Key2), (.int .i64 a_Entry_Tag_Count3), (.int .i64 a_Entry_Tag_Client4), (.bool a_Entry_Fin5), (.bool a_Entry_Has6), (Slc.v a_Entry_Data7)]), (.agg #[(.int .i64 b_Kind8), (.string b_Key9), (.int .i64 b_Entry_Tag_Count10), (.int .i64 b_Entry_Tag_Client11), (.bool b_Entry_Fin12), (.bool b_Entry_Has13), (Slc.v b_Entry_Data14)])] w Q := by
  unfold vc_sherdlaw11_equal at h
  refine enter (n := 53) (l := [(.agg #[(.int .i64 a_Kind1), (.string a_Key2), (.int .i64 a_Entry_Tag_Count3), (.int .i64 a_Entry_Tag_Client4), (.bool a_Entry_Fin5), (.bool a_Entry_Has6), (Slc.v a_Entry_Data7)]), (.agg #[(.int .i64 b_Kind8), (.string b_Key9), (.int .i64 b_Entry_Tag_Count10), (.int .i64 b_Entry_Tag_Client11), (.bool b_Entry_Fin12), (.bool b_Entry_Has13), (Slc.v b_Entry_Data14)])]) Tryd.func35 rfl rfl (Nat.le_of_ble_eq_true rfl) fun a H => ?_
  replace H : Has 53 [] a [(0, (.agg #[(.int .i64 a_Kind1), (.string a_Key2), (.int .i64 a_Entry_Tag_Count3), (.int .i64 a_Entry_Tag_Client4), (.bool a_Entry_Fin5), (.bool a_Entry_Has6), (Slc.v a_Entry_Data7)])), (1, (.agg #[(.int .i64 b_Kind8), (.string b_Key9), (.int .i64 b_Entry_Tag_Count10), (.int .i64 b_Entry_Tag_Client11), (.bool b_Entry_Fin12), (.bool b_Entry_Has13), (Slc.v b_Entry_Data14)]))] := H
  refine c_seq fun K15 hK15 => ?_
  refine c_reg ?_
  replace h := h.get
  obtain ⟨b16, w17, nb18, h⟩ := h
  refine s_box H rfl rfl (lt_ rfl) ?_
  rw [← nb18.at_]
  clear H a
  intro a H
  refine nb18.go ?_
  replace h := h.get
  obtain ⟨b19, w20, nb21, h⟩ := h
  refine s_box H rfl rfl (lt_ rfl) ?_
  rw [← nb21.at_]
  clear H a
  intro a H
  refine nb21.go ?_
  refine s_assign H rfl rfl (lt_ rfl) ?_
  clear H a
  intro a H
  refine c_nil ?_
  refine hK15 _ _ ?_
  refine c_seq fun K22 hK22 => ?_
  refine c_reg ?_
  refine s_fld H rfl rfl fld_45_0 (lt_ rfl) ?_
  clear H a
  intro a H
  refine s_load (v := (.int .i64 a_Kind1)) H rfl rfl one_3 (nb21.old (nb18.cell (i := 0) rfl)) (lt_ rfl) ?_
  clear H a
  intro a H
  refine s_fld H rfl rfl fld_45_0 (lt_ rfl) ?_
  clear H a
  intro a H
  refine s_load (v := (.int .i64 b_Kind8)) H rfl rfl one_3 (nb21.cell (i := 0) rfl) (lt_ rfl) ?_
  clear H a
  intro a H
  refine s_bin H rfl rfl rfl r_eql (lt_ rfl) ?_
  clear H a
  intro a H
  refine s_move H rfl rfl (lt_ rfl) ?_
  clear H a
  intro a H
  refine g_join (n := 53) [(16, (.bool ((decide (a_Kind1 = b_Kind8)) && (decide (a_Key2.toList = b_Key9.toList))))), (2, (.pointer (some (blk b16)))), (3, (.pointer (some (blk b19))))] (.succ (.succ (.succ (.succ (.succ (.succ (.zero _))))))) ?_ ?_
  · intro hr24
    try clear h
    rcases Bool.eq_false_or_eq_true (decide (a_Kind1 = b_Kind8)) with hg23 | hg23
    · replace H := H.ch (t := 10) (b := true) rfl hg23
      refine s_fld H (wantG H rfl rfl) rfl fld_45_1 (lt_ rfl) ?_
      clear H a
      intro a H
      refine s_load (v := (.string a_Key2)) H (wantG H rfl rfl) rfl one_9 (nb21.old (nb18.cell (i := 1) rfl)) (lt_ rfl) ?_
      clear H a
      intro a H
      refine s_fld H (wantG H rfl rfl) rfl fld_45_1 (lt_ rfl) ?_
      clear H a
      intro a H
      refine s_load (v := (.string b_Key9)) H (wantG H rfl rfl) rfl one_9 (nb21.cell (i := 1) rfl) (lt_ rfl) ?_
      clear H a
      intro a H
      refine s_bin H (wantG H rfl rfl) rfl rfl r_eqlS (lt_ rfl) ?_
      clear H a
      intro a H
      refine s_pickT H rfl rfl rfl (lt_ rfl) ?_
      clear H a
      intro a H
      exact hr24 _ (H.weaken ⟨by rw [hg23]; rfl, rfl, rfl, trivial⟩)
    · replace H := H.ch (t := 10) (b := false) rfl hg23
      refine s_skip H (wantN H rfl rfl rfl) rfl (lt_ rfl) ?_
      clear H a
      intro a H
      refine s_skip H (wantN H rfl rfl rfl) rfl (lt_ rfl) ?_
      clear H a
      intro a H
      refine s_skip H (wantN H rfl rfl rfl) rfl (lt_ rfl) ?_
      clear H a
      intro a H
      refine s_skip H (wantN H rfl rfl rfl) rfl (lt_ rfl) ?_
      clear H a
      intro a H
      refine s_skip H (wantN H rfl rfl rfl) rfl (lt_ rfl) ?_
      clear H a
      intro a H
      refine s_pickF H rfl rfl rfl (lt_ rfl) ?_
      clear H a
      intro a H
      exact hr24 _ (H.weaken ⟨by rw [hg23]; rfl, rfl, rfl, trivial⟩)
  · clear H a
    intro a H
    refine s_move H rfl rfl (lt_ rfl) ?_
    clear H a
    intro a H
    refine g_join (n := 53) [(25, (.bool (((decide (a_Kind1 = b_Kind8)) && (decide (a_Key2.toList = b_Key9.toList))) && (decide (a_Entry_Tag_Count3 = b_Entry_Tag_Count10) && (decide (a_Entry_Tag_Client4 = b_Entry_Tag_Client11)))))), (2, (.pointer (some (blk b16)))), (3, (.pointer (some (blk b19))))] (.succ (.succ (.succ (.succ (.succ (.succ (.succ (.succ (.zero _))))))))) ?_ ?_
    · intro hr26
      try clear h
      rcases Bool.eq_false_or_eq_true ((decide (a_Kind1 = b_Kind8)) && (decide (a_Key2.toList = b_Key9.toList))) with hg25 | hg25
      · replace H := H.ch (t := 17) (b := true) rfl hg25
        refine s_fld H (wantG H rfl rfl) rfl fld_45_2 (lt_ rfl) ?_
        clear H a
        intro a H
        refine s_fld H (wantG H rfl rfl) rfl fld_43_0 (lt_ rfl) ?_
        clear H a
        intro a H
        refine s_loadN (l := [(.int .i64 a_Entry_Tag_Count3), (.int .i64 a_Entry_Tag_Client4)]) H (wantG H rfl rfl) rfl agg_41 rfl ⟨(nb21.old (nb18.cell (i := 2) rfl)), (nb21.old (nb18.cell (i := 3) rfl)), trivial⟩ (lt_ rfl) ?_
        clear H a
        intro a H
        refine s_fld H (wantG H rfl rfl) rfl fld_45_2 (lt_ rfl) ?_
        clear H a
        intro a H
        refine s_fld H (wantG H rfl rfl) rfl fld_43_0 (lt_ rfl) ?_
        clear H a
        intro a H
        refine s_loadN (l := [(.int .i64 b_Entry_Tag_Count10), (.int .i64 b_Entry_Tag_Client11)]) H (wantG H rfl rfl) rfl agg_41 rfl ⟨(nb21.cell (i := 2) rfl), (nb21.cell (i := 3) rfl), trivial⟩ (lt_ rfl) ?_
        clear H a
        intro a H
        refine s_bin H (wantG H rfl rfl) rfl rfl (r_eqst eqg_41 (eqst_41 0) rfl) (lt_ rfl) ?_
        clear H a
        intro a H
        refine s_pickT H rfl rfl rfl (lt_ rfl) ?_
        clear H a
        intro a H
        exact hr26 _ (H.weaken ⟨by rw [hg25]; rfl, rfl, rfl, trivial⟩)
      · replace H := H.ch (t := 17) (b := false) rfl hg25
        refine s_skip H (wantN H rfl rfl rfl) rfl (lt_ rfl) ?_
        clear H a
        intro a H
        refine s_skip H (wantN H rfl rfl rfl) rfl (lt_ rfl) ?_
        clear H a
        intro a H
        refine s_skip H (wantN H rfl rfl rfl) rfl (lt_ rfl) ?_
        clear H a
        intro a H
        refine s_skip H (wantN H rfl rfl rfl) rfl (lt_ rfl) ?_
        clear H a
        intro a H
        refine s_skip H (wantN H rfl rfl rfl) rfl (lt_ rfl) ?_
        clear H a
        intro a H
        refine s_skip H (wantN H rfl rfl rfl) rfl (lt_ rfl) ?_
        clear H a
        intro a H
        refine s_skip H (wantN H rfl rfl rfl) rfl (lt_ rfl) ?_
        clear H a
        intro a H
        refine s_pickF H rfl rfl rfl (lt_ rfl) ?_
        clear H a
        intro a H
        exact hr26 _ (H.weaken ⟨by rw [hg25]; rfl, rfl, rfl, trivial⟩)
    · clear H a
      intro a H
      refine s_move H rfl rfl (lt_ rfl) ?_
      clear H a
      intro a H
      refine g_join (n := 53) [(34, (.bool ((((decide (a_Kind1 = b_Kind8)) && (decide (a_Key2.toList = b_Key9.toList))) && (decide (a_Entry_Tag_Count3 = b_Entry_Tag_Count10) && (decide (a_Entry_Tag_Client4 = b_Entry_Tag_Client11)))) && (decide (a_Entry_Fin5 = b_Entry_Fin12))))), (2, (.pointer (some (blk b16)))), (3, (.pointer (some (blk b19))))] (.succ (.succ (.succ (.succ (.succ (.succ (.succ (.succ (.zero _))))))))) ?_ ?_
      · intro hr28
        try clear h
        rcases Bool.eq_false_or_eq_true (((decide (a_Kind1 = b_Kind8)) && (decide (a_Key2.toList = b_Key9.toList))) && (decide (a_Entry_Tag_Count3 = b_Entry_Tag_Count10) && (decide (a_Entry_Tag_Client4 = b_Entry_Tag_Client11)))) with hg27 | hg27
        · replace H := H.ch (t := 26) (b := true) rfl hg27
          refine s_fld H (wantG H rfl rfl) rfl fld_45_2 (lt_ rfl) ?_
          clear H a
          intro a H
          refine s_fld H (wantG H rfl rfl) rfl fld_43_1 (lt_ rfl) ?_
          clear H a
          intro a H
          refine s_load (v := (.bool a_Entry_Fin5)) H (wantG H rfl rfl) rfl one_4 (nb21.old (nb18.cell (i := 4) rfl)) (lt_ rfl) ?_
          clear H a
          intro a H
          refine s_fld H (wantG H rfl rfl) rfl fld_45_2 (lt_ rfl) ?_
          clear H a
          intro a H
          refine s_fld H (wantG H rfl rfl) rfl fld_43_1 (lt_ rfl) ?_
          clear H a
          intro a H
          refine s_load (v := (.bool b_Entry_Fin12)) H (wantG H rfl rfl) rfl one_4 (nb21.cell (i := 4) rfl) (lt_ rfl) ?_
          clear H a
          intro a H
          refine s_bin H (wantG H rfl rfl) rfl rfl (r_eqB bool_4) (lt_ rfl) ?_
          clear H a
          intro a H
          refine s_pickT H rfl rfl rfl (lt_ rfl) ?_
          clear H a
          intro a H
          exact hr28 _ (H.weaken ⟨by rw [hg27]; rfl, rfl, rfl, trivial⟩)
        · replace H := H.ch (t := 26) (b := false) rfl hg27
          refine s_skip H (wantN H rfl rfl rfl) rfl (lt_ rfl) ?_
          clear H a
          intro a H
          refine s_skip H (wantN H rfl rfl rfl) rfl (lt_ rfl) ?_
          clear H a
          intro a H
          refine s_skip H (wantN H rfl rfl rfl) rfl (lt_ rfl) ?_
          clear H a
          intro a H
          refine s_skip H (wantN H rfl rfl rfl) rfl (lt_ rfl) ?_
          clear H a
          intro a H
          refine s_skip H (wantN H rfl rfl rfl) rfl (lt_ rfl) ?_
          clear H a
          intro a H
          refine s_skip H (wantN H rfl rfl rfl) rfl (lt_ rfl) ?_
          clear H a
          intro a H
          refine s_skip H (wantN H rfl rfl rfl) rfl (lt_ rfl) ?_
          clear H a
          intro a H
          refine s_pickF H rfl rfl rfl (lt_ rfl) ?_
          clear H a
          intro a H
          exact hr28 _ (H.weaken ⟨by rw [hg27]; rfl, rfl, rfl, trivial⟩)
      · clear H a
        intro a H
        refine s_move H rfl rfl (lt_ rfl) ?_
        clear H a
        intro a H
        refine g_join (n := 53) [(43, (.bool (((((decide (a_Kind1 = b_Kind8)) && (decide (a_Key2.toList = b_Key9.toList))) && (decide (a_Entry_Tag_Count3 = b_Entry_Tag_Count10) && (decide (a_Entry_Tag_Client4 = b_Entry_Tag_Client11)))) && (decide (a_Entry_Fin5 = b_Entry_Fin12))) && (decide (a_Entry_Has6 = b_Entry_Has13))))), (2, (.pointer (some (blk b16)))), (3, (.pointer (some (blk b19))))] (.succ (.succ (.succ (.succ (.succ (.succ (.succ (.succ (.zero _))))))))) ?_ ?_
        · intro hr30
          try clear h
          rcases Bool.eq_false_or_eq_true ((((decide (a_Kind1 = b_Kind8)) && (decide (a_Key2.toList = b_Key9.toList))) && (decide (a_Entry_Tag_Count3 = b_Entry_Tag_Count10) && (decide (a_Entry_Tag_Client4 = b_Entry_Tag_Client11)))) && (decide (a_Entry_Fin5 = b_Entry_Fin12))) with hg29 | hg29
          · replace H := H.ch (t := 35) (b := true) rfl hg29
            refine s_fld H (wantG H rfl rfl) rfl fld_45_2 (lt_ rfl) ?_
            clear H a
            intro a H
            refine s_fld H (wantG H rfl rfl) rfl fld_43_2 (lt_ rfl) ?_
            clear H a
            intro a H
            refine s_load (v := (.bool a_Entry_Has6)) H (wantG H rfl rfl) rfl one_4 (nb21.old (nb18.cell (i := 5) rfl)) (lt_ rfl) ?_
            clear H a
            intro a H
            refine s_fld H (wantG H rfl rfl) rfl fld_45_2 (lt_ rfl) ?_
            clear H a
            intro a H
            refine s_fld H (wantG H rfl rfl) rfl fld_43_2 (lt_ rfl) ?_
            clear H a
            intro a H
            refine s_load (v := (.bool b_Entry_Has13)) H (wantG H rfl rfl) rfl one_4 (nb21.cell (i := 5) rfl) (lt_ rfl) ?_
            clear H a
            intro a H
            refine s_bin H (wantG H rfl rfl) rfl rfl (r_eqB bool_4) (lt_ rfl) ?_
            clear H a
            intro a H
            refine s_pickT H rfl rfl rfl (lt_ rfl) ?_
            clear H a
            intro a H
            exact hr30 _ (H.weaken ⟨by rw [hg29]; rfl, rfl, rfl, trivial⟩)
          · replace H := H.ch (t := 35) (b := false) rfl hg29
            refine s_skip H (wantN H rfl rfl rfl) rfl (lt_ rfl) ?_
            clear H a
            intro a H
            refine s_skip H (wantN H rfl rfl rfl) rfl (lt_ rfl) ?_
            clear H a
            intro a H
            refine s_skip H (wantN H rfl rfl rfl) rfl (lt_ rfl) ?_
            clear H a
            intro a H
            refine s_skip H (wantN H rfl rfl rfl) rfl (lt_ rfl) ?_
            clear H a
            intro a H
            refine s_skip H (wantN H rfl rfl rfl) rfl (lt_ rfl) ?_
            clear H a
            intro a H
            refine s_skip H (wantN H rfl rfl rfl) rfl (lt_ rfl) ?_
            clear H a
            intro a H
            refine s_skip H (wantN H rfl rfl rfl) rfl (lt_ rfl) ?_
            clear H a
            intro a H
            refine s_pickF H rfl rfl rfl (lt_ rfl) ?_
            clear H a
            intro a H
            exact hr30 _ (H.weaken ⟨by rw [hg29]; rfl, rfl, rfl, trivial⟩)
        · clear H a
          intro a H
          refine s_move H rfl rfl (lt_ rfl) ?_
          clear H a
          intro a H
          obtain ⟨R33, h, hx42⟩ := h
          refine g_joinW (n := 53) R33 (fun x34 => [(52, (.bool x34))]) (.succ (.succ (.succ (.succ (.succ (.succ (.succ (.succ (.zero _))))))))) ?_ ?_
          · intro hr32
            clear hx42
            rcases Bool.eq_false_or_eq_true (((((decide (a_Kind1 = b_Kind8)) && (decide (a_Key2.toList = b_Key9.toList))) && (decide (a_Entry_Tag_Count3 = b_Entry_Tag_Count10) && (decide (a_Entry_Tag_Client4 = b_Entry_Tag_Client11)))) && (decide (a_Entry_Fin5 = b_Entry_Fin12))) && (decide (a_Entry_Has6 = b_Entry_Has13))) with hg31 | hg31
            · replace H := H.ch (t := 44) (b := true) rfl hg31
              replace h := h.1 hg31
              refine s_fld H (wantG H rfl rfl) rfl fld_45_2 (lt_ rfl) ?_
              clear H a
              intro a H
              refine s_fld H (wantG H rfl rfl) rfl fld_43_3 (lt_ rfl) ?_
              clear H a
              intro a H
              refine s_load (v := (Slc.v a_Entry_Data7)) H (wantG H rfl rfl) rfl one_28 (nb21.old (nb18.cell (i := 6) rfl)) (lt_ rfl) ?_
              clear H a
              intro a H
              refine s_fld H (wantG H rfl rfl) rfl fld_45_2 (lt_ rfl) ?_
              clear H a
              intro a H
              refine s_fld H (wantG H rfl rfl) rfl fld_43_3 (lt_ rfl) ?_
              clear H a
              intro a H
              refine s_load (v := (Slc.v b_Entry_Data14)) H (wantG H rfl rfl) rfl one_28 (nb21.cell (i := 6) rfl) (lt_ rfl) ?_
              clear H a
              intro a H
              refine s_call H (wantG H rfl rfl) body_10 (H.args (vs := [(Slc.v a_Entry_Data7), (Slc.v b_Entry_Data14)]) rfl) (lt_ rfl) h ?_ (fun c w' h H => e_panic (P := PP) (fn := Tryd.f35) H h)
              clear H h a
              rintro _ w36 a ⟨same37, rfl, h⟩ H
              refine s_pickT H rfl rfl rfl (lt_ rfl) ?_
              clear H a
              intro a H
              exact hr32 _ _ _ h (H.weaken ⟨rfl, trivial⟩)
            · replace H := H.ch (t := 44) (b := false) rfl hg31
              replace h := h.2 hg31
              refine s_skip H (wantN H rfl rfl rfl) rfl (lt_ rfl) ?_
              clear H a
              intro a H
              refine s_skip H (wantN H rfl rfl rfl) rfl (lt_ rfl) ?_
              clear H a
              intro a H
              refine s_skip H (wantN H rfl rfl rfl) rfl (lt_ rfl) ?_
              clear H a
              intro a H
              refine s_skip H (wantN H rfl rfl rfl) rfl (lt_ rfl) ?_
              clear H a
              intro a H
              refine s_skip H (wantN H rfl rfl rfl) rfl (lt_ rfl) ?_
              clear H a
              intro a H
              refine s_skip H (wantN H rfl rfl rfl) rfl (lt_ rfl) ?_
              clear H a
              intro a H
              refine s_skip H (wantN H rfl rfl rfl) rfl (lt_ rfl) ?_
              clear H a
              intro a H
              refine s_pickF H rfl rfl rfl (lt_ rfl) ?_
              clear H a
              intro a H
              exact hr32 _ _ _ h (H.weaken ⟨rfl, trivial⟩)
          · clear H a h
            intro a x34 w35 h H
            replace h := hx42 x34 w35 h
            clear hx42
            refine s_assign H rfl rfl (lt_ rfl) ?_
            clear H a
            intro a H
            refine c_nil ?_
            refine hK22 _ _ ?_
            refine c_ret ?_
            exact e_ret1 H rfl rfl h

set_option maxRecDepth 100000 in
set_option maxHeartbeats 4000000 in
theorem sim_record_may (u_Kind1 : Int) (u_Key2 : ByteArray) (u_Entry_Tag_Count3 : Int) (u_Entry_Tag_Client4 : Int) (u_Entry_Fin5 : Bool) (u_Entry_Has6 : Bool) (u_Entry_Data7 : Slc) (w : World) (Q : Ending → World → Prop) (h : vc_record_may u_Kind1 u_Key2 u_Entry_Tag_Count3 u_Entry_Tag_Client4 u_Entry_Fin5 u_Entry_Has6 u_Entry_Data7 w Q) : Calls PP F_record_may #[(.agg #[(.int .i64 u_Kind1), (.string u_Key2), (.int .i64 u_Entry_Tag_Count3), (.int .i64 u_Entry_Tag_Client4), (.bool u_Entry_Fin5), (.bool u_Entry_Has6), (Slc.v u_Entry_Data7)])] w Q := by
  unfold vc_record_may at h
  refine enter (n := 74) (l := [(.agg #[(.int .i64 u_Kind1), (.string u_Key2), (.int .i64 u_Entry_Tag_Count3), (.int .i64 u_Entry_Tag_Client4), (.bool u_Entry_Fin5), (.bool u_Entry_Has6), (Slc.v u_Entry_Data7)])]) Tryd.func36 rfl rfl (Nat.le_of_ble_eq_true rfl) fun a H => ?_
  replace H : Has 74 [] a [(0, (.agg #[(.int .i64 u_Kind1), (.string u_Key2), (.int .i64 u_Entry_Tag_Count3), (.int .i64 u_Entry_Tag_Client4), (.bool u_Entry_Fin5), (.bool u_Entry_Has6), (Slc.v u_Entry_Data7)]))] := H
  refine c_seq fun K8 hK8 => ?_
  refine c_reg ?_
  replace h := h.get
  obtain ⟨b9, w10, nb11, h⟩ := h
  refine s_box H rfl rfl (lt_ rfl) ?_
  rw [← nb11.at_]
  clear H a
  intro a H
  refine nb11.go ?_
  refine s_assign H rfl rfl (lt_ rfl) ?_
  clear H a
  intro a H
  refine c_nil ?_
  refine hK8 _ _ ?_
  refine c_seq fun K12 hK12 => ?_
  refine c_reg ?_
  refine s_fld H rfl rfl fld_45_0 (lt_ rfl) ?_
  clear H a
  intro a H
  refine s_load (v := (.int .i64 u_Kind1)) H rfl rfl one_3 (nb11.cell (i := 0) rfl) (lt_ rfl) ?_
  clear H a
  intro a H
  refine s_bin H rfl rfl rfl r_eql (lt_ rfl) ?_
  clear H a
  intro a H
  refine s_move H rfl rfl (lt_ rfl) ?_
  clear H a
  intro a H
  refine g_join (n := 74) [(16, (.bool ((decide (u_Kind1 = 1)) || ((decide (u_Kind1 = 3)) && u_Entry_Has6)))), (1, (.pointer (some (blk b9))))] (.succ (.succ (.succ (.succ (.succ (.succ (.succ (.succ (.succ (.zero _)))))))))) ?_ ?_
  · intro hr14
    try clear h
    rcases Bool.eq_false_or_eq_true (decide (u_Kind1 = 1)) with hg13 | hg13
    · replace H := H.ch (t := 7) (b := true) rfl hg13
      refine s_skip H (wantN H rfl rfl rfl) rfl (lt_ rfl) ?_
      clear H a
      intro a H
      refine s_skip H (wantN H rfl rfl rfl) rfl (lt_ rfl) ?_
      clear H a
      intro a H
      refine s_skip H (wantN H rfl rfl rfl) rfl (lt_ rfl) ?_
      clear H a
      intro a H
      refine s_skip H (wantN H rfl rfl rfl) rfl (lt_ rfl) ?_
      clear H a
      intro a H
      refine s_skip H (wantU H rfl rfl) rfl (lt_ rfl) ?_
      clear H a
      intro a H
      refine s_skip H (wantU H rfl rfl) rfl (lt_ rfl) ?_
      clear H a
      intro a H
      refine s_skip H (wantU H rfl rfl) rfl (lt_ rfl) ?_
      clear H a
      intro a H
      refine s_skip H (wantN H rfl rfl rfl) rfl (lt_ rfl) ?_
      clear H a
      intro a H
      refine s_pickT H rfl rfl rfl (lt_ rfl) ?_
      clear H a
      intro a H
      exact hr14 _ (H.weaken ⟨by rw [hg13]; rfl, rfl, trivial⟩)
    · replace H := H.ch (t := 7) (b := false) rfl hg13
      refine s_fld H (wantG H rfl rfl) rfl fld_45_0 (lt_ rfl) ?_
      clear H a
      intro a H
      refine s_load (v := (.int .i64 u_Kind1)) H (wantG H rfl rfl) rfl one_3 (nb11.cell (i := 0) rfl) (lt_ rfl) ?_
      clear H a
      intro a H
      refine s_bin H (wantG H rfl rfl) rfl rfl r_eql (lt_ rfl) ?_
      clear H a
      intro a H
      refine s_move H (wantG H rfl rfl) rfl (lt_ rfl) ?_
      clear H a
      intro a H
      refine g_join (n := 74) [(15, (.bool ((decide (u_Kind1 = 3)) && u_Entry_Has6))), (1, (.pointer (some (blk b9)))), (7, (.bool false))] (.succ (.succ (.succ (.succ (.zero _))))) ?_ ?_
      · intro hr16
        try clear h
        rcases Bool.eq_false_or_eq_true (decide (u_Kind1 = 3)) with hg15 | hg15
        · replace H := H.ch (t := 11) (b := true) rfl hg15
          refine s_fld H (wantG H rfl rfl) rfl fld_45_2 (lt_ rfl) ?_
          clear H a
          intro a H
          refine s_fld H (wantG H rfl rfl) rfl fld_43_2 (lt_ rfl) ?_
          clear H a
          intro a H
          refine s_load (v := (.bool u_Entry_Has6)) H (wantG H rfl rfl) rfl one_4 (nb11.cell (i := 5) rfl) (lt_ rfl) ?_
          clear H a
          intro a H
          refine s_pickT H (wantG H rfl rfl) rfl rfl (lt_ rfl) ?_
          clear H a
          intro a H
          exact hr16 _ (H.weaken ⟨by rw [hg15]; rfl, rfl, rfl, trivial⟩)
        · replace H := H.ch (t := 11) (b := false) rfl hg15
          refine s_skip H (wantN H rfl rfl rfl) rfl (lt_ rfl) ?_
          clear H a
          intro a H
          refine s_skip H (wantN H rfl rfl rfl) rfl (lt_ rfl) ?_
          clear H a
          intro a H
          refine s_skip H (wantN H rfl rfl rfl) rfl (lt_ rfl) ?_
          clear H a
          intro a H
          refine s_pickF H (wantG H rfl rfl) rfl rfl (lt_ rfl) ?_
          clear H a
          intro a H
          exact hr16 _ (H.weaken ⟨by rw [hg15]; rfl, rfl, rfl, trivial⟩)
      · clear H a
        intro a H
        refine s_pickF H rfl rfl rfl (lt_ rfl) ?_
        clear H a
        intro a H
        exact hr14 _ (H.weaken ⟨by rw [hg13]; rfl, rfl, trivial⟩)
  · clear H a
    intro a H
    refine s_assign H rfl rfl (lt_ rfl) ?_
    clear H a
    intro a H
    refine c_nil ?_
    refine hK12 _ _ ?_
    refine c_seq fun K17 hK17 => ?_
    refine c_block ?_
    refine c_seq fun K18 hK18 => ?_
    refine c_reg ?_
    refine s_fld H rfl rfl fld_45_0 (lt_ rfl) ?_
    clear H a
    intro a H
    refine s_load (v := (.int .i64 u_Kind1)) H rfl rfl one_3 (nb11.cell (i := 0) rfl) (lt_ rfl) ?_
    clear H a
    intro a H
    refine s_bin H rfl rfl rfl r_lss (lt_ rfl) ?_
    clear H a
    intro a H
    refine s_move H rfl rfl (lt_ rfl) ?_
    clear H a
    intro a H
    refine g_join (n := 74) [(25, (.bool ((decide (u_Kind1 < 1)) || (decide (3 < u_Kind1))))), (1, (.pointer (some (blk b9)))), (3, (.bool ((decide (u_Kind1 = 1)) || ((decide (u_Kind1 = 3)) && u_Entry_Has6))))] (.succ (.succ (.succ (.succ (.zero _))))) ?_ ?_
    · intro hr20
      try clear h
      rcases Bool.eq_false_or_eq_true (decide (u_Kind1 < 1)) with hg19 | hg19
      · replace H := H.ch (t := 21) (b := true) rfl hg19
        refine s_skip H (wantN H rfl rfl rfl) rfl (lt_ rfl) ?_
        clear H a
        intro a H
        refine s_skip H (wantN H rfl rfl rfl) rfl (lt_ rfl) ?_
        clear H a
        intro a H
        refine s_skip H (wantN H rfl rfl rfl) rfl (lt_ rfl) ?_
        clear H a
        intro a H
        refine s_pickT H rfl rfl rfl (lt_ rfl) ?_
        clear H a
        intro a H
        exact hr20 _ (H.weaken ⟨by rw [hg19]; rfl, rfl, rfl, trivial⟩)
      · replace H := H.ch (t := 21) (b := false) rfl hg19
        refine s_fld H (wantG H rfl rfl) rfl fld_45_0 (lt_ rfl) ?_
        clear H a
        intro a H
        refine s_load (v := (.int .i64 u_Kind1)) H (wantG H rfl rfl) rfl one_3 (nb11.cell (i := 0) rfl) (lt_ rfl) ?_
        clear H a
        intro a H
        refine s_bin H (wantG H rfl rfl) rfl rfl r_gtr (lt_ rfl) ?_
        clear H a
        intro a H
        refine s_pickF H rfl rfl rfl (lt_ rfl) ?_
        clear H a
        intro a H
        exact hr20 _ (H.weaken ⟨by rw [hg19]; rfl, rfl, rfl, trivial⟩)
    · clear H a
      intro a H
      refine s_assign H rfl rfl (lt_ rfl) ?_
      clear H a
      intro a H
      refine c_nil ?_
      refine hK18 _ _ ?_
      refine c_cond H rfl (fun hb21 => ?_) (fun hb21 => ?_)
      · replace h := h.1 hb21
        refine c_seq fun K22 hK22 => ?_
        refine c_reg ?_
        refine s_assign H rfl rfl (lt_ rfl) ?_
        clear H a
        intro a H
        refine c_nil ?_
        refine hK22 _ _ ?_
        refine c_ret ?_
        exact e_ret1 H rfl rfl h
      · replace h := h.2 hb21
        refine c_seq fun K23 hK23 => ?_
        refine c_reg ?_
        refine s_fld H rfl rfl fld_45_1 (lt_ rfl) ?_
        clear H a
        intro a H
        refine s_load (v := (.string u_Key2)) H rfl rfl one_9 (nb11.cell (i := 1) rfl) (lt_ rfl) ?_
        clear H a
        intro a H
        refine s_blt H rfl (H.args (vs := [(.string u_Key2)]) rfl) (lt_ rfl) (fun cs => b_lenT str_9) ?_
        clear H a
        intro a H
        refine s_bin H rfl rfl rfl r_lss (lt_ rfl) ?_
        clear H a
        intro a H
        refine s_move H rfl rfl (lt_ rfl) ?_
        clear H a
        intro a H
        refine g_join (n := 74) [(36, (.bool ((decide ((u_Key2.size : Int) < 1)) || (decide (64 < (u_Key2.size : Int)))))), (1, (.pointer (some (blk b9)))), (3, (.bool ((decide (u_Kind1 = 1)) || ((decide (u_Kind1 = 3)) && u_Entry_Has6))))] (.succ (.succ (.succ (.succ (.succ (.zero _)))))) ?_ ?_
        · intro hr25
          try clear h
          rcases Bool.eq_false_or_eq_true (decide ((u_Key2.size : Int) < 1)) with hg24 | hg24
          · replace H := H.ch (t := 31) (b := true) rfl hg24
            refine s_skip H (wantN H rfl rfl rfl) rfl (lt_ rfl) ?_
            clear H a
            intro a H
            refine s_skip H (wantN H rfl rfl rfl) rfl (lt_ rfl) ?_
            clear H a
            intro a H
            refine s_skip H (wantN H rfl rfl rfl) rfl (lt_ rfl) ?_
            clear H a
            intro a H
            refine s_skip H (wantN H rfl rfl rfl) rfl (lt_ rfl) ?_
            clear H a
            intro a H
            refine s_pickT H rfl rfl rfl (lt_ rfl) ?_
            clear H a
            intro a H
            exact hr25 _ (H.weaken ⟨by rw [hg24]; rfl, rfl, rfl, trivial⟩)
          · replace H := H.ch (t := 31) (b := false) rfl hg24
            refine s_fld H (wantG H rfl rfl) rfl fld_45_1 (lt_ rfl) ?_
            clear H a
            intro a H
            refine s_load (v := (.string u_Key2)) H (wantG H rfl rfl) rfl one_9 (nb11.cell (i := 1) rfl) (lt_ rfl) ?_
            clear H a
            intro a H
            refine s_blt H (wantG H rfl rfl) (H.args (vs := [(.string u_Key2)]) rfl) (lt_ rfl) (fun cs => b_lenT str_9) ?_
            clear H a
            intro a H
            refine s_bin H (wantG H rfl rfl) rfl rfl r_gtr (lt_ rfl) ?_
            clear H a
            intro a H
            refine s_pickF H rfl rfl rfl (lt_ rfl) ?_
            clear H a
            intro a H
            exact hr25 _ (H.weaken ⟨by rw [hg24]; rfl, rfl, rfl, trivial⟩)
        · clear H a
          intro a H
          refine s_assign H rfl rfl (lt_ rfl) ?_
          clear H a
          intro a H
          refine c_nil ?_
          refine hK23 _ _ ?_
          refine c_cond H rfl (fun hb26 => ?_) (fun hb26 => ?_)
          · replace h := h.1 hb26
            refine c_seq fun K27 hK27 => ?_
            refine c_reg ?_
            refine s_assign H rfl rfl (lt_ rfl) ?_
            clear H a
            intro a H
            refine c_nil ?_
            refine hK27 _ _ ?_
            refine c_ret ?_
            exact e_ret1 H rfl rfl h
          · replace h := h.2 hb26
            refine c_seq fun K28 hK28 => ?_
            refine c_reg ?_
            refine s_fld H rfl rfl fld_45_2 (lt_ rfl) ?_
            clear H a
            intro a H
            refine s_fld H rfl rfl fld_43_0 (lt_ rfl) ?_
            clear H a
            intro a H
            refine s_loadN (l := [(.int .i64 u_Entry_Tag_Count3), (.int .i64 u_Entry_Tag_Client4)]) H rfl rfl agg_41 rfl ⟨(nb11.cell (i := 2) rfl), (nb11.cell (i := 3) rfl), trivial⟩ (lt_ rfl) ?_
            clear H a
            intro a H
            refine s_call H rfl body_65 (H.args (vs := [(.agg #[(.int .i64 u_Entry_Tag_Count3), (.int .i64 u_Entry_Tag_Client4)])]) rfl) (lt_ rfl) h ?_ (fun c w' h H => e_panic (P := PP) (fn := Tryd.f36) H h)
            clear H h a
            rintro _ w29 a ⟨Zero30, rfl, h⟩ H
            refine s_move H rfl rfl (lt_ rfl) ?_
            clear H a
            intro a H
            obtain ⟨R33, h, hx78⟩ := h
            refine g_joinW (n := 74) R33 (fun x34 => [(48, (.bool x34)), (1, (.pointer (some (blk b9)))), (3, (.bool ((decide (u_Kind1 = 1)) || ((decide (u_Kind1 = 3)) && u_Entry_Has6))))]) (.succ (.succ (.succ (.succ (.succ (.succ (.zero _))))))) ?_ ?_
            · intro hr32
              clear hx78
              rcases Bool.eq_false_or_eq_true Zero30 with hg31 | hg31
              · replace H := H.ch (t := 42) (b := true) rfl hg31
                replace h := h.2 hg31
                refine s_skip H (wantN H rfl rfl rfl) rfl (lt_ rfl) ?_
                clear H a
                intro a H
                refine s_skip H (wantN H rfl rfl rfl) rfl (lt_ rfl) ?_
                clear H a
                intro a H
                refine s_skip H (wantN H rfl rfl rfl) rfl (lt_ rfl) ?_
                clear H a
                intro a H
                refine s_skip H (wantN H rfl rfl rfl) rfl (lt_ rfl) ?_
                clear H a
                intro a H
                refine s_skip H (wantN H rfl rfl rfl) rfl (lt_ rfl) ?_
                clear H a
                intro a H
                refine s_pickT H rfl rfl rfl (lt_ rfl) ?_
                clear H a
                intro a H
                exact hr32 _ _ _ h (H.weaken ⟨rfl, rfl, rfl, trivial⟩)
              · replace H := H.ch (t := 42) (b := false) rfl hg31
                replace h := h.1 hg31
                refine s_fld H (wantG H rfl rfl) rfl fld_45_2 (lt_ rfl) ?_
                clear H a
                intro a H
                refine s_fld H (wantG H rfl rfl) rfl fld_43_0 (lt_ rfl) ?_
                clear H a
                intro a H
                obtain ⟨l_Count36, hc37, h⟩ := h
                obtain ⟨l_Client38, hc39, h⟩ := h
                refine s_loadN (l := [(.int .i64 l_Count36), (.int .i64 l_Client38)]) H (wantG H rfl rfl) rfl agg_41 rfl ⟨hc37, hc39, trivial⟩ (lt_ rfl) ?_
                clear H a
                intro a H
                refine s_call H (wantG H rfl rfl) body_66 (H.args (vs := [(.agg #[(.int .i64 l_Count36), (.int .i64 l_Client38)])]) rfl) (lt_ rfl) h ?_ (fun c w' h H => e_panic (P := PP) (fn := Tryd.f36) H h)
                clear H h a
                rintro _ w40 a ⟨Valid41, rfl, h⟩ H
                refine s_un H (wantG H rfl rfl) rfl r_not (lt_ rfl) ?_
                clear H a
                intro a H
                refine s_pickF H rfl rfl rfl (lt_ rfl) ?_
                clear H a
                intro a H
                exact hr32 _ _ _ h (H.weaken ⟨rfl, rfl, rfl, trivial⟩)
            · clear H a h
              intro a x34 w35 h H
              replace h := hx78 x34 w35 h
              clear hx78
              refine s_assign H rfl rfl (lt_ rfl) ?_
              clear H a
              intro a H
              refine c_nil ?_
              refine hK28 _ _ ?_
              refine c_cond H rfl (fun hb46 => ?_) (fun hb46 => ?_)
              · replace h := h.1 hb46
                refine c_seq fun K47 hK47 => ?_
                refine c_reg ?_
                refine s_assign H rfl rfl (lt_ rfl) ?_
                clear H a
                intro a H
                refine c_nil ?_
                refine hK47 _ _ ?_
                refine c_ret ?_
                exact e_ret1 H rfl rfl h
              · replace h := h.2 hb46
                refine c_seq fun K48 hK48 => ?_
                refine c_reg ?_
                refine s_fld H rfl rfl fld_45_0 (lt_ rfl) ?_
                clear H a
                intro a H
                obtain ⟨l49, hc50, h⟩ := h
                refine s_load (v := (.int .i64 l49)) H rfl rfl one_3 hc50 (lt_ rfl) ?_
                clear H a
                intro a H
                refine s_bin H rfl rfl rfl r_eql (lt_ rfl) ?_
                clear H a
                intro a H
                refine s_move H rfl rfl (lt_ rfl) ?_
                clear H a
                intro a H
                obtain ⟨x55, hy56, hn57, h⟩ := h
                refine g_join (n := 74) [(58, (.bool x55)), (1, (.pointer (some (blk b9)))), (3, (.bool ((decide (u_Kind1 = 1)) || ((decide (u_Kind1 = 3)) && u_Entry_Has6))))] (.succ (.succ (.succ (.succ (.succ (.zero _)))))) ?_ ?_
                · intro hr52
                  try clear h
                  rcases Bool.eq_false_or_eq_true (decide (l49 = 3)) with hg51 | hg51
                  · replace H := H.ch (t := 53) (b := true) rfl hg51
                    replace h := hy56 hg51
                    refine s_fld H (wantG H rfl rfl) rfl fld_45_2 (lt_ rfl) ?_
                    clear H a
                    intro a H
                    refine s_fld H (wantG H rfl rfl) rfl fld_43_1 (lt_ rfl) ?_
                    clear H a
                    intro a H
                    obtain ⟨l53, hc54, h⟩ := h
                    refine s_load (v := (.bool l53)) H (wantG H rfl rfl) rfl one_4 hc54 (lt_ rfl) ?_
                    clear H a
                    intro a H
                    refine s_un H (wantG H rfl rfl) rfl r_not (lt_ rfl) ?_
                    clear H a
                    intro a H
                    refine s_pickT H rfl rfl rfl (lt_ rfl) ?_
                    clear H a
                    intro a H
                    subst h
                    exact hr52 _ (H.weaken ⟨rfl, rfl, rfl, trivial⟩)
                  · replace H := H.ch (t := 53) (b := false) rfl hg51
                    refine s_skip H (wantN H rfl rfl rfl) rfl (lt_ rfl) ?_
                    clear H a
                    intro a H
                    refine s_skip H (wantN H rfl rfl rfl) rfl (lt_ rfl) ?_
                    clear H a
                    intro a H
                    refine s_skip H (wantN H rfl rfl rfl) rfl (lt_ rfl) ?_
                    clear H a
                    intro a H
                    refine s_skip H (wantN H rfl rfl rfl) rfl (lt_ rfl) ?_
                    clear H a
                    intro a H
                    refine s_pickF H rfl rfl rfl (lt_ rfl) ?_
                    clear H a
                    intro a H
                    replace h := hn57 hg51
                    subst h
                    exact hr52 _ (H.weaken ⟨rfl, rfl, rfl, trivial⟩)
                · clear H a
                  clear hy56 hn57
                  intro a H
                  refine s_move H rfl rfl (lt_ rfl) ?_
                  clear H a
                  intro a H
                  obtain ⟨x62, hy63, hn64, h⟩ := h
                  refine g_join (n := 74) [(64, (.bool x62)), (1, (.pointer (some (blk b9)))), (3, (.bool ((decide (u_Kind1 = 1)) || ((decide (u_Kind1 = 3)) && u_Entry_Has6))))] (.succ (.succ (.succ (.succ (.succ (.zero _)))))) ?_ ?_
                  · intro hr59
                    try clear h
                    rcases Bool.eq_false_or_eq_true x55 with hg58 | hg58
                    · replace H := H.ch (t := 59) (b := true) rfl hg58
                      replace h := hy63 hg58
                      refine s_fld H (wantG H rfl rfl) rfl fld_45_2 (lt_ rfl) ?_
                      clear H a
                      intro a H
                      refine s_fld H (wantG H rfl rfl) rfl fld_43_2 (lt_ rfl) ?_
                      clear H a
                      intro a H
                      obtain ⟨l60, hc61, h⟩ := h
                      refine s_load (v := (.bool l60)) H (wantG H rfl rfl) rfl one_4 hc61 (lt_ rfl) ?_
                      clear H a
                      intro a H
                      refine s_un H (wantG H rfl rfl) rfl r_not (lt_ rfl) ?_
                      clear H a
                      intro a H
                      refine s_pickT H rfl rfl rfl (lt_ rfl) ?_
                      clear H a
                      intro a H
                      subst h
                      exact hr59 _ (H.weaken ⟨rfl, rfl, rfl, trivial⟩)
                    · replace H := H.ch (t := 59) (b := false) rfl hg58
                      refine s_skip H (wantN H rfl rfl rfl) rfl (lt_ rfl) ?_
                      clear H a
                      intro a H
                      refine s_skip H (wantN H rfl rfl rfl) rfl (lt_ rfl) ?_
                      clear H a
                      intro a H
                      refine s_skip H (wantN H rfl rfl rfl) rfl (lt_ rfl) ?_
                      clear H a
                      intro a H
                      refine s_skip H (wantN H rfl rfl rfl) rfl (lt_ rfl) ?_
                      clear H a
                      intro a H
                      refine s_pickF H rfl rfl rfl (lt_ rfl) ?_
                      clear H a
                      intro a H
                      replace h := hn64 hg58
                      subst h
                      exact hr59 _ (H.weaken ⟨rfl, rfl, rfl, trivial⟩)
                  · clear H a
                    clear hy63 hn64
                    intro a H
                    refine s_assign H rfl rfl (lt_ rfl) ?_
                    clear H a
                    intro a H
                    refine c_nil ?_
                    refine hK48 _ _ ?_
                    refine c_cond H rfl (fun hb65 => ?_) (fun hb65 => ?_)
                    · replace h := h.1 hb65
                      refine c_seq fun K66 hK66 => ?_
                      refine c_reg ?_
                      refine s_assign H rfl rfl (lt_ rfl) ?_
                      clear H a
                      intro a H
                      refine c_nil ?_
                      refine hK66 _ _ ?_
                      refine c_ret ?_
                      exact e_ret1 H rfl rfl h
                    · replace h := h.2 hb65
                      refine c_seq fun K67 hK67 => ?_
                      refine c_reg ?_
                      refine s_move H rfl rfl (lt_ rfl) ?_
                      clear H a
                      intro a H
                      refine s_move H rfl rfl (lt_ rfl) ?_
                      clear H a
                      intro a H
                      obtain ⟨x72, hy73, hn74, h⟩ := h
                      refine g_join (n := 74) [(73, (.bool x72))] (.succ (.succ (.succ (.succ (.succ (.succ (.zero _))))))) ?_ ?_
                      · intro hr69
                        try clear h
                        rcases Bool.eq_false_or_eq_true ((decide (u_Kind1 = 1)) || ((decide (u_Kind1 = 3)) && u_Entry_Has6)) with hg68 | hg68
                        · replace H := H.ch (t := 67) (b := true) rfl hg68
                          replace h := hy73 hg68
                          refine s_fld H (wantG H rfl rfl) rfl fld_45_2 (lt_ rfl) ?_
                          clear H a
                          intro a H
                          refine s_fld H (wantG H rfl rfl) rfl fld_43_3 (lt_ rfl) ?_
                          clear H a
                          intro a H
                          obtain ⟨l70, hc71, h⟩ := h
                          refine s_load (v := (Slc.v l70)) H (wantG H rfl rfl) rfl one_28 hc71 (lt_ rfl) ?_
                          clear H a
                          intro a H
                          refine s_blt H (wantG H rfl rfl) (H.args (vs := [(Slc.v l70)]) rfl) (lt_ rfl) (fun cs => b_lenS (z := l70) sl_28) ?_
                          clear H a
                          intro a H
                          refine s_bin H (wantG H rfl rfl) rfl rfl r_gtr (lt_ rfl) ?_
                          clear H a
                          intro a H
                          refine s_pickT H rfl rfl rfl (lt_ rfl) ?_
                          clear H a
                          intro a H
                          subst h
                          exact hr69 _ (H.weaken ⟨rfl, trivial⟩)
                        · replace H := H.ch (t := 67) (b := false) rfl hg68
                          refine s_skip H (wantN H rfl rfl rfl) rfl (lt_ rfl) ?_
                          clear H a
                          intro a H
                          refine s_skip H (wantN H rfl rfl rfl) rfl (lt_ rfl) ?_
                          clear H a
                          intro a H
                          refine s_skip H (wantN H rfl rfl rfl) rfl (lt_ rfl) ?_
                          clear H a
                          intro a H
                          refine s_skip H (wantN H rfl rfl rfl) rfl (lt_ rfl) ?_
                          clear H a
                          intro a H
                          refine s_skip H (wantN H rfl rfl rfl) rfl (lt_ rfl) ?_
                          clear H a
                          intro a H
                          refine s_pickF H rfl rfl rfl (lt_ rfl) ?_
                          clear H a
                          intro a H
                          replace h := hn74 hg68
                          subst h
                          exact hr69 _ (H.weaken ⟨rfl, trivial⟩)
                      · clear H a
                        clear hy73 hn74
                        intro a H
                        refine s_assign H rfl rfl (lt_ rfl) ?_
                        clear H a
                        intro a H
                        refine c_nil ?_
                        refine hK67 _ _ ?_
                        refine c_cond H rfl (fun hb75 => ?_) (fun hb75 => ?_)
                        · replace h := h.1 hb75
                          refine c_seq fun K76 hK76 => ?_
                          refine c_reg ?_
                          refine s_assign H rfl rfl (lt_ rfl) ?_
                          clear H a
                          intro a H
                          refine c_nil ?_
                          refine hK76 _ _ ?_
                          refine c_ret ?_
                          exact e_ret1 H rfl rfl h
                        · replace h := h.2 hb75
                          refine c_skip ?_
                          refine hK17 _ _ ?_
                          refine c_seq fun K77 hK77 => ?_
                          refine c_reg ?_
                          refine s_assign H rfl rfl (lt_ rfl) ?_
                          clear H a
                          intro a H
                          refine c_nil ?_
                          refine hK77 _ _ ?_
                          refine c_ret ?_
                          exact e_ret1 H rfl rfl h

set_option maxRecDepth 100000 in
set_option maxHeartbeats 4000000 in
theorem sim_pack_NewWriter (w : World) (Q : Ending → World → Prop) (h : vc_pack_NewWriter w Q) : Calls PP F_pack_NewWriter #[] w Q := by
  unfold vc_pack_NewWriter at h
  refine enter (n := 3) (l := []) Tryd.func37 rfl rfl (Nat.le_of_ble_eq_true rfl) fun a H => ?_
  replace H : Has 3 [] a [] := H
  refine c_seq fun K1 hK1 => ?_
  refine c_reg ?_
  refine s_assign H rfl rfl (lt_ rfl) ?_
  clear H a
  intro a H
  refine c_nil ?_
  refine hK1 _ _ ?_
  refine c_seq fun K2 hK2 => ?_
  refine c_reg ?_
  refine s_build H rfl (by rw [H.parts (vs := []) rfl]; exact bd_109 w) (lt_ rfl) ?_
  clear H a
  intro a H
  replace h := h.get
  obtain ⟨b3, w4, nb5, h⟩ := h
  refine s_box H rfl rfl (lt_ rfl) ?_
  rw [← nb5.at_]
  clear H a
  intro a H
  refine nb5.go ?_
  refine s_assign H rfl rfl (lt_ rfl) ?_
  clear H a
  intro a H
  refine c_nil ?_
  refine hK2 _ _ ?_
  refine c_ret ?_
  exact e_ret1 H rfl rfl h

set_option maxRecDepth 100000 in
set_option maxHeartbeats 4000000 in
theorem sim_pack_Writer_Byte (w1 : Option Addr) (b2 : Int) (w : World) (Q : Ending → World → Prop) (h : vc_pack_Writer_Byte w1 b2 w Q) : Calls PP F_pack_Writer_Byte #[(.pointer w1), (.int .u8 b2)] w Q := by
  unfold vc_pack_Writer_Byte at h
  refine enter (n := 8) (l := [(.pointer w1), (.int .u8 b2)]) Tryd.func38 rfl rfl (Nat.le_of_ble_eq_true rfl) fun a H => ?_
  replace H : Has 8 [] a [(0, (.pointer w1)), (1, (.int .u8 b2))] := H
  refine c_reg ?_
  refine s_move H rfl rfl (lt_ rfl) ?_
  clear H a
  intro a H
  refine s_move H rfl rfl (lt_ rfl) ?_
  clear H a
  intro a H
  replace h := h.get
  obtain ⟨b3, w4, nb5, h⟩ := h
  refine s_bslc H rfl (by rw [H.parts (vs := [(0, (.int .u8 b2))]) rfl]; exact bs_28_1_iu80 w b2) (lt_ rfl) ?_
  rw [← nb5.at_]
  clear H a
  intro a H
  refine nb5.go ?_
  refine s_call H rfl body_67 (H.args (vs := [(.pointer w1), (Slc.v (Slc.mk (some (blk b3)) 1 1))]) rfl) (lt_ rfl) h ?_ (fun c w' h H => e_panic (P := PP) (fn := Tryd.f38) H h)
  clear H h a
  rintro _ w6 a ⟨rfl, h⟩ H
  refine c_nil ?_
  exact e_ret0 H rfl h

set_option maxRecDepth 100000 in
set_option maxHeartbeats 4000000 in
theorem sim_pack_Writer_Bytes (w1 : Option Addr) (b2 : Slc) (w : World) (Q : Ending → World → Prop) (h : vc_pack_Writer_Bytes w1 b2 w Q) : Calls PP F_pack_Writer_Bytes #[(.pointer w1), (Slc.v b2)] w Q := by
  unfold vc_pack_Writer_Bytes at h
  refine enter (n := 11) (l := [(.pointer w1), (Slc.v b2)]) Tryd.func39 rfl rfl (Nat.le_of_ble_eq_true rfl) fun a H => ?_
  replace H : Has 11 [] a [(0, (.pointer w1)), (1, (Slc.v b2))] := H
  refine c_seq fun K3 hK3 => ?_
  refine c_reg ?_
  refine s_move H rfl rfl (lt_ rfl) ?_
  clear H a
  intro a H
  refine s_move H rfl rfl (lt_ rfl) ?_
  clear H a
  intro a H
  refine s_blt H rfl (H.args (vs := [(Slc.v b2)]) rfl) (lt_ rfl) (fun cs => b_lenS (z := b2) sl_28) ?_
  clear H a
  intro a H
  refine s_call H rfl body_52 (H.args (vs := [(.pointer w1), (.int .i64 (b2.l : Int))]) rfl) (lt_ rfl) h ?_ (fun c w' h H => e_panic (P := PP) (fn := Tryd.f39) H h)
  clear H h a
  rintro _ w4 a ⟨rfl, h⟩ H
  refine c_nil ?_
  refine hK3 _ _ ?_
  refine c_reg ?_
  refine s_move H rfl rfl (lt_ rfl) ?_
  clear H a
  intro a H
  refine s_move H rfl rfl (lt_ rfl) ?_
  clear H a
  intro a H
  refine s_call H rfl body_67 (H.args (vs := [(.pointer w1), (Slc.v b2)]) rfl) (lt_ rfl) h ?_ (fun c w' h H => e_panic (P := PP) (fn := Tryd.f39) H h)
  clear H h a
  rintro _ w5 a ⟨rfl, h⟩ H
  refine c_nil ?_
  exact e_ret0 H rfl h

set_option maxRecDepth 100000 in
set_option maxHeartbeats 4000000 in
theorem sim_record_body (u_Kind1 : Int) (u_Key2 : ByteArray) (u_Entry_Tag_Count3 : Int) (u_Entry_Tag_Client4 : Int) (u_Entry_Fin5 : Bool) (u_Entry_Has6 : Bool) (u_Entry_Data7 : Slc) (w : World) (Q : Ending → World → Prop) (h : vc_record_body u_Kind1 u_Key2 u_Entry_Tag_Count3 u_Entry_Tag_Client4 u_Entry_Fin5 u_Entry_Has6 u_Entry_Data7 w Q) : Calls PP F_record_body #[(.agg #[(.int .i64 u_Kind1), (.string u_Key2), (.int .i64 u_Entry_Tag_Count3), (.int .i64 u_Entry_Tag_Client4), (.bool u_Entry_Fin5), (.bool u_Entry_Has6), (Slc.v u_Entry_Data7)])] w Q := by
  unfold vc_record_body at h
  refine enter (n := 54) (l := [(.agg #[(.int .i64 u_Kind1), (.string u_Key2), (.int .i64 u_Entry_Tag_Count3), (.int .i64 u_Entry_Tag_Client4), (.bool u_Entry_Fin5), (.bool u_Entry_Has6), (Slc.v u_Entry_Data7)])]) Tryd.func40 rfl rfl (Nat.le_of_ble_eq_true rfl) fun a H => ?_
  replace H : Has 54 [] a [(0, (.agg #[(.int .i64 u_Kind1), (.string u_Key2), (.int .i64 u_Entry_Tag_Count3), (.int .i64 u_Entry_Tag_Client4), (.bool u_Entry_Fin5), (.bool u_Entry_Has6), (Slc.v u_Entry_Data7)]))] := H
  refine c_seq fun K8 hK8 => ?_
  refine c_reg ?_
  replace h := h.get
  obtain ⟨b9, w10, nb11, h⟩ := h
  refine s_box H rfl rfl (lt_ rfl) ?_
  rw [← nb11.at_]
  clear H a
  intro a H
  refine nb11.go ?_
  refine s_assign H rfl rfl (lt_ rfl) ?_
  clear H a
  intro a H
  refine c_nil ?_
  refine hK8 _ _ ?_
  refine c_seq fun K12 hK12 => ?_
  refine c_reg ?_
  refine s_call H rfl body_37 (H.args (vs := []) rfl) (lt_ rfl) h ?_ (fun c w' h H => e_panic (P := PP) (fn := Tryd.f40) H h)
  clear H h a
  rintro _ w13 a ⟨NewWri14, rfl, h⟩ H
  refine s_assign H rfl rfl (lt_ rfl) ?_
  clear H a
  intro a H
  refine c_nil ?_
  refine hK12 _ _ ?_
  refine c_seq fun K15 hK15 => ?_
  refine c_reg ?_
  refine s_move H rfl rfl (lt_ rfl) ?_
  clear H a
  intro a H
  refine s_fld H rfl rfl fld_45_0 (lt_ rfl) ?_
  clear H a
  intro a H
  obtain ⟨l16, hc17, h⟩ := h
  refine s_load (v := (.int .i64 l16)) H rfl rfl one_3 hc17 (lt_ rfl) ?_
  clear H a
  intro a H
  refine s_cv H rfl rfl (r_cvI some_3 int_5) (lt_ rfl) ?_
  clear H a
  intro a H
  refine s_call H rfl body_38 (H.args (vs := [(.pointer NewWri14), (.int .u8 (wr .u8 l16))]) rfl) (lt_ rfl) h ?_ (fun c w' h H => e_panic (P := PP) (fn := Tryd.f40) H h)
  clear H h a
  rintro _ w18 a ⟨rfl, h⟩ H
  refine c_nil ?_
  refine hK15 _ _ ?_
  refine c_seq fun K19 hK19 => ?_
  refine c_reg ?_
  refine s_move H rfl rfl (lt_ rfl) ?_
  clear H a
  intro a H
  refine s_fld H rfl rfl fld_45_1 (lt_ rfl) ?_
  clear H a
  intro a H
  obtain ⟨l20, hc21, h⟩ := h
  refine s_load (v := (.string l20)) H rfl rfl one_9 hc21 (lt_ rfl) ?_
  clear H a
  intro a H
  refine s_call H rfl body_68 (H.args (vs := [(.pointer NewWri14), (.string l20)]) rfl) (lt_ rfl) h ?_ (fun c w' h H => e_panic (P := PP) (fn := Tryd.f40) H h)
  clear H h a
  rintro _ w22 a ⟨rfl, h⟩ H
  refine c_nil ?_
  refine hK19 _ _ ?_
  refine c_seq fun K23 hK23 => ?_
  refine c_reg ?_
  refine s_move H rfl rfl (lt_ rfl) ?_
  clear H a
  intro a H
  refine s_fld H rfl rfl fld_45_2 (lt_ rfl) ?_
  clear H a
  intro a H
  refine s_fld H rfl rfl fld_43_0 (lt_ rfl) ?_
  clear H a
  intro a H
  refine s_fld H rfl rfl fld_41_0 (lt_ rfl) ?_
  clear H a
  intro a H
  obtain ⟨l24, hc25, h⟩ := h
  refine s_load (v := (.int .i64 l24)) H rfl rfl one_2 hc25 (lt_ rfl) ?_
  clear H a
  intro a H
  refine s_call H rfl body_52 (H.args (vs := [(.pointer NewWri14), (.int .i64 l24)]) rfl) (lt_ rfl) h ?_ (fun c w' h H => e_panic (P := PP) (fn := Tryd.f40) H h)
  clear H h a
  rintro _ w26 a ⟨rfl, h⟩ H
  refine c_nil ?_
  refine hK23 _ _ ?_
  refine c_seq fun K27 hK27 => ?_
  refine c_reg ?_
  refine s_move H rfl rfl (lt_ rfl) ?_
  clear H a
  intro a H
  refine s_fld H rfl rfl fld_45_2 (lt_ rfl) ?_
  clear H a
  intro a H
  refine s_fld H rfl rfl fld_43_0 (lt_ rfl) ?_
  clear H a
  intro a H
  refine s_fld H rfl rfl fld_41_1 (lt_ rfl) ?_
  clear H a
  intro a H
  obtain ⟨l28, hc29, h⟩ := h
  refine s_load (v := (.int .i64 l28)) H rfl rfl one_3 hc29 (lt_ rfl) ?_
  clear H a
  intro a H
  refine s_call H rfl body_52 (H.args (vs := [(.pointer NewWri14), (.int .i64 l28)]) rfl) (lt_ rfl) h ?_ (fun c w' h H => e_panic (P := PP) (fn := Tryd.f40) H h)
  clear H h a
  rintro _ w30 a ⟨rfl, h⟩ H
  refine c_nil ?_
  refine hK27 _ _ ?_
  refine c_seq fun K31 hK31 => ?_
  refine c_reg ?_
  refine s_fld H rfl rfl fld_45_0 (lt_ rfl) ?_
  clear H a
  intro a H
  obtain ⟨l32, hc33, h⟩ := h
  refine s_load (v := (.int .i64 l32)) H rfl rfl one_3 hc33 (lt_ rfl) ?_
  clear H a
  intro a H
  refine s_bin H rfl rfl rfl r_eql (lt_ rfl) ?_
  clear H a
  intro a H
  refine s_assign H rfl rfl (lt_ rfl) ?_
  clear H a
  intro a H
  refine c_nil ?_
  refine hK31 _ _ ?_
  refine c_seq fun K34 hK34 => ?_
  obtain ⟨R36, h, hx82⟩ := h
  have hJ59 : ∀ (a : Act) (has35 : Bool) (w37 : World), R36 has35 w37 → Has 54 [] a [(1, (.pointer (some (blk b9)))), (3, (.pointer NewWri14)), (4, (.bool has35))] → K34 a w37 := by
    clear h
    intro a has35 w37 h H
    replace h := hx82 has35 w37 h
    refine hK34 _ _ ?_
    refine c_seq fun K38 hK38 => ?_
    obtain ⟨R39, h, hx58⟩ := h
    have hJ48 : ∀ (a : Act) (w40 : World), R39 w40 → Has 54 [] a [(3, (.pointer NewWri14))] → K38 a w40 := by
      clear h
      intro a w40 h H
      replace h := hx58 w40 h
      refine hK38 _ _ ?_
      refine c_seq fun K41 hK41 => ?_
      refine c_reg ?_
      refine s_move H rfl rfl (lt_ rfl) ?_
      clear H a
      intro a H
      refine s_call H rfl body_41 (H.args (vs := [(.pointer NewWri14)]) rfl) (lt_ rfl) h ?_ (fun c w' h H => e_panic (P := PP) (fn := Tryd.f40) H h)
      clear H h a
      rintro _ w42 a ⟨Data43, rfl, h⟩ H
      refine s_assign H rfl rfl (lt_ rfl) ?_
      clear H a
      intro a H
      refine c_nil ?_
      refine hK41 _ _ ?_
      refine c_ret ?_
      exact e_ret1 H rfl rfl h
    clear hx58
    refine c_seq fun K49 hK49 => ?_
    refine c_reg ?_
    refine s_move H rfl rfl (lt_ rfl) ?_
    clear H a
    intro a H
    refine c_nil ?_
    refine hK49 _ _ ?_
    refine c_cond H rfl (fun hb50 => ?_) (fun hb50 => ?_)
    · replace h := h.1 hb50
      refine c_reg ?_
      refine s_move H rfl rfl (lt_ rfl) ?_
      clear H a
      intro a H
      refine s_fld H rfl rfl fld_45_2 (lt_ rfl) ?_
      clear H a
      intro a H
      refine s_fld H rfl rfl fld_43_3 (lt_ rfl) ?_
      clear H a
      intro a H
      obtain ⟨l51, hc52, h⟩ := h
      refine s_load (v := (Slc.v l51)) H rfl rfl one_28 hc52 (lt_ rfl) ?_
      clear H a
      intro a H
      refine s_call H rfl body_39 (H.args (vs := [(.pointer NewWri14), (Slc.v l51)]) rfl) (lt_ rfl) h ?_ (fun c w' h H => e_panic (P := PP) (fn := Tryd.f40) H h)
      clear H h a
      rintro _ w53 a ⟨rfl, h⟩ H
      refine c_nil ?_
      exact hJ48 _ _ h (H.weaken ⟨rfl, trivial⟩)
    · replace h := h.2 hb50
      refine c_skip ?_
      exact hJ48 _ _ h (H.weaken ⟨rfl, trivial⟩)
  clear hx82
  refine c_seq fun K60 hK60 => ?_
  refine c_reg ?_
  refine s_fld H rfl rfl fld_45_0 (lt_ rfl) ?_
  clear H a
  intro a H
  obtain ⟨l61, hc62, h⟩ := h
  refine s_load (v := (.int .i64 l61)) H rfl rfl one_3 hc62 (lt_ rfl) ?_
  clear H a
  intro a H
  refine s_bin H rfl rfl rfl r_eql (lt_ rfl) ?_
  clear H a
  intro a H
  refine c_nil ?_
  refine hK60 _ _ ?_
  refine c_cond H rfl (fun hb63 => ?_) (fun hb63 => ?_)
  · replace h := h.1 hb63
    refine c_seq fun K64 hK64 => ?_
    refine c_reg ?_
    refine s_move H rfl rfl (lt_ rfl) ?_
    clear H a
    intro a H
    refine s_fld H rfl rfl fld_45_2 (lt_ rfl) ?_
    clear H a
    intro a H
    refine s_fld H rfl rfl fld_43_1 (lt_ rfl) ?_
    clear H a
    intro a H
    obtain ⟨l65, hc66, h⟩ := h
    refine s_load (v := (.bool l65)) H rfl rfl one_4 hc66 (lt_ rfl) ?_
    clear H a
    intro a H
    refine s_call H rfl body_69 (H.args (vs := [(.pointer NewWri14), (.bool l65)]) rfl) (lt_ rfl) h ?_ (fun c w' h H => e_panic (P := PP) (fn := Tryd.f40) H h)
    clear H h a
    rintro _ w67 a ⟨rfl, h⟩ H
    refine c_nil ?_
    refine hK64 _ _ ?_
    refine c_seq fun K68 hK68 => ?_
    refine c_reg ?_
    refine s_move H rfl rfl (lt_ rfl) ?_
    clear H a
    intro a H
    refine s_fld H rfl rfl fld_45_2 (lt_ rfl) ?_
    clear H a
    intro a H
    refine s_fld H rfl rfl fld_43_2 (lt_ rfl) ?_
    clear H a
    intro a H
    obtain ⟨l69, hc70, h⟩ := h
    refine s_load (v := (.bool l69)) H rfl rfl one_4 hc70 (lt_ rfl) ?_
    clear H a
    intro a H
    refine s_call H rfl body_69 (H.args (vs := [(.pointer NewWri14), (.bool l69)]) rfl) (lt_ rfl) h ?_ (fun c w' h H => e_panic (P := PP) (fn := Tryd.f40) H h)
    clear H h a
    rintro _ w71 a ⟨rfl, h⟩ H
    refine c_nil ?_
    refine hK68 _ _ ?_
    refine c_reg ?_
    refine s_fld H rfl rfl fld_45_2 (lt_ rfl) ?_
    clear H a
    intro a H
    refine s_fld H rfl rfl fld_43_2 (lt_ rfl) ?_
    clear H a
    intro a H
    obtain ⟨l72, hc73, h⟩ := h
    refine s_load (v := (.bool l72)) H rfl rfl one_4 hc73 (lt_ rfl) ?_
    clear H a
    intro a H
    refine s_assign H rfl rfl (lt_ rfl) ?_
    clear H a
    intro a H
    refine c_nil ?_
    exact hJ59 _ _ _ h (H.weaken ⟨rfl, rfl, rfl, trivial⟩)
  · replace h := h.2 hb63
    refine c_skip ?_
    exact hJ59 _ _ _ h (H.weaken ⟨rfl, rfl, rfl, trivial⟩)

set_option maxRecDepth 100000 in
set_option maxHeartbeats 4000000 in
theorem sim_pack_Writer_Data (w1 : Option Addr) (w : World) (Q : Ending → World → Prop) (h : vc_pack_Writer_Data w1 w Q) : Calls PP F_pack_Writer_Data #[(.pointer w1)] w Q := by
  unfold vc_pack_Writer_Data at h
  refine enter (n := 18) (l := [(.pointer w1)]) Tryd.func41 rfl rfl (Nat.le_of_ble_eq_true rfl) fun a H => ?_
  replace H : Has 18 [] a [(0, (.pointer w1))] := H
  refine c_seq fun K2 hK2 => ?_
  refine c_reg ?_
  refine s_assign H rfl rfl (lt_ rfl) ?_
  clear H a
  intro a H
  refine c_nil ?_
  refine hK2 _ _ ?_
  refine c_seq fun K3 hK3 => ?_
  refine c_seq fun K4 hK4 => ?_
  refine c_reg ?_
  refine s_move H rfl rfl (lt_ rfl) ?_
  clear H a
  intro a H
  refine s_bin H rfl rfl rfl (r_eqP0 ptr_81) (lt_ rfl) ?_
  clear H a
  intro a H
  refine s_move H rfl rfl (lt_ rfl) ?_
  clear H a
  intro a H
  obtain ⟨x11, hy12, hn13, h⟩ := h
  refine g_join (n := 18) [(12, (.bool x11)), (0, (.pointer w1))] (.succ (.succ (.succ (.succ (.succ (.succ (.succ (.zero _)))))))) ?_ ?_
  · intro hr6
    try clear h
    rcases Bool.eq_false_or_eq_true w1.isNone with hg5 | hg5
    · replace H := H.ch (t := 5) (b := true) rfl hg5
      refine s_skip H (wantN H rfl rfl rfl) rfl (lt_ rfl) ?_
      clear H a
      intro a H
      refine s_skip H (wantN H rfl rfl rfl) rfl (lt_ rfl) ?_
      clear H a
      intro a H
      refine s_skip H (wantN H rfl rfl rfl) rfl (lt_ rfl) ?_
      clear H a
      intro a H
      refine s_skip H (wantN H rfl rfl rfl) rfl (lt_ rfl) ?_
      clear H a
      intro a H
      refine s_skip H (wantN H rfl rfl rfl) rfl (lt_ rfl) ?_
      clear H a
      intro a H
      refine s_skip H (wantN H rfl rfl rfl) rfl (lt_ rfl) ?_
      clear H a
      intro a H
      refine s_pickT H rfl rfl rfl (lt_ rfl) ?_
      clear H a
      intro a H
      replace h := hn13 hg5
      subst h
      exact hr6 _ (H.weaken ⟨rfl, rfl, trivial⟩)
    · replace H := H.ch (t := 5) (b := false) rfl hg5
      replace h := hy12 hg5
      refine s_move H (wantG H rfl rfl) rfl (lt_ rfl) ?_
      clear H a
      intro a H
      obtain ⟨a7, hq10, h⟩ := h
      subst hq10
      refine s_nil H (wantG H rfl rfl) rfl (lt_ rfl) ?_
      clear H a
      intro a H
      refine s_fld H (wantG H rfl rfl) rfl fld_109_0 (lt_ rfl) ?_
      clear H a
      intro a H
      refine s_fld H (wantG H rfl rfl) rfl fld_107_0 (lt_ rfl) ?_
      clear H a
      intro a H
      obtain ⟨l8, hc9, h⟩ := h
      refine s_load (v := (.int .i64 l8)) H (wantG H rfl rfl) rfl one_29 hc9 (lt_ rfl) ?_
      clear H a
      intro a H
      refine s_bin H (wantG H rfl rfl) rfl rfl r_neq (lt_ rfl) ?_
      clear H a
      intro a H
      refine s_pickF H rfl rfl rfl (lt_ rfl) ?_
      clear H a
      intro a H
      subst h
      exact hr6 _ (H.weaken ⟨rfl, rfl, trivial⟩)
  · clear H a
    clear hy12 hn13
    intro a H
    refine c_nil ?_
    refine hK4 _ _ ?_
    refine c_cond H rfl (fun hb14 => ?_) (fun hb14 => ?_)
    · replace h := h.1 hb14
      refine c_seq fun K15 hK15 => ?_
      refine c_reg ?_
      refine s_assign H rfl rfl (lt_ rfl) ?_
      clear H a
      intro a H
      refine c_nil ?_
      refine hK15 _ _ ?_
      refine c_ret ?_
      exact e_ret1 H rfl rfl h
    · replace h := h.2 hb14
      refine c_skip ?_
      refine hK3 _ _ ?_
      refine c_seq fun K16 hK16 => ?_
      refine c_reg ?_
      refine s_move H rfl rfl (lt_ rfl) ?_
      clear H a
      intro a H
      obtain ⟨a17, hq26, h⟩ := h
      subst hq26
      refine s_nil H rfl rfl (lt_ rfl) ?_
      clear H a
      intro a H
      refine s_fld H rfl rfl fld_109_1 (lt_ rfl) ?_
      clear H a
      intro a H
      obtain ⟨l18, hc19, h⟩ := h
      refine s_load (v := (Slc.v l18)) H rfl rfl one_28 hc19 (lt_ rfl) ?_
      clear H a
      intro a H
      refine s_call H rfl body_25 (H.args (vs := [(Slc.v l18)]) rfl) (lt_ rfl) h ?_ (fun c w' h H => e_panic (P := PP) (fn := Tryd.f41) H h)
      clear H h a
      rintro _ w20 a ⟨Clone21, rfl, h⟩ H
      refine s_assign H rfl rfl (lt_ rfl) ?_
      clear H a
      intro a H
      refine c_nil ?_
      refine hK16 _ _ ?_
      refine c_ret ?_
      exact e_ret1 H rfl rfl h

set_option maxRecDepth 100000 in
set_option maxHeartbeats 4000000 in
theorem sim_record_four (n1 : Int) (w : World) (Q : Ending → World → Prop) (h : vc_record_four n1 w Q) : Calls PP F_record_four #[(.int .u32 n1)] w Q := by
  unfold vc_record_four at h
  refine enter (n := 15) (l := [(.int .u32 n1)]) Tryd.func42 rfl rfl (Nat.le_of_ble_eq_true rfl) fun a H => ?_
  replace H : Has 15 [] a [(0, (.int .u32 n1))] := H
  refine c_seq fun K2 hK2 => ?_
  refine c_reg ?_
  refine s_assign H rfl rfl (lt_ rfl) ?_
  clear H a
  intro a H
  refine c_nil ?_
  refine hK2 _ _ ?_
  refine c_seq fun K3 hK3 => ?_
  refine c_reg ?_
  refine s_move H rfl rfl (lt_ rfl) ?_
  clear H a
  intro a H
  refine s_cv H rfl rfl (r_cvI some_88 int_5) (lt_ rfl) ?_
  clear H a
  intro a H
  refine s_move H rfl rfl (lt_ rfl) ?_
  clear H a
  intro a H
  refine s_bin H rfl rfl rfl (r_shr (by decide)) (lt_ rfl) ?_
  clear H a
  intro a H
  refine s_cv H rfl rfl (r_cvI some_88 int_5) (lt_ rfl) ?_
  clear H a
  intro a H
  refine s_move H rfl rfl (lt_ rfl) ?_
  clear H a
  intro a H
  refine s_bin H rfl rfl rfl (r_shr (by decide)) (lt_ rfl) ?_
  clear H a
  intro a H
  refine s_cv H rfl rfl (r_cvI some_88 int_5) (lt_ rfl) ?_
  clear H a
  intro a H
  refine s_move H rfl rfl (lt_ rfl) ?_
  clear H a
  intro a H
  refine s_bin H rfl rfl rfl (r_shr (by decide)) (lt_ rfl) ?_
  clear H a
  intro a H
  refine s_cv H rfl rfl (r_cvI some_88 int_5) (lt_ rfl) ?_
  clear H a
  intro a H
  replace h := h.get
  obtain ⟨b4, w5, nb6, h⟩ := h
  refine s_bslc H rfl (by rw [H.parts (vs := [(0, (.int .u8 (wr .u8 n1))), (1, (.int .u8 (wr .u8 (shrI .u32 n1 8)))), (2, (.int .u8 (wr .u8 (shrI .u32 n1 16)))), (3, (.int .u8 (wr .u8 (shrI .u32 n1 24))))]) rfl]; exact bs_28_4_iu80_iu81_iu82_iu83 w (wr .u8 n1) (wr .u8 (shrI .u32 n1 8)) (wr .u8 (shrI .u32 n1 16)) (wr .u8 (shrI .u32 n1 24))) (lt_ rfl) ?_
  rw [← nb6.at_]
  clear H a
  intro a H
  refine nb6.go ?_
  refine s_assign H rfl rfl (lt_ rfl) ?_
  clear H a
  intro a H
  refine c_nil ?_
  refine hK3 _ _ ?_
  refine c_ret ?_
  exact e_ret1 H rfl rfl h
end Go.Proofs.YtnhgnfflihoaiaaDoor
