/-
  The conditions give the machine's calls; printed by vcgen.py.
-/
import Derived.Test.YtflcdgkckfcofaaGreatDoorRecVc
namespace Go.Proofs.YtflcdgkckfcofaaGreatDoor
open Go Go.Vc
set_option maxRecDepth 100000
set_option maxHeartbeats 4000000
theorem sim_record_New (N1 K2 D3 S4 : Int) (w : World) (Q : Ending → World → Prop) (h : vc_record_New N1 K2 D3 S4 w Q) : Calls PP F_record_New #[(.agg #[(.i N1), (.i K2), (.i D3), (.i S4)])] w Q := by
 unfold vc_record_New at h
 refine enter (n := 23) Tryz.func60 rfl rfl (Nat.le_of_ble_eq_true rfl) fun a H => c_seq fun K5 hK5 => c_reg ?_
 replace h := h.get
 obtain ⟨b6, w7, n8, h⟩ := h
 refine s_box H rfl rfl (lt_ rfl) ?_
 rw [← n8.at_]
 clear H a
 intro a H
 refine n8.go ?_
 iterate 3 refine s_assign H rfl rfl (lt_ rfl) fun a H => ?_
 refine c_nil <| hK5 _ _ <| c_seq fun K9 hK9 => c_seq fun K10 hK10 => c_reg <| s_loadN (l := [(.i N1), (.i K2), (.i D3), (.i S4)]) H rfl rfl agg_28 rfl ⟨(n8.cell (i := 0) rfl), (n8.cell (i := 1) rfl), (n8.cell (i := 2) rfl), (n8.cell (i := 3) rfl), trivial⟩ (lt_ rfl) fun a H => s_call H rfl body_95 (H.args (vs := [(.agg #[(.i N1), (.i K2), (.i D3), (.i S4)])]) rfl) (lt_ rfl) h ?_ (fun c w' h H => e_panic (P := PP) (fn := Tryz.f60) H h)
 clear H h a
 rintro _ w11 a ⟨m12, rfl, h⟩ H
 refine s_assign H rfl rfl (lt_ rfl) fun a H => c_nil <| hK10 _ _ <| c_seq fun K13 hK13 => c_reg <| s_move H rfl rfl (lt_ rfl) fun a H => s_bin H rfl rfl rfl r_neq (lt_ rfl) fun a H => c_nil <| hK13 _ _ <| c_cond H rfl (fun h14 => ?_) (fun h14 => ?_)
 ·replace h := h.1 h14
  refine c_seq fun K15 hK15 => c_reg <| s_move H rfl rfl (lt_ rfl) fun a H => ?_
  iterate 3 refine s_assign H rfl rfl (lt_ rfl) fun a H => ?_
  refine c_nil <| hK15 _ _ <| c_ret ?_
  exact e_ret3 H rfl rfl rfl rfl h
 ·replace h := h.2 h14
  refine c_skip <| hK9 _ _ <| c_seq fun K16 hK16 => c_reg ?_
  obtain ⟨N17, hc18, K19, hc20, D21, hc22, S23, hc24, h⟩ := h
  refine s_loadN (l := [(.i N17), (.i K19), (.i D21), (.i S23)]) H rfl rfl agg_28 rfl ⟨hc18, hc20, hc22, hc24, trivial⟩ (lt_ rfl) fun a H => s_call H rfl body_96 (H.args (vs := [(.agg #[(.i N17), (.i K19), (.i D21), (.i S23)])]) rfl) (lt_ rfl) h ?_ (fun c w' h H => e_panic (P := PP) (fn := Tryz.f60) H h)
  clear H h a
  rintro _ w25 a ⟨h26, rfl, h⟩ H
  refine s_assign H rfl rfl (lt_ rfl) fun a H => c_nil <| hK16 _ _ <| c_seq fun K27 hK27 => c_reg <| s_move H rfl rfl (lt_ rfl) fun a H => s_move H rfl rfl (lt_ rfl) fun a H => s_blt H rfl (H.args (vs := [h26.v]) rfl) (lt_ rfl) (fun cs => b_lenS (z := h26) sl_51) fun a H => s_bin H rfl rfl rfl r_sub (lt_ rfl) fun a H => ?_
  obtain ⟨h28, h29, h30, h⟩ := h
  refine s_slice (v := (Slc.v (h26.cut 1 (Int.toNat (wr .i64 ((h26.l : Int) - 4))) (Int.toNat ((h26.l : Int)))))) H rfl rfl ⟨rfl, rfl⟩ ⟨rfl, rfl⟩ ⟨rfl, rfl⟩ (r_sliceSlc (lo := (some (.i64, wr .i64 ((h26.l : Int) - 4)))) (hi := none) slc_51 rfl rfl h28 h29 h30) (lt_ rfl) fun a H => s_call H rfl body_47 (H.args (vs := [(Slc.v (h26.cut 1 (Int.toNat (wr .i64 ((h26.l : Int) - 4))) (Int.toNat ((h26.l : Int)))))]) rfl) (lt_ rfl) h ?_ (fun c w' h H => e_panic (P := PP) (fn := Tryz.f60) H h)
  clear H h a
  rintro _ w31 a ⟨C32, rfl, h⟩ H
  refine s_build H rfl (by rw [H.parts (vs := [(0, C32.v)]) rfl]; exact bd_101_s0 w31 C32) (lt_ rfl) fun a H => ?_
  replace h := h.get
  obtain ⟨b33, w34, n35, h⟩ := h
  refine s_box H rfl rfl (lt_ rfl) ?_
  rw [← n35.at_]
  clear H a
  intro a H
  refine n35.go <| s_move H rfl rfl (lt_ rfl) fun a H => ?_
  iterate 3 refine s_assign H rfl rfl (lt_ rfl) fun a H => ?_
  refine c_nil <| hK27 _ _ <| c_ret ?_
  exact e_ret3 H rfl rfl rfl rfl h

theorem sim_disk_Disk_Read (d1 : Option Addr) (s2 : Int) (w : World) (Q : Ending → World → Prop) (h : vc_disk_Disk_Read d1 s2 w Q) : Calls PP F_disk_Disk_Read #[(.pointer d1), (.i s2)] w Q := by
 unfold vc_disk_Disk_Read at h
 refine enter (n := 29) Tryz.func61 rfl rfl (Nat.le_of_ble_eq_true rfl) fun a H => c_seq fun K3 hK3 => c_reg <| s_assign H rfl rfl (lt_ rfl) fun a H => s_assign H rfl rfl (lt_ rfl) fun a H => c_nil <| hK3 _ _ <| c_seq fun K4 hK4 => c_block <| c_seq fun K5 hK5 => c_reg <| s_move H rfl rfl (lt_ rfl) fun a H => s_bin H rfl rfl rfl (r_eqP0 ptr_33) (lt_ rfl) fun a H => s_assign H rfl rfl (lt_ rfl) fun a H => c_nil <| hK5 _ _ <| c_cond H rfl (fun h6 => ?_) (fun h6 => ?_)
 ·replace h := h.1 h6
  refine c_seq fun K7 hK7 => c_reg <| s_assign H rfl rfl (lt_ rfl) fun a H => s_assign H rfl rfl (lt_ rfl) fun a H => c_nil <| hK7 _ _ <| c_ret ?_
  exact e_ret2 H rfl rfl rfl h
 ·replace h := h.2 h6
  refine c_seq fun K8 hK8 => c_reg <| s_move H rfl rfl (lt_ rfl) fun a H => ?_
  obtain ⟨a9, h30, h⟩ := h
  revert H
  subst h30
  intro H
  refine s_nil H rfl rfl (lt_ rfl) fun a H => s_fld H rfl rfl fld_81_5 (lt_ rfl) fun a H => ?_
  obtain ⟨l10, hc11, h⟩ := h
  refine s_load (v := (.bool l10)) H rfl rfl one_4 hc11 (lt_ rfl) fun a H => s_assign H rfl rfl (lt_ rfl) fun a H => c_nil <| hK8 _ _ <| c_cond H rfl (fun h12 => ?_) (fun h12 => ?_)
  ·replace h := h.1 h12
   refine c_seq fun K13 hK13 => c_reg <| s_assign H rfl rfl (lt_ rfl) fun a H => s_assign H rfl rfl (lt_ rfl) fun a H => c_nil <| hK13 _ _ <| c_ret ?_
   exact e_ret2 H rfl rfl rfl h
  ·replace h := h.2 h12
   refine c_seq fun K14 hK14 => c_reg <| s_move H rfl rfl (lt_ rfl) fun a H => s_bin H rfl rfl rfl r_neq (lt_ rfl) fun a H => s_move H rfl rfl (lt_ rfl) fun a H => g_join (n := 29) [(20, (.bool ((decide (s2 ≠ 0)) && (decide (s2 ≠ 1))))), (0, (.pointer (some a9))), (1, (.i s2))] (.succ (.succ (.succ (.zero _)))) ?_ ?_
   ·intro h16
    try clear h
    rcases Bool.eq_false_or_eq_true (decide (s2 ≠ 0)) with h15 | h15
    ·replace H := H.ch (t := 17) (b := true) rfl h15
     refine s_move H (wantG H rfl rfl) rfl (lt_ rfl) fun a H => s_bin H (wantG H rfl rfl) rfl rfl r_neq (lt_ rfl) fun a H => s_pickT H rfl rfl rfl (lt_ rfl) fun a H => ?_
     exact h16 _ (H.weaken ⟨by rw [h15]; rfl, rfl, rfl, trivial⟩)
    ·replace H := H.ch (t := 17) (b := false) rfl h15
     refine s_skip H (wantN H rfl rfl rfl) rfl (lt_ rfl) fun a H => s_skip H (wantN H rfl rfl rfl) rfl (lt_ rfl) fun a H => s_pickF H rfl rfl rfl (lt_ rfl) fun a H => ?_
     exact h16 _ (H.weaken ⟨by rw [h15]; rfl, rfl, rfl, trivial⟩)
   ·clear H a
    intro a H
    refine s_assign H rfl rfl (lt_ rfl) fun a H => c_nil <| hK14 _ _ <| c_cond H rfl (fun h17 => ?_) (fun h17 => ?_)
    ·replace h := h.1 h17
     refine c_seq fun K18 hK18 => c_reg <| s_assign H rfl rfl (lt_ rfl) fun a H => s_assign H rfl rfl (lt_ rfl) fun a H => c_nil <| hK18 _ _ <| c_ret ?_
     exact e_ret2 H rfl rfl rfl h
    ·replace h := h.2 h17
     refine c_skip <| hK4 _ _ <| c_seq fun K19 hK19 => c_reg <| s_move H rfl rfl (lt_ rfl) fun a H => s_move H rfl rfl (lt_ rfl) fun a H => s_nil H rfl rfl (lt_ rfl) fun a H => s_fld H rfl rfl fld_81_0 (lt_ rfl) fun a H => ?_
     obtain ⟨h20, h21, h⟩ := h
     refine s_idxA H rfl rfl rfl arr_79 h20 h21 (lt_ rfl) fun a H => s_fld H rfl rfl fld_78_1 (lt_ rfl) fun a H => ?_
     obtain ⟨l22, hc23, h⟩ := h
     refine s_load (v := l22.v) H rfl rfl one_51 hc23 (lt_ rfl) fun a H => s_call H rfl body_47 (H.args (vs := [l22.v]) rfl) (lt_ rfl) h ?_ (fun c w' h H => e_panic (P := PP) (fn := Tryz.f61) H h)
     clear H h a
     rintro _ w24 a ⟨C25, rfl, h⟩ H
     refine s_assign H rfl rfl (lt_ rfl) fun a H => s_assign H rfl rfl (lt_ rfl) fun a H => c_nil <| hK19 _ _ <| c_ret ?_
     exact e_ret2 H rfl rfl rfl h
end Go.Proofs.YtflcdgkckfcofaaGreatDoor
