/-
  The conditions give the machine's calls; printed by vcgen.py.
-/
import Derived.Test.YtflcdgkckfcofaaGreatDoorRecVc
namespace Go.Proofs.YtflcdgkckfcofaaGreatDoor
open Go Go.Vc
set_option maxRecDepth 100000
set_option maxHeartbeats 4000000
theorem sim_quorum_Check (N1 K2 D3 : Int) (w : World) (Q : Ending → World → Prop) (h : vc_quorum_Check N1 K2 D3 w Q) : Calls PP F_quorum_Check #[(.agg #[(.i N1), (.i K2), (.i D3)])] w Q := by
 unfold vc_quorum_Check at h
 refine enter (n := 28) Tryz.func135 rfl rfl (Nat.le_of_ble_eq_true rfl) fun a H => c_seq fun K4 hK4 => c_reg ?_
 replace h := h.get
 obtain ⟨b5, w6, n7, h⟩ := h
 refine s_box H rfl rfl (lt_ rfl) ?_
 rw [← n7.at_]
 clear H a
 intro a H
 refine n7.go <| s_assign H rfl rfl (lt_ rfl) fun a H => c_nil <| hK4 _ _ <| c_seq fun K8 hK8 => c_seq fun K9 hK9 => c_reg <| s_fld H rfl rfl fld_26_1 (lt_ rfl) fun a H => s_load (v := (.i K2)) H rfl rfl one_3 (n7.cell (i := 1) rfl) (lt_ rfl) fun a H => s_bin H rfl rfl rfl r_lss (lt_ rfl) fun a H => s_move H rfl rfl (lt_ rfl) fun a H => ?_
 refine g_join (n := 28) [(12, (.bool ((decide (K2 < 1)) || (decide (N1 < K2))))), (1, (.pointer (some (blk b5))))] (.succ (.succ (.succ (.succ (.succ (.succ (.zero _))))))) ?_ ?_
 ·intro h11
  try clear h
  rcases Bool.eq_false_or_eq_true (decide (K2 < 1)) with h10 | h10
  ·replace H := H.ch (t := 6) (b := true) rfl h10
   iterate 5 refine s_skip H (wantN H rfl rfl rfl) rfl (lt_ rfl) fun a H => ?_
   refine s_pickT H rfl rfl rfl (lt_ rfl) fun a H => ?_
   exact h11 _ (H.weaken ⟨by rw [h10]; rfl, rfl, trivial⟩)
  ·replace H := H.ch (t := 6) (b := false) rfl h10
   refine s_fld H (wantG H rfl rfl) rfl fld_26_1 (lt_ rfl) fun a H => s_load (v := (.i K2)) H (wantG H rfl rfl) rfl one_3 (n7.cell (i := 1) rfl) (lt_ rfl) fun a H => s_fld H (wantG H rfl rfl) rfl fld_26_0 (lt_ rfl) fun a H => s_load (v := (.i N1)) H (wantG H rfl rfl) rfl one_3 (n7.cell (i := 0) rfl) (lt_ rfl) fun a H => s_bin H (wantG H rfl rfl) rfl rfl r_gtr (lt_ rfl) fun a H => s_pickF H rfl rfl rfl (lt_ rfl) fun a H => ?_
   exact h11 _ (H.weaken ⟨by rw [h10]; rfl, rfl, trivial⟩)
 ·clear H a
  intro a H
  refine s_move H rfl rfl (lt_ rfl) fun a H => g_join (n := 28) [(17, (.bool (((decide (K2 < 1)) || (decide (N1 < K2))) || (decide (255 < N1))))), (1, (.pointer (some (blk b5))))] (.succ (.succ (.succ (.succ (.zero _))))) ?_ ?_
  ·intro h13
   try clear h
   rcases Bool.eq_false_or_eq_true ((decide (K2 < 1)) || (decide (N1 < K2))) with h12 | h12
   ·replace H := H.ch (t := 13) (b := true) rfl h12
    iterate 3 refine s_skip H (wantN H rfl rfl rfl) rfl (lt_ rfl) fun a H => ?_
    refine s_pickT H rfl rfl rfl (lt_ rfl) fun a H => ?_
    exact h13 _ (H.weaken ⟨by rw [h12]; rfl, rfl, trivial⟩)
   ·replace H := H.ch (t := 13) (b := false) rfl h12
    refine s_fld H (wantG H rfl rfl) rfl fld_26_0 (lt_ rfl) fun a H => s_load (v := (.i N1)) H (wantG H rfl rfl) rfl one_3 (n7.cell (i := 0) rfl) (lt_ rfl) fun a H => s_bin H (wantG H rfl rfl) rfl rfl r_gtr (lt_ rfl) fun a H => s_pickF H rfl rfl rfl (lt_ rfl) fun a H => ?_
    exact h13 _ (H.weaken ⟨by rw [h12]; rfl, rfl, trivial⟩)
  ·clear H a
   intro a H
   refine s_move H rfl rfl (lt_ rfl) fun a H => g_join (n := 28) [(22, (.bool ((((decide (K2 < 1)) || (decide (N1 < K2))) || (decide (255 < N1))) || (decide (D3 < 0))))), (1, (.pointer (some (blk b5))))] (.succ (.succ (.succ (.succ (.zero _))))) ?_ ?_
   ·intro h15
    try clear h
    rcases Bool.eq_false_or_eq_true (((decide (K2 < 1)) || (decide (N1 < K2))) || (decide (255 < N1))) with h14 | h14
    ·replace H := H.ch (t := 18) (b := true) rfl h14
     iterate 3 refine s_skip H (wantN H rfl rfl rfl) rfl (lt_ rfl) fun a H => ?_
     refine s_pickT H rfl rfl rfl (lt_ rfl) fun a H => ?_
     exact h15 _ (H.weaken ⟨by rw [h14]; rfl, rfl, trivial⟩)
    ·replace H := H.ch (t := 18) (b := false) rfl h14
     refine s_fld H (wantG H rfl rfl) rfl fld_26_2 (lt_ rfl) fun a H => s_load (v := (.i D3)) H (wantG H rfl rfl) rfl one_3 (n7.cell (i := 2) rfl) (lt_ rfl) fun a H => s_bin H (wantG H rfl rfl) rfl rfl r_lss (lt_ rfl) fun a H => s_pickF H rfl rfl rfl (lt_ rfl) fun a H => ?_
     exact h15 _ (H.weaken ⟨by rw [h14]; rfl, rfl, trivial⟩)
   ·clear H a
    intro a H
    refine s_move H rfl rfl (lt_ rfl) fun a H => g_join (n := 28) [(27, (.bool (((((decide (K2 < 1)) || (decide (N1 < K2))) || (decide (255 < N1))) || (decide (D3 < 0))) || (decide (4611686018427387903 < D3)))))] (.succ (.succ (.succ (.succ (.zero _))))) ?_ ?_
    ·intro h17
     try clear h
     rcases Bool.eq_false_or_eq_true ((((decide (K2 < 1)) || (decide (N1 < K2))) || (decide (255 < N1))) || (decide (D3 < 0))) with h16 | h16
     ·replace H := H.ch (t := 23) (b := true) rfl h16
      iterate 3 refine s_skip H (wantN H rfl rfl rfl) rfl (lt_ rfl) fun a H => ?_
      refine s_pickT H rfl rfl rfl (lt_ rfl) fun a H => ?_
      exact h17 _ (H.weaken ⟨by rw [h16]; rfl, trivial⟩)
     ·replace H := H.ch (t := 23) (b := false) rfl h16
      refine s_fld H (wantG H rfl rfl) rfl fld_26_2 (lt_ rfl) fun a H => s_load (v := (.i D3)) H (wantG H rfl rfl) rfl one_3 (n7.cell (i := 2) rfl) (lt_ rfl) fun a H => s_bin H (wantG H rfl rfl) rfl rfl r_gtr (lt_ rfl) fun a H => s_pickF H rfl rfl rfl (lt_ rfl) fun a H => ?_
      exact h17 _ (H.weaken ⟨by rw [h16]; rfl, trivial⟩)
    ·clear H a
     intro a H
     refine c_nil <| hK9 _ _ <| c_cond H rfl (fun h18 => ?_) (fun h18 => ?_)
     ·replace h := h.1 h18
      refine c_seq fun K19 hK19 => c_reg <| s_assign H rfl rfl (lt_ rfl) fun a H => c_nil <| hK19 _ _ <| c_ret ?_
      exact e_ret1 H rfl rfl h
     ·replace h := h.2 h18
      refine c_skip <| hK8 _ _ <| c_seq fun K20 hK20 => c_reg <| s_assign H rfl rfl (lt_ rfl) fun a H => c_nil <| hK20 _ _ <| c_ret ?_
      exact e_ret1 H rfl rfl h

theorem sim_pack_NewReader (d1 : Slc) (w : World) (Q : Ending → World → Prop) (h : vc_pack_NewReader d1 w Q) : Calls PP F_pack_NewReader #[d1.v] w Q := by
 unfold vc_pack_NewReader at h
 refine enter (n := 7) Tryz.func137 rfl rfl (Nat.le_of_ble_eq_true rfl) fun a H => c_seq fun K2 hK2 => c_reg <| s_assign H rfl rfl (lt_ rfl) fun a H => c_nil <| hK2 _ _ <| c_seq fun K3 hK3 => c_reg <| s_move H rfl rfl (lt_ rfl) fun a H => s_call H rfl body_47 (H.args (vs := [d1.v]) rfl) (lt_ rfl) h ?_ (fun c w' h H => e_panic (P := PP) (fn := Tryz.f137) H h)
 clear H h a
 rintro _ w4 a ⟨C5, rfl, h⟩ H
 refine s_build H rfl (by rw [H.parts (vs := [(1, C5.v)]) rfl]; exact bd_233_s1 w4 C5) (lt_ rfl) fun a H => ?_
 replace h := h.get
 obtain ⟨b6, w7, n8, h⟩ := h
 refine s_box H rfl rfl (lt_ rfl) ?_
 rw [← n8.at_]
 clear H a
 intro a H
 refine n8.go <| s_assign H rfl rfl (lt_ rfl) fun a H => c_nil <| hK3 _ _ <| c_ret ?_
 exact e_ret1 H rfl rfl h

theorem sim_pack_Reader_Byte (r1 : Option Addr) (w : World) (Q : Ending → World → Prop) (h : vc_pack_Reader_Byte r1 w Q) : Calls PP F_pack_Reader_Byte #[(.pointer r1)] w Q := by
 unfold vc_pack_Reader_Byte at h
 refine enter (n := 37) Tryz.func138 rfl rfl (Nat.le_of_ble_eq_true rfl) fun a H => c_seq fun K2 hK2 => c_reg <| s_assign H rfl rfl (lt_ rfl) fun a H => c_nil <| hK2 _ _ <| c_seq fun K3 hK3 => c_seq fun K4 hK4 => c_reg <| s_move H rfl rfl (lt_ rfl) fun a H => s_call H rfl body_167 (H.args (vs := [(.pointer r1)]) rfl) (lt_ rfl) h ?_ (fun c w' h H => e_panic (P := PP) (fn := Tryz.f138) H h)
 clear H h a
 rintro _ w5 a ⟨s6, rfl, h⟩ H
 refine c_nil <| hK4 _ _ <| c_cond H rfl (fun h7 => ?_) (fun h7 => ?_)
 ·replace h := h.1 h7
  refine c_seq fun K8 hK8 => c_reg <| s_assign H rfl rfl (lt_ rfl) fun a H => c_nil <| hK8 _ _ <| c_ret ?_
  exact e_ret1 H rfl rfl h
 ·replace h := h.2 h7
  refine c_skip <| hK3 _ _ <| c_seq fun K9 hK9 => c_seq fun K10 hK10 => c_regD mixed (by kernel_rfl) <| z_move H rfl rfl (lt_ rfl) fun a H => ?_
  obtain ⟨a12, h43, h⟩ := h
  revert H
  subst h43
  intro H
  refine z_nil H rfl rfl (lt_ rfl) fun a H => z_fld H rfl rfl fld_233_2 (lt_ rfl) fun a H => ?_
  obtain ⟨l13, hc14, h⟩ := h
  refine z_load (v := (.i l13)) H rfl rfl one_3 hc14 (lt_ rfl) fun a H => z_move H rfl rfl (lt_ rfl) fun a H => z_nil H rfl rfl (lt_ rfl) fun a H => z_fld H rfl rfl fld_233_1 (lt_ rfl) fun a H => ?_
  obtain ⟨l15, hc16, h⟩ := h
  refine z_load (v := l15.v) H rfl rfl one_51 hc16 (lt_ rfl) fun a H => z_blt H rfl (H.args (vs := [l15.v]) rfl) (lt_ rfl) (fun cs w => b_lenS (z := l15) sl_51) fun a H => z_bin H rfl rfl rfl r_geq (lt_ rfl) fun a H => wpQuiet_nil ?_
  rintro _ ⟨k11, rfl⟩
  replace h := h k11
  refine hK10 _ _ <| c_cond H rfl (fun h17 => ?_) (fun h17 => ?_)
  ·replace h := h.1 h17
   refine c_seq fun K18 hK18 => c_reg <| s_move H rfl rfl (lt_ rfl) fun a H => s_nil H rfl rfl (lt_ rfl) fun a H => s_fld H rfl rfl fld_233_0 (lt_ rfl) fun a H => s_call H rfl body_150 (H.args (vs := [(.pointer (some (a12.add 0))), (.i 30)]) rfl) (lt_ rfl) h ?_ (fun c w' h H => e_panic (P := PP) (fn := Tryz.f138) H h)
   clear H h a
   rintro _ w19 a ⟨rfl, h⟩ H
   refine c_nil <| hK18 _ _ <| c_seq fun K20 hK20 => c_reg <| s_assign H rfl rfl (lt_ rfl) fun a H => c_nil <| hK20 _ _ <| c_ret ?_
   exact e_ret1 H rfl rfl h
  ·replace h := h.2 h17
   refine c_skip <| hK9 _ _ <| c_seq fun K25 hK25 => c_reg <| s_move H rfl rfl (lt_ rfl) fun a H => s_nil H rfl rfl (lt_ rfl) fun a H => s_fld H rfl rfl fld_233_2 (lt_ rfl) fun a H => ?_
   obtain ⟨l26, hc27, h⟩ := h
   refine s_load (v := (.i l26)) H rfl rfl one_3 hc27 (lt_ rfl) fun a H => s_bin H rfl rfl rfl r_add (lt_ rfl) fun a H => s_nil H rfl rfl (lt_ rfl) fun a H => s_fld H rfl rfl fld_233_2 (lt_ rfl) fun a H => ?_
   obtain ⟨h29, h30, h⟩ := h
   refine s_sto (p := a12.add 2) (v := (.i (wr .i64 (l26 + 1)))) H rfl rfl rfl rfl one_3 rfl h29 h30 ?_
   clear H
   intro H
   generalize hww28 : World.setCell (w5.drewN k11) (a12.add 2) (.i (wr .i64 (l26 + 1))) = w28 at h ⊢
   have w28S : SetAt (w5.drewN k11) (a12.add 2) (.i (wr .i64 (l26 + 1))) w28 := ⟨hww28.symm⟩
   clear hww28 h29 h30
   refine c_nil <| hK25 _ _ <| c_seq fun K31 hK31 => c_regD mixed (by kernel_rfl) <| z_move H rfl rfl (lt_ rfl) fun a H => z_nil H rfl rfl (lt_ rfl) fun a H => z_fld H rfl rfl fld_233_1 (lt_ rfl) fun a H => ?_
   obtain ⟨l33, hc34, h⟩ := h
   refine z_load (v := l33.v) H rfl rfl one_51 hc34 (lt_ rfl) fun a H => z_move H rfl rfl (lt_ rfl) fun a H => z_nil H rfl rfl (lt_ rfl) fun a H => z_fld H rfl rfl fld_233_2 (lt_ rfl) fun a H => ?_
   obtain ⟨l35, hc36, h⟩ := h
   refine z_load (v := (.i l35)) H rfl rfl one_3 hc36 (lt_ rfl) fun a H => z_bin H rfl rfl rfl r_sub (lt_ rfl) fun a H => ?_
   obtain ⟨a37, h38, h39, h40, h⟩ := h
   refine z_idxS (s := l33) H rfl rfl rfl slc_51 h38 h39 h40 (lt_ rfl) fun a H => ?_
   obtain ⟨l41, hc42, h⟩ := h
   refine z_load (v := (.int .u8 l41)) H rfl rfl one_5 hc42 (lt_ rfl) fun a H => z_assign H rfl rfl (lt_ rfl) fun a H => wpQuiet_nil ?_
   rintro _ ⟨k32, rfl⟩
   replace h := h k32
   refine hK31 _ _ <| c_ret ?_
   exact e_ret1 H rfl rfl h

theorem sim_pack_Reader_Uint (r1 : Option Addr) (m2 : Int) (w : World) (Q : Ending → World → Prop) (h : vc_pack_Reader_Uint r1 m2 w Q) : Calls PP F_pack_Reader_Uint #[(.pointer r1), (.i m2)] w Q := by
 unfold vc_pack_Reader_Uint at h
 refine enter (n := 31) Tryz.func139 rfl rfl (Nat.le_of_ble_eq_true rfl) fun a H => c_seq fun K3 hK3 => c_reg <| s_assign H rfl rfl (lt_ rfl) fun a H => c_nil <| hK3 _ _ <| c_seq fun K4 hK4 => c_seq fun K5 hK5 => c_reg <| s_move H rfl rfl (lt_ rfl) fun a H => s_call H rfl body_167 (H.args (vs := [(.pointer r1)]) rfl) (lt_ rfl) h ?_ (fun c w' h H => e_panic (P := PP) (fn := Tryz.f139) H h)
 clear H h a
 rintro _ w6 a ⟨s7, rfl, h⟩ H
 refine c_nil <| hK5 _ _ <| c_cond H rfl (fun h8 => ?_) (fun h8 => ?_)
 ·replace h := h.1 h8
  refine c_seq fun K9 hK9 => c_reg <| s_assign H rfl rfl (lt_ rfl) fun a H => c_nil <| hK9 _ _ <| c_ret ?_
  exact e_ret1 H rfl rfl h
 ·replace h := h.2 h8
  refine c_skip <| hK4 _ _ <| c_seq fun K10 hK10 => c_reg <| s_move H rfl rfl (lt_ rfl) fun a H => s_move H rfl rfl (lt_ rfl) fun a H => s_call H rfl body_168 (H.args (vs := [(.pointer r1), (.i m2)]) rfl) (lt_ rfl) h ?_ (fun c w' h H => e_panic (P := PP) (fn := Tryz.f139) H h)
  clear H h a
  rintro _ w11 a ⟨n12, n13, n14, rfl, h⟩ H
  refine s_move H rfl rfl (lt_ rfl) fun a H => ?_
  iterate 3 refine s_ext H rfl rfl rfl (lt_ rfl) fun a H => ?_
  iterate 3 refine s_assign H rfl rfl (lt_ rfl) fun a H => ?_
  refine c_nil <| hK10 _ _ <| c_seq fun K15 hK15 => c_reg <| s_move H rfl rfl (lt_ rfl) fun a H => ?_
  obtain ⟨a16, h29, h⟩ := h
  revert H
  subst h29
  intro H
  refine s_nil H rfl rfl (lt_ rfl) fun a H => s_fld H rfl rfl fld_233_0 (lt_ rfl) fun a H => s_move H rfl rfl (lt_ rfl) fun a H => s_call H rfl body_150 (H.args (vs := [(.pointer (some (a16.add 0))), (.i n14)]) rfl) (lt_ rfl) h ?_ (fun c w' h H => e_panic (P := PP) (fn := Tryz.f139) H h)
  clear H h a
  rintro _ w17 a ⟨rfl, h⟩ H
  refine c_nil <| hK15 _ _ <| c_seq fun K18 hK18 => c_reg <| s_move H rfl rfl (lt_ rfl) fun a H => s_nil H rfl rfl (lt_ rfl) fun a H => s_fld H rfl rfl fld_233_2 (lt_ rfl) fun a H => ?_
  obtain ⟨l19, hc20, h⟩ := h
  refine s_load (v := (.i l19)) H rfl rfl one_3 hc20 (lt_ rfl) fun a H => s_move H rfl rfl (lt_ rfl) fun a H => s_bin H rfl rfl rfl r_add (lt_ rfl) fun a H => s_nil H rfl rfl (lt_ rfl) fun a H => s_fld H rfl rfl fld_233_2 (lt_ rfl) fun a H => ?_
  obtain ⟨h22, h23, h⟩ := h
  refine s_sto (p := a16.add 2) (v := (.i (wr .i64 (l19 + n13)))) H rfl rfl rfl rfl one_3 rfl h22 h23 ?_
  clear H
  intro H
  generalize hww21 : World.setCell w17 (a16.add 2) (.i (wr .i64 (l19 + n13))) = w21 at h ⊢
  have w21S : SetAt w17 (a16.add 2) (.i (wr .i64 (l19 + n13))) w21 := ⟨hww21.symm⟩
  clear hww21 h22 h23
  refine c_nil <| hK18 _ _ <| c_seq fun K24 hK24 => c_reg <| s_move H rfl rfl (lt_ rfl) fun a H => s_assign H rfl rfl (lt_ rfl) fun a H => c_nil <| hK24 _ _ <| c_ret ?_
  exact e_ret1 H rfl rfl h

theorem sim_record_must (o1 : Bool) (r2 : Int) (w : World) (Q : Ending → World → Prop) (h : vc_record_must o1 r2 w Q) : Calls PP F_record_must #[(.bool o1), (.i r2)] w Q := by
 unfold vc_record_must at h
 refine enter (n := 8) Tryz.func140 rfl rfl (Nat.le_of_ble_eq_true rfl) fun a H => c_seq fun K3 hK3 => c_reg <| s_move H rfl rfl (lt_ rfl) fun a H => s_un H rfl rfl r_not (lt_ rfl) fun a H => c_nil <| hK3 _ _ <| c_cond H rfl (fun h4 => ?_) (fun h4 => ?_)
 ·replace h := h.1 h4
  refine c_reg <| s_move H rfl rfl (lt_ rfl) fun a H => s_iface H rfl rfl ni_40 (lt_ rfl) fun a H => ?_
  exact s_panic H rfl rfl (fun H => e_panic (P := PP) (fn := Tryz.f140) H h)
 ·replace h := h.2 h4
  refine c_skip ?_
  exact e_ret0 H rfl h

theorem sim_pack_Reader_Err (r1 : Option Addr) (w : World) (Q : Ending → World → Prop) (h : vc_pack_Reader_Err r1 w Q) : Calls PP F_pack_Reader_Err #[(.pointer r1)] w Q := by
 unfold vc_pack_Reader_Err at h
 refine enter (n := 9) Tryz.func141 rfl rfl (Nat.le_of_ble_eq_true rfl) fun a H => c_seq fun K2 hK2 => c_reg <| s_assign H rfl rfl (lt_ rfl) fun a H => c_nil <| hK2 _ _ <| c_seq fun K3 hK3 => c_seq fun K4 hK4 => c_reg <| s_move H rfl rfl (lt_ rfl) fun a H => s_bin H rfl rfl rfl (r_eqP0 ptr_201) (lt_ rfl) fun a H => c_nil <| hK4 _ _ <| c_cond H rfl (fun h5 => ?_) (fun h5 => ?_)
 ·replace h := h.1 h5
  refine c_seq fun K6 hK6 => c_reg <| s_assign H rfl rfl (lt_ rfl) fun a H => c_nil <| hK6 _ _ <| c_ret ?_
  exact e_ret1 H rfl rfl h
 ·replace h := h.2 h5
  refine c_skip <| hK3 _ _ <| c_seq fun K7 hK7 => c_reg <| s_move H rfl rfl (lt_ rfl) fun a H => ?_
  obtain ⟨a8, h15, h⟩ := h
  revert H
  subst h15
  intro H
  refine s_nil H rfl rfl (lt_ rfl) fun a H => s_fld H rfl rfl fld_233_0 (lt_ rfl) fun a H => s_call H rfl body_169 (H.args (vs := [(.pointer (some (a8.add 0)))]) rfl) (lt_ rfl) h ?_ (fun c w' h H => e_panic (P := PP) (fn := Tryz.f141) H h)
  clear H h a
  rintro _ w9 a ⟨E10, rfl, h⟩ H
  refine s_assign H rfl rfl (lt_ rfl) fun a H => c_nil <| hK7 _ _ <| c_ret ?_
  exact e_ret1 H rfl rfl h

theorem sim_slices_Equal (s1 s2 : Slc) (w : World) (Q : Ending → World → Prop) (h : vc_slices_Equal s1 s2 w Q) : Calls PP F_slices_Equal #[s1.v, s2.v] w Q := by
 unfold vc_slices_Equal at h
 refine enter (n := 26) Tryz.func142 rfl rfl (Nat.le_of_ble_eq_true rfl) fun a H => c_seq fun K3 hK3 => c_reg <| s_assign H rfl rfl (lt_ rfl) fun a H => c_nil <| hK3 _ _ <| c_seq fun K4 hK4 => c_seq fun K5 hK5 => c_reg <| s_move H rfl rfl (lt_ rfl) fun a H => s_blt H rfl (H.args (vs := [s1.v]) rfl) (lt_ rfl) (fun cs => b_lenS (z := s1) sl_51) fun a H => s_move H rfl rfl (lt_ rfl) fun a H => ?_
 refine s_blt H rfl (H.args (vs := [s2.v]) rfl) (lt_ rfl) (fun cs => b_lenS (z := s2) sl_51) fun a H => s_bin H rfl rfl rfl r_neq (lt_ rfl) fun a H => c_nil <| hK5 _ _ <| c_cond H rfl (fun h6 => ?_) (fun h6 => ?_)
 ·replace h := h.1 h6
  refine c_seq fun K7 hK7 => c_reg <| s_assign H rfl rfl (lt_ rfl) fun a H => c_nil <| hK7 _ _ <| c_ret ?_
  exact e_ret1 H rfl rfl h
 ·replace h := h.2 h6
  refine c_skip <| hK4 _ _ <| c_seq fun K8 hK8 => c_seq fun K9 hK9 => c_reg <| s_move H rfl rfl (lt_ rfl) fun a H => s_blt H rfl (H.args (vs := [s1.v]) rfl) (lt_ rfl) (fun cs => b_lenS (z := s1) sl_51) fun a H => s_move H rfl rfl (lt_ rfl) fun a H => c_nil <| hK9 _ _ <| c_block ?_
  obtain ⟨I12, m13, h36, h37⟩ := h
  refine c_loop (σ := Int) (fun z w => I12 z w) (fun z w => m13 z w) (fun z => [(0, s1.v), (1, s2.v), (12, (.i (s1.l : Int))), (13, (.i z))]) 0 h36 (H.weaken ⟨rfl, rfl, rfl, rfl, trivial⟩) ?_
  clear H h36
  rintro s10 a w11 h H
  replace h := h37 s10 w11 h
  clear h37
  replace H : Has 26 [] a [(0, s1.v), (1, s2.v), (12, (.i (s1.l : Int))), (13, (.i s10))] := H
  refine c_seq fun K14 hK14 => c_reg <| s_bin H rfl rfl rfl r_lss (lt_ rfl) fun a H => c_nil <| hK14 _ _ <| c_seq fun K15 hK15 => c_cond H rfl (fun h16 => ?_) (fun h16 => ?_)
  ·replace h := h.1 h16
   refine c_skip <| hK15 _ _ <| c_seq fun K17 hK17 => c_block <| c_seq fun K18 hK18 => c_reg <| s_move H rfl rfl (lt_ rfl) fun a H => s_assign H rfl rfl (lt_ rfl) fun a H => c_nil <| hK18 _ _ <| c_seq fun K19 hK19 => c_regD mixed (by kernel_rfl) <| z_move H rfl rfl (lt_ rfl) fun a H => z_move H rfl rfl (lt_ rfl) fun a H => ?_
   obtain ⟨a21, h22, h23, h24, h⟩ := h
   refine z_idxS (s := s1) H rfl rfl rfl slc_51 h22 h23 h24 (lt_ rfl) fun a H => ?_
   obtain ⟨l25, hc26, h⟩ := h
   refine z_load (v := (.int .u8 l25)) H rfl rfl one_5 hc26 (lt_ rfl) fun a H => z_move H rfl rfl (lt_ rfl) fun a H => z_move H rfl rfl (lt_ rfl) fun a H => ?_
   obtain ⟨a27, h28, h29, h30, h⟩ := h
   refine z_idxS (s := s2) H rfl rfl rfl slc_51 h28 h29 h30 (lt_ rfl) fun a H => ?_
   obtain ⟨l31, hc32, h⟩ := h
   refine z_load (v := (.int .u8 l31)) H rfl rfl one_5 hc32 (lt_ rfl) fun a H => z_bin H rfl rfl rfl r_neq (lt_ rfl) fun a H => wpQuiet_nil ?_
   rintro _ ⟨k20, rfl⟩
   replace h := h k20
   refine hK19 _ _ <| c_cond H rfl (fun h33 => ?_) (fun h33 => ?_)
   ·replace h := h.1 h33
    refine c_seq fun K34 hK34 => c_reg <| s_assign H rfl rfl (lt_ rfl) fun a H => c_nil <| hK34 _ _ <| c_ret ?_
    exact e_ret1 H rfl rfl h
   ·replace h := h.2 h33
    refine c_skip <| hK17 _ _ <| c_reg <| s_bin H rfl rfl rfl r_add (lt_ rfl) fun a H => s_move H rfl rfl (lt_ rfl) fun a H => c_nil <| Exists.intro (wr .i64 (s10 + 1)) ⟨h.1, h.2, H.weaken ⟨rfl, rfl, rfl, rfl, trivial⟩⟩
  ·replace h := h.2 h16
   refine c_exit ?_
   first | (simp only [Exit.then, Exit.inBlock, ↓reduceIte]; fail_if_success simp only [Nat.reduceEqDiff]) | simp only [Exit.then, Exit.inBlock, ↓reduceIte, Nat.reduceEqDiff]
   refine hK8 _ _ <| c_seq fun K35 hK35 => c_reg <| s_assign H rfl rfl (lt_ rfl) fun a H => c_nil <| hK35 _ _ <| c_ret ?_
   exact e_ret1 H rfl rfl h

theorem sim_pack_Reader_At (r1 : Option Addr) (w : World) (Q : Ending → World → Prop) (h : vc_pack_Reader_At r1 w Q) : Calls PP F_pack_Reader_At #[(.pointer r1)] w Q := by
 unfold vc_pack_Reader_At at h
 refine enter (n := 9) Tryz.func143 rfl rfl (Nat.le_of_ble_eq_true rfl) fun a H => c_seq fun K2 hK2 => c_reg <| s_assign H rfl rfl (lt_ rfl) fun a H => c_nil <| hK2 _ _ <| c_seq fun K3 hK3 => c_seq fun K4 hK4 => c_reg <| s_move H rfl rfl (lt_ rfl) fun a H => s_bin H rfl rfl rfl (r_eqP0 ptr_201) (lt_ rfl) fun a H => c_nil <| hK4 _ _ <| c_cond H rfl (fun h5 => ?_) (fun h5 => ?_)
 ·replace h := h.1 h5
  refine c_seq fun K6 hK6 => c_reg <| s_assign H rfl rfl (lt_ rfl) fun a H => c_nil <| hK6 _ _ <| c_ret ?_
  exact e_ret1 H rfl rfl h
 ·replace h := h.2 h5
  refine c_skip <| hK3 _ _ <| c_seq fun K7 hK7 => c_reg <| s_move H rfl rfl (lt_ rfl) fun a H => ?_
  obtain ⟨a8, h11, h⟩ := h
  revert H
  subst h11
  intro H
  refine s_nil H rfl rfl (lt_ rfl) fun a H => s_fld H rfl rfl fld_233_2 (lt_ rfl) fun a H => ?_
  obtain ⟨l9, hc10, h⟩ := h
  refine s_load (v := (.i l9)) H rfl rfl one_3 hc10 (lt_ rfl) fun a H => s_assign H rfl rfl (lt_ rfl) fun a H => c_nil <| hK7 _ _ <| c_ret ?_
  exact e_ret1 H rfl rfl h

theorem sim_record_readBody (b1 : Slc) (w : World) (Q : Ending → World → Prop) (h : vc_record_readBody b1 w Q) : Calls PP F_record_readBody #[b1.v] w Q := by
 unfold vc_record_readBody at h
 refine enter (n := 58) Tryz.func144 rfl rfl (Nat.le_of_ble_eq_true rfl) fun a H => c_seq fun K2 hK2 => c_reg ?_
 replace h := h.get
 obtain ⟨b3, w4, n5, h⟩ := h
 refine s_alloc H rfl zero_92 (lt_ rfl) ?_
 rw [← n5.at_]
 clear H a
 intro a H
 refine n5.go <| c_nil <| hK2 _ _ <| c_seq fun K6 hK6 => c_reg <| s_move H rfl rfl (lt_ rfl) fun a H => s_call H rfl body_137 (H.args (vs := [b1.v]) rfl) (lt_ rfl) h ?_ (fun c w' h H => e_panic (P := PP) (fn := Tryz.f144) H h)
 clear H h a
 rintro _ w7 a ⟨N8, rfl, h⟩ H
 refine s_assign H rfl rfl (lt_ rfl) fun a H => c_nil <| hK6 _ _ <| c_seq fun K9 hK9 => c_reg <| s_move H rfl rfl (lt_ rfl) fun a H => s_call H rfl body_138 (H.args (vs := [(.pointer N8)]) rfl) (lt_ rfl) h ?_ (fun c w' h H => e_panic (P := PP) (fn := Tryz.f144) H h)
 clear H h a
 rintro _ w10 a ⟨B11, rfl, h⟩ H
 refine s_cv H rfl rfl (r_cvI some_5 int_3) (lt_ rfl) fun a H => s_move H rfl rfl (lt_ rfl) fun a H => s_call H rfl body_170 (H.args (vs := [(.pointer N8), (.i 64)]) rfl) (lt_ rfl) h ?_ (fun c w' h H => e_panic (P := PP) (fn := Tryz.f144) H h)
 clear H h a
 rintro _ w12 a ⟨T13, rfl, h⟩ H
 refine s_build H rfl (by rw [H.parts (vs := [(0, (.i (wr .i64 B11))), (1, (.string T13))]) rfl]; exact bd_92_ii640_s1 w12 (wr .i64 B11) T13) (lt_ rfl) fun a H => ?_
 replace h := h.get
 obtain ⟨b14, w15, n16, h⟩ := h
 refine s_alloc H rfl zero_92 (lt_ rfl) ?_
 rw [← n16.at_]
 clear H a
 intro a H
 refine n16.go <| s_stoN (l := [(.i (wr .i64 B11)), (.string T13), (.i 0), (.i 0), (.bool false), (.bool false), Slc.nil.v]) H rfl rfl rfl rfl agg_92 rfl rfl h ?_
 clear h H
 intro w17 h H
 refine c_nil <| hK9 _ _ <| c_seq fun K18 hK18 => c_reg <| s_move H rfl rfl (lt_ rfl) fun a H => s_call H rfl body_139 (H.args (vs := [(.pointer N8), (.i 4611686018427387903)]) rfl) (lt_ rfl) h ?_ (fun c w' h H => e_panic (P := PP) (fn := Tryz.f144) H h)
 clear H h a
 rintro _ w19 a ⟨U20, rfl, h⟩ H
 refine s_fld H rfl rfl fld_92_2 (lt_ rfl) fun a H => s_fld H rfl rfl fld_90_0 (lt_ rfl) fun a H => s_fld H rfl rfl fld_88_0 (lt_ rfl) fun a H => ?_
 obtain ⟨h22, h23, h⟩ := h
 refine s_sto (p := (((blk b14).add 2).add 0).add 0) (v := (.i U20)) H rfl rfl rfl rfl one_2 rfl h22 h23 ?_
 clear H
 intro H
 generalize hww21 : World.setCell w19 ((((blk b14).add 2).add 0).add 0) (.i U20) = w21 at h ⊢
 have w21S : SetAt w19 ((((blk b14).add 2).add 0).add 0) (.i U20) w21 := ⟨hww21.symm⟩
 clear hww21 h22 h23
 refine c_nil <| hK18 _ _ <| c_seq fun K24 hK24 => c_reg <| s_move H rfl rfl (lt_ rfl) fun a H => s_call H rfl body_139 (H.args (vs := [(.pointer N8), (.i 65535)]) rfl) (lt_ rfl) h ?_ (fun c w' h H => e_panic (P := PP) (fn := Tryz.f144) H h)
 clear H h a
 rintro _ w25 a ⟨U26, rfl, h⟩ H
 refine s_fld H rfl rfl fld_92_2 (lt_ rfl) fun a H => s_fld H rfl rfl fld_90_0 (lt_ rfl) fun a H => s_fld H rfl rfl fld_88_1 (lt_ rfl) fun a H => ?_
 obtain ⟨h28, h29, h⟩ := h
 refine s_sto (p := (((blk b14).add 2).add 0).add 1) (v := (.i U26)) H rfl rfl rfl rfl one_3 rfl h28 h29 ?_
 clear H
 intro H
 generalize hww27 : World.setCell w25 ((((blk b14).add 2).add 0).add 1) (.i U26) = w27 at h ⊢
 have w27S : SetAt w25 ((((blk b14).add 2).add 0).add 1) (.i U26) w27 := ⟨hww27.symm⟩
 clear hww27 h28 h29
 refine c_nil <| hK24 _ _ <| c_seq fun K30 hK30 => c_reg <| s_fld H rfl rfl fld_92_0 (lt_ rfl) fun a H => ?_
 obtain ⟨l31, hc32, h⟩ := h
 refine s_load (v := (.i l31)) H rfl rfl one_3 hc32 (lt_ rfl) fun a H => s_bin H rfl rfl rfl r_eql (lt_ rfl) fun a H => s_assign H rfl rfl (lt_ rfl) fun a H => c_nil <| hK30 _ _ <| c_seq fun K33 hK33 => ?_
 obtain ⟨R35, h, h154⟩ := h
 have h127 : ∀ (a : Act) (h34 : Bool) (w36 : World), R35 h34 w36 → Has 58 [] a [(2, (.pointer (some (blk b3)))), (3, (.pointer N8)), (4, (.pointer (some (blk b14)))), (5, (.bool h34))] → K33 a w36 := by
  clear h
  intro a h34 w36 h H
  replace h := h154 h34 w36 h
  refine hK33 _ _ <| c_seq fun K37 hK37 => ?_
  obtain ⟨R38, h, h126⟩ := h
  have h114 : ∀ (a : Act) (w39 : World), R38 w39 → Has 58 [] a [(2, (.pointer (some (blk b3)))), (3, (.pointer N8)), (4, (.pointer (some (blk b14))))] → K37 a w39 := by
   clear h
   intro a w39 h H
   replace h := h126 w39 h
   refine hK37 _ _ <| c_seq fun K40 hK40 => c_reg <| s_move H rfl rfl (lt_ rfl) fun a H => s_call H rfl body_173 (H.args (vs := [(.pointer N8)]) rfl) (lt_ rfl) h ?_ (fun c w' h H => e_panic (P := PP) (fn := Tryz.f144) H h)
   clear H h a
   rintro _ w41 a ⟨rfl, h⟩ H
   refine c_nil <| hK40 _ _ <| c_seq fun K42 hK42 => c_reg <| s_move H rfl rfl (lt_ rfl) fun a H => s_call H rfl body_141 (H.args (vs := [(.pointer N8)]) rfl) (lt_ rfl) h ?_ (fun c w' h H => e_panic (P := PP) (fn := Tryz.f144) H h)
   clear H h a
   rintro _ w43 a ⟨E44, rfl, h⟩ H
   refine s_bin H rfl rfl rfl r_eql (lt_ rfl) fun a H => s_move H rfl rfl (lt_ rfl) fun a H => ?_
   obtain ⟨R47, h, h105⟩ := h
   refine g_joinW (n := 58) R47 (fun x48 => [(55, (.bool x48)), (2, (.pointer (some (blk b3)))), (4, (.pointer (some (blk b14))))]) (.succ (.succ (.succ (.succ (.zero _))))) ?_ ?_
   ·intro h46
    clear h105
    rcases Bool.eq_false_or_eq_true (decide (E44 = 0)) with h45 | h45
    ·replace H := H.ch (t := 51) (b := true) rfl h45
     replace h := h.1 h45
     obtain ⟨K50, hc51, K52, hc53, C54, hc55, C56, hc57, F58, hc59, H60, hc61, D62, hc63, h⟩ := h
     refine s_loadN (l := [(.i K50), (.string K52), (.i C54), (.i C56), (.bool F58), (.bool H60), D62.v]) H (wantG H rfl rfl) rfl agg_92 rfl ⟨hc51, hc53, hc55, hc57, hc59, hc61, hc63, trivial⟩ (lt_ rfl) fun a H => s_call H (wantG H rfl rfl) body_67 (H.args (vs := [(.agg #[(.i K50), (.string K52), (.i C54), (.i C56), (.bool F58), (.bool H60), D62.v])]) rfl) (lt_ rfl) h ?_ (fun c w' h H => e_panic (P := PP) (fn := Tryz.f144) H h)
     clear H h a
     rintro _ w64 a ⟨m65, rfl, h⟩ H
     refine s_bin H (wantG H rfl rfl) rfl rfl r_eql (lt_ rfl) fun a H => s_pickT H rfl rfl rfl (lt_ rfl) fun a H => ?_
     exact h46 _ _ _ h (H.weaken ⟨rfl, rfl, rfl, trivial⟩)
    ·replace H := H.ch (t := 51) (b := false) rfl h45
     replace h := h.2 h45
     iterate 3 refine s_skip H (wantN H rfl rfl rfl) rfl (lt_ rfl) fun a H => ?_
     refine s_pickF H rfl rfl rfl (lt_ rfl) fun a H => ?_
     exact h46 _ _ _ h (H.weaken ⟨rfl, rfl, rfl, trivial⟩)
   ·clear H a h
    intro a x48 w49 h H
    replace h := h105 x48 w49 h
    clear h105
    refine s_call H rfl body_140 (H.args (vs := [(.bool x48), (.i 31)]) rfl) (lt_ rfl) h ?_ (fun c w' h H => e_panic (P := PP) (fn := Tryz.f144) H h)
    clear H h a
    rintro _ w70 a ⟨rfl, h⟩ H
    refine c_nil <| hK42 _ _ <| c_seq fun K71 hK71 => c_reg ?_
    obtain ⟨K72, hc73, K74, hc75, C76, hc77, C78, hc79, F80, hc81, H82, hc83, D84, hc85, h⟩ := h
    refine s_loadN (l := [(.i K72), (.string K74), (.i C76), (.i C78), (.bool F80), (.bool H82), D84.v]) H rfl rfl agg_92 rfl ⟨hc73, hc75, hc77, hc79, hc81, hc83, hc85, trivial⟩ (lt_ rfl) fun a H => s_stoN (l := [(.i K72), (.string K74), (.i C76), (.i C78), (.bool F80), (.bool H82), D84.v]) H rfl rfl rfl rfl agg_92 rfl rfl h ?_
    clear h H
    intro w86 h H
    refine c_nil <| hK71 _ _ <| c_ret ?_
    obtain ⟨K87, hc88, K89, hc90, C91, hc92, C93, hc94, F95, hc96, H97, hc98, D99, hc100, h⟩ := h
    exact e_ret1 H rfl ⟨_, rfl, run_loadN (l := [(.i K87), (.string K89), (.i C91), (.i C93), (.bool F95), (.bool H97), D99.v]) agg_92 rfl ⟨hc88, hc90, hc92, hc94, hc96, hc98, hc100, trivial⟩⟩ h
  clear h126
  refine c_seq fun K115 hK115 => c_reg <| s_move H rfl rfl (lt_ rfl) fun a H => c_nil <| hK115 _ _ <| c_cond H rfl (fun h116 => ?_) (fun h116 => ?_)
  ·replace h := h.1 h116
   refine c_reg <| s_move H rfl rfl (lt_ rfl) fun a H => s_call H rfl body_172 (H.args (vs := [(.pointer N8), (.i 65540)]) rfl) (lt_ rfl) h ?_ (fun c w' h H => e_panic (P := PP) (fn := Tryz.f144) H h)
   clear H h a
   rintro _ w117 a ⟨B118, rfl, h⟩ H
   refine s_fld H rfl rfl fld_92_2 (lt_ rfl) fun a H => s_fld H rfl rfl fld_90_3 (lt_ rfl) fun a H => ?_
   obtain ⟨h120, h121, h⟩ := h
   refine s_sto (p := ((blk b14).add 2).add 4) (v := B118.v) H rfl rfl rfl rfl one_51 rfl h120 h121 ?_
   clear H
   intro H
   generalize hww119 : World.setCell w117 (((blk b14).add 2).add 4) B118.v = w119 at h ⊢
   have w119S : SetAt w117 (((blk b14).add 2).add 4) B118.v w119 := ⟨hww119.symm⟩
   clear hww119 h120 h121
   refine c_nil ?_
   exact h114 _ _ h (H.weaken ⟨rfl, rfl, rfl, trivial⟩)
  ·replace h := h.2 h116
   refine c_skip ?_
   exact h114 _ _ h (H.weaken ⟨rfl, rfl, rfl, trivial⟩)
 clear h154
 refine c_seq fun K128 hK128 => c_reg <| s_fld H rfl rfl fld_92_0 (lt_ rfl) fun a H => ?_
 obtain ⟨l129, hc130, h⟩ := h
 refine s_load (v := (.i l129)) H rfl rfl one_3 hc130 (lt_ rfl) fun a H => s_bin H rfl rfl rfl r_eql (lt_ rfl) fun a H => c_nil <| hK128 _ _ <| c_cond H rfl (fun h131 => ?_) (fun h131 => ?_)
 ·replace h := h.1 h131
  refine c_seq fun K132 hK132 => c_reg <| s_move H rfl rfl (lt_ rfl) fun a H => s_call H rfl body_171 (H.args (vs := [(.pointer N8)]) rfl) (lt_ rfl) h ?_ (fun c w' h H => e_panic (P := PP) (fn := Tryz.f144) H h)
  clear H h a
  rintro _ w133 a ⟨B134, rfl, h⟩ H
  refine s_fld H rfl rfl fld_92_2 (lt_ rfl) fun a H => s_fld H rfl rfl fld_90_1 (lt_ rfl) fun a H => ?_
  obtain ⟨h136, h137, h⟩ := h
  refine s_sto (p := ((blk b14).add 2).add 2) (v := (.bool B134)) H rfl rfl rfl rfl one_4 rfl h136 h137 ?_
  clear H
  intro H
  generalize hww135 : World.setCell w133 (((blk b14).add 2).add 2) (.bool B134) = w135 at h ⊢
  have w135S : SetAt w133 (((blk b14).add 2).add 2) (.bool B134) w135 := ⟨hww135.symm⟩
  clear hww135 h136 h137
  refine c_nil <| hK132 _ _ <| c_seq fun K138 hK138 => c_reg <| s_move H rfl rfl (lt_ rfl) fun a H => s_call H rfl body_171 (H.args (vs := [(.pointer N8)]) rfl) (lt_ rfl) h ?_ (fun c w' h H => e_panic (P := PP) (fn := Tryz.f144) H h)
  clear H h a
  rintro _ w139 a ⟨B140, rfl, h⟩ H
  refine s_fld H rfl rfl fld_92_2 (lt_ rfl) fun a H => s_fld H rfl rfl fld_90_2 (lt_ rfl) fun a H => ?_
  obtain ⟨h142, h143, h⟩ := h
  refine s_sto (p := ((blk b14).add 2).add 3) (v := (.bool B140)) H rfl rfl rfl rfl one_4 rfl h142 h143 ?_
  clear H
  intro H
  generalize hww141 : World.setCell w139 (((blk b14).add 2).add 3) (.bool B140) = w141 at h ⊢
  have w141S : SetAt w139 (((blk b14).add 2).add 3) (.bool B140) w141 := ⟨hww141.symm⟩
  clear hww141 h142 h143
  refine c_nil <| hK138 _ _ <| c_reg <| s_fld H rfl rfl fld_92_2 (lt_ rfl) fun a H => s_fld H rfl rfl fld_90_2 (lt_ rfl) fun a H => ?_
  obtain ⟨l144, hc145, h⟩ := h
  refine s_load (v := (.bool l144)) H rfl rfl one_4 hc145 (lt_ rfl) fun a H => s_assign H rfl rfl (lt_ rfl) fun a H => c_nil ?_
  exact h127 _ _ _ h (H.weaken ⟨rfl, rfl, rfl, rfl, trivial⟩)
 ·replace h := h.2 h131
  refine c_skip ?_
  exact h127 _ _ _ h (H.weaken ⟨rfl, rfl, rfl, rfl, trivial⟩)

theorem sim_disk_wiping_c1 (p1 : Slc) (p2 : Int) (w : World) (Q : Ending → World → Prop) (h : vc_disk_wiping_c1 p1 p2 w Q) : Calls PP F_disk_wiping_c1 #[p1.v, (.i p2)] w Q := by
 unfold vc_disk_wiping_c1 at h
 refine enter (n := 5) Tryz.func148 rfl rfl (Nat.le_of_ble_eq_true rfl) fun a H => c_seq fun K3 hK3 => c_reg <| s_assign H rfl rfl (lt_ rfl) fun a H => c_nil <| hK3 _ _ <| c_seq fun K4 hK4 => c_reg <| s_assign H rfl rfl (lt_ rfl) fun a H => c_nil <| hK4 _ _ <| c_ret ?_
 exact e_ret1 H rfl rfl h

theorem sim_tag_proper (C1 C2 : Int) (w : World) (Q : Ending → World → Prop) (h : vc_tag_proper C1 C2 w Q) : Calls PP F_tag_proper #[(.agg #[(.i C1), (.i C2)])] w Q := by
 unfold vc_tag_proper at h
 refine enter (n := 21) Tryz.func149 rfl rfl (Nat.le_of_ble_eq_true rfl) fun a H => c_seq fun K3 hK3 => c_reg ?_
 replace h := h.get
 obtain ⟨b4, w5, n6, h⟩ := h
 refine s_box H rfl rfl (lt_ rfl) ?_
 rw [← n6.at_]
 clear H a
 intro a H
 refine n6.go <| s_assign H rfl rfl (lt_ rfl) fun a H => c_nil <| hK3 _ _ <| c_seq fun K7 hK7 => c_reg <| s_fld H rfl rfl fld_88_0 (lt_ rfl) fun a H => s_load (v := (.i C1)) H rfl rfl one_2 (n6.cell (i := 0) rfl) (lt_ rfl) fun a H => s_bin H rfl rfl rfl r_geq (lt_ rfl) fun a H => s_move H rfl rfl (lt_ rfl) fun a H => g_join (n := 21) [(10, (.bool ((decide (1 ≤ C1)) && (decide (C1 ≤ 4611686018427387903))))), (1, (.pointer (some (blk b4))))] (.succ (.succ (.succ (.succ (.zero _))))) ?_ ?_
 ·intro h9
  try clear h
  rcases Bool.eq_false_or_eq_true (decide (1 ≤ C1)) with h8 | h8
  ·replace H := H.ch (t := 6) (b := true) rfl h8
   refine s_fld H (wantG H rfl rfl) rfl fld_88_0 (lt_ rfl) fun a H => s_load (v := (.i C1)) H (wantG H rfl rfl) rfl one_2 (n6.cell (i := 0) rfl) (lt_ rfl) fun a H => s_bin H (wantG H rfl rfl) rfl rfl r_leq (lt_ rfl) fun a H => s_pickT H rfl rfl rfl (lt_ rfl) fun a H => ?_
   exact h9 _ (H.weaken ⟨by rw [h8]; rfl, rfl, trivial⟩)
  ·replace H := H.ch (t := 6) (b := false) rfl h8
   iterate 3 refine s_skip H (wantN H rfl rfl rfl) rfl (lt_ rfl) fun a H => ?_
   refine s_pickF H rfl rfl rfl (lt_ rfl) fun a H => ?_
   exact h9 _ (H.weaken ⟨by rw [h8]; rfl, rfl, trivial⟩)
 ·clear H a
  intro a H
  refine s_move H rfl rfl (lt_ rfl) fun a H => g_join (n := 21) [(15, (.bool (((decide (1 ≤ C1)) && (decide (C1 ≤ 4611686018427387903))) && (decide (1 ≤ C2))))), (1, (.pointer (some (blk b4))))] (.succ (.succ (.succ (.succ (.zero _))))) ?_ ?_
  ·intro h11
   try clear h
   rcases Bool.eq_false_or_eq_true ((decide (1 ≤ C1)) && (decide (C1 ≤ 4611686018427387903))) with h10 | h10
   ·replace H := H.ch (t := 11) (b := true) rfl h10
    refine s_fld H (wantG H rfl rfl) rfl fld_88_1 (lt_ rfl) fun a H => s_load (v := (.i C2)) H (wantG H rfl rfl) rfl one_3 (n6.cell (i := 1) rfl) (lt_ rfl) fun a H => s_bin H (wantG H rfl rfl) rfl rfl r_geq (lt_ rfl) fun a H => s_pickT H rfl rfl rfl (lt_ rfl) fun a H => ?_
    exact h11 _ (H.weaken ⟨by rw [h10]; rfl, rfl, trivial⟩)
   ·replace H := H.ch (t := 11) (b := false) rfl h10
    iterate 3 refine s_skip H (wantN H rfl rfl rfl) rfl (lt_ rfl) fun a H => ?_
    refine s_pickF H rfl rfl rfl (lt_ rfl) fun a H => ?_
    exact h11 _ (H.weaken ⟨by rw [h10]; rfl, rfl, trivial⟩)
  ·clear H a
   intro a H
   refine s_move H rfl rfl (lt_ rfl) fun a H => g_join (n := 21) [(20, (.bool ((((decide (1 ≤ C1)) && (decide (C1 ≤ 4611686018427387903))) && (decide (1 ≤ C2))) && (decide (C2 ≤ 65535)))))] (.succ (.succ (.succ (.succ (.zero _))))) ?_ ?_
   ·intro h13
    try clear h
    rcases Bool.eq_false_or_eq_true (((decide (1 ≤ C1)) && (decide (C1 ≤ 4611686018427387903))) && (decide (1 ≤ C2))) with h12 | h12
    ·replace H := H.ch (t := 16) (b := true) rfl h12
     refine s_fld H (wantG H rfl rfl) rfl fld_88_1 (lt_ rfl) fun a H => s_load (v := (.i C2)) H (wantG H rfl rfl) rfl one_3 (n6.cell (i := 1) rfl) (lt_ rfl) fun a H => s_bin H (wantG H rfl rfl) rfl rfl r_leq (lt_ rfl) fun a H => s_pickT H rfl rfl rfl (lt_ rfl) fun a H => ?_
     exact h13 _ (H.weaken ⟨by rw [h12]; rfl, trivial⟩)
    ·replace H := H.ch (t := 16) (b := false) rfl h12
     iterate 3 refine s_skip H (wantN H rfl rfl rfl) rfl (lt_ rfl) fun a H => ?_
     refine s_pickF H rfl rfl rfl (lt_ rfl) fun a H => ?_
     exact h13 _ (H.weaken ⟨by rw [h12]; rfl, trivial⟩)
   ·clear H a
    intro a H
    refine s_assign H rfl rfl (lt_ rfl) fun a H => c_nil <| hK7 _ _ <| c_ret ?_
    exact e_ret1 H rfl rfl h

theorem sim_pack_first_fail (f1 : Option Addr) (e2 : Int) (w : World) (Q : Ending → World → Prop) (h : vc_pack_first_fail f1 e2 w Q) : Calls PP F_pack_first_fail #[(.pointer f1), (.i e2)] w Q := by
 unfold vc_pack_first_fail at h
 refine enter (n := 13) Tryz.func150 rfl rfl (Nat.le_of_ble_eq_true rfl) fun a H => c_seq fun K3 hK3 => c_reg <| s_move H rfl rfl (lt_ rfl) fun a H => ?_
 obtain ⟨a4, h11, h⟩ := h
 revert H
 subst h11
 intro H
 refine s_nil H rfl rfl (lt_ rfl) fun a H => s_fld H rfl rfl fld_178_0 (lt_ rfl) fun a H => ?_
 obtain ⟨l5, hc6, h⟩ := h
 refine s_load (v := (.i l5)) H rfl rfl one_40 hc6 (lt_ rfl) fun a H => s_bin H rfl rfl rfl r_eql (lt_ rfl) fun a H => c_nil <| hK3 _ _ <| c_cond H rfl (fun h7 => ?_) (fun h7 => ?_)
 ·replace h := h.1 h7
  refine c_reg <| s_move H rfl rfl (lt_ rfl) fun a H => s_move H rfl rfl (lt_ rfl) fun a H => s_nil H rfl rfl (lt_ rfl) fun a H => s_fld H rfl rfl fld_178_0 (lt_ rfl) fun a H => ?_
  obtain ⟨h9, h10, h⟩ := h
  refine s_sto (p := a4.add 0) (v := (.i e2)) H rfl rfl rfl rfl one_40 rfl h9 h10 ?_
  clear H
  intro H
  generalize hww8 : World.setCell w (a4.add 0) (.i e2) = w8 at h ⊢
  have w8S : SetAt w (a4.add 0) (.i e2) w8 := ⟨hww8.symm⟩
  clear hww8 h9 h10
  refine c_nil ?_
  exact e_ret0 H rfl h
 ·replace h := h.2 h7
  refine c_skip ?_
  exact e_ret0 H rfl h

theorem sim_pack_form (n1 : Int) (w : World) (Q : Ending → World → Prop) (h : vc_pack_form n1 w Q) : Calls PP F_pack_form #[(.i n1)] w Q := by
 unfold vc_pack_form at h
 refine enter (n := 19) Tryz.func151 rfl rfl (Nat.le_of_ble_eq_true rfl) fun a H => c_seq fun K2 hK2 => c_reg <| s_assign H rfl rfl (lt_ rfl) fun a H => c_nil <| hK2 _ _ <| c_seq fun K3 hK3 => c_reg <| s_assign H rfl rfl (lt_ rfl) fun a H => c_nil <| hK3 _ _ <| c_seq fun K4 hK4 => ?_
 obtain ⟨R7, h, h34⟩ := h
 have h16 : ∀ (a : Act) (n5 : Int) (b6 : Slc) (w8 : World), R7 n5 b6 w8 → Has 19 [] a [(0, (.i n5)), (3, b6.v)] → K4 a w8 := by
  clear h
  intro a n5 b6 w8 h H
  replace h := h34 n5 b6 w8 h
  refine hK4 _ _ <| c_seq fun K9 hK9 => c_reg <| s_move H rfl rfl (lt_ rfl) fun a H => s_move H rfl rfl (lt_ rfl) fun a H => s_cv H rfl rfl (r_cvI some_2 int_5) (lt_ rfl) fun a H => ?_
  replace h := h.get
  obtain ⟨b10, w11, n12, h⟩ := h
  refine s_bslc H rfl (by rw [H.parts (vs := [(0, (.int .u8 (wr .u8 n5)))]) rfl]; exact bs_51_1_iu80 w8 (wr .u8 n5)) (lt_ rfl) ?_
  rw [← n12.at_]
  clear H a
  intro a H
  refine n12.go ?_
  obtain ⟨s13, w14, h15, h⟩ := h
  refine s_blt H rfl (H.args (vs := [b6.v, (Slc.v (Slc.mk (some (blk b10)) 1 1))]) rfl) (lt_ rfl) (fun cs => b_app (z := s13) h15) ?_
  clear H a h15
  intro a H
  refine s_assign H rfl rfl (lt_ rfl) fun a H => c_nil <| hK9 _ _ <| c_ret ?_
  exact e_ret1 H rfl rfl h
 clear h34
 refine c_block ?_
 obtain ⟨I20, m21, h32, h33⟩ := h
 refine c_loop (σ := Int × Slc) (fun z w => I20 z.1 z.2 w) (fun z w => m21 z.1 z.2 w) (fun z => [(0, (.i z.1)), (3, z.2.v)]) (n1, Slc.nil) h32 (H.weaken ⟨rfl, rfl, trivial⟩) ?_
 clear H h32
 rintro ⟨n17, b18⟩ a w19 h H
 replace h := h33 n17 b18 w19 h
 clear h33
 replace H : Has 19 [] a [(0, (.i n17)), (3, b18.v)] := H
 refine c_seq fun K22 hK22 => c_seq fun K23 hK23 => c_reg <| s_move H rfl rfl (lt_ rfl) fun a H => s_bin H rfl rfl rfl r_geq (lt_ rfl) fun a H => c_nil <| hK23 _ _ <| c_cond H rfl (fun h24 => ?_) (fun h24 => ?_)
 ·replace h := h.1 h24
  refine c_skip <| hK22 _ _ <| c_block <| c_seq fun K25 hK25 => c_reg <| s_move H rfl rfl (lt_ rfl) fun a H => s_move H rfl rfl (lt_ rfl) fun a H => s_cv H rfl rfl (r_cvI some_2 int_5) (lt_ rfl) fun a H => s_bin H rfl rfl rfl r_or (lt_ rfl) fun a H => ?_
  replace h := h.get
  obtain ⟨b26, w27, n28, h⟩ := h
  refine s_bslc H rfl (by rw [H.parts (vs := [(0, (.int .u8 (orI .u8 (wr .u8 n17) 128)))]) rfl]; exact bs_51_1_iu80 w19 (orI .u8 (wr .u8 n17) 128)) (lt_ rfl) ?_
  rw [← n28.at_]
  clear H a
  intro a H
  refine n28.go ?_
  obtain ⟨s29, w30, h31, h⟩ := h
  refine s_blt H rfl (H.args (vs := [b18.v, (Slc.v (Slc.mk (some (blk b26)) 1 1))]) rfl) (lt_ rfl) (fun cs => b_app (z := s29) h31) ?_
  clear H a h31
  intro a H
  refine s_assign H rfl rfl (lt_ rfl) fun a H => c_nil <| hK25 _ _ <| c_reg <| s_move H rfl rfl (lt_ rfl) fun a H => s_bin H rfl rfl rfl (r_shr (by decide)) (lt_ rfl) fun a H => s_assign H rfl rfl (lt_ rfl) fun a H => c_nil <| Exists.intro (shrI .i64 n17 7, s29) ⟨h.1, h.2, H.weaken ⟨rfl, rfl, trivial⟩⟩
 ·replace h := h.2 h24
  refine c_exit ?_
  first | (simp only [Exit.then, Exit.inBlock, ↓reduceIte]; fail_if_success simp only [Nat.reduceEqDiff]) | simp only [Exit.then, Exit.inBlock, ↓reduceIte, Nat.reduceEqDiff]
  exact h16 _ _ _ _ h (H.weaken ⟨rfl, rfl, trivial⟩)

end Go.Proofs.YtflcdgkckfcofaaGreatDoor
