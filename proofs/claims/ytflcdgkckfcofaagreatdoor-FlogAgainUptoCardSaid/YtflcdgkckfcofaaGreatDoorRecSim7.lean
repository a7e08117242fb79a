/-
  The conditions give the machine's calls; printed by vcgen.py.
-/
import Derived.Test.YtflcdgkckfcofaaGreatDoorRecVc
namespace Go.Proofs.YtflcdgkckfcofaaGreatDoor
open Go Go.Vc
set_option maxRecDepth 100000
set_option maxHeartbeats 4000000
theorem sim_disk_Disk_act (d1 : Option Addr) (a2 : Int) (w3 : Bool) (d4 : Value) (w : World) (Q : Ending → World → Prop) (h : vc_disk_Disk_act d1 a2 w3 d4 w Q) : Calls PP F_disk_Disk_act #[(.pointer d1), (.i a2), (.bool w3), d4] w Q := by
 unfold vc_disk_Disk_act at h
 refine enter (n := 81) Tryz.func76 rfl rfl (Nat.le_of_ble_eq_true rfl) fun a H => c_seq fun K5 hK5 => c_reg <| s_assign H rfl rfl (lt_ rfl) fun a H => c_nil <| hK5 _ _ <| c_seq fun K6 hK6 => c_block <| c_seq fun K7 hK7 => c_reg <| s_move H rfl rfl (lt_ rfl) fun a H => s_bin H rfl rfl rfl (r_eqP0 ptr_33) (lt_ rfl) fun a H => s_assign H rfl rfl (lt_ rfl) fun a H => c_nil <| hK7 _ _ <| c_cond H rfl (fun h8 => ?_) (fun h8 => ?_)
 ·replace h := h.1 h8
  refine c_seq fun K9 hK9 => c_reg <| s_assign H rfl rfl (lt_ rfl) fun a H => c_nil <| hK9 _ _ <| c_ret ?_
  exact e_ret1 H rfl rfl h
 ·replace h := h.2 h8
  refine c_seq fun K10 hK10 => c_reg <| s_move H rfl rfl (lt_ rfl) fun a H => ?_
  obtain ⟨a11, h80, h⟩ := h
  revert H
  subst h80
  intro H
  refine s_nil H rfl rfl (lt_ rfl) fun a H => s_fld H rfl rfl fld_81_5 (lt_ rfl) fun a H => ?_
  obtain ⟨l12, hc13, h⟩ := h
  refine s_load (v := (.bool l12)) H rfl rfl one_4 hc13 (lt_ rfl) fun a H => s_assign H rfl rfl (lt_ rfl) fun a H => c_nil <| hK10 _ _ <| c_cond H rfl (fun h14 => ?_) (fun h14 => ?_)
  ·replace h := h.1 h14
   refine c_seq fun K15 hK15 => c_reg <| s_assign H rfl rfl (lt_ rfl) fun a H => c_nil <| hK15 _ _ <| c_ret ?_
   exact e_ret1 H rfl rfl h
  ·replace h := h.2 h14
   refine c_seq fun K16 hK16 => c_reg <| s_move H rfl rfl (lt_ rfl) fun a H => s_bin H rfl rfl rfl r_neq (lt_ rfl) fun a H => s_move H rfl rfl (lt_ rfl) fun a H => g_join (n := 81) [(23, (.bool ((decide (a2 ≠ 0)) && (decide (a2 ≠ 1))))), (0, (.pointer (some a11))), (1, (.i a2)), (2, (.bool w3)), (3, d4)] (.succ (.succ (.succ (.zero _)))) ?_ ?_
   ·intro h18
    try clear h
    rcases Bool.eq_false_or_eq_true (decide (a2 ≠ 0)) with h17 | h17
    ·replace H := H.ch (t := 20) (b := true) rfl h17
     refine s_move H (wantG H rfl rfl) rfl (lt_ rfl) fun a H => s_bin H (wantG H rfl rfl) rfl rfl r_neq (lt_ rfl) fun a H => s_pickT H rfl rfl rfl (lt_ rfl) fun a H => ?_
     exact h18 _ (H.weaken ⟨by rw [h17]; rfl, rfl, rfl, rfl, rfl, trivial⟩)
    ·replace H := H.ch (t := 20) (b := false) rfl h17
     refine s_skip H (wantN H rfl rfl rfl) rfl (lt_ rfl) fun a H => s_skip H (wantN H rfl rfl rfl) rfl (lt_ rfl) fun a H => s_pickF H rfl rfl rfl (lt_ rfl) fun a H => ?_
     exact h18 _ (H.weaken ⟨by rw [h17]; rfl, rfl, rfl, rfl, rfl, trivial⟩)
   ·clear H a
    intro a H
    refine s_move H rfl rfl (lt_ rfl) fun a H => ?_
    obtain ⟨x28, h29, h30, h⟩ := h
    refine g_join (n := 81) [(34, (.bool x28)), (0, (.pointer (some a11))), (1, (.i a2)), (3, d4)] (.succ (.succ (.succ (.succ (.succ (.succ (.succ (.succ (.succ (.succ (.zero _))))))))))) ?_ ?_
    ·intro h20
     try clear h
     rcases Bool.eq_false_or_eq_true ((decide (a2 ≠ 0)) && (decide (a2 ≠ 1))) with h19 | h19
     ·replace H := H.ch (t := 24) (b := true) rfl h19
      refine s_skip H (wantN H rfl rfl rfl) rfl (lt_ rfl) fun a H => s_skip H (wantN H rfl rfl rfl) rfl (lt_ rfl) fun a H => ?_
      iterate 6 refine s_skip H (wantU H rfl rfl) rfl (lt_ rfl) fun a H => ?_
      refine s_skip H (wantN H rfl rfl rfl) rfl (lt_ rfl) fun a H => s_pickT H rfl rfl rfl (lt_ rfl) fun a H => ?_
      replace h := h30 h19
      subst h
      exact h20 _ (H.weaken ⟨rfl, rfl, rfl, rfl, trivial⟩)
     ·replace H := H.ch (t := 24) (b := false) rfl h19
      replace h := h29 h19
      refine s_move H (wantG H rfl rfl) rfl (lt_ rfl) fun a H => s_move H (wantG H rfl rfl) rfl (lt_ rfl) fun a H => ?_
      obtain ⟨x25, h26, h27, h⟩ := h
      refine g_join (n := 81) [(33, (.bool x25)), (0, (.pointer (some a11))), (1, (.i a2)), (3, d4), (24, (.bool false))] (.succ (.succ (.succ (.succ (.succ (.succ (.succ (.zero _)))))))) ?_ ?_
      ·intro h22
       try clear h
       rcases Bool.eq_false_or_eq_true w3 with h21 | h21
       ·replace H := H.ch (t := 26) (b := true) rfl h21
        replace h := h26 h21
        refine s_move H (wantG H rfl rfl) rfl (lt_ rfl) fun a H => s_move H (wantG H rfl rfl) rfl (lt_ rfl) fun a H => s_nil H (wantG H rfl rfl) rfl (lt_ rfl) fun a H => s_fld H (wantG H rfl rfl) rfl fld_81_1 (lt_ rfl) fun a H => ?_
        obtain ⟨l23, hc24, h⟩ := h
        refine s_load (v := (.i l23)) H (wantG H rfl rfl) rfl one_3 hc24 (lt_ rfl) fun a H => s_bin H (wantG H rfl rfl) rfl rfl r_eql (lt_ rfl) fun a H => s_pickT H (wantG H rfl rfl) rfl rfl (lt_ rfl) fun a H => ?_
        subst h
        exact h22 _ (H.weaken ⟨rfl, rfl, rfl, rfl, rfl, trivial⟩)
       ·replace H := H.ch (t := 26) (b := false) rfl h21
        iterate 6 refine s_skip H (wantN H rfl rfl rfl) rfl (lt_ rfl) fun a H => ?_
        refine s_pickF H (wantG H rfl rfl) rfl rfl (lt_ rfl) fun a H => ?_
        replace h := h27 h21
        subst h
        exact h22 _ (H.weaken ⟨rfl, rfl, rfl, rfl, rfl, trivial⟩)
      ·clear H a
       clear h26 h27
       intro a H
       refine s_pickF H rfl rfl rfl (lt_ rfl) fun a H => ?_
       subst h
       exact h20 _ (H.weaken ⟨rfl, rfl, rfl, rfl, trivial⟩)
    ·clear H a
     clear h29 h30
     intro a H
     refine s_assign H rfl rfl (lt_ rfl) fun a H => c_nil <| hK16 _ _ <| c_cond H rfl (fun h31 => ?_) (fun h31 => ?_)
     ·replace h := h.1 h31
      refine c_seq fun K32 hK32 => c_reg <| s_assign H rfl rfl (lt_ rfl) fun a H => c_nil <| hK32 _ _ <| c_ret ?_
      exact e_ret1 H rfl rfl h
     ·replace h := h.2 h31
      refine c_skip <| hK6 _ _ <| c_seq fun K33 hK33 => c_reg <| s_move H rfl rfl (lt_ rfl) fun a H => s_move H rfl rfl (lt_ rfl) fun a H => s_nil H rfl rfl (lt_ rfl) fun a H => s_fld H rfl rfl fld_81_3 (lt_ rfl) fun a H => ?_
      obtain ⟨l34, hc35, h⟩ := h
      refine s_load (v := (.i l34)) H rfl rfl one_3 hc35 (lt_ rfl) fun a H => s_bin H rfl rfl rfl r_eql (lt_ rfl) fun a H => s_nil H rfl rfl (lt_ rfl) fun a H => s_fld H rfl rfl fld_81_5 (lt_ rfl) fun a H => ?_
      obtain ⟨h37, h38, h⟩ := h
      refine s_sto (p := a11.add 10) (v := (.bool (decide (l34 = 1)))) H rfl rfl rfl rfl one_4 rfl h37 h38 ?_
      clear H
      intro H
      generalize hww36 : World.setCell w (a11.add 10) (.bool (decide (l34 = 1))) = w36 at h ⊢
      have w36S : SetAt w (a11.add 10) (.bool (decide (l34 = 1))) w36 := ⟨hww36.symm⟩
      clear hww36 h37 h38
      refine c_nil <| hK33 _ _ <| c_seq fun K39 hK39 => c_reg <| s_move H rfl rfl (lt_ rfl) fun a H => s_move H rfl rfl (lt_ rfl) fun a H => s_nil H rfl rfl (lt_ rfl) fun a H => s_fld H rfl rfl fld_81_3 (lt_ rfl) fun a H => ?_
      obtain ⟨l40, hc41, h⟩ := h
      refine s_load (v := (.i l40)) H rfl rfl one_3 hc41 (lt_ rfl) fun a H => s_bin H rfl rfl rfl r_sub (lt_ rfl) fun a H => s_blt H rfl (H.args (vs := [(.i 0), (.i (wr .i64 (l40 - 1)))]) rfl) (lt_ rfl) (fun cs => b_max) fun a H => s_nil H rfl rfl (lt_ rfl) fun a H => s_fld H rfl rfl fld_81_3 (lt_ rfl) fun a H => ?_
      obtain ⟨h43, h44, h⟩ := h
      refine s_sto (p := a11.add 8) (v := (.i (maxI 0 (wr .i64 (l40 - 1))))) H rfl rfl rfl rfl one_3 rfl h43 h44 ?_
      clear H
      intro H
      generalize hww42 : World.setCell w36 (a11.add 8) (.i (maxI 0 (wr .i64 (l40 - 1)))) = w42 at h ⊢
      have w42S : SetAt w36 (a11.add 8) (.i (maxI 0 (wr .i64 (l40 - 1)))) w42 := ⟨hww42.symm⟩
      clear hww42 h43 h44
      refine c_nil <| hK39 _ _ <| c_seq fun K45 hK45 => ?_
      obtain ⟨R46, h, h79⟩ := h
      have h55 : ∀ (a : Act) (w47 : World), R46 w47 → Has 81 [] a [(0, (.pointer (some a11)))] → K45 a w47 := by
       clear h
       intro a w47 h H
       replace h := h79 w47 h
       refine hK45 _ _ <| c_seq fun K48 hK48 => c_seq fun K49 hK49 => c_reg <| s_move H rfl rfl (lt_ rfl) fun a H => s_nil H rfl rfl (lt_ rfl) fun a H => s_fld H rfl rfl fld_81_5 (lt_ rfl) fun a H => ?_
       obtain ⟨l50, hc51, h⟩ := h
       refine s_load (v := (.bool l50)) H rfl rfl one_4 hc51 (lt_ rfl) fun a H => c_nil <| hK49 _ _ <| c_cond H rfl (fun h52 => ?_) (fun h52 => ?_)
       ·replace h := h.1 h52
        refine c_seq fun K53 hK53 => c_reg <| s_assign H rfl rfl (lt_ rfl) fun a H => c_nil <| hK53 _ _ <| c_ret ?_
        exact e_ret1 H rfl rfl h
       ·replace h := h.2 h52
        refine c_skip <| hK48 _ _ <| c_seq fun K54 hK54 => c_reg <| s_assign H rfl rfl (lt_ rfl) fun a H => c_nil <| hK54 _ _ <| c_ret ?_
        exact e_ret1 H rfl rfl h
      clear h79
      refine c_seq fun K56 hK56 => c_reg <| s_move H rfl rfl (lt_ rfl) fun a H => s_nil H rfl rfl (lt_ rfl) fun a H => s_fld H rfl rfl fld_81_5 (lt_ rfl) fun a H => ?_
      obtain ⟨l57, hc58, h⟩ := h
      refine s_load (v := (.bool l57)) H rfl rfl one_4 hc58 (lt_ rfl) fun a H => s_un H rfl rfl r_not (lt_ rfl) fun a H => s_move H rfl rfl (lt_ rfl) fun a H => ?_
      obtain ⟨x63, h64, h65, h⟩ := h
      refine g_join (n := 81) [(62, (.bool x63)), (0, (.pointer (some a11))), (1, (.i a2)), (3, d4)] (.succ (.succ (.succ (.succ (.succ (.zero _)))))) ?_ ?_
      ·intro h60
       try clear h
       rcases Bool.eq_false_or_eq_true (!l57) with h59 | h59
       ·replace H := H.ch (t := 57) (b := true) rfl h59
        iterate 4 refine s_skip H (wantN H rfl rfl rfl) rfl (lt_ rfl) fun a H => ?_
        refine s_pickT H rfl rfl rfl (lt_ rfl) fun a H => ?_
        replace h := h65 h59
        subst h
        exact h60 _ (H.weaken ⟨rfl, rfl, rfl, rfl, trivial⟩)
       ·replace H := H.ch (t := 57) (b := false) rfl h59
        replace h := h64 h59
        refine s_move H (wantG H rfl rfl) rfl (lt_ rfl) fun a H => s_nil H (wantG H rfl rfl) rfl (lt_ rfl) fun a H => s_fld H (wantG H rfl rfl) rfl fld_81_4 (lt_ rfl) fun a H => ?_
        obtain ⟨l61, hc62, h⟩ := h
        refine s_load (v := (.bool l61)) H (wantG H rfl rfl) rfl one_4 hc62 (lt_ rfl) fun a H => s_pickF H rfl rfl rfl (lt_ rfl) fun a H => ?_
        subst h
        exact h60 _ (H.weaken ⟨rfl, rfl, rfl, rfl, trivial⟩)
      ·clear H a
       clear h64 h65
       intro a H
       refine c_nil <| hK56 _ _ <| c_cond H rfl (fun h66 => ?_) (fun h66 => ?_)
       ·replace h := h.1 h66
        refine c_seq fun K67 hK67 => c_reg ?_
        iterate 3 refine s_move H rfl rfl (lt_ rfl) fun a H => ?_
        refine s_nil H rfl rfl (lt_ rfl) fun a H => s_fld H rfl rfl fld_81_0 (lt_ rfl) fun a H => ?_
        obtain ⟨h68, h69, h⟩ := h
        refine s_idxA H rfl rfl rfl arr_79 h68 h69 (lt_ rfl) fun a H => s_callV H rfl rfl (H.args (vs := [(.pointer (some ((a11.add 0).add (Int.toNat (a2) * 3))))]) rfl) (lt_ rfl) h ?_ (fun c w' h H => e_panic (P := PP) (fn := Tryz.f76) H h)
        clear H h a
        rintro _ w70 a ⟨rfl, h⟩ H
        refine c_nil <| hK67 _ _ <| c_reg <| s_move H rfl rfl (lt_ rfl) fun a H => s_nil H rfl rfl (lt_ rfl) fun a H => s_fld H rfl rfl fld_81_2 (lt_ rfl) fun a H => ?_
        obtain ⟨l71, hc72, h⟩ := h
        refine s_load (v := (.i l71)) H rfl rfl one_3 hc72 (lt_ rfl) fun a H => s_bin H rfl rfl rfl r_add (lt_ rfl) fun a H => s_nil H rfl rfl (lt_ rfl) fun a H => s_fld H rfl rfl fld_81_2 (lt_ rfl) fun a H => ?_
        obtain ⟨h74, h75, h⟩ := h
        refine s_sto (p := a11.add 7) (v := (.i (wr .i64 (l71 + 1)))) H rfl rfl rfl rfl one_3 rfl h74 h75 ?_
        clear H
        intro H
        generalize hww73 : World.setCell w70 (a11.add 7) (.i (wr .i64 (l71 + 1))) = w73 at h ⊢
        have w73S : SetAt w70 (a11.add 7) (.i (wr .i64 (l71 + 1))) w73 := ⟨hww73.symm⟩
        clear hww73 h74 h75
        refine c_nil ?_
        exact h55 _ _ h (H.weaken ⟨rfl, trivial⟩)
       ·replace h := h.2 h66
        refine c_skip ?_
        exact h55 _ _ h (H.weaken ⟨rfl, trivial⟩)

theorem sim_disk_appending (d1 : Slc) (w : World) (Q : Ending → World → Prop) (h : vc_disk_appending d1 w Q) : Calls PP F_disk_appending #[d1.v] w Q := by
 unfold vc_disk_appending at h
 refine enter (n := 7) Tryz.func77 rfl rfl (Nat.le_of_ble_eq_true rfl) fun a H => c_seq fun K2 hK2 => c_reg <| s_assign H rfl rfl (lt_ rfl) fun a H => c_nil <| hK2 _ _ <| c_seq fun K3 hK3 => c_reg <| s_move H rfl rfl (lt_ rfl) fun a H => s_call H rfl body_47 (H.args (vs := [d1.v]) rfl) (lt_ rfl) h ?_ (fun c w' h H => e_panic (P := PP) (fn := Tryz.f77) H h)
 clear H h a
 rintro _ w4 a ⟨C5, rfl, h⟩ H
 replace h := h.get
 obtain ⟨b6, w7, n8, h⟩ := h
 refine s_alloc H rfl zero_51 (lt_ rfl) ?_
 rw [← n8.at_]
 clear H a
 intro a H
 refine n8.go ?_
 obtain ⟨h10, h11, h⟩ := h
 refine s_sto (p := blk b6) (v := C5.v) H rfl rfl rfl rfl one_51 rfl h10 h11 ?_
 clear H
 intro H
 generalize hww9 : World.setCell w7 (blk b6) C5.v = w9 at h ⊢
 have w9S : SetAt w7 (blk b6) C5.v w9 := ⟨hww9.symm⟩
 clear hww9 h10 h11
 refine c_nil <| hK3 _ _ <| c_seq fun K12 hK12 => c_reg <| s_mkf H rfl (H.args (vs := [(.pointer (some (blk b6)))]) rfl) (lt_ rfl) fun a H => s_assign H rfl rfl (lt_ rfl) fun a H => c_nil <| hK12 _ _ <| c_ret ?_
 exact e_ret1 H rfl rfl h

theorem sim_disk_syncing (s1 : Option Addr) (w : World) (Q : Ending → World → Prop) (h : vc_disk_syncing s1 w Q) : Calls PP F_disk_syncing #[(.pointer s1)] w Q := by
 unfold vc_disk_syncing at h
 refine enter (n := 13) Tryz.func78 rfl rfl (Nat.le_of_ble_eq_true rfl) fun a H => c_seq fun K2 hK2 => c_reg <| s_move H rfl rfl (lt_ rfl) fun a H => s_move H rfl rfl (lt_ rfl) fun a H => ?_
 obtain ⟨a3, h18, h⟩ := h
 revert H
 subst h18
 intro H
 refine s_nil H rfl rfl (lt_ rfl) fun a H => s_fld H rfl rfl fld_78_1 (lt_ rfl) fun a H => ?_
 obtain ⟨l4, hc5, h⟩ := h
 refine s_load (v := l4.v) H rfl rfl one_51 hc5 (lt_ rfl) fun a H => s_call H rfl body_47 (H.args (vs := [l4.v]) rfl) (lt_ rfl) h ?_ (fun c w' h H => e_panic (P := PP) (fn := Tryz.f78) H h)
 clear H h a
 rintro _ w6 a ⟨C7, rfl, h⟩ H
 refine s_nil H rfl rfl (lt_ rfl) fun a H => s_fld H rfl rfl fld_78_0 (lt_ rfl) fun a H => ?_
 obtain ⟨h9, h10, h⟩ := h
 refine s_sto (p := a3.add 0) (v := C7.v) H rfl rfl rfl rfl one_51 rfl h9 h10 ?_
 clear H
 intro H
 generalize hww8 : World.setCell w6 (a3.add 0) C7.v = w8 at h ⊢
 have w8S : SetAt w6 (a3.add 0) C7.v w8 := ⟨hww8.symm⟩
 clear hww8 h9 h10
 refine c_nil <| hK2 _ _ <| c_reg <| s_move H rfl rfl (lt_ rfl) fun a H => s_nil H rfl rfl (lt_ rfl) fun a H => s_fld H rfl rfl fld_78_2 (lt_ rfl) fun a H => ?_
 obtain ⟨h12, h13, h⟩ := h
 refine s_sto (p := a3.add 2) (v := Slc.nil.v) H rfl rfl rfl rfl one_76 rfl h12 h13 ?_
 clear H
 intro H
 generalize hww11 : World.setCell w8 (a3.add 2) Slc.nil.v = w11 at h ⊢
 have w11S : SetAt w8 (a3.add 2) Slc.nil.v w11 := ⟨hww11.symm⟩
 clear hww11 h12 h13
 refine c_nil ?_
 exact e_ret0 H rfl h

theorem sim_record_mayHead (N1 K2 D3 S4 : Int) (w : World) (Q : Ending → World → Prop) (h : vc_record_mayHead N1 K2 D3 S4 w Q) : Calls PP F_record_mayHead #[(.agg #[(.i N1), (.i K2), (.i D3), (.i S4)])] w Q := by
 unfold vc_record_mayHead at h
 refine enter (n := 21) Tryz.func95 rfl rfl (Nat.le_of_ble_eq_true rfl) fun a H => c_seq fun K5 hK5 => c_reg ?_
 replace h := h.get
 obtain ⟨b6, w7, n8, h⟩ := h
 refine s_box H rfl rfl (lt_ rfl) ?_
 rw [← n8.at_]
 clear H a
 intro a H
 refine n8.go <| s_assign H rfl rfl (lt_ rfl) fun a H => c_nil <| hK5 _ _ <| c_seq fun K9 hK9 => c_seq fun K10 hK10 => c_reg <| s_fld H rfl rfl fld_28_0 (lt_ rfl) fun a H => s_loadN (l := [(.i N1), (.i K2), (.i D3)]) H rfl rfl agg_26 rfl ⟨(n8.cell (i := 0) rfl), (n8.cell (i := 1) rfl), (n8.cell (i := 2) rfl), trivial⟩ (lt_ rfl) fun a H => ?_
 refine s_call H rfl body_135 (H.args (vs := [(.agg #[(.i N1), (.i K2), (.i D3)])]) rfl) (lt_ rfl) h ?_ (fun c w' h H => e_panic (P := PP) (fn := Tryz.f95) H h)
 clear H h a
 rintro _ w11 a ⟨C12, rfl, h⟩ H
 refine s_assign H rfl rfl (lt_ rfl) fun a H => c_nil <| hK10 _ _ <| c_seq fun K13 hK13 => c_reg <| s_move H rfl rfl (lt_ rfl) fun a H => s_bin H rfl rfl rfl r_neq (lt_ rfl) fun a H => c_nil <| hK13 _ _ <| c_cond H rfl (fun h14 => ?_) (fun h14 => ?_)
 ·replace h := h.1 h14
  refine c_seq fun K15 hK15 => c_reg <| s_move H rfl rfl (lt_ rfl) fun a H => s_assign H rfl rfl (lt_ rfl) fun a H => c_nil <| hK15 _ _ <| c_ret ?_
  exact e_ret1 H rfl rfl h
 ·replace h := h.2 h14
  refine c_skip <| hK9 _ _ <| c_seq fun K16 hK16 => c_seq fun K17 hK17 => c_reg <| s_fld H rfl rfl fld_28_1 (lt_ rfl) fun a H => ?_
  obtain ⟨l18, hc19, h⟩ := h
  refine s_load (v := (.i l18)) H rfl rfl one_3 hc19 (lt_ rfl) fun a H => s_bin H rfl rfl rfl r_lss (lt_ rfl) fun a H => s_move H rfl rfl (lt_ rfl) fun a H => ?_
  obtain ⟨x26, h27, h28, h⟩ := h
  refine g_join (n := 21) [(20, (.bool x26))] (.succ (.succ (.succ (.succ (.succ (.succ (.succ (.zero _)))))))) ?_ ?_
  ·intro h21
   try clear h
   rcases Bool.eq_false_or_eq_true (decide (l18 < 0)) with h20 | h20
   ·replace H := H.ch (t := 13) (b := true) rfl h20
    iterate 6 refine s_skip H (wantN H rfl rfl rfl) rfl (lt_ rfl) fun a H => ?_
    refine s_pickT H rfl rfl rfl (lt_ rfl) fun a H => ?_
    replace h := h28 h20
    subst h
    exact h21 _ (H.weaken ⟨rfl, trivial⟩)
   ·replace H := H.ch (t := 13) (b := false) rfl h20
    replace h := h27 h20
    refine s_fld H (wantG H rfl rfl) rfl fld_28_1 (lt_ rfl) fun a H => ?_
    obtain ⟨l22, hc23, h⟩ := h
    refine s_load (v := (.i l22)) H (wantG H rfl rfl) rfl one_3 hc23 (lt_ rfl) fun a H => s_fld H (wantG H rfl rfl) rfl fld_28_0 (lt_ rfl) fun a H => s_fld H (wantG H rfl rfl) rfl fld_26_0 (lt_ rfl) fun a H => ?_
    obtain ⟨l24, hc25, h⟩ := h
    refine s_load (v := (.i l24)) H (wantG H rfl rfl) rfl one_3 hc25 (lt_ rfl) fun a H => s_bin H (wantG H rfl rfl) rfl rfl r_geq (lt_ rfl) fun a H => s_pickF H rfl rfl rfl (lt_ rfl) fun a H => ?_
    subst h
    exact h21 _ (H.weaken ⟨rfl, trivial⟩)
  ·clear H a
   clear h27 h28
   intro a H
   refine c_nil <| hK17 _ _ <| c_cond H rfl (fun h29 => ?_) (fun h29 => ?_)
   ·replace h := h.1 h29
    refine c_seq fun K30 hK30 => c_reg <| s_assign H rfl rfl (lt_ rfl) fun a H => c_nil <| hK30 _ _ <| c_ret ?_
    exact e_ret1 H rfl rfl h
   ·replace h := h.2 h29
    refine c_skip <| hK16 _ _ <| c_seq fun K31 hK31 => c_reg <| s_assign H rfl rfl (lt_ rfl) fun a H => c_nil <| hK31 _ _ <| c_ret ?_
    exact e_ret1 H rfl rfl h

theorem sim_record_headOf (N1 K2 D3 S4 : Int) (w : World) (Q : Ending → World → Prop) (h : vc_record_headOf N1 K2 D3 S4 w Q) : Calls PP F_record_headOf #[(.agg #[(.i N1), (.i K2), (.i D3), (.i S4)])] w Q := by
 unfold vc_record_headOf at h
 refine enter (n := 40) Tryz.func96 rfl rfl (Nat.le_of_ble_eq_true rfl) fun a H => c_seq fun K5 hK5 => c_reg ?_
 replace h := h.get
 obtain ⟨b6, w7, n8, h⟩ := h
 refine s_box H rfl rfl (lt_ rfl) ?_
 rw [← n8.at_]
 clear H a
 intro a H
 refine n8.go <| s_assign H rfl rfl (lt_ rfl) fun a H => c_nil <| hK5 _ _ <| c_seq fun K9 hK9 => c_reg <| s_call H rfl body_68 (H.args (vs := []) rfl) (lt_ rfl) h ?_ (fun c w' h H => e_panic (P := PP) (fn := Tryz.f96) H h)
 clear H h a
 rintro _ w10 a ⟨N11, rfl, h⟩ H
 refine s_assign H rfl rfl (lt_ rfl) fun a H => c_nil <| hK9 _ _ <| c_seq fun K12 hK12 => c_reg <| s_move H rfl rfl (lt_ rfl) fun a H => s_call H rfl body_69 (H.args (vs := [(.pointer N11), (.int .u8 72)]) rfl) (lt_ rfl) h ?_ (fun c w' h H => e_panic (P := PP) (fn := Tryz.f96) H h)
 clear H h a
 rintro _ w13 a ⟨rfl, h⟩ H
 refine c_nil <| hK12 _ _ <| c_seq fun K14 hK14 => c_seq fun K15 hK15 => c_reg <| s_fld H rfl rfl fld_28_0 (lt_ rfl) fun a H => s_fld H rfl rfl fld_26_0 (lt_ rfl) fun a H => ?_
 obtain ⟨l16, hc17, h⟩ := h
 refine s_load (v := (.i l16)) H rfl rfl one_3 hc17 (lt_ rfl) fun a H => s_fld H rfl rfl fld_28_0 (lt_ rfl) fun a H => s_fld H rfl rfl fld_26_1 (lt_ rfl) fun a H => ?_
 obtain ⟨l18, hc19, h⟩ := h
 refine s_load (v := (.i l18)) H rfl rfl one_3 hc19 (lt_ rfl) fun a H => s_fld H rfl rfl fld_28_0 (lt_ rfl) fun a H => s_fld H rfl rfl fld_26_2 (lt_ rfl) fun a H => ?_
 obtain ⟨l20, hc21, h⟩ := h
 refine s_load (v := (.i l20)) H rfl rfl one_3 hc21 (lt_ rfl) fun a H => s_fld H rfl rfl fld_28_1 (lt_ rfl) fun a H => ?_
 obtain ⟨l22, hc23, h⟩ := h
 refine s_load (v := (.i l22)) H rfl rfl one_3 hc23 (lt_ rfl) fun a H => ?_
 replace h := h.get
 obtain ⟨b24, w25, n26, h⟩ := h
 refine s_bslc H rfl (by rw [H.parts (vs := [(0, (.i l16)), (1, (.i l18)), (2, (.i l20)), (3, (.i l22))]) rfl]; exact bs_24_4_ii640_ii641_ii642_ii643 w13 l16 l18 l20 l22) (lt_ rfl) ?_
 rw [← n26.at_]
 clear H a
 intro a H
 refine n26.go <| s_blt H rfl (H.args (vs := [(Slc.v (Slc.mk (some (blk b24)) 4 4))]) rfl) (lt_ rfl) (fun cs => b_lenS (z := Slc.mk (some (blk b24)) 4 4) sl_24) fun a H => s_move H rfl rfl (lt_ rfl) fun a H => c_nil <| hK15 _ _ <| c_block ?_
 obtain ⟨I29, m30, h79, h80⟩ := h
 refine c_loop (σ := Int) (fun z w => I29 z w) (fun z w => m30 z w) (fun z => [(3, (.pointer N11)), (21, (Slc.v (Slc.mk (some (blk b24)) 4 4))), (22, (.i ((Slc.mk (some (blk b24)) 4 4).l : Int))), (23, (.i z))]) 0 h79 (H.weaken ⟨rfl, rfl, rfl, rfl, trivial⟩) ?_
 clear H h79
 rintro s27 a w28 h H
 replace h := h80 s27 w28 h
 clear h80
 replace H : Has 40 [] a [(3, (.pointer N11)), (21, (Slc.v (Slc.mk (some (blk b24)) 4 4))), (22, (.i ((Slc.mk (some (blk b24)) 4 4).l : Int))), (23, (.i s27))] := H
 refine c_seq fun K31 hK31 => c_reg <| s_bin H rfl rfl rfl r_lss (lt_ rfl) fun a H => c_nil <| hK31 _ _ <| c_seq fun K32 hK32 => c_cond H rfl (fun h33 => ?_) (fun h33 => ?_)
 ·replace h := h.1 h33
  refine c_skip <| hK32 _ _ <| c_seq fun K34 hK34 => c_block <| c_seq fun K35 hK35 => c_reg ?_
  obtain ⟨a36, h37, h38, h39, h⟩ := h
  refine s_idxS (s := Slc.mk (some (blk b24)) 4 4) H rfl rfl rfl slc_24 h37 h38 h39 (lt_ rfl) fun a H => ?_
  obtain ⟨l40, hc41, h⟩ := h
  refine s_load (v := (.i l40)) H rfl rfl one_3 hc41 (lt_ rfl) fun a H => s_assign H rfl rfl (lt_ rfl) fun a H => c_nil <| hK35 _ _ <| c_reg <| s_move H rfl rfl (lt_ rfl) fun a H => s_move H rfl rfl (lt_ rfl) fun a H => s_call H rfl body_111 (H.args (vs := [(.pointer N11), (.i l40)]) rfl) (lt_ rfl) h ?_ (fun c w' h H => e_panic (P := PP) (fn := Tryz.f96) H h)
  clear H h a
  rintro _ w42 a ⟨rfl, h⟩ H
  refine c_nil <| hK34 _ _ <| c_reg <| s_bin H rfl rfl rfl r_add (lt_ rfl) fun a H => s_move H rfl rfl (lt_ rfl) fun a H => c_nil <| Exists.intro (wr .i64 (s27 + 1)) ⟨h.1, h.2, H.weaken ⟨rfl, rfl, rfl, rfl, trivial⟩⟩
 ·replace h := h.2 h33
  refine c_exit ?_
  first | (simp only [Exit.then, Exit.inBlock, ↓reduceIte]; fail_if_success simp only [Nat.reduceEqDiff]) | simp only [Exit.then, Exit.inBlock, ↓reduceIte, Nat.reduceEqDiff]
  refine hK14 _ _ <| c_seq fun K47 hK47 => c_reg <| s_move H rfl rfl (lt_ rfl) fun a H => s_call H rfl body_72 (H.args (vs := [(.pointer N11)]) rfl) (lt_ rfl) h ?_ (fun c w' h H => e_panic (P := PP) (fn := Tryz.f96) H h)
  clear H h a
  rintro _ w48 a ⟨D49, rfl, h⟩ H
  refine s_assign H rfl rfl (lt_ rfl) fun a H => c_nil <| hK47 _ _ <| c_seq fun K50 hK50 => c_reg <| s_move H rfl rfl (lt_ rfl) fun a H => s_move H rfl rfl (lt_ rfl) fun a H => ?_
  replace h := h.get
  obtain ⟨b51, w52, n53, h⟩ := h
  refine s_bslc H rfl (by rw [H.parts (vs := [(0, D49.v)]) rfl]; exact bs_154_1_s0 w48 D49) (lt_ rfl) ?_
  rw [← n53.at_]
  clear H a
  intro a H
  refine n53.go <| s_call H rfl body_74 (H.args (vs := [(Slc.v (Slc.mk (some (blk b51)) 1 1))]) rfl) (lt_ rfl) h ?_ (fun c w' h H => e_panic (P := PP) (fn := Tryz.f96) H h)
  clear H h a
  rintro _ w54 a ⟨O55, rfl, h⟩ H
  refine s_call H rfl body_73 (H.args (vs := [(.int .u32 O55)]) rfl) (lt_ rfl) h ?_ (fun c w' h H => e_panic (P := PP) (fn := Tryz.f96) H h)
  clear H h a
  rintro _ w56 a ⟨f57, rfl, h⟩ H
  replace h := h.get
  obtain ⟨b58, w59, n60, h⟩ := h
  refine s_bslc H rfl (by rw [H.parts (vs := [(0, D49.v), (1, f57.v)]) rfl]; exact bs_154_2_s0_s1 w56 D49 f57) (lt_ rfl) ?_
  rw [← n60.at_]
  clear H a
  intro a H
  refine n60.go <| s_call H rfl body_75 (H.args (vs := [(Slc.v (Slc.mk (some (blk b58)) 2 2))]) rfl) (lt_ rfl) h ?_ (fun c w' h H => e_panic (P := PP) (fn := Tryz.f96) H h)
  clear H h a
  rintro _ w61 a ⟨C62, rfl, h⟩ H
  refine s_assign H rfl rfl (lt_ rfl) fun a H => c_nil <| hK50 _ _ <| c_ret ?_
  exact e_ret1 H rfl rfl h

theorem sim_record_Scan_c1 (c1 c2 c3 : Addr) (w : World) (Q : Ending → World → Prop) (h : vc_record_Scan_c1 c1 c2 c3 w Q) : Calls PP F_record_Scan_c1 #[(.pointer (some c1)), (.pointer (some c2)), (.pointer (some c3))] w Q := by
 unfold vc_record_Scan_c1 at h
 refine enter (n := 8) Tryz.func98 rfl rfl (Nat.le_of_ble_eq_true rfl) fun a H => c_reg ?_
 obtain ⟨l4, hc5, h⟩ := h
 refine s_load (v := l4.v) H rfl rfl one_51 hc5 (lt_ rfl) fun a H => s_call H rfl body_99 (H.args (vs := [l4.v]) rfl) (lt_ rfl) h ?_ (fun c w' h H => e_panic (P := PP) (fn := Tryz.f98) H h)
 clear H h a
 rintro _ w6 a ⟨N7, K8, D9, S10, r11, rfl, h⟩ H
 refine s_move H rfl rfl (lt_ rfl) fun a H => s_ext H rfl rfl rfl (lt_ rfl) fun a H => s_ext H rfl rfl rfl (lt_ rfl) fun a H => s_stoN (l := [(.i N7), (.i K8), (.i D9), (.i S10)]) H rfl rfl rfl rfl agg_28 rfl rfl h ?_
 clear h H
 intro w12 h H
 obtain ⟨h14, h15, h⟩ := h
 refine s_sto (p := c3) (v := (.i r11)) H rfl rfl rfl rfl one_3 rfl h14 h15 ?_
 clear H
 intro H
 generalize hww13 : World.setCell w12 (c3) (.i r11) = w13 at h ⊢
 have w13S : SetAt w12 (c3) (.i r11) w13 := ⟨hww13.symm⟩
 clear hww13 h14 h15
 refine c_nil ?_
 exact e_ret0 H rfl h
end Go.Proofs.YtflcdgkckfcofaaGreatDoor
