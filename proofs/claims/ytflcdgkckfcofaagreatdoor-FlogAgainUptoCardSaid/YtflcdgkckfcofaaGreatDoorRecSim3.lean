/-
  The conditions give the machine's calls; printed by vcgen.py.
-/
import Derived.Test.YtflcdgkckfcofaaGreatDoorRecVc
namespace Go.Proofs.YtflcdgkckfcofaaGreatDoor
open Go Go.Vc
set_option maxRecDepth 100000
set_option maxHeartbeats 4000000
theorem sim_disk_Disk_Pending (d1 : Option Addr) (w : World) (Q : Ending → World → Prop) (h : vc_disk_Disk_Pending d1 w Q) : Calls PP F_disk_Disk_Pending #[(.pointer d1)] w Q := by
 unfold vc_disk_Disk_Pending at h
 refine enter (n := 20) Tryz.func34 rfl rfl (Nat.le_of_ble_eq_true rfl) fun a H => c_seq fun K2 hK2 => c_reg <| s_assign H rfl rfl (lt_ rfl) fun a H => c_nil <| hK2 _ _ <| c_seq fun K3 hK3 => c_seq fun K4 hK4 => c_reg <| s_move H rfl rfl (lt_ rfl) fun a H => s_bin H rfl rfl rfl (r_eqP0 ptr_33) (lt_ rfl) fun a H => c_nil <| hK4 _ _ <| c_cond H rfl (fun h5 => ?_) (fun h5 => ?_)
 ·replace h := h.1 h5
  refine c_seq fun K6 hK6 => c_reg <| s_assign H rfl rfl (lt_ rfl) fun a H => c_nil <| hK6 _ _ <| c_ret ?_
  exact e_ret1 H rfl rfl h
 ·replace h := h.2 h5
  refine c_skip <| hK3 _ _ <| c_seq fun K7 hK7 => c_regD mixed (by kernel_rfl) <| z_move H rfl rfl (lt_ rfl) fun a H => ?_
  obtain ⟨a9, h14, h⟩ := h
  revert H
  subst h14
  intro H
  refine z_nil H rfl rfl (lt_ rfl) fun a H => z_fld H rfl rfl fld_81_0 (lt_ rfl) fun a H => z_idxA (i := 0) (len := 2) (size := 3) H rfl rfl rfl arr_79 (by decide) (by decide) (lt_ rfl) fun a H => z_fld H rfl rfl fld_78_2 (lt_ rfl) fun a H => ?_
  obtain ⟨l10, hc11, h⟩ := h
  refine z_load (v := l10.v) H rfl rfl one_76 hc11 (lt_ rfl) fun a H => z_blt H rfl (H.args (vs := [l10.v]) rfl) (lt_ rfl) (fun cs w => b_lenS (z := l10) sl_76) fun a H => z_move H rfl rfl (lt_ rfl) fun a H => z_nil H rfl rfl (lt_ rfl) fun a H => z_fld H rfl rfl fld_81_0 (lt_ rfl) fun a H => z_idxA (i := 1) (len := 2) (size := 3) H rfl rfl rfl arr_79 (by decide) (by decide) (lt_ rfl) fun a H => z_fld H rfl rfl fld_78_2 (lt_ rfl) fun a H => ?_
  obtain ⟨l12, hc13, h⟩ := h
  refine z_load (v := l12.v) H rfl rfl one_76 hc13 (lt_ rfl) fun a H => z_blt H rfl (H.args (vs := [l12.v]) rfl) (lt_ rfl) (fun cs w => b_lenS (z := l12) sl_76) fun a H => z_bin H rfl rfl rfl r_add (lt_ rfl) fun a H => z_assign H rfl rfl (lt_ rfl) fun a H => wpQuiet_nil ?_
  rintro _ ⟨k8, rfl⟩
  replace h := h k8
  refine hK7 _ _ <| c_ret ?_
  exact e_ret1 H rfl rfl h

theorem sim_flog_opened (d1 : Option Addr) (N2 K3 D4 S5 : Int) (w : World) (Q : Ending → World → Prop) (h : vc_flog_opened d1 N2 K3 D4 S5 w Q) : Calls PP F_flog_opened #[(.pointer d1), (.agg #[(.i N2), (.i K3), (.i D4), (.i S5)])] w Q := by
 unfold vc_flog_opened at h
 refine enter (n := 106) Tryz.func35 rfl rfl (Nat.le_of_ble_eq_true rfl) fun a H => c_seq fun K6 hK6 => c_reg ?_
 replace h := h.get
 obtain ⟨b7, w8, n9, h⟩ := h
 refine s_box H rfl rfl (lt_ rfl) ?_
 rw [← n9.at_]
 clear H a
 intro a H
 refine n9.go ?_
 iterate 3 refine s_assign H rfl rfl (lt_ rfl) fun a H => ?_
 refine c_nil <| hK6 _ _ <| c_seq fun K10 hK10 => c_seq fun K11 hK11 => c_reg <| s_move H rfl rfl (lt_ rfl) fun a H => s_bin H rfl rfl rfl (r_eqP0 ptr_33) (lt_ rfl) fun a H => c_nil <| hK11 _ _ <| c_cond H rfl (fun h12 => ?_) (fun h12 => ?_)
 ·replace h := h.1 h12
  refine c_seq fun K13 hK13 => c_reg <| s_call H rfl body_44 (H.args (vs := [(.string (ByteArray.mk #[100, 105, 115, 107])), (.i 1)]) rfl) (lt_ rfl) h ?_ (fun c w' h H => e_panic (P := PP) (fn := Tryz.f35) H h)
  clear H h a
  rintro w15 w14 a ⟨_, rfl, h⟩ H
  iterate 3 refine s_assign H rfl rfl (lt_ rfl) fun a H => ?_
  refine c_nil <| hK13 _ _ <| c_ret ?_
  exact e_ret3 H rfl rfl rfl rfl h
 ·replace h := h.2 h12
  refine c_skip <| hK10 _ _ <| c_seq fun K20 hK20 => c_seq fun K21 hK21 => c_reg <| s_loadN (l := [(.i N2), (.i K3), (.i D4), (.i S5)]) H rfl rfl agg_28 rfl ⟨(n9.cell (i := 0) rfl), (n9.cell (i := 1) rfl), (n9.cell (i := 2) rfl), (n9.cell (i := 3) rfl), trivial⟩ (lt_ rfl) fun a H => s_call H rfl body_60 (H.args (vs := [(.agg #[(.i N2), (.i K3), (.i D4), (.i S5)])]) rfl) (lt_ rfl) h ?_ (fun c w' h H => e_panic (P := PP) (fn := Tryz.f35) H h)
  clear H h a
  rintro _ w22 a ⟨N23, N24, N25, rfl, h⟩ H
  refine s_move H rfl rfl (lt_ rfl) fun a H => ?_
  iterate 3 refine s_ext H rfl rfl rfl (lt_ rfl) fun a H => ?_
  iterate 3 refine s_assign H rfl rfl (lt_ rfl) fun a H => ?_
  refine c_nil <| hK21 _ _ <| c_seq fun K26 hK26 => c_reg <| s_move H rfl rfl (lt_ rfl) fun a H => s_bin H rfl rfl rfl r_neq (lt_ rfl) fun a H => c_nil <| hK26 _ _ <| c_cond H rfl (fun h27 => ?_) (fun h27 => ?_)
  ·replace h := h.1 h27
   refine c_seq fun K28 hK28 => c_reg <| s_move H rfl rfl (lt_ rfl) fun a H => s_call H rfl body_44 (H.args (vs := [(.string (ByteArray.mk #[104, 101, 97, 100])), (.i N25)]) rfl) (lt_ rfl) h ?_ (fun c w' h H => e_panic (P := PP) (fn := Tryz.f35) H h)
   clear H h a
   rintro w30 w29 a ⟨_, rfl, h⟩ H
   iterate 3 refine s_assign H rfl rfl (lt_ rfl) fun a H => ?_
   refine c_nil <| hK28 _ _ <| c_ret ?_
   exact e_ret3 H rfl rfl rfl rfl h
  ·replace h := h.2 h27
   refine c_skip <| hK20 _ _ <| c_seq fun K35 hK35 => ?_
   replace H := H.weaken (L' := [(0, (.pointer d1)), (3, (.pointer (some (blk b7))))]) ⟨rfl, rfl, trivial⟩
   obtain ⟨N36, hc37, K38, hc39, D40, hc41, S42, hc43, h⟩ := h
   refine c_any (V := [(0, (.pointer d1)), (1, (.agg #[(.i N36), (.i K38), (.i D40), (.i S42)])), (2, (.pointer d1))]) (⟨[[], [], [], [2], [0, 1, 3], [4], [0, 1, 2, 3, 4, 5]], [some 35, some 36, some 37, some 38, some 39, some 40, some 10], [3, 5], [0, 0, 0, 0, 1, 1, 2], [1, 1, 0, 1, 1, 2, 2]⟩ : Rg) [(0, (.pointer d1)), (3, (.pointer (some (blk b7))))] mixed (by kernel_rfl) H <| Stg.eff [0, 1, 2] (by kernel_rfl) rfl (.cons ?_ (.cons ?_ (.cons ?_ .nil))) ?_
   ·refine Ans.mk rfl rfl fun a H => s_move H rfl rfl (lt_ rfl) fun a H => ?_
    exact Ans.fin H rfl
   ·refine Ans.mk rfl rfl fun a H => s_loadN (l := [(.i N36), (.i K38), (.i D40), (.i S42)]) H rfl rfl agg_28 rfl ⟨hc37, hc39, hc41, hc43, trivial⟩ (lt_ rfl) fun a H => ?_
    exact Ans.fin H rfl
   ·refine Ans.mk rfl rfl fun a H => s_move H rfl rfl (lt_ rfl) fun a H => ?_
    exact Ans.fin H rfl
   ·intro a H
    replace H := H.weaken (L' := [(37, (.pointer d1))]) ⟨rfl, trivial⟩
    refine s_call H rfl body_16 (H.args (vs := [(.pointer d1)]) rfl) (lt_ rfl) h ?_ (fun c w' h H => e_panic (P := PP) (fn := Tryz.f35) H h)
    clear H h a
    rintro _ w44 a ⟨C45, rfl, h⟩ H
    refine c_nil ?_
    obtain ⟨hc46, hc47, hc48, hc49, h⟩ := h
    refine effQ.go [(4, (.agg #[(.pointer d1), (.i N36), (.i K38), (.i D40), (.i S42), (.i C45), (.pointer none), (.i 0), (.i 0)]))] H rfl rfl <| Stg.eff [0, 1, 4] (by kernel_rfl) rfl (.cons ?_ (.cons ?_ (.cons ?_ .nil))) ?_
    ·refine Ans.mk rfl rfl fun a H => s_move H rfl rfl (lt_ rfl) fun a H => ?_
     exact Ans.fin H rfl
    ·refine Ans.mk rfl rfl fun a H => s_loadN (l := [(.i N36), (.i K38), (.i D40), (.i S42)]) H rfl rfl agg_28 rfl ⟨hc46, hc47, hc48, hc49, trivial⟩ (lt_ rfl) fun a H => ?_
     exact Ans.fin H rfl
    ·refine Ans.mk rfl rfl fun a H => s_build H rfl (by rw [H.parts (vs := [(0, (.pointer d1)), (1, (.agg #[(.i N36), (.i K38), (.i D40), (.i S42)])), (2, (.i C45))]) rfl]; exact bd_95_p0_ii64ii64ii64ii641_ii642 w44 d1 N36 K38 D40 S42 C45) (lt_ rfl) fun a H => ?_
     exact Ans.fin H rfl
    ·intro a H
     replace H := H.weaken (L' := [(39, (.agg #[(.pointer d1), (.i N36), (.i K38), (.i D40), (.i S42), (.i C45), (.pointer none), (.i 0), (.i 0)]))]) ⟨rfl, trivial⟩
     replace h := h.get
     obtain ⟨b50, w51, n52, h⟩ := h
     refine s_box H rfl rfl (lt_ rfl) ?_
     rw [← n52.at_]
     clear H a
     intro a H
     refine n52.go <| c_nil <| effQ.go [(6, (.pointer (some (blk b50))))] H rfl rfl <| Stg.fin [6] (by kernel_rfl) (.cons ?_ .nil) ?_
     ·refine Ans.mk rfl rfl fun a H => s_assign H rfl rfl (lt_ rfl) fun a H => ?_
      exact Ans.fin H rfl
     ·intro a H
      replace H := H.weaken (L' := [(0, (.pointer d1)), (3, (.pointer (some (blk b7)))), (10, (.pointer (some (blk b50))))]) ⟨rfl, rfl, rfl, trivial⟩
      refine hK35 _ _ <| c_seq fun K53 hK53 => c_reg <| s_move H rfl rfl (lt_ rfl) fun a H => s_move H rfl rfl (lt_ rfl) fun a H => s_nil H rfl rfl (lt_ rfl) fun a H => s_fld H rfl rfl fld_95_2 (lt_ rfl) fun a H => ?_
      obtain ⟨l54, hc55, h⟩ := h
      refine s_load (v := (.i l54)) H rfl rfl one_3 hc55 (lt_ rfl) fun a H => s_call H rfl body_61 (H.args (vs := [(.pointer d1), (.i l54)]) rfl) (lt_ rfl) h ?_ (fun c w' h H => e_panic (P := PP) (fn := Tryz.f35) H h)
      clear H h a
      rintro _ w56 a ⟨R57, R58, rfl, h⟩ H
      refine s_move H rfl rfl (lt_ rfl) fun a H => s_ext H rfl rfl rfl (lt_ rfl) fun a H => s_ext H rfl rfl rfl (lt_ rfl) fun a H => s_assign H rfl rfl (lt_ rfl) fun a H => s_assign H rfl rfl (lt_ rfl) fun a H => c_nil <| hK53 _ _ <| c_seq fun K59 hK59 => c_seq fun K60 hK60 => c_reg <| s_move H rfl rfl (lt_ rfl) fun a H => s_bin H rfl rfl rfl r_neq (lt_ rfl) fun a H => c_nil <| hK60 _ _ <| c_cond H rfl (fun h61 => ?_) (fun h61 => ?_)
      ·replace h := h.1 h61
       refine c_seq fun K62 hK62 => c_reg <| s_move H rfl rfl (lt_ rfl) fun a H => s_call H rfl body_44 (H.args (vs := [(.string (ByteArray.mk #[114, 101, 97, 100])), (.i R58)]) rfl) (lt_ rfl) h ?_ (fun c w' h H => e_panic (P := PP) (fn := Tryz.f35) H h)
       clear H h a
       rintro w64 w63 a ⟨_, rfl, h⟩ H
       iterate 3 refine s_assign H rfl rfl (lt_ rfl) fun a H => ?_
       refine c_nil <| hK62 _ _ <| c_ret ?_
       exact e_ret3 H rfl rfl rfl rfl h
      ·replace h := h.2 h61
       refine c_skip <| hK59 _ _ <| c_seq fun K69 hK69 => c_reg <| s_move H rfl rfl (lt_ rfl) fun a H => s_call H rfl body_62 (H.args (vs := [R57.v]) rfl) (lt_ rfl) h ?_ (fun c w' h H => e_panic (P := PP) (fn := Tryz.f35) H h)
       clear H h a
       rintro _ w70 a ⟨N71, K72, D73, S74, S75, S76, S77, S78, S79, rfl, h⟩ H
       refine s_move H rfl rfl (lt_ rfl) fun a H => ?_
       iterate 6 refine s_ext H rfl rfl rfl (lt_ rfl) fun a H => ?_
       replace h := h.get
       obtain ⟨b80, w81, n82, h⟩ := h
       refine s_alloc H rfl zero_28 (lt_ rfl) ?_
       rw [← n82.at_]
       clear H a
       intro a H
       refine n82.go <| s_stoN (l := [(.i N71), (.i K72), (.i D73), (.i S74)]) H rfl rfl rfl rfl agg_28 rfl rfl h ?_
       clear h H
       intro w83 h H
       iterate 5 refine s_assign H rfl rfl (lt_ rfl) fun a H => ?_
       refine c_nil <| hK69 _ _ <| c_seq fun K84 hK84 => c_seq fun K85 hK85 => c_reg <| s_move H rfl rfl (lt_ rfl) fun a H => s_bin H rfl rfl rfl r_eql (lt_ rfl) fun a H => s_move H rfl rfl (lt_ rfl) fun a H => ?_
       obtain ⟨x104, h105, h106, h⟩ := h
       refine g_join (n := 106) [(69, (.bool x104)), (3, (.pointer (some (blk b7)))), (10, (.pointer (some (blk b50)))), (11, R57.v), (14, S75.v), (16, (.i S77)), (17, (.pointer S78)), (18, (.i S79))] (.succ (.succ (.succ (.succ (.zero _))))) ?_ ?_
       ·intro h87
        try clear h
        rcases Bool.eq_false_or_eq_true (decide (S79 = 0)) with h86 | h86
        ·replace H := H.ch (t := 65) (b := true) rfl h86
         replace h := h105 h86
         obtain ⟨N88, hc89, K90, hc91, D92, hc93, S94, hc95, h⟩ := h
         refine s_loadN (l := [(.i N88), (.i K90), (.i D92), (.i S94)]) H (wantG H rfl rfl) rfl agg_28 rfl ⟨hc89, hc91, hc93, hc95, trivial⟩ (lt_ rfl) fun a H => ?_
         obtain ⟨N96, hc97, K98, hc99, D100, hc101, S102, hc103, h⟩ := h
         refine s_loadN (l := [(.i N96), (.i K98), (.i D100), (.i S102)]) H (wantG H rfl rfl) rfl agg_28 rfl ⟨hc97, hc99, hc101, hc103, trivial⟩ (lt_ rfl) fun a H => s_bin H (wantG H rfl rfl) rfl rfl (r_nest eqg_28 (eqst_28 0) rfl) (lt_ rfl) fun a H => s_pickT H rfl rfl rfl (lt_ rfl) fun a H => ?_
         subst h
         exact h87 _ (H.weaken ⟨rfl, rfl, rfl, rfl, rfl, rfl, rfl, rfl, trivial⟩)
        ·replace H := H.ch (t := 65) (b := false) rfl h86
         iterate 3 refine s_skip H (wantN H rfl rfl rfl) rfl (lt_ rfl) fun a H => ?_
         refine s_pickF H rfl rfl rfl (lt_ rfl) fun a H => ?_
         replace h := h106 h86
         subst h
         exact h87 _ (H.weaken ⟨rfl, rfl, rfl, rfl, rfl, rfl, rfl, rfl, trivial⟩)
       ·clear H a
        clear h105 h106
        intro a H
        refine c_nil <| hK85 _ _ <| c_cond H rfl (fun h107 => ?_) (fun h107 => ?_)
        ·replace h := h.1 h107
         refine c_seq fun K108 hK108 => c_reg <| s_call H rfl body_44 (H.args (vs := [(.string (ByteArray.mk #[104, 101, 97, 100])), (.i 62)]) rfl) (lt_ rfl) h ?_ (fun c w' h H => e_panic (P := PP) (fn := Tryz.f35) H h)
         clear H h a
         rintro w110 w109 a ⟨_, rfl, h⟩ H
         iterate 3 refine s_assign H rfl rfl (lt_ rfl) fun a H => ?_
         refine c_nil <| hK108 _ _ <| c_ret ?_
         exact e_ret3 H rfl rfl rfl rfl h
        ·replace h := h.2 h107
         refine c_skip <| hK84 _ _ <| c_seq fun K115 hK115 => c_seq fun K116 hK116 => c_reg <| s_move H rfl rfl (lt_ rfl) fun a H => s_bin H rfl rfl rfl r_eql (lt_ rfl) fun a H => s_move H rfl rfl (lt_ rfl) fun a H => g_join (n := 106) [(76, (.bool ((decide (S79 = 0)) && (decide (S77 = 0))))), (3, (.pointer (some (blk b7)))), (10, (.pointer (some (blk b50)))), (11, R57.v), (14, S75.v), (17, (.pointer S78))] (.succ (.succ (.succ (.zero _)))) ?_ ?_
         ·intro h118
          try clear h
          rcases Bool.eq_false_or_eq_true (decide (S79 = 0)) with h117 | h117
          ·replace H := H.ch (t := 73) (b := true) rfl h117
           refine s_move H (wantG H rfl rfl) rfl (lt_ rfl) fun a H => s_bin H (wantG H rfl rfl) rfl rfl r_eql (lt_ rfl) fun a H => s_pickT H rfl rfl rfl (lt_ rfl) fun a H => ?_
           exact h118 _ (H.weaken ⟨by rw [h117]; rfl, rfl, rfl, rfl, rfl, rfl, trivial⟩)
          ·replace H := H.ch (t := 73) (b := false) rfl h117
           refine s_skip H (wantN H rfl rfl rfl) rfl (lt_ rfl) fun a H => s_skip H (wantN H rfl rfl rfl) rfl (lt_ rfl) fun a H => s_pickF H rfl rfl rfl (lt_ rfl) fun a H => ?_
           exact h118 _ (H.weaken ⟨by rw [h117]; rfl, rfl, rfl, rfl, rfl, rfl, trivial⟩)
         ·clear H a
          intro a H
          refine c_nil <| hK116 _ _ <| c_cond H rfl (fun h119 => ?_) (fun h119 => ?_)
          ·replace h := h.1 h119
           refine c_seq fun K120 hK120 => c_reg ?_
           iterate 4 refine s_move H rfl rfl (lt_ rfl) fun a H => ?_
           refine s_blt H rfl (H.args (vs := [R57.v]) rfl) (lt_ rfl) (fun cs => b_lenS (z := R57) sl_51) fun a H => s_nil H rfl rfl (lt_ rfl) fun a H => s_fld H rfl rfl fld_95_3 (lt_ rfl) fun a H => ?_
           obtain ⟨h122, h123, h⟩ := h
           refine s_sto (p := (blk b50).add 6) (v := (.pointer S78)) H rfl rfl rfl rfl one_93 rfl h122 h123 ?_
           clear H
           intro H
           generalize hww121 : World.setCell w83 ((blk b50).add 6) (.pointer S78) = w121 at h ⊢
           have w121S : SetAt w83 ((blk b50).add 6) (.pointer S78) w121 := ⟨hww121.symm⟩
           clear hww121 h122 h123
           refine s_nil H rfl rfl (lt_ rfl) fun a H => s_fld H rfl rfl fld_95_4 (lt_ rfl) fun a H => ?_
           obtain ⟨h125, h126, h⟩ := h
           refine s_sto (p := (blk b50).add 7) (v := (.i (R57.l : Int))) H rfl rfl rfl rfl one_3 rfl h125 h126 ?_
           clear H
           intro H
           generalize hww124 : World.setCell w121 ((blk b50).add 7) (.i (R57.l : Int)) = w124 at h ⊢
           have w124S : SetAt w121 ((blk b50).add 7) (.i (R57.l : Int)) w124 := ⟨hww124.symm⟩
           clear hww124 h125 h126
           refine c_nil <| hK120 _ _ <| c_seq fun K127 hK127 => c_reg <| s_move H rfl rfl (lt_ rfl) fun a H => s_move H rfl rfl (lt_ rfl) fun a H => ?_
           iterate 3 refine s_assign H rfl rfl (lt_ rfl) fun a H => ?_
           refine c_nil <| hK127 _ _ <| c_ret ?_
           exact e_ret3 H rfl rfl rfl rfl h
          ·replace h := h.2 h119
           refine c_skip <| hK115 _ _ <| c_seq fun K128 hK128 => c_reg ?_
           obtain ⟨N129, hc130, K131, hc132, D133, hc134, S135, hc136, h⟩ := h
           refine s_loadN (l := [(.i N129), (.i K131), (.i D133), (.i S135)]) H rfl rfl agg_28 rfl ⟨hc130, hc132, hc134, hc136, trivial⟩ (lt_ rfl) fun a H => s_move H rfl rfl (lt_ rfl) fun a H => s_call H rfl body_38 (H.args (vs := [(.agg #[(.i N129), (.i K131), (.i D133), (.i S135)]), S75.v]) rfl) (lt_ rfl) h ?_ (fun c w' h H => e_panic (P := PP) (fn := Tryz.f35) H h)
           clear H h a
           rintro _ w137 a ⟨m138, m139, m140, rfl, h⟩ H
           refine s_move H rfl rfl (lt_ rfl) fun a H => ?_
           iterate 3 refine s_ext H rfl rfl rfl (lt_ rfl) fun a H => ?_
           iterate 3 refine s_assign H rfl rfl (lt_ rfl) fun a H => ?_
           refine c_nil <| hK128 _ _ <| c_seq fun K141 hK141 => ?_
           obtain ⟨R143, h, h163⟩ := h
           have h152 : ∀ (a : Act) (e142 : Value) (w144 : World), R143 e142 w144 → Has 106 [] a [(10, (.pointer (some (blk b50)))), (14, S75.v), (21, e142)] → K141 a w144 := by
            clear h
            intro a e142 w144 h H
            replace h := h163 e142 w144 h
            refine hK141 _ _ <| c_seq fun K145 hK145 => c_seq fun K146 hK146 => c_reg <| s_move H rfl rfl (lt_ rfl) fun a H => ?_
            obtain ⟨n148, h147, h⟩ := h
            refine s_bin H rfl rfl rfl (r_neN ifc_83 h147) (lt_ rfl) fun a H => c_nil <| hK146 _ _ <| c_cond H rfl (fun h149 => ?_) (fun h149 => ?_)
            ·replace h := h.1 h149
             refine c_seq fun K150 hK150 => c_reg <| s_move H rfl rfl (lt_ rfl) fun a H => ?_
             iterate 3 refine s_assign H rfl rfl (lt_ rfl) fun a H => ?_
             refine c_nil <| hK150 _ _ <| c_ret ?_
             exact e_ret3 H rfl rfl rfl rfl h
            ·replace h := h.2 h149
             refine c_skip <| hK145 _ _ <| c_seq fun K151 hK151 => c_reg <| s_move H rfl rfl (lt_ rfl) fun a H => s_move H rfl rfl (lt_ rfl) fun a H => ?_
             iterate 3 refine s_assign H rfl rfl (lt_ rfl) fun a H => ?_
             refine c_nil <| hK151 _ _ <| c_ret ?_
             exact e_ret3 H rfl rfl rfl rfl h
           clear h163
           refine c_seq fun K153 hK153 => c_reg <| s_move H rfl rfl (lt_ rfl) fun a H => ?_
           obtain ⟨n155, h154, h⟩ := h
           refine s_bin H rfl rfl rfl (r_eqN ifc_83 h154) (lt_ rfl) fun a H => c_nil <| hK153 _ _ <| c_cond H rfl (fun h156 => ?_) (fun h156 => ?_)
           ·replace h := h.1 h156
            refine c_reg ?_
            iterate 3 refine s_move H rfl rfl (lt_ rfl) fun a H => ?_
            refine s_call H rfl body_39 (H.args (vs := [(.pointer (some (blk b50))), m138.v, (.pointer m139)]) rfl) (lt_ rfl) h ?_ (fun c w' h H => e_panic (P := PP) (fn := Tryz.f35) H h)
            clear H h a
            rintro a158 w157 a ⟨_, rfl, h⟩ H
            refine s_assign H rfl rfl (lt_ rfl) fun a H => c_nil ?_
            exact h152 _ _ _ h (H.weaken ⟨rfl, rfl, rfl, trivial⟩)
           ·replace h := h.2 h156
            refine c_skip ?_
            exact h152 _ _ _ h (H.weaken ⟨rfl, rfl, rfl, trivial⟩)

theorem sim_flog_number (e1 : Value) (w : World) (Q : Ending → World → Prop) (h : vc_flog_number e1 w Q) : Calls PP F_flog_number #[e1] w Q := by
 unfold vc_flog_number at h
 refine enter (n := 8) Tryz.func36 rfl rfl (Nat.le_of_ble_eq_true rfl) fun a H => c_seq fun K2 hK2 => c_reg <| s_assign H rfl rfl (lt_ rfl) fun a H => c_nil <| hK2 _ _ <| c_seq fun K3 hK3 => c_reg ?_
 replace h := h.get
 obtain ⟨b4, w5, n6, h⟩ := h
 refine s_alloc H rfl zero_40 (lt_ rfl) ?_
 rw [← n6.at_]
 clear H a
 intro a H
 refine n6.go <| c_nil <| hK3 _ _ <| c_seq fun K7 hK7 => c_seq fun K8 hK8 => c_reg <| s_move H rfl rfl (lt_ rfl) fun a H => s_iface H rfl rfl ni_131 (lt_ rfl) fun a H => s_call H rfl body_63 (H.args (vs := [e1, (.iface 131 (.pointer (some (blk b4))))]) rfl) (lt_ rfl) h ?_ (fun c w' h H => e_panic (P := PP) (fn := Tryz.f36) H h)
 clear H h a
 rintro _ w9 a ⟨A10, rfl, h⟩ H
 refine c_nil <| hK8 _ _ <| c_cond H rfl (fun h11 => ?_) (fun h11 => ?_)
 ·replace h := h.1 h11
  refine c_seq fun K12 hK12 => c_reg ?_
  obtain ⟨l13, hc14, h⟩ := h
  refine s_load (v := (.i l13)) H rfl rfl one_40 hc14 (lt_ rfl) fun a H => s_assign H rfl rfl (lt_ rfl) fun a H => c_nil <| hK12 _ _ <| c_ret ?_
  exact e_ret1 H rfl rfl h
 ·replace h := h.2 h11
  refine c_skip <| hK7 _ _ <| c_seq fun K15 hK15 => c_reg <| s_assign H rfl rfl (lt_ rfl) fun a H => c_nil <| hK15 _ _ <| c_ret ?_
  exact e_ret1 H rfl rfl h

theorem sim_disk_Disk_gone (d1 : Option Addr) (w : World) (Q : Ending → World → Prop) (h : vc_disk_Disk_gone d1 w Q) : Calls PP F_disk_Disk_gone #[(.pointer d1)] w Q := by
 unfold vc_disk_Disk_gone at h
 refine enter (n := 11) Tryz.func37 rfl rfl (Nat.le_of_ble_eq_true rfl) fun a H => c_seq fun K2 hK2 => c_reg <| s_assign H rfl rfl (lt_ rfl) fun a H => c_nil <| hK2 _ _ <| c_seq fun K3 hK3 => c_reg <| s_move H rfl rfl (lt_ rfl) fun a H => s_bin H rfl rfl rfl (r_eqP0 ptr_33) (lt_ rfl) fun a H => s_move H rfl rfl (lt_ rfl) fun a H => ?_
 obtain ⟨x10, h11, h12, h⟩ := h
 refine g_join (n := 11) [(10, (.bool x10))] (.succ (.succ (.succ (.succ (.succ (.zero _)))))) ?_ ?_
 ·intro h5
  try clear h
  rcases Bool.eq_false_or_eq_true d1.isNone with h4 | h4
  ·replace H := H.ch (t := 5) (b := true) rfl h4
   iterate 4 refine s_skip H (wantN H rfl rfl rfl) rfl (lt_ rfl) fun a H => ?_
   refine s_pickT H rfl rfl rfl (lt_ rfl) fun a H => ?_
   replace h := h12 h4
   subst h
   exact h5 _ (H.weaken ⟨rfl, trivial⟩)
  ·replace H := H.ch (t := 5) (b := false) rfl h4
   replace h := h11 h4
   refine s_move H (wantG H rfl rfl) rfl (lt_ rfl) fun a H => ?_
   obtain ⟨a6, h9, h⟩ := h
   revert H
   subst h9
   intro H
   refine s_nil H (wantG H rfl rfl) rfl (lt_ rfl) fun a H => s_fld H (wantG H rfl rfl) rfl fld_81_5 (lt_ rfl) fun a H => ?_
   obtain ⟨l7, hc8, h⟩ := h
   refine s_load (v := (.bool l7)) H (wantG H rfl rfl) rfl one_4 hc8 (lt_ rfl) fun a H => s_pickF H rfl rfl rfl (lt_ rfl) fun a H => ?_
   subst h
   exact h5 _ (H.weaken ⟨rfl, trivial⟩)
 ·clear H a
  clear h11 h12
  intro a H
  refine s_assign H rfl rfl (lt_ rfl) fun a H => c_nil <| hK3 _ _ <| c_ret ?_
  exact e_ret1 H rfl rfl h

theorem sim_flog_made (N1 K2 D3 S4 : Int) (u5 : Slc) (w : World) (Q : Ending → World → Prop) (h : vc_flog_made N1 K2 D3 S4 u5 w Q) : Calls PP F_flog_made #[(.agg #[(.i N1), (.i K2), (.i D3), (.i S4)]), u5.v] w Q := by
 unfold vc_flog_made at h
 refine enter (n := 46) Tryz.func38 rfl rfl (Nat.le_of_ble_eq_true rfl) fun a H => c_seq fun K6 hK6 => c_reg ?_
 replace h := h.get
 obtain ⟨b7, w8, n9, h⟩ := h
 refine s_box H rfl rfl (lt_ rfl) ?_
 rw [← n9.at_]
 clear H a
 intro a H
 refine n9.go ?_
 iterate 3 refine s_assign H rfl rfl (lt_ rfl) fun a H => ?_
 refine c_nil <| hK6 _ _ <| c_seq fun K10 hK10 => c_reg <| s_loadN (l := [(.i N1), (.i K2), (.i D3), (.i S4)]) H rfl rfl agg_28 rfl ⟨(n9.cell (i := 0) rfl), (n9.cell (i := 1) rfl), (n9.cell (i := 2) rfl), (n9.cell (i := 3) rfl), trivial⟩ (lt_ rfl) fun a H => s_call H rfl body_60 (H.args (vs := [(.agg #[(.i N1), (.i K2), (.i D3), (.i S4)])]) rfl) (lt_ rfl) h ?_ (fun c w' h H => e_panic (P := PP) (fn := Tryz.f38) H h)
 clear H h a
 rintro _ w11 a ⟨N12, N13, N14, rfl, h⟩ H
 refine s_move H rfl rfl (lt_ rfl) fun a H => ?_
 iterate 3 refine s_ext H rfl rfl rfl (lt_ rfl) fun a H => ?_
 iterate 3 refine s_assign H rfl rfl (lt_ rfl) fun a H => ?_
 refine c_nil <| hK10 _ _ <| c_seq fun K15 hK15 => c_seq fun K16 hK16 => c_reg <| s_move H rfl rfl (lt_ rfl) fun a H => s_bin H rfl rfl rfl r_neq (lt_ rfl) fun a H => c_nil <| hK16 _ _ <| c_cond H rfl (fun h17 => ?_) (fun h17 => ?_)
 ·replace h := h.1 h17
  refine c_seq fun K18 hK18 => c_reg <| s_move H rfl rfl (lt_ rfl) fun a H => s_call H rfl body_44 (H.args (vs := [(.string (ByteArray.mk #[104, 101, 97, 100])), (.i N14)]) rfl) (lt_ rfl) h ?_ (fun c w' h H => e_panic (P := PP) (fn := Tryz.f38) H h)
  clear H h a
  rintro w20 w19 a ⟨_, rfl, h⟩ H
  iterate 3 refine s_assign H rfl rfl (lt_ rfl) fun a H => ?_
  refine c_nil <| hK18 _ _ <| c_ret ?_
  exact e_ret3 H rfl rfl rfl rfl h
 ·replace h := h.2 h17
  refine c_skip <| hK15 _ _ <| c_seq fun K25 hK25 => c_seq fun K26 hK26 => c_reg <| s_move H rfl rfl (lt_ rfl) fun a H => s_blt H rfl (H.args (vs := [u5.v]) rfl) (lt_ rfl) (fun cs => b_lenS (z := u5) sl_23) fun a H => s_move H rfl rfl (lt_ rfl) fun a H => c_nil <| hK26 _ _ <| c_block ?_
  obtain ⟨I30, m31, h95, h96⟩ := h
  refine c_loop (σ := Slc × Int) (fun z w => I30 z.1 z.2 w) (fun z w => m31 z.1 z.2 w) (fun z => [(7, (.pointer N12)), (8, z.1.v), (24, u5.v), (25, (.i (u5.l : Int))), (26, (.i z.2))]) (N13, 0) h95 (H.weaken ⟨rfl, rfl, rfl, rfl, rfl, trivial⟩) ?_
  clear H h95
  rintro ⟨d27, s28⟩ a w29 h H
  replace h := h96 d27 s28 w29 h
  clear h96
  replace H : Has 46 [] a [(7, (.pointer N12)), (8, d27.v), (24, u5.v), (25, (.i (u5.l : Int))), (26, (.i s28))] := H
  refine c_seq fun K32 hK32 => c_reg <| s_bin H rfl rfl rfl r_lss (lt_ rfl) fun a H => c_nil <| hK32 _ _ <| c_seq fun K33 hK33 => c_cond H rfl (fun h34 => ?_) (fun h34 => ?_)
  ·replace h := h.1 h34
   refine c_skip <| hK33 _ _ <| c_seq fun K35 hK35 => c_block <| c_seq fun K36 hK36 => c_reg ?_
   obtain ⟨a37, h38, h39, h40, h⟩ := h
   refine s_idxS (s := u5) H rfl rfl rfl slc_23 h38 h39 h40 (lt_ rfl) fun a H => ?_
   obtain ⟨K41, hc42, K43, hc44, C45, hc46, C47, hc48, F49, hc50, H51, hc52, D53, hc54, h⟩ := h
   refine s_loadN (l := [(.i K41), (.string K43), (.i C45), (.i C47), (.bool F49), (.bool H51), D53.v]) H rfl rfl agg_92 rfl ⟨hc42, hc44, hc46, hc48, hc50, hc52, hc54, trivial⟩ (lt_ rfl) fun a H => ?_
   replace h := h.get
   obtain ⟨b55, w56, n57, h⟩ := h
   refine s_alloc H rfl zero_92 (lt_ rfl) ?_
   rw [← n57.at_]
   clear H a
   intro a H
   refine n57.go <| s_stoN (l := [(.i K41), (.string K43), (.i C45), (.i C47), (.bool F49), (.bool H51), D53.v]) H rfl rfl rfl rfl agg_92 rfl rfl h ?_
   clear h H
   intro w58 h H
   refine c_nil <| hK36 _ _ <| c_seq fun K59 hK59 => c_reg <| s_move H rfl rfl (lt_ rfl) fun a H => ?_
   obtain ⟨K60, hc61, K62, hc63, C64, hc65, C66, hc67, F68, hc69, H70, hc71, D72, hc73, h⟩ := h
   refine s_loadN (l := [(.i K60), (.string K62), (.i C64), (.i C66), (.bool F68), (.bool H70), D72.v]) H rfl rfl agg_92 rfl ⟨hc61, hc63, hc65, hc67, hc69, hc71, hc73, trivial⟩ (lt_ rfl) fun a H => s_call H rfl body_43 (H.args (vs := [(.pointer N12), (.agg #[(.i K60), (.string K62), (.i C64), (.i C66), (.bool F68), (.bool H70), D72.v])]) rfl) (lt_ rfl) h ?_ (fun c w' h H => e_panic (P := PP) (fn := Tryz.f38) H h)
   clear H h a
   rintro _ w74 a ⟨P75, P76, rfl, h⟩ H
   refine s_move H rfl rfl (lt_ rfl) fun a H => s_ext H rfl rfl rfl (lt_ rfl) fun a H => s_ext H rfl rfl rfl (lt_ rfl) fun a H => s_assign H rfl rfl (lt_ rfl) fun a H => s_assign H rfl rfl (lt_ rfl) fun a H => c_nil <| hK59 _ _ <| c_seq fun K77 hK77 => c_seq fun K78 hK78 => c_reg <| s_move H rfl rfl (lt_ rfl) fun a H => s_bin H rfl rfl rfl r_neq (lt_ rfl) fun a H => c_nil <| hK78 _ _ <| c_cond H rfl (fun h79 => ?_) (fun h79 => ?_)
   ·replace h := h.1 h79
    refine c_seq fun K80 hK80 => c_reg <| s_move H rfl rfl (lt_ rfl) fun a H => s_call H rfl body_44 (H.args (vs := [(.string (ByteArray.mk #[117, 112, 100, 97, 116, 101])), (.i P76)]) rfl) (lt_ rfl) h ?_ (fun c w' h H => e_panic (P := PP) (fn := Tryz.f38) H h)
    clear H h a
    rintro w82 w81 a ⟨_, rfl, h⟩ H
    iterate 3 refine s_assign H rfl rfl (lt_ rfl) fun a H => ?_
    refine c_nil <| hK80 _ _ <| c_ret ?_
    exact e_ret3 H rfl rfl rfl rfl h
   ·replace h := h.2 h79
    refine c_skip <| hK77 _ _ <| c_reg <| s_move H rfl rfl (lt_ rfl) fun a H => s_move H rfl rfl (lt_ rfl) fun a H => ?_
    obtain ⟨s87, w88, h89, h⟩ := h
    refine s_blt H rfl (H.args (vs := [d27.v, P75.v]) rfl) (lt_ rfl) (fun cs => b_app (z := s87) h89) ?_
    clear H a h89
    intro a H
    refine s_assign H rfl rfl (lt_ rfl) fun a H => c_nil <| hK35 _ _ <| c_reg <| s_bin H rfl rfl rfl r_add (lt_ rfl) fun a H => s_move H rfl rfl (lt_ rfl) fun a H => c_nil <| Exists.intro (s87, wr .i64 (s28 + 1)) ⟨h.1, h.2, H.weaken ⟨rfl, rfl, rfl, rfl, rfl, trivial⟩⟩
  ·replace h := h.2 h34
   refine c_exit ?_
   first | (simp only [Exit.then, Exit.inBlock, ↓reduceIte]; fail_if_success simp only [Nat.reduceEqDiff]) | simp only [Exit.then, Exit.inBlock, ↓reduceIte, Nat.reduceEqDiff]
   refine hK25 _ _ <| c_seq fun K94 hK94 => c_reg <| s_move H rfl rfl (lt_ rfl) fun a H => s_move H rfl rfl (lt_ rfl) fun a H => ?_
   iterate 3 refine s_assign H rfl rfl (lt_ rfl) fun a H => ?_
   refine c_nil <| hK94 _ _ <| c_ret ?_
   exact e_ret3 H rfl rfl rfl rfl h

theorem sim_flog_Log_failed (l1 : Option Addr) (e2 : Value) (w : World) (Q : Ending → World → Prop) (h : vc_flog_Log_failed l1 e2 w Q) : Calls PP F_flog_Log_failed #[(.pointer l1), e2] w Q := by
 unfold vc_flog_Log_failed at h
 refine enter (n := 14) Tryz.func40 rfl rfl (Nat.le_of_ble_eq_true rfl) fun a H => c_seq fun K3 hK3 => c_reg <| s_assign H rfl rfl (lt_ rfl) fun a H => c_nil <| hK3 _ _ <| c_seq fun K4 hK4 => c_reg <| s_move H rfl rfl (lt_ rfl) fun a H => s_move H rfl rfl (lt_ rfl) fun a H => s_call H rfl body_36 (H.args (vs := [e2]) rfl) (lt_ rfl) h ?_ (fun c w' h H => e_panic (P := PP) (fn := Tryz.f40) H h)
 clear H h a
 rintro _ w5 a ⟨n6, rfl, h⟩ H
 obtain ⟨a7, h14, h⟩ := h
 revert H
 subst h14
 intro H
 refine s_nil H rfl rfl (lt_ rfl) fun a H => s_fld H rfl rfl fld_95_5 (lt_ rfl) fun a H => ?_
 obtain ⟨h9, h10, h⟩ := h
 refine s_sto (p := a7.add 8) (v := (.i n6)) H rfl rfl rfl rfl one_40 rfl h9 h10 ?_
 clear H
 intro H
 generalize hww8 : World.setCell w5 (a7.add 8) (.i n6) = w8 at h ⊢
 have w8S : SetAt w5 (a7.add 8) (.i n6) w8 := ⟨hww8.symm⟩
 clear hww8 h9 h10
 refine c_nil <| hK4 _ _ <| c_seq fun K11 hK11 => c_reg <| s_move H rfl rfl (lt_ rfl) fun a H => s_nil H rfl rfl (lt_ rfl) fun a H => s_fld H rfl rfl fld_95_5 (lt_ rfl) fun a H => ?_
 obtain ⟨l12, hc13, h⟩ := h
 refine s_load (v := (.i l12)) H rfl rfl one_40 hc13 (lt_ rfl) fun a H => s_assign H rfl rfl (lt_ rfl) fun a H => c_nil <| hK11 _ _ <| c_ret ?_
 exact e_ret1 H rfl rfl h

theorem sim_record_Writer_Count (w1 : Option Addr) (w : World) (Q : Ending → World → Prop) (h : vc_record_Writer_Count w1 w Q) : Calls PP F_record_Writer_Count #[(.pointer w1)] w Q := by
 unfold vc_record_Writer_Count at h
 refine enter (n := 9) Tryz.func41 rfl rfl (Nat.le_of_ble_eq_true rfl) fun a H => c_seq fun K2 hK2 => c_reg <| s_assign H rfl rfl (lt_ rfl) fun a H => c_nil <| hK2 _ _ <| c_seq fun K3 hK3 => c_seq fun K4 hK4 => c_reg <| s_move H rfl rfl (lt_ rfl) fun a H => s_bin H rfl rfl rfl (r_eqP0 ptr_93) (lt_ rfl) fun a H => c_nil <| hK4 _ _ <| c_cond H rfl (fun h5 => ?_) (fun h5 => ?_)
 ·replace h := h.1 h5
  refine c_seq fun K6 hK6 => c_reg <| s_assign H rfl rfl (lt_ rfl) fun a H => c_nil <| hK6 _ _ <| c_ret ?_
  exact e_ret1 H rfl rfl h
 ·replace h := h.2 h5
  refine c_skip <| hK3 _ _ <| c_seq fun K7 hK7 => c_reg <| s_move H rfl rfl (lt_ rfl) fun a H => ?_
  obtain ⟨a8, h11, h⟩ := h
  revert H
  subst h11
  intro H
  refine s_nil H rfl rfl (lt_ rfl) fun a H => s_fld H rfl rfl fld_101_1 (lt_ rfl) fun a H => ?_
  obtain ⟨l9, hc10, h⟩ := h
  refine s_load (v := (.i l9)) H rfl rfl one_3 hc10 (lt_ rfl) fun a H => s_assign H rfl rfl (lt_ rfl) fun a H => c_nil <| hK7 _ _ <| c_ret ?_
  exact e_ret1 H rfl rfl h

theorem sim_flog_refused (K1 : Int) (K2 : ByteArray) (C3 C4 : Int) (F5 H6 : Bool) (D7 : Slc) (w : World) (Q : Ending → World → Prop) (h : vc_flog_refused K1 K2 C3 C4 F5 H6 D7 w Q) : Calls PP F_flog_refused #[(.agg #[(.i K1), (.string K2), (.i C3), (.i C4), (.bool F5), (.bool H6), D7.v])] w Q := by
 unfold vc_flog_refused at h
 refine enter (n := 22) Tryz.func42 rfl rfl (Nat.le_of_ble_eq_true rfl) fun a H => c_seq fun K8 hK8 => c_reg ?_
 replace h := h.get
 obtain ⟨b9, w10, n11, h⟩ := h
 refine s_box H rfl rfl (lt_ rfl) ?_
 rw [← n11.at_]
 clear H a
 intro a H
 refine n11.go <| s_assign H rfl rfl (lt_ rfl) fun a H => c_nil <| hK8 _ _ <| c_seq fun K12 hK12 => c_reg <| s_build H rfl (by rw [H.parts (vs := [(0, (.i 1)), (1, (.i 1))]) rfl]; exact bd_26_ii640_ii641 w10 1 1) (lt_ rfl) fun a H => s_build H rfl (by rw [H.parts (vs := [(0, (.agg #[(.i 1), (.i 1), (.i 0)]))]) rfl]; exact bd_28_ii64ii64ii640 w10 1 1 0) (lt_ rfl) fun a H => ?_
 refine s_call H rfl body_60 (H.args (vs := [(.agg #[(.i 1), (.i 1), (.i 0), (.i 0)])]) rfl) (lt_ rfl) h ?_ (fun c w' h H => e_panic (P := PP) (fn := Tryz.f42) H h)
 clear H h a
 rintro _ w13 a ⟨N14, N15, N16, rfl, h⟩ H
 refine s_move H rfl rfl (lt_ rfl) fun a H => ?_
 iterate 3 refine s_ext H rfl rfl rfl (lt_ rfl) fun a H => ?_
 iterate 3 refine s_assign H rfl rfl (lt_ rfl) fun a H => ?_
 refine c_nil <| hK12 _ _ <| c_seq fun K17 hK17 => c_reg <| s_move H rfl rfl (lt_ rfl) fun a H => ?_
 obtain ⟨K18, hc19, K20, hc21, C22, hc23, C24, hc25, F26, hc27, H28, hc29, D30, hc31, h⟩ := h
 refine s_loadN (l := [(.i K18), (.string K20), (.i C22), (.i C24), (.bool F26), (.bool H28), D30.v]) H rfl rfl agg_92 rfl ⟨hc19, hc21, hc23, hc25, hc27, hc29, hc31, trivial⟩ (lt_ rfl) fun a H => s_call H rfl body_43 (H.args (vs := [(.pointer N14), (.agg #[(.i K18), (.string K20), (.i C22), (.i C24), (.bool F26), (.bool H28), D30.v])]) rfl) (lt_ rfl) h ?_ (fun c w' h H => e_panic (P := PP) (fn := Tryz.f42) H h)
 clear H h a
 rintro _ w32 a ⟨P33, P34, rfl, h⟩ H
 refine s_move H rfl rfl (lt_ rfl) fun a H => s_ext H rfl rfl rfl (lt_ rfl) fun a H => s_ext H rfl rfl rfl (lt_ rfl) fun a H => s_assign H rfl rfl (lt_ rfl) fun a H => s_assign H rfl rfl (lt_ rfl) fun a H => c_nil <| hK17 _ _ <| c_seq fun K35 hK35 => c_reg <| s_move H rfl rfl (lt_ rfl) fun a H => s_assign H rfl rfl (lt_ rfl) fun a H => c_nil <| hK35 _ _ <| c_ret ?_
 exact e_ret1 H rfl rfl h

theorem sim_record_Writer_Put (w1 : Option Addr) (K2 : Int) (K3 : ByteArray) (C4 C5 : Int) (F6 H7 : Bool) (D8 : Slc) (w : World) (Q : Ending → World → Prop) (h : vc_record_Writer_Put w1 K2 K3 C4 C5 F6 H7 D8 w Q) : Calls PP F_record_Writer_Put #[(.pointer w1), (.agg #[(.i K2), (.string K3), (.i C4), (.i C5), (.bool F6), (.bool H7), D8.v])] w Q := by
 unfold vc_record_Writer_Put at h
 refine enter (n := 50) Tryz.func43 rfl rfl (Nat.le_of_ble_eq_true rfl) fun a H => c_seq fun K9 hK9 => c_reg ?_
 replace h := h.get
 obtain ⟨b10, w11, n12, h⟩ := h
 refine s_box H rfl rfl (lt_ rfl) ?_
 rw [← n12.at_]
 clear H a
 intro a H
 refine n12.go <| s_assign H rfl rfl (lt_ rfl) fun a H => s_assign H rfl rfl (lt_ rfl) fun a H => c_nil <| hK9 _ _ <| c_seq fun K13 hK13 => c_seq fun K14 hK14 => c_reg <| s_move H rfl rfl (lt_ rfl) fun a H => s_bin H rfl rfl rfl (r_eqP0 ptr_93) (lt_ rfl) fun a H => c_nil <| hK14 _ _ <| c_cond H rfl (fun h15 => ?_) (fun h15 => ?_)
 ·replace h := h.1 h15
  refine c_seq fun K16 hK16 => c_reg <| s_assign H rfl rfl (lt_ rfl) fun a H => s_assign H rfl rfl (lt_ rfl) fun a H => c_nil <| hK16 _ _ <| c_ret ?_
  exact e_ret2 H rfl rfl rfl h
 ·replace h := h.2 h15
  refine c_skip <| hK13 _ _ <| c_seq fun K17 hK17 => c_seq fun K18 hK18 => c_reg <| s_loadN (l := [(.i K2), (.string K3), (.i C4), (.i C5), (.bool F6), (.bool H7), D8.v]) H rfl rfl agg_92 rfl ⟨(n12.cell (i := 0) rfl), (n12.cell (i := 1) rfl), (n12.cell (i := 2) rfl), (n12.cell (i := 3) rfl), (n12.cell (i := 4) rfl), (n12.cell (i := 5) rfl), (n12.cell (i := 6) rfl), trivial⟩ (lt_ rfl) fun a H => ?_
  refine s_call H rfl body_67 (H.args (vs := [(.agg #[(.i K2), (.string K3), (.i C4), (.i C5), (.bool F6), (.bool H7), D8.v])]) rfl) (lt_ rfl) h ?_ (fun c w' h H => e_panic (P := PP) (fn := Tryz.f43) H h)
  clear H h a
  rintro _ w19 a ⟨m20, rfl, h⟩ H
  refine s_assign H rfl rfl (lt_ rfl) fun a H => c_nil <| hK18 _ _ <| c_seq fun K21 hK21 => c_reg <| s_move H rfl rfl (lt_ rfl) fun a H => s_bin H rfl rfl rfl r_neq (lt_ rfl) fun a H => c_nil <| hK21 _ _ <| c_cond H rfl (fun h22 => ?_) (fun h22 => ?_)
  ·replace h := h.1 h22
   refine c_seq fun K23 hK23 => c_reg <| s_move H rfl rfl (lt_ rfl) fun a H => s_assign H rfl rfl (lt_ rfl) fun a H => s_assign H rfl rfl (lt_ rfl) fun a H => c_nil <| hK23 _ _ <| c_ret ?_
   exact e_ret2 H rfl rfl rfl h
  ·replace h := h.2 h22
   refine c_skip <| hK17 _ _ <| c_seq fun K24 hK24 => c_reg <| s_call H rfl body_68 (H.args (vs := []) rfl) (lt_ rfl) h ?_ (fun c w' h H => e_panic (P := PP) (fn := Tryz.f43) H h)
   clear H h a
   rintro _ w25 a ⟨N26, rfl, h⟩ H
   refine s_assign H rfl rfl (lt_ rfl) fun a H => c_nil <| hK24 _ _ <| c_seq fun K27 hK27 => c_reg <| s_move H rfl rfl (lt_ rfl) fun a H => s_call H rfl body_69 (H.args (vs := [(.pointer N26), (.int .u8 82)]) rfl) (lt_ rfl) h ?_ (fun c w' h H => e_panic (P := PP) (fn := Tryz.f43) H h)
   clear H h a
   rintro _ w28 a ⟨rfl, h⟩ H
   refine c_nil <| hK27 _ _ <| c_seq fun K29 hK29 => c_reg <| s_move H rfl rfl (lt_ rfl) fun a H => ?_
   obtain ⟨K30, hc31, K32, hc33, C34, hc35, C36, hc37, F38, hc39, H40, hc41, D42, hc43, h⟩ := h
   refine s_loadN (l := [(.i K30), (.string K32), (.i C34), (.i C36), (.bool F38), (.bool H40), D42.v]) H rfl rfl agg_92 rfl ⟨hc31, hc33, hc35, hc37, hc39, hc41, hc43, trivial⟩ (lt_ rfl) fun a H => s_call H rfl body_71 (H.args (vs := [(.agg #[(.i K30), (.string K32), (.i C34), (.i C36), (.bool F38), (.bool H40), D42.v])]) rfl) (lt_ rfl) h ?_ (fun c w' h H => e_panic (P := PP) (fn := Tryz.f43) H h)
   clear H h a
   rintro _ w44 a ⟨b45, rfl, h⟩ H
   refine s_call H rfl body_70 (H.args (vs := [(.pointer N26), b45.v]) rfl) (lt_ rfl) h ?_ (fun c w' h H => e_panic (P := PP) (fn := Tryz.f43) H h)
   clear H h a
   rintro _ w46 a ⟨rfl, h⟩ H
   refine c_nil <| hK29 _ _ <| c_seq fun K47 hK47 => c_reg <| s_move H rfl rfl (lt_ rfl) fun a H => s_call H rfl body_72 (H.args (vs := [(.pointer N26)]) rfl) (lt_ rfl) h ?_ (fun c w' h H => e_panic (P := PP) (fn := Tryz.f43) H h)
   clear H h a
   rintro _ w48 a ⟨D49, rfl, h⟩ H
   refine s_assign H rfl rfl (lt_ rfl) fun a H => c_nil <| hK47 _ _ <| c_seq fun K50 hK50 => c_reg <| s_move H rfl rfl (lt_ rfl) fun a H => s_move H rfl rfl (lt_ rfl) fun a H => ?_
   obtain ⟨a51, h90, h⟩ := h
   revert H
   subst h90
   intro H
   refine s_nil H rfl rfl (lt_ rfl) fun a H => s_fld H rfl rfl fld_101_0 (lt_ rfl) fun a H => ?_
   obtain ⟨l52, hc53, h⟩ := h
   refine s_load (v := l52.v) H rfl rfl one_51 hc53 (lt_ rfl) fun a H => s_move H rfl rfl (lt_ rfl) fun a H => ?_
   replace h := h.get
   obtain ⟨b54, w55, n56, h⟩ := h
   refine s_bslc H rfl (by rw [H.parts (vs := [(0, l52.v), (1, D49.v)]) rfl]; exact bs_154_2_s0_s1 w48 l52 D49) (lt_ rfl) ?_
   rw [← n56.at_]
   clear H a
   intro a H
   refine n56.go <| s_call H rfl body_74 (H.args (vs := [(Slc.v (Slc.mk (some (blk b54)) 2 2))]) rfl) (lt_ rfl) h ?_ (fun c w' h H => e_panic (P := PP) (fn := Tryz.f43) H h)
   clear H h a
   rintro _ w57 a ⟨O58, rfl, h⟩ H
   refine s_call H rfl body_73 (H.args (vs := [(.int .u32 O58)]) rfl) (lt_ rfl) h ?_ (fun c w' h H => e_panic (P := PP) (fn := Tryz.f43) H h)
   clear H h a
   rintro _ w59 a ⟨f60, rfl, h⟩ H
   refine s_nil H rfl rfl (lt_ rfl) fun a H => s_fld H rfl rfl fld_101_0 (lt_ rfl) fun a H => ?_
   obtain ⟨h62, h63, h⟩ := h
   refine s_sto (p := a51.add 0) (v := f60.v) H rfl rfl rfl rfl one_51 rfl h62 h63 ?_
   clear H
   intro H
   generalize hww61 : World.setCell w59 (a51.add 0) f60.v = w61 at h ⊢
   have w61S : SetAt w59 (a51.add 0) f60.v w61 := ⟨hww61.symm⟩
   clear hww61 h62 h63
   refine c_nil <| hK50 _ _ <| c_seq fun K64 hK64 => c_reg <| s_move H rfl rfl (lt_ rfl) fun a H => s_nil H rfl rfl (lt_ rfl) fun a H => s_fld H rfl rfl fld_101_1 (lt_ rfl) fun a H => ?_
   obtain ⟨l65, hc66, h⟩ := h
   refine s_load (v := (.i l65)) H rfl rfl one_3 hc66 (lt_ rfl) fun a H => s_bin H rfl rfl rfl r_add (lt_ rfl) fun a H => s_nil H rfl rfl (lt_ rfl) fun a H => s_fld H rfl rfl fld_101_1 (lt_ rfl) fun a H => ?_
   obtain ⟨h68, h69, h⟩ := h
   refine s_sto (p := a51.add 1) (v := (.i (wr .i64 (l65 + 1)))) H rfl rfl rfl rfl one_3 rfl h68 h69 ?_
   clear H
   intro H
   generalize hww67 : World.setCell w61 (a51.add 1) (.i (wr .i64 (l65 + 1))) = w67 at h ⊢
   have w67S : SetAt w61 (a51.add 1) (.i (wr .i64 (l65 + 1))) w67 := ⟨hww67.symm⟩
   clear hww67 h68 h69
   refine c_nil <| hK64 _ _ <| c_seq fun K70 hK70 => c_reg <| s_move H rfl rfl (lt_ rfl) fun a H => s_move H rfl rfl (lt_ rfl) fun a H => s_nil H rfl rfl (lt_ rfl) fun a H => s_fld H rfl rfl fld_101_0 (lt_ rfl) fun a H => ?_
   obtain ⟨l71, hc72, h⟩ := h
   refine s_load (v := l71.v) H rfl rfl one_51 hc72 (lt_ rfl) fun a H => ?_
   replace h := h.get
   obtain ⟨b73, w74, n75, h⟩ := h
   refine s_bslc H rfl (by rw [H.parts (vs := [(0, D49.v), (1, l71.v)]) rfl]; exact bs_154_2_s0_s1 w67 D49 l71) (lt_ rfl) ?_
   rw [← n75.at_]
   clear H a
   intro a H
   refine n75.go <| s_call H rfl body_75 (H.args (vs := [(Slc.v (Slc.mk (some (blk b73)) 2 2))]) rfl) (lt_ rfl) h ?_ (fun c w' h H => e_panic (P := PP) (fn := Tryz.f43) H h)
   clear H h a
   rintro _ w76 a ⟨C77, rfl, h⟩ H
   refine s_assign H rfl rfl (lt_ rfl) fun a H => s_assign H rfl rfl (lt_ rfl) fun a H => c_nil <| hK70 _ _ <| c_ret ?_
   exact e_ret2 H rfl rfl rfl h

theorem sim_flog_where (p1 : ByteArray) (e2 : Int) (w : World) (Q : Ending → World → Prop) (h : vc_flog_where p1 e2 w Q) : Calls PP F_flog_where #[(.string p1), (.i e2)] w Q := by
 unfold vc_flog_where at h
 refine enter (n := 12) Tryz.func44 rfl rfl (Nat.le_of_ble_eq_true rfl) fun a H => c_seq fun K3 hK3 => c_reg <| s_assign H rfl rfl (lt_ rfl) fun a H => c_nil <| hK3 _ _ <| c_seq fun K4 hK4 => c_seq fun K5 hK5 => c_reg <| s_move H rfl rfl (lt_ rfl) fun a H => s_bin H rfl rfl rfl r_eql (lt_ rfl) fun a H => c_nil <| hK5 _ _ <| c_cond H rfl (fun h6 => ?_) (fun h6 => ?_)
 ·replace h := h.1 h6
  refine c_seq fun K7 hK7 => c_reg <| s_assign H rfl rfl (lt_ rfl) fun a H => c_nil <| hK7 _ _ <| c_ret ?_
  exact e_ret1 H rfl rfl h
 ·replace h := h.2 h6
  refine c_skip <| hK4 _ _ <| c_seq fun K8 hK8 => c_reg <| s_move H rfl rfl (lt_ rfl) fun a H => s_move H rfl rfl (lt_ rfl) fun a H => s_build H rfl (by rw [H.parts (vs := [(0, (.string p1)), (1, (.i e2))]) rfl]; exact bd_144_s0_ii641 w p1 e2) (lt_ rfl) fun a H => ?_
  replace h := h.get
  obtain ⟨b9, w10, n11, h⟩ := h
  refine s_box H rfl rfl (lt_ rfl) ?_
  rw [← n11.at_]
  clear H a
  intro a H
  refine n11.go <| s_iface H rfl rfl ni_142 (lt_ rfl) fun a H => s_assign H rfl rfl (lt_ rfl) fun a H => c_nil <| hK8 _ _ <| c_ret ?_
  exact e_ret1 H rfl rfl h

theorem sim_disk_Disk_Append (d1 : Option Addr) (s2 : Int) (d3 : Slc) (w : World) (Q : Ending → World → Prop) (h : vc_disk_Disk_Append d1 s2 d3 w Q) : Calls PP F_disk_Disk_Append #[(.pointer d1), (.i s2), d3.v] w Q := by
 unfold vc_disk_Disk_Append at h
 refine enter (n := 12) Tryz.func45 rfl rfl (Nat.le_of_ble_eq_true rfl) fun a H => c_seq fun K4 hK4 => c_reg <| s_assign H rfl rfl (lt_ rfl) fun a H => c_nil <| hK4 _ _ <| c_seq fun K5 hK5 => c_reg ?_
 iterate 3 refine s_move H rfl rfl (lt_ rfl) fun a H => ?_
 refine s_call H rfl body_77 (H.args (vs := [d3.v]) rfl) (lt_ rfl) h ?_ (fun c w' h H => e_panic (P := PP) (fn := Tryz.f45) H h)
 clear H h a
 rintro a7 w6 a ⟨_, rfl, h⟩ H
 refine s_call H rfl body_76 (H.args (vs := [(.pointer d1), (.i s2), (.bool false), a7]) rfl) (lt_ rfl) h ?_ (fun c w' h H => e_panic (P := PP) (fn := Tryz.f45) H h)
 clear H h a
 rintro _ w8 a ⟨a9, rfl, h⟩ H
 refine s_assign H rfl rfl (lt_ rfl) fun a H => c_nil <| hK5 _ _ <| c_ret ?_
 exact e_ret1 H rfl rfl h

theorem sim_disk_Disk_Sync (d1 : Option Addr) (s2 : Int) (w : World) (Q : Ending → World → Prop) (h : vc_disk_Disk_Sync d1 s2 w Q) : Calls PP F_disk_Disk_Sync #[(.pointer d1), (.i s2)] w Q := by
 unfold vc_disk_Disk_Sync at h
 refine enter (n := 8) Tryz.func46 rfl rfl (Nat.le_of_ble_eq_true rfl) fun a H => c_seq fun K3 hK3 => c_reg <| s_assign H rfl rfl (lt_ rfl) fun a H => c_nil <| hK3 _ _ <| c_seq fun K4 hK4 => c_reg <| s_move H rfl rfl (lt_ rfl) fun a H => s_move H rfl rfl (lt_ rfl) fun a H => s_call H rfl body_76 (H.args (vs := [(.pointer d1), (.i s2), (.bool false), (.func (.func 78) #[] #[])]) rfl) (lt_ rfl) h ?_ (fun c w' h H => e_panic (P := PP) (fn := Tryz.f46) H h)
 clear H h a
 rintro _ w5 a ⟨a6, rfl, h⟩ H
 refine s_assign H rfl rfl (lt_ rfl) fun a H => c_nil <| hK4 _ _ <| c_ret ?_
 exact e_ret1 H rfl rfl h

theorem sim_slices_Clone (s1 : Slc) (w : World) (Q : Ending → World → Prop) (h : vc_slices_Clone s1 w Q) : Calls PP F_slices_Clone #[s1.v] w Q := by
 unfold vc_slices_Clone at h
 refine enter (n := 8) Tryz.func47 rfl rfl (Nat.le_of_ble_eq_true rfl) fun a H => c_seq fun K2 hK2 => c_reg <| s_assign H rfl rfl (lt_ rfl) fun a H => c_nil <| hK2 _ _ <| c_seq fun K3 hK3 => c_seq fun K4 hK4 => c_reg <| s_move H rfl rfl (lt_ rfl) fun a H => s_bin H rfl rfl rfl (r_eqS0 (z := s1) sl_51) (lt_ rfl) fun a H => c_nil <| hK4 _ _ <| c_cond H rfl (fun h5 => ?_) (fun h5 => ?_)
 ·replace h := h.1 h5
  refine c_seq fun K6 hK6 => c_reg <| s_assign H rfl rfl (lt_ rfl) fun a H => c_nil <| hK6 _ _ <| c_ret ?_
  exact e_ret1 H rfl rfl h
 ·replace h := h.2 h5
  refine c_skip <| hK3 _ _ <| c_seq fun K7 hK7 => c_reg ?_
  replace h := h.get
  obtain ⟨b8, w9, n10, h⟩ := h
  refine s_bslc H rfl (by rw [H.parts (vs := []) rfl]; exact bs_51_0 w) (lt_ rfl) ?_
  rw [← n10.at_]
  clear H a
  intro a H
  refine n10.go <| s_move H rfl rfl (lt_ rfl) fun a H => ?_
  obtain ⟨s11, w12, h13, h⟩ := h
  refine s_blt H rfl (H.args (vs := [(Slc.v (Slc.mk (some (blk b8)) 0 0)), s1.v]) rfl) (lt_ rfl) (fun cs => b_app (z := s11) h13) ?_
  clear H a h13
  intro a H
  refine s_assign H rfl rfl (lt_ rfl) fun a H => c_nil <| hK7 _ _ <| c_ret ?_
  exact e_ret1 H rfl rfl h

theorem sim_disk_Disk_Crash_c1 (n1 : Int) (c2 : Addr) (w : World) (Q : Ending → World → Prop) (h : vc_disk_Disk_Crash_c1 n1 c2 w Q) : Calls PP F_disk_Disk_Crash_c1 #[(.i n1), (.pointer (some c2))] w Q := by
 unfold vc_disk_Disk_Crash_c1 at h
 refine enter (n := 20) Tryz.func48 rfl rfl (Nat.le_of_ble_eq_true rfl) fun a H => c_seq fun K3 hK3 => c_reg <| s_assign H rfl rfl (lt_ rfl) fun a H => c_nil <| hK3 _ _ <| c_seq fun K4 hK4 => c_seq fun K5 hK5 => c_reg ?_
 obtain ⟨l6, hc7, h⟩ := h
 refine s_load (v := l6.v) H rfl rfl one_24 hc7 (lt_ rfl) fun a H => s_blt H rfl (H.args (vs := [l6.v]) rfl) (lt_ rfl) (fun cs => b_lenS (z := l6) sl_24) fun a H => s_bin H rfl rfl rfl r_eql (lt_ rfl) fun a H => c_nil <| hK5 _ _ <| c_cond H rfl (fun h8 => ?_) (fun h8 => ?_)
 ·replace h := h.1 h8
  refine c_seq fun K9 hK9 => c_reg <| s_assign H rfl rfl (lt_ rfl) fun a H => c_nil <| hK9 _ _ <| c_ret ?_
  exact e_ret1 H rfl rfl h
 ·replace h := h.2 h8
  refine c_skip <| hK4 _ _ <| c_seq fun K10 hK10 => c_reg ?_
  obtain ⟨l11, hc12, h⟩ := h
  refine s_load (v := l11.v) H rfl rfl one_24 hc12 (lt_ rfl) fun a H => ?_
  obtain ⟨a13, h14, h15, h16, h⟩ := h
  refine s_idxS (s := l11) H rfl rfl rfl slc_24 h14 h15 h16 (lt_ rfl) fun a H => ?_
  obtain ⟨l17, hc18, h⟩ := h
  refine s_load (v := (.i l17)) H rfl rfl one_3 hc18 (lt_ rfl) fun a H => s_assign H rfl rfl (lt_ rfl) fun a H => c_nil <| hK10 _ _ <| c_seq fun K19 hK19 => c_reg ?_
  obtain ⟨l20, hc21, h⟩ := h
  refine s_load (v := l20.v) H rfl rfl one_24 hc21 (lt_ rfl) fun a H => ?_
  obtain ⟨h22, h23, h24, h⟩ := h
  refine s_slice (v := (Slc.v (l20.cut 1 (Int.toNat (1)) (Int.toNat ((l20.l : Int)))))) H rfl rfl ⟨rfl, rfl⟩ ⟨rfl, rfl⟩ ⟨rfl, rfl⟩ (r_sliceSlc (lo := (some (.i64, 1))) (hi := none) slc_24 rfl rfl h22 h23 h24) (lt_ rfl) fun a H => ?_
  obtain ⟨h26, h27, h⟩ := h
  refine s_sto (p := c2) (v := (Slc.v (l20.cut 1 (Int.toNat (1)) (Int.toNat ((l20.l : Int)))))) H rfl rfl rfl rfl one_24 rfl h26 h27 ?_
  clear H
  intro H
  generalize hww25 : World.setCell w (c2) (Slc.v (l20.cut 1 (Int.toNat (1)) (Int.toNat ((l20.l : Int))))) = w25 at h ⊢
  have w25S : SetAt w (c2) (Slc.v (l20.cut 1 (Int.toNat (1)) (Int.toNat ((l20.l : Int))))) w25 := ⟨hww25.symm⟩
  clear hww25 h26 h27
  refine c_nil <| hK19 _ _ <| c_seq fun K28 hK28 => c_reg <| s_move H rfl rfl (lt_ rfl) fun a H => s_move H rfl rfl (lt_ rfl) fun a H => ?_
  obtain ⟨h29, h⟩ := h
  refine s_bin H rfl rfl rfl (r_rem h29) (lt_ rfl) fun a H => s_move H rfl rfl (lt_ rfl) fun a H => s_bin H rfl rfl rfl r_add (lt_ rfl) fun a H => s_move H rfl rfl (lt_ rfl) fun a H => ?_
  obtain ⟨h30, h⟩ := h
  refine s_bin H rfl rfl rfl (r_rem h30) (lt_ rfl) fun a H => s_assign H rfl rfl (lt_ rfl) fun a H => c_nil <| hK28 _ _ <| c_ret ?_
  exact e_ret1 H rfl rfl h

end Go.Proofs.YtflcdgkckfcofaaGreatDoor
