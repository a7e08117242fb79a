/-
  The conditions give the machine's calls; printed by vcgen.py.
-/
import Derived.Test.YtnhgnfflihoaiaaGreatDoorRecVc
namespace Go.Proofs.YtnhgnfflihoaiaaGreatDoor
open Go Go.Vc
set_option maxRecDepth 100000
set_option maxHeartbeats 4000000
theorem sim_sherdref11_CheckUpdate (K1 : Int) (K2 : ByteArray) (C3 C4 : Int) (F5 H6 : Bool) (D7 : Slc) (w : World) (Q : Ending → World → Prop) (h : vc_sherdref11_CheckUpdate K1 K2 C3 C4 F5 H6 D7 w Q) : Calls PP F_sherdref11_CheckUpdate #[(.agg #[(.i K1), (.string K2), (.i C3), (.i C4), (.bool F5), (.bool H6), D7.v])] w Q := by
 unfold vc_sherdref11_CheckUpdate at h
 refine enter (n := 70) Tryz.func56 rfl rfl (Nat.le_of_ble_eq_true rfl) fun a H => c_seq fun K8 hK8 => c_reg ?_
 replace h := h.get
 obtain ⟨b9, w10, n11, h⟩ := h
 refine s_box H rfl rfl (lt_ rfl) ?_
 rw [← n11.at_]
 clear H a
 intro a H
 refine n11.go <| s_assign H rfl rfl (lt_ rfl) fun a H => c_nil <| hK8 _ _ <| c_seq fun K12 hK12 => c_reg <| s_fld H rfl rfl fld_28_2 (lt_ rfl) fun a H => s_loadN (l := [(.i C3), (.i C4), (.bool F5), (.bool H6), D7.v]) H rfl rfl agg_26 rfl ⟨(n11.cell (i := 2) rfl), (n11.cell (i := 3) rfl), (n11.cell (i := 4) rfl), (n11.cell (i := 5) rfl), (n11.cell (i := 6) rfl), trivial⟩ (lt_ rfl) fun a H => ?_
 replace h := h.get
 obtain ⟨b13, w14, n15, h⟩ := h
 refine s_alloc H rfl zero_26 (lt_ rfl) ?_
 rw [← n15.at_]
 clear H a
 intro a H
 refine n15.go <| s_stoN (l := [(.i C3), (.i C4), (.bool F5), (.bool H6), D7.v]) H rfl rfl rfl rfl agg_26 rfl rfl h ?_
 clear h H
 intro w16 h H
 refine c_nil <| hK12 _ _ <| c_seq fun K17 hK17 => c_seq fun K18 hK18 => c_reg <| s_fld H rfl rfl fld_28_0 (lt_ rfl) fun a H => ?_
 obtain ⟨l19, hc20, h⟩ := h
 refine s_load (v := (.i l19)) H rfl rfl one_3 hc20 (lt_ rfl) fun a H => s_bin H rfl rfl rfl r_neq (lt_ rfl) fun a H => s_move H rfl rfl (lt_ rfl) fun a H => ?_
 obtain ⟨x25, h26, h27, h⟩ := h
 refine g_join (n := 70) [(13, (.bool x25)), (1, (.pointer (some (blk b9)))), (3, (.pointer (some (blk b13))))] (.succ (.succ (.succ (.succ (.zero _))))) ?_ ?_
 ·intro h22
  try clear h
  rcases Bool.eq_false_or_eq_true (decide (l19 ≠ 1)) with h21 | h21
  ·replace H := H.ch (t := 9) (b := true) rfl h21
   replace h := h26 h21
   refine s_fld H (wantG H rfl rfl) rfl fld_28_0 (lt_ rfl) fun a H => ?_
   obtain ⟨l23, hc24, h⟩ := h
   refine s_load (v := (.i l23)) H (wantG H rfl rfl) rfl one_3 hc24 (lt_ rfl) fun a H => s_bin H (wantG H rfl rfl) rfl rfl r_neq (lt_ rfl) fun a H => s_pickT H rfl rfl rfl (lt_ rfl) fun a H => ?_
   subst h
   exact h22 _ (H.weaken ⟨rfl, rfl, rfl, trivial⟩)
  ·replace H := H.ch (t := 9) (b := false) rfl h21
   iterate 3 refine s_skip H (wantN H rfl rfl rfl) rfl (lt_ rfl) fun a H => ?_
   refine s_pickF H rfl rfl rfl (lt_ rfl) fun a H => ?_
   replace h := h27 h21
   subst h
   exact h22 _ (H.weaken ⟨rfl, rfl, rfl, trivial⟩)
 ·clear H a
  clear h26 h27
  intro a H
  refine s_move H rfl rfl (lt_ rfl) fun a H => ?_
  obtain ⟨x32, h33, h34, h⟩ := h
  refine g_join (n := 70) [(18, (.bool x32)), (1, (.pointer (some (blk b9)))), (3, (.pointer (some (blk b13))))] (.succ (.succ (.succ (.succ (.zero _))))) ?_ ?_
  ·intro h29
   try clear h
   rcases Bool.eq_false_or_eq_true x25 with h28 | h28
   ·replace H := H.ch (t := 14) (b := true) rfl h28
    replace h := h33 h28
    refine s_fld H (wantG H rfl rfl) rfl fld_28_0 (lt_ rfl) fun a H => ?_
    obtain ⟨l30, hc31, h⟩ := h
    refine s_load (v := (.i l30)) H (wantG H rfl rfl) rfl one_3 hc31 (lt_ rfl) fun a H => s_bin H (wantG H rfl rfl) rfl rfl r_neq (lt_ rfl) fun a H => s_pickT H rfl rfl rfl (lt_ rfl) fun a H => ?_
    subst h
    exact h29 _ (H.weaken ⟨rfl, rfl, rfl, trivial⟩)
   ·replace H := H.ch (t := 14) (b := false) rfl h28
    iterate 3 refine s_skip H (wantN H rfl rfl rfl) rfl (lt_ rfl) fun a H => ?_
    refine s_pickF H rfl rfl rfl (lt_ rfl) fun a H => ?_
    replace h := h34 h28
    subst h
    exact h29 _ (H.weaken ⟨rfl, rfl, rfl, trivial⟩)
  ·clear H a
   clear h33 h34
   intro a H
   refine c_nil <| hK18 _ _ <| c_cond H rfl (fun h35 => ?_) (fun h35 => ?_)
   ·replace h := h.1 h35
    refine c_seq fun K36 hK36 => c_reg <| s_assign H rfl rfl (lt_ rfl) fun a H => c_nil <| hK36 _ _ <| c_ret ?_
    exact e_ret1 H rfl rfl h
   ·replace h := h.2 h35
    refine c_skip <| hK17 _ _ <| c_seq fun K37 hK37 => c_seq fun K38 hK38 => c_reg <| s_fld H rfl rfl fld_28_1 (lt_ rfl) fun a H => ?_
    obtain ⟨l39, hc40, h⟩ := h
    refine s_load (v := (.string l39)) H rfl rfl one_9 hc40 (lt_ rfl) fun a H => s_blt H rfl (H.args (vs := [(.string l39)]) rfl) (lt_ rfl) (fun cs => b_lenT str_9) fun a H => s_bin H rfl rfl rfl r_lss (lt_ rfl) fun a H => s_move H rfl rfl (lt_ rfl) fun a H => ?_
    obtain ⟨x45, h46, h47, h⟩ := h
    refine g_join (n := 70) [(28, (.bool x45)), (1, (.pointer (some (blk b9)))), (3, (.pointer (some (blk b13))))] (.succ (.succ (.succ (.succ (.succ (.zero _)))))) ?_ ?_
    ·intro h42
     try clear h
     rcases Bool.eq_false_or_eq_true (decide ((l39.size : Int) < 1)) with h41 | h41
     ·replace H := H.ch (t := 23) (b := true) rfl h41
      iterate 4 refine s_skip H (wantN H rfl rfl rfl) rfl (lt_ rfl) fun a H => ?_
      refine s_pickT H rfl rfl rfl (lt_ rfl) fun a H => ?_
      replace h := h47 h41
      subst h
      exact h42 _ (H.weaken ⟨rfl, rfl, rfl, trivial⟩)
     ·replace H := H.ch (t := 23) (b := false) rfl h41
      replace h := h46 h41
      refine s_fld H (wantG H rfl rfl) rfl fld_28_1 (lt_ rfl) fun a H => ?_
      obtain ⟨l43, hc44, h⟩ := h
      refine s_load (v := (.string l43)) H (wantG H rfl rfl) rfl one_9 hc44 (lt_ rfl) fun a H => s_blt H (wantG H rfl rfl) (H.args (vs := [(.string l43)]) rfl) (lt_ rfl) (fun cs => b_lenT str_9) fun a H => s_bin H (wantG H rfl rfl) rfl rfl r_gtr (lt_ rfl) fun a H => s_pickF H rfl rfl rfl (lt_ rfl) fun a H => ?_
      subst h
      exact h42 _ (H.weaken ⟨rfl, rfl, rfl, trivial⟩)
    ·clear H a
     clear h46 h47
     intro a H
     refine c_nil <| hK38 _ _ <| c_cond H rfl (fun h48 => ?_) (fun h48 => ?_)
     ·replace h := h.1 h48
      refine c_seq fun K49 hK49 => c_reg <| s_assign H rfl rfl (lt_ rfl) fun a H => c_nil <| hK49 _ _ <| c_ret ?_
      exact e_ret1 H rfl rfl h
     ·replace h := h.2 h48
      refine c_skip <| hK37 _ _ <| c_seq fun K50 hK50 => c_seq fun K51 hK51 => c_reg <| s_fld H rfl rfl fld_26_0 (lt_ rfl) fun a H => ?_
      obtain ⟨C52, hc53, C54, hc55, h⟩ := h
      refine s_loadN (l := [(.i C52), (.i C54)]) H rfl rfl agg_24 rfl ⟨hc53, hc55, trivial⟩ (lt_ rfl) fun a H => s_call H rfl body_83 (H.args (vs := [(.agg #[(.i C52), (.i C54)])]) rfl) (lt_ rfl) h ?_ (fun c w' h H => e_panic (P := PP) (fn := Tryz.f56) H h)
      clear H h a
      rintro _ w56 a ⟨V57, rfl, h⟩ H
      refine s_un H rfl rfl r_not (lt_ rfl) fun a H => s_move H rfl rfl (lt_ rfl) fun a H => ?_
      obtain ⟨x64, h65, h66, h⟩ := h
      refine g_join (n := 70) [(38, (.bool x64)), (1, (.pointer (some (blk b9)))), (3, (.pointer (some (blk b13))))] (.succ (.succ (.succ (.succ (.succ (.zero _)))))) ?_ ?_
      ·intro h59
       try clear h
       rcases Bool.eq_false_or_eq_true (!V57) with h58 | h58
       ·replace H := H.ch (t := 33) (b := true) rfl h58
        iterate 4 refine s_skip H (wantN H rfl rfl rfl) rfl (lt_ rfl) fun a H => ?_
        refine s_pickT H rfl rfl rfl (lt_ rfl) fun a H => ?_
        replace h := h66 h58
        subst h
        exact h59 _ (H.weaken ⟨rfl, rfl, rfl, trivial⟩)
       ·replace H := H.ch (t := 33) (b := false) rfl h58
        replace h := h65 h58
        refine s_fld H (wantG H rfl rfl) rfl fld_26_0 (lt_ rfl) fun a H => ?_
        obtain ⟨C60, hc61, C62, hc63, h⟩ := h
        refine s_loadN (l := [(.i C60), (.i C62)]) H (wantG H rfl rfl) rfl agg_24 rfl ⟨hc61, hc63, trivial⟩ (lt_ rfl) fun a H => s_build H (wantG H rfl rfl) (by rw [H.parts (vs := []) rfl]; exact bd_24 w56) (lt_ rfl) fun a H => s_bin H (wantG H rfl rfl) rfl rfl (r_eqst eqg_24 (eqst_24 0) rfl) (lt_ rfl) fun a H => s_pickF H rfl rfl rfl (lt_ rfl) fun a H => ?_
        subst h
        exact h59 _ (H.weaken ⟨rfl, rfl, rfl, trivial⟩)
      ·clear H a
       clear h65 h66
       intro a H
       refine c_nil <| hK51 _ _ <| c_cond H rfl (fun h67 => ?_) (fun h67 => ?_)
       ·replace h := h.1 h67
        refine c_seq fun K68 hK68 => c_reg <| s_assign H rfl rfl (lt_ rfl) fun a H => c_nil <| hK68 _ _ <| c_ret ?_
        exact e_ret1 H rfl rfl h
       ·replace h := h.2 h67
        refine c_skip <| hK50 _ _ <| c_seq fun K69 hK69 => c_seq fun K70 hK70 => c_reg <| s_fld H rfl rfl fld_28_0 (lt_ rfl) fun a H => ?_
        obtain ⟨l71, hc72, h⟩ := h
        refine s_load (v := (.i l71)) H rfl rfl one_3 hc72 (lt_ rfl) fun a H => s_bin H rfl rfl rfl r_eql (lt_ rfl) fun a H => s_move H rfl rfl (lt_ rfl) fun a H => ?_
        obtain ⟨x77, h78, h79, h⟩ := h
        refine g_join (n := 70) [(46, (.bool x77)), (1, (.pointer (some (blk b9)))), (3, (.pointer (some (blk b13))))] (.succ (.succ (.succ (.succ (.zero _))))) ?_ ?_
        ·intro h74
         try clear h
         rcases Bool.eq_false_or_eq_true (decide (l71 = 3)) with h73 | h73
         ·replace H := H.ch (t := 42) (b := true) rfl h73
          replace h := h78 h73
          refine s_fld H (wantG H rfl rfl) rfl fld_26_1 (lt_ rfl) fun a H => ?_
          obtain ⟨l75, hc76, h⟩ := h
          refine s_load (v := (.bool l75)) H (wantG H rfl rfl) rfl one_4 hc76 (lt_ rfl) fun a H => s_un H (wantG H rfl rfl) rfl r_not (lt_ rfl) fun a H => s_pickT H rfl rfl rfl (lt_ rfl) fun a H => ?_
          subst h
          exact h74 _ (H.weaken ⟨rfl, rfl, rfl, trivial⟩)
         ·replace H := H.ch (t := 42) (b := false) rfl h73
          iterate 3 refine s_skip H (wantN H rfl rfl rfl) rfl (lt_ rfl) fun a H => ?_
          refine s_pickF H rfl rfl rfl (lt_ rfl) fun a H => ?_
          replace h := h79 h73
          subst h
          exact h74 _ (H.weaken ⟨rfl, rfl, rfl, trivial⟩)
        ·clear H a
         clear h78 h79
         intro a H
         refine s_move H rfl rfl (lt_ rfl) fun a H => ?_
         obtain ⟨x84, h85, h86, h⟩ := h
         refine g_join (n := 70) [(51, (.bool x84)), (1, (.pointer (some (blk b9)))), (3, (.pointer (some (blk b13))))] (.succ (.succ (.succ (.succ (.zero _))))) ?_ ?_
         ·intro h81
          try clear h
          rcases Bool.eq_false_or_eq_true x77 with h80 | h80
          ·replace H := H.ch (t := 47) (b := true) rfl h80
           replace h := h85 h80
           refine s_fld H (wantG H rfl rfl) rfl fld_26_2 (lt_ rfl) fun a H => ?_
           obtain ⟨l82, hc83, h⟩ := h
           refine s_load (v := (.bool l82)) H (wantG H rfl rfl) rfl one_4 hc83 (lt_ rfl) fun a H => s_un H (wantG H rfl rfl) rfl r_not (lt_ rfl) fun a H => s_pickT H rfl rfl rfl (lt_ rfl) fun a H => ?_
           subst h
           exact h81 _ (H.weaken ⟨rfl, rfl, rfl, trivial⟩)
          ·replace H := H.ch (t := 47) (b := false) rfl h80
           iterate 3 refine s_skip H (wantN H rfl rfl rfl) rfl (lt_ rfl) fun a H => ?_
           refine s_pickF H rfl rfl rfl (lt_ rfl) fun a H => ?_
           replace h := h86 h80
           subst h
           exact h81 _ (H.weaken ⟨rfl, rfl, rfl, trivial⟩)
         ·clear H a
          clear h85 h86
          intro a H
          refine c_nil <| hK70 _ _ <| c_cond H rfl (fun h87 => ?_) (fun h87 => ?_)
          ·replace h := h.1 h87
           refine c_seq fun K88 hK88 => c_reg <| s_assign H rfl rfl (lt_ rfl) fun a H => c_nil <| hK88 _ _ <| c_ret ?_
           exact e_ret1 H rfl rfl h
          ·replace h := h.2 h87
           refine c_skip <| hK69 _ _ <| c_seq fun K89 hK89 => c_seq fun K90 hK90 => c_reg <| s_fld H rfl rfl fld_28_0 (lt_ rfl) fun a H => ?_
           obtain ⟨l91, hc92, h⟩ := h
           refine s_load (v := (.i l91)) H rfl rfl one_3 hc92 (lt_ rfl) fun a H => s_bin H rfl rfl rfl r_eql (lt_ rfl) fun a H => s_move H rfl rfl (lt_ rfl) fun a H => ?_
           obtain ⟨x104, h105, h106, h⟩ := h
           refine g_join (n := 70) [(63, (.bool x104)), (3, (.pointer (some (blk b13))))] (.succ (.succ (.succ (.succ (.succ (.succ (.succ (.succ (.zero _))))))))) ?_ ?_
           ·intro h94
            try clear h
            rcases Bool.eq_false_or_eq_true (decide (l91 = 1)) with h93 | h93
            ·replace H := H.ch (t := 55) (b := true) rfl h93
             iterate 4 refine s_skip H (wantN H rfl rfl rfl) rfl (lt_ rfl) fun a H => ?_
             refine s_skip H (wantU H rfl rfl) rfl (lt_ rfl) fun a H => s_skip H (wantU H rfl rfl) rfl (lt_ rfl) fun a H => s_skip H (wantN H rfl rfl rfl) rfl (lt_ rfl) fun a H => s_pickT H rfl rfl rfl (lt_ rfl) fun a H => ?_
             replace h := h106 h93
             subst h
             exact h94 _ (H.weaken ⟨rfl, rfl, trivial⟩)
            ·replace H := H.ch (t := 55) (b := false) rfl h93
             replace h := h105 h93
             refine s_fld H (wantG H rfl rfl) rfl fld_28_0 (lt_ rfl) fun a H => ?_
             obtain ⟨l95, hc96, h⟩ := h
             refine s_load (v := (.i l95)) H (wantG H rfl rfl) rfl one_3 hc96 (lt_ rfl) fun a H => s_bin H (wantG H rfl rfl) rfl rfl r_eql (lt_ rfl) fun a H => s_move H (wantG H rfl rfl) rfl (lt_ rfl) fun a H => ?_
             obtain ⟨x101, h102, h103, h⟩ := h
             refine g_join (n := 70) [(62, (.bool x101)), (3, (.pointer (some (blk b13)))), (55, (.bool false))] (.succ (.succ (.succ (.zero _)))) ?_ ?_
             ·intro h98
              try clear h
              rcases Bool.eq_false_or_eq_true (decide (l95 = 3)) with h97 | h97
              ·replace H := H.ch (t := 59) (b := true) rfl h97
               replace h := h102 h97
               refine s_fld H (wantG H rfl rfl) rfl fld_26_2 (lt_ rfl) fun a H => ?_
               obtain ⟨l99, hc100, h⟩ := h
               refine s_load (v := (.bool l99)) H (wantG H rfl rfl) rfl one_4 hc100 (lt_ rfl) fun a H => s_pickT H (wantG H rfl rfl) rfl rfl (lt_ rfl) fun a H => ?_
               subst h
               exact h98 _ (H.weaken ⟨rfl, rfl, rfl, trivial⟩)
              ·replace H := H.ch (t := 59) (b := false) rfl h97
               refine s_skip H (wantN H rfl rfl rfl) rfl (lt_ rfl) fun a H => s_skip H (wantN H rfl rfl rfl) rfl (lt_ rfl) fun a H => s_pickF H (wantG H rfl rfl) rfl rfl (lt_ rfl) fun a H => ?_
               replace h := h103 h97
               subst h
               exact h98 _ (H.weaken ⟨rfl, rfl, rfl, trivial⟩)
             ·clear H a
              clear h102 h103
              intro a H
              refine s_pickF H rfl rfl rfl (lt_ rfl) fun a H => ?_
              subst h
              exact h94 _ (H.weaken ⟨rfl, rfl, trivial⟩)
           ·clear H a
            clear h105 h106
            intro a H
            refine s_move H rfl rfl (lt_ rfl) fun a H => ?_
            obtain ⟨x111, h112, h113, h⟩ := h
            refine g_join (n := 70) [(69, (.bool x111))] (.succ (.succ (.succ (.succ (.succ (.zero _)))))) ?_ ?_
            ·intro h108
             try clear h
             rcases Bool.eq_false_or_eq_true x104 with h107 | h107
             ·replace H := H.ch (t := 64) (b := true) rfl h107
              replace h := h112 h107
              refine s_fld H (wantG H rfl rfl) rfl fld_26_3 (lt_ rfl) fun a H => ?_
              obtain ⟨l109, hc110, h⟩ := h
              refine s_load (v := l109.v) H (wantG H rfl rfl) rfl one_22 hc110 (lt_ rfl) fun a H => s_blt H (wantG H rfl rfl) (H.args (vs := [l109.v]) rfl) (lt_ rfl) (fun cs => b_lenS (z := l109) sl_22) fun a H => s_bin H (wantG H rfl rfl) rfl rfl r_gtr (lt_ rfl) fun a H => s_pickT H rfl rfl rfl (lt_ rfl) fun a H => ?_
              subst h
              exact h108 _ (H.weaken ⟨rfl, trivial⟩)
             ·replace H := H.ch (t := 64) (b := false) rfl h107
              iterate 4 refine s_skip H (wantN H rfl rfl rfl) rfl (lt_ rfl) fun a H => ?_
              refine s_pickF H rfl rfl rfl (lt_ rfl) fun a H => ?_
              replace h := h113 h107
              subst h
              exact h108 _ (H.weaken ⟨rfl, trivial⟩)
            ·clear H a
             clear h112 h113
             intro a H
             refine c_nil <| hK90 _ _ <| c_cond H rfl (fun h114 => ?_) (fun h114 => ?_)
             ·replace h := h.1 h114
              refine c_seq fun K115 hK115 => c_reg <| s_assign H rfl rfl (lt_ rfl) fun a H => c_nil <| hK115 _ _ <| c_ret ?_
              exact e_ret1 H rfl rfl h
             ·replace h := h.2 h114
              refine c_skip <| hK89 _ _ <| c_seq fun K116 hK116 => c_reg <| s_assign H rfl rfl (lt_ rfl) fun a H => c_nil <| hK116 _ _ <| c_ret ?_
              exact e_ret1 H rfl rfl h

theorem sim_sherdref07_NewWriter (w : World) (Q : Ending → World → Prop) (h : vc_sherdref07_NewWriter w Q) : Calls PP F_sherdref07_NewWriter #[] w Q := by
 unfold vc_sherdref07_NewWriter at h
 refine enter (n := 3) Tryz.func57 rfl rfl (Nat.le_of_ble_eq_true rfl) fun a H => c_seq fun K1 hK1 => c_reg <| s_assign H rfl rfl (lt_ rfl) fun a H => c_nil <| hK1 _ _ <| c_seq fun K2 hK2 => c_reg <| s_build H rfl (by rw [H.parts (vs := []) rfl]; exact bd_130 w) (lt_ rfl) fun a H => ?_
 replace h := h.get
 obtain ⟨b3, w4, n5, h⟩ := h
 refine s_box H rfl rfl (lt_ rfl) ?_
 rw [← n5.at_]
 clear H a
 intro a H
 refine n5.go <| s_assign H rfl rfl (lt_ rfl) fun a H => c_nil <| hK2 _ _ <| c_ret ?_
 exact e_ret1 H rfl rfl h

theorem sim_sherdref07_Writer_Byte (w1 : Option Addr) (b2 : Int) (w : World) (Q : Ending → World → Prop) (h : vc_sherdref07_Writer_Byte w1 b2 w Q) : Calls PP F_sherdref07_Writer_Byte #[(.pointer w1), (.int .u8 b2)] w Q := by
 unfold vc_sherdref07_Writer_Byte at h
 refine enter (n := 8) Tryz.func58 rfl rfl (Nat.le_of_ble_eq_true rfl) fun a H => c_reg <| s_move H rfl rfl (lt_ rfl) fun a H => s_move H rfl rfl (lt_ rfl) fun a H => ?_
 replace h := h.get
 obtain ⟨b3, w4, n5, h⟩ := h
 refine s_bslc H rfl (by rw [H.parts (vs := [(0, (.int .u8 b2))]) rfl]; exact bs_22_1_iu80 w b2) (lt_ rfl) ?_
 rw [← n5.at_]
 clear H a
 intro a H
 refine n5.go <| s_call H rfl body_84 (H.args (vs := [(.pointer w1), (Slc.v (Slc.mk (some (blk b3)) 1 1))]) rfl) (lt_ rfl) h ?_ (fun c w' h H => e_panic (P := PP) (fn := Tryz.f58) H h)
 clear H h a
 rintro _ w6 a ⟨rfl, h⟩ H
 refine c_nil ?_
 exact e_ret0 H rfl h

theorem sim_sherdref07_Writer_Bytes (w1 : Option Addr) (b2 : Slc) (w : World) (Q : Ending → World → Prop) (h : vc_sherdref07_Writer_Bytes w1 b2 w Q) : Calls PP F_sherdref07_Writer_Bytes #[(.pointer w1), b2.v] w Q := by
 unfold vc_sherdref07_Writer_Bytes at h
 refine enter (n := 11) Tryz.func59 rfl rfl (Nat.le_of_ble_eq_true rfl) fun a H => c_seq fun K3 hK3 => c_reg <| s_move H rfl rfl (lt_ rfl) fun a H => s_move H rfl rfl (lt_ rfl) fun a H => s_blt H rfl (H.args (vs := [b2.v]) rfl) (lt_ rfl) (fun cs => b_lenS (z := b2) sl_22) fun a H => s_call H rfl body_67 (H.args (vs := [(.pointer w1), (.i (b2.l : Int))]) rfl) (lt_ rfl) h ?_ (fun c w' h H => e_panic (P := PP) (fn := Tryz.f59) H h)
 clear H h a
 rintro _ w4 a ⟨rfl, h⟩ H
 refine c_nil <| hK3 _ _ <| c_reg <| s_move H rfl rfl (lt_ rfl) fun a H => s_move H rfl rfl (lt_ rfl) fun a H => s_call H rfl body_84 (H.args (vs := [(.pointer w1), b2.v]) rfl) (lt_ rfl) h ?_ (fun c w' h H => e_panic (P := PP) (fn := Tryz.f59) H h)
 clear H h a
 rintro _ w5 a ⟨rfl, h⟩ H
 refine c_nil ?_
 exact e_ret0 H rfl h

theorem sim_sherdref11_body (K1 : Int) (K2 : ByteArray) (C3 C4 : Int) (F5 H6 : Bool) (D7 : Slc) (w : World) (Q : Ending → World → Prop) (h : vc_sherdref11_body K1 K2 C3 C4 F5 H6 D7 w Q) : Calls PP F_sherdref11_body #[(.agg #[(.i K1), (.string K2), (.i C3), (.i C4), (.bool F5), (.bool H6), D7.v])] w Q := by
 unfold vc_sherdref11_body at h
 refine enter (n := 56) Tryz.func60 rfl rfl (Nat.le_of_ble_eq_true rfl) fun a H => c_seq fun K8 hK8 => c_reg ?_
 replace h := h.get
 obtain ⟨b9, w10, n11, h⟩ := h
 refine s_box H rfl rfl (lt_ rfl) ?_
 rw [← n11.at_]
 clear H a
 intro a H
 refine n11.go <| s_assign H rfl rfl (lt_ rfl) fun a H => c_nil <| hK8 _ _ <| c_seq fun K12 hK12 => c_reg <| s_fld H rfl rfl fld_28_2 (lt_ rfl) fun a H => s_loadN (l := [(.i C3), (.i C4), (.bool F5), (.bool H6), D7.v]) H rfl rfl agg_26 rfl ⟨(n11.cell (i := 2) rfl), (n11.cell (i := 3) rfl), (n11.cell (i := 4) rfl), (n11.cell (i := 5) rfl), (n11.cell (i := 6) rfl), trivial⟩ (lt_ rfl) fun a H => ?_
 replace h := h.get
 obtain ⟨b13, w14, n15, h⟩ := h
 refine s_alloc H rfl zero_26 (lt_ rfl) ?_
 rw [← n15.at_]
 clear H a
 intro a H
 refine n15.go <| s_stoN (l := [(.i C3), (.i C4), (.bool F5), (.bool H6), D7.v]) H rfl rfl rfl rfl agg_26 rfl rfl h ?_
 clear h H
 intro w16 h H
 refine c_nil <| hK12 _ _ <| c_seq fun K17 hK17 => c_reg <| s_call H rfl body_57 (H.args (vs := []) rfl) (lt_ rfl) h ?_ (fun c w' h H => e_panic (P := PP) (fn := Tryz.f60) H h)
 clear H h a
 rintro _ w18 a ⟨N19, rfl, h⟩ H
 refine s_assign H rfl rfl (lt_ rfl) fun a H => c_nil <| hK17 _ _ <| c_seq fun K20 hK20 => c_reg <| s_move H rfl rfl (lt_ rfl) fun a H => s_fld H rfl rfl fld_28_0 (lt_ rfl) fun a H => ?_
 obtain ⟨l21, hc22, h⟩ := h
 refine s_load (v := (.i l21)) H rfl rfl one_3 hc22 (lt_ rfl) fun a H => s_cv H rfl rfl (r_cvI some_3 int_5) (lt_ rfl) fun a H => s_call H rfl body_58 (H.args (vs := [(.pointer N19), (.int .u8 (wr .u8 l21))]) rfl) (lt_ rfl) h ?_ (fun c w' h H => e_panic (P := PP) (fn := Tryz.f60) H h)
 clear H h a
 rintro _ w23 a ⟨rfl, h⟩ H
 refine c_nil <| hK20 _ _ <| c_seq fun K24 hK24 => c_reg <| s_move H rfl rfl (lt_ rfl) fun a H => s_fld H rfl rfl fld_28_1 (lt_ rfl) fun a H => ?_
 obtain ⟨l25, hc26, h⟩ := h
 refine s_load (v := (.string l25)) H rfl rfl one_9 hc26 (lt_ rfl) fun a H => s_call H rfl body_85 (H.args (vs := [(.pointer N19), (.string l25)]) rfl) (lt_ rfl) h ?_ (fun c w' h H => e_panic (P := PP) (fn := Tryz.f60) H h)
 clear H h a
 rintro _ w27 a ⟨rfl, h⟩ H
 refine c_nil <| hK24 _ _ <| c_seq fun K28 hK28 => c_reg <| s_move H rfl rfl (lt_ rfl) fun a H => s_fld H rfl rfl fld_26_0 (lt_ rfl) fun a H => s_fld H rfl rfl fld_24_0 (lt_ rfl) fun a H => ?_
 obtain ⟨l29, hc30, h⟩ := h
 refine s_load (v := (.i l29)) H rfl rfl one_2 hc30 (lt_ rfl) fun a H => s_call H rfl body_67 (H.args (vs := [(.pointer N19), (.i l29)]) rfl) (lt_ rfl) h ?_ (fun c w' h H => e_panic (P := PP) (fn := Tryz.f60) H h)
 clear H h a
 rintro _ w31 a ⟨rfl, h⟩ H
 refine c_nil <| hK28 _ _ <| c_seq fun K32 hK32 => c_reg <| s_move H rfl rfl (lt_ rfl) fun a H => s_fld H rfl rfl fld_26_0 (lt_ rfl) fun a H => s_fld H rfl rfl fld_24_1 (lt_ rfl) fun a H => ?_
 obtain ⟨l33, hc34, h⟩ := h
 refine s_load (v := (.i l33)) H rfl rfl one_3 hc34 (lt_ rfl) fun a H => s_call H rfl body_67 (H.args (vs := [(.pointer N19), (.i l33)]) rfl) (lt_ rfl) h ?_ (fun c w' h H => e_panic (P := PP) (fn := Tryz.f60) H h)
 clear H h a
 rintro _ w35 a ⟨rfl, h⟩ H
 refine c_nil <| hK32 _ _ <| c_seq fun K36 hK36 => ?_
 obtain ⟨R37, h, h96⟩ := h
 have h76 : ∀ (a : Act) (w38 : World), R37 w38 → Has 56 [] a [(1, (.pointer (some (blk b9)))), (3, (.pointer (some (blk b13)))), (4, (.pointer N19))] → K36 a w38 := by
  clear h
  intro a w38 h H
  replace h := h96 w38 h
  refine hK36 _ _ <| c_seq fun K39 hK39 => ?_
  obtain ⟨R40, h, h75⟩ := h
  have h49 : ∀ (a : Act) (w41 : World), R40 w41 → Has 56 [] a [(4, (.pointer N19))] → K39 a w41 := by
   clear h
   intro a w41 h H
   replace h := h75 w41 h
   refine hK39 _ _ <| c_seq fun K42 hK42 => c_reg <| s_move H rfl rfl (lt_ rfl) fun a H => s_call H rfl body_61 (H.args (vs := [(.pointer N19)]) rfl) (lt_ rfl) h ?_ (fun c w' h H => e_panic (P := PP) (fn := Tryz.f60) H h)
   clear H h a
   rintro _ w43 a ⟨D44, rfl, h⟩ H
   refine s_assign H rfl rfl (lt_ rfl) fun a H => c_nil <| hK42 _ _ <| c_ret ?_
   exact e_ret1 H rfl rfl h
  clear h75
  refine c_seq fun K50 hK50 => c_reg <| s_fld H rfl rfl fld_28_0 (lt_ rfl) fun a H => ?_
  obtain ⟨l51, hc52, h⟩ := h
  refine s_load (v := (.i l51)) H rfl rfl one_3 hc52 (lt_ rfl) fun a H => s_bin H rfl rfl rfl r_eql (lt_ rfl) fun a H => s_move H rfl rfl (lt_ rfl) fun a H => ?_
  obtain ⟨x64, h65, h66, h⟩ := h
  refine g_join (n := 56) [(49, (.bool x64)), (3, (.pointer (some (blk b13)))), (4, (.pointer N19))] (.succ (.succ (.succ (.succ (.succ (.succ (.succ (.succ (.zero _))))))))) ?_ ?_
  ·intro h54
   try clear h
   rcases Bool.eq_false_or_eq_true (decide (l51 = 1)) with h53 | h53
   ·replace H := H.ch (t := 41) (b := true) rfl h53
    iterate 4 refine s_skip H (wantN H rfl rfl rfl) rfl (lt_ rfl) fun a H => ?_
    refine s_skip H (wantU H rfl rfl) rfl (lt_ rfl) fun a H => s_skip H (wantU H rfl rfl) rfl (lt_ rfl) fun a H => s_skip H (wantN H rfl rfl rfl) rfl (lt_ rfl) fun a H => s_pickT H rfl rfl rfl (lt_ rfl) fun a H => ?_
    replace h := h66 h53
    subst h
    exact h54 _ (H.weaken ⟨rfl, rfl, rfl, trivial⟩)
   ·replace H := H.ch (t := 41) (b := false) rfl h53
    replace h := h65 h53
    refine s_fld H (wantG H rfl rfl) rfl fld_28_0 (lt_ rfl) fun a H => ?_
    obtain ⟨l55, hc56, h⟩ := h
    refine s_load (v := (.i l55)) H (wantG H rfl rfl) rfl one_3 hc56 (lt_ rfl) fun a H => s_bin H (wantG H rfl rfl) rfl rfl r_eql (lt_ rfl) fun a H => s_move H (wantG H rfl rfl) rfl (lt_ rfl) fun a H => ?_
    obtain ⟨x61, h62, h63, h⟩ := h
    refine g_join (n := 56) [(48, (.bool x61)), (3, (.pointer (some (blk b13)))), (4, (.pointer N19)), (41, (.bool false))] (.succ (.succ (.succ (.zero _)))) ?_ ?_
    ·intro h58
     try clear h
     rcases Bool.eq_false_or_eq_true (decide (l55 = 3)) with h57 | h57
     ·replace H := H.ch (t := 45) (b := true) rfl h57
      replace h := h62 h57
      refine s_fld H (wantG H rfl rfl) rfl fld_26_2 (lt_ rfl) fun a H => ?_
      obtain ⟨l59, hc60, h⟩ := h
      refine s_load (v := (.bool l59)) H (wantG H rfl rfl) rfl one_4 hc60 (lt_ rfl) fun a H => s_pickT H (wantG H rfl rfl) rfl rfl (lt_ rfl) fun a H => ?_
      subst h
      exact h58 _ (H.weaken ⟨rfl, rfl, rfl, rfl, trivial⟩)
     ·replace H := H.ch (t := 45) (b := false) rfl h57
      refine s_skip H (wantN H rfl rfl rfl) rfl (lt_ rfl) fun a H => s_skip H (wantN H rfl rfl rfl) rfl (lt_ rfl) fun a H => s_pickF H (wantG H rfl rfl) rfl rfl (lt_ rfl) fun a H => ?_
      replace h := h63 h57
      subst h
      exact h58 _ (H.weaken ⟨rfl, rfl, rfl, rfl, trivial⟩)
    ·clear H a
     clear h62 h63
     intro a H
     refine s_pickF H rfl rfl rfl (lt_ rfl) fun a H => ?_
     subst h
     exact h54 _ (H.weaken ⟨rfl, rfl, rfl, trivial⟩)
  ·clear H a
   clear h65 h66
   intro a H
   refine c_nil <| hK50 _ _ <| c_cond H rfl (fun h67 => ?_) (fun h67 => ?_)
   ·replace h := h.1 h67
    refine c_reg <| s_move H rfl rfl (lt_ rfl) fun a H => s_fld H rfl rfl fld_26_3 (lt_ rfl) fun a H => ?_
    obtain ⟨l68, hc69, h⟩ := h
    refine s_load (v := l68.v) H rfl rfl one_22 hc69 (lt_ rfl) fun a H => s_call H rfl body_59 (H.args (vs := [(.pointer N19), l68.v]) rfl) (lt_ rfl) h ?_ (fun c w' h H => e_panic (P := PP) (fn := Tryz.f60) H h)
    clear H h a
    rintro _ w70 a ⟨rfl, h⟩ H
    refine c_nil ?_
    exact h49 _ _ h (H.weaken ⟨rfl, trivial⟩)
   ·replace h := h.2 h67
    refine c_skip ?_
    exact h49 _ _ h (H.weaken ⟨rfl, trivial⟩)
 clear h96
 refine c_seq fun K77 hK77 => c_reg <| s_fld H rfl rfl fld_28_0 (lt_ rfl) fun a H => ?_
 obtain ⟨l78, hc79, h⟩ := h
 refine s_load (v := (.i l78)) H rfl rfl one_3 hc79 (lt_ rfl) fun a H => s_bin H rfl rfl rfl r_eql (lt_ rfl) fun a H => c_nil <| hK77 _ _ <| c_cond H rfl (fun h80 => ?_) (fun h80 => ?_)
 ·replace h := h.1 h80
  refine c_seq fun K81 hK81 => c_reg <| s_move H rfl rfl (lt_ rfl) fun a H => s_fld H rfl rfl fld_26_1 (lt_ rfl) fun a H => ?_
  obtain ⟨l82, hc83, h⟩ := h
  refine s_load (v := (.bool l82)) H rfl rfl one_4 hc83 (lt_ rfl) fun a H => s_call H rfl body_86 (H.args (vs := [(.pointer N19), (.bool l82)]) rfl) (lt_ rfl) h ?_ (fun c w' h H => e_panic (P := PP) (fn := Tryz.f60) H h)
  clear H h a
  rintro _ w84 a ⟨rfl, h⟩ H
  refine c_nil <| hK81 _ _ <| c_reg <| s_move H rfl rfl (lt_ rfl) fun a H => s_fld H rfl rfl fld_26_2 (lt_ rfl) fun a H => ?_
  obtain ⟨l85, hc86, h⟩ := h
  refine s_load (v := (.bool l85)) H rfl rfl one_4 hc86 (lt_ rfl) fun a H => s_call H rfl body_86 (H.args (vs := [(.pointer N19), (.bool l85)]) rfl) (lt_ rfl) h ?_ (fun c w' h H => e_panic (P := PP) (fn := Tryz.f60) H h)
  clear H h a
  rintro _ w87 a ⟨rfl, h⟩ H
  refine c_nil ?_
  exact h76 _ _ h (H.weaken ⟨rfl, rfl, rfl, trivial⟩)
 ·replace h := h.2 h80
  refine c_skip ?_
  exact h76 _ _ h (H.weaken ⟨rfl, rfl, rfl, trivial⟩)

theorem sim_sherdref07_Writer_Data (w1 : Option Addr) (w : World) (Q : Ending → World → Prop) (h : vc_sherdref07_Writer_Data w1 w Q) : Calls PP F_sherdref07_Writer_Data #[(.pointer w1)] w Q := by
 unfold vc_sherdref07_Writer_Data at h
 refine enter (n := 14) Tryz.func61 rfl rfl (Nat.le_of_ble_eq_true rfl) fun a H => c_seq fun K2 hK2 => c_reg <| s_assign H rfl rfl (lt_ rfl) fun a H => c_nil <| hK2 _ _ <| c_seq fun K3 hK3 => c_seq fun K4 hK4 => c_reg <| s_move H rfl rfl (lt_ rfl) fun a H => ?_
 obtain ⟨a5, h19, h⟩ := h
 subst h19
 refine s_nil H rfl rfl (lt_ rfl) fun a H => s_fld H rfl rfl fld_130_1 (lt_ rfl) fun a H => ?_
 obtain ⟨l6, hc7, h⟩ := h
 refine s_load (v := (.i l6)) H rfl rfl one_30 hc7 (lt_ rfl) fun a H => s_bin H rfl rfl rfl r_neq (lt_ rfl) fun a H => c_nil <| hK4 _ _ <| c_cond H rfl (fun h8 => ?_) (fun h8 => ?_)
 ·replace h := h.1 h8
  refine c_seq fun K9 hK9 => c_reg <| s_assign H rfl rfl (lt_ rfl) fun a H => c_nil <| hK9 _ _ <| c_ret ?_
  exact e_ret1 H rfl rfl h
 ·replace h := h.2 h8
  refine c_skip <| hK3 _ _ <| c_seq fun K10 hK10 => c_reg ?_
  replace h := h.get
  obtain ⟨b11, w12, n13, h⟩ := h
  refine s_bslc H rfl (by rw [H.parts (vs := []) rfl]; exact bs_22_0 w) (lt_ rfl) ?_
  rw [← n13.at_]
  clear H a
  intro a H
  refine n13.go <| s_move H rfl rfl (lt_ rfl) fun a H => s_nil H rfl rfl (lt_ rfl) fun a H => s_fld H rfl rfl fld_130_0 (lt_ rfl) fun a H => ?_
  obtain ⟨l14, hc15, h⟩ := h
  refine s_load (v := l14.v) H rfl rfl one_22 hc15 (lt_ rfl) fun a H => ?_
  obtain ⟨s16, w17, h18, h⟩ := h
  refine s_blt H rfl (H.args (vs := [(Slc.v (Slc.mk (some (blk b11)) 0 0)), l14.v]) rfl) (lt_ rfl) (fun cs => b_app (z := s16) h18) ?_
  clear H a h18
  intro a H
  refine s_assign H rfl rfl (lt_ rfl) fun a H => c_nil <| hK10 _ _ <| c_ret ?_
  exact e_ret1 H rfl rfl h

theorem sim_record_may (K1 : Int) (K2 : ByteArray) (C3 C4 : Int) (F5 H6 : Bool) (D7 : Slc) (w : World) (Q : Ending → World → Prop) (h : vc_record_may K1 K2 C3 C4 F5 H6 D7 w Q) : Calls PP F_record_may #[(.agg #[(.i K1), (.string K2), (.i C3), (.i C4), (.bool F5), (.bool H6), D7.v])] w Q := by
 unfold vc_record_may at h
 refine enter (n := 74) Tryz.func62 rfl rfl (Nat.le_of_ble_eq_true rfl) fun a H => c_seq fun K8 hK8 => c_reg ?_
 replace h := h.get
 obtain ⟨b9, w10, n11, h⟩ := h
 refine s_box H rfl rfl (lt_ rfl) ?_
 rw [← n11.at_]
 clear H a
 intro a H
 refine n11.go <| s_assign H rfl rfl (lt_ rfl) fun a H => c_nil <| hK8 _ _ <| c_seq fun K12 hK12 => c_reg <| s_fld H rfl rfl fld_28_0 (lt_ rfl) fun a H => s_load (v := (.i K1)) H rfl rfl one_3 (n11.cell (i := 0) rfl) (lt_ rfl) fun a H => s_bin H rfl rfl rfl r_eql (lt_ rfl) fun a H => s_move H rfl rfl (lt_ rfl) fun a H => ?_
 refine g_join (n := 74) [(16, (.bool ((decide (K1 = 1)) || ((decide (K1 = 3)) && H6)))), (1, (.pointer (some (blk b9))))] (.succ (.succ (.succ (.succ (.succ (.succ (.succ (.succ (.succ (.zero _)))))))))) ?_ ?_
 ·intro h14
  try clear h
  rcases Bool.eq_false_or_eq_true (decide (K1 = 1)) with h13 | h13
  ·replace H := H.ch (t := 7) (b := true) rfl h13
   iterate 4 refine s_skip H (wantN H rfl rfl rfl) rfl (lt_ rfl) fun a H => ?_
   iterate 3 refine s_skip H (wantU H rfl rfl) rfl (lt_ rfl) fun a H => ?_
   refine s_skip H (wantN H rfl rfl rfl) rfl (lt_ rfl) fun a H => s_pickT H rfl rfl rfl (lt_ rfl) fun a H => ?_
   exact h14 _ (H.weaken ⟨by rw [h13]; rfl, rfl, trivial⟩)
  ·replace H := H.ch (t := 7) (b := false) rfl h13
   refine s_fld H (wantG H rfl rfl) rfl fld_28_0 (lt_ rfl) fun a H => s_load (v := (.i K1)) H (wantG H rfl rfl) rfl one_3 (n11.cell (i := 0) rfl) (lt_ rfl) fun a H => s_bin H (wantG H rfl rfl) rfl rfl r_eql (lt_ rfl) fun a H => s_move H (wantG H rfl rfl) rfl (lt_ rfl) fun a H => g_join (n := 74) [(15, (.bool ((decide (K1 = 3)) && H6))), (1, (.pointer (some (blk b9)))), (7, (.bool false))] (.succ (.succ (.succ (.succ (.zero _))))) ?_ ?_
   ·intro h16
    try clear h
    rcases Bool.eq_false_or_eq_true (decide (K1 = 3)) with h15 | h15
    ·replace H := H.ch (t := 11) (b := true) rfl h15
     refine s_fld H (wantG H rfl rfl) rfl fld_28_2 (lt_ rfl) fun a H => s_fld H (wantG H rfl rfl) rfl fld_26_2 (lt_ rfl) fun a H => s_load (v := (.bool H6)) H (wantG H rfl rfl) rfl one_4 (n11.cell (i := 5) rfl) (lt_ rfl) fun a H => s_pickT H (wantG H rfl rfl) rfl rfl (lt_ rfl) fun a H => ?_
     exact h16 _ (H.weaken ⟨by rw [h15]; rfl, rfl, rfl, trivial⟩)
    ·replace H := H.ch (t := 11) (b := false) rfl h15
     iterate 3 refine s_skip H (wantN H rfl rfl rfl) rfl (lt_ rfl) fun a H => ?_
     refine s_pickF H (wantG H rfl rfl) rfl rfl (lt_ rfl) fun a H => ?_
     exact h16 _ (H.weaken ⟨by rw [h15]; rfl, rfl, rfl, trivial⟩)
   ·clear H a
    intro a H
    refine s_pickF H rfl rfl rfl (lt_ rfl) fun a H => ?_
    exact h14 _ (H.weaken ⟨by rw [h13]; rfl, rfl, trivial⟩)
 ·clear H a
  intro a H
  refine s_assign H rfl rfl (lt_ rfl) fun a H => c_nil <| hK12 _ _ <| c_seq fun K17 hK17 => c_block <| c_seq fun K18 hK18 => c_reg <| s_fld H rfl rfl fld_28_0 (lt_ rfl) fun a H => s_load (v := (.i K1)) H rfl rfl one_3 (n11.cell (i := 0) rfl) (lt_ rfl) fun a H => s_bin H rfl rfl rfl r_lss (lt_ rfl) fun a H => s_move H rfl rfl (lt_ rfl) fun a H => ?_
  refine g_join (n := 74) [(25, (.bool ((decide (K1 < 1)) || (decide (3 < K1))))), (1, (.pointer (some (blk b9)))), (3, (.bool ((decide (K1 = 1)) || ((decide (K1 = 3)) && H6))))] (.succ (.succ (.succ (.succ (.zero _))))) ?_ ?_
  ·intro h20
   try clear h
   rcases Bool.eq_false_or_eq_true (decide (K1 < 1)) with h19 | h19
   ·replace H := H.ch (t := 21) (b := true) rfl h19
    iterate 3 refine s_skip H (wantN H rfl rfl rfl) rfl (lt_ rfl) fun a H => ?_
    refine s_pickT H rfl rfl rfl (lt_ rfl) fun a H => ?_
    exact h20 _ (H.weaken ⟨by rw [h19]; rfl, rfl, rfl, trivial⟩)
   ·replace H := H.ch (t := 21) (b := false) rfl h19
    refine s_fld H (wantG H rfl rfl) rfl fld_28_0 (lt_ rfl) fun a H => s_load (v := (.i K1)) H (wantG H rfl rfl) rfl one_3 (n11.cell (i := 0) rfl) (lt_ rfl) fun a H => s_bin H (wantG H rfl rfl) rfl rfl r_gtr (lt_ rfl) fun a H => s_pickF H rfl rfl rfl (lt_ rfl) fun a H => ?_
    exact h20 _ (H.weaken ⟨by rw [h19]; rfl, rfl, rfl, trivial⟩)
  ·clear H a
   intro a H
   refine s_assign H rfl rfl (lt_ rfl) fun a H => c_nil <| hK18 _ _ <| c_cond H rfl (fun h21 => ?_) (fun h21 => ?_)
   ·replace h := h.1 h21
    refine c_seq fun K22 hK22 => c_reg <| s_assign H rfl rfl (lt_ rfl) fun a H => c_nil <| hK22 _ _ <| c_ret ?_
    exact e_ret1 H rfl rfl h
   ·replace h := h.2 h21
    refine c_seq fun K23 hK23 => c_reg <| s_fld H rfl rfl fld_28_1 (lt_ rfl) fun a H => s_load (v := (.string K2)) H rfl rfl one_9 (n11.cell (i := 1) rfl) (lt_ rfl) fun a H => s_blt H rfl (H.args (vs := [(.string K2)]) rfl) (lt_ rfl) (fun cs => b_lenT str_9) fun a H => s_bin H rfl rfl rfl r_lss (lt_ rfl) fun a H => s_move H rfl rfl (lt_ rfl) fun a H => ?_
    refine g_join (n := 74) [(36, (.bool ((decide ((K2.size : Int) < 1)) || (decide (64 < (K2.size : Int)))))), (1, (.pointer (some (blk b9)))), (3, (.bool ((decide (K1 = 1)) || ((decide (K1 = 3)) && H6))))] (.succ (.succ (.succ (.succ (.succ (.zero _)))))) ?_ ?_
    ·intro h25
     try clear h
     rcases Bool.eq_false_or_eq_true (decide ((K2.size : Int) < 1)) with h24 | h24
     ·replace H := H.ch (t := 31) (b := true) rfl h24
      iterate 4 refine s_skip H (wantN H rfl rfl rfl) rfl (lt_ rfl) fun a H => ?_
      refine s_pickT H rfl rfl rfl (lt_ rfl) fun a H => ?_
      exact h25 _ (H.weaken ⟨by rw [h24]; rfl, rfl, rfl, trivial⟩)
     ·replace H := H.ch (t := 31) (b := false) rfl h24
      refine s_fld H (wantG H rfl rfl) rfl fld_28_1 (lt_ rfl) fun a H => s_load (v := (.string K2)) H (wantG H rfl rfl) rfl one_9 (n11.cell (i := 1) rfl) (lt_ rfl) fun a H => s_blt H (wantG H rfl rfl) (H.args (vs := [(.string K2)]) rfl) (lt_ rfl) (fun cs => b_lenT str_9) fun a H => s_bin H (wantG H rfl rfl) rfl rfl r_gtr (lt_ rfl) fun a H => s_pickF H rfl rfl rfl (lt_ rfl) fun a H => ?_
      exact h25 _ (H.weaken ⟨by rw [h24]; rfl, rfl, rfl, trivial⟩)
    ·clear H a
     intro a H
     refine s_assign H rfl rfl (lt_ rfl) fun a H => c_nil <| hK23 _ _ <| c_cond H rfl (fun h26 => ?_) (fun h26 => ?_)
     ·replace h := h.1 h26
      refine c_seq fun K27 hK27 => c_reg <| s_assign H rfl rfl (lt_ rfl) fun a H => c_nil <| hK27 _ _ <| c_ret ?_
      exact e_ret1 H rfl rfl h
     ·replace h := h.2 h26
      refine c_seq fun K28 hK28 => c_reg <| s_fld H rfl rfl fld_28_2 (lt_ rfl) fun a H => s_fld H rfl rfl fld_26_0 (lt_ rfl) fun a H => s_loadN (l := [(.i C3), (.i C4)]) H rfl rfl agg_24 rfl ⟨(n11.cell (i := 2) rfl), (n11.cell (i := 3) rfl), trivial⟩ (lt_ rfl) fun a H => s_call H rfl body_87 (H.args (vs := [(.agg #[(.i C3), (.i C4)])]) rfl) (lt_ rfl) h ?_ (fun c w' h H => e_panic (P := PP) (fn := Tryz.f62) H h)
      clear H h a
      rintro _ w29 a ⟨Z30, rfl, h⟩ H
      refine s_move H rfl rfl (lt_ rfl) fun a H => ?_
      obtain ⟨R33, h, h78⟩ := h
      refine g_joinW (n := 74) R33 (fun x34 => [(48, (.bool x34)), (1, (.pointer (some (blk b9)))), (3, (.bool ((decide (K1 = 1)) || ((decide (K1 = 3)) && H6))))]) (.succ (.succ (.succ (.succ (.succ (.succ (.zero _))))))) ?_ ?_
      ·intro h32
       clear h78
       rcases Bool.eq_false_or_eq_true Z30 with h31 | h31
       ·replace H := H.ch (t := 42) (b := true) rfl h31
        replace h := h.2 h31
        iterate 5 refine s_skip H (wantN H rfl rfl rfl) rfl (lt_ rfl) fun a H => ?_
        refine s_pickT H rfl rfl rfl (lt_ rfl) fun a H => ?_
        exact h32 _ _ _ h (H.weaken ⟨rfl, rfl, rfl, trivial⟩)
       ·replace H := H.ch (t := 42) (b := false) rfl h31
        replace h := h.1 h31
        refine s_fld H (wantG H rfl rfl) rfl fld_28_2 (lt_ rfl) fun a H => s_fld H (wantG H rfl rfl) rfl fld_26_0 (lt_ rfl) fun a H => ?_
        obtain ⟨C36, hc37, C38, hc39, h⟩ := h
        refine s_loadN (l := [(.i C36), (.i C38)]) H (wantG H rfl rfl) rfl agg_24 rfl ⟨hc37, hc39, trivial⟩ (lt_ rfl) fun a H => s_call H (wantG H rfl rfl) body_88 (H.args (vs := [(.agg #[(.i C36), (.i C38)])]) rfl) (lt_ rfl) h ?_ (fun c w' h H => e_panic (P := PP) (fn := Tryz.f62) H h)
        clear H h a
        rintro _ w40 a ⟨V41, rfl, h⟩ H
        refine s_un H (wantG H rfl rfl) rfl r_not (lt_ rfl) fun a H => s_pickF H rfl rfl rfl (lt_ rfl) fun a H => ?_
        exact h32 _ _ _ h (H.weaken ⟨rfl, rfl, rfl, trivial⟩)
      ·clear H a h
       intro a x34 w35 h H
       replace h := h78 x34 w35 h
       clear h78
       refine s_assign H rfl rfl (lt_ rfl) fun a H => c_nil <| hK28 _ _ <| c_cond H rfl (fun h46 => ?_) (fun h46 => ?_)
       ·replace h := h.1 h46
        refine c_seq fun K47 hK47 => c_reg <| s_assign H rfl rfl (lt_ rfl) fun a H => c_nil <| hK47 _ _ <| c_ret ?_
        exact e_ret1 H rfl rfl h
       ·replace h := h.2 h46
        refine c_seq fun K48 hK48 => c_reg <| s_fld H rfl rfl fld_28_0 (lt_ rfl) fun a H => ?_
        obtain ⟨l49, hc50, h⟩ := h
        refine s_load (v := (.i l49)) H rfl rfl one_3 hc50 (lt_ rfl) fun a H => s_bin H rfl rfl rfl r_eql (lt_ rfl) fun a H => s_move H rfl rfl (lt_ rfl) fun a H => ?_
        obtain ⟨x55, h56, h57, h⟩ := h
        refine g_join (n := 74) [(58, (.bool x55)), (1, (.pointer (some (blk b9)))), (3, (.bool ((decide (K1 = 1)) || ((decide (K1 = 3)) && H6))))] (.succ (.succ (.succ (.succ (.succ (.zero _)))))) ?_ ?_
        ·intro h52
         try clear h
         rcases Bool.eq_false_or_eq_true (decide (l49 = 3)) with h51 | h51
         ·replace H := H.ch (t := 53) (b := true) rfl h51
          replace h := h56 h51
          refine s_fld H (wantG H rfl rfl) rfl fld_28_2 (lt_ rfl) fun a H => s_fld H (wantG H rfl rfl) rfl fld_26_1 (lt_ rfl) fun a H => ?_
          obtain ⟨l53, hc54, h⟩ := h
          refine s_load (v := (.bool l53)) H (wantG H rfl rfl) rfl one_4 hc54 (lt_ rfl) fun a H => s_un H (wantG H rfl rfl) rfl r_not (lt_ rfl) fun a H => s_pickT H rfl rfl rfl (lt_ rfl) fun a H => ?_
          subst h
          exact h52 _ (H.weaken ⟨rfl, rfl, rfl, trivial⟩)
         ·replace H := H.ch (t := 53) (b := false) rfl h51
          iterate 4 refine s_skip H (wantN H rfl rfl rfl) rfl (lt_ rfl) fun a H => ?_
          refine s_pickF H rfl rfl rfl (lt_ rfl) fun a H => ?_
          replace h := h57 h51
          subst h
          exact h52 _ (H.weaken ⟨rfl, rfl, rfl, trivial⟩)
        ·clear H a
         clear h56 h57
         intro a H
         refine s_move H rfl rfl (lt_ rfl) fun a H => ?_
         obtain ⟨x62, h63, h64, h⟩ := h
         refine g_join (n := 74) [(64, (.bool x62)), (1, (.pointer (some (blk b9)))), (3, (.bool ((decide (K1 = 1)) || ((decide (K1 = 3)) && H6))))] (.succ (.succ (.succ (.succ (.succ (.zero _)))))) ?_ ?_
         ·intro h59
          try clear h
          rcases Bool.eq_false_or_eq_true x55 with h58 | h58
          ·replace H := H.ch (t := 59) (b := true) rfl h58
           replace h := h63 h58
           refine s_fld H (wantG H rfl rfl) rfl fld_28_2 (lt_ rfl) fun a H => s_fld H (wantG H rfl rfl) rfl fld_26_2 (lt_ rfl) fun a H => ?_
           obtain ⟨l60, hc61, h⟩ := h
           refine s_load (v := (.bool l60)) H (wantG H rfl rfl) rfl one_4 hc61 (lt_ rfl) fun a H => s_un H (wantG H rfl rfl) rfl r_not (lt_ rfl) fun a H => s_pickT H rfl rfl rfl (lt_ rfl) fun a H => ?_
           subst h
           exact h59 _ (H.weaken ⟨rfl, rfl, rfl, trivial⟩)
          ·replace H := H.ch (t := 59) (b := false) rfl h58
           iterate 4 refine s_skip H (wantN H rfl rfl rfl) rfl (lt_ rfl) fun a H => ?_
           refine s_pickF H rfl rfl rfl (lt_ rfl) fun a H => ?_
           replace h := h64 h58
           subst h
           exact h59 _ (H.weaken ⟨rfl, rfl, rfl, trivial⟩)
         ·clear H a
          clear h63 h64
          intro a H
          refine s_assign H rfl rfl (lt_ rfl) fun a H => c_nil <| hK48 _ _ <| c_cond H rfl (fun h65 => ?_) (fun h65 => ?_)
          ·replace h := h.1 h65
           refine c_seq fun K66 hK66 => c_reg <| s_assign H rfl rfl (lt_ rfl) fun a H => c_nil <| hK66 _ _ <| c_ret ?_
           exact e_ret1 H rfl rfl h
          ·replace h := h.2 h65
           refine c_seq fun K67 hK67 => c_reg <| s_move H rfl rfl (lt_ rfl) fun a H => s_move H rfl rfl (lt_ rfl) fun a H => ?_
           obtain ⟨x72, h73, h74, h⟩ := h
           refine g_join (n := 74) [(73, (.bool x72))] (.succ (.succ (.succ (.succ (.succ (.succ (.zero _))))))) ?_ ?_
           ·intro h69
            try clear h
            rcases Bool.eq_false_or_eq_true ((decide (K1 = 1)) || ((decide (K1 = 3)) && H6)) with h68 | h68
            ·replace H := H.ch (t := 67) (b := true) rfl h68
             replace h := h73 h68
             refine s_fld H (wantG H rfl rfl) rfl fld_28_2 (lt_ rfl) fun a H => s_fld H (wantG H rfl rfl) rfl fld_26_3 (lt_ rfl) fun a H => ?_
             obtain ⟨l70, hc71, h⟩ := h
             refine s_load (v := l70.v) H (wantG H rfl rfl) rfl one_22 hc71 (lt_ rfl) fun a H => s_blt H (wantG H rfl rfl) (H.args (vs := [l70.v]) rfl) (lt_ rfl) (fun cs => b_lenS (z := l70) sl_22) fun a H => s_bin H (wantG H rfl rfl) rfl rfl r_gtr (lt_ rfl) fun a H => s_pickT H rfl rfl rfl (lt_ rfl) fun a H => ?_
             subst h
             exact h69 _ (H.weaken ⟨rfl, trivial⟩)
            ·replace H := H.ch (t := 67) (b := false) rfl h68
             iterate 5 refine s_skip H (wantN H rfl rfl rfl) rfl (lt_ rfl) fun a H => ?_
             refine s_pickF H rfl rfl rfl (lt_ rfl) fun a H => ?_
             replace h := h74 h68
             subst h
             exact h69 _ (H.weaken ⟨rfl, trivial⟩)
           ·clear H a
            clear h73 h74
            intro a H
            refine s_assign H rfl rfl (lt_ rfl) fun a H => c_nil <| hK67 _ _ <| c_cond H rfl (fun h75 => ?_) (fun h75 => ?_)
            ·replace h := h.1 h75
             refine c_seq fun K76 hK76 => c_reg <| s_assign H rfl rfl (lt_ rfl) fun a H => c_nil <| hK76 _ _ <| c_ret ?_
             exact e_ret1 H rfl rfl h
            ·replace h := h.2 h75
             refine c_skip <| hK17 _ _ <| c_seq fun K77 hK77 => c_reg <| s_assign H rfl rfl (lt_ rfl) fun a H => c_nil <| hK77 _ _ <| c_ret ?_
             exact e_ret1 H rfl rfl h

theorem sim_pack_Writer_Bytes (w1 : Option Addr) (b2 : Slc) (w : World) (Q : Ending → World → Prop) (h : vc_pack_Writer_Bytes w1 b2 w Q) : Calls PP F_pack_Writer_Bytes #[(.pointer w1), b2.v] w Q := by
 unfold vc_pack_Writer_Bytes at h
 refine enter (n := 11) Tryz.func63 rfl rfl (Nat.le_of_ble_eq_true rfl) fun a H => c_seq fun K3 hK3 => c_reg <| s_move H rfl rfl (lt_ rfl) fun a H => s_move H rfl rfl (lt_ rfl) fun a H => s_blt H rfl (H.args (vs := [b2.v]) rfl) (lt_ rfl) (fun cs => b_lenS (z := b2) sl_22) fun a H => s_call H rfl body_23 (H.args (vs := [(.pointer w1), (.i (b2.l : Int))]) rfl) (lt_ rfl) h ?_ (fun c w' h H => e_panic (P := PP) (fn := Tryz.f63) H h)
 clear H h a
 rintro _ w4 a ⟨rfl, h⟩ H
 refine c_nil <| hK3 _ _ <| c_reg <| s_move H rfl rfl (lt_ rfl) fun a H => s_move H rfl rfl (lt_ rfl) fun a H => s_call H rfl body_35 (H.args (vs := [(.pointer w1), b2.v]) rfl) (lt_ rfl) h ?_ (fun c w' h H => e_panic (P := PP) (fn := Tryz.f63) H h)
 clear H h a
 rintro _ w5 a ⟨rfl, h⟩ H
 refine c_nil ?_
 exact e_ret0 H rfl h

theorem sim_record_body (K1 : Int) (K2 : ByteArray) (C3 C4 : Int) (F5 H6 : Bool) (D7 : Slc) (w : World) (Q : Ending → World → Prop) (h : vc_record_body K1 K2 C3 C4 F5 H6 D7 w Q) : Calls PP F_record_body #[(.agg #[(.i K1), (.string K2), (.i C3), (.i C4), (.bool F5), (.bool H6), D7.v])] w Q := by
 unfold vc_record_body at h
 refine enter (n := 54) Tryz.func64 rfl rfl (Nat.le_of_ble_eq_true rfl) fun a H => c_seq fun K8 hK8 => c_reg ?_
 replace h := h.get
 obtain ⟨b9, w10, n11, h⟩ := h
 refine s_box H rfl rfl (lt_ rfl) ?_
 rw [← n11.at_]
 clear H a
 intro a H
 refine n11.go <| s_assign H rfl rfl (lt_ rfl) fun a H => c_nil <| hK8 _ _ <| c_seq fun K12 hK12 => c_reg <| s_call H rfl body_21 (H.args (vs := []) rfl) (lt_ rfl) h ?_ (fun c w' h H => e_panic (P := PP) (fn := Tryz.f64) H h)
 clear H h a
 rintro _ w13 a ⟨N14, rfl, h⟩ H
 refine s_assign H rfl rfl (lt_ rfl) fun a H => c_nil <| hK12 _ _ <| c_seq fun K15 hK15 => c_reg <| s_move H rfl rfl (lt_ rfl) fun a H => s_fld H rfl rfl fld_28_0 (lt_ rfl) fun a H => ?_
 obtain ⟨l16, hc17, h⟩ := h
 refine s_load (v := (.i l16)) H rfl rfl one_3 hc17 (lt_ rfl) fun a H => s_cv H rfl rfl (r_cvI some_3 int_5) (lt_ rfl) fun a H => s_call H rfl body_22 (H.args (vs := [(.pointer N14), (.int .u8 (wr .u8 l16))]) rfl) (lt_ rfl) h ?_ (fun c w' h H => e_panic (P := PP) (fn := Tryz.f64) H h)
 clear H h a
 rintro _ w18 a ⟨rfl, h⟩ H
 refine c_nil <| hK15 _ _ <| c_seq fun K19 hK19 => c_reg <| s_move H rfl rfl (lt_ rfl) fun a H => s_fld H rfl rfl fld_28_1 (lt_ rfl) fun a H => ?_
 obtain ⟨l20, hc21, h⟩ := h
 refine s_load (v := (.string l20)) H rfl rfl one_9 hc21 (lt_ rfl) fun a H => s_call H rfl body_89 (H.args (vs := [(.pointer N14), (.string l20)]) rfl) (lt_ rfl) h ?_ (fun c w' h H => e_panic (P := PP) (fn := Tryz.f64) H h)
 clear H h a
 rintro _ w22 a ⟨rfl, h⟩ H
 refine c_nil <| hK19 _ _ <| c_seq fun K23 hK23 => c_reg <| s_move H rfl rfl (lt_ rfl) fun a H => s_fld H rfl rfl fld_28_2 (lt_ rfl) fun a H => s_fld H rfl rfl fld_26_0 (lt_ rfl) fun a H => s_fld H rfl rfl fld_24_0 (lt_ rfl) fun a H => ?_
 obtain ⟨l24, hc25, h⟩ := h
 refine s_load (v := (.i l24)) H rfl rfl one_2 hc25 (lt_ rfl) fun a H => s_call H rfl body_23 (H.args (vs := [(.pointer N14), (.i l24)]) rfl) (lt_ rfl) h ?_ (fun c w' h H => e_panic (P := PP) (fn := Tryz.f64) H h)
 clear H h a
 rintro _ w26 a ⟨rfl, h⟩ H
 refine c_nil <| hK23 _ _ <| c_seq fun K27 hK27 => c_reg <| s_move H rfl rfl (lt_ rfl) fun a H => s_fld H rfl rfl fld_28_2 (lt_ rfl) fun a H => s_fld H rfl rfl fld_26_0 (lt_ rfl) fun a H => s_fld H rfl rfl fld_24_1 (lt_ rfl) fun a H => ?_
 obtain ⟨l28, hc29, h⟩ := h
 refine s_load (v := (.i l28)) H rfl rfl one_3 hc29 (lt_ rfl) fun a H => s_call H rfl body_23 (H.args (vs := [(.pointer N14), (.i l28)]) rfl) (lt_ rfl) h ?_ (fun c w' h H => e_panic (P := PP) (fn := Tryz.f64) H h)
 clear H h a
 rintro _ w30 a ⟨rfl, h⟩ H
 refine c_nil <| hK27 _ _ <| c_seq fun K31 hK31 => c_reg <| s_fld H rfl rfl fld_28_0 (lt_ rfl) fun a H => ?_
 obtain ⟨l32, hc33, h⟩ := h
 refine s_load (v := (.i l32)) H rfl rfl one_3 hc33 (lt_ rfl) fun a H => s_bin H rfl rfl rfl r_eql (lt_ rfl) fun a H => s_assign H rfl rfl (lt_ rfl) fun a H => c_nil <| hK31 _ _ <| c_seq fun K34 hK34 => ?_
 obtain ⟨R36, h, h82⟩ := h
 have h59 : ∀ (a : Act) (h35 : Bool) (w37 : World), R36 h35 w37 → Has 54 [] a [(1, (.pointer (some (blk b9)))), (3, (.pointer N14)), (4, (.bool h35))] → K34 a w37 := by
  clear h
  intro a h35 w37 h H
  replace h := h82 h35 w37 h
  refine hK34 _ _ <| c_seq fun K38 hK38 => ?_
  obtain ⟨R39, h, h58⟩ := h
  have h48 : ∀ (a : Act) (w40 : World), R39 w40 → Has 54 [] a [(3, (.pointer N14))] → K38 a w40 := by
   clear h
   intro a w40 h H
   replace h := h58 w40 h
   refine hK38 _ _ <| c_seq fun K41 hK41 => c_reg <| s_move H rfl rfl (lt_ rfl) fun a H => s_call H rfl body_24 (H.args (vs := [(.pointer N14)]) rfl) (lt_ rfl) h ?_ (fun c w' h H => e_panic (P := PP) (fn := Tryz.f64) H h)
   clear H h a
   rintro _ w42 a ⟨D43, rfl, h⟩ H
   refine s_assign H rfl rfl (lt_ rfl) fun a H => c_nil <| hK41 _ _ <| c_ret ?_
   exact e_ret1 H rfl rfl h
  clear h58
  refine c_seq fun K49 hK49 => c_reg <| s_move H rfl rfl (lt_ rfl) fun a H => c_nil <| hK49 _ _ <| c_cond H rfl (fun h50 => ?_) (fun h50 => ?_)
  ·replace h := h.1 h50
   refine c_reg <| s_move H rfl rfl (lt_ rfl) fun a H => s_fld H rfl rfl fld_28_2 (lt_ rfl) fun a H => s_fld H rfl rfl fld_26_3 (lt_ rfl) fun a H => ?_
   obtain ⟨l51, hc52, h⟩ := h
   refine s_load (v := l51.v) H rfl rfl one_22 hc52 (lt_ rfl) fun a H => s_call H rfl body_63 (H.args (vs := [(.pointer N14), l51.v]) rfl) (lt_ rfl) h ?_ (fun c w' h H => e_panic (P := PP) (fn := Tryz.f64) H h)
   clear H h a
   rintro _ w53 a ⟨rfl, h⟩ H
   refine c_nil ?_
   exact h48 _ _ h (H.weaken ⟨rfl, trivial⟩)
  ·replace h := h.2 h50
   refine c_skip ?_
   exact h48 _ _ h (H.weaken ⟨rfl, trivial⟩)
 clear h82
 refine c_seq fun K60 hK60 => c_reg <| s_fld H rfl rfl fld_28_0 (lt_ rfl) fun a H => ?_
 obtain ⟨l61, hc62, h⟩ := h
 refine s_load (v := (.i l61)) H rfl rfl one_3 hc62 (lt_ rfl) fun a H => s_bin H rfl rfl rfl r_eql (lt_ rfl) fun a H => c_nil <| hK60 _ _ <| c_cond H rfl (fun h63 => ?_) (fun h63 => ?_)
 ·replace h := h.1 h63
  refine c_seq fun K64 hK64 => c_reg <| s_move H rfl rfl (lt_ rfl) fun a H => s_fld H rfl rfl fld_28_2 (lt_ rfl) fun a H => s_fld H rfl rfl fld_26_1 (lt_ rfl) fun a H => ?_
  obtain ⟨l65, hc66, h⟩ := h
  refine s_load (v := (.bool l65)) H rfl rfl one_4 hc66 (lt_ rfl) fun a H => s_call H rfl body_90 (H.args (vs := [(.pointer N14), (.bool l65)]) rfl) (lt_ rfl) h ?_ (fun c w' h H => e_panic (P := PP) (fn := Tryz.f64) H h)
  clear H h a
  rintro _ w67 a ⟨rfl, h⟩ H
  refine c_nil <| hK64 _ _ <| c_seq fun K68 hK68 => c_reg <| s_move H rfl rfl (lt_ rfl) fun a H => s_fld H rfl rfl fld_28_2 (lt_ rfl) fun a H => s_fld H rfl rfl fld_26_2 (lt_ rfl) fun a H => ?_
  obtain ⟨l69, hc70, h⟩ := h
  refine s_load (v := (.bool l69)) H rfl rfl one_4 hc70 (lt_ rfl) fun a H => s_call H rfl body_90 (H.args (vs := [(.pointer N14), (.bool l69)]) rfl) (lt_ rfl) h ?_ (fun c w' h H => e_panic (P := PP) (fn := Tryz.f64) H h)
  clear H h a
  rintro _ w71 a ⟨rfl, h⟩ H
  refine c_nil <| hK68 _ _ <| c_reg <| s_fld H rfl rfl fld_28_2 (lt_ rfl) fun a H => s_fld H rfl rfl fld_26_2 (lt_ rfl) fun a H => ?_
  obtain ⟨l72, hc73, h⟩ := h
  refine s_load (v := (.bool l72)) H rfl rfl one_4 hc73 (lt_ rfl) fun a H => s_assign H rfl rfl (lt_ rfl) fun a H => c_nil ?_
  exact h59 _ _ _ h (H.weaken ⟨rfl, rfl, rfl, trivial⟩)
 ·replace h := h.2 h63
  refine c_skip ?_
  exact h59 _ _ _ h (H.weaken ⟨rfl, rfl, rfl, trivial⟩)

theorem sim_sherdref07_number (l1 : Slc) (m2 : Int) (w : World) (Q : Ending → World → Prop) (h : vc_sherdref07_number l1 m2 w Q) : Calls PP F_sherdref07_number #[l1.v, (.i m2)] w Q := by
 unfold vc_sherdref07_number at h
 refine enter (n := 71) Tryz.func65 rfl rfl (Nat.le_of_ble_eq_true rfl) fun a H => c_seq fun K3 hK3 => c_reg ?_
 iterate 3 refine s_assign H rfl rfl (lt_ rfl) fun a H => ?_
 refine c_nil <| hK3 _ _ <| c_seq fun K4 hK4 => c_reg <| s_assign H rfl rfl (lt_ rfl) fun a H => c_nil <| hK4 _ _ <| c_seq fun K5 hK5 => c_seq fun K6 hK6 => c_reg <| s_assign H rfl rfl (lt_ rfl) fun a H => c_nil <| hK6 _ _ <| c_block ?_
 obtain ⟨I10, m11, h83, h84⟩ := h
 refine c_loop (σ := Int × Int) (fun z w => I10 z.1 z.2 w) (fun z w => m11 z.1 z.2 w) (fun z => [(0, l1.v), (1, (.i m2)), (7, (.i z.1)), (8, (.i z.2))]) (0, 0) h83 (H.weaken ⟨rfl, rfl, rfl, rfl, trivial⟩) ?_
 clear H h83
 rintro ⟨s7, i8⟩ a w9 h H
 replace h := h84 s7 i8 w9 h
 clear h84
 replace H : Has 71 [] a [(0, l1.v), (1, (.i m2)), (7, (.i s7)), (8, (.i i8))] := H
 refine c_seq fun K12 hK12 => c_seq fun K13 hK13 => c_reg <| s_move H rfl rfl (lt_ rfl) fun a H => s_move H rfl rfl (lt_ rfl) fun a H => s_blt H rfl (H.args (vs := [l1.v]) rfl) (lt_ rfl) (fun cs => b_lenS (z := l1) sl_22) fun a H => s_bin H rfl rfl rfl r_lss (lt_ rfl) fun a H => s_move H rfl rfl (lt_ rfl) fun a H => ?_
 refine g_join (n := 71) [(18, (.bool ((decide (i8 < (l1.l : Int))) && (decide (i8 < 9))))), (0, l1.v), (1, (.i m2)), (7, (.i s7)), (8, (.i i8))] (.succ (.succ (.succ (.zero _)))) ?_ ?_
 ·intro h15
  try clear h
  rcases Bool.eq_false_or_eq_true (decide (i8 < (l1.l : Int))) with h14 | h14
  ·replace H := H.ch (t := 15) (b := true) rfl h14
   refine s_move H (wantG H rfl rfl) rfl (lt_ rfl) fun a H => s_bin H (wantG H rfl rfl) rfl rfl r_lss (lt_ rfl) fun a H => s_pickT H rfl rfl rfl (lt_ rfl) fun a H => ?_
   exact h15 _ (H.weaken ⟨by rw [h14]; rfl, rfl, rfl, rfl, rfl, trivial⟩)
  ·replace H := H.ch (t := 15) (b := false) rfl h14
   refine s_skip H (wantN H rfl rfl rfl) rfl (lt_ rfl) fun a H => s_skip H (wantN H rfl rfl rfl) rfl (lt_ rfl) fun a H => s_pickF H rfl rfl rfl (lt_ rfl) fun a H => ?_
   exact h15 _ (H.weaken ⟨by rw [h14]; rfl, rfl, rfl, rfl, rfl, trivial⟩)
 ·clear H a
  intro a H
  refine s_move H rfl rfl (lt_ rfl) fun a H => g_join (n := 71) [(22, (.bool (((decide (i8 < (l1.l : Int))) && (decide (i8 < 9))) && (decide (s7 = 0))))), (0, l1.v), (1, (.i m2)), (7, (.i s7)), (8, (.i i8))] (.succ (.succ (.succ (.zero _)))) ?_ ?_
  ·intro h17
   try clear h
   rcases Bool.eq_false_or_eq_true ((decide (i8 < (l1.l : Int))) && (decide (i8 < 9))) with h16 | h16
   ·replace H := H.ch (t := 19) (b := true) rfl h16
    refine s_move H (wantG H rfl rfl) rfl (lt_ rfl) fun a H => s_bin H (wantG H rfl rfl) rfl rfl r_eql (lt_ rfl) fun a H => s_pickT H rfl rfl rfl (lt_ rfl) fun a H => ?_
    exact h17 _ (H.weaken ⟨by rw [h16]; rfl, rfl, rfl, rfl, rfl, trivial⟩)
   ·replace H := H.ch (t := 19) (b := false) rfl h16
    refine s_skip H (wantN H rfl rfl rfl) rfl (lt_ rfl) fun a H => s_skip H (wantN H rfl rfl rfl) rfl (lt_ rfl) fun a H => s_pickF H rfl rfl rfl (lt_ rfl) fun a H => ?_
    exact h17 _ (H.weaken ⟨by rw [h16]; rfl, rfl, rfl, rfl, rfl, trivial⟩)
  ·clear H a
   intro a H
   refine c_nil <| hK13 _ _ <| c_cond H rfl (fun h18 => ?_) (fun h18 => ?_)
   ·replace h := h.1 h18
    refine c_skip <| hK12 _ _ <| c_seq fun K19 hK19 => ?_
    obtain ⟨R21, h, h32⟩ := h
    have h23 : ∀ (a : Act) (s20 : Int) (w22 : World), R21 s20 w22 → Has 71 [] a [(0, l1.v), (1, (.i m2)), (7, (.i s20)), (8, (.i i8))] → K19 a w22 := by
     clear h
     intro a s20 w22 h H
     replace h := h32 s20 w22 h
     refine hK19 _ _ <| c_reg <| s_move H rfl rfl (lt_ rfl) fun a H => s_bin H rfl rfl rfl r_add (lt_ rfl) fun a H => s_assign H rfl rfl (lt_ rfl) fun a H => c_nil <| Exists.intro (s20, wr .i64 (i8 + 1)) ⟨h.1, h.2, H.weaken ⟨rfl, rfl, rfl, rfl, trivial⟩⟩
    clear h32
    refine c_block <| c_seq fun K24 hK24 => c_reg <| s_move H rfl rfl (lt_ rfl) fun a H => s_move H rfl rfl (lt_ rfl) fun a H => ?_
    obtain ⟨a25, h26, h27, h28, h⟩ := h
    refine s_idxS (s := l1) H rfl rfl rfl slc_22 h26 h27 h28 (lt_ rfl) fun a H => ?_
    obtain ⟨l29, hc30, h⟩ := h
    refine s_load (v := (.int .u8 l29)) H rfl rfl one_5 hc30 (lt_ rfl) fun a H => s_bin H rfl rfl rfl r_lss (lt_ rfl) fun a H => c_nil <| hK24 _ _ <| c_cond H rfl (fun h31 => ?_) (fun h31 => ?_)
    ·replace h := h.1 h31
     refine c_reg <| s_move H rfl rfl (lt_ rfl) fun a H => s_bin H rfl rfl rfl r_add (lt_ rfl) fun a H => s_assign H rfl rfl (lt_ rfl) fun a H => c_nil ?_
     exact h23 _ _ _ h (H.weaken ⟨rfl, rfl, rfl, rfl, trivial⟩)
    ·replace h := h.2 h31
     refine c_skip ?_
     exact h23 _ _ _ h (H.weaken ⟨rfl, rfl, rfl, rfl, trivial⟩)
   ·replace h := h.2 h18
    refine c_exit ?_
    first | (simp only [Exit.then, Exit.inBlock, ↓reduceIte]; fail_if_success simp only [Nat.reduceEqDiff]) | simp only [Exit.then, Exit.inBlock, ↓reduceIte, Nat.reduceEqDiff]
    refine hK5 _ _ <| c_seq fun K33 hK33 => c_seq fun K34 hK34 => c_reg <| s_move H rfl rfl (lt_ rfl) fun a H => s_bin H rfl rfl rfl r_eql (lt_ rfl) fun a H => s_move H rfl rfl (lt_ rfl) fun a H => g_join (n := 71) [(38, (.bool ((decide (s7 = 0)) && (decide (9 ≤ (l1.l : Int)))))), (0, l1.v), (1, (.i m2)), (7, (.i s7))] (.succ (.succ (.succ (.succ (.zero _))))) ?_ ?_
    ·intro h36
     try clear h
     rcases Bool.eq_false_or_eq_true (decide (s7 = 0)) with h35 | h35
     ·replace H := H.ch (t := 34) (b := true) rfl h35
      refine s_move H (wantG H rfl rfl) rfl (lt_ rfl) fun a H => s_blt H (wantG H rfl rfl) (H.args (vs := [l1.v]) rfl) (lt_ rfl) (fun cs => b_lenS (z := l1) sl_22) fun a H => s_bin H (wantG H rfl rfl) rfl rfl r_geq (lt_ rfl) fun a H => s_pickT H rfl rfl rfl (lt_ rfl) fun a H => ?_
      exact h36 _ (H.weaken ⟨by rw [h35]; rfl, rfl, rfl, rfl, trivial⟩)
     ·replace H := H.ch (t := 34) (b := false) rfl h35
      iterate 3 refine s_skip H (wantN H rfl rfl rfl) rfl (lt_ rfl) fun a H => ?_
      refine s_pickF H rfl rfl rfl (lt_ rfl) fun a H => ?_
      exact h36 _ (H.weaken ⟨by rw [h35]; rfl, rfl, rfl, rfl, trivial⟩)
    ·clear H a
     intro a H
     refine c_nil <| hK34 _ _ <| c_cond H rfl (fun h37 => ?_) (fun h37 => ?_)
     ·replace h := h.1 h37
      refine c_seq fun K38 hK38 => c_reg ?_
      iterate 3 refine s_assign H rfl rfl (lt_ rfl) fun a H => ?_
      refine c_nil <| hK38 _ _ <| c_ret ?_
      exact e_ret3 H rfl rfl rfl rfl h
     ·replace h := h.2 h37
      refine c_skip <| hK33 _ _ <| c_seq fun K39 hK39 => c_seq fun K40 hK40 => c_reg <| s_move H rfl rfl (lt_ rfl) fun a H => s_bin H rfl rfl rfl r_eql (lt_ rfl) fun a H => c_nil <| hK40 _ _ <| c_cond H rfl (fun h41 => ?_) (fun h41 => ?_)
      ·replace h := h.1 h41
       refine c_seq fun K42 hK42 => c_reg ?_
       iterate 3 refine s_assign H rfl rfl (lt_ rfl) fun a H => ?_
       refine c_nil <| hK42 _ _ <| c_ret ?_
       exact e_ret3 H rfl rfl rfl rfl h
      ·replace h := h.2 h41
       refine c_skip <| hK39 _ _ <| c_seq fun K43 hK43 => c_seq fun K44 hK44 => c_reg <| s_move H rfl rfl (lt_ rfl) fun a H => s_bin H rfl rfl rfl r_gtr (lt_ rfl) fun a H => s_move H rfl rfl (lt_ rfl) fun a H => ?_
       obtain ⟨x53, h54, h55, h⟩ := h
       refine g_join (n := 71) [(50, (.bool x53)), (0, l1.v), (1, (.i m2)), (7, (.i s7))] (.succ (.succ (.succ (.succ (.succ (.succ (.succ (.zero _)))))))) ?_ ?_
       ·intro h46
        try clear h
        rcases Bool.eq_false_or_eq_true (decide (1 < s7)) with h45 | h45
        ·replace H := H.ch (t := 43) (b := true) rfl h45
         replace h := h54 h45
         refine s_move H (wantG H rfl rfl) rfl (lt_ rfl) fun a H => s_move H (wantG H rfl rfl) rfl (lt_ rfl) fun a H => s_bin H (wantG H rfl rfl) rfl rfl r_sub (lt_ rfl) fun a H => ?_
         obtain ⟨a47, h48, h49, h50, h⟩ := h
         refine s_idxS (s := l1) H (wantG H rfl rfl) rfl rfl slc_22 h48 h49 h50 (lt_ rfl) fun a H => ?_
         obtain ⟨l51, hc52, h⟩ := h
         refine s_load (v := (.int .u8 l51)) H (wantG H rfl rfl) rfl one_5 hc52 (lt_ rfl) fun a H => s_bin H (wantG H rfl rfl) rfl rfl r_eql (lt_ rfl) fun a H => s_pickT H rfl rfl rfl (lt_ rfl) fun a H => ?_
         subst h
         exact h46 _ (H.weaken ⟨rfl, rfl, rfl, rfl, trivial⟩)
        ·replace H := H.ch (t := 43) (b := false) rfl h45
         iterate 6 refine s_skip H (wantN H rfl rfl rfl) rfl (lt_ rfl) fun a H => ?_
         refine s_pickF H rfl rfl rfl (lt_ rfl) fun a H => ?_
         replace h := h55 h45
         subst h
         exact h46 _ (H.weaken ⟨rfl, rfl, rfl, rfl, trivial⟩)
       ·clear H a
        clear h54 h55
        intro a H
        refine c_nil <| hK44 _ _ <| c_cond H rfl (fun h56 => ?_) (fun h56 => ?_)
        ·replace h := h.1 h56
         refine c_seq fun K57 hK57 => c_reg ?_
         iterate 3 refine s_assign H rfl rfl (lt_ rfl) fun a H => ?_
         refine c_nil <| hK57 _ _ <| c_ret ?_
         exact e_ret3 H rfl rfl rfl rfl h
        ·replace h := h.2 h56
         refine c_skip <| hK43 _ _ <| c_seq fun K58 hK58 => c_reg <| s_assign H rfl rfl (lt_ rfl) fun a H => c_nil <| hK58 _ _ <| c_seq fun K59 hK59 => c_seq fun K60 hK60 => c_reg <| s_move H rfl rfl (lt_ rfl) fun a H => s_bin H rfl rfl rfl r_sub (lt_ rfl) fun a H => s_assign H rfl rfl (lt_ rfl) fun a H => c_nil <| hK60 _ _ <| c_block ?_
         obtain ⟨I64, m65, h81, h82⟩ := h
         refine c_loop (σ := Int × Int) (fun z w => I64 z.1 z.2 w) (fun z w => m65 z.1 z.2 w) (fun z => [(0, l1.v), (1, (.i m2)), (7, (.i s7)), (9, (.i z.1)), (10, (.i z.2))]) (0, wr .i64 (s7 - 1)) h81 (H.weaken ⟨rfl, rfl, rfl, rfl, rfl, trivial⟩) ?_
         clear H h81
         rintro ⟨n61, i62⟩ a w63 h H
         replace h := h82 n61 i62 w63 h
         clear h82
         replace H : Has 71 [] a [(0, l1.v), (1, (.i m2)), (7, (.i s7)), (9, (.i n61)), (10, (.i i62))] := H
         refine c_seq fun K66 hK66 => c_seq fun K67 hK67 => c_reg <| s_move H rfl rfl (lt_ rfl) fun a H => s_bin H rfl rfl rfl r_geq (lt_ rfl) fun a H => c_nil <| hK67 _ _ <| c_cond H rfl (fun h68 => ?_) (fun h68 => ?_)
         ·replace h := h.1 h68
          refine c_skip <| hK66 _ _ <| c_seq fun K69 hK69 => c_block <| c_reg <| s_move H rfl rfl (lt_ rfl) fun a H => s_bin H rfl rfl rfl r_mul (lt_ rfl) fun a H => s_move H rfl rfl (lt_ rfl) fun a H => s_move H rfl rfl (lt_ rfl) fun a H => ?_
          obtain ⟨a70, h71, h72, h73, h⟩ := h
          refine s_idxS (s := l1) H rfl rfl rfl slc_22 h71 h72 h73 (lt_ rfl) fun a H => ?_
          obtain ⟨l74, hc75, h⟩ := h
          refine s_load (v := (.int .u8 l74)) H rfl rfl one_5 hc75 (lt_ rfl) fun a H => s_bin H rfl rfl rfl (r_rem (by decide)) (lt_ rfl) fun a H => s_cv H rfl rfl (r_cvI some_5 int_2) (lt_ rfl) fun a H => s_bin H rfl rfl rfl r_add (lt_ rfl) fun a H => s_assign H rfl rfl (lt_ rfl) fun a H => c_nil <| hK69 _ _ <| c_reg <| s_move H rfl rfl (lt_ rfl) fun a H => s_bin H rfl rfl rfl r_sub (lt_ rfl) fun a H => s_assign H rfl rfl (lt_ rfl) fun a H => c_nil ?_
          refine Exists.intro (wr .i64 ((wr .i64 (n61 * 128)) + (wr .i64 (l74.tmod 128))), wr .i64 (i62 - 1)) ⟨h.1, h.2, H.weaken ⟨rfl, rfl, rfl, rfl, rfl, trivial⟩⟩
         ·replace h := h.2 h68
          refine c_exit ?_
          first | (simp only [Exit.then, Exit.inBlock, ↓reduceIte]; fail_if_success simp only [Nat.reduceEqDiff]) | simp only [Exit.then, Exit.inBlock, ↓reduceIte, Nat.reduceEqDiff]
          refine hK59 _ _ <| c_seq fun K76 hK76 => c_seq fun K77 hK77 => c_reg <| s_move H rfl rfl (lt_ rfl) fun a H => s_move H rfl rfl (lt_ rfl) fun a H => s_bin H rfl rfl rfl r_gtr (lt_ rfl) fun a H => c_nil <| hK77 _ _ <| c_cond H rfl (fun h78 => ?_) (fun h78 => ?_)
          ·replace h := h.1 h78
           refine c_seq fun K79 hK79 => c_reg ?_
           iterate 3 refine s_assign H rfl rfl (lt_ rfl) fun a H => ?_
           refine c_nil <| hK79 _ _ <| c_ret ?_
           exact e_ret3 H rfl rfl rfl rfl h
          ·replace h := h.2 h78
           refine c_skip <| hK76 _ _ <| c_seq fun K80 hK80 => c_reg <| s_move H rfl rfl (lt_ rfl) fun a H => s_move H rfl rfl (lt_ rfl) fun a H => ?_
           iterate 3 refine s_assign H rfl rfl (lt_ rfl) fun a H => ?_
           refine c_nil <| hK80 _ _ <| c_ret ?_
           exact e_ret3 H rfl rfl rfl rfl h

theorem sim_sherdref09_Check (N1 K2 D3 : Int) (w : World) (Q : Ending → World → Prop) (h : vc_sherdref09_Check N1 K2 D3 w Q) : Calls PP F_sherdref09_Check #[(.agg #[(.i N1), (.i K2), (.i D3)])] w Q := by
 unfold vc_sherdref09_Check at h
 refine enter (n := 28) Tryz.func66 rfl rfl (Nat.le_of_ble_eq_true rfl) fun a H => c_seq fun K4 hK4 => c_reg ?_
 replace h := h.get
 obtain ⟨b5, w6, n7, h⟩ := h
 refine s_box H rfl rfl (lt_ rfl) ?_
 rw [← n7.at_]
 clear H a
 intro a H
 refine n7.go <| s_assign H rfl rfl (lt_ rfl) fun a H => c_nil <| hK4 _ _ <| c_seq fun K8 hK8 => c_seq fun K9 hK9 => c_reg <| s_fld H rfl rfl fld_34_1 (lt_ rfl) fun a H => s_load (v := (.i K2)) H rfl rfl one_3 (n7.cell (i := 1) rfl) (lt_ rfl) fun a H => s_bin H rfl rfl rfl r_lss (lt_ rfl) fun a H => s_move H rfl rfl (lt_ rfl) fun a H => ?_
 refine g_join (n := 28) [(12, (.bool ((decide (K2 < 1)) || (decide (N1 < K2))))), (1, (.pointer (some (blk b5))))] (.succ (.succ (.succ (.succ (.succ (.succ (.zero _))))))) ?_ ?_
 ·intro h11
  try clear h
  rcases Bool.eq_false_or_eq_true (decide (K2 < 1)) with h10 | h10
  ·replace H := H.ch (t := 6) (b := true) rfl h10
   iterate 5 refine s_skip H (wantN H rfl rfl rfl) rfl (lt_ rfl) fun a H => ?_
   refine s_pickT H rfl rfl rfl (lt_ rfl) fun a H => ?_
   exact h11 _ (H.weaken ⟨by rw [h10]; rfl, rfl, trivial⟩)
  ·replace H := H.ch (t := 6) (b := false) rfl h10
   refine s_fld H (wantG H rfl rfl) rfl fld_34_1 (lt_ rfl) fun a H => s_load (v := (.i K2)) H (wantG H rfl rfl) rfl one_3 (n7.cell (i := 1) rfl) (lt_ rfl) fun a H => s_fld H (wantG H rfl rfl) rfl fld_34_0 (lt_ rfl) fun a H => s_load (v := (.i N1)) H (wantG H rfl rfl) rfl one_3 (n7.cell (i := 0) rfl) (lt_ rfl) fun a H => s_bin H (wantG H rfl rfl) rfl rfl r_gtr (lt_ rfl) fun a H => s_pickF H rfl rfl rfl (lt_ rfl) fun a H => ?_
   exact h11 _ (H.weaken ⟨by rw [h10]; rfl, rfl, trivial⟩)
 ·clear H a
  intro a H
  refine s_move H rfl rfl (lt_ rfl) fun a H => g_join (n := 28) [(17, (.bool (((decide (K2 < 1)) || (decide (N1 < K2))) || (decide (255 < N1))))), (1, (.pointer (some (blk b5))))] (.succ (.succ (.succ (.succ (.zero _))))) ?_ ?_
  ·intro h13
   try clear h
   rcases Bool.eq_false_or_eq_true ((decide (K2 < 1)) || (decide (N1 < K2))) with h12 | h12
   ·replace H := H.ch (t := 13) (b := true) rfl h12
    iterate 3 refine s_skip H (wantN H rfl rfl rfl) rfl (lt_ rfl) fun a H => ?_
    refine s_pickT H rfl rfl rfl (lt_ rfl) fun a H => ?_
    exact h13 _ (H.weaken ⟨by rw [h12]; rfl, rfl, trivial⟩)
   ·replace H := H.ch (t := 13) (b := false) rfl h12
    refine s_fld H (wantG H rfl rfl) rfl fld_34_0 (lt_ rfl) fun a H => s_load (v := (.i N1)) H (wantG H rfl rfl) rfl one_3 (n7.cell (i := 0) rfl) (lt_ rfl) fun a H => s_bin H (wantG H rfl rfl) rfl rfl r_gtr (lt_ rfl) fun a H => s_pickF H rfl rfl rfl (lt_ rfl) fun a H => ?_
    exact h13 _ (H.weaken ⟨by rw [h12]; rfl, rfl, trivial⟩)
  ·clear H a
   intro a H
   refine s_move H rfl rfl (lt_ rfl) fun a H => g_join (n := 28) [(22, (.bool ((((decide (K2 < 1)) || (decide (N1 < K2))) || (decide (255 < N1))) || (decide (D3 < 0))))), (1, (.pointer (some (blk b5))))] (.succ (.succ (.succ (.succ (.zero _))))) ?_ ?_
   ·intro h15
    try clear h
    rcases Bool.eq_false_or_eq_true (((decide (K2 < 1)) || (decide (N1 < K2))) || (decide (255 < N1))) with h14 | h14
    ·replace H := H.ch (t := 18) (b := true) rfl h14
     iterate 3 refine s_skip H (wantN H rfl rfl rfl) rfl (lt_ rfl) fun a H => ?_
     refine s_pickT H rfl rfl rfl (lt_ rfl) fun a H => ?_
     exact h15 _ (H.weaken ⟨by rw [h14]; rfl, rfl, trivial⟩)
    ·replace H := H.ch (t := 18) (b := false) rfl h14
     refine s_fld H (wantG H rfl rfl) rfl fld_34_2 (lt_ rfl) fun a H => s_load (v := (.i D3)) H (wantG H rfl rfl) rfl one_3 (n7.cell (i := 2) rfl) (lt_ rfl) fun a H => s_bin H (wantG H rfl rfl) rfl rfl r_lss (lt_ rfl) fun a H => s_pickF H rfl rfl rfl (lt_ rfl) fun a H => ?_
     exact h15 _ (H.weaken ⟨by rw [h14]; rfl, rfl, trivial⟩)
   ·clear H a
    intro a H
    refine s_move H rfl rfl (lt_ rfl) fun a H => g_join (n := 28) [(27, (.bool (((((decide (K2 < 1)) || (decide (N1 < K2))) || (decide (255 < N1))) || (decide (D3 < 0))) || (decide (4611686018427387903 < D3)))))] (.succ (.succ (.succ (.succ (.zero _))))) ?_ ?_
    ·intro h17
     try clear h
     rcases Bool.eq_false_or_eq_true ((((decide (K2 < 1)) || (decide (N1 < K2))) || (decide (255 < N1))) || (decide (D3 < 0))) with h16 | h16
     ·replace H := H.ch (t := 23) (b := true) rfl h16
      iterate 3 refine s_skip H (wantN H rfl rfl rfl) rfl (lt_ rfl) fun a H => ?_
      refine s_pickT H rfl rfl rfl (lt_ rfl) fun a H => ?_
      exact h17 _ (H.weaken ⟨by rw [h16]; rfl, trivial⟩)
     ·replace H := H.ch (t := 23) (b := false) rfl h16
      refine s_fld H (wantG H rfl rfl) rfl fld_34_2 (lt_ rfl) fun a H => s_load (v := (.i D3)) H (wantG H rfl rfl) rfl one_3 (n7.cell (i := 2) rfl) (lt_ rfl) fun a H => s_bin H (wantG H rfl rfl) rfl rfl r_gtr (lt_ rfl) fun a H => s_pickF H rfl rfl rfl (lt_ rfl) fun a H => ?_
      exact h17 _ (H.weaken ⟨by rw [h16]; rfl, trivial⟩)
    ·clear H a
     intro a H
     refine c_nil <| hK9 _ _ <| c_cond H rfl (fun h18 => ?_) (fun h18 => ?_)
     ·replace h := h.1 h18
      refine c_seq fun K19 hK19 => c_reg <| s_assign H rfl rfl (lt_ rfl) fun a H => c_nil <| hK19 _ _ <| c_ret ?_
      exact e_ret1 H rfl rfl h
     ·replace h := h.2 h18
      refine c_skip <| hK8 _ _ <| c_seq fun K20 hK20 => c_reg <| s_assign H rfl rfl (lt_ rfl) fun a H => c_nil <| hK20 _ _ <| c_ret ?_
      exact e_ret1 H rfl rfl h

theorem sim_sherdref07_Writer_Uint (w1 : Option Addr) (n2 : Int) (w : World) (Q : Ending → World → Prop) (h : vc_sherdref07_Writer_Uint w1 n2 w Q) : Calls PP F_sherdref07_Writer_Uint #[(.pointer w1), (.i n2)] w Q := by
 unfold vc_sherdref07_Writer_Uint at h
 refine enter (n := 22) Tryz.func67 rfl rfl (Nat.le_of_ble_eq_true rfl) fun a H => c_seq fun K3 hK3 => ?_
 obtain ⟨R4, h, h31⟩ := h
 have h19 : ∀ (a : Act) (w5 : World), R4 w5 → Has 22 [] a [(0, (.pointer w1)), (1, (.i n2))] → K3 a w5 := by
  clear h
  intro a w5 h H
  replace h := h31 w5 h
  refine hK3 _ _ <| c_seq fun K6 hK6 => c_reg <| s_move H rfl rfl (lt_ rfl) fun a H => s_bin H rfl rfl rfl r_geq (lt_ rfl) fun a H => c_nil <| hK6 _ _ <| c_cond H rfl (fun h7 => ?_) (fun h7 => ?_)
  ·replace h := h.1 h7
   refine c_reg <| s_move H rfl rfl (lt_ rfl) fun a H => s_move H rfl rfl (lt_ rfl) fun a H => s_call H rfl body_91 (H.args (vs := [(.i n2)]) rfl) (lt_ rfl) h ?_ (fun c w' h H => e_panic (P := PP) (fn := Tryz.f67) H h)
   clear H h a
   rintro _ w8 a ⟨F9, rfl, h⟩ H
   refine s_call H rfl body_84 (H.args (vs := [(.pointer w1), F9.v]) rfl) (lt_ rfl) h ?_ (fun c w' h H => e_panic (P := PP) (fn := Tryz.f67) H h)
   clear H h a
   rintro _ w10 a ⟨rfl, h⟩ H
   refine c_nil ?_
   exact e_ret0 H rfl h
  ·replace h := h.2 h7
   refine c_skip ?_
   exact e_ret0 H rfl h
 clear h31
 refine c_seq fun K20 hK20 => c_reg <| s_move H rfl rfl (lt_ rfl) fun a H => ?_
 obtain ⟨a21, h30, h⟩ := h
 subst h30
 refine s_nil H rfl rfl (lt_ rfl) fun a H => s_fld H rfl rfl fld_130_1 (lt_ rfl) fun a H => ?_
 obtain ⟨l22, hc23, h⟩ := h
 refine s_load (v := (.i l22)) H rfl rfl one_30 hc23 (lt_ rfl) fun a H => s_bin H rfl rfl rfl r_eql (lt_ rfl) fun a H => s_move H rfl rfl (lt_ rfl) fun a H => g_join (n := 22) [(12, (.bool ((decide (l22 = 0)) && (decide (n2 < 0))))), (0, (.pointer (some a21))), (1, (.i n2))] (.succ (.succ (.succ (.zero _)))) ?_ ?_
 ·intro h25
  try clear h
  rcases Bool.eq_false_or_eq_true (decide (l22 = 0)) with h24 | h24
  ·replace H := H.ch (t := 9) (b := true) rfl h24
   refine s_move H (wantG H rfl rfl) rfl (lt_ rfl) fun a H => s_bin H (wantG H rfl rfl) rfl rfl r_lss (lt_ rfl) fun a H => s_pickT H rfl rfl rfl (lt_ rfl) fun a H => ?_
   exact h25 _ (H.weaken ⟨by rw [h24]; rfl, rfl, rfl, trivial⟩)
  ·replace H := H.ch (t := 9) (b := false) rfl h24
   refine s_skip H (wantN H rfl rfl rfl) rfl (lt_ rfl) fun a H => s_skip H (wantN H rfl rfl rfl) rfl (lt_ rfl) fun a H => s_pickF H rfl rfl rfl (lt_ rfl) fun a H => ?_
   exact h25 _ (H.weaken ⟨by rw [h24]; rfl, rfl, rfl, trivial⟩)
 ·clear H a
  intro a H
  refine c_nil <| hK20 _ _ <| c_cond H rfl (fun h26 => ?_) (fun h26 => ?_)
  ·replace h := h.1 h26
   refine c_reg <| s_move H rfl rfl (lt_ rfl) fun a H => s_nil H rfl rfl (lt_ rfl) fun a H => s_fld H rfl rfl fld_130_1 (lt_ rfl) fun a H => ?_
   obtain ⟨h28, h29, h⟩ := h
   refine s_sto (p := a21.add 1) (v := (.i 33)) H rfl rfl rfl rfl one_30 rfl h28 h29 ?_
   clear H
   intro H
   generalize hww27 : World.setCell w (a21.add 1) (.i 33) = w27 at h ⊢
   have w27S : SetAt w (a21.add 1) (.i 33) w27 := ⟨hww27.symm⟩
   clear hww27 h28 h29
   refine c_nil ?_
   exact h19 _ _ h (H.weaken ⟨rfl, rfl, trivial⟩)
  ·replace h := h.2 h26
   refine c_skip ?_
   exact h19 _ _ h (H.weaken ⟨rfl, rfl, trivial⟩)

theorem sim_sherdref11_four (n1 : Int) (w : World) (Q : Ending → World → Prop) (h : vc_sherdref11_four n1 w Q) : Calls PP F_sherdref11_four #[(.int .u32 n1)] w Q := by
 unfold vc_sherdref11_four at h
 refine enter (n := 18) Tryz.func68 rfl rfl (Nat.le_of_ble_eq_true rfl) fun a H => c_seq fun K2 hK2 => c_reg <| s_assign H rfl rfl (lt_ rfl) fun a H => c_nil <| hK2 _ _ <| c_seq fun K3 hK3 => c_reg <| s_assign H rfl rfl (lt_ rfl) fun a H => c_nil <| hK3 _ _ <| c_seq fun K4 hK4 => c_seq fun K5 hK5 => c_reg <| s_assign H rfl rfl (lt_ rfl) fun a H => c_nil <| hK5 _ _ <| c_block ?_
 obtain ⟨I10, m11, h24, h25⟩ := h
 refine c_loop (σ := Int × Slc × Int) (fun z w => I10 z.1 z.2.1 z.2.2 w) (fun z w => m11 z.1 z.2.1 z.2.2 w) (fun z => [(0, (.int .u32 z.1)), (3, z.2.1.v), (4, (.i z.2.2))]) (n1, Slc.nil, 0) h24 (H.weaken ⟨rfl, rfl, rfl, trivial⟩) ?_
 clear H h24
 rintro ⟨n6, o7, i8⟩ a w9 h H
 replace h := h25 n6 o7 i8 w9 h
 clear h25
 replace H : Has 18 [] a [(0, (.int .u32 n6)), (3, o7.v), (4, (.i i8))] := H
 refine c_seq fun K12 hK12 => c_seq fun K13 hK13 => c_reg <| s_move H rfl rfl (lt_ rfl) fun a H => s_bin H rfl rfl rfl r_lss (lt_ rfl) fun a H => c_nil <| hK13 _ _ <| c_cond H rfl (fun h14 => ?_) (fun h14 => ?_)
 ·replace h := h.1 h14
  refine c_skip <| hK12 _ _ <| c_seq fun K15 hK15 => c_block <| c_seq fun K16 hK16 => c_reg <| s_move H rfl rfl (lt_ rfl) fun a H => s_move H rfl rfl (lt_ rfl) fun a H => s_bin H rfl rfl rfl (r_rem (by decide)) (lt_ rfl) fun a H => s_cv H rfl rfl (r_cvI some_69 int_5) (lt_ rfl) fun a H => ?_
  replace h := h.get
  obtain ⟨b17, w18, n19, h⟩ := h
  refine s_bslc H rfl (by rw [H.parts (vs := [(0, (.int .u8 (wr .u8 (n6.tmod 256))))]) rfl]; exact bs_22_1_iu80 w9 (wr .u8 (n6.tmod 256))) (lt_ rfl) ?_
  rw [← n19.at_]
  clear H a
  intro a H
  refine n19.go ?_
  obtain ⟨s20, w21, h22, h⟩ := h
  refine s_blt H rfl (H.args (vs := [o7.v, (Slc.v (Slc.mk (some (blk b17)) 1 1))]) rfl) (lt_ rfl) (fun cs => b_app (z := s20) h22) ?_
  clear H a h22
  intro a H
  refine s_assign H rfl rfl (lt_ rfl) fun a H => c_nil <| hK16 _ _ <| c_reg <| s_move H rfl rfl (lt_ rfl) fun a H => s_bin H rfl rfl rfl (r_quo (by decide)) (lt_ rfl) fun a H => s_assign H rfl rfl (lt_ rfl) fun a H => c_nil <| hK15 _ _ <| c_reg <| s_move H rfl rfl (lt_ rfl) fun a H => s_bin H rfl rfl rfl r_add (lt_ rfl) fun a H => s_assign H rfl rfl (lt_ rfl) fun a H => c_nil <| Exists.intro (wr .u32 (n6.tdiv 256), s20, wr .i64 (i8 + 1)) ⟨h.1, h.2, H.weaken ⟨rfl, rfl, rfl, trivial⟩⟩
 ·replace h := h.2 h14
  refine c_exit ?_
  first | (simp only [Exit.then, Exit.inBlock, ↓reduceIte]; fail_if_success simp only [Nat.reduceEqDiff]) | simp only [Exit.then, Exit.inBlock, ↓reduceIte, Nat.reduceEqDiff]
  refine hK4 _ _ <| c_seq fun K23 hK23 => c_reg <| s_move H rfl rfl (lt_ rfl) fun a H => s_assign H rfl rfl (lt_ rfl) fun a H => c_nil <| hK23 _ _ <| c_ret ?_
  exact e_ret1 H rfl rfl h

theorem sim_sherdref06_Of (p1 : Slc) (w : World) (Q : Ending → World → Prop) (h : vc_sherdref06_Of p1 w Q) : Calls PP F_sherdref06_Of #[p1.v] w Q := by
 unfold vc_sherdref06_Of at h
 refine enter (n := 34) Tryz.func69 rfl rfl (Nat.le_of_ble_eq_true rfl) fun a H => c_seq fun K2 hK2 => c_reg <| s_assign H rfl rfl (lt_ rfl) fun a H => c_nil <| hK2 _ _ <| c_seq fun K3 hK3 => c_reg <| s_assign H rfl rfl (lt_ rfl) fun a H => c_nil <| hK3 _ _ <| c_seq fun K4 hK4 => c_seq fun K5 hK5 => c_reg <| s_assign H rfl rfl (lt_ rfl) fun a H => c_nil <| hK5 _ _ <| c_block ?_
 obtain ⟨I9, m10, h57, h58⟩ := h
 refine c_loop (σ := Int × Int) (fun z w => I9 z.1 z.2 w) (fun z w => m10 z.1 z.2 w) (fun z => [(0, p1.v), (3, (.int .u32 z.1)), (4, (.i z.2))]) (4294967295, 0) h57 (H.weaken ⟨rfl, rfl, rfl, trivial⟩) ?_
 clear H h57
 rintro ⟨n6, i7⟩ a w8 h H
 replace h := h58 n6 i7 w8 h
 clear h58
 replace H : Has 34 [] a [(0, p1.v), (3, (.int .u32 n6)), (4, (.i i7))] := H
 refine c_seq fun K11 hK11 => c_seq fun K12 hK12 => c_reg <| s_move H rfl rfl (lt_ rfl) fun a H => s_move H rfl rfl (lt_ rfl) fun a H => s_blt H rfl (H.args (vs := [p1.v]) rfl) (lt_ rfl) (fun cs => b_lenS (z := p1) sl_55) fun a H => s_bin H rfl rfl rfl r_lss (lt_ rfl) fun a H => c_nil <| hK12 _ _ <| c_cond H rfl (fun h13 => ?_) (fun h13 => ?_)
 ·replace h := h.1 h13
  refine c_skip <| hK11 _ _ <| c_seq fun K14 hK14 => ?_
  obtain ⟨R16, h, h55⟩ := h
  have h18 : ∀ (a : Act) (n15 : Int) (w17 : World), R16 n15 w17 → Has 34 [] a [(0, p1.v), (3, (.int .u32 n15)), (4, (.i i7))] → K14 a w17 := by
   clear h
   intro a n15 w17 h H
   replace h := h55 n15 w17 h
   refine hK14 _ _ <| c_reg <| s_move H rfl rfl (lt_ rfl) fun a H => s_bin H rfl rfl rfl r_add (lt_ rfl) fun a H => s_assign H rfl rfl (lt_ rfl) fun a H => c_nil <| Exists.intro (n15, wr .i64 (i7 + 1)) ⟨h.1, h.2, H.weaken ⟨rfl, rfl, rfl, trivial⟩⟩
  clear h55
  refine c_block <| c_seq fun K19 hK19 => c_reg <| s_assign H rfl rfl (lt_ rfl) fun a H => c_nil <| hK19 _ _ <| c_block ?_
  obtain ⟨I23, m24, h53, h54⟩ := h
  refine c_loop (σ := Int × Int) (fun z w => I23 z.1 z.2 w) (fun z w => m24 z.1 z.2 w) (fun z => [(0, p1.v), (3, (.int .u32 z.1)), (4, (.i i7)), (5, (.i z.2))]) (n6, 0) h53 (H.weaken ⟨rfl, rfl, rfl, rfl, trivial⟩) ?_
  clear H h53
  rintro ⟨n20, j21⟩ a w22 h H
  replace h := h54 n20 j21 w22 h
  clear h54
  replace H : Has 34 [] a [(0, p1.v), (3, (.int .u32 n20)), (4, (.i i7)), (5, (.i j21))] := H
  refine c_seq fun K25 hK25 => c_seq fun K26 hK26 => c_reg ?_
  iterate 3 refine s_move H rfl rfl (lt_ rfl) fun a H => ?_
  obtain ⟨a27, h28, h29, h30, h⟩ := h
  refine s_idxS (s := p1) H rfl rfl rfl slc_55 h28 h29 h30 (lt_ rfl) fun a H => ?_
  obtain ⟨l31, hc32, h⟩ := h
  refine s_load (v := l31.v) H rfl rfl one_22 hc32 (lt_ rfl) fun a H => s_blt H rfl (H.args (vs := [l31.v]) rfl) (lt_ rfl) (fun cs => b_lenS (z := l31) sl_22) fun a H => s_bin H rfl rfl rfl r_lss (lt_ rfl) fun a H => c_nil <| hK26 _ _ <| c_cond H rfl (fun h33 => ?_) (fun h33 => ?_)
  ·replace h := h.1 h33
   refine c_skip <| hK25 _ _ <| c_seq fun K34 hK34 => c_block <| c_reg ?_
   iterate 3 refine s_move H rfl rfl (lt_ rfl) fun a H => ?_
   obtain ⟨a35, h36, h37, h38, h⟩ := h
   refine s_idxS (s := p1) H rfl rfl rfl slc_55 h36 h37 h38 (lt_ rfl) fun a H => ?_
   obtain ⟨l39, hc40, h⟩ := h
   refine s_load (v := l39.v) H rfl rfl one_22 hc40 (lt_ rfl) fun a H => s_move H rfl rfl (lt_ rfl) fun a H => ?_
   obtain ⟨a41, h42, h43, h44, h⟩ := h
   refine s_idxS (s := l39) H rfl rfl rfl slc_22 h42 h43 h44 (lt_ rfl) fun a H => ?_
   obtain ⟨l45, hc46, h⟩ := h
   refine s_load (v := (.int .u8 l45)) H rfl rfl one_5 hc46 (lt_ rfl) fun a H => s_cv H rfl rfl (r_cvI some_5 int_69) (lt_ rfl) fun a H => s_bin H rfl rfl rfl r_xor (lt_ rfl) fun a H => s_call H rfl body_92 (H.args (vs := [(.int .u32 (xorI .u32 n20 (wr .u32 l45)))]) rfl) (lt_ rfl) h ?_ (fun c w' h H => e_panic (P := PP) (fn := Tryz.f69) H h)
   clear H h a
   rintro _ w47 a ⟨b48, rfl, h⟩ H
   refine s_assign H rfl rfl (lt_ rfl) fun a H => c_nil <| hK34 _ _ <| c_reg <| s_move H rfl rfl (lt_ rfl) fun a H => s_bin H rfl rfl rfl r_add (lt_ rfl) fun a H => s_assign H rfl rfl (lt_ rfl) fun a H => c_nil <| Exists.intro (b48, wr .i64 (j21 + 1)) ⟨h.1, h.2, H.weaken ⟨rfl, rfl, rfl, rfl, trivial⟩⟩
  ·replace h := h.2 h33
   refine c_exit ?_
   first | (simp only [Exit.then, Exit.inBlock, ↓reduceIte]; fail_if_success simp only [Nat.reduceEqDiff]) | simp only [Exit.then, Exit.inBlock, ↓reduceIte, Nat.reduceEqDiff]
   exact h18 _ _ _ h (H.weaken ⟨rfl, rfl, rfl, trivial⟩)
 ·replace h := h.2 h13
  refine c_exit ?_
  first | (simp only [Exit.then, Exit.inBlock, ↓reduceIte]; fail_if_success simp only [Nat.reduceEqDiff]) | simp only [Exit.then, Exit.inBlock, ↓reduceIte, Nat.reduceEqDiff]
  refine hK4 _ _ <| c_seq fun K56 hK56 => c_reg <| s_move H rfl rfl (lt_ rfl) fun a H => s_bin H rfl rfl rfl r_xor (lt_ rfl) fun a H => s_assign H rfl rfl (lt_ rfl) fun a H => c_nil <| hK56 _ _ <| c_ret ?_
  exact e_ret1 H rfl rfl h

theorem sim_sherdref07_Reader_Text (r1 : Option Addr) (m2 : Int) (w : World) (Q : Ending → World → Prop) (h : vc_sherdref07_Reader_Text r1 m2 w Q) : Calls PP F_sherdref07_Reader_Text #[(.pointer r1), (.i m2)] w Q := by
 unfold vc_sherdref07_Reader_Text at h
 refine enter (n := 9) Tryz.func70 rfl rfl (Nat.le_of_ble_eq_true rfl) fun a H => c_seq fun K3 hK3 => c_reg <| s_assign H rfl rfl (lt_ rfl) fun a H => c_nil <| hK3 _ _ <| c_seq fun K4 hK4 => c_reg <| s_move H rfl rfl (lt_ rfl) fun a H => s_move H rfl rfl (lt_ rfl) fun a H => s_call H rfl body_72 (H.args (vs := [(.pointer r1), (.i m2)]) rfl) (lt_ rfl) h ?_ (fun c w' h H => e_panic (P := PP) (fn := Tryz.f70) H h)
 clear H h a
 rintro _ w5 a ⟨B6, rfl, h⟩ H
 obtain ⟨s7, h8, h⟩ := h
 refine s_cv H rfl rfl h8 (lt_ rfl) ?_
 clear H a h8
 intro a H
 refine s_assign H rfl rfl (lt_ rfl) fun a H => c_nil <| hK4 _ _ <| c_ret ?_
 exact e_ret1 H rfl rfl h

theorem sim_sherdref07_Reader_Bool (r1 : Option Addr) (w : World) (Q : Ending → World → Prop) (h : vc_sherdref07_Reader_Bool r1 w Q) : Calls PP F_sherdref07_Reader_Bool #[(.pointer r1)] w Q := by
 unfold vc_sherdref07_Reader_Bool at h
 refine enter (n := 54) Tryz.func71 rfl rfl (Nat.le_of_ble_eq_true rfl) fun a H => c_seq fun K2 hK2 => c_reg <| s_assign H rfl rfl (lt_ rfl) fun a H => c_nil <| hK2 _ _ <| c_seq fun K3 hK3 => c_seq fun K4 hK4 => c_reg <| s_move H rfl rfl (lt_ rfl) fun a H => ?_
 obtain ⟨a5, h60, h⟩ := h
 subst h60
 refine s_nil H rfl rfl (lt_ rfl) fun a H => s_fld H rfl rfl fld_116_2 (lt_ rfl) fun a H => ?_
 obtain ⟨l6, hc7, h⟩ := h
 refine s_load (v := (.i l6)) H rfl rfl one_30 hc7 (lt_ rfl) fun a H => s_bin H rfl rfl rfl r_neq (lt_ rfl) fun a H => c_nil <| hK4 _ _ <| c_cond H rfl (fun h8 => ?_) (fun h8 => ?_)
 ·replace h := h.1 h8
  refine c_seq fun K9 hK9 => c_reg <| s_assign H rfl rfl (lt_ rfl) fun a H => c_nil <| hK9 _ _ <| c_ret ?_
  exact e_ret1 H rfl rfl h
 ·replace h := h.2 h8
  refine c_skip <| hK3 _ _ <| c_seq fun K10 hK10 => c_seq fun K11 hK11 => c_regD mixed (by kernel_rfl) <| z_move H rfl rfl (lt_ rfl) fun a H => z_nil H rfl rfl (lt_ rfl) fun a H => z_fld H rfl rfl fld_116_1 (lt_ rfl) fun a H => ?_
  obtain ⟨l13, hc14, h⟩ := h
  refine z_load (v := (.i l13)) H rfl rfl one_3 hc14 (lt_ rfl) fun a H => z_move H rfl rfl (lt_ rfl) fun a H => z_nil H rfl rfl (lt_ rfl) fun a H => z_fld H rfl rfl fld_116_0 (lt_ rfl) fun a H => ?_
  obtain ⟨l15, hc16, h⟩ := h
  refine z_load (v := l15.v) H rfl rfl one_22 hc16 (lt_ rfl) fun a H => z_blt H rfl (H.args (vs := [l15.v]) rfl) (lt_ rfl) (fun cs w => b_lenS (z := l15) sl_22) fun a H => z_bin H rfl rfl rfl r_eql (lt_ rfl) fun a H => wpQuiet_nil ?_
  rintro _ ⟨k12, rfl⟩
  replace h := h k12
  refine hK11 _ _ <| c_cond H rfl (fun h17 => ?_) (fun h17 => ?_)
  ·replace h := h.1 h17
   refine c_seq fun K18 hK18 => c_reg <| s_move H rfl rfl (lt_ rfl) fun a H => s_nil H rfl rfl (lt_ rfl) fun a H => s_fld H rfl rfl fld_116_2 (lt_ rfl) fun a H => ?_
   obtain ⟨h20, h21, h⟩ := h
   refine s_sto (p := a5.add 2) (v := (.i 30)) H rfl rfl rfl rfl one_30 rfl h20 h21 ?_
   clear H
   intro H
   generalize hww19 : World.setCell (w.drewN k12) (a5.add 2) (.i 30) = w19 at h ⊢
   have w19S : SetAt (w.drewN k12) (a5.add 2) (.i 30) w19 := ⟨hww19.symm⟩
   clear hww19 h20 h21
   refine c_nil <| hK18 _ _ <| c_seq fun K22 hK22 => c_reg <| s_assign H rfl rfl (lt_ rfl) fun a H => c_nil <| hK22 _ _ <| c_ret ?_
   exact e_ret1 H rfl rfl h
  ·replace h := h.2 h17
   refine c_skip <| hK10 _ _ <| c_seq fun K23 hK23 => c_seq fun K24 hK24 => c_regD mixed (by kernel_rfl) <| z_move H rfl rfl (lt_ rfl) fun a H => z_nil H rfl rfl (lt_ rfl) fun a H => z_fld H rfl rfl fld_116_0 (lt_ rfl) fun a H => ?_
   obtain ⟨l26, hc27, h⟩ := h
   refine z_load (v := l26.v) H rfl rfl one_22 hc27 (lt_ rfl) fun a H => z_move H rfl rfl (lt_ rfl) fun a H => z_nil H rfl rfl (lt_ rfl) fun a H => z_fld H rfl rfl fld_116_1 (lt_ rfl) fun a H => ?_
   obtain ⟨l28, hc29, h⟩ := h
   refine z_load (v := (.i l28)) H rfl rfl one_3 hc29 (lt_ rfl) fun a H => ?_
   obtain ⟨a30, h31, h32, h33, h⟩ := h
   refine z_idxS (s := l26) H rfl rfl rfl slc_22 h31 h32 h33 (lt_ rfl) fun a H => ?_
   obtain ⟨l34, hc35, h⟩ := h
   refine z_load (v := (.int .u8 l34)) H rfl rfl one_5 hc35 (lt_ rfl) fun a H => z_bin H rfl rfl rfl r_gtr (lt_ rfl) fun a H => wpQuiet_nil ?_
   rintro _ ⟨k25, rfl⟩
   replace h := h k25
   refine hK24 _ _ <| c_cond H rfl (fun h36 => ?_) (fun h36 => ?_)
   ·replace h := h.1 h36
    refine c_seq fun K37 hK37 => c_reg <| s_move H rfl rfl (lt_ rfl) fun a H => s_nil H rfl rfl (lt_ rfl) fun a H => s_fld H rfl rfl fld_116_2 (lt_ rfl) fun a H => ?_
    obtain ⟨h39, h40, h⟩ := h
    refine s_sto (p := a5.add 2) (v := (.i 31)) H rfl rfl rfl rfl one_30 rfl h39 h40 ?_
    clear H
    intro H
    generalize hww38 : World.setCell ((w.drewN k12).drewN k25) (a5.add 2) (.i 31) = w38 at h ⊢
    have w38S : SetAt ((w.drewN k12).drewN k25) (a5.add 2) (.i 31) w38 := ⟨hww38.symm⟩
    clear hww38 h39 h40
    refine c_nil <| hK37 _ _ <| c_seq fun K41 hK41 => c_reg <| s_assign H rfl rfl (lt_ rfl) fun a H => c_nil <| hK41 _ _ <| c_ret ?_
    exact e_ret1 H rfl rfl h
   ·replace h := h.2 h36
    refine c_skip <| hK23 _ _ <| c_seq fun K42 hK42 => c_reg <| s_move H rfl rfl (lt_ rfl) fun a H => s_nil H rfl rfl (lt_ rfl) fun a H => s_fld H rfl rfl fld_116_1 (lt_ rfl) fun a H => ?_
    obtain ⟨l43, hc44, h⟩ := h
    refine s_load (v := (.i l43)) H rfl rfl one_3 hc44 (lt_ rfl) fun a H => s_bin H rfl rfl rfl r_add (lt_ rfl) fun a H => s_nil H rfl rfl (lt_ rfl) fun a H => s_fld H rfl rfl fld_116_1 (lt_ rfl) fun a H => ?_
    obtain ⟨h46, h47, h⟩ := h
    refine s_sto (p := a5.add 1) (v := (.i (wr .i64 (l43 + 1)))) H rfl rfl rfl rfl one_3 rfl h46 h47 ?_
    clear H
    intro H
    generalize hww45 : World.setCell ((w.drewN k12).drewN k25) (a5.add 1) (.i (wr .i64 (l43 + 1))) = w45 at h ⊢
    have w45S : SetAt ((w.drewN k12).drewN k25) (a5.add 1) (.i (wr .i64 (l43 + 1))) w45 := ⟨hww45.symm⟩
    clear hww45 h46 h47
    refine c_nil <| hK42 _ _ <| c_seq fun K48 hK48 => c_regD mixed (by kernel_rfl) <| z_move H rfl rfl (lt_ rfl) fun a H => z_nil H rfl rfl (lt_ rfl) fun a H => z_fld H rfl rfl fld_116_0 (lt_ rfl) fun a H => ?_
    obtain ⟨l50, hc51, h⟩ := h
    refine z_load (v := l50.v) H rfl rfl one_22 hc51 (lt_ rfl) fun a H => z_move H rfl rfl (lt_ rfl) fun a H => z_nil H rfl rfl (lt_ rfl) fun a H => z_fld H rfl rfl fld_116_1 (lt_ rfl) fun a H => ?_
    obtain ⟨l52, hc53, h⟩ := h
    refine z_load (v := (.i l52)) H rfl rfl one_3 hc53 (lt_ rfl) fun a H => z_bin H rfl rfl rfl r_sub (lt_ rfl) fun a H => ?_
    obtain ⟨a54, h55, h56, h57, h⟩ := h
    refine z_idxS (s := l50) H rfl rfl rfl slc_22 h55 h56 h57 (lt_ rfl) fun a H => ?_
    obtain ⟨l58, hc59, h⟩ := h
    refine z_load (v := (.int .u8 l58)) H rfl rfl one_5 hc59 (lt_ rfl) fun a H => z_bin H rfl rfl rfl r_eql (lt_ rfl) fun a H => z_assign H rfl rfl (lt_ rfl) fun a H => wpQuiet_nil ?_
    rintro _ ⟨k49, rfl⟩
    replace h := h k49
    refine hK48 _ _ <| c_ret ?_
    exact e_ret1 H rfl rfl h

theorem sim_sherdref07_Reader_Bytes (r1 : Option Addr) (m2 : Int) (w : World) (Q : Ending → World → Prop) (h : vc_sherdref07_Reader_Bytes r1 m2 w Q) : Calls PP F_sherdref07_Reader_Bytes #[(.pointer r1), (.i m2)] w Q := by
 unfold vc_sherdref07_Reader_Bytes at h
 refine enter (n := 71) Tryz.func72 rfl rfl (Nat.le_of_ble_eq_true rfl) fun a H => c_seq fun K3 hK3 => c_reg <| s_assign H rfl rfl (lt_ rfl) fun a H => c_nil <| hK3 _ _ <| c_seq fun K4 hK4 => c_seq fun K5 hK5 => c_reg <| s_move H rfl rfl (lt_ rfl) fun a H => ?_
 obtain ⟨a6, h68, h⟩ := h
 subst h68
 refine s_nil H rfl rfl (lt_ rfl) fun a H => s_fld H rfl rfl fld_116_2 (lt_ rfl) fun a H => ?_
 obtain ⟨l7, hc8, h⟩ := h
 refine s_load (v := (.i l7)) H rfl rfl one_30 hc8 (lt_ rfl) fun a H => s_bin H rfl rfl rfl r_neq (lt_ rfl) fun a H => c_nil <| hK5 _ _ <| c_cond H rfl (fun h9 => ?_) (fun h9 => ?_)
 ·replace h := h.1 h9
  refine c_seq fun K10 hK10 => c_reg <| s_assign H rfl rfl (lt_ rfl) fun a H => c_nil <| hK10 _ _ <| c_ret ?_
  exact e_ret1 H rfl rfl h
 ·replace h := h.2 h9
  refine c_skip <| hK4 _ _ <| c_seq fun K11 hK11 => ?_
  replace H := H.weaken (L' := [(0, (.pointer (some a6))), (1, (.i m2))]) ⟨rfl, rfl, trivial⟩
  obtain ⟨l12, hc13, l14, hc15, h16, h17, h18, h⟩ := h
  refine c_any (V := [(0, (.pointer (some a6))), (1, (.pointer (some a6))), (2, (.pointer (some (a6.add 0)))), (3, l12.v), (4, (.pointer (some a6))), (5, (.pointer (some a6))), (6, (.pointer (some (a6.add 1)))), (7, (.i l14)), (8, (Slc.v (l12.cut 1 (Int.toNat (l14)) (Int.toNat ((l12.l : Int)))))), (9, (.i m2))]) (⟨[[], [0], [1], [2], [], [4], [5], [6], [3, 7], [], [8, 9], [10], [11], [11], [11], [0, 1, 2, 3, 4, 5, 6, 7, 8, 9, 10, 11, 12], [0, 1, 2, 3, 4, 5, 6, 7, 8, 9, 10, 11, 12, 13, 15], [0, 1, 2, 3, 4, 5, 6, 7, 8, 9, 10, 11, 12, 13, 14, 15, 16]], [some 15, some 16, some 17, some 18, some 19, some 20, some 21, some 22, some 23, some 24, some 25, some 14, some 26, some 27, some 28, some 5, some 6, some 7], [10], [0, 0, 0, 0, 0, 0, 0, 0, 0, 0, 0, 1, 1, 1, 1, 1, 1, 1], [0, 0, 0, 0, 0, 0, 0, 0, 0, 0, 1, 1, 1, 1, 1, 1, 1, 1]⟩ : Rg) [(0, (.pointer (some a6))), (1, (.i m2))] mixed (by kernel_rfl) H ?_
  refine Stg.eff [0, 1, 2, 3, 4, 5, 6, 7, 8, 9] (by kernel_rfl) rfl (.cons ?_ (.cons ?_ (.cons ?_ (.cons ?_ (.cons ?_ (.cons ?_ (.cons ?_ (.cons ?_ (.cons ?_ (.cons ?_ .nil)))))))))) ?_
  ·refine Ans.mk rfl rfl fun a H => ?_
   replace H := H.weaken (L' := [(0, (.pointer (some a6)))]) ⟨rfl, trivial⟩
   refine s_move H rfl rfl (lt_ rfl) fun a H => c_nil ⟨rfl, rfl, H.weaken (L' := [(15, (.pointer (some a6)))]) ⟨rfl, trivial⟩⟩
  ·refine Ans.mk rfl rfl fun a H => ?_
   replace H := H.weaken (L' := [(15, (.pointer (some a6)))]) ⟨rfl, trivial⟩
   refine s_nil H rfl rfl (lt_ rfl) fun a H => c_nil ⟨rfl, rfl, H.weaken (L' := [(16, (.pointer (some a6)))]) ⟨rfl, trivial⟩⟩
  ·refine Ans.mk rfl rfl fun a H => ?_
   replace H := H.weaken (L' := [(16, (.pointer (some a6)))]) ⟨rfl, trivial⟩
   refine s_fld H rfl rfl fld_116_0 (lt_ rfl) fun a H => c_nil ⟨rfl, rfl, H.weaken (L' := [(17, (.pointer (some (a6.add 0))))]) ⟨rfl, trivial⟩⟩
  ·refine Ans.mk rfl rfl fun a H => ?_
   replace H := H.weaken (L' := [(17, (.pointer (some (a6.add 0))))]) ⟨rfl, trivial⟩
   refine s_load (v := l12.v) H rfl rfl one_22 hc13 (lt_ rfl) fun a H => c_nil ⟨rfl, rfl, H.weaken (L' := [(18, l12.v)]) ⟨rfl, trivial⟩⟩
  ·refine Ans.mk rfl rfl fun a H => ?_
   replace H := H.weaken (L' := [(0, (.pointer (some a6)))]) ⟨rfl, trivial⟩
   refine s_move H rfl rfl (lt_ rfl) fun a H => c_nil ⟨rfl, rfl, H.weaken (L' := [(19, (.pointer (some a6)))]) ⟨rfl, trivial⟩⟩
  ·refine Ans.mk rfl rfl fun a H => ?_
   replace H := H.weaken (L' := [(19, (.pointer (some a6)))]) ⟨rfl, trivial⟩
   refine s_nil H rfl rfl (lt_ rfl) fun a H => c_nil ⟨rfl, rfl, H.weaken (L' := [(20, (.pointer (some a6)))]) ⟨rfl, trivial⟩⟩
  ·refine Ans.mk rfl rfl fun a H => ?_
   replace H := H.weaken (L' := [(20, (.pointer (some a6)))]) ⟨rfl, trivial⟩
   refine s_fld H rfl rfl fld_116_1 (lt_ rfl) fun a H => c_nil ⟨rfl, rfl, H.weaken (L' := [(21, (.pointer (some (a6.add 1))))]) ⟨rfl, trivial⟩⟩
  ·refine Ans.mk rfl rfl fun a H => ?_
   replace H := H.weaken (L' := [(21, (.pointer (some (a6.add 1))))]) ⟨rfl, trivial⟩
   refine s_load (v := (.i l14)) H rfl rfl one_3 hc15 (lt_ rfl) fun a H => c_nil ⟨rfl, rfl, H.weaken (L' := [(22, (.i l14))]) ⟨rfl, trivial⟩⟩
  ·refine Ans.mk rfl rfl fun a H => ?_
   replace H := H.weaken (L' := [(18, l12.v), (22, (.i l14))]) ⟨rfl, rfl, trivial⟩
   refine s_slice (v := (Slc.v (l12.cut 1 (Int.toNat (l14)) (Int.toNat ((l12.l : Int)))))) H rfl rfl ⟨rfl, rfl⟩ ⟨rfl, rfl⟩ ⟨rfl, rfl⟩ (r_sliceSlc (lo := (some (.i64, l14))) (hi := none) slc_22 rfl rfl h16 h17 h18) (lt_ rfl) fun a H => c_nil ⟨rfl, rfl, H.weaken (L' := [(23, (Slc.v (l12.cut 1 (Int.toNat (l14)) (Int.toNat ((l12.l : Int))))))]) ⟨rfl, trivial⟩⟩
  ·refine Ans.mk rfl rfl fun a H => ?_
   replace H := H.weaken (L' := [(1, (.i m2))]) ⟨rfl, trivial⟩
   refine s_move H rfl rfl (lt_ rfl) fun a H => c_nil ⟨rfl, rfl, H.weaken (L' := [(24, (.i m2))]) ⟨rfl, trivial⟩⟩
  ·intro a H
   replace H := H.weaken (L' := [(23, (Slc.v (l12.cut 1 (Int.toNat (l14)) (Int.toNat ((l12.l : Int)))))), (24, (.i m2))]) ⟨rfl, rfl, trivial⟩
   refine s_call H rfl body_65 (H.args (vs := [(Slc.v (l12.cut 1 (Int.toNat (l14)) (Int.toNat ((l12.l : Int))))), (.i m2)]) rfl) (lt_ rfl) h ?_ (fun c w' h H => e_panic (P := PP) (fn := Tryz.f72) H h)
   clear H h a
   rintro _ w19 a ⟨n20, n21, n22, rfl, h⟩ H
   refine c_nil ?_
   refine effQ.ok (v := (.tuple #[(.i n20), (.i n21), (.i n22)])) (H.weaken (L' := [(25, (.tuple #[(.i n20), (.i n21), (.i n22)]))]) ⟨rfl, trivial⟩) ⟨[(0, (.pointer (some a6))), (1, (.pointer (some a6))), (2, (.pointer (some (a6.add 0)))), (3, l12.v), (4, (.pointer (some a6))), (5, (.pointer (some a6))), (6, (.pointer (some (a6.add 1)))), (7, (.i l14)), (8, (Slc.v (l12.cut 1 (Int.toNat (l14)) (Int.toNat ((l12.l : Int)))))), (9, (.i m2)), (10, (.tuple #[(.i n20), (.i n21), (.i n22)])), (11, (.tuple #[(.i n20), (.i n21), (.i n22)])), (12, (.i n20)), (13, (.i n21)), (14, (.i n22)), (15, (.i n20)), (16, (.i n21)), (17, (.i n22))], ⟨rfl, rfl, rfl, rfl, rfl, rfl, rfl, rfl, rfl, rfl, rfl, trivial⟩, ?_⟩
   refine Stg.fin [11, 12, 13, 14, 15, 16, 17] (by kernel_rfl) (.cons ?_ (.cons ?_ (.cons ?_ (.cons ?_ (.cons ?_ (.cons ?_ (.cons ?_ .nil))))))) ?_
   ·refine Ans.mk rfl rfl fun a H => ?_
    replace H := H.weaken (L' := [(25, (.tuple #[(.i n20), (.i n21), (.i n22)]))]) ⟨rfl, trivial⟩
    refine s_move H rfl rfl (lt_ rfl) fun a H => c_nil ⟨rfl, rfl, H.weaken (L' := [(14, (.tuple #[(.i n20), (.i n21), (.i n22)]))]) ⟨rfl, trivial⟩⟩
   ·refine Ans.mk rfl rfl fun a H => ?_
    replace H := H.weaken (L' := [(14, (.tuple #[(.i n20), (.i n21), (.i n22)]))]) ⟨rfl, trivial⟩
    refine s_ext H rfl rfl rfl (lt_ rfl) fun a H => c_nil ⟨rfl, rfl, H.weaken (L' := [(26, (.i n20))]) ⟨rfl, trivial⟩⟩
   ·refine Ans.mk rfl rfl fun a H => ?_
    replace H := H.weaken (L' := [(14, (.tuple #[(.i n20), (.i n21), (.i n22)]))]) ⟨rfl, trivial⟩
    refine s_ext H rfl rfl rfl (lt_ rfl) fun a H => c_nil ⟨rfl, rfl, H.weaken (L' := [(27, (.i n21))]) ⟨rfl, trivial⟩⟩
   ·refine Ans.mk rfl rfl fun a H => ?_
    replace H := H.weaken (L' := [(14, (.tuple #[(.i n20), (.i n21), (.i n22)]))]) ⟨rfl, trivial⟩
    refine s_ext H rfl rfl rfl (lt_ rfl) fun a H => c_nil ⟨rfl, rfl, H.weaken (L' := [(28, (.i n22))]) ⟨rfl, trivial⟩⟩
   ·refine Ans.mk rfl rfl fun a H => ?_
    replace H := H.weaken (L' := [(26, (.i n20))]) ⟨rfl, trivial⟩
    refine s_assign H rfl rfl (lt_ rfl) fun a H => c_nil ⟨rfl, rfl, H.weaken (L' := [(5, (.i n20))]) ⟨rfl, trivial⟩⟩
   ·refine Ans.mk rfl rfl fun a H => ?_
    replace H := H.weaken (L' := [(27, (.i n21))]) ⟨rfl, trivial⟩
    refine s_assign H rfl rfl (lt_ rfl) fun a H => c_nil ⟨rfl, rfl, H.weaken (L' := [(6, (.i n21))]) ⟨rfl, trivial⟩⟩
   ·refine Ans.mk rfl rfl fun a H => ?_
    replace H := H.weaken (L' := [(28, (.i n22))]) ⟨rfl, trivial⟩
    refine s_assign H rfl rfl (lt_ rfl) fun a H => c_nil ⟨rfl, rfl, H.weaken (L' := [(7, (.i n22))]) ⟨rfl, trivial⟩⟩
   ·intro a H
    replace H := H.weaken (L' := [(0, (.pointer (some a6))), (5, (.i n20)), (6, (.i n21)), (7, (.i n22))]) ⟨rfl, rfl, rfl, rfl, trivial⟩
    refine hK11 _ _ <| c_seq fun K23 hK23 => c_seq fun K24 hK24 => c_reg <| s_move H rfl rfl (lt_ rfl) fun a H => s_bin H rfl rfl rfl r_neq (lt_ rfl) fun a H => c_nil <| hK24 _ _ <| c_cond H rfl (fun h25 => ?_) (fun h25 => ?_)
    ·replace h := h.1 h25
     refine c_seq fun K26 hK26 => c_reg <| s_move H rfl rfl (lt_ rfl) fun a H => s_move H rfl rfl (lt_ rfl) fun a H => s_nil H rfl rfl (lt_ rfl) fun a H => s_fld H rfl rfl fld_116_2 (lt_ rfl) fun a H => ?_
     obtain ⟨h28, h29, h⟩ := h
     refine s_sto (p := a6.add 2) (v := (.i n22)) H rfl rfl rfl rfl one_30 rfl h28 h29 ?_
     clear H
     intro H
     generalize hww27 : World.setCell w19 (a6.add 2) (.i n22) = w27 at h ⊢
     have w27S : SetAt w19 (a6.add 2) (.i n22) w27 := ⟨hww27.symm⟩
     clear hww27 h28 h29
     refine c_nil <| hK26 _ _ <| c_seq fun K30 hK30 => c_reg <| s_assign H rfl rfl (lt_ rfl) fun a H => c_nil <| hK30 _ _ <| c_ret ?_
     exact e_ret1 H rfl rfl h
    ·replace h := h.2 h25
     refine c_skip <| hK23 _ _ <| c_seq fun K31 hK31 => c_reg <| s_move H rfl rfl (lt_ rfl) fun a H => s_nil H rfl rfl (lt_ rfl) fun a H => s_fld H rfl rfl fld_116_1 (lt_ rfl) fun a H => ?_
     obtain ⟨l32, hc33, h⟩ := h
     refine s_load (v := (.i l32)) H rfl rfl one_3 hc33 (lt_ rfl) fun a H => s_move H rfl rfl (lt_ rfl) fun a H => s_bin H rfl rfl rfl r_add (lt_ rfl) fun a H => s_assign H rfl rfl (lt_ rfl) fun a H => c_nil <| hK31 _ _ <| c_seq fun K34 hK34 => c_seq fun K35 hK35 => c_reg <| s_move H rfl rfl (lt_ rfl) fun a H => s_move H rfl rfl (lt_ rfl) fun a H => s_nil H rfl rfl (lt_ rfl) fun a H => s_fld H rfl rfl fld_116_0 (lt_ rfl) fun a H => ?_
     obtain ⟨l36, hc37, h⟩ := h
     refine s_load (v := l36.v) H rfl rfl one_22 hc37 (lt_ rfl) fun a H => s_blt H rfl (H.args (vs := [l36.v]) rfl) (lt_ rfl) (fun cs => b_lenS (z := l36) sl_22) fun a H => s_move H rfl rfl (lt_ rfl) fun a H => s_bin H rfl rfl rfl r_sub (lt_ rfl) fun a H => s_bin H rfl rfl rfl r_gtr (lt_ rfl) fun a H => c_nil <| hK35 _ _ <| c_cond H rfl (fun h38 => ?_) (fun h38 => ?_)
     ·replace h := h.1 h38
      refine c_seq fun K39 hK39 => c_reg <| s_move H rfl rfl (lt_ rfl) fun a H => s_nil H rfl rfl (lt_ rfl) fun a H => s_fld H rfl rfl fld_116_2 (lt_ rfl) fun a H => ?_
      obtain ⟨h41, h42, h⟩ := h
      refine s_sto (p := a6.add 2) (v := (.i 30)) H rfl rfl rfl rfl one_30 rfl h41 h42 ?_
      clear H
      intro H
      generalize hww40 : World.setCell w19 (a6.add 2) (.i 30) = w40 at h ⊢
      have w40S : SetAt w19 (a6.add 2) (.i 30) w40 := ⟨hww40.symm⟩
      clear hww40 h41 h42
      refine c_nil <| hK39 _ _ <| c_seq fun K43 hK43 => c_reg <| s_assign H rfl rfl (lt_ rfl) fun a H => c_nil <| hK43 _ _ <| c_ret ?_
      exact e_ret1 H rfl rfl h
     ·replace h := h.2 h38
      refine c_skip <| hK34 _ _ <| c_seq fun K44 hK44 => c_reg ?_
      iterate 3 refine s_move H rfl rfl (lt_ rfl) fun a H => ?_
      refine s_bin H rfl rfl rfl r_add (lt_ rfl) fun a H => s_nil H rfl rfl (lt_ rfl) fun a H => s_fld H rfl rfl fld_116_1 (lt_ rfl) fun a H => ?_
      obtain ⟨h46, h47, h⟩ := h
      refine s_sto (p := a6.add 1) (v := (.i (wr .i64 ((wr .i64 (l32 + n21)) + n20)))) H rfl rfl rfl rfl one_3 rfl h46 h47 ?_
      clear H
      intro H
      generalize hww45 : World.setCell w19 (a6.add 1) (.i (wr .i64 ((wr .i64 (l32 + n21)) + n20))) = w45 at h ⊢
      have w45S : SetAt w19 (a6.add 1) (.i (wr .i64 ((wr .i64 (l32 + n21)) + n20))) w45 := ⟨hww45.symm⟩
      clear hww45 h46 h47
      refine c_nil <| hK44 _ _ <| c_seq fun K48 hK48 => ?_
      replace H := H.weaken (L' := [(0, (.pointer (some a6))), (8, (.i (wr .i64 (l32 + n21))))]) ⟨rfl, rfl, trivial⟩
      obtain ⟨l49, hc50, l51, hc52, h53, h54, h55, h⟩ := h
      refine c_any (V := [(1, (.pointer (some a6))), (2, (.pointer (some a6))), (3, (.pointer (some (a6.add 0)))), (4, l49.v), (5, (.i (wr .i64 (l32 + n21)))), (6, (.pointer (some a6))), (7, (.pointer (some a6))), (8, (.pointer (some (a6.add 1)))), (9, (.i l51)), (10, (Slc.v (l49.cut 1 (Int.toNat (wr .i64 (l32 + n21))) (Int.toNat (l51)))))]) (⟨[[], [], [1], [2], [3], [], [], [6], [7], [8], [4, 5, 9], [0, 10], [0, 1, 2, 3, 4, 5, 6, 7, 8, 9, 10, 11]], [some 59, some 60, some 61, some 62, some 63, some 64, some 65, some 66, some 67, some 68, some 69, some 70, some 4], [0, 11], [0, 0, 0, 0, 0, 0, 0, 0, 0, 0, 0, 1, 2], [1, 1, 1, 1, 1, 1, 1, 1, 1, 1, 1, 2, 2]⟩ : Rg) [(0, (.pointer (some a6))), (8, (.i (wr .i64 (l32 + n21))))] mixed (by kernel_rfl) H ?_
      refine Stg.eff [1, 2, 3, 4, 5, 6, 7, 8, 9, 10] (by kernel_rfl) rfl (.cons ?_ (.cons ?_ (.cons ?_ (.cons ?_ (.cons ?_ (.cons ?_ (.cons ?_ (.cons ?_ (.cons ?_ (.cons ?_ .nil)))))))))) ?_
      ·refine Ans.mk rfl rfl fun a H => ?_
       replace H := H.weaken (L' := [(0, (.pointer (some a6)))]) ⟨rfl, trivial⟩
       refine s_move H rfl rfl (lt_ rfl) fun a H => c_nil ⟨rfl, rfl, H.weaken (L' := [(60, (.pointer (some a6)))]) ⟨rfl, trivial⟩⟩
      ·refine Ans.mk rfl rfl fun a H => ?_
       replace H := H.weaken (L' := [(60, (.pointer (some a6)))]) ⟨rfl, trivial⟩
       refine s_nil H rfl rfl (lt_ rfl) fun a H => c_nil ⟨rfl, rfl, H.weaken (L' := [(61, (.pointer (some a6)))]) ⟨rfl, trivial⟩⟩
      ·refine Ans.mk rfl rfl fun a H => ?_
       replace H := H.weaken (L' := [(61, (.pointer (some a6)))]) ⟨rfl, trivial⟩
       refine s_fld H rfl rfl fld_116_0 (lt_ rfl) fun a H => c_nil ⟨rfl, rfl, H.weaken (L' := [(62, (.pointer (some (a6.add 0))))]) ⟨rfl, trivial⟩⟩
      ·refine Ans.mk rfl rfl fun a H => ?_
       replace H := H.weaken (L' := [(62, (.pointer (some (a6.add 0))))]) ⟨rfl, trivial⟩
       refine s_load (v := l49.v) H rfl rfl one_22 hc50 (lt_ rfl) fun a H => c_nil ⟨rfl, rfl, H.weaken (L' := [(63, l49.v)]) ⟨rfl, trivial⟩⟩
      ·refine Ans.mk rfl rfl fun a H => ?_
       replace H := H.weaken (L' := [(8, (.i (wr .i64 (l32 + n21))))]) ⟨rfl, trivial⟩
       refine s_move H rfl rfl (lt_ rfl) fun a H => c_nil ⟨rfl, rfl, H.weaken (L' := [(64, (.i (wr .i64 (l32 + n21))))]) ⟨rfl, trivial⟩⟩
      ·refine Ans.mk rfl rfl fun a H => ?_
       replace H := H.weaken (L' := [(0, (.pointer (some a6)))]) ⟨rfl, trivial⟩
       refine s_move H rfl rfl (lt_ rfl) fun a H => c_nil ⟨rfl, rfl, H.weaken (L' := [(65, (.pointer (some a6)))]) ⟨rfl, trivial⟩⟩
      ·refine Ans.mk rfl rfl fun a H => ?_
       replace H := H.weaken (L' := [(65, (.pointer (some a6)))]) ⟨rfl, trivial⟩
       refine s_nil H rfl rfl (lt_ rfl) fun a H => c_nil ⟨rfl, rfl, H.weaken (L' := [(66, (.pointer (some a6)))]) ⟨rfl, trivial⟩⟩
      ·refine Ans.mk rfl rfl fun a H => ?_
       replace H := H.weaken (L' := [(66, (.pointer (some a6)))]) ⟨rfl, trivial⟩
       refine s_fld H rfl rfl fld_116_1 (lt_ rfl) fun a H => c_nil ⟨rfl, rfl, H.weaken (L' := [(67, (.pointer (some (a6.add 1))))]) ⟨rfl, trivial⟩⟩
      ·refine Ans.mk rfl rfl fun a H => ?_
       replace H := H.weaken (L' := [(67, (.pointer (some (a6.add 1))))]) ⟨rfl, trivial⟩
       refine s_load (v := (.i l51)) H rfl rfl one_3 hc52 (lt_ rfl) fun a H => c_nil ⟨rfl, rfl, H.weaken (L' := [(68, (.i l51))]) ⟨rfl, trivial⟩⟩
      ·refine Ans.mk rfl rfl fun a H => ?_
       replace H := H.weaken (L' := [(63, l49.v), (64, (.i (wr .i64 (l32 + n21)))), (68, (.i l51))]) ⟨rfl, rfl, rfl, trivial⟩
       refine s_slice (v := (Slc.v (l49.cut 1 (Int.toNat (wr .i64 (l32 + n21))) (Int.toNat (l51))))) H rfl rfl ⟨rfl, rfl⟩ ⟨rfl, rfl⟩ ⟨rfl, rfl⟩ (r_sliceSlc (lo := (some (.i64, wr .i64 (l32 + n21)))) (hi := (some (.i64, l51))) slc_22 rfl rfl h53 h54 h55) (lt_ rfl) fun a H => c_nil ⟨rfl, rfl, H.weaken (L' := [(69, (Slc.v (l49.cut 1 (Int.toNat (wr .i64 (l32 + n21))) (Int.toNat (l51)))))]) ⟨rfl, trivial⟩⟩
      ·intro a H
       replace H := H.weaken (L' := []) trivial
       replace h := h.get
       obtain ⟨b56, w57, n58, h⟩ := h
       refine s_bslc H rfl (by rw [H.parts (vs := []) rfl]; exact bs_22_0 (w45.drewN 1)) (lt_ rfl) ?_
       rw [← n58.at_]
       clear H a
       intro a H
       refine n58.go <| c_nil ?_
       obtain ⟨hc59, hc60, h⟩ := h
       refine effQ.ok (v := (Slc.v (Slc.mk (some (blk b56)) 0 0))) (H.weaken (L' := [(59, (Slc.v (Slc.mk (some (blk b56)) 0 0)))]) ⟨rfl, trivial⟩) ⟨[(1, (.pointer (some a6))), (2, (.pointer (some a6))), (3, (.pointer (some (a6.add 0)))), (4, l49.v), (5, (.i (wr .i64 (l32 + n21)))), (6, (.pointer (some a6))), (7, (.pointer (some a6))), (8, (.pointer (some (a6.add 1)))), (9, (.i l51)), (10, (Slc.v (l49.cut 1 (Int.toNat (wr .i64 (l32 + n21))) (Int.toNat (l51))))), (0, (Slc.v (Slc.mk (some (blk b56)) 0 0)))], ⟨rfl, rfl, rfl, rfl, rfl, rfl, rfl, rfl, rfl, rfl, rfl, trivial⟩, ?_⟩
       refine Stg.eff [1, 2, 3, 4, 5, 6, 7, 8, 9, 10] (by kernel_rfl) rfl (.cons ?_ (.cons ?_ (.cons ?_ (.cons ?_ (.cons ?_ (.cons ?_ (.cons ?_ (.cons ?_ (.cons ?_ (.cons ?_ .nil)))))))))) ?_
       ·refine Ans.mk rfl rfl fun a H => ?_
        replace H := H.weaken (L' := [(0, (.pointer (some a6)))]) ⟨rfl, trivial⟩
        refine s_move H rfl rfl (lt_ rfl) fun a H => c_nil ⟨rfl, rfl, H.weaken (L' := [(60, (.pointer (some a6)))]) ⟨rfl, trivial⟩⟩
       ·refine Ans.mk rfl rfl fun a H => ?_
        replace H := H.weaken (L' := [(60, (.pointer (some a6)))]) ⟨rfl, trivial⟩
        refine s_nil H rfl rfl (lt_ rfl) fun a H => c_nil ⟨rfl, rfl, H.weaken (L' := [(61, (.pointer (some a6)))]) ⟨rfl, trivial⟩⟩
       ·refine Ans.mk rfl rfl fun a H => ?_
        replace H := H.weaken (L' := [(61, (.pointer (some a6)))]) ⟨rfl, trivial⟩
        refine s_fld H rfl rfl fld_116_0 (lt_ rfl) fun a H => c_nil ⟨rfl, rfl, H.weaken (L' := [(62, (.pointer (some (a6.add 0))))]) ⟨rfl, trivial⟩⟩
       ·refine Ans.mk rfl rfl fun a H => ?_
        replace H := H.weaken (L' := [(62, (.pointer (some (a6.add 0))))]) ⟨rfl, trivial⟩
        refine s_load (v := l49.v) H rfl rfl one_22 hc59 (lt_ rfl) fun a H => c_nil ⟨rfl, rfl, H.weaken (L' := [(63, l49.v)]) ⟨rfl, trivial⟩⟩
       ·refine Ans.mk rfl rfl fun a H => ?_
        replace H := H.weaken (L' := [(8, (.i (wr .i64 (l32 + n21))))]) ⟨rfl, trivial⟩
        refine s_move H rfl rfl (lt_ rfl) fun a H => c_nil ⟨rfl, rfl, H.weaken (L' := [(64, (.i (wr .i64 (l32 + n21))))]) ⟨rfl, trivial⟩⟩
       ·refine Ans.mk rfl rfl fun a H => ?_
        replace H := H.weaken (L' := [(0, (.pointer (some a6)))]) ⟨rfl, trivial⟩
        refine s_move H rfl rfl (lt_ rfl) fun a H => c_nil ⟨rfl, rfl, H.weaken (L' := [(65, (.pointer (some a6)))]) ⟨rfl, trivial⟩⟩
       ·refine Ans.mk rfl rfl fun a H => ?_
        replace H := H.weaken (L' := [(65, (.pointer (some a6)))]) ⟨rfl, trivial⟩
        refine s_nil H rfl rfl (lt_ rfl) fun a H => c_nil ⟨rfl, rfl, H.weaken (L' := [(66, (.pointer (some a6)))]) ⟨rfl, trivial⟩⟩
       ·refine Ans.mk rfl rfl fun a H => ?_
        replace H := H.weaken (L' := [(66, (.pointer (some a6)))]) ⟨rfl, trivial⟩
        refine s_fld H rfl rfl fld_116_1 (lt_ rfl) fun a H => c_nil ⟨rfl, rfl, H.weaken (L' := [(67, (.pointer (some (a6.add 1))))]) ⟨rfl, trivial⟩⟩
       ·refine Ans.mk rfl rfl fun a H => ?_
        replace H := H.weaken (L' := [(67, (.pointer (some (a6.add 1))))]) ⟨rfl, trivial⟩
        refine s_load (v := (.i l51)) H rfl rfl one_3 hc60 (lt_ rfl) fun a H => c_nil ⟨rfl, rfl, H.weaken (L' := [(68, (.i l51))]) ⟨rfl, trivial⟩⟩
       ·refine Ans.mk rfl rfl fun a H => ?_
        replace H := H.weaken (L' := [(63, l49.v), (64, (.i (wr .i64 (l32 + n21)))), (68, (.i l51))]) ⟨rfl, rfl, rfl, trivial⟩
        refine s_slice (v := (Slc.v (l49.cut 1 (Int.toNat (wr .i64 (l32 + n21))) (Int.toNat (l51))))) H rfl rfl ⟨rfl, rfl⟩ ⟨rfl, rfl⟩ ⟨rfl, rfl⟩ (r_sliceSlc (lo := (some (.i64, wr .i64 (l32 + n21)))) (hi := (some (.i64, l51))) slc_22 rfl rfl h53 h54 h55) (lt_ rfl) fun a H => c_nil ⟨rfl, rfl, H.weaken (L' := [(69, (Slc.v (l49.cut 1 (Int.toNat (wr .i64 (l32 + n21))) (Int.toNat (l51)))))]) ⟨rfl, trivial⟩⟩
       ·intro a H
        replace H := H.weaken (L' := [(59, (Slc.v (Slc.mk (some (blk b56)) 0 0))), (69, (Slc.v (l49.cut 1 (Int.toNat (wr .i64 (l32 + n21))) (Int.toNat (l51)))))]) ⟨rfl, rfl, trivial⟩
        obtain ⟨s61, w62, h63, h⟩ := h
        refine s_blt H rfl (H.args (vs := [(Slc.v (Slc.mk (some (blk b56)) 0 0)), (Slc.v (l49.cut 1 (Int.toNat (wr .i64 (l32 + n21))) (Int.toNat (l51))))]) rfl) (lt_ rfl) (fun cs => b_app (z := s61) h63) ?_
        clear H a h63
        intro a H
        refine c_nil ?_
        refine effQ.ok (v := s61.v) (H.weaken (L' := [(70, s61.v)]) ⟨rfl, trivial⟩) ⟨[(1, (.pointer (some a6))), (2, (.pointer (some a6))), (3, (.pointer (some (a6.add 0)))), (4, l49.v), (5, (.i (wr .i64 (l32 + n21)))), (6, (.pointer (some a6))), (7, (.pointer (some a6))), (8, (.pointer (some (a6.add 1)))), (9, (.i l51)), (10, (Slc.v (l49.cut 1 (Int.toNat (wr .i64 (l32 + n21))) (Int.toNat (l51))))), (0, (Slc.v (Slc.mk (some (blk b56)) 0 0))), (11, s61.v), (12, s61.v)], ⟨rfl, rfl, rfl, rfl, rfl, rfl, rfl, rfl, rfl, rfl, rfl, rfl, trivial⟩, ?_⟩
        refine Stg.fin [12] (by kernel_rfl) (.cons ?_ .nil) ?_
        ·refine Ans.mk rfl rfl fun a H => ?_
         replace H := H.weaken (L' := [(70, s61.v)]) ⟨rfl, trivial⟩
         refine s_assign H rfl rfl (lt_ rfl) fun a H => c_nil ⟨rfl, rfl, H.weaken (L' := [(4, s61.v)]) ⟨rfl, trivial⟩⟩
        ·intro a H
         replace H := H.weaken (L' := [(4, s61.v)]) ⟨rfl, trivial⟩
         refine hK48 _ _ <| c_ret ?_
         exact e_ret1 H rfl rfl h

theorem sim_sherdref07_Reader_End (r1 : Option Addr) (w : World) (Q : Ending → World → Prop) (h : vc_sherdref07_Reader_End r1 w Q) : Calls PP F_sherdref07_Reader_End #[(.pointer r1)] w Q := by
 unfold vc_sherdref07_Reader_End at h
 refine enter (n := 22) Tryz.func73 rfl rfl (Nat.le_of_ble_eq_true rfl) fun a H => c_seq fun K2 hK2 => c_regD mixed (by kernel_rfl) <| z_move H rfl rfl (lt_ rfl) fun a H => ?_
 obtain ⟨a4, h20, h⟩ := h
 subst h20
 refine z_nil H rfl rfl (lt_ rfl) fun a H => z_fld H rfl rfl fld_116_2 (lt_ rfl) fun a H => ?_
 obtain ⟨l5, hc6, h⟩ := h
 refine z_load (v := (.i l5)) H rfl rfl one_30 hc6 (lt_ rfl) fun a H => z_bin H rfl rfl rfl r_eql (lt_ rfl) fun a H => z_move H rfl rfl (lt_ rfl) fun a H => ?_
 obtain ⟨x13, h14, h15, h⟩ := h
 refine zg_join (n := 22) [(18, (.bool x13)), (0, (.pointer (some a4)))] (.succ (.succ (.succ (.succ (.succ (.succ (.succ (.succ (.succ (.succ (.succ (.zero _)))))))))))) ?_ ?_
 ·intro h8
  try clear h
  rcases Bool.eq_false_or_eq_true (decide (l5 = 0)) with h7 | h7
  ·replace H := H.ch (t := 7) (b := true) rfl h7
   replace h := h14 h7
   refine z_move H (wantG H rfl rfl) rfl (lt_ rfl) fun a H => z_nil H (wantG H rfl rfl) rfl (lt_ rfl) fun a H => z_fld H (wantG H rfl rfl) rfl fld_116_1 (lt_ rfl) fun a H => ?_
   obtain ⟨l9, hc10, h⟩ := h
   refine z_load (v := (.i l9)) H (wantG H rfl rfl) rfl one_3 hc10 (lt_ rfl) fun a H => z_move H (wantG H rfl rfl) rfl (lt_ rfl) fun a H => z_nil H (wantG H rfl rfl) rfl (lt_ rfl) fun a H => z_fld H (wantG H rfl rfl) rfl fld_116_0 (lt_ rfl) fun a H => ?_
   obtain ⟨l11, hc12, h⟩ := h
   refine z_load (v := l11.v) H (wantG H rfl rfl) rfl one_22 hc12 (lt_ rfl) fun a H => z_blt H (wantG H rfl rfl) (H.args (vs := [l11.v]) rfl) (lt_ rfl) (fun cs w => b_lenS (z := l11) sl_22) fun a H => z_bin H (wantG H rfl rfl) rfl rfl r_lss (lt_ rfl) fun a H => z_pickT H rfl rfl rfl (lt_ rfl) fun a H => ?_
   subst h
   exact h8 _ (H.weaken ⟨rfl, rfl, trivial⟩)
  ·replace H := H.ch (t := 7) (b := false) rfl h7
   iterate 10 refine z_skip H (wantN H rfl rfl rfl) rfl (lt_ rfl) fun a H => ?_
   refine z_pickF H rfl rfl rfl (lt_ rfl) fun a H => ?_
   replace h := h15 h7
   subst h
   exact h8 _ (H.weaken ⟨rfl, rfl, trivial⟩)
 ·clear H a
  clear h14 h15
  intro a H
  refine wpQuiet_nil ?_
  rintro _ ⟨k3, rfl⟩
  replace h := h k3
  refine hK2 _ _ <| c_cond H rfl (fun h16 => ?_) (fun h16 => ?_)
  ·replace h := h.1 h16
   refine c_reg <| s_move H rfl rfl (lt_ rfl) fun a H => s_nil H rfl rfl (lt_ rfl) fun a H => s_fld H rfl rfl fld_116_2 (lt_ rfl) fun a H => ?_
   obtain ⟨h18, h19, h⟩ := h
   refine s_sto (p := a4.add 2) (v := (.i 35)) H rfl rfl rfl rfl one_30 rfl h18 h19 ?_
   clear H
   intro H
   generalize hww17 : World.setCell (w.drewN k3) (a4.add 2) (.i 35) = w17 at h ⊢
   have w17S : SetAt (w.drewN k3) (a4.add 2) (.i 35) w17 := ⟨hww17.symm⟩
   clear hww17 h18 h19
   refine c_nil ?_
   exact e_ret0 H rfl h
  ·replace h := h.2 h16
   refine c_skip ?_
   exact e_ret0 H rfl h

theorem sim_pack_NewReader (d1 : Slc) (w : World) (Q : Ending → World → Prop) (h : vc_pack_NewReader d1 w Q) : Calls PP F_pack_NewReader #[d1.v] w Q := by
 unfold vc_pack_NewReader at h
 refine enter (n := 7) Tryz.func75 rfl rfl (Nat.le_of_ble_eq_true rfl) fun a H => c_seq fun K2 hK2 => c_reg <| s_assign H rfl rfl (lt_ rfl) fun a H => c_nil <| hK2 _ _ <| c_seq fun K3 hK3 => c_reg <| s_move H rfl rfl (lt_ rfl) fun a H => s_call H rfl body_8 (H.args (vs := [d1.v]) rfl) (lt_ rfl) h ?_ (fun c w' h H => e_panic (P := PP) (fn := Tryz.f75) H h)
 clear H h a
 rintro _ w4 a ⟨C5, rfl, h⟩ H
 refine s_build H rfl (by rw [H.parts (vs := [(1, C5.v)]) rfl]; exact bd_135_s1 w4 C5) (lt_ rfl) fun a H => ?_
 replace h := h.get
 obtain ⟨b6, w7, n8, h⟩ := h
 refine s_box H rfl rfl (lt_ rfl) ?_
 rw [← n8.at_]
 clear H a
 intro a H
 refine n8.go <| s_assign H rfl rfl (lt_ rfl) fun a H => c_nil <| hK3 _ _ <| c_ret ?_
 exact e_ret1 H rfl rfl h

theorem sim_pack_Reader_Byte (r1 : Option Addr) (w : World) (Q : Ending → World → Prop) (h : vc_pack_Reader_Byte r1 w Q) : Calls PP F_pack_Reader_Byte #[(.pointer r1)] w Q := by
 unfold vc_pack_Reader_Byte at h
 refine enter (n := 37) Tryz.func76 rfl rfl (Nat.le_of_ble_eq_true rfl) fun a H => c_seq fun K2 hK2 => c_reg <| s_assign H rfl rfl (lt_ rfl) fun a H => c_nil <| hK2 _ _ <| c_seq fun K3 hK3 => c_seq fun K4 hK4 => c_reg <| s_move H rfl rfl (lt_ rfl) fun a H => s_call H rfl body_93 (H.args (vs := [(.pointer r1)]) rfl) (lt_ rfl) h ?_ (fun c w' h H => e_panic (P := PP) (fn := Tryz.f76) H h)
 clear H h a
 rintro _ w5 a ⟨s6, rfl, h⟩ H
 refine c_nil <| hK4 _ _ <| c_cond H rfl (fun h7 => ?_) (fun h7 => ?_)
 ·replace h := h.1 h7
  refine c_seq fun K8 hK8 => c_reg <| s_assign H rfl rfl (lt_ rfl) fun a H => c_nil <| hK8 _ _ <| c_ret ?_
  exact e_ret1 H rfl rfl h
 ·replace h := h.2 h7
  refine c_skip <| hK3 _ _ <| c_seq fun K9 hK9 => c_seq fun K10 hK10 => c_regD mixed (by kernel_rfl) <| z_move H rfl rfl (lt_ rfl) fun a H => ?_
  obtain ⟨a12, h43, h⟩ := h
  subst h43
  refine z_nil H rfl rfl (lt_ rfl) fun a H => z_fld H rfl rfl fld_135_2 (lt_ rfl) fun a H => ?_
  obtain ⟨l13, hc14, h⟩ := h
  refine z_load (v := (.i l13)) H rfl rfl one_3 hc14 (lt_ rfl) fun a H => z_move H rfl rfl (lt_ rfl) fun a H => z_nil H rfl rfl (lt_ rfl) fun a H => z_fld H rfl rfl fld_135_1 (lt_ rfl) fun a H => ?_
  obtain ⟨l15, hc16, h⟩ := h
  refine z_load (v := l15.v) H rfl rfl one_22 hc16 (lt_ rfl) fun a H => z_blt H rfl (H.args (vs := [l15.v]) rfl) (lt_ rfl) (fun cs w => b_lenS (z := l15) sl_22) fun a H => z_bin H rfl rfl rfl r_geq (lt_ rfl) fun a H => wpQuiet_nil ?_
  rintro _ ⟨k11, rfl⟩
  replace h := h k11
  refine hK10 _ _ <| c_cond H rfl (fun h17 => ?_) (fun h17 => ?_)
  ·replace h := h.1 h17
   refine c_seq fun K18 hK18 => c_reg <| s_move H rfl rfl (lt_ rfl) fun a H => s_nil H rfl rfl (lt_ rfl) fun a H => s_fld H rfl rfl fld_135_0 (lt_ rfl) fun a H => s_call H rfl body_36 (H.args (vs := [(.pointer (some (a12.add 0))), (.i 30)]) rfl) (lt_ rfl) h ?_ (fun c w' h H => e_panic (P := PP) (fn := Tryz.f76) H h)
   clear H h a
   rintro _ w19 a ⟨rfl, h⟩ H
   refine c_nil <| hK18 _ _ <| c_seq fun K20 hK20 => c_reg <| s_assign H rfl rfl (lt_ rfl) fun a H => c_nil <| hK20 _ _ <| c_ret ?_
   exact e_ret1 H rfl rfl h
  ·replace h := h.2 h17
   refine c_skip <| hK9 _ _ <| c_seq fun K25 hK25 => c_reg <| s_move H rfl rfl (lt_ rfl) fun a H => s_nil H rfl rfl (lt_ rfl) fun a H => s_fld H rfl rfl fld_135_2 (lt_ rfl) fun a H => ?_
   obtain ⟨l26, hc27, h⟩ := h
   refine s_load (v := (.i l26)) H rfl rfl one_3 hc27 (lt_ rfl) fun a H => s_bin H rfl rfl rfl r_add (lt_ rfl) fun a H => s_nil H rfl rfl (lt_ rfl) fun a H => s_fld H rfl rfl fld_135_2 (lt_ rfl) fun a H => ?_
   obtain ⟨h29, h30, h⟩ := h
   refine s_sto (p := a12.add 2) (v := (.i (wr .i64 (l26 + 1)))) H rfl rfl rfl rfl one_3 rfl h29 h30 ?_
   clear H
   intro H
   generalize hww28 : World.setCell (w5.drewN k11) (a12.add 2) (.i (wr .i64 (l26 + 1))) = w28 at h ⊢
   have w28S : SetAt (w5.drewN k11) (a12.add 2) (.i (wr .i64 (l26 + 1))) w28 := ⟨hww28.symm⟩
   clear hww28 h29 h30
   refine c_nil <| hK25 _ _ <| c_seq fun K31 hK31 => c_regD mixed (by kernel_rfl) <| z_move H rfl rfl (lt_ rfl) fun a H => z_nil H rfl rfl (lt_ rfl) fun a H => z_fld H rfl rfl fld_135_1 (lt_ rfl) fun a H => ?_
   obtain ⟨l33, hc34, h⟩ := h
   refine z_load (v := l33.v) H rfl rfl one_22 hc34 (lt_ rfl) fun a H => z_move H rfl rfl (lt_ rfl) fun a H => z_nil H rfl rfl (lt_ rfl) fun a H => z_fld H rfl rfl fld_135_2 (lt_ rfl) fun a H => ?_
   obtain ⟨l35, hc36, h⟩ := h
   refine z_load (v := (.i l35)) H rfl rfl one_3 hc36 (lt_ rfl) fun a H => z_bin H rfl rfl rfl r_sub (lt_ rfl) fun a H => ?_
   obtain ⟨a37, h38, h39, h40, h⟩ := h
   refine z_idxS (s := l33) H rfl rfl rfl slc_22 h38 h39 h40 (lt_ rfl) fun a H => ?_
   obtain ⟨l41, hc42, h⟩ := h
   refine z_load (v := (.int .u8 l41)) H rfl rfl one_5 hc42 (lt_ rfl) fun a H => z_assign H rfl rfl (lt_ rfl) fun a H => wpQuiet_nil ?_
   rintro _ ⟨k32, rfl⟩
   replace h := h k32
   refine hK31 _ _ <| c_ret ?_
   exact e_ret1 H rfl rfl h
end Go.Proofs.YtnhgnfflihoaiaaGreatDoor
