/-
  The conditions give the machine's calls; printed by vcgen.py.
-/
import Derived.Test.YtflcdgkckfcofaaGreatDoorRecVc
namespace Go.Proofs.YtflcdgkckfcofaaGreatDoor
open Go Go.Vc
set_option maxRecDepth 100000
set_option maxHeartbeats 4000000
theorem sim_sherdlaw14_FlogSmall (N1 K2 S3 : Int) (S4 : Slc) (K5 : Int) (U6 : Slc) (N7 : Int) (Y8 : Bool) (L9 : Slc) (N10 K11 D12 S13 A14 : Int) (Y15 : Bool) (L16 : Slc) (A17 : Int) (L18 : Slc) (w : World) (Q : Ending → World → Prop) (h : vc_sherdlaw14_FlogSmall N1 K2 S3 S4 K5 U6 N7 Y8 L9 N10 K11 D12 S13 A14 Y15 L16 A17 L18 w Q) : Calls PP F_sherdlaw14_FlogSmall #[(.agg #[(.i N1), (.i K2), (.i S3), S4.v, (.i K5), U6.v, (.i N7), (.bool Y8), L9.v, (.i N10), (.i K11), (.i D12), (.i S13), (.i A14), (.bool Y15), L16.v, (.i A17), L18.v])] w Q := by
 unfold vc_sherdlaw14_FlogSmall at h
 refine enter (n := 137) Tryz.func4 rfl rfl (Nat.le_of_ble_eq_true rfl) fun a H => c_seq fun K19 hK19 => c_reg ?_
 replace h := h.get
 obtain ⟨b20, w21, n22, h⟩ := h
 refine s_box H rfl rfl (lt_ rfl) ?_
 rw [← n22.at_]
 clear H a
 intro a H
 refine n22.go <| s_assign H rfl rfl (lt_ rfl) fun a H => c_nil <| hK19 _ _ <| c_seq fun K23 hK23 => c_reg ?_
 refine s_loadN (l := [(.i N1), (.i K2), (.i S3), S4.v, (.i K5), U6.v, (.i N7), (.bool Y8), L9.v, (.i N10), (.i K11), (.i D12), (.i S13), (.i A14), (.bool Y15), L16.v, (.i A17), L18.v]) H rfl rfl agg_32 rfl ⟨(n22.cell (i := 0) rfl), (n22.cell (i := 1) rfl), (n22.cell (i := 2) rfl), (n22.cell (i := 3) rfl), (n22.cell (i := 4) rfl), (n22.cell (i := 5) rfl), (n22.cell (i := 6) rfl), (n22.cell (i := 7) rfl), (n22.cell (i := 8) rfl), (n22.cell (i := 9) rfl), (n22.cell (i := 10) rfl), (n22.cell (i := 11) rfl), (n22.cell (i := 12) rfl), (n22.cell (i := 13) rfl), (n22.cell (i := 14) rfl), (n22.cell (i := 15) rfl), (n22.cell (i := 16) rfl), (n22.cell (i := 17) rfl), trivial⟩ (lt_ rfl) fun a H => ?_
 refine s_call H rfl body_8 (H.args (vs := [(.agg #[(.i N1), (.i K2), (.i S3), S4.v, (.i K5), U6.v, (.i N7), (.bool Y8), L9.v, (.i N10), (.i K11), (.i D12), (.i S13), (.i A14), (.bool Y15), L16.v, (.i A17), L18.v])]) rfl) (lt_ rfl) h ?_ (fun c w' h H => e_panic (P := PP) (fn := Tryz.f4) H h)
 clear H h a
 rintro _ w24 a ⟨p25, p26, p27, p28, rfl, h⟩ H
 refine s_move H rfl rfl (lt_ rfl) fun a H => ?_
 iterate 4 refine s_ext H rfl rfl rfl (lt_ rfl) fun a H => ?_
 iterate 4 refine s_assign H rfl rfl (lt_ rfl) fun a H => ?_
 refine c_nil <| hK23 _ _ <| c_seq fun K29 hK29 => c_seq fun K30 hK30 => c_reg <| s_move H rfl rfl (lt_ rfl) fun a H => s_un H rfl rfl r_not (lt_ rfl) fun a H => c_nil <| hK30 _ _ <| c_cond H rfl (fun h31 => ?_) (fun h31 => ?_)
 ·replace h := h.1 h31
  refine c_seq fun K32 hK32 => c_reg <| s_assign H rfl rfl (lt_ rfl) fun a H => c_nil <| hK32 _ _ <| c_ret ?_
  exact e_ret1 H rfl rfl h
 ·replace h := h.2 h31
  refine c_skip <| hK29 _ _ <| c_seq fun K33 hK33 => c_reg ?_
  obtain ⟨N34, hc35, K36, hc37, S38, hc39, S40, hc41, K42, hc43, U44, hc45, N46, hc47, Y48, hc49, L50, hc51, N52, hc53, K54, hc55, D56, hc57, S58, hc59, A60, hc61, Y62, hc63, L64, hc65, A66, hc67, L68, hc69, h⟩ := h
  refine s_loadN (l := [(.i N34), (.i K36), (.i S38), S40.v, (.i K42), U44.v, (.i N46), (.bool Y48), L50.v, (.i N52), (.i K54), (.i D56), (.i S58), (.i A60), (.bool Y62), L64.v, (.i A66), L68.v]) H rfl rfl agg_32 rfl ⟨hc35, hc37, hc39, hc41, hc43, hc45, hc47, hc49, hc51, hc53, hc55, hc57, hc59, hc61, hc63, hc65, hc67, hc69, trivial⟩ (lt_ rfl) fun a H => ?_
  refine s_call H rfl body_9 (H.args (vs := [(.agg #[(.i N34), (.i K36), (.i S38), S40.v, (.i K42), U44.v, (.i N46), (.bool Y48), L50.v, (.i N52), (.i K54), (.i D56), (.i S58), (.i A60), (.bool Y62), L64.v, (.i A66), L68.v])]) rfl) (lt_ rfl) h ?_ (fun c w' h H => e_panic (P := PP) (fn := Tryz.f4) H h)
  clear H h a
  rintro _ w70 a ⟨N71, K72, D73, S74, rfl, h⟩ H
  replace h := h.get
  obtain ⟨b75, w76, n77, h⟩ := h
  refine s_alloc H rfl zero_28 (lt_ rfl) ?_
  rw [← n77.at_]
  clear H a
  intro a H
  refine n77.go <| s_stoN (l := [(.i N71), (.i K72), (.i D73), (.i S74)]) H rfl rfl rfl rfl agg_28 rfl rfl h ?_
  clear h H
  intro w78 h H
  refine c_nil <| hK33 _ _ <| c_seq fun K79 hK79 => c_reg ?_
  obtain ⟨N80, hc81, K82, hc83, D84, hc85, S86, hc87, h⟩ := h
  refine s_loadN (l := [(.i N80), (.i K82), (.i D84), (.i S86)]) H rfl rfl agg_28 rfl ⟨hc81, hc83, hc85, hc87, trivial⟩ (lt_ rfl) fun a H => s_fld H rfl rfl fld_32_4 (lt_ rfl) fun a H => s_fld H rfl rfl fld_30_1 (lt_ rfl) fun a H => ?_
  obtain ⟨l88, hc89, h⟩ := h
  refine s_load (v := l88.v) H rfl rfl one_23 hc89 (lt_ rfl) fun a H => s_call H rfl body_15 (H.args (vs := [(.agg #[(.i N80), (.i K82), (.i D84), (.i S86)]), l88.v]) rfl) (lt_ rfl) h ?_ (fun c w' h H => e_panic (P := PP) (fn := Tryz.f4) H h)
  clear H h a
  rintro _ w90 a ⟨g91, rfl, h⟩ H
  refine s_assign H rfl rfl (lt_ rfl) fun a H => c_nil <| hK79 _ _ <| c_seq fun K92 hK92 => c_reg <| s_move H rfl rfl (lt_ rfl) fun a H => s_call H rfl body_16 (H.args (vs := [(.pointer p25)]) rfl) (lt_ rfl) h ?_ (fun c w' h H => e_panic (P := PP) (fn := Tryz.f4) H h)
  clear H h a
  rintro _ w93 a ⟨C94, rfl, h⟩ H
  refine s_assign H rfl rfl (lt_ rfl) fun a H => c_nil <| hK92 _ _ <| c_seq fun K95 hK95 => c_seq fun K96 hK96 => c_reg <| s_move H rfl rfl (lt_ rfl) fun a H => s_move H rfl rfl (lt_ rfl) fun a H => s_call H rfl body_17 (H.args (vs := [(.pointer p26), g91.v]) rfl) (lt_ rfl) h ?_ (fun c w' h H => e_panic (P := PP) (fn := Tryz.f4) H h)
  clear H h a
  rintro _ w97 a ⟨C98, rfl, h⟩ H
  refine s_bin H rfl rfl rfl r_neq (lt_ rfl) fun a H => s_move H rfl rfl (lt_ rfl) fun a H => ?_
  obtain ⟨R101, h, h333⟩ := h
  refine g_joinW (n := 137) R101 (fun x102 => [(47, (.bool x102)), (1, (.pointer (some (blk b20)))), (3, (.pointer p25)), (4, (.pointer p26)), (7, (.pointer (some (blk b75)))), (8, g91.v)]) (.succ (.succ (.succ (.succ (.succ (.succ (.zero _))))))) ?_ ?_
  ·intro h100
   clear h333
   rcases Bool.eq_false_or_eq_true (decide (C98 ≠ 0)) with h99 | h99
   ·replace H := H.ch (t := 41) (b := true) rfl h99
    replace h := h.2 h99
    iterate 5 refine s_skip H (wantN H rfl rfl rfl) rfl (lt_ rfl) fun a H => ?_
    refine s_pickT H rfl rfl rfl (lt_ rfl) fun a H => ?_
    exact h100 _ _ _ h (H.weaken ⟨rfl, rfl, rfl, rfl, rfl, rfl, trivial⟩)
   ·replace H := H.ch (t := 41) (b := false) rfl h99
    replace h := h.1 h99
    refine s_move H (wantG H rfl rfl) rfl (lt_ rfl) fun a H => s_call H (wantG H rfl rfl) body_16 (H.args (vs := [(.pointer p25)]) rfl) (lt_ rfl) h ?_ (fun c w' h H => e_panic (P := PP) (fn := Tryz.f4) H h)
    clear H h a
    rintro _ w104 a ⟨C105, rfl, h⟩ H
    refine s_move H (wantG H rfl rfl) rfl (lt_ rfl) fun a H => s_bin H (wantG H rfl rfl) rfl rfl r_sub (lt_ rfl) fun a H => s_bin H (wantG H rfl rfl) rfl rfl r_neq (lt_ rfl) fun a H => s_pickF H rfl rfl rfl (lt_ rfl) fun a H => ?_
    exact h100 _ _ _ h (H.weaken ⟨rfl, rfl, rfl, rfl, rfl, rfl, trivial⟩)
  ·clear H a h
   intro a x102 w103 h H
   replace h := h333 x102 w103 h
   clear h333
   refine s_move H rfl rfl (lt_ rfl) fun a H => ?_
   obtain ⟨R112, h, h332⟩ := h
   refine g_joinW (n := 137) R112 (fun x113 => [(54, (.bool x113)), (1, (.pointer (some (blk b20)))), (3, (.pointer p25)), (4, (.pointer p26)), (7, (.pointer (some (blk b75)))), (8, g91.v)]) (.succ (.succ (.succ (.succ (.succ (.succ (.zero _))))))) ?_ ?_
   ·intro h111
    clear h332
    rcases Bool.eq_false_or_eq_true x102 with h110 | h110
    ·replace H := H.ch (t := 48) (b := true) rfl h110
     replace h := h.2 h110
     iterate 5 refine s_skip H (wantN H rfl rfl rfl) rfl (lt_ rfl) fun a H => ?_
     refine s_pickT H rfl rfl rfl (lt_ rfl) fun a H => ?_
     exact h111 _ _ _ h (H.weaken ⟨rfl, rfl, rfl, rfl, rfl, rfl, trivial⟩)
    ·replace H := H.ch (t := 48) (b := false) rfl h110
     replace h := h.1 h110
     refine s_move H (wantG H rfl rfl) rfl (lt_ rfl) fun a H => s_call H (wantG H rfl rfl) body_18 (H.args (vs := [(.pointer p26)]) rfl) (lt_ rfl) h ?_ (fun c w' h H => e_panic (P := PP) (fn := Tryz.f4) H h)
     clear H h a
     rintro _ w115 a ⟨C116, rfl, h⟩ H
     refine s_move H (wantG H rfl rfl) rfl (lt_ rfl) fun a H => s_blt H (wantG H rfl rfl) (H.args (vs := [g91.v]) rfl) (lt_ rfl) (fun cs => b_lenS (z := g91) sl_23) fun a H => s_bin H (wantG H rfl rfl) rfl rfl r_neq (lt_ rfl) fun a H => s_pickF H rfl rfl rfl (lt_ rfl) fun a H => ?_
     exact h111 _ _ _ h (H.weaken ⟨rfl, rfl, rfl, rfl, rfl, rfl, trivial⟩)
   ·clear H a h
    intro a x113 w114 h H
    replace h := h332 x113 w114 h
    clear h332
    refine c_nil <| hK96 _ _ <| c_cond H rfl (fun h121 => ?_) (fun h121 => ?_)
    ·replace h := h.1 h121
     refine c_seq fun K122 hK122 => c_reg <| s_assign H rfl rfl (lt_ rfl) fun a H => c_nil <| hK122 _ _ <| c_ret ?_
     exact e_ret1 H rfl rfl h
    ·replace h := h.2 h121
     refine c_skip <| hK95 _ _ <| c_seq fun K123 hK123 => c_reg <| s_call H rfl body_19 (H.args (vs := []) rfl) (lt_ rfl) h ?_ (fun c w' h H => e_panic (P := PP) (fn := Tryz.f4) H h)
     clear H h a
     rintro _ w124 a ⟨N125, rfl, h⟩ H
     refine s_assign H rfl rfl (lt_ rfl) fun a H => c_nil <| hK123 _ _ <| c_seq fun K126 hK126 => c_reg <| s_move H rfl rfl (lt_ rfl) fun a H => ?_
     obtain ⟨N127, hc128, K129, hc130, D131, hc132, S133, hc134, h⟩ := h
     refine s_loadN (l := [(.i N127), (.i K129), (.i D131), (.i S133)]) H rfl rfl agg_28 rfl ⟨hc128, hc130, hc132, hc134, trivial⟩ (lt_ rfl) fun a H => s_call H rfl body_12 (H.args (vs := [(.pointer N125), (.agg #[(.i N127), (.i K129), (.i D131), (.i S133)])]) rfl) (lt_ rfl) h ?_ (fun c w' h H => e_panic (P := PP) (fn := Tryz.f4) H h)
     clear H h a
     rintro _ w135 a ⟨O136, O137, O138, rfl, h⟩ H
     refine s_move H rfl rfl (lt_ rfl) fun a H => ?_
     iterate 3 refine s_ext H rfl rfl rfl (lt_ rfl) fun a H => ?_
     iterate 3 refine s_assign H rfl rfl (lt_ rfl) fun a H => ?_
     refine c_nil <| hK126 _ _ <| c_seq fun K139 hK139 => c_seq fun K140 hK140 => c_reg <| s_move H rfl rfl (lt_ rfl) fun a H => s_bin H rfl rfl rfl r_neq (lt_ rfl) fun a H => s_move H rfl rfl (lt_ rfl) fun a H => g_join (n := 137) [(68, (.bool ((decide (O138 ≠ 0)) || O136.isNone))), (1, (.pointer (some (blk b20)))), (3, (.pointer p25)), (4, (.pointer p26)), (8, g91.v), (10, (.pointer N125)), (11, (.pointer O136))] (.succ (.succ (.succ (.zero _)))) ?_ ?_
     ·intro h142
      try clear h
      rcases Bool.eq_false_or_eq_true (decide (O138 ≠ 0)) with h141 | h141
      ·replace H := H.ch (t := 65) (b := true) rfl h141
       refine s_skip H (wantN H rfl rfl rfl) rfl (lt_ rfl) fun a H => s_skip H (wantN H rfl rfl rfl) rfl (lt_ rfl) fun a H => s_pickT H rfl rfl rfl (lt_ rfl) fun a H => ?_
       exact h142 _ (H.weaken ⟨by rw [h141]; rfl, rfl, rfl, rfl, rfl, rfl, rfl, trivial⟩)
      ·replace H := H.ch (t := 65) (b := false) rfl h141
       refine s_move H (wantG H rfl rfl) rfl (lt_ rfl) fun a H => s_bin H (wantG H rfl rfl) rfl rfl (r_eqP0 ptr_34) (lt_ rfl) fun a H => s_pickF H rfl rfl rfl (lt_ rfl) fun a H => ?_
       exact h142 _ (H.weaken ⟨by rw [h141]; rfl, rfl, rfl, rfl, rfl, rfl, rfl, trivial⟩)
     ·clear H a
      intro a H
      refine s_move H rfl rfl (lt_ rfl) fun a H => ?_
      obtain ⟨R145, h, h323⟩ := h
      refine g_joinW (n := 137) R145 (fun x146 => [(74, (.bool x146)), (1, (.pointer (some (blk b20)))), (3, (.pointer p25)), (4, (.pointer p26)), (8, g91.v), (10, (.pointer N125)), (11, (.pointer O136))]) (.succ (.succ (.succ (.succ (.succ (.zero _)))))) ?_ ?_
      ·intro h144
       clear h323
       rcases Bool.eq_false_or_eq_true ((decide (O138 ≠ 0)) || O136.isNone) with h143 | h143
       ·replace H := H.ch (t := 69) (b := true) rfl h143
        replace h := h.2 h143
        iterate 4 refine s_skip H (wantN H rfl rfl rfl) rfl (lt_ rfl) fun a H => ?_
        refine s_pickT H rfl rfl rfl (lt_ rfl) fun a H => ?_
        exact h144 _ _ _ h (H.weaken ⟨rfl, rfl, rfl, rfl, rfl, rfl, rfl, trivial⟩)
       ·replace H := H.ch (t := 69) (b := false) rfl h143
        replace h := h.1 h143
        refine s_move H (wantG H rfl rfl) rfl (lt_ rfl) fun a H => s_move H (wantG H rfl rfl) rfl (lt_ rfl) fun a H => s_call H (wantG H rfl rfl) body_20 (H.args (vs := [(.pointer O136), g91.v]) rfl) (lt_ rfl) h ?_ (fun c w' h H => e_panic (P := PP) (fn := Tryz.f4) H h)
        clear H h a
        rintro _ w148 a ⟨A149, rfl, h⟩ H
        refine s_bin H (wantG H rfl rfl) rfl rfl r_neq (lt_ rfl) fun a H => s_pickF H rfl rfl rfl (lt_ rfl) fun a H => ?_
        exact h144 _ _ _ h (H.weaken ⟨rfl, rfl, rfl, rfl, rfl, rfl, rfl, trivial⟩)
      ·clear H a h
       intro a x146 w147 h H
       replace h := h323 x146 w147 h
       clear h323
       refine s_move H rfl rfl (lt_ rfl) fun a H => ?_
       obtain ⟨R156, h, h322⟩ := h
       refine g_joinW (n := 137) R156 (fun x157 => [(81, (.bool x157)), (1, (.pointer (some (blk b20)))), (3, (.pointer p25)), (4, (.pointer p26)), (8, g91.v), (10, (.pointer N125))]) (.succ (.succ (.succ (.succ (.succ (.succ (.zero _))))))) ?_ ?_
       ·intro h155
        clear h322
        rcases Bool.eq_false_or_eq_true x146 with h154 | h154
        ·replace H := H.ch (t := 75) (b := true) rfl h154
         replace h := h.2 h154
         iterate 5 refine s_skip H (wantN H rfl rfl rfl) rfl (lt_ rfl) fun a H => ?_
         refine s_pickT H rfl rfl rfl (lt_ rfl) fun a H => ?_
         exact h155 _ _ _ h (H.weaken ⟨rfl, rfl, rfl, rfl, rfl, rfl, trivial⟩)
        ·replace H := H.ch (t := 75) (b := false) rfl h154
         replace h := h.1 h154
         refine s_move H (wantG H rfl rfl) rfl (lt_ rfl) fun a H => s_call H (wantG H rfl rfl) body_21 (H.args (vs := [(.pointer O136)]) rfl) (lt_ rfl) h ?_ (fun c w' h H => e_panic (P := PP) (fn := Tryz.f4) H h)
         clear H h a
         rintro _ w159 a ⟨B160, rfl, h⟩ H
         refine s_move H (wantG H rfl rfl) rfl (lt_ rfl) fun a H => s_call H (wantG H rfl rfl) body_21 (H.args (vs := [(.pointer p26)]) rfl) (lt_ rfl) h ?_ (fun c w' h H => e_panic (P := PP) (fn := Tryz.f4) H h)
         clear H h a
         rintro _ w161 a ⟨B162, rfl, h⟩ H
         refine s_bin H (wantG H rfl rfl) rfl rfl r_neq (lt_ rfl) fun a H => s_pickF H rfl rfl rfl (lt_ rfl) fun a H => ?_
         exact h155 _ _ _ h (H.weaken ⟨rfl, rfl, rfl, rfl, rfl, rfl, trivial⟩)
       ·clear H a h
        intro a x157 w158 h H
        replace h := h322 x157 w158 h
        clear h322
        refine c_nil <| hK140 _ _ <| c_cond H rfl (fun h171 => ?_) (fun h171 => ?_)
        ·replace h := h.1 h171
         refine c_seq fun K172 hK172 => c_reg <| s_assign H rfl rfl (lt_ rfl) fun a H => c_nil <| hK172 _ _ <| c_ret ?_
         exact e_ret1 H rfl rfl h
        ·replace h := h.2 h171
         refine c_skip <| hK139 _ _ <| c_seq fun K173 hK173 => c_reg <| s_move H rfl rfl (lt_ rfl) fun a H => s_call H rfl body_22 (H.args (vs := [(.pointer p25)]) rfl) (lt_ rfl) h ?_ (fun c w' h H => e_panic (P := PP) (fn := Tryz.f4) H h)
         clear H h a
         rintro _ w174 a ⟨v175, v176, S177, rfl, h⟩ H
         refine s_move H rfl rfl (lt_ rfl) fun a H => s_ext H rfl rfl rfl (lt_ rfl) fun a H => s_ext H rfl rfl rfl (lt_ rfl) fun a H => ?_
         replace h := h.get
         obtain ⟨b178, w179, n180, h⟩ := h
         refine s_alloc H rfl zero_52 (lt_ rfl) ?_
         rw [← n180.at_]
         clear H a
         intro a H
         refine n180.go <| s_stoN (l := [v175.v, v176.v]) H rfl rfl rfl rfl agg_52 rfl rfl h ?_
         clear h H
         intro w181 h H
         refine s_assign H rfl rfl (lt_ rfl) fun a H => c_nil <| hK173 _ _ <| c_seq fun K182 hK182 => c_reg <| s_move H rfl rfl (lt_ rfl) fun a H => s_call H rfl body_22 (H.args (vs := [(.pointer N125)]) rfl) (lt_ rfl) h ?_ (fun c w' h H => e_panic (P := PP) (fn := Tryz.f4) H h)
         clear H h a
         rintro _ w183 a ⟨v184, v185, S186, rfl, h⟩ H
         refine s_move H rfl rfl (lt_ rfl) fun a H => s_ext H rfl rfl rfl (lt_ rfl) fun a H => s_ext H rfl rfl rfl (lt_ rfl) fun a H => ?_
         replace h := h.get
         obtain ⟨b187, w188, n189, h⟩ := h
         refine s_alloc H rfl zero_52 (lt_ rfl) ?_
         rw [← n189.at_]
         clear H a
         intro a H
         refine n189.go <| s_stoN (l := [v184.v, v185.v]) H rfl rfl rfl rfl agg_52 rfl rfl h ?_
         clear h H
         intro w190 h H
         refine s_assign H rfl rfl (lt_ rfl) fun a H => c_nil <| hK182 _ _ <| c_seq fun K191 hK191 => c_seq fun K192 hK192 => ?_
         obtain ⟨R194, h, h313⟩ := h
         have h286 : ∀ (a : Act) (s193 : Bool) (w195 : World), R194 s193 w195 → Has 137 [] a [(1, (.pointer (some (blk b20)))), (3, (.pointer p25)), (4, (.pointer p26)), (8, g91.v), (108, (.bool s193))] → K192 a w195 := by
          clear h
          intro a s193 w195 h H
          replace h := h313 s193 w195 h
          refine hK192 _ _ <| c_cond H rfl (fun h196 => ?_) (fun h196 => ?_)
          ·replace h := h.1 h196
           refine c_seq fun K197 hK197 => c_reg <| s_assign H rfl rfl (lt_ rfl) fun a H => c_nil <| hK197 _ _ <| c_ret ?_
           exact e_ret1 H rfl rfl h
          ·replace h := h.2 h196
           refine c_skip <| hK191 _ _ <| c_seq fun K198 hK198 => c_seq fun K199 hK199 => c_reg <| s_move H rfl rfl (lt_ rfl) fun a H => s_move H rfl rfl (lt_ rfl) fun a H => s_call H rfl body_20 (H.args (vs := [(.pointer p26), g91.v]) rfl) (lt_ rfl) h ?_ (fun c w' h H => e_panic (P := PP) (fn := Tryz.f4) H h)
           clear H h a
           rintro _ w200 a ⟨A201, rfl, h⟩ H
           refine s_bin H rfl rfl rfl r_neq (lt_ rfl) fun a H => s_move H rfl rfl (lt_ rfl) fun a H => ?_
           obtain ⟨R204, h, h281⟩ := h
           refine g_joinW (n := 137) R204 (fun x205 => [(120, (.bool x205)), (1, (.pointer (some (blk b20)))), (3, (.pointer p25)), (8, g91.v)]) (.succ (.succ (.succ (.succ (.succ (.succ (.succ (.zero _)))))))) ?_ ?_
           ·intro h203
            clear h281
            rcases Bool.eq_false_or_eq_true (decide (A201 ≠ 0)) with h202 | h202
            ·replace H := H.ch (t := 113) (b := true) rfl h202
             replace h := h.2 h202
             iterate 6 refine s_skip H (wantN H rfl rfl rfl) rfl (lt_ rfl) fun a H => ?_
             refine s_pickT H rfl rfl rfl (lt_ rfl) fun a H => ?_
             exact h203 _ _ _ h (H.weaken ⟨rfl, rfl, rfl, rfl, trivial⟩)
            ·replace H := H.ch (t := 113) (b := false) rfl h202
             replace h := h.1 h202
             refine s_move H (wantG H rfl rfl) rfl (lt_ rfl) fun a H => s_call H (wantG H rfl rfl) body_18 (H.args (vs := [(.pointer p26)]) rfl) (lt_ rfl) h ?_ (fun c w' h H => e_panic (P := PP) (fn := Tryz.f4) H h)
             clear H h a
             rintro _ w207 a ⟨C208, rfl, h⟩ H
             refine s_move H (wantG H rfl rfl) rfl (lt_ rfl) fun a H => s_blt H (wantG H rfl rfl) (H.args (vs := [g91.v]) rfl) (lt_ rfl) (fun cs => b_lenS (z := g91) sl_23) fun a H => s_bin H (wantG H rfl rfl) rfl rfl r_mul (lt_ rfl) fun a H => s_bin H (wantG H rfl rfl) rfl rfl r_neq (lt_ rfl) fun a H => s_pickF H rfl rfl rfl (lt_ rfl) fun a H => ?_
             exact h203 _ _ _ h (H.weaken ⟨rfl, rfl, rfl, rfl, trivial⟩)
           ·clear H a h
            intro a x205 w206 h H
            replace h := h281 x205 w206 h
            clear h281
            refine c_nil <| hK199 _ _ <| c_cond H rfl (fun h213 => ?_) (fun h213 => ?_)
            ·replace h := h.1 h213
             refine c_seq fun K214 hK214 => c_reg <| s_assign H rfl rfl (lt_ rfl) fun a H => c_nil <| hK214 _ _ <| c_ret ?_
             exact e_ret1 H rfl rfl h
            ·replace h := h.2 h213
             refine c_skip <| hK198 _ _ <| c_seq fun K215 hK215 => c_reg ?_
             obtain ⟨N216, hc217, K218, hc219, S220, hc221, S222, hc223, K224, hc225, U226, hc227, N228, hc229, Y230, hc231, L232, hc233, N234, hc235, K236, hc237, D238, hc239, S240, hc241, A242, hc243, Y244, hc245, L246, hc247, A248, hc249, L250, hc251, h⟩ := h
             refine s_loadN (l := [(.i N216), (.i K218), (.i S220), S222.v, (.i K224), U226.v, (.i N228), (.bool Y230), L232.v, (.i N234), (.i K236), (.i D238), (.i S240), (.i A242), (.bool Y244), L246.v, (.i A248), L250.v]) H rfl rfl agg_32 rfl ⟨hc217, hc219, hc221, hc223, hc225, hc227, hc229, hc231, hc233, hc235, hc237, hc239, hc241, hc243, hc245, hc247, hc249, hc251, trivial⟩ (lt_ rfl) fun a H => s_move H rfl rfl (lt_ rfl) fun a H => ?_
             refine s_call H rfl body_13 (H.args (vs := [(.agg #[(.i N216), (.i K218), (.i S220), S222.v, (.i K224), U226.v, (.i N228), (.bool Y230), L232.v, (.i N234), (.i K236), (.i D238), (.i S240), (.i A242), (.bool Y244), L246.v, (.i A248), L250.v]), (.pointer p25)]) rfl) (lt_ rfl) h ?_ (fun c w' h H => e_panic (P := PP) (fn := Tryz.f4) H h)
             clear H h a
             rintro _ w252 a ⟨f253, f254, rfl, h⟩ H
             refine s_move H rfl rfl (lt_ rfl) fun a H => s_ext H rfl rfl rfl (lt_ rfl) fun a H => s_ext H rfl rfl rfl (lt_ rfl) fun a H => s_assign H rfl rfl (lt_ rfl) fun a H => s_assign H rfl rfl (lt_ rfl) fun a H => c_nil <| hK215 _ _ <| c_seq fun K255 hK255 => c_reg <| s_move H rfl rfl (lt_ rfl) fun a H => s_move H rfl rfl (lt_ rfl) fun a H => ?_
             obtain ⟨R258, h, h276⟩ := h
             refine g_joinW (n := 137) R258 (fun x259 => [(136, (.bool x259))]) (.succ (.succ (.succ (.succ (.succ (.succ (.succ (.succ (.zero _))))))))) ?_ ?_
             ·intro h257
              clear h276
              rcases Bool.eq_false_or_eq_true f254 with h256 | h256
              ·replace H := H.ch (t := 128) (b := true) rfl h256
               replace h := h.1 h256
               refine s_move H (wantG H rfl rfl) rfl (lt_ rfl) fun a H => ?_
               replace h := h.get
               obtain ⟨b261, w262, n263, h⟩ := h
               refine s_bslc H (wantG H rfl rfl) (by rw [H.parts (vs := []) rfl]; exact bs_23_0 w252) (lt_ rfl) ?_
               rw [← n263.at_]
               clear H a
               intro a H
               refine n263.go <| s_move H (wantG H rfl rfl) rfl (lt_ rfl) fun a H => ?_
               obtain ⟨s264, w265, h266, h⟩ := h
               refine s_blt H (wantG H rfl rfl) (H.args (vs := [(Slc.v (Slc.mk (some (blk b261)) 0 0)), g91.v]) rfl) (lt_ rfl) (fun cs => b_app (z := s264) h266) ?_
               clear H a h266
               intro a H
               refine s_move H (wantG H rfl rfl) rfl (lt_ rfl) fun a H => ?_
               obtain ⟨s267, w268, h269, h⟩ := h
               refine s_blt H (wantG H rfl rfl) (H.args (vs := [s264.v, g91.v]) rfl) (lt_ rfl) (fun cs => b_app (z := s267) h269) ?_
               clear H a h269
               intro a H
               refine s_call H (wantG H rfl rfl) body_14 (H.args (vs := [f253.v, s267.v]) rfl) (lt_ rfl) h ?_ (fun c w' h H => e_panic (P := PP) (fn := Tryz.f4) H h)
               clear H h a
               rintro _ w270 a ⟨u271, rfl, h⟩ H
               refine s_pickT H rfl rfl rfl (lt_ rfl) fun a H => ?_
               exact h257 _ _ _ h (H.weaken ⟨rfl, trivial⟩)
              ·replace H := H.ch (t := 128) (b := false) rfl h256
               replace h := h.2 h256
               iterate 7 refine s_skip H (wantN H rfl rfl rfl) rfl (lt_ rfl) fun a H => ?_
               refine s_pickF H rfl rfl rfl (lt_ rfl) fun a H => ?_
               exact h257 _ _ _ h (H.weaken ⟨rfl, trivial⟩)
             ·clear H a h
              intro a x259 w260 h H
              replace h := h276 x259 w260 h
              clear h276
              refine s_assign H rfl rfl (lt_ rfl) fun a H => c_nil <| hK255 _ _ <| c_ret ?_
              exact e_ret1 H rfl rfl h
         clear h313
         replace H := H.weaken (L' := [(1, (.pointer (some (blk b20)))), (3, (.pointer p25)), (4, (.pointer p26)), (8, g91.v), (14, (.pointer (some (blk b178)))), (15, (.i S177)), (16, (.pointer (some (blk b187)))), (17, (.i S186))]) ⟨rfl, rfl, rfl, rfl, rfl, rfl, rfl, rfl, trivial⟩
         obtain ⟨h287, h288, l289, hc290, h291, h292, l293, hc294, h⟩ := h
         refine c_any (V := [(0, (.i S177)), (1, (.pointer (some ((blk b178).add (Int.toNat (S177) * 1))))), (2, l289.v), (3, (.i S186)), (4, (.pointer (some ((blk b187).add (Int.toNat (S186) * 1))))), (5, l293.v)]) (⟨[[], [0], [1], [], [3], [4], [2, 5], [6], [6, 7], [8], [8, 9], [8, 10], [8, 11], [8], [8, 13], [8, 12, 14], [8, 15]], [some 92, some 93, some 94, some 95, some 96, some 97, some 98, some 99, some 100, some 101, some 102, some 103, some 104, some 105, some 106, some 107, some 108], [6, 14], [0, 0, 0, 0, 0, 0, 0, 1, 1, 1, 1, 1, 1, 1, 1, 2, 2], [0, 0, 0, 0, 0, 0, 1, 1, 1, 2, 2, 2, 2, 1, 2, 2, 2]⟩ : Rg) [(1, (.pointer (some (blk b20)))), (3, (.pointer p25)), (4, (.pointer p26)), (8, g91.v), (14, (.pointer (some (blk b178)))), (15, (.i S177)), (16, (.pointer (some (blk b187)))), (17, (.i S186))] mixed (by kernel_rfl) H ?_
         refine Stg.eff [0, 1, 2, 3, 4, 5] (by kernel_rfl) rfl (.cons ?_ (.cons ?_ (.cons ?_ (.cons ?_ (.cons ?_ (.cons ?_ .nil)))))) ?_
         ·refine Ans.mk rfl rfl fun a H => s_move H rfl rfl (lt_ rfl) fun a H => ?_
          exact Ans.fin H rfl
         ·refine Ans.mk rfl rfl fun a H => s_idxA H rfl rfl rfl arr_52 h287 h288 (lt_ rfl) fun a H => ?_
          exact Ans.fin H rfl
         ·refine Ans.mk rfl rfl fun a H => s_load (v := l289.v) H rfl rfl one_51 hc290 (lt_ rfl) fun a H => ?_
          exact Ans.fin H rfl
         ·refine Ans.mk rfl rfl fun a H => s_move H rfl rfl (lt_ rfl) fun a H => ?_
          exact Ans.fin H rfl
         ·refine Ans.mk rfl rfl fun a H => s_idxA H rfl rfl rfl arr_52 h291 h292 (lt_ rfl) fun a H => ?_
          exact Ans.fin H rfl
         ·refine Ans.mk rfl rfl fun a H => s_load (v := l293.v) H rfl rfl one_51 hc294 (lt_ rfl) fun a H => ?_
          exact Ans.fin H rfl
         ·intro a H
          replace H := H.weaken (L' := [(94, l289.v), (97, l293.v)]) ⟨rfl, rfl, trivial⟩
          refine s_call H rfl body_23 (H.args (vs := [l289.v, l293.v]) rfl) (lt_ rfl) h ?_ (fun c w' h H => e_panic (P := PP) (fn := Tryz.f4) H h)
          clear H h a
          rintro _ w295 a ⟨s296, rfl, h⟩ H
          refine c_nil ?_
          rcases Bool.eq_false_or_eq_true (!s296) with h297 | h297
          ·replace h := h.1 h297
           refine effQ.go [(7, (.bool (!s296))), (8, (.bool (!s296))), (9, undef), (10, undef), (11, undef), (12, undef), (13, undef)] H rfl rfl <| Stg.eff [7, 8, 9, 10, 11, 12, 13] (by kernel_rfl) rfl (.cons ?_ (.cons ?_ (.cons ?_ (.cons ?_ (.cons ?_ (.cons ?_ (.cons ?_ .nil))))))) ?_
           ·refine Ans.mk rfl rfl fun a H => s_un H rfl rfl r_not (lt_ rfl) fun a H => ?_
            exact Ans.fin H rfl
           ·refine Ans.mk rfl rfl fun a H => s_move H rfl rfl (lt_ rfl) fun a H => ?_
            exact Ans.fin H rfl
           ·exact .skip rfl rfl rfl rfl rfl rfl h297 rfl
           ·exact .skip rfl rfl rfl rfl rfl rfl h297 rfl
           ·exact .skip rfl rfl rfl rfl rfl rfl h297 rfl
           ·exact .skip rfl rfl rfl rfl rfl rfl h297 rfl
           ·exact .skip rfl rfl rfl rfl rfl rfl h297 rfl
           ·intro a H
            replace H := H.weaken (L' := [(100, (.bool (!s296))), (105, undef)]) ⟨rfl, rfl, trivial⟩
            replace H := H.ch (t := 100) (b := true) rfl h297
            refine s_skip H (wantN H rfl rfl rfl) rfl (lt_ rfl) fun a H => c_nil <| effQ.go [(15, undef), (16, (.bool true))] H rfl rfl <| Stg.fin [9, 10, 11, 12, 15, 16] (by kernel_rfl) (.cons ?_ (.cons ?_ (.cons ?_ (.cons ?_ (.cons ?_ (.cons ?_ .nil)))))) ?_
            ·exact .skip rfl rfl rfl rfl rfl rfl h297 rfl
            ·exact .skip rfl rfl rfl rfl rfl rfl h297 rfl
            ·exact .skip rfl rfl rfl rfl rfl rfl h297 rfl
            ·exact .skip rfl rfl rfl rfl rfl rfl h297 rfl
            ·exact .skip rfl rfl rfl rfl rfl rfl h297 rfl
            ·refine Ans.mk rfl rfl fun a H => ?_
             replace H := H.ch (t := 100) (b := true) rfl h297
             refine s_pickT H rfl rfl rfl (lt_ rfl) fun a H => ?_
             exact Ans.fin H rfl
            ·intro a H
             replace H := H.weaken (L' := [(1, (.pointer (some (blk b20)))), (3, (.pointer p25)), (4, (.pointer p26)), (8, g91.v), (108, (.bool true))]) ⟨rfl, rfl, rfl, rfl, rfl, trivial⟩
             exact h286 _ _ _ h (H.weaken ⟨rfl, rfl, rfl, rfl, rfl, trivial⟩)
          ·replace h := h.2 h297
           obtain ⟨h298, h299, l300, hc301, h⟩ := h
           refine effQ.go [(7, (.bool (!s296))), (8, (.bool (!s296))), (9, (.i S177)), (10, (.pointer (some ((blk b178).add (Int.toNat (S177) * 1))))), (11, l300.v), (12, (.i (l300.l : Int))), (13, (.pointer p26))] H rfl rfl <| Stg.eff [7, 8, 9, 10, 11, 12, 13] (by kernel_rfl) rfl (.cons ?_ (.cons ?_ (.cons ?_ (.cons ?_ (.cons ?_ (.cons ?_ (.cons ?_ .nil))))))) ?_
           ·refine Ans.mk rfl rfl fun a H => s_un H rfl rfl r_not (lt_ rfl) fun a H => ?_
            exact Ans.fin H rfl
           ·refine Ans.mk rfl rfl fun a H => s_move H rfl rfl (lt_ rfl) fun a H => ?_
            exact Ans.fin H rfl
           ·refine Ans.mk rfl rfl fun a H => ?_
            replace H := H.ch (t := 100) (b := false) rfl h297
            refine s_move H (wantG H rfl rfl) rfl (lt_ rfl) fun a H => ?_
            exact Ans.fin H rfl
           ·refine Ans.mk rfl rfl fun a H => ?_
            replace H := H.ch (t := 100) (b := false) rfl h297
            refine s_idxA H (wantG H rfl rfl) rfl rfl arr_52 h298 h299 (lt_ rfl) fun a H => ?_
            exact Ans.fin H rfl
           ·refine Ans.mk rfl rfl fun a H => ?_
            replace H := H.ch (t := 100) (b := false) rfl h297
            refine s_load (v := l300.v) H (wantG H rfl rfl) rfl one_51 hc301 (lt_ rfl) fun a H => ?_
            exact Ans.fin H rfl
           ·refine Ans.mk rfl rfl fun a H => ?_
            replace H := H.ch (t := 100) (b := false) rfl h297
            refine s_blt H (wantG H rfl rfl) (H.args (vs := [l300.v]) rfl) (lt_ rfl) (fun cs => b_lenS (z := l300) sl_51) fun a H => ?_
            exact Ans.fin H rfl
           ·refine Ans.mk rfl rfl fun a H => ?_
            replace H := H.ch (t := 100) (b := false) rfl h297
            refine s_move H (wantG H rfl rfl) rfl (lt_ rfl) fun a H => ?_
            exact Ans.fin H rfl
           ·intro a H
            replace H := H.weaken (L' := [(100, (.bool (!s296))), (105, (.pointer p26))]) ⟨rfl, rfl, trivial⟩
            replace H := H.ch (t := 100) (b := false) rfl h297
            refine s_call H (wantG H rfl rfl) body_21 (H.args (vs := [(.pointer p26)]) rfl) (lt_ rfl) h ?_ (fun c w' h H => e_panic (P := PP) (fn := Tryz.f4) H h)
            clear H h a
            rintro _ w302 a ⟨B303, rfl, h⟩ H
            refine c_nil ?_
            obtain ⟨hc304, h⟩ := h
            refine effQ.go [(15, (.bool (decide ((l300.l : Int) ≠ B303)))), (16, (.bool (decide ((l300.l : Int) ≠ B303))))] H rfl rfl <| Stg.fin [9, 10, 11, 12, 15, 16] (by kernel_rfl) (.cons ?_ (.cons ?_ (.cons ?_ (.cons ?_ (.cons ?_ (.cons ?_ .nil)))))) ?_
            ·refine Ans.mk rfl rfl fun a H => ?_
             replace H := H.ch (t := 100) (b := false) rfl h297
             refine s_move H (wantG H rfl rfl) rfl (lt_ rfl) fun a H => ?_
             exact Ans.fin H rfl
            ·refine Ans.mk rfl rfl fun a H => ?_
             replace H := H.ch (t := 100) (b := false) rfl h297
             refine s_idxA H (wantG H rfl rfl) rfl rfl arr_52 h298 h299 (lt_ rfl) fun a H => ?_
             exact Ans.fin H rfl
            ·refine Ans.mk rfl rfl fun a H => ?_
             replace H := H.ch (t := 100) (b := false) rfl h297
             refine s_load (v := l300.v) H (wantG H rfl rfl) rfl one_51 hc304 (lt_ rfl) fun a H => ?_
             exact Ans.fin H rfl
            ·refine Ans.mk rfl rfl fun a H => ?_
             replace H := H.ch (t := 100) (b := false) rfl h297
             refine s_blt H (wantG H rfl rfl) (H.args (vs := [l300.v]) rfl) (lt_ rfl) (fun cs => b_lenS (z := l300) sl_51) fun a H => ?_
             exact Ans.fin H rfl
            ·refine Ans.mk rfl rfl fun a H => ?_
             replace H := H.ch (t := 100) (b := false) rfl h297
             refine s_bin H (wantG H rfl rfl) rfl rfl r_neq (lt_ rfl) fun a H => ?_
             exact Ans.fin H rfl
            ·refine Ans.mk rfl rfl fun a H => ?_
             replace H := H.ch (t := 100) (b := false) rfl h297
             refine s_pickF H rfl rfl rfl (lt_ rfl) fun a H => ?_
             exact Ans.fin H rfl
            ·intro a H
             replace H := H.weaken (L' := [(1, (.pointer (some (blk b20)))), (3, (.pointer p25)), (4, (.pointer p26)), (8, g91.v), (108, (.bool (decide ((l300.l : Int) ≠ B303))))]) ⟨rfl, rfl, rfl, rfl, rfl, trivial⟩
             exact h286 _ _ _ h (H.weaken ⟨rfl, rfl, rfl, rfl, rfl, trivial⟩)

end Go.Proofs.YtflcdgkckfcofaaGreatDoor
