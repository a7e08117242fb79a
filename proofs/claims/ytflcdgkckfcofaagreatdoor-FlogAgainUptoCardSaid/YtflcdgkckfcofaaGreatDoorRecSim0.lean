/-
  The conditions give the machine's calls; printed by vcgen.py.
-/
import Derived.Test.YtflcdgkckfcofaaGreatDoorRecVc
namespace Go.Proofs.YtflcdgkckfcofaaGreatDoor
open Go Go.Vc
set_option maxRecDepth 100000
set_option maxHeartbeats 4000000
theorem sim_sherdlaw14_FlogAgain (N1 K2 S3 : Int) (S4 : Slc) (K5 : Int) (U6 : Slc) (N7 : Int) (Y8 : Bool) (L9 : Slc) (N10 K11 D12 S13 A14 : Int) (Y15 : Bool) (L16 : Slc) (A17 : Int) (L18 : Slc) (w : World) (Q : Ending → World → Prop) (h : vc_sherdlaw14_FlogAgain N1 K2 S3 S4 K5 U6 N7 Y8 L9 N10 K11 D12 S13 A14 Y15 L16 A17 L18 w Q) : Calls PP F_sherdlaw14_FlogAgain #[(.agg #[(.i N1), (.i K2), (.i S3), S4.v, (.i K5), U6.v, (.i N7), (.bool Y8), L9.v, (.i N10), (.i K11), (.i D12), (.i S13), (.i A14), (.bool Y15), L16.v, (.i A17), L18.v])] w Q := by
 unfold vc_sherdlaw14_FlogAgain at h
 refine enter (n := 134) Tryz.func6 rfl rfl (Nat.le_of_ble_eq_true rfl) fun a H => c_seq fun K19 hK19 => c_reg ?_
 replace h := h.get
 obtain ⟨b20, w21, n22, h⟩ := h
 refine s_box H rfl rfl (lt_ rfl) ?_
 rw [← n22.at_]
 clear H a
 intro a H
 refine n22.go <| s_assign H rfl rfl (lt_ rfl) fun a H => c_nil <| hK19 _ _ <| c_seq fun K23 hK23 => c_reg ?_
 refine s_loadN (l := [(.i N1), (.i K2), (.i S3), S4.v, (.i K5), U6.v, (.i N7), (.bool Y8), L9.v, (.i N10), (.i K11), (.i D12), (.i S13), (.i A14), (.bool Y15), L16.v, (.i A17), L18.v]) H rfl rfl agg_32 rfl ⟨(n22.cell (i := 0) rfl), (n22.cell (i := 1) rfl), (n22.cell (i := 2) rfl), (n22.cell (i := 3) rfl), (n22.cell (i := 4) rfl), (n22.cell (i := 5) rfl), (n22.cell (i := 6) rfl), (n22.cell (i := 7) rfl), (n22.cell (i := 8) rfl), (n22.cell (i := 9) rfl), (n22.cell (i := 10) rfl), (n22.cell (i := 11) rfl), (n22.cell (i := 12) rfl), (n22.cell (i := 13) rfl), (n22.cell (i := 14) rfl), (n22.cell (i := 15) rfl), (n22.cell (i := 16) rfl), (n22.cell (i := 17) rfl), trivial⟩ (lt_ rfl) fun a H => ?_
 refine s_call H rfl body_8 (H.args (vs := [(.agg #[(.i N1), (.i K2), (.i S3), S4.v, (.i K5), U6.v, (.i N7), (.bool Y8), L9.v, (.i N10), (.i K11), (.i D12), (.i S13), (.i A14), (.bool Y15), L16.v, (.i A17), L18.v])]) rfl) (lt_ rfl) h ?_ (fun c w' h H => e_panic (P := PP) (fn := Tryz.f6) H h)
 clear H h a
 rintro _ w24 a ⟨p25, p26, p27, p28, rfl, h⟩ H
 refine s_move H rfl rfl (lt_ rfl) fun a H => ?_
 iterate 4 refine s_ext H rfl rfl rfl (lt_ rfl) fun a H => ?_
 iterate 4 refine s_assign H rfl rfl (lt_ rfl) fun a H => ?_
 refine c_nil <| hK23 _ _ <| c_seq fun K29 hK29 => c_seq fun K30 hK30 => c_reg <| s_move H rfl rfl (lt_ rfl) fun a H => s_un H rfl rfl r_not (lt_ rfl) fun a H => c_nil <| hK30 _ _ <| c_cond H rfl (fun h31 => ?_) (fun h31 => ?_)
 ·replace h := h.1 h31
  refine c_seq fun K32 hK32 => c_reg <| s_assign H rfl rfl (lt_ rfl) fun a H => c_nil <| hK32 _ _ <| c_ret ?_
  exact e_ret1 H rfl rfl h
 ·replace h := h.2 h31
  refine c_skip <| hK29 _ _ <| c_seq fun K33 hK33 => ?_
  replace H := H.weaken (L' := [(1, (.pointer (some (blk b20)))), (3, (.pointer p25)), (4, (.pointer p26)), (5, p27.v)]) ⟨rfl, rfl, rfl, rfl, trivial⟩
  obtain ⟨N34, hc35, K36, hc37, S38, hc39, S40, hc41, K42, hc43, U44, hc45, N46, hc47, Y48, hc49, L50, hc51, N52, hc53, K54, hc55, D56, hc57, S58, hc59, A60, hc61, Y62, hc63, L64, hc65, A66, hc67, L68, hc69, l70, hc71, h⟩ := h
  refine c_any (V := [(0, (.agg #[(.i N34), (.i K36), (.i S38), S40.v, (.i K42), U44.v, (.i N46), (.bool Y48), L50.v, (.i N52), (.i K54), (.i D56), (.i S58), (.i A60), (.bool Y62), L64.v, (.i A66), L68.v])), (2, (.pointer (some ((blk b20).add 4)))), (3, (.pointer (some (((blk b20).add 4).add 1)))), (4, l70.v)]) (⟨[[], [0], [], [2], [3], [1, 4], [0, 1, 2, 3, 4, 5]], [some 24, some 25, some 26, some 27, some 28, some 29, some 7], [1, 5], [0, 0, 0, 0, 0, 1, 2], [0, 1, 1, 1, 1, 2, 2]⟩ : Rg) [(1, (.pointer (some (blk b20)))), (3, (.pointer p25)), (4, (.pointer p26)), (5, p27.v)] mixed (by kernel_rfl) H ?_
  refine Stg.eff [0, 2, 3, 4] (by kernel_rfl) rfl (.cons ?_ (.cons ?_ (.cons ?_ (.cons ?_ .nil)))) ?_
  ·refine Ans.mk rfl rfl fun a H => s_loadN (l := [(.i N34), (.i K36), (.i S38), S40.v, (.i K42), U44.v, (.i N46), (.bool Y48), L50.v, (.i N52), (.i K54), (.i D56), (.i S58), (.i A60), (.bool Y62), L64.v, (.i A66), L68.v]) H rfl rfl agg_32 rfl ⟨hc35, hc37, hc39, hc41, hc43, hc45, hc47, hc49, hc51, hc53, hc55, hc57, hc59, hc61, hc63, hc65, hc67, hc69, trivial⟩ (lt_ rfl) fun a H => ?_
   exact Ans.fin H rfl
  ·refine Ans.mk rfl rfl fun a H => s_fld H rfl rfl fld_32_4 (lt_ rfl) fun a H => ?_
   exact Ans.fin H rfl
  ·refine Ans.mk rfl rfl fun a H => s_fld H rfl rfl fld_30_1 (lt_ rfl) fun a H => ?_
   exact Ans.fin H rfl
  ·refine Ans.mk rfl rfl fun a H => s_load (v := l70.v) H rfl rfl one_23 hc71 (lt_ rfl) fun a H => ?_
   exact Ans.fin H rfl
  ·intro a H
   replace H := H.weaken (L' := [(24, (.agg #[(.i N34), (.i K36), (.i S38), S40.v, (.i K42), U44.v, (.i N46), (.bool Y48), L50.v, (.i N52), (.i K54), (.i D56), (.i S58), (.i A60), (.bool Y62), L64.v, (.i A66), L68.v]))]) ⟨rfl, trivial⟩
   refine s_call H rfl body_9 (H.args (vs := [(.agg #[(.i N34), (.i K36), (.i S38), S40.v, (.i K42), U44.v, (.i N46), (.bool Y48), L50.v, (.i N52), (.i K54), (.i D56), (.i S58), (.i A60), (.bool Y62), L64.v, (.i A66), L68.v])]) rfl) (lt_ rfl) h ?_ (fun c w' h H => e_panic (P := PP) (fn := Tryz.f6) H h)
   clear H h a
   rintro _ w72 a ⟨N73, K74, D75, S76, rfl, h⟩ H
   refine c_nil ?_
   obtain ⟨hc77, h⟩ := h
   refine effQ.go [] H rfl rfl <| Stg.eff [2, 3, 4] (by kernel_rfl) rfl (.cons ?_ (.cons ?_ (.cons ?_ .nil))) ?_
   ·refine Ans.mk rfl rfl fun a H => s_fld H rfl rfl fld_32_4 (lt_ rfl) fun a H => ?_
    exact Ans.fin H rfl
   ·refine Ans.mk rfl rfl fun a H => s_fld H rfl rfl fld_30_1 (lt_ rfl) fun a H => ?_
    exact Ans.fin H rfl
   ·refine Ans.mk rfl rfl fun a H => s_load (v := l70.v) H rfl rfl one_23 hc77 (lt_ rfl) fun a H => ?_
    exact Ans.fin H rfl
   ·intro a H
    replace H := H.weaken (L' := [(25, (.agg #[(.i N73), (.i K74), (.i D75), (.i S76)])), (28, l70.v)]) ⟨rfl, rfl, trivial⟩
    refine s_call H rfl body_15 (H.args (vs := [(.agg #[(.i N73), (.i K74), (.i D75), (.i S76)]), l70.v]) rfl) (lt_ rfl) h ?_ (fun c w' h H => e_panic (P := PP) (fn := Tryz.f6) H h)
    clear H h a
    rintro _ w78 a ⟨g79, rfl, h⟩ H
    refine c_nil <| effQ.go [(6, g79.v)] H rfl rfl <| Stg.fin [6] (by kernel_rfl) (.cons ?_ .nil) ?_
    ·refine Ans.mk rfl rfl fun a H => s_assign H rfl rfl (lt_ rfl) fun a H => ?_
     exact Ans.fin H rfl
    ·intro a H
     replace H := H.weaken (L' := [(1, (.pointer (some (blk b20)))), (3, (.pointer p25)), (4, (.pointer p26)), (5, p27.v), (7, g79.v)]) ⟨rfl, rfl, rfl, rfl, rfl, trivial⟩
     refine hK33 _ _ <| c_seq fun K80 hK80 => ?_
     replace H := H.weaken (L' := [(1, (.pointer (some (blk b20)))), (3, (.pointer p25)), (4, (.pointer p26)), (5, p27.v), (7, g79.v)]) ⟨rfl, rfl, rfl, rfl, rfl, trivial⟩
     obtain ⟨l81, hc82, l83, hc84, h⟩ := h
     refine c_any (V := [(0, (.pointer p25)), (1, (.pointer (some ((blk b20).add 13)))), (2, (.i l81)), (4, (.pointer (some ((blk b20).add 14)))), (5, (.bool l83))]) (⟨[[], [], [1], [2], [], [4], [0, 3, 5]], [some 30, some 31, some 32, some 33, some 34, some 35, some 36], [3, 6], [0, 0, 0, 0, 0, 0, 1], [1, 0, 0, 1, 1, 1, 2]⟩ : Rg) [(1, (.pointer (some (blk b20)))), (3, (.pointer p25)), (4, (.pointer p26)), (5, p27.v), (7, g79.v)] mixed (by kernel_rfl) H ?_
     refine Stg.eff [0, 1, 2, 4, 5] (by kernel_rfl) rfl (.cons ?_ (.cons ?_ (.cons ?_ (.cons ?_ (.cons ?_ .nil))))) ?_
     ·refine Ans.mk rfl rfl fun a H => s_move H rfl rfl (lt_ rfl) fun a H => ?_
      exact Ans.fin H rfl
     ·refine Ans.mk rfl rfl fun a H => s_fld H rfl rfl fld_32_5 (lt_ rfl) fun a H => ?_
      exact Ans.fin H rfl
     ·refine Ans.mk rfl rfl fun a H => s_load (v := (.i l81)) H rfl rfl one_3 hc82 (lt_ rfl) fun a H => ?_
      exact Ans.fin H rfl
     ·refine Ans.mk rfl rfl fun a H => s_fld H rfl rfl fld_32_6 (lt_ rfl) fun a H => ?_
      exact Ans.fin H rfl
     ·refine Ans.mk rfl rfl fun a H => s_load (v := (.bool l83)) H rfl rfl one_4 hc84 (lt_ rfl) fun a H => ?_
      exact Ans.fin H rfl
     ·intro a H
      replace H := H.weaken (L' := [(32, (.i l81))]) ⟨rfl, trivial⟩
      refine s_call H rfl body_10 (H.args (vs := [(.i l81), (.i 6)]) rfl) (lt_ rfl) h ?_ (fun c w' h H => e_panic (P := PP) (fn := Tryz.f6) H h)
      clear H h a
      rintro _ w85 a ⟨m86, rfl, h⟩ H
      refine c_nil ?_
      obtain ⟨hc87, h⟩ := h
      refine effQ.go [] H rfl rfl <| Stg.eff [0, 4, 5] (by kernel_rfl) rfl (.cons ?_ (.cons ?_ (.cons ?_ .nil))) ?_
      ·refine Ans.mk rfl rfl fun a H => s_move H rfl rfl (lt_ rfl) fun a H => ?_
       exact Ans.fin H rfl
      ·refine Ans.mk rfl rfl fun a H => s_fld H rfl rfl fld_32_6 (lt_ rfl) fun a H => ?_
       exact Ans.fin H rfl
      ·refine Ans.mk rfl rfl fun a H => s_load (v := (.bool l83)) H rfl rfl one_4 hc87 (lt_ rfl) fun a H => ?_
       exact Ans.fin H rfl
      ·intro a H
       replace H := H.weaken (L' := [(30, (.pointer p25)), (33, (.i m86)), (35, (.bool l83))]) ⟨rfl, rfl, rfl, trivial⟩
       refine s_call H rfl body_24 (H.args (vs := [(.pointer p25), (.i m86), (.bool l83)]) rfl) (lt_ rfl) h ?_ (fun c w' h H => e_panic (P := PP) (fn := Tryz.f6) H h)
       clear H h a
       rintro _ w88 a ⟨S89, rfl, h⟩ H
       refine c_nil <| effQ.go [] H rfl rfl <| Stg.fin [] (by kernel_rfl) .nil ?_
       ·intro a H
        replace H := H.weaken (L' := [(1, (.pointer (some (blk b20)))), (3, (.pointer p25)), (4, (.pointer p26)), (5, p27.v), (7, g79.v)]) ⟨rfl, rfl, rfl, rfl, rfl, trivial⟩
        refine hK80 _ _ <| c_seq fun K90 hK90 => ?_
        obtain ⟨R91, h, h446⟩ := h
        have h426 : ∀ (a : Act) (w92 : World), R91 w92 → Has 134 [] a [(1, (.pointer (some (blk b20)))), (3, (.pointer p25)), (5, p27.v), (7, g79.v)] → K90 a w92 := by
         clear h
         intro a w92 h H
         replace h := h446 w92 h
         refine hK90 _ _ <| c_seq fun K93 hK93 => c_reg <| s_move H rfl rfl (lt_ rfl) fun a H => ?_
         replace h := h.get
         obtain ⟨b94, w95, n96, h⟩ := h
         refine s_bslc H rfl (by rw [H.parts (vs := []) rfl]; exact bs_24_0 w92) (lt_ rfl) ?_
         rw [← n96.at_]
         clear H a
         intro a H
         refine n96.go <| s_fld H rfl rfl fld_32_7 (lt_ rfl) fun a H => ?_
         obtain ⟨l97, hc98, h⟩ := h
         refine s_load (v := l97.v) H rfl rfl one_24 hc98 (lt_ rfl) fun a H => ?_
         obtain ⟨s99, w100, h101, h⟩ := h
         refine s_blt H rfl (H.args (vs := [(Slc.v (Slc.mk (some (blk b94)) 0 0)), l97.v]) rfl) (lt_ rfl) (fun cs => b_app (z := s99) h101) ?_
         clear H a h101
         intro a H
         refine s_call H rfl body_25 (H.args (vs := [(.pointer p25), s99.v]) rfl) (lt_ rfl) h ?_ (fun c w' h H => e_panic (P := PP) (fn := Tryz.f6) H h)
         clear H h a
         rintro _ w102 a ⟨C103, rfl, h⟩ H
         refine s_assign H rfl rfl (lt_ rfl) fun a H => c_nil <| hK93 _ _ <| c_seq fun K104 hK104 => c_reg <| s_move H rfl rfl (lt_ rfl) fun a H => ?_
         replace h := h.get
         obtain ⟨b105, w106, n107, h⟩ := h
         refine s_bslc H rfl (by rw [H.parts (vs := []) rfl]; exact bs_24_0 w102) (lt_ rfl) ?_
         rw [← n107.at_]
         clear H a
         intro a H
         refine n107.go <| s_fld H rfl rfl fld_32_7 (lt_ rfl) fun a H => ?_
         obtain ⟨l108, hc109, h⟩ := h
         refine s_load (v := l108.v) H rfl rfl one_24 hc109 (lt_ rfl) fun a H => ?_
         obtain ⟨s110, w111, h112, h⟩ := h
         refine s_blt H rfl (H.args (vs := [(Slc.v (Slc.mk (some (blk b105)) 0 0)), l108.v]) rfl) (lt_ rfl) (fun cs => b_app (z := s110) h112) ?_
         clear H a h112
         intro a H
         refine s_call H rfl body_25 (H.args (vs := [(.pointer p25), s110.v]) rfl) (lt_ rfl) h ?_ (fun c w' h H => e_panic (P := PP) (fn := Tryz.f6) H h)
         clear H h a
         rintro _ w113 a ⟨C114, rfl, h⟩ H
         refine s_assign H rfl rfl (lt_ rfl) fun a H => c_nil <| hK104 _ _ <| c_seq fun K115 hK115 => c_reg ?_
         obtain ⟨N116, hc117, K118, hc119, S120, hc121, S122, hc123, K124, hc125, U126, hc127, N128, hc129, Y130, hc131, L132, hc133, N134, hc135, K136, hc137, D138, hc139, S140, hc141, A142, hc143, Y144, hc145, L146, hc147, A148, hc149, L150, hc151, h⟩ := h
         refine s_loadN (l := [(.i N116), (.i K118), (.i S120), S122.v, (.i K124), U126.v, (.i N128), (.bool Y130), L132.v, (.i N134), (.i K136), (.i D138), (.i S140), (.i A142), (.bool Y144), L146.v, (.i A148), L150.v]) H rfl rfl agg_32 rfl ⟨hc117, hc119, hc121, hc123, hc125, hc127, hc129, hc131, hc133, hc135, hc137, hc139, hc141, hc143, hc145, hc147, hc149, hc151, trivial⟩ (lt_ rfl) fun a H => s_move H rfl rfl (lt_ rfl) fun a H => ?_
         refine s_call H rfl body_13 (H.args (vs := [(.agg #[(.i N116), (.i K118), (.i S120), S122.v, (.i K124), U126.v, (.i N128), (.bool Y130), L132.v, (.i N134), (.i K136), (.i D138), (.i S140), (.i A142), (.bool Y144), L146.v, (.i A148), L150.v]), (.pointer C103)]) rfl) (lt_ rfl) h ?_ (fun c w' h H => e_panic (P := PP) (fn := Tryz.f6) H h)
         clear H h a
         rintro _ w152 a ⟨f153, f154, rfl, h⟩ H
         refine s_move H rfl rfl (lt_ rfl) fun a H => s_ext H rfl rfl rfl (lt_ rfl) fun a H => s_ext H rfl rfl rfl (lt_ rfl) fun a H => s_assign H rfl rfl (lt_ rfl) fun a H => s_assign H rfl rfl (lt_ rfl) fun a H => c_nil <| hK115 _ _ <| c_seq fun K155 hK155 => c_seq fun K156 hK156 => c_reg <| s_move H rfl rfl (lt_ rfl) fun a H => s_un H rfl rfl r_not (lt_ rfl) fun a H => s_move H rfl rfl (lt_ rfl) fun a H => ?_
         refine g_join (n := 134) [(73, (.bool ((!f154) || C114.isNone))), (1, (.pointer (some (blk b20)))), (5, p27.v), (7, g79.v), (9, (.pointer C114)), (10, f153.v)] (.succ (.succ (.succ (.zero _)))) ?_ ?_
         ·intro h158
          try clear h
          rcases Bool.eq_false_or_eq_true (!f154) with h157 | h157
          ·replace H := H.ch (t := 70) (b := true) rfl h157
           refine s_skip H (wantN H rfl rfl rfl) rfl (lt_ rfl) fun a H => s_skip H (wantN H rfl rfl rfl) rfl (lt_ rfl) fun a H => s_pickT H rfl rfl rfl (lt_ rfl) fun a H => ?_
           exact h158 _ (H.weaken ⟨by rw [h157]; rfl, rfl, rfl, rfl, rfl, rfl, trivial⟩)
          ·replace H := H.ch (t := 70) (b := false) rfl h157
           refine s_move H (wantG H rfl rfl) rfl (lt_ rfl) fun a H => s_bin H (wantG H rfl rfl) rfl rfl (r_eqP0 ptr_33) (lt_ rfl) fun a H => s_pickF H rfl rfl rfl (lt_ rfl) fun a H => ?_
           exact h158 _ (H.weaken ⟨by rw [h157]; rfl, rfl, rfl, rfl, rfl, rfl, trivial⟩)
         ·clear H a
          intro a H
          refine s_move H rfl rfl (lt_ rfl) fun a H => ?_
          obtain ⟨R161, h, h413⟩ := h
          refine g_joinW (n := 134) R161 (fun x162 => [(82, (.bool x162)), (1, (.pointer (some (blk b20)))), (9, (.pointer C114)), (10, f153.v)]) (.succ (.succ (.succ (.succ (.succ (.succ (.succ (.succ (.zero _))))))))) ?_ ?_
          ·intro h160
           clear h413
           rcases Bool.eq_false_or_eq_true ((!f154) || C114.isNone) with h159 | h159
           ·replace H := H.ch (t := 74) (b := true) rfl h159
            replace h := h.2 h159
            iterate 7 refine s_skip H (wantN H rfl rfl rfl) rfl (lt_ rfl) fun a H => ?_
            refine s_pickT H rfl rfl rfl (lt_ rfl) fun a H => ?_
            exact h160 _ _ _ h (H.weaken ⟨rfl, rfl, rfl, rfl, trivial⟩)
           ·replace H := H.ch (t := 74) (b := false) rfl h159
            replace h := h.1 h159
            refine s_move H (wantG H rfl rfl) rfl (lt_ rfl) fun a H => s_move H (wantG H rfl rfl) rfl (lt_ rfl) fun a H => s_fld H (wantG H rfl rfl) rfl fld_32_4 (lt_ rfl) fun a H => ?_
            obtain ⟨K164, hc165, U166, hc167, N168, hc169, Y170, hc171, L172, hc173, N174, hc175, K176, hc177, D178, hc179, S180, hc181, h⟩ := h
            refine s_loadN (l := [(.i K164), U166.v, (.i N168), (.bool Y170), L172.v, (.i N174), (.i K176), (.i D178), (.i S180)]) H (wantG H rfl rfl) rfl agg_30 rfl ⟨hc165, hc167, hc169, hc171, hc173, hc175, hc177, hc179, hc181, trivial⟩ (lt_ rfl) fun a H => s_move H (wantG H rfl rfl) rfl (lt_ rfl) fun a H => ?_
            refine s_call H (wantG H rfl rfl) body_26 (H.args (vs := [f153.v, p27.v, (.agg #[(.i K164), U166.v, (.i N168), (.bool Y170), L172.v, (.i N174), (.i K176), (.i D178), (.i S180)]), g79.v]) rfl) (lt_ rfl) h ?_ (fun c w' h H => e_panic (P := PP) (fn := Tryz.f6) H h)
            clear H h a
            rintro _ w182 a ⟨a183, rfl, h⟩ H
            refine s_un H (wantG H rfl rfl) rfl r_not (lt_ rfl) fun a H => s_pickF H rfl rfl rfl (lt_ rfl) fun a H => ?_
            exact h160 _ _ _ h (H.weaken ⟨rfl, rfl, rfl, rfl, trivial⟩)
          ·clear H a h
           intro a x162 w163 h H
           replace h := h413 x162 w163 h
           clear h413
           refine c_nil <| hK156 _ _ <| c_cond H rfl (fun h188 => ?_) (fun h188 => ?_)
           ·replace h := h.1 h188
            refine c_seq fun K189 hK189 => c_reg <| s_assign H rfl rfl (lt_ rfl) fun a H => c_nil <| hK189 _ _ <| c_ret ?_
            exact e_ret1 H rfl rfl h
           ·replace h := h.2 h188
            refine c_skip <| hK155 _ _ <| c_seq fun K190 hK190 => ?_
            replace H := H.weaken (L' := [(1, (.pointer (some (blk b20)))), (9, (.pointer C114)), (10, f153.v)]) ⟨rfl, rfl, rfl, trivial⟩
            obtain ⟨l191, hc192, l193, hc194, h⟩ := h
            refine c_any (V := [(0, (.pointer C114)), (1, (.pointer (some ((blk b20).add 16)))), (2, (.i l191)), (4, (.pointer (some ((blk b20).add 14)))), (5, (.bool l193))]) (⟨[[], [], [1], [2], [], [4], [0, 3, 5]], [some 83, some 84, some 85, some 86, some 87, some 88, some 89], [3, 6], [0, 0, 0, 0, 0, 0, 1], [1, 0, 0, 1, 1, 1, 2]⟩ : Rg) [(1, (.pointer (some (blk b20)))), (9, (.pointer C114)), (10, f153.v)] mixed (by kernel_rfl) H ?_
            refine Stg.eff [0, 1, 2, 4, 5] (by kernel_rfl) rfl (.cons ?_ (.cons ?_ (.cons ?_ (.cons ?_ (.cons ?_ .nil))))) ?_
            ·refine Ans.mk rfl rfl fun a H => s_move H rfl rfl (lt_ rfl) fun a H => ?_
             exact Ans.fin H rfl
            ·refine Ans.mk rfl rfl fun a H => s_fld H rfl rfl fld_32_8 (lt_ rfl) fun a H => ?_
             exact Ans.fin H rfl
            ·refine Ans.mk rfl rfl fun a H => s_load (v := (.i l191)) H rfl rfl one_3 hc192 (lt_ rfl) fun a H => ?_
             exact Ans.fin H rfl
            ·refine Ans.mk rfl rfl fun a H => s_fld H rfl rfl fld_32_6 (lt_ rfl) fun a H => ?_
             exact Ans.fin H rfl
            ·refine Ans.mk rfl rfl fun a H => s_load (v := (.bool l193)) H rfl rfl one_4 hc194 (lt_ rfl) fun a H => ?_
             exact Ans.fin H rfl
            ·intro a H
             replace H := H.weaken (L' := [(85, (.i l191))]) ⟨rfl, trivial⟩
             refine s_call H rfl body_10 (H.args (vs := [(.i l191), (.i 6)]) rfl) (lt_ rfl) h ?_ (fun c w' h H => e_panic (P := PP) (fn := Tryz.f6) H h)
             clear H h a
             rintro _ w195 a ⟨m196, rfl, h⟩ H
             refine c_nil ?_
             obtain ⟨hc197, h⟩ := h
             refine effQ.go [] H rfl rfl <| Stg.eff [0, 4, 5] (by kernel_rfl) rfl (.cons ?_ (.cons ?_ (.cons ?_ .nil))) ?_
             ·refine Ans.mk rfl rfl fun a H => s_move H rfl rfl (lt_ rfl) fun a H => ?_
              exact Ans.fin H rfl
             ·refine Ans.mk rfl rfl fun a H => s_fld H rfl rfl fld_32_6 (lt_ rfl) fun a H => ?_
              exact Ans.fin H rfl
             ·refine Ans.mk rfl rfl fun a H => s_load (v := (.bool l193)) H rfl rfl one_4 hc197 (lt_ rfl) fun a H => ?_
              exact Ans.fin H rfl
             ·intro a H
              replace H := H.weaken (L' := [(83, (.pointer C114)), (86, (.i m196)), (88, (.bool l193))]) ⟨rfl, rfl, rfl, trivial⟩
              refine s_call H rfl body_24 (H.args (vs := [(.pointer C114), (.i m196), (.bool l193)]) rfl) (lt_ rfl) h ?_ (fun c w' h H => e_panic (P := PP) (fn := Tryz.f6) H h)
              clear H h a
              rintro _ w198 a ⟨S199, rfl, h⟩ H
              refine c_nil <| effQ.go [] H rfl rfl <| Stg.fin [] (by kernel_rfl) .nil ?_
              ·intro a H
               replace H := H.weaken (L' := [(1, (.pointer (some (blk b20)))), (9, (.pointer C114)), (10, f153.v)]) ⟨rfl, rfl, rfl, trivial⟩
               refine hK190 _ _ <| c_seq fun K200 hK200 => c_reg <| s_move H rfl rfl (lt_ rfl) fun a H => ?_
               obtain ⟨N201, hc202, K203, hc204, S205, hc206, S207, hc208, K209, hc210, U211, hc212, N213, hc214, Y215, hc216, L217, hc218, N219, hc220, K221, hc222, D223, hc224, S225, hc226, A227, hc228, Y229, hc230, L231, hc232, A233, hc234, L235, hc236, h⟩ := h
               refine s_loadN (l := [(.i N201), (.i K203), (.i S205), S207.v, (.i K209), U211.v, (.i N213), (.bool Y215), L217.v, (.i N219), (.i K221), (.i D223), (.i S225), (.i A227), (.bool Y229), L231.v, (.i A233), L235.v]) H rfl rfl agg_32 rfl ⟨hc202, hc204, hc206, hc208, hc210, hc212, hc214, hc216, hc218, hc220, hc222, hc224, hc226, hc228, hc230, hc232, hc234, hc236, trivial⟩ (lt_ rfl) fun a H => ?_
               refine s_call H rfl body_9 (H.args (vs := [(.agg #[(.i N201), (.i K203), (.i S205), S207.v, (.i K209), U211.v, (.i N213), (.bool Y215), L217.v, (.i N219), (.i K221), (.i D223), (.i S225), (.i A227), (.bool Y229), L231.v, (.i A233), L235.v])]) rfl) (lt_ rfl) h ?_ (fun c w' h H => e_panic (P := PP) (fn := Tryz.f6) H h)
               clear H h a
               rintro _ w237 a ⟨N238, K239, D240, S241, rfl, h⟩ H
               refine s_call H rfl body_12 (H.args (vs := [(.pointer C114), (.agg #[(.i N238), (.i K239), (.i D240), (.i S241)])]) rfl) (lt_ rfl) h ?_ (fun c w' h H => e_panic (P := PP) (fn := Tryz.f6) H h)
               clear H h a
               rintro _ w242 a ⟨O243, O244, O245, rfl, h⟩ H
               refine c_nil <| hK200 _ _ <| c_seq fun K246 hK246 => c_reg <| s_move H rfl rfl (lt_ rfl) fun a H => ?_
               replace h := h.get
               obtain ⟨b247, w248, n249, h⟩ := h
               refine s_bslc H rfl (by rw [H.parts (vs := []) rfl]; exact bs_24_0 w242) (lt_ rfl) ?_
               rw [← n249.at_]
               clear H a
               intro a H
               refine n249.go <| s_fld H rfl rfl fld_32_9 (lt_ rfl) fun a H => ?_
               obtain ⟨l250, hc251, h⟩ := h
               refine s_load (v := l250.v) H rfl rfl one_24 hc251 (lt_ rfl) fun a H => ?_
               obtain ⟨s252, w253, h254, h⟩ := h
               refine s_blt H rfl (H.args (vs := [(Slc.v (Slc.mk (some (blk b247)) 0 0)), l250.v]) rfl) (lt_ rfl) (fun cs => b_app (z := s252) h254) ?_
               clear H a h254
               intro a H
               refine s_call H rfl body_25 (H.args (vs := [(.pointer C114), s252.v]) rfl) (lt_ rfl) h ?_ (fun c w' h H => e_panic (P := PP) (fn := Tryz.f6) H h)
               clear H h a
               rintro _ w255 a ⟨C256, rfl, h⟩ H
               refine s_assign H rfl rfl (lt_ rfl) fun a H => c_nil <| hK246 _ _ <| c_seq fun K257 hK257 => c_reg ?_
               obtain ⟨N258, hc259, K260, hc261, S262, hc263, S264, hc265, K266, hc267, U268, hc269, N270, hc271, Y272, hc273, L274, hc275, N276, hc277, K278, hc279, D280, hc281, S282, hc283, A284, hc285, Y286, hc287, L288, hc289, A290, hc291, L292, hc293, h⟩ := h
               refine s_loadN (l := [(.i N258), (.i K260), (.i S262), S264.v, (.i K266), U268.v, (.i N270), (.bool Y272), L274.v, (.i N276), (.i K278), (.i D280), (.i S282), (.i A284), (.bool Y286), L288.v, (.i A290), L292.v]) H rfl rfl agg_32 rfl ⟨hc259, hc261, hc263, hc265, hc267, hc269, hc271, hc273, hc275, hc277, hc279, hc281, hc283, hc285, hc287, hc289, hc291, hc293, trivial⟩ (lt_ rfl) fun a H => s_move H rfl rfl (lt_ rfl) fun a H => ?_
               refine s_call H rfl body_13 (H.args (vs := [(.agg #[(.i N258), (.i K260), (.i S262), S264.v, (.i K266), U268.v, (.i N270), (.bool Y272), L274.v, (.i N276), (.i K278), (.i D280), (.i S282), (.i A284), (.bool Y286), L288.v, (.i A290), L292.v]), (.pointer C256)]) rfl) (lt_ rfl) h ?_ (fun c w' h H => e_panic (P := PP) (fn := Tryz.f6) H h)
               clear H h a
               rintro _ w294 a ⟨f295, f296, rfl, h⟩ H
               refine s_move H rfl rfl (lt_ rfl) fun a H => s_ext H rfl rfl rfl (lt_ rfl) fun a H => s_ext H rfl rfl rfl (lt_ rfl) fun a H => s_assign H rfl rfl (lt_ rfl) fun a H => s_assign H rfl rfl (lt_ rfl) fun a H => c_nil <| hK257 _ _ <| c_seq fun K297 hK297 => c_seq fun K298 hK298 => c_reg <| s_move H rfl rfl (lt_ rfl) fun a H => s_un H rfl rfl r_not (lt_ rfl) fun a H => s_move H rfl rfl (lt_ rfl) fun a H => ?_
               obtain ⟨R301, h, h388⟩ := h
               refine g_joinW (n := 134) R301 (fun x302 => [(113, (.bool x302)), (1, (.pointer (some (blk b20)))), (10, f153.v), (11, (.pointer C256))]) (.succ (.succ (.succ (.succ (.succ (.zero _)))))) ?_ ?_
               ·intro h300
                clear h388
                rcases Bool.eq_false_or_eq_true (!f296) with h299 | h299
                ·replace H := H.ch (t := 108) (b := true) rfl h299
                 replace h := h.2 h299
                 iterate 4 refine s_skip H (wantN H rfl rfl rfl) rfl (lt_ rfl) fun a H => ?_
                 refine s_pickT H rfl rfl rfl (lt_ rfl) fun a H => ?_
                 exact h300 _ _ _ h (H.weaken ⟨rfl, rfl, rfl, rfl, trivial⟩)
                ·replace H := H.ch (t := 108) (b := false) rfl h299
                 replace h := h.1 h299
                 refine s_move H (wantG H rfl rfl) rfl (lt_ rfl) fun a H => s_move H (wantG H rfl rfl) rfl (lt_ rfl) fun a H => s_call H (wantG H rfl rfl) body_14 (H.args (vs := [f295.v, f153.v]) rfl) (lt_ rfl) h ?_ (fun c w' h H => e_panic (P := PP) (fn := Tryz.f6) H h)
                 clear H h a
                 rintro _ w304 a ⟨u305, rfl, h⟩ H
                 refine s_un H (wantG H rfl rfl) rfl r_not (lt_ rfl) fun a H => s_pickF H rfl rfl rfl (lt_ rfl) fun a H => ?_
                 exact h300 _ _ _ h (H.weaken ⟨rfl, rfl, rfl, rfl, trivial⟩)
               ·clear H a h
                intro a x302 w303 h H
                replace h := h388 x302 w303 h
                clear h388
                refine c_nil <| hK298 _ _ <| c_cond H rfl (fun h310 => ?_) (fun h310 => ?_)
                ·replace h := h.1 h310
                 refine c_seq fun K311 hK311 => c_reg <| s_assign H rfl rfl (lt_ rfl) fun a H => c_nil <| hK311 _ _ <| c_ret ?_
                 exact e_ret1 H rfl rfl h
                ·replace h := h.2 h310
                 refine c_skip <| hK297 _ _ <| c_seq fun K312 hK312 => c_reg <| s_move H rfl rfl (lt_ rfl) fun a H => s_call H rfl body_11 (H.args (vs := [(.pointer C256)]) rfl) (lt_ rfl) h ?_ (fun c w' h H => e_panic (P := PP) (fn := Tryz.f6) H h)
                 clear H h a
                 rintro _ w313 a ⟨A314, rfl, h⟩ H
                 refine s_assign H rfl rfl (lt_ rfl) fun a H => c_nil <| hK312 _ _ <| c_seq fun K315 hK315 => c_reg ?_
                 obtain ⟨N316, hc317, K318, hc319, S320, hc321, S322, hc323, K324, hc325, U326, hc327, N328, hc329, Y330, hc331, L332, hc333, N334, hc335, K336, hc337, D338, hc339, S340, hc341, A342, hc343, Y344, hc345, L346, hc347, A348, hc349, L350, hc351, h⟩ := h
                 refine s_loadN (l := [(.i N316), (.i K318), (.i S320), S322.v, (.i K324), U326.v, (.i N328), (.bool Y330), L332.v, (.i N334), (.i K336), (.i D338), (.i S340), (.i A342), (.bool Y344), L346.v, (.i A348), L350.v]) H rfl rfl agg_32 rfl ⟨hc317, hc319, hc321, hc323, hc325, hc327, hc329, hc331, hc333, hc335, hc337, hc339, hc341, hc343, hc345, hc347, hc349, hc351, trivial⟩ (lt_ rfl) fun a H => s_move H rfl rfl (lt_ rfl) fun a H => ?_
                 refine s_call H rfl body_13 (H.args (vs := [(.agg #[(.i N316), (.i K318), (.i S320), S322.v, (.i K324), U326.v, (.i N328), (.bool Y330), L332.v, (.i N334), (.i K336), (.i D338), (.i S340), (.i A342), (.bool Y344), L346.v, (.i A348), L350.v]), (.pointer C256)]) rfl) (lt_ rfl) h ?_ (fun c w' h H => e_panic (P := PP) (fn := Tryz.f6) H h)
                 clear H h a
                 rintro _ w352 a ⟨f353, f354, rfl, h⟩ H
                 refine s_move H rfl rfl (lt_ rfl) fun a H => s_ext H rfl rfl rfl (lt_ rfl) fun a H => s_ext H rfl rfl rfl (lt_ rfl) fun a H => s_assign H rfl rfl (lt_ rfl) fun a H => s_assign H rfl rfl (lt_ rfl) fun a H => c_nil <| hK315 _ _ <| c_seq fun K355 hK355 => c_reg <| s_move H rfl rfl (lt_ rfl) fun a H => s_move H rfl rfl (lt_ rfl) fun a H => ?_
                 obtain ⟨R358, h, h379⟩ := h
                 refine g_joinW (n := 134) R358 (fun x359 => [(127, (.bool x359)), (11, (.pointer C256)), (13, (.i A314))]) (.succ (.succ (.succ (.succ (.zero _))))) ?_ ?_
                 ·intro h357
                  clear h379
                  rcases Bool.eq_false_or_eq_true f354 with h356 | h356
                  ·replace H := H.ch (t := 123) (b := true) rfl h356
                   replace h := h.1 h356
                   refine s_move H (wantG H rfl rfl) rfl (lt_ rfl) fun a H => s_move H (wantG H rfl rfl) rfl (lt_ rfl) fun a H => s_call H (wantG H rfl rfl) body_14 (H.args (vs := [f353.v, f153.v]) rfl) (lt_ rfl) h ?_ (fun c w' h H => e_panic (P := PP) (fn := Tryz.f6) H h)
                   clear H h a
                   rintro _ w361 a ⟨u362, rfl, h⟩ H
                   refine s_pickT H rfl rfl rfl (lt_ rfl) fun a H => ?_
                   exact h357 _ _ _ h (H.weaken ⟨rfl, rfl, rfl, trivial⟩)
                  ·replace H := H.ch (t := 123) (b := false) rfl h356
                   replace h := h.2 h356
                   iterate 3 refine s_skip H (wantN H rfl rfl rfl) rfl (lt_ rfl) fun a H => ?_
                   refine s_pickF H rfl rfl rfl (lt_ rfl) fun a H => ?_
                   exact h357 _ _ _ h (H.weaken ⟨rfl, rfl, rfl, trivial⟩)
                 ·clear H a h
                  intro a x359 w360 h H
                  replace h := h379 x359 w360 h
                  clear h379
                  refine s_move H rfl rfl (lt_ rfl) fun a H => ?_
                  obtain ⟨R369, h, h378⟩ := h
                  refine g_joinW (n := 134) R369 (fun x370 => [(133, (.bool x370))]) (.succ (.succ (.succ (.succ (.succ (.zero _)))))) ?_ ?_
                  ·intro h368
                   clear h378
                   rcases Bool.eq_false_or_eq_true x359 with h367 | h367
                   ·replace H := H.ch (t := 128) (b := true) rfl h367
                    replace h := h.1 h367
                    refine s_move H (wantG H rfl rfl) rfl (lt_ rfl) fun a H => s_call H (wantG H rfl rfl) body_11 (H.args (vs := [(.pointer C256)]) rfl) (lt_ rfl) h ?_ (fun c w' h H => e_panic (P := PP) (fn := Tryz.f6) H h)
                    clear H h a
                    rintro _ w372 a ⟨A373, rfl, h⟩ H
                    refine s_move H (wantG H rfl rfl) rfl (lt_ rfl) fun a H => s_bin H (wantG H rfl rfl) rfl rfl r_eql (lt_ rfl) fun a H => s_pickT H rfl rfl rfl (lt_ rfl) fun a H => ?_
                    exact h368 _ _ _ h (H.weaken ⟨rfl, trivial⟩)
                   ·replace H := H.ch (t := 128) (b := false) rfl h367
                    replace h := h.2 h367
                    iterate 4 refine s_skip H (wantN H rfl rfl rfl) rfl (lt_ rfl) fun a H => ?_
                    refine s_pickF H rfl rfl rfl (lt_ rfl) fun a H => ?_
                    exact h368 _ _ _ h (H.weaken ⟨rfl, trivial⟩)
                  ·clear H a h
                   intro a x370 w371 h H
                   replace h := h378 x370 w371 h
                   clear h378
                   refine s_assign H rfl rfl (lt_ rfl) fun a H => c_nil <| hK355 _ _ <| c_ret ?_
                   exact e_ret1 H rfl rfl h
        clear h446
        refine c_seq fun K427 hK427 => c_reg <| s_fld H rfl rfl fld_32_4 (lt_ rfl) fun a H => s_fld H rfl rfl fld_30_0 (lt_ rfl) fun a H => ?_
        obtain ⟨l428, hc429, h⟩ := h
        refine s_load (v := (.i l428)) H rfl rfl one_3 hc429 (lt_ rfl) fun a H => c_nil <| hK427 _ _ <| c_block <| c_seq fun K430 hK430 => c_reg <| s_bin H rfl rfl rfl r_eql (lt_ rfl) fun a H => s_assign H rfl rfl (lt_ rfl) fun a H => c_nil <| hK430 _ _ <| c_cond H rfl (fun h431 => ?_) (fun h431 => ?_)
        ·replace h := h.1 h431
         refine c_reg <| s_move H rfl rfl (lt_ rfl) fun a H => s_move H rfl rfl (lt_ rfl) fun a H => s_call H rfl body_20 (H.args (vs := [(.pointer p26), g79.v]) rfl) (lt_ rfl) h ?_ (fun c w' h H => e_panic (P := PP) (fn := Tryz.f6) H h)
         clear H h a
         rintro _ w432 a ⟨A433, rfl, h⟩ H
         refine c_nil ?_
         exact h426 _ _ h (H.weaken ⟨rfl, rfl, rfl, rfl, trivial⟩)
        ·replace h := h.2 h431
         refine c_seq fun K438 hK438 => c_reg <| s_bin H rfl rfl rfl r_eql (lt_ rfl) fun a H => s_assign H rfl rfl (lt_ rfl) fun a H => c_nil <| hK438 _ _ <| c_cond H rfl (fun h439 => ?_) (fun h439 => ?_)
         ·replace h := h.1 h439
          refine c_reg <| s_move H rfl rfl (lt_ rfl) fun a H => s_move H rfl rfl (lt_ rfl) fun a H => s_call H rfl body_17 (H.args (vs := [(.pointer p26), g79.v]) rfl) (lt_ rfl) h ?_ (fun c w' h H => e_panic (P := PP) (fn := Tryz.f6) H h)
          clear H h a
          rintro _ w440 a ⟨C441, rfl, h⟩ H
          refine c_nil ?_
          exact h426 _ _ h (H.weaken ⟨rfl, rfl, rfl, rfl, trivial⟩)
         ·replace h := h.2 h439
          refine c_skip ?_
          exact h426 _ _ h (H.weaken ⟨rfl, rfl, rfl, rfl, trivial⟩)
end Go.Proofs.YtflcdgkckfcofaaGreatDoor
