/-
  The conditions give the machine's calls; printed by vcgen.py.
-/
import Derived.Test.YtflcdgkckfcofaaGreatDoorRecVc
namespace Go.Proofs.YtflcdgkckfcofaaGreatDoor
open Go Go.Vc
set_option maxRecDepth 100000
set_option maxHeartbeats 4000000
theorem sim_sherdlaw14_FlogLasts (N1 K2 S3 : Int) (S4 : Slc) (K5 : Int) (U6 : Slc) (N7 : Int) (Y8 : Bool) (L9 : Slc) (N10 K11 D12 S13 A14 : Int) (Y15 : Bool) (L16 : Slc) (A17 : Int) (L18 : Slc) (w : World) (Q : Ending → World → Prop) (h : vc_sherdlaw14_FlogLasts N1 K2 S3 S4 K5 U6 N7 Y8 L9 N10 K11 D12 S13 A14 Y15 L16 A17 L18 w Q) : Calls PP F_sherdlaw14_FlogLasts #[(.agg #[(.i N1), (.i K2), (.i S3), S4.v, (.i K5), U6.v, (.i N7), (.bool Y8), L9.v, (.i N10), (.i K11), (.i D12), (.i S13), (.i A14), (.bool Y15), L16.v, (.i A17), L18.v])] w Q := by
 unfold vc_sherdlaw14_FlogLasts at h
 refine enter (n := 109) Tryz.func5 rfl rfl (Nat.le_of_ble_eq_true rfl) fun a H => c_seq fun K19 hK19 => c_reg ?_
 replace h := h.get
 obtain ⟨b20, w21, n22, h⟩ := h
 refine s_box H rfl rfl (lt_ rfl) ?_
 rw [← n22.at_]
 clear H a
 intro a H
 refine n22.go <| s_assign H rfl rfl (lt_ rfl) fun a H => c_nil <| hK19 _ _ <| c_seq fun K23 hK23 => c_reg ?_
 refine s_loadN (l := [(.i N1), (.i K2), (.i S3), S4.v, (.i K5), U6.v, (.i N7), (.bool Y8), L9.v, (.i N10), (.i K11), (.i D12), (.i S13), (.i A14), (.bool Y15), L16.v, (.i A17), L18.v]) H rfl rfl agg_32 rfl ⟨(n22.cell (i := 0) rfl), (n22.cell (i := 1) rfl), (n22.cell (i := 2) rfl), (n22.cell (i := 3) rfl), (n22.cell (i := 4) rfl), (n22.cell (i := 5) rfl), (n22.cell (i := 6) rfl), (n22.cell (i := 7) rfl), (n22.cell (i := 8) rfl), (n22.cell (i := 9) rfl), (n22.cell (i := 10) rfl), (n22.cell (i := 11) rfl), (n22.cell (i := 12) rfl), (n22.cell (i := 13) rfl), (n22.cell (i := 14) rfl), (n22.cell (i := 15) rfl), (n22.cell (i := 16) rfl), (n22.cell (i := 17) rfl), trivial⟩ (lt_ rfl) fun a H => ?_
 refine s_call H rfl body_8 (H.args (vs := [(.agg #[(.i N1), (.i K2), (.i S3), S4.v, (.i K5), U6.v, (.i N7), (.bool Y8), L9.v, (.i N10), (.i K11), (.i D12), (.i S13), (.i A14), (.bool Y15), L16.v, (.i A17), L18.v])]) rfl) (lt_ rfl) h ?_ (fun c w' h H => e_panic (P := PP) (fn := Tryz.f5) H h)
 clear H h a
 rintro _ w24 a ⟨p25, p26, p27, p28, rfl, h⟩ H
 refine s_move H rfl rfl (lt_ rfl) fun a H => ?_
 iterate 4 refine s_ext H rfl rfl rfl (lt_ rfl) fun a H => ?_
 iterate 4 refine s_assign H rfl rfl (lt_ rfl) fun a H => ?_
 refine c_nil <| hK23 _ _ <| c_seq fun K29 hK29 => c_seq fun K30 hK30 => c_reg <| s_move H rfl rfl (lt_ rfl) fun a H => s_un H rfl rfl r_not (lt_ rfl) fun a H => c_nil <| hK30 _ _ <| c_cond H rfl (fun h31 => ?_) (fun h31 => ?_)
 ·replace h := h.1 h31
  refine c_seq fun K32 hK32 => c_reg <| s_assign H rfl rfl (lt_ rfl) fun a H => c_nil <| hK32 _ _ <| c_ret ?_
  exact e_ret1 H rfl rfl h
 ·replace h := h.2 h31
  refine c_skip <| hK29 _ _ <| c_seq fun K33 hK33 => ?_
  replace H := H.weaken (L' := [(1, (.pointer (some (blk b20)))), (3, (.pointer p25)), (4, (.pointer p26)), (5, p27.v)]) ⟨rfl, rfl, rfl, rfl, trivial⟩
  obtain ⟨N34, hc35, K36, hc37, S38, hc39, S40, hc41, K42, hc43, U44, hc45, N46, hc47, Y48, hc49, L50, hc51, N52, hc53, K54, hc55, D56, hc57, S58, hc59, A60, hc61, Y62, hc63, L64, hc65, A66, hc67, L68, hc69, l70, hc71, h⟩ := h
  refine c_any (V := [(0, (.agg #[(.i N34), (.i K36), (.i S38), S40.v, (.i K42), U44.v, (.i N46), (.bool Y48), L50.v, (.i N52), (.i K54), (.i D56), (.i S58), (.i A60), (.bool Y62), L64.v, (.i A66), L68.v])), (2, (.pointer (some ((blk b20).add 4)))), (3, (.pointer (some (((blk b20).add 4).add 1)))), (4, l70.v)]) (⟨[[], [0], [], [2], [3], [1, 4], [0, 1, 2, 3, 4, 5]], [some 19, some 20, some 21, some 22, some 23, some 24, some 7], [1, 5], [0, 0, 0, 0, 0, 1, 2], [0, 1, 1, 1, 1, 2, 2]⟩ : Rg) [(1, (.pointer (some (blk b20)))), (3, (.pointer p25)), (4, (.pointer p26)), (5, p27.v)] mixed (by kernel_rfl) H ?_
  refine Stg.eff [0, 2, 3, 4] (by kernel_rfl) rfl (.cons ?_ (.cons ?_ (.cons ?_ (.cons ?_ .nil)))) ?_
  ·refine Ans.mk rfl rfl fun a H => s_loadN (l := [(.i N34), (.i K36), (.i S38), S40.v, (.i K42), U44.v, (.i N46), (.bool Y48), L50.v, (.i N52), (.i K54), (.i D56), (.i S58), (.i A60), (.bool Y62), L64.v, (.i A66), L68.v]) H rfl rfl agg_32 rfl ⟨hc35, hc37, hc39, hc41, hc43, hc45, hc47, hc49, hc51, hc53, hc55, hc57, hc59, hc61, hc63, hc65, hc67, hc69, trivial⟩ (lt_ rfl) fun a H => ?_
   exact Ans.fin H rfl
  ·refine Ans.mk rfl rfl fun a H => s_fld H rfl rfl fld_32_4 (lt_ rfl) fun a H => ?_
   exact Ans.fin H rfl
  ·refine Ans.mk rfl rfl fun a H => s_fld H rfl rfl fld_30_1 (lt_ rfl) fun a H => ?_
   exact Ans.fin H rfl
  ·refine Ans.mk rfl rfl fun a H => s_load (v := l70.v) H rfl rfl one_23 hc71 (lt_ rfl) fun a H => ?_
   exact Ans.fin H rfl
  ·intro a H
   replace H := H.weaken (L' := [(19, (.agg #[(.i N34), (.i K36), (.i S38), S40.v, (.i K42), U44.v, (.i N46), (.bool Y48), L50.v, (.i N52), (.i K54), (.i D56), (.i S58), (.i A60), (.bool Y62), L64.v, (.i A66), L68.v]))]) ⟨rfl, trivial⟩
   refine s_call H rfl body_9 (H.args (vs := [(.agg #[(.i N34), (.i K36), (.i S38), S40.v, (.i K42), U44.v, (.i N46), (.bool Y48), L50.v, (.i N52), (.i K54), (.i D56), (.i S58), (.i A60), (.bool Y62), L64.v, (.i A66), L68.v])]) rfl) (lt_ rfl) h ?_ (fun c w' h H => e_panic (P := PP) (fn := Tryz.f5) H h)
   clear H h a
   rintro _ w72 a ⟨N73, K74, D75, S76, rfl, h⟩ H
   refine c_nil ?_
   obtain ⟨hc77, h⟩ := h
   refine effQ.go [] H rfl rfl <| Stg.eff [2, 3, 4] (by kernel_rfl) rfl (.cons ?_ (.cons ?_ (.cons ?_ .nil))) ?_
   ·refine Ans.mk rfl rfl fun a H => s_fld H rfl rfl fld_32_4 (lt_ rfl) fun a H => ?_
    exact Ans.fin H rfl
   ·refine Ans.mk rfl rfl fun a H => s_fld H rfl rfl fld_30_1 (lt_ rfl) fun a H => ?_
    exact Ans.fin H rfl
   ·refine Ans.mk rfl rfl fun a H => s_load (v := l70.v) H rfl rfl one_23 hc77 (lt_ rfl) fun a H => ?_
    exact Ans.fin H rfl
   ·intro a H
    replace H := H.weaken (L' := [(20, (.agg #[(.i N73), (.i K74), (.i D75), (.i S76)])), (23, l70.v)]) ⟨rfl, rfl, trivial⟩
    refine s_call H rfl body_15 (H.args (vs := [(.agg #[(.i N73), (.i K74), (.i D75), (.i S76)]), l70.v]) rfl) (lt_ rfl) h ?_ (fun c w' h H => e_panic (P := PP) (fn := Tryz.f5) H h)
    clear H h a
    rintro _ w78 a ⟨g79, rfl, h⟩ H
    refine c_nil <| effQ.go [(6, g79.v)] H rfl rfl <| Stg.fin [6] (by kernel_rfl) (.cons ?_ .nil) ?_
    ·refine Ans.mk rfl rfl fun a H => s_assign H rfl rfl (lt_ rfl) fun a H => ?_
     exact Ans.fin H rfl
    ·intro a H
     replace H := H.weaken (L' := [(1, (.pointer (some (blk b20)))), (3, (.pointer p25)), (4, (.pointer p26)), (5, p27.v), (7, g79.v)]) ⟨rfl, rfl, rfl, rfl, rfl, trivial⟩
     refine hK33 _ _ <| c_seq fun K80 hK80 => c_seq fun K81 hK81 => ?_
     replace H := H.weaken (L' := [(1, (.pointer (some (blk b20)))), (3, (.pointer p25)), (4, (.pointer p26)), (5, p27.v), (7, g79.v)]) ⟨rfl, rfl, rfl, rfl, rfl, trivial⟩
     obtain ⟨l82, hc83, l84, hc85, h⟩ := h
     refine c_any (V := [(0, (.pointer p25)), (1, (.pointer (some ((blk b20).add 13)))), (2, (.i l82)), (4, (.pointer (some ((blk b20).add 14)))), (5, (.bool l84))]) (⟨[[], [], [1], [2], [], [4], [0, 3, 5], [6]], [some 25, some 26, some 27, some 28, some 29, some 30, some 31, some 32], [3, 6], [0, 0, 0, 0, 0, 0, 1, 2], [1, 0, 0, 1, 1, 1, 2, 2]⟩ : Rg) [(1, (.pointer (some (blk b20)))), (3, (.pointer p25)), (4, (.pointer p26)), (5, p27.v), (7, g79.v)] mixed (by kernel_rfl) H ?_
     refine Stg.eff [0, 1, 2, 4, 5] (by kernel_rfl) rfl (.cons ?_ (.cons ?_ (.cons ?_ (.cons ?_ (.cons ?_ .nil))))) ?_
     ·refine Ans.mk rfl rfl fun a H => s_move H rfl rfl (lt_ rfl) fun a H => ?_
      exact Ans.fin H rfl
     ·refine Ans.mk rfl rfl fun a H => s_fld H rfl rfl fld_32_5 (lt_ rfl) fun a H => ?_
      exact Ans.fin H rfl
     ·refine Ans.mk rfl rfl fun a H => s_load (v := (.i l82)) H rfl rfl one_3 hc83 (lt_ rfl) fun a H => ?_
      exact Ans.fin H rfl
     ·refine Ans.mk rfl rfl fun a H => s_fld H rfl rfl fld_32_6 (lt_ rfl) fun a H => ?_
      exact Ans.fin H rfl
     ·refine Ans.mk rfl rfl fun a H => s_load (v := (.bool l84)) H rfl rfl one_4 hc85 (lt_ rfl) fun a H => ?_
      exact Ans.fin H rfl
     ·intro a H
      replace H := H.weaken (L' := [(27, (.i l82))]) ⟨rfl, trivial⟩
      refine s_call H rfl body_10 (H.args (vs := [(.i l82), (.i 6)]) rfl) (lt_ rfl) h ?_ (fun c w' h H => e_panic (P := PP) (fn := Tryz.f5) H h)
      clear H h a
      rintro _ w86 a ⟨m87, rfl, h⟩ H
      refine c_nil ?_
      obtain ⟨hc88, h⟩ := h
      refine effQ.go [] H rfl rfl <| Stg.eff [0, 4, 5] (by kernel_rfl) rfl (.cons ?_ (.cons ?_ (.cons ?_ .nil))) ?_
      ·refine Ans.mk rfl rfl fun a H => s_move H rfl rfl (lt_ rfl) fun a H => ?_
       exact Ans.fin H rfl
      ·refine Ans.mk rfl rfl fun a H => s_fld H rfl rfl fld_32_6 (lt_ rfl) fun a H => ?_
       exact Ans.fin H rfl
      ·refine Ans.mk rfl rfl fun a H => s_load (v := (.bool l84)) H rfl rfl one_4 hc88 (lt_ rfl) fun a H => ?_
       exact Ans.fin H rfl
      ·intro a H
       replace H := H.weaken (L' := [(25, (.pointer p25)), (28, (.i m87)), (30, (.bool l84))]) ⟨rfl, rfl, rfl, trivial⟩
       refine s_call H rfl body_24 (H.args (vs := [(.pointer p25), (.i m87), (.bool l84)]) rfl) (lt_ rfl) h ?_ (fun c w' h H => e_panic (P := PP) (fn := Tryz.f5) H h)
       clear H h a
       rintro _ w89 a ⟨S90, rfl, h⟩ H
       refine c_nil <| effQ.go [(7, (.bool (decide (S90 ≠ 0))))] H rfl rfl <| Stg.fin [7] (by kernel_rfl) (.cons ?_ .nil) ?_
       ·refine Ans.mk rfl rfl fun a H => s_bin H rfl rfl rfl r_neq (lt_ rfl) fun a H => ?_
        exact Ans.fin H rfl
       ·intro a H
        replace H := H.weaken (L' := [(1, (.pointer (some (blk b20)))), (3, (.pointer p25)), (4, (.pointer p26)), (5, p27.v), (7, g79.v), (32, (.bool (decide (S90 ≠ 0))))]) ⟨rfl, rfl, rfl, rfl, rfl, rfl, trivial⟩
        refine hK81 _ _ <| c_cond H rfl (fun h91 => ?_) (fun h91 => ?_)
        ·replace h := h.1 h91
         refine c_seq fun K92 hK92 => c_reg <| s_assign H rfl rfl (lt_ rfl) fun a H => c_nil <| hK92 _ _ <| c_ret ?_
         exact e_ret1 H rfl rfl h
        ·replace h := h.2 h91
         refine c_skip <| hK80 _ _ <| c_seq fun K93 hK93 => c_reg <| s_assign H rfl rfl (lt_ rfl) fun a H => c_nil <| hK93 _ _ <| c_seq fun K94 hK94 => ?_
         obtain ⟨R96, h, h343⟩ := h
         have h323 : ∀ (a : Act) (e95 : Int) (w97 : World), R96 e95 w97 → Has 109 [] a [(1, (.pointer (some (blk b20)))), (3, (.pointer p25)), (4, (.pointer p26)), (5, p27.v), (7, g79.v), (8, (.i e95))] → K94 a w97 := by
          clear h
          intro a e95 w97 h H
          replace h := h343 e95 w97 h
          refine hK94 _ _ <| c_seq fun K98 hK98 => ?_
          replace H := H.weaken (L' := [(1, (.pointer (some (blk b20)))), (3, (.pointer p25)), (4, (.pointer p26)), (5, p27.v), (7, g79.v), (8, (.i e95))]) ⟨rfl, rfl, rfl, rfl, rfl, rfl, trivial⟩
          obtain ⟨N99, hc100, K101, hc102, S103, hc104, S105, hc106, K107, hc108, U109, hc110, N111, hc112, Y113, hc114, L115, hc116, N117, hc118, K119, hc120, D121, hc122, S123, hc124, A125, hc126, Y127, hc128, L129, hc130, A131, hc132, L133, hc134, l135, hc136, h⟩ := h
          refine c_any (V := [(0, (.agg #[(.i N99), (.i K101), (.i S103), S105.v, (.i K107), U109.v, (.i N111), (.bool Y113), L115.v, (.i N117), (.i K119), (.i D121), (.i S123), (.i A125), (.bool Y127), L129.v, (.i A131), L133.v])), (1, (.pointer p25)), (3, (.pointer (some ((blk b20).add 15)))), (4, l135.v)]) (⟨[[], [], [], [], [3], [2, 4], [1, 5], [0, 6], [7], [8], [8], [0, 1, 2, 3, 4, 5, 6, 7, 8, 9], [0, 1, 2, 3, 4, 5, 6, 7, 8, 9, 10, 11]], [some 47, some 48, some 49, some 50, some 51, some 52, some 53, some 54, some 46, some 55, some 56, some 9, some 6], [2, 5, 6, 7], [0, 0, 0, 0, 0, 1, 2, 3, 4, 4, 4, 4, 4], [3, 2, 1, 1, 1, 2, 3, 4, 4, 4, 4, 4, 4]⟩ : Rg) [(1, (.pointer (some (blk b20)))), (3, (.pointer p25)), (4, (.pointer p26)), (5, p27.v), (7, g79.v), (8, (.i e95))] mixed (by kernel_rfl) H ?_
          refine Stg.eff [0, 1, 3, 4] (by kernel_rfl) rfl (.cons ?_ (.cons ?_ (.cons ?_ (.cons ?_ .nil)))) ?_
          ·refine Ans.mk rfl rfl fun a H => s_loadN (l := [(.i N99), (.i K101), (.i S103), S105.v, (.i K107), U109.v, (.i N111), (.bool Y113), L115.v, (.i N117), (.i K119), (.i D121), (.i S123), (.i A125), (.bool Y127), L129.v, (.i A131), L133.v]) H rfl rfl agg_32 rfl ⟨hc100, hc102, hc104, hc106, hc108, hc110, hc112, hc114, hc116, hc118, hc120, hc122, hc124, hc126, hc128, hc130, hc132, hc134, trivial⟩ (lt_ rfl) fun a H => ?_
           exact Ans.fin H rfl
          ·refine Ans.mk rfl rfl fun a H => s_move H rfl rfl (lt_ rfl) fun a H => ?_
           exact Ans.fin H rfl
          ·refine Ans.mk rfl rfl fun a H => s_fld H rfl rfl fld_32_7 (lt_ rfl) fun a H => ?_
           exact Ans.fin H rfl
          ·refine Ans.mk rfl rfl fun a H => s_load (v := l135.v) H rfl rfl one_24 hc136 (lt_ rfl) fun a H => ?_
           exact Ans.fin H rfl
          ·intro a H
           replace H := H.weaken (L' := []) trivial
           replace h := h.get
           obtain ⟨b137, w138, n139, h⟩ := h
           refine s_bslc H rfl (by rw [H.parts (vs := []) rfl]; exact bs_24_0 (w97.drewN 1)) (lt_ rfl) ?_
           rw [← n139.at_]
           clear H a
           intro a H
           refine n139.go <| c_nil ?_
           obtain ⟨hc140, hc141, hc142, hc143, hc144, hc145, hc146, hc147, hc148, hc149, hc150, hc151, hc152, hc153, hc154, hc155, hc156, hc157, hc158, h⟩ := h
           refine effQ.go [] H rfl rfl <| Stg.eff [0, 1, 3, 4] (by kernel_rfl) rfl (.cons ?_ (.cons ?_ (.cons ?_ (.cons ?_ .nil)))) ?_
           ·refine Ans.mk rfl rfl fun a H => s_loadN (l := [(.i N99), (.i K101), (.i S103), S105.v, (.i K107), U109.v, (.i N111), (.bool Y113), L115.v, (.i N117), (.i K119), (.i D121), (.i S123), (.i A125), (.bool Y127), L129.v, (.i A131), L133.v]) H rfl rfl agg_32 rfl ⟨hc140, hc141, hc142, hc143, hc144, hc145, hc146, hc147, hc148, hc149, hc150, hc151, hc152, hc153, hc154, hc155, hc156, hc157, trivial⟩ (lt_ rfl) fun a H => ?_
            exact Ans.fin H rfl
           ·refine Ans.mk rfl rfl fun a H => s_move H rfl rfl (lt_ rfl) fun a H => ?_
            exact Ans.fin H rfl
           ·refine Ans.mk rfl rfl fun a H => s_fld H rfl rfl fld_32_7 (lt_ rfl) fun a H => ?_
            exact Ans.fin H rfl
           ·refine Ans.mk rfl rfl fun a H => s_load (v := l135.v) H rfl rfl one_24 hc158 (lt_ rfl) fun a H => ?_
            exact Ans.fin H rfl
           ·intro a H
            replace H := H.weaken (L' := [(49, (Slc.v (Slc.mk (some (blk b137)) 0 0))), (51, l135.v)]) ⟨rfl, rfl, trivial⟩
            obtain ⟨s159, w160, h161, h⟩ := h
            refine s_blt H rfl (H.args (vs := [(Slc.v (Slc.mk (some (blk b137)) 0 0)), l135.v]) rfl) (lt_ rfl) (fun cs => b_app (z := s159) h161) ?_
            clear H a h161
            intro a H
            refine c_nil ?_
            obtain ⟨hc162, hc163, hc164, hc165, hc166, hc167, hc168, hc169, hc170, hc171, hc172, hc173, hc174, hc175, hc176, hc177, hc178, hc179, h⟩ := h
            refine effQ.go [] H rfl rfl <| Stg.eff [0, 1] (by kernel_rfl) rfl (.cons ?_ (.cons ?_ .nil)) ?_
            ·refine Ans.mk rfl rfl fun a H => s_loadN (l := [(.i N99), (.i K101), (.i S103), S105.v, (.i K107), U109.v, (.i N111), (.bool Y113), L115.v, (.i N117), (.i K119), (.i D121), (.i S123), (.i A125), (.bool Y127), L129.v, (.i A131), L133.v]) H rfl rfl agg_32 rfl ⟨hc162, hc163, hc164, hc165, hc166, hc167, hc168, hc169, hc170, hc171, hc172, hc173, hc174, hc175, hc176, hc177, hc178, hc179, trivial⟩ (lt_ rfl) fun a H => ?_
             exact Ans.fin H rfl
            ·refine Ans.mk rfl rfl fun a H => s_move H rfl rfl (lt_ rfl) fun a H => ?_
             exact Ans.fin H rfl
            ·intro a H
             replace H := H.weaken (L' := [(48, (.pointer p25)), (52, s159.v)]) ⟨rfl, rfl, trivial⟩
             refine s_call H rfl body_25 (H.args (vs := [(.pointer p25), s159.v]) rfl) (lt_ rfl) h ?_ (fun c w' h H => e_panic (P := PP) (fn := Tryz.f5) H h)
             clear H h a
             rintro _ w180 a ⟨C181, rfl, h⟩ H
             refine c_nil ?_
             obtain ⟨hc182, hc183, hc184, hc185, hc186, hc187, hc188, hc189, hc190, hc191, hc192, hc193, hc194, hc195, hc196, hc197, hc198, hc199, h⟩ := h
             refine effQ.go [] H rfl rfl <| Stg.eff [0] (by kernel_rfl) rfl (.cons ?_ .nil) ?_
             ·refine Ans.mk rfl rfl fun a H => s_loadN (l := [(.i N99), (.i K101), (.i S103), S105.v, (.i K107), U109.v, (.i N111), (.bool Y113), L115.v, (.i N117), (.i K119), (.i D121), (.i S123), (.i A125), (.bool Y127), L129.v, (.i A131), L133.v]) H rfl rfl agg_32 rfl ⟨hc182, hc183, hc184, hc185, hc186, hc187, hc188, hc189, hc190, hc191, hc192, hc193, hc194, hc195, hc196, hc197, hc198, hc199, trivial⟩ (lt_ rfl) fun a H => ?_
              exact Ans.fin H rfl
             ·intro a H
              replace H := H.weaken (L' := [(47, (.agg #[(.i N99), (.i K101), (.i S103), S105.v, (.i K107), U109.v, (.i N111), (.bool Y113), L115.v, (.i N117), (.i K119), (.i D121), (.i S123), (.i A125), (.bool Y127), L129.v, (.i A131), L133.v])), (53, (.pointer C181))]) ⟨rfl, rfl, trivial⟩
              refine s_call H rfl body_13 (H.args (vs := [(.agg #[(.i N99), (.i K101), (.i S103), S105.v, (.i K107), U109.v, (.i N111), (.bool Y113), L115.v, (.i N117), (.i K119), (.i D121), (.i S123), (.i A125), (.bool Y127), L129.v, (.i A131), L133.v]), (.pointer C181)]) rfl) (lt_ rfl) h ?_ (fun c w' h H => e_panic (P := PP) (fn := Tryz.f5) H h)
              clear H h a
              rintro _ w200 a ⟨f201, f202, rfl, h⟩ H
              refine c_nil <| effQ.go [(8, (.tuple #[f201.v, (.bool f202)])), (9, f201.v), (10, (.bool f202)), (11, f201.v), (12, (.bool f202))] H rfl rfl <| Stg.fin [8, 9, 10, 11, 12] (by kernel_rfl) (.cons ?_ (.cons ?_ (.cons ?_ (.cons ?_ (.cons ?_ .nil))))) ?_
              ·refine Ans.mk rfl rfl fun a H => s_move H rfl rfl (lt_ rfl) fun a H => ?_
               exact Ans.fin H rfl
              ·refine Ans.mk rfl rfl fun a H => s_ext H rfl rfl rfl (lt_ rfl) fun a H => ?_
               exact Ans.fin H rfl
              ·refine Ans.mk rfl rfl fun a H => s_ext H rfl rfl rfl (lt_ rfl) fun a H => ?_
               exact Ans.fin H rfl
              ·refine Ans.mk rfl rfl fun a H => s_assign H rfl rfl (lt_ rfl) fun a H => ?_
               exact Ans.fin H rfl
              ·refine Ans.mk rfl rfl fun a H => s_assign H rfl rfl (lt_ rfl) fun a H => ?_
               exact Ans.fin H rfl
              ·intro a H
               replace H := H.weaken (L' := [(1, (.pointer (some (blk b20)))), (3, (.pointer p25)), (4, (.pointer p26)), (5, p27.v), (6, (.bool f202)), (7, g79.v), (8, (.i e95)), (9, f201.v)]) ⟨rfl, rfl, rfl, rfl, rfl, rfl, rfl, rfl, trivial⟩
               refine hK98 _ _ <| c_seq fun K203 hK203 => c_seq fun K204 hK204 => c_reg <| s_move H rfl rfl (lt_ rfl) fun a H => s_un H rfl rfl r_not (lt_ rfl) fun a H => s_move H rfl rfl (lt_ rfl) fun a H => ?_
               obtain ⟨R207, h, h314⟩ := h
               refine g_joinW (n := 109) R207 (fun x208 => [(67, (.bool x208)), (1, (.pointer (some (blk b20)))), (3, (.pointer p25)), (4, (.pointer p26)), (5, p27.v), (7, g79.v), (8, (.i e95)), (9, f201.v)]) (.succ (.succ (.succ (.succ (.succ (.succ (.succ (.succ (.zero _))))))))) ?_ ?_
               ·intro h206
                clear h314
                rcases Bool.eq_false_or_eq_true (!f202) with h205 | h205
                ·replace H := H.ch (t := 59) (b := true) rfl h205
                 replace h := h.2 h205
                 iterate 7 refine s_skip H (wantN H rfl rfl rfl) rfl (lt_ rfl) fun a H => ?_
                 refine s_pickT H rfl rfl rfl (lt_ rfl) fun a H => ?_
                 exact h206 _ _ _ h (H.weaken ⟨rfl, rfl, rfl, rfl, rfl, rfl, rfl, rfl, trivial⟩)
                ·replace H := H.ch (t := 59) (b := false) rfl h205
                 replace h := h.1 h205
                 refine s_move H (wantG H rfl rfl) rfl (lt_ rfl) fun a H => s_move H (wantG H rfl rfl) rfl (lt_ rfl) fun a H => s_fld H (wantG H rfl rfl) rfl fld_32_4 (lt_ rfl) fun a H => ?_
                 obtain ⟨K210, hc211, U212, hc213, N214, hc215, Y216, hc217, L218, hc219, N220, hc221, K222, hc223, D224, hc225, S226, hc227, h⟩ := h
                 refine s_loadN (l := [(.i K210), U212.v, (.i N214), (.bool Y216), L218.v, (.i N220), (.i K222), (.i D224), (.i S226)]) H (wantG H rfl rfl) rfl agg_30 rfl ⟨hc211, hc213, hc215, hc217, hc219, hc221, hc223, hc225, hc227, trivial⟩ (lt_ rfl) fun a H => s_move H (wantG H rfl rfl) rfl (lt_ rfl) fun a H => ?_
                 refine s_call H (wantG H rfl rfl) body_26 (H.args (vs := [f201.v, p27.v, (.agg #[(.i K210), U212.v, (.i N214), (.bool Y216), L218.v, (.i N220), (.i K222), (.i D224), (.i S226)]), g79.v]) rfl) (lt_ rfl) h ?_ (fun c w' h H => e_panic (P := PP) (fn := Tryz.f5) H h)
                 clear H h a
                 rintro _ w228 a ⟨a229, rfl, h⟩ H
                 refine s_un H (wantG H rfl rfl) rfl r_not (lt_ rfl) fun a H => s_pickF H rfl rfl rfl (lt_ rfl) fun a H => ?_
                 exact h206 _ _ _ h (H.weaken ⟨rfl, rfl, rfl, rfl, rfl, rfl, rfl, rfl, trivial⟩)
               ·clear H a h
                intro a x208 w209 h H
                replace h := h314 x208 w209 h
                clear h314
                refine c_nil <| hK204 _ _ <| c_cond H rfl (fun h234 => ?_) (fun h234 => ?_)
                ·replace h := h.1 h234
                 refine c_seq fun K235 hK235 => c_reg <| s_assign H rfl rfl (lt_ rfl) fun a H => c_nil <| hK235 _ _ <| c_ret ?_
                 exact e_ret1 H rfl rfl h
                ·replace h := h.2 h234
                 refine c_skip <| hK203 _ _ <| c_seq fun K236 hK236 => c_seq fun K237 hK237 => c_reg <| s_move H rfl rfl (lt_ rfl) fun a H => s_bin H rfl rfl rfl r_neq (lt_ rfl) fun a H => c_nil <| hK237 _ _ <| c_cond H rfl (fun h238 => ?_) (fun h238 => ?_)
                 ·replace h := h.1 h238
                  refine c_seq fun K239 hK239 => c_reg <| s_move H rfl rfl (lt_ rfl) fun a H => s_bin H rfl rfl rfl r_eql (lt_ rfl) fun a H => s_move H rfl rfl (lt_ rfl) fun a H => ?_
                  obtain ⟨R242, h, h275⟩ := h
                  refine g_joinW (n := 109) R242 (fun x243 => [(75, (.bool x243)), (4, (.pointer p26)), (7, g79.v), (8, (.i e95))]) (.succ (.succ (.succ (.zero _)))) ?_ ?_
                  ·intro h241
                   clear h275
                   rcases Bool.eq_false_or_eq_true (decide (e95 = 60)) with h240 | h240
                   ·replace H := H.ch (t := 72) (b := true) rfl h240
                    replace h := h.1 h240
                    refine s_move H (wantG H rfl rfl) rfl (lt_ rfl) fun a H => s_call H (wantG H rfl rfl) body_27 (H.args (vs := [(.pointer p25)]) rfl) (lt_ rfl) h ?_ (fun c w' h H => e_panic (P := PP) (fn := Tryz.f5) H h)
                    clear H h a
                    rintro _ w245 a ⟨D246, rfl, h⟩ H
                    refine s_pickT H rfl rfl rfl (lt_ rfl) fun a H => ?_
                    exact h241 _ _ _ h (H.weaken ⟨rfl, rfl, rfl, rfl, trivial⟩)
                   ·replace H := H.ch (t := 72) (b := false) rfl h240
                    replace h := h.2 h240
                    refine s_skip H (wantN H rfl rfl rfl) rfl (lt_ rfl) fun a H => s_skip H (wantN H rfl rfl rfl) rfl (lt_ rfl) fun a H => s_pickF H rfl rfl rfl (lt_ rfl) fun a H => ?_
                    exact h241 _ _ _ h (H.weaken ⟨rfl, rfl, rfl, rfl, trivial⟩)
                  ·clear H a h
                   intro a x243 w244 h H
                   replace h := h275 x243 w244 h
                   clear h275
                   refine s_move H rfl rfl (lt_ rfl) fun a H => ?_
                   obtain ⟨R253, h, h274⟩ := h
                   refine g_joinW (n := 109) R253 (fun x254 => [(82, (.bool x254)), (4, (.pointer p26)), (8, (.i e95))]) (.succ (.succ (.succ (.succ (.succ (.succ (.zero _))))))) ?_ ?_
                   ·intro h252
                    clear h274
                    rcases Bool.eq_false_or_eq_true x243 with h251 | h251
                    ·replace H := H.ch (t := 76) (b := true) rfl h251
                     replace h := h.1 h251
                     refine s_move H (wantG H rfl rfl) rfl (lt_ rfl) fun a H => s_move H (wantG H rfl rfl) rfl (lt_ rfl) fun a H => s_call H (wantG H rfl rfl) body_20 (H.args (vs := [(.pointer p26), g79.v]) rfl) (lt_ rfl) h ?_ (fun c w' h H => e_panic (P := PP) (fn := Tryz.f5) H h)
                     clear H h a
                     rintro _ w256 a ⟨A257, rfl, h⟩ H
                     refine s_move H (wantG H rfl rfl) rfl (lt_ rfl) fun a H => s_bin H (wantG H rfl rfl) rfl rfl r_eql (lt_ rfl) fun a H => s_pickT H rfl rfl rfl (lt_ rfl) fun a H => ?_
                     exact h252 _ _ _ h (H.weaken ⟨rfl, rfl, rfl, trivial⟩)
                    ·replace H := H.ch (t := 76) (b := false) rfl h251
                     replace h := h.2 h251
                     iterate 5 refine s_skip H (wantN H rfl rfl rfl) rfl (lt_ rfl) fun a H => ?_
                     refine s_pickF H rfl rfl rfl (lt_ rfl) fun a H => ?_
                     exact h252 _ _ _ h (H.weaken ⟨rfl, rfl, rfl, trivial⟩)
                   ·clear H a h
                    intro a x254 w255 h H
                    replace h := h274 x254 w255 h
                    clear h274
                    refine s_move H rfl rfl (lt_ rfl) fun a H => ?_
                    obtain ⟨R264, h, h273⟩ := h
                    refine g_joinW (n := 109) R264 (fun x265 => [(88, (.bool x265))]) (.succ (.succ (.succ (.succ (.succ (.zero _)))))) ?_ ?_
                    ·intro h263
                     clear h273
                     rcases Bool.eq_false_or_eq_true x254 with h262 | h262
                     ·replace H := H.ch (t := 83) (b := true) rfl h262
                      replace h := h.1 h262
                      refine s_move H (wantG H rfl rfl) rfl (lt_ rfl) fun a H => s_call H (wantG H rfl rfl) body_17 (H.args (vs := [(.pointer p26), Slc.nil.v]) rfl) (lt_ rfl) h ?_ (fun c w' h H => e_panic (P := PP) (fn := Tryz.f5) H h)
                      clear H h a
                      rintro _ w267 a ⟨C268, rfl, h⟩ H
                      refine s_move H (wantG H rfl rfl) rfl (lt_ rfl) fun a H => s_bin H (wantG H rfl rfl) rfl rfl r_eql (lt_ rfl) fun a H => s_pickT H rfl rfl rfl (lt_ rfl) fun a H => ?_
                      exact h263 _ _ _ h (H.weaken ⟨rfl, trivial⟩)
                     ·replace H := H.ch (t := 83) (b := false) rfl h262
                      replace h := h.2 h262
                      iterate 4 refine s_skip H (wantN H rfl rfl rfl) rfl (lt_ rfl) fun a H => ?_
                      refine s_pickF H rfl rfl rfl (lt_ rfl) fun a H => ?_
                      exact h263 _ _ _ h (H.weaken ⟨rfl, trivial⟩)
                    ·clear H a h
                     intro a x265 w266 h H
                     replace h := h273 x265 w266 h
                     clear h273
                     refine s_assign H rfl rfl (lt_ rfl) fun a H => c_nil <| hK239 _ _ <| c_ret ?_
                     exact e_ret1 H rfl rfl h
                 ·replace h := h.2 h238
                  refine c_skip <| hK236 _ _ <| c_seq fun K276 hK276 => c_seq fun K277 hK277 => c_reg <| s_fld H rfl rfl fld_32_4 (lt_ rfl) fun a H => s_fld H rfl rfl fld_30_0 (lt_ rfl) fun a H => ?_
                  obtain ⟨l278, hc279, h⟩ := h
                  refine s_load (v := (.i l278)) H rfl rfl one_3 hc279 (lt_ rfl) fun a H => c_nil <| hK277 _ _ <| c_block <| c_seq fun K280 hK280 => c_reg <| s_bin H rfl rfl rfl r_eql (lt_ rfl) fun a H => s_assign H rfl rfl (lt_ rfl) fun a H => c_nil <| hK280 _ _ <| c_cond H rfl (fun h281 => ?_) (fun h281 => ?_)
                  ·replace h := h.1 h281
                   refine c_seq fun K282 hK282 => c_reg <| s_move H rfl rfl (lt_ rfl) fun a H => ?_
                   replace h := h.get
                   obtain ⟨b283, w284, n285, h⟩ := h
                   refine s_bslc H rfl (by rw [H.parts (vs := []) rfl]; exact bs_23_0 w209) (lt_ rfl) ?_
                   rw [← n285.at_]
                   clear H a
                   intro a H
                   refine n285.go <| s_move H rfl rfl (lt_ rfl) fun a H => ?_
                   obtain ⟨s286, w287, h288, h⟩ := h
                   refine s_blt H rfl (H.args (vs := [(Slc.v (Slc.mk (some (blk b283)) 0 0)), p27.v]) rfl) (lt_ rfl) (fun cs => b_app (z := s286) h288) ?_
                   clear H a h288
                   intro a H
                   refine s_move H rfl rfl (lt_ rfl) fun a H => ?_
                   obtain ⟨s289, w290, h291, h⟩ := h
                   refine s_blt H rfl (H.args (vs := [s286.v, g79.v]) rfl) (lt_ rfl) (fun cs => b_app (z := s289) h291) ?_
                   clear H a h291
                   intro a H
                   refine s_call H rfl body_14 (H.args (vs := [f201.v, s289.v]) rfl) (lt_ rfl) h ?_ (fun c w' h H => e_panic (P := PP) (fn := Tryz.f5) H h)
                   clear H h a
                   rintro _ w292 a ⟨u293, rfl, h⟩ H
                   refine s_assign H rfl rfl (lt_ rfl) fun a H => c_nil <| hK282 _ _ <| c_ret ?_
                   exact e_ret1 H rfl rfl h
                  ·replace h := h.2 h281
                   refine c_seq fun K298 hK298 => c_reg <| s_bin H rfl rfl rfl r_eql (lt_ rfl) fun a H => s_assign H rfl rfl (lt_ rfl) fun a H => c_nil <| hK298 _ _ <| c_cond H rfl (fun h299 => ?_) (fun h299 => ?_)
                   ·replace h := h.1 h299
                    refine c_seq fun K300 hK300 => c_reg <| s_move H rfl rfl (lt_ rfl) fun a H => s_move H rfl rfl (lt_ rfl) fun a H => s_call H rfl body_14 (H.args (vs := [f201.v, g79.v]) rfl) (lt_ rfl) h ?_ (fun c w' h H => e_panic (P := PP) (fn := Tryz.f5) H h)
                    clear H h a
                    rintro _ w301 a ⟨u302, rfl, h⟩ H
                    refine s_assign H rfl rfl (lt_ rfl) fun a H => c_nil <| hK300 _ _ <| c_ret ?_
                    exact e_ret1 H rfl rfl h
                   ·replace h := h.2 h299
                    refine c_skip <| hK276 _ _ <| c_seq fun K307 hK307 => c_reg <| s_move H rfl rfl (lt_ rfl) fun a H => s_move H rfl rfl (lt_ rfl) fun a H => s_call H rfl body_14 (H.args (vs := [f201.v, p27.v]) rfl) (lt_ rfl) h ?_ (fun c w' h H => e_panic (P := PP) (fn := Tryz.f5) H h)
                    clear H h a
                    rintro _ w308 a ⟨u309, rfl, h⟩ H
                    refine s_assign H rfl rfl (lt_ rfl) fun a H => c_nil <| hK307 _ _ <| c_ret ?_
                    exact e_ret1 H rfl rfl h
         clear h343
         refine c_seq fun K324 hK324 => c_reg <| s_fld H rfl rfl fld_32_4 (lt_ rfl) fun a H => s_fld H rfl rfl fld_30_0 (lt_ rfl) fun a H => ?_
         obtain ⟨l325, hc326, h⟩ := h
         refine s_load (v := (.i l325)) H rfl rfl one_3 hc326 (lt_ rfl) fun a H => c_nil <| hK324 _ _ <| c_block <| c_seq fun K327 hK327 => c_reg <| s_bin H rfl rfl rfl r_eql (lt_ rfl) fun a H => s_assign H rfl rfl (lt_ rfl) fun a H => c_nil <| hK327 _ _ <| c_cond H rfl (fun h328 => ?_) (fun h328 => ?_)
         ·replace h := h.1 h328
          refine c_reg <| s_move H rfl rfl (lt_ rfl) fun a H => s_move H rfl rfl (lt_ rfl) fun a H => s_call H rfl body_20 (H.args (vs := [(.pointer p26), g79.v]) rfl) (lt_ rfl) h ?_ (fun c w' h H => e_panic (P := PP) (fn := Tryz.f5) H h)
          clear H h a
          rintro _ w329 a ⟨A330, rfl, h⟩ H
          refine s_assign H rfl rfl (lt_ rfl) fun a H => c_nil ?_
          exact h323 _ _ _ h (H.weaken ⟨rfl, rfl, rfl, rfl, rfl, rfl, trivial⟩)
         ·replace h := h.2 h328
          refine c_seq fun K335 hK335 => c_reg <| s_bin H rfl rfl rfl r_eql (lt_ rfl) fun a H => s_assign H rfl rfl (lt_ rfl) fun a H => c_nil <| hK335 _ _ <| c_cond H rfl (fun h336 => ?_) (fun h336 => ?_)
          ·replace h := h.1 h336
           refine c_reg <| s_move H rfl rfl (lt_ rfl) fun a H => s_move H rfl rfl (lt_ rfl) fun a H => s_call H rfl body_17 (H.args (vs := [(.pointer p26), g79.v]) rfl) (lt_ rfl) h ?_ (fun c w' h H => e_panic (P := PP) (fn := Tryz.f5) H h)
           clear H h a
           rintro _ w337 a ⟨C338, rfl, h⟩ H
           refine s_assign H rfl rfl (lt_ rfl) fun a H => c_nil ?_
           exact h323 _ _ _ h (H.weaken ⟨rfl, rfl, rfl, rfl, rfl, rfl, trivial⟩)
          ·replace h := h.2 h336
           refine c_skip ?_
           exact h323 _ _ _ h (H.weaken ⟨rfl, rfl, rfl, rfl, rfl, rfl, trivial⟩)

end Go.Proofs.YtflcdgkckfcofaaGreatDoor
