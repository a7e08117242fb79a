/-
  The conditions give the machine's calls; printed by vcgen.py.
-/
import Derived.Test.YtflcdgkckfcofaaGreatDoorRecVc
namespace Go.Proofs.YtflcdgkckfcofaaGreatDoor
open Go Go.Vc
set_option maxRecDepth 100000
set_option maxHeartbeats 4000000
theorem sim_sherdlaw14_played (N1 K2 S3 : Int) (S4 : Slc) (K5 : Int) (U6 : Slc) (N7 : Int) (Y8 : Bool) (L9 : Slc) (N10 K11 D12 S13 A14 : Int) (Y15 : Bool) (L16 : Slc) (A17 : Int) (L18 : Slc) (w : World) (Q : Ending → World → Prop) (h : vc_sherdlaw14_played N1 K2 S3 S4 K5 U6 N7 Y8 L9 N10 K11 D12 S13 A14 Y15 L16 A17 L18 w Q) : Calls PP F_sherdlaw14_played #[(.agg #[(.i N1), (.i K2), (.i S3), S4.v, (.i K5), U6.v, (.i N7), (.bool Y8), L9.v, (.i N10), (.i K11), (.i D12), (.i S13), (.i A14), (.bool Y15), L16.v, (.i A17), L18.v])] w Q := by
 unfold vc_sherdlaw14_played at h
 refine enter (n := 87) Tryz.func8 rfl rfl (Nat.le_of_ble_eq_true rfl) fun a H => c_seq fun K19 hK19 => c_reg ?_
 replace h := h.get
 obtain ⟨b20, w21, n22, h⟩ := h
 refine s_box H rfl rfl (lt_ rfl) ?_
 rw [← n22.at_]
 clear H a
 intro a H
 refine n22.go ?_
 iterate 4 refine s_assign H rfl rfl (lt_ rfl) fun a H => ?_
 refine c_nil <| hK19 _ _ <| c_seq fun K23 hK23 => c_reg ?_
 refine s_loadN (l := [(.i N1), (.i K2), (.i S3), S4.v, (.i K5), U6.v, (.i N7), (.bool Y8), L9.v, (.i N10), (.i K11), (.i D12), (.i S13), (.i A14), (.bool Y15), L16.v, (.i A17), L18.v]) H rfl rfl agg_32 rfl ⟨(n22.cell (i := 0) rfl), (n22.cell (i := 1) rfl), (n22.cell (i := 2) rfl), (n22.cell (i := 3) rfl), (n22.cell (i := 4) rfl), (n22.cell (i := 5) rfl), (n22.cell (i := 6) rfl), (n22.cell (i := 7) rfl), (n22.cell (i := 8) rfl), (n22.cell (i := 9) rfl), (n22.cell (i := 10) rfl), (n22.cell (i := 11) rfl), (n22.cell (i := 12) rfl), (n22.cell (i := 13) rfl), (n22.cell (i := 14) rfl), (n22.cell (i := 15) rfl), (n22.cell (i := 16) rfl), (n22.cell (i := 17) rfl), trivial⟩ (lt_ rfl) fun a H => ?_
 refine s_call H rfl body_9 (H.args (vs := [(.agg #[(.i N1), (.i K2), (.i S3), S4.v, (.i K5), U6.v, (.i N7), (.bool Y8), L9.v, (.i N10), (.i K11), (.i D12), (.i S13), (.i A14), (.bool Y15), L16.v, (.i A17), L18.v])]) rfl) (lt_ rfl) h ?_ (fun c w' h H => e_panic (P := PP) (fn := Tryz.f8) H h)
 clear H h a
 rintro _ w24 a ⟨N25, K26, D27, S28, rfl, h⟩ H
 replace h := h.get
 obtain ⟨b29, w30, n31, h⟩ := h
 refine s_alloc H rfl zero_28 (lt_ rfl) ?_
 rw [← n31.at_]
 clear H a
 intro a H
 refine n31.go <| s_stoN (l := [(.i N25), (.i K26), (.i D27), (.i S28)]) H rfl rfl rfl rfl agg_28 rfl rfl h ?_
 clear h H
 intro w32 h H
 refine c_nil <| hK23 _ _ <| c_seq fun K33 hK33 => c_reg <| s_call H rfl body_19 (H.args (vs := []) rfl) (lt_ rfl) h ?_ (fun c w' h H => e_panic (P := PP) (fn := Tryz.f8) H h)
 clear H h a
 rintro _ w34 a ⟨N35, rfl, h⟩ H
 refine s_assign H rfl rfl (lt_ rfl) fun a H => c_nil <| hK33 _ _ <| c_seq fun K36 hK36 => c_reg <| s_move H rfl rfl (lt_ rfl) fun a H => ?_
 obtain ⟨N37, hc38, K39, hc40, D41, hc42, S43, hc44, h⟩ := h
 refine s_loadN (l := [(.i N37), (.i K39), (.i D41), (.i S43)]) H rfl rfl agg_28 rfl ⟨hc38, hc40, hc42, hc44, trivial⟩ (lt_ rfl) fun a H => s_call H rfl body_12 (H.args (vs := [(.pointer N35), (.agg #[(.i N37), (.i K39), (.i D41), (.i S43)])]) rfl) (lt_ rfl) h ?_ (fun c w' h H => e_panic (P := PP) (fn := Tryz.f8) H h)
 clear H h a
 rintro _ w45 a ⟨O46, O47, O48, rfl, h⟩ H
 refine s_move H rfl rfl (lt_ rfl) fun a H => ?_
 iterate 3 refine s_ext H rfl rfl rfl (lt_ rfl) fun a H => ?_
 iterate 3 refine s_assign H rfl rfl (lt_ rfl) fun a H => ?_
 refine c_nil <| hK36 _ _ <| c_seq fun K49 hK49 => c_seq fun K50 hK50 => c_reg <| s_move H rfl rfl (lt_ rfl) fun a H => s_bin H rfl rfl rfl r_neq (lt_ rfl) fun a H => s_move H rfl rfl (lt_ rfl) fun a H => g_join (n := 87) [(29, (.bool ((decide (O48 ≠ 0)) || O46.isNone))), (1, (.pointer (some (blk b20)))), (6, (.pointer (some (blk b29)))), (7, (.pointer N35)), (8, (.pointer O46)), (9, O47.v), (10, (.i O48))] (.succ (.succ (.succ (.zero _)))) ?_ ?_
 ·intro h52
  try clear h
  rcases Bool.eq_false_or_eq_true (decide (O48 ≠ 0)) with h51 | h51
  ·replace H := H.ch (t := 26) (b := true) rfl h51
   refine s_skip H (wantN H rfl rfl rfl) rfl (lt_ rfl) fun a H => s_skip H (wantN H rfl rfl rfl) rfl (lt_ rfl) fun a H => s_pickT H rfl rfl rfl (lt_ rfl) fun a H => ?_
   exact h52 _ (H.weaken ⟨by rw [h51]; rfl, rfl, rfl, rfl, rfl, rfl, rfl, trivial⟩)
  ·replace H := H.ch (t := 26) (b := false) rfl h51
   refine s_move H (wantG H rfl rfl) rfl (lt_ rfl) fun a H => s_bin H (wantG H rfl rfl) rfl rfl (r_eqP0 ptr_34) (lt_ rfl) fun a H => s_pickF H rfl rfl rfl (lt_ rfl) fun a H => ?_
   exact h52 _ (H.weaken ⟨by rw [h51]; rfl, rfl, rfl, rfl, rfl, rfl, rfl, trivial⟩)
 ·clear H a
  intro a H
  refine s_move H rfl rfl (lt_ rfl) fun a H => g_join (n := 87) [(34, (.bool (((decide (O48 ≠ 0)) || O46.isNone) || (decide ((O47.l : Int) ≠ 0))))), (1, (.pointer (some (blk b20)))), (6, (.pointer (some (blk b29)))), (7, (.pointer N35)), (8, (.pointer O46)), (10, (.i O48))] (.succ (.succ (.succ (.succ (.zero _))))) ?_ ?_
  ·intro h54
   try clear h
   rcases Bool.eq_false_or_eq_true ((decide (O48 ≠ 0)) || O46.isNone) with h53 | h53
   ·replace H := H.ch (t := 30) (b := true) rfl h53
    iterate 3 refine s_skip H (wantN H rfl rfl rfl) rfl (lt_ rfl) fun a H => ?_
    refine s_pickT H rfl rfl rfl (lt_ rfl) fun a H => ?_
    exact h54 _ (H.weaken ⟨by rw [h53]; rfl, rfl, rfl, rfl, rfl, rfl, trivial⟩)
   ·replace H := H.ch (t := 30) (b := false) rfl h53
    refine s_move H (wantG H rfl rfl) rfl (lt_ rfl) fun a H => s_blt H (wantG H rfl rfl) (H.args (vs := [O47.v]) rfl) (lt_ rfl) (fun cs => b_lenS (z := O47) sl_23) fun a H => s_bin H (wantG H rfl rfl) rfl rfl r_neq (lt_ rfl) fun a H => s_pickF H rfl rfl rfl (lt_ rfl) fun a H => ?_
    exact h54 _ (H.weaken ⟨by rw [h53]; rfl, rfl, rfl, rfl, rfl, rfl, trivial⟩)
  ·clear H a
   intro a H
   refine c_nil <| hK50 _ _ <| c_cond H rfl (fun h55 => ?_) (fun h55 => ?_)
   ·replace h := h.1 h55
    refine c_seq fun K56 hK56 => c_reg ?_
    iterate 4 refine s_assign H rfl rfl (lt_ rfl) fun a H => ?_
    refine c_nil <| hK56 _ _ <| c_ret ?_
    exact e_ret4 H rfl rfl rfl rfl rfl h
   ·replace h := h.2 h55
    refine c_skip <| hK49 _ _ <| c_seq fun K57 hK57 => c_reg <| s_assign H rfl rfl (lt_ rfl) fun a H => c_nil <| hK57 _ _ <| c_seq fun K58 hK58 => c_seq fun K59 hK59 => c_reg <| s_assign H rfl rfl (lt_ rfl) fun a H => c_nil <| hK59 _ _ <| c_block ?_
    obtain ⟨I64, m65, h160, h161⟩ := h
    refine c_loop (σ := Int × Slc × Int) (fun z w => I64 z.1 z.2.1 z.2.2 w) (fun z w => m65 z.1 z.2.1 z.2.2 w) (fun z => [(1, (.pointer (some (blk b20)))), (6, (.pointer (some (blk b29)))), (7, (.pointer N35)), (8, (.pointer O46)), (10, (.i z.1)), (11, z.2.1.v), (12, (.i z.2.2))]) (O48, Slc.nil, 0) h160 (H.weaken ⟨rfl, rfl, rfl, rfl, rfl, rfl, rfl, trivial⟩) ?_
    clear H h160
    rintro ⟨e60, h61, i62⟩ a w63 h H
    replace h := h161 e60 h61 i62 w63 h
    clear h161
    replace H : Has 87 [] a [(1, (.pointer (some (blk b20)))), (6, (.pointer (some (blk b29)))), (7, (.pointer N35)), (8, (.pointer O46)), (10, (.i e60)), (11, h61.v), (12, (.i i62))] := H
    refine c_seq fun K66 hK66 => c_seq fun K67 hK67 => c_reg <| s_move H rfl rfl (lt_ rfl) fun a H => s_fld H rfl rfl fld_32_3 (lt_ rfl) fun a H => ?_
    obtain ⟨l68, hc69, h⟩ := h
    refine s_load (v := l68.v) H rfl rfl one_22 hc69 (lt_ rfl) fun a H => s_blt H rfl (H.args (vs := [l68.v]) rfl) (lt_ rfl) (fun cs => b_lenS (z := l68) sl_22) fun a H => s_bin H rfl rfl rfl r_lss (lt_ rfl) fun a H => c_nil <| hK67 _ _ <| c_cond H rfl (fun h70 => ?_) (fun h70 => ?_)
    ·replace h := h.1 h70
     refine c_skip <| hK66 _ _ <| c_seq fun K71 hK71 => c_block <| c_seq fun K72 hK72 => ?_
     replace H := H.weaken (L' := [(1, (.pointer (some (blk b20)))), (6, (.pointer (some (blk b29)))), (7, (.pointer N35)), (8, (.pointer O46)), (10, (.i e60)), (11, h61.v), (12, (.i i62))]) ⟨rfl, rfl, rfl, rfl, rfl, rfl, rfl, trivial⟩
     obtain ⟨N73, hc74, K75, hc76, D77, hc78, S79, hc80, l81, hc82, a83, h84, h85, h86, l87, hc88, h⟩ := h
     refine c_any (V := [(0, (.agg #[(.i N73), (.i K75), (.i D77), (.i S79)])), (1, (.pointer (some ((blk b20).add 3)))), (2, l81.v), (3, (.i i62)), (4, (.pointer (some (a83.add (Int.toNat (i62) * 9))))), (5, (.pointer (some ((a83.add (Int.toNat (i62) * 9)).add 1)))), (6, l87.v)]) (⟨[[], [], [1], [], [2, 3], [4], [5], [0, 6], [0, 1, 2, 3, 4, 5, 6, 7]], [some 42, some 43, some 44, some 45, some 46, some 47, some 48, some 49, some 13], [7], [0, 0, 0, 0, 0, 0, 0, 0, 1], [0, 0, 0, 0, 0, 0, 0, 1, 1]⟩ : Rg) [(1, (.pointer (some (blk b20)))), (6, (.pointer (some (blk b29)))), (7, (.pointer N35)), (8, (.pointer O46)), (10, (.i e60)), (11, h61.v), (12, (.i i62))] mixed (by kernel_rfl) H ?_
     refine Stg.eff [0, 1, 2, 3, 4, 5, 6] (by kernel_rfl) rfl (.cons ?_ (.cons ?_ (.cons ?_ (.cons ?_ (.cons ?_ (.cons ?_ (.cons ?_ .nil))))))) ?_
     ·refine Ans.mk rfl rfl fun a H => s_loadN (l := [(.i N73), (.i K75), (.i D77), (.i S79)]) H rfl rfl agg_28 rfl ⟨hc74, hc76, hc78, hc80, trivial⟩ (lt_ rfl) fun a H => ?_
      exact Ans.fin H rfl
     ·refine Ans.mk rfl rfl fun a H => s_fld H rfl rfl fld_32_3 (lt_ rfl) fun a H => ?_
      exact Ans.fin H rfl
     ·refine Ans.mk rfl rfl fun a H => s_load (v := l81.v) H rfl rfl one_22 hc82 (lt_ rfl) fun a H => ?_
      exact Ans.fin H rfl
     ·refine Ans.mk rfl rfl fun a H => s_move H rfl rfl (lt_ rfl) fun a H => ?_
      exact Ans.fin H rfl
     ·refine Ans.mk rfl rfl fun a H => s_idxS (s := l81) H rfl rfl rfl slc_22 h84 h85 h86 (lt_ rfl) fun a H => ?_
      exact Ans.fin H rfl
     ·refine Ans.mk rfl rfl fun a H => s_fld H rfl rfl fld_30_1 (lt_ rfl) fun a H => ?_
      exact Ans.fin H rfl
     ·refine Ans.mk rfl rfl fun a H => s_load (v := l87.v) H rfl rfl one_23 hc88 (lt_ rfl) fun a H => ?_
      exact Ans.fin H rfl
     ·intro a H
      replace H := H.weaken (L' := [(42, (.agg #[(.i N73), (.i K75), (.i D77), (.i S79)])), (48, l87.v)]) ⟨rfl, rfl, trivial⟩
      refine s_call H rfl body_15 (H.args (vs := [(.agg #[(.i N73), (.i K75), (.i D77), (.i S79)]), l87.v]) rfl) (lt_ rfl) h ?_ (fun c w' h H => e_panic (P := PP) (fn := Tryz.f8) H h)
      clear H h a
      rintro _ w89 a ⟨g90, rfl, h⟩ H
      refine c_nil <| effQ.go [(8, g90.v)] H rfl rfl <| Stg.fin [8] (by kernel_rfl) (.cons ?_ .nil) ?_
      ·refine Ans.mk rfl rfl fun a H => s_assign H rfl rfl (lt_ rfl) fun a H => ?_
       exact Ans.fin H rfl
      ·intro a H
       replace H := H.weaken (L' := [(1, (.pointer (some (blk b20)))), (6, (.pointer (some (blk b29)))), (7, (.pointer N35)), (8, (.pointer O46)), (10, (.i e60)), (11, h61.v), (12, (.i i62)), (13, g90.v)]) ⟨rfl, rfl, rfl, rfl, rfl, rfl, rfl, rfl, trivial⟩
       refine hK72 _ _ <| c_seq fun K91 hK91 => ?_
       obtain ⟨R94, h, h148⟩ := h
       have h111 : ∀ (a : Act) (e92 : Int) (h93 : Slc) (w95 : World), R94 e92 h93 w95 → Has 87 [] a [(1, (.pointer (some (blk b20)))), (6, (.pointer (some (blk b29)))), (7, (.pointer N35)), (8, (.pointer O46)), (10, (.i e92)), (11, h93.v), (12, (.i i62))] → K91 a w95 := by
        clear h
        intro a e92 h93 w95 h H
        replace h := h148 e92 h93 w95 h
        refine hK91 _ _ <| c_seq fun K96 hK96 => c_reg <| s_move H rfl rfl (lt_ rfl) fun a H => s_bin H rfl rfl rfl r_neq (lt_ rfl) fun a H => s_move H rfl rfl (lt_ rfl) fun a H => ?_
        obtain ⟨R99, h, h110⟩ := h
        refine g_joinW (n := 87) R99 (fun x100 => [(80, (.bool x100)), (1, (.pointer (some (blk b20)))), (6, (.pointer (some (blk b29)))), (7, (.pointer N35)), (8, (.pointer O46)), (10, (.i e92)), (11, h93.v), (12, (.i i62))]) (.succ (.succ (.succ (.succ (.succ (.succ (.zero _))))))) ?_ ?_
        ·intro h98
         clear h110
         rcases Bool.eq_false_or_eq_true (decide (e92 ≠ 0)) with h97 | h97
         ·replace H := H.ch (t := 74) (b := true) rfl h97
          replace h := h.2 h97
          iterate 5 refine s_skip H (wantN H rfl rfl rfl) rfl (lt_ rfl) fun a H => ?_
          refine s_pickT H rfl rfl rfl (lt_ rfl) fun a H => ?_
          exact h98 _ _ _ h (H.weaken ⟨rfl, rfl, rfl, rfl, rfl, rfl, rfl, rfl, trivial⟩)
         ·replace H := H.ch (t := 74) (b := false) rfl h97
          replace h := h.1 h97
          refine s_move H (wantG H rfl rfl) rfl (lt_ rfl) fun a H => s_call H (wantG H rfl rfl) body_18 (H.args (vs := [(.pointer O46)]) rfl) (lt_ rfl) h ?_ (fun c w' h H => e_panic (P := PP) (fn := Tryz.f8) H h)
          clear H h a
          rintro _ w102 a ⟨C103, rfl, h⟩ H
          refine s_move H (wantG H rfl rfl) rfl (lt_ rfl) fun a H => s_blt H (wantG H rfl rfl) (H.args (vs := [h93.v]) rfl) (lt_ rfl) (fun cs => b_lenS (z := h93) sl_23) fun a H => s_bin H (wantG H rfl rfl) rfl rfl r_neq (lt_ rfl) fun a H => s_pickF H rfl rfl rfl (lt_ rfl) fun a H => ?_
          exact h98 _ _ _ h (H.weaken ⟨rfl, rfl, rfl, rfl, rfl, rfl, rfl, rfl, trivial⟩)
        ·clear H a h
         intro a x100 w101 h H
         replace h := h110 x100 w101 h
         clear h110
         refine c_nil <| hK96 _ _ <| c_cond H rfl (fun h108 => ?_) (fun h108 => ?_)
         ·replace h := h.1 h108
          refine c_seq fun K109 hK109 => c_reg ?_
          iterate 4 refine s_assign H rfl rfl (lt_ rfl) fun a H => ?_
          refine c_nil <| hK109 _ _ <| c_ret ?_
          exact e_ret4 H rfl rfl rfl rfl rfl h
         ·replace h := h.2 h108
          refine c_skip <| hK71 _ _ <| c_reg <| s_move H rfl rfl (lt_ rfl) fun a H => s_bin H rfl rfl rfl r_add (lt_ rfl) fun a H => s_assign H rfl rfl (lt_ rfl) fun a H => c_nil <| Exists.intro (e92, h93, wr .i64 (i62 + 1)) ⟨h.1, h.2, H.weaken ⟨rfl, rfl, rfl, rfl, rfl, rfl, rfl, trivial⟩⟩
       clear h148
       refine c_seq fun K112 hK112 => c_reg <| s_fld H rfl rfl fld_32_3 (lt_ rfl) fun a H => ?_
       obtain ⟨l113, hc114, h⟩ := h
       refine s_load (v := l113.v) H rfl rfl one_22 hc114 (lt_ rfl) fun a H => s_move H rfl rfl (lt_ rfl) fun a H => ?_
       obtain ⟨a115, h116, h117, h118, h⟩ := h
       refine s_idxS (s := l113) H rfl rfl rfl slc_22 h116 h117 h118 (lt_ rfl) fun a H => s_fld H rfl rfl fld_30_0 (lt_ rfl) fun a H => ?_
       obtain ⟨l119, hc120, h⟩ := h
       refine s_load (v := (.i l119)) H rfl rfl one_3 hc120 (lt_ rfl) fun a H => c_nil <| hK112 _ _ <| c_block <| c_seq fun K121 hK121 => c_reg <| s_bin H rfl rfl rfl r_eql (lt_ rfl) fun a H => s_assign H rfl rfl (lt_ rfl) fun a H => c_nil <| hK121 _ _ <| c_cond H rfl (fun h122 => ?_) (fun h122 => ?_)
       ·replace h := h.1 h122
        refine c_seq fun K123 hK123 => c_reg <| s_move H rfl rfl (lt_ rfl) fun a H => s_move H rfl rfl (lt_ rfl) fun a H => s_call H rfl body_20 (H.args (vs := [(.pointer O46), g90.v]) rfl) (lt_ rfl) h ?_ (fun c w' h H => e_panic (P := PP) (fn := Tryz.f8) H h)
        clear H h a
        rintro _ w124 a ⟨A125, rfl, h⟩ H
        refine s_assign H rfl rfl (lt_ rfl) fun a H => c_nil <| hK123 _ _ <| c_reg ?_
        replace h := h.get
        obtain ⟨b126, w127, n128, h⟩ := h
        refine s_bslc H rfl (by rw [H.parts (vs := []) rfl]; exact bs_23_0 w124) (lt_ rfl) ?_
        rw [← n128.at_]
        clear H a
        intro a H
        refine n128.go <| s_move H rfl rfl (lt_ rfl) fun a H => ?_
        obtain ⟨s129, w130, h131, h⟩ := h
        refine s_blt H rfl (H.args (vs := [(Slc.v (Slc.mk (some (blk b126)) 0 0)), h61.v]) rfl) (lt_ rfl) (fun cs => b_app (z := s129) h131) ?_
        clear H a h131
        intro a H
        refine s_move H rfl rfl (lt_ rfl) fun a H => ?_
        obtain ⟨s132, w133, h134, h⟩ := h
        refine s_blt H rfl (H.args (vs := [s129.v, g90.v]) rfl) (lt_ rfl) (fun cs => b_app (z := s132) h134) ?_
        clear H a h134
        intro a H
        refine s_assign H rfl rfl (lt_ rfl) fun a H => c_nil ?_
        exact h111 _ _ _ _ h (H.weaken ⟨rfl, rfl, rfl, rfl, rfl, rfl, rfl, trivial⟩)
       ·replace h := h.2 h122
        refine c_seq fun K139 hK139 => c_reg <| s_bin H rfl rfl rfl r_eql (lt_ rfl) fun a H => s_assign H rfl rfl (lt_ rfl) fun a H => c_nil <| hK139 _ _ <| c_cond H rfl (fun h140 => ?_) (fun h140 => ?_)
        ·replace h := h.1 h140
         refine c_seq fun K141 hK141 => c_reg <| s_move H rfl rfl (lt_ rfl) fun a H => s_move H rfl rfl (lt_ rfl) fun a H => s_call H rfl body_17 (H.args (vs := [(.pointer O46), g90.v]) rfl) (lt_ rfl) h ?_ (fun c w' h H => e_panic (P := PP) (fn := Tryz.f8) H h)
         clear H h a
         rintro _ w142 a ⟨C143, rfl, h⟩ H
         refine s_assign H rfl rfl (lt_ rfl) fun a H => c_nil <| hK141 _ _ <| c_reg <| s_move H rfl rfl (lt_ rfl) fun a H => s_assign H rfl rfl (lt_ rfl) fun a H => c_nil ?_
         exact h111 _ _ _ _ h (H.weaken ⟨rfl, rfl, rfl, rfl, rfl, rfl, rfl, trivial⟩)
        ·replace h := h.2 h140
         refine c_skip ?_
         exact h111 _ _ _ _ h (H.weaken ⟨rfl, rfl, rfl, rfl, rfl, rfl, rfl, trivial⟩)
    ·replace h := h.2 h70
     refine c_exit ?_
     first | (simp only [Exit.then, Exit.inBlock, ↓reduceIte]; fail_if_success simp only [Nat.reduceEqDiff]) | simp only [Exit.then, Exit.inBlock, ↓reduceIte, Nat.reduceEqDiff]
     refine hK58 _ _ <| c_seq fun K153 hK153 => c_reg ?_
     iterate 4 refine s_move H rfl rfl (lt_ rfl) fun a H => ?_
     refine s_call H rfl body_34 (H.args (vs := [(.pointer N35)]) rfl) (lt_ rfl) h ?_ (fun c w' h H => e_panic (P := PP) (fn := Tryz.f8) H h)
     clear H h a
     rintro _ w154 a ⟨P155, rfl, h⟩ H
     refine s_bin H rfl rfl rfl r_eql (lt_ rfl) fun a H => ?_
     iterate 4 refine s_assign H rfl rfl (lt_ rfl) fun a H => ?_
     refine c_nil <| hK153 _ _ <| c_ret ?_
     exact e_ret4 H rfl rfl rfl rfl rfl h

theorem sim_sherdlaw14_Life_head (N1 K2 S3 : Int) (S4 : Slc) (K5 : Int) (U6 : Slc) (N7 : Int) (Y8 : Bool) (L9 : Slc) (N10 K11 D12 S13 A14 : Int) (Y15 : Bool) (L16 : Slc) (A17 : Int) (L18 : Slc) (w : World) (Q : Ending → World → Prop) (h : vc_sherdlaw14_Life_head N1 K2 S3 S4 K5 U6 N7 Y8 L9 N10 K11 D12 S13 A14 Y15 L16 A17 L18 w Q) : Calls PP F_sherdlaw14_Life_head #[(.agg #[(.i N1), (.i K2), (.i S3), S4.v, (.i K5), U6.v, (.i N7), (.bool Y8), L9.v, (.i N10), (.i K11), (.i D12), (.i S13), (.i A14), (.bool Y15), L16.v, (.i A17), L18.v])] w Q := by
 unfold vc_sherdlaw14_Life_head at h
 refine enter (n := 28) Tryz.func9 rfl rfl (Nat.le_of_ble_eq_true rfl) fun a H => c_seq fun K19 hK19 => c_reg ?_
 replace h := h.get
 obtain ⟨b20, w21, n22, h⟩ := h
 refine s_box H rfl rfl (lt_ rfl) ?_
 rw [← n22.at_]
 clear H a
 intro a H
 refine n22.go ?_
 replace h := h.get
 obtain ⟨b23, w24, n25, h⟩ := h
 refine s_alloc H rfl zero_28 (lt_ rfl) ?_
 rw [← n25.at_]
 clear H a
 intro a H
 refine n25.go <| c_nil <| hK19 _ _ <| c_seq fun K26 hK26 => c_reg <| s_build H rfl (by rw [H.parts (vs := []) rfl]; exact bd_28 w24) (lt_ rfl) fun a H => ?_
 replace h := h.get
 obtain ⟨b27, w28, n29, h⟩ := h
 refine s_alloc H rfl zero_28 (lt_ rfl) ?_
 rw [← n29.at_]
 clear H a
 intro a H
 refine n29.go <| s_stoN (l := [(.i 0), (.i 0), (.i 0), (.i 0)]) H rfl rfl rfl rfl agg_28 rfl rfl h ?_
 clear h H
 intro w30 h H
 refine c_nil <| hK26 _ _ <| c_seq fun K31 hK31 => c_reg <| s_fld H rfl rfl fld_32_0 (lt_ rfl) fun a H => ?_
 obtain ⟨l32, hc33, h⟩ := h
 refine s_load (v := (.i l32)) H rfl rfl one_3 hc33 (lt_ rfl) fun a H => s_call H rfl body_10 (H.args (vs := [(.i l32), (.i 9)]) rfl) (lt_ rfl) h ?_ (fun c w' h H => e_panic (P := PP) (fn := Tryz.f9) H h)
 clear H h a
 rintro _ w34 a ⟨m35, rfl, h⟩ H
 refine s_bin H rfl rfl rfl r_add (lt_ rfl) fun a H => s_fld H rfl rfl fld_28_0 (lt_ rfl) fun a H => s_fld H rfl rfl fld_26_0 (lt_ rfl) fun a H => ?_
 obtain ⟨h37, h38, h⟩ := h
 refine s_sto (p := ((blk b27).add 0).add 0) (v := (.i (wr .i64 (m35 + 1)))) H rfl rfl rfl rfl one_3 rfl h37 h38 ?_
 clear H
 intro H
 generalize hww36 : World.setCell w34 (((blk b27).add 0).add 0) (.i (wr .i64 (m35 + 1))) = w36 at h ⊢
 have w36S : SetAt w34 (((blk b27).add 0).add 0) (.i (wr .i64 (m35 + 1))) w36 := ⟨hww36.symm⟩
 clear hww36 h37 h38
 refine c_nil <| hK31 _ _ <| c_seq fun K39 hK39 => c_reg <| s_fld H rfl rfl fld_32_1 (lt_ rfl) fun a H => ?_
 obtain ⟨l40, hc41, h⟩ := h
 refine s_load (v := (.i l40)) H rfl rfl one_3 hc41 (lt_ rfl) fun a H => s_fld H rfl rfl fld_28_0 (lt_ rfl) fun a H => s_fld H rfl rfl fld_26_0 (lt_ rfl) fun a H => ?_
 obtain ⟨l42, hc43, h⟩ := h
 refine s_load (v := (.i l42)) H rfl rfl one_3 hc43 (lt_ rfl) fun a H => s_call H rfl body_10 (H.args (vs := [(.i l40), (.i l42)]) rfl) (lt_ rfl) h ?_ (fun c w' h H => e_panic (P := PP) (fn := Tryz.f9) H h)
 clear H h a
 rintro _ w44 a ⟨m45, rfl, h⟩ H
 refine s_bin H rfl rfl rfl r_add (lt_ rfl) fun a H => s_fld H rfl rfl fld_28_0 (lt_ rfl) fun a H => s_fld H rfl rfl fld_26_1 (lt_ rfl) fun a H => ?_
 obtain ⟨h47, h48, h⟩ := h
 refine s_sto (p := ((blk b27).add 0).add 1) (v := (.i (wr .i64 (m45 + 1)))) H rfl rfl rfl rfl one_3 rfl h47 h48 ?_
 clear H
 intro H
 generalize hww46 : World.setCell w44 (((blk b27).add 0).add 1) (.i (wr .i64 (m45 + 1))) = w46 at h ⊢
 have w46S : SetAt w44 (((blk b27).add 0).add 1) (.i (wr .i64 (m45 + 1))) w46 := ⟨hww46.symm⟩
 clear hww46 h47 h48
 refine c_nil <| hK39 _ _ <| c_seq fun K49 hK49 => c_reg <| s_fld H rfl rfl fld_32_2 (lt_ rfl) fun a H => ?_
 obtain ⟨l50, hc51, h⟩ := h
 refine s_load (v := (.i l50)) H rfl rfl one_3 hc51 (lt_ rfl) fun a H => s_fld H rfl rfl fld_28_0 (lt_ rfl) fun a H => s_fld H rfl rfl fld_26_0 (lt_ rfl) fun a H => ?_
 obtain ⟨l52, hc53, h⟩ := h
 refine s_load (v := (.i l52)) H rfl rfl one_3 hc53 (lt_ rfl) fun a H => s_call H rfl body_10 (H.args (vs := [(.i l50), (.i l52)]) rfl) (lt_ rfl) h ?_ (fun c w' h H => e_panic (P := PP) (fn := Tryz.f9) H h)
 clear H h a
 rintro _ w54 a ⟨m55, rfl, h⟩ H
 refine s_fld H rfl rfl fld_28_1 (lt_ rfl) fun a H => ?_
 obtain ⟨h57, h58, h⟩ := h
 refine s_sto (p := (blk b27).add 3) (v := (.i m55)) H rfl rfl rfl rfl one_3 rfl h57 h58 ?_
 clear H
 intro H
 generalize hww56 : World.setCell w54 ((blk b27).add 3) (.i m55) = w56 at h ⊢
 have w56S : SetAt w54 ((blk b27).add 3) (.i m55) w56 := ⟨hww56.symm⟩
 clear hww56 h57 h58
 refine c_nil <| hK49 _ _ <| c_seq fun K59 hK59 => c_reg ?_
 obtain ⟨N60, hc61, K62, hc63, D64, hc65, S66, hc67, h⟩ := h
 refine s_loadN (l := [(.i N60), (.i K62), (.i D64), (.i S66)]) H rfl rfl agg_28 rfl ⟨hc61, hc63, hc65, hc67, trivial⟩ (lt_ rfl) fun a H => s_stoN (l := [(.i N60), (.i K62), (.i D64), (.i S66)]) H rfl rfl rfl rfl agg_28 rfl rfl h ?_
 clear h H
 intro w68 h H
 refine c_nil <| hK59 _ _ <| c_ret ?_
 obtain ⟨N69, hc70, K71, hc72, D73, hc74, S75, hc76, h⟩ := h
 exact e_ret1 H rfl ⟨_, rfl, run_loadN (l := [(.i N69), (.i K71), (.i D73), (.i S75)]) agg_28 rfl ⟨hc70, hc72, hc74, hc76, trivial⟩⟩ h

theorem sim_sherdlaw14_mod (k1 n2 : Int) (w : World) (Q : Ending → World → Prop) (h : vc_sherdlaw14_mod k1 n2 w Q) : Calls PP F_sherdlaw14_mod #[(.i k1), (.i n2)] w Q := by
 unfold vc_sherdlaw14_mod at h
 refine enter (n := 15) Tryz.func10 rfl rfl (Nat.le_of_ble_eq_true rfl) fun a H => c_seq fun K3 hK3 => c_reg <| s_assign H rfl rfl (lt_ rfl) fun a H => c_nil <| hK3 _ _ <| c_seq fun K4 hK4 => c_reg <| s_move H rfl rfl (lt_ rfl) fun a H => s_move H rfl rfl (lt_ rfl) fun a H => ?_
 obtain ⟨h5, h⟩ := h
 refine s_bin H rfl rfl rfl (r_rem h5) (lt_ rfl) fun a H => s_assign H rfl rfl (lt_ rfl) fun a H => c_nil <| hK4 _ _ <| c_seq fun K6 hK6 => ?_
 obtain ⟨R8, h, h14⟩ := h
 have h11 : ∀ (a : Act) (r7 : Int) (w9 : World), R8 r7 w9 → Has 15 [] a [(5, (.i r7))] → K6 a w9 := by
  clear h
  intro a r7 w9 h H
  replace h := h14 r7 w9 h
  refine hK6 _ _ <| c_seq fun K10 hK10 => c_reg <| s_move H rfl rfl (lt_ rfl) fun a H => s_assign H rfl rfl (lt_ rfl) fun a H => c_nil <| hK10 _ _ <| c_ret ?_
  exact e_ret1 H rfl rfl h
 clear h14
 refine c_seq fun K12 hK12 => c_reg <| s_move H rfl rfl (lt_ rfl) fun a H => s_bin H rfl rfl rfl r_lss (lt_ rfl) fun a H => c_nil <| hK12 _ _ <| c_cond H rfl (fun h13 => ?_) (fun h13 => ?_)
 ·replace h := h.1 h13
  refine c_reg <| s_move H rfl rfl (lt_ rfl) fun a H => s_move H rfl rfl (lt_ rfl) fun a H => s_bin H rfl rfl rfl r_add (lt_ rfl) fun a H => s_assign H rfl rfl (lt_ rfl) fun a H => c_nil ?_
  exact h11 _ _ _ h (H.weaken ⟨rfl, trivial⟩)
 ·replace h := h.2 h13
  refine c_skip ?_
  exact h11 _ _ _ h (H.weaken ⟨rfl, trivial⟩)

theorem sim_disk_Disk_Acts (d1 : Option Addr) (w : World) (Q : Ending → World → Prop) (h : vc_disk_Disk_Acts d1 w Q) : Calls PP F_disk_Disk_Acts #[(.pointer d1)] w Q := by
 unfold vc_disk_Disk_Acts at h
 refine enter (n := 9) Tryz.func11 rfl rfl (Nat.le_of_ble_eq_true rfl) fun a H => c_seq fun K2 hK2 => c_reg <| s_assign H rfl rfl (lt_ rfl) fun a H => c_nil <| hK2 _ _ <| c_seq fun K3 hK3 => c_seq fun K4 hK4 => c_reg <| s_move H rfl rfl (lt_ rfl) fun a H => s_bin H rfl rfl rfl (r_eqP0 ptr_33) (lt_ rfl) fun a H => c_nil <| hK4 _ _ <| c_cond H rfl (fun h5 => ?_) (fun h5 => ?_)
 ·replace h := h.1 h5
  refine c_seq fun K6 hK6 => c_reg <| s_assign H rfl rfl (lt_ rfl) fun a H => c_nil <| hK6 _ _ <| c_ret ?_
  exact e_ret1 H rfl rfl h
 ·replace h := h.2 h5
  refine c_skip <| hK3 _ _ <| c_seq fun K7 hK7 => c_reg <| s_move H rfl rfl (lt_ rfl) fun a H => ?_
  obtain ⟨a8, h11, h⟩ := h
  revert H
  subst h11
  intro H
  refine s_nil H rfl rfl (lt_ rfl) fun a H => s_fld H rfl rfl fld_81_2 (lt_ rfl) fun a H => ?_
  obtain ⟨l9, hc10, h⟩ := h
  refine s_load (v := (.i l9)) H rfl rfl one_3 hc10 (lt_ rfl) fun a H => s_assign H rfl rfl (lt_ rfl) fun a H => c_nil <| hK7 _ _ <| c_ret ?_
  exact e_ret1 H rfl rfl h

theorem sim_flog_Open (d1 : Option Addr) (N2 K3 D4 S5 : Int) (w : World) (Q : Ending → World → Prop) (h : vc_flog_Open d1 N2 K3 D4 S5 w Q) : Calls PP F_flog_Open #[(.pointer d1), (.agg #[(.i N2), (.i K3), (.i D4), (.i S5)])] w Q := by
 unfold vc_flog_Open at h
 refine enter (n := 23) Tryz.func12 rfl rfl (Nat.le_of_ble_eq_true rfl) fun a H => c_seq fun K6 hK6 => c_reg ?_
 replace h := h.get
 obtain ⟨b7, w8, n9, h⟩ := h
 refine s_box H rfl rfl (lt_ rfl) ?_
 rw [← n9.at_]
 clear H a
 intro a H
 refine n9.go ?_
 iterate 3 refine s_assign H rfl rfl (lt_ rfl) fun a H => ?_
 refine c_nil <| hK6 _ _ <| c_seq fun K10 hK10 => c_reg <| s_move H rfl rfl (lt_ rfl) fun a H => s_loadN (l := [(.i N2), (.i K3), (.i D4), (.i S5)]) H rfl rfl agg_28 rfl ⟨(n9.cell (i := 0) rfl), (n9.cell (i := 1) rfl), (n9.cell (i := 2) rfl), (n9.cell (i := 3) rfl), trivial⟩ (lt_ rfl) fun a H => s_call H rfl body_35 (H.args (vs := [(.pointer d1), (.agg #[(.i N2), (.i K3), (.i D4), (.i S5)])]) rfl) (lt_ rfl) h ?_ (fun c w' h H => e_panic (P := PP) (fn := Tryz.f12) H h)
 clear H h a
 rintro _ w11 a ⟨o12, o13, o14, rfl, h⟩ H
 refine s_move H rfl rfl (lt_ rfl) fun a H => ?_
 iterate 3 refine s_ext H rfl rfl rfl (lt_ rfl) fun a H => ?_
 iterate 3 refine s_assign H rfl rfl (lt_ rfl) fun a H => ?_
 refine c_nil <| hK10 _ _ <| c_seq fun K15 hK15 => c_seq fun K16 hK16 => c_reg <| s_move H rfl rfl (lt_ rfl) fun a H => ?_
 obtain ⟨n18, h17, h⟩ := h
 refine s_bin H rfl rfl rfl (r_neN ifc_83 h17) (lt_ rfl) fun a H => c_nil <| hK16 _ _ <| c_cond H rfl (fun h19 => ?_) (fun h19 => ?_)
 ·replace h := h.1 h19
  refine c_seq fun K20 hK20 => c_reg <| s_move H rfl rfl (lt_ rfl) fun a H => s_call H rfl body_36 (H.args (vs := [o14]) rfl) (lt_ rfl) h ?_ (fun c w' h H => e_panic (P := PP) (fn := Tryz.f12) H h)
  clear H h a
  rintro _ w21 a ⟨n22, rfl, h⟩ H
  iterate 3 refine s_assign H rfl rfl (lt_ rfl) fun a H => ?_
  refine c_nil <| hK20 _ _ <| c_ret ?_
  exact e_ret3 H rfl rfl rfl rfl h
 ·replace h := h.2 h19
  refine c_skip <| hK15 _ _ <| c_seq fun K27 hK27 => c_reg <| s_move H rfl rfl (lt_ rfl) fun a H => s_move H rfl rfl (lt_ rfl) fun a H => ?_
  iterate 3 refine s_assign H rfl rfl (lt_ rfl) fun a H => ?_
  refine c_nil <| hK27 _ _ <| c_ret ?_
  exact e_ret3 H rfl rfl rfl rfl h

theorem sim_sherdlaw14_found (N1 K2 S3 : Int) (S4 : Slc) (K5 : Int) (U6 : Slc) (N7 : Int) (Y8 : Bool) (L9 : Slc) (N10 K11 D12 S13 A14 : Int) (Y15 : Bool) (L16 : Slc) (A17 : Int) (L18 : Slc) (d19 : Option Addr) (w : World) (Q : Ending → World → Prop) (h : vc_sherdlaw14_found N1 K2 S3 S4 K5 U6 N7 Y8 L9 N10 K11 D12 S13 A14 Y15 L16 A17 L18 d19 w Q) : Calls PP F_sherdlaw14_found #[(.agg #[(.i N1), (.i K2), (.i S3), S4.v, (.i K5), U6.v, (.i N7), (.bool Y8), L9.v, (.i N10), (.i K11), (.i D12), (.i S13), (.i A14), (.bool Y15), L16.v, (.i A17), L18.v]), (.pointer d19)] w Q := by
 unfold vc_sherdlaw14_found at h
 refine enter (n := 38) Tryz.func13 rfl rfl (Nat.le_of_ble_eq_true rfl) fun a H => c_seq fun K20 hK20 => c_reg ?_
 replace h := h.get
 obtain ⟨b21, w22, n23, h⟩ := h
 refine s_box H rfl rfl (lt_ rfl) ?_
 rw [← n23.at_]
 clear H a
 intro a H
 refine n23.go <| s_assign H rfl rfl (lt_ rfl) fun a H => s_assign H rfl rfl (lt_ rfl) fun a H => c_nil <| hK20 _ _ <| c_seq fun K24 hK24 => c_seq fun K25 hK25 => c_reg <| s_move H rfl rfl (lt_ rfl) fun a H => s_bin H rfl rfl rfl (r_eqP0 ptr_33) (lt_ rfl) fun a H => c_nil <| hK25 _ _ <| c_cond H rfl (fun h26 => ?_) (fun h26 => ?_)
 ·replace h := h.1 h26
  refine c_seq fun K27 hK27 => c_reg <| s_assign H rfl rfl (lt_ rfl) fun a H => s_assign H rfl rfl (lt_ rfl) fun a H => c_nil <| hK27 _ _ <| c_ret ?_
  exact e_ret2 H rfl rfl rfl h
 ·replace h := h.2 h26
  refine c_skip <| hK24 _ _ <| c_seq fun K28 hK28 => c_reg <| s_move H rfl rfl (lt_ rfl) fun a H => ?_
  refine s_loadN (l := [(.i N1), (.i K2), (.i S3), S4.v, (.i K5), U6.v, (.i N7), (.bool Y8), L9.v, (.i N10), (.i K11), (.i D12), (.i S13), (.i A14), (.bool Y15), L16.v, (.i A17), L18.v]) H rfl rfl agg_32 rfl ⟨(n23.cell (i := 0) rfl), (n23.cell (i := 1) rfl), (n23.cell (i := 2) rfl), (n23.cell (i := 3) rfl), (n23.cell (i := 4) rfl), (n23.cell (i := 5) rfl), (n23.cell (i := 6) rfl), (n23.cell (i := 7) rfl), (n23.cell (i := 8) rfl), (n23.cell (i := 9) rfl), (n23.cell (i := 10) rfl), (n23.cell (i := 11) rfl), (n23.cell (i := 12) rfl), (n23.cell (i := 13) rfl), (n23.cell (i := 14) rfl), (n23.cell (i := 15) rfl), (n23.cell (i := 16) rfl), (n23.cell (i := 17) rfl), trivial⟩ (lt_ rfl) fun a H => ?_
  refine s_call H rfl body_9 (H.args (vs := [(.agg #[(.i N1), (.i K2), (.i S3), S4.v, (.i K5), U6.v, (.i N7), (.bool Y8), L9.v, (.i N10), (.i K11), (.i D12), (.i S13), (.i A14), (.bool Y15), L16.v, (.i A17), L18.v])]) rfl) (lt_ rfl) h ?_ (fun c w' h H => e_panic (P := PP) (fn := Tryz.f13) H h)
  clear H h a
  rintro _ w29 a ⟨N30, K31, D32, S33, rfl, h⟩ H
  refine s_call H rfl body_12 (H.args (vs := [(.pointer d19), (.agg #[(.i N30), (.i K31), (.i D32), (.i S33)])]) rfl) (lt_ rfl) h ?_ (fun c w' h H => e_panic (P := PP) (fn := Tryz.f13) H h)
  clear H h a
  rintro _ w34 a ⟨O35, O36, O37, rfl, h⟩ H
  refine s_move H rfl rfl (lt_ rfl) fun a H => ?_
  iterate 3 refine s_ext H rfl rfl rfl (lt_ rfl) fun a H => ?_
  iterate 3 refine s_assign H rfl rfl (lt_ rfl) fun a H => ?_
  refine c_nil <| hK28 _ _ <| c_seq fun K38 hK38 => c_reg <| s_move H rfl rfl (lt_ rfl) fun a H => s_move H rfl rfl (lt_ rfl) fun a H => s_bin H rfl rfl rfl r_eql (lt_ rfl) fun a H => s_move H rfl rfl (lt_ rfl) fun a H => g_join (n := 38) [(25, (.bool ((decide (O37 = 0)) && O35.isSome))), (1, (.pointer d19)), (6, (.pointer O35)), (7, O36.v), (19, O36.v)] (.succ (.succ (.succ (.zero _)))) ?_ ?_
  ·intro h40
   try clear h
   rcases Bool.eq_false_or_eq_true (decide (O37 = 0)) with h39 | h39
   ·replace H := H.ch (t := 22) (b := true) rfl h39
    refine s_move H (wantG H rfl rfl) rfl (lt_ rfl) fun a H => s_bin H (wantG H rfl rfl) rfl rfl (r_neP0 ptr_34) (lt_ rfl) fun a H => s_pickT H rfl rfl rfl (lt_ rfl) fun a H => ?_
    exact h40 _ (H.weaken ⟨by rw [h39]; rfl, rfl, rfl, rfl, rfl, trivial⟩)
   ·replace H := H.ch (t := 22) (b := false) rfl h39
    refine s_skip H (wantN H rfl rfl rfl) rfl (lt_ rfl) fun a H => s_skip H (wantN H rfl rfl rfl) rfl (lt_ rfl) fun a H => s_pickF H rfl rfl rfl (lt_ rfl) fun a H => ?_
    exact h40 _ (H.weaken ⟨by rw [h39]; rfl, rfl, rfl, rfl, rfl, trivial⟩)
  ·clear H a
   intro a H
   refine s_move H rfl rfl (lt_ rfl) fun a H => ?_
   obtain ⟨R43, h, h64⟩ := h
   refine g_joinW (n := 38) R43 (fun x44 => [(32, (.bool x44)), (1, (.pointer d19)), (19, O36.v)]) (.succ (.succ (.succ (.succ (.succ (.succ (.zero _))))))) ?_ ?_
   ·intro h42
    clear h64
    rcases Bool.eq_false_or_eq_true ((decide (O37 = 0)) && O35.isSome) with h41 | h41
    ·replace H := H.ch (t := 26) (b := true) rfl h41
     replace h := h.1 h41
     refine s_move H (wantG H rfl rfl) rfl (lt_ rfl) fun a H => s_call H (wantG H rfl rfl) body_18 (H.args (vs := [(.pointer O35)]) rfl) (lt_ rfl) h ?_ (fun c w' h H => e_panic (P := PP) (fn := Tryz.f13) H h)
     clear H h a
     rintro _ w46 a ⟨C47, rfl, h⟩ H
     refine s_move H (wantG H rfl rfl) rfl (lt_ rfl) fun a H => s_blt H (wantG H rfl rfl) (H.args (vs := [O36.v]) rfl) (lt_ rfl) (fun cs => b_lenS (z := O36) sl_23) fun a H => s_bin H (wantG H rfl rfl) rfl rfl r_eql (lt_ rfl) fun a H => s_pickT H rfl rfl rfl (lt_ rfl) fun a H => ?_
     exact h42 _ _ _ h (H.weaken ⟨rfl, rfl, rfl, trivial⟩)
    ·replace H := H.ch (t := 26) (b := false) rfl h41
     replace h := h.2 h41
     iterate 5 refine s_skip H (wantN H rfl rfl rfl) rfl (lt_ rfl) fun a H => ?_
     refine s_pickF H rfl rfl rfl (lt_ rfl) fun a H => ?_
     exact h42 _ _ _ h (H.weaken ⟨rfl, rfl, rfl, trivial⟩)
   ·clear H a h
    intro a x44 w45 h H
    replace h := h64 x44 w45 h
    clear h64
    refine s_move H rfl rfl (lt_ rfl) fun a H => ?_
    obtain ⟨R54, h, h63⟩ := h
    refine g_joinW (n := 38) R54 (fun x55 => [(37, (.bool x55)), (19, O36.v)]) (.succ (.succ (.succ (.succ (.zero _))))) ?_ ?_
    ·intro h53
     clear h63
     rcases Bool.eq_false_or_eq_true x44 with h52 | h52
     ·replace H := H.ch (t := 33) (b := true) rfl h52
      replace h := h.1 h52
      refine s_move H (wantG H rfl rfl) rfl (lt_ rfl) fun a H => s_call H (wantG H rfl rfl) body_34 (H.args (vs := [(.pointer d19)]) rfl) (lt_ rfl) h ?_ (fun c w' h H => e_panic (P := PP) (fn := Tryz.f13) H h)
      clear H h a
      rintro _ w57 a ⟨P58, rfl, h⟩ H
      refine s_bin H (wantG H rfl rfl) rfl rfl r_eql (lt_ rfl) fun a H => s_pickT H rfl rfl rfl (lt_ rfl) fun a H => ?_
      exact h53 _ _ _ h (H.weaken ⟨rfl, rfl, trivial⟩)
     ·replace H := H.ch (t := 33) (b := false) rfl h52
      replace h := h.2 h52
      iterate 3 refine s_skip H (wantN H rfl rfl rfl) rfl (lt_ rfl) fun a H => ?_
      refine s_pickF H rfl rfl rfl (lt_ rfl) fun a H => ?_
      exact h53 _ _ _ h (H.weaken ⟨rfl, rfl, trivial⟩)
    ·clear H a h
     intro a x55 w56 h H
     replace h := h63 x55 w56 h
     clear h63
     refine s_assign H rfl rfl (lt_ rfl) fun a H => s_assign H rfl rfl (lt_ rfl) fun a H => c_nil <| hK38 _ _ <| c_ret ?_
     exact e_ret2 H rfl rfl rfl h

theorem sim_sherdlaw14_updates (a1 b2 : Slc) (w : World) (Q : Ending → World → Prop) (h : vc_sherdlaw14_updates a1 b2 w Q) : Calls PP F_sherdlaw14_updates #[a1.v, b2.v] w Q := by
 unfold vc_sherdlaw14_updates at h
 refine enter (n := 76) Tryz.func14 rfl rfl (Nat.le_of_ble_eq_true rfl) fun a H => c_seq fun K3 hK3 => c_reg <| s_assign H rfl rfl (lt_ rfl) fun a H => c_nil <| hK3 _ _ <| c_seq fun K4 hK4 => c_seq fun K5 hK5 => c_reg <| s_move H rfl rfl (lt_ rfl) fun a H => s_blt H rfl (H.args (vs := [a1.v]) rfl) (lt_ rfl) (fun cs => b_lenS (z := a1) sl_23) fun a H => s_move H rfl rfl (lt_ rfl) fun a H => s_blt H rfl (H.args (vs := [b2.v]) rfl) (lt_ rfl) (fun cs => b_lenS (z := b2) sl_23) fun a H => ?_
 refine s_bin H rfl rfl rfl r_neq (lt_ rfl) fun a H => c_nil <| hK5 _ _ <| c_cond H rfl (fun h6 => ?_) (fun h6 => ?_)
 ·replace h := h.1 h6
  refine c_seq fun K7 hK7 => c_reg <| s_assign H rfl rfl (lt_ rfl) fun a H => c_nil <| hK7 _ _ <| c_ret ?_
  exact e_ret1 H rfl rfl h
 ·replace h := h.2 h6
  refine c_skip <| hK4 _ _ <| c_seq fun K8 hK8 => c_seq fun K9 hK9 => c_reg <| s_assign H rfl rfl (lt_ rfl) fun a H => c_nil <| hK9 _ _ <| c_block ?_
  obtain ⟨I12, m13, h128, h129⟩ := h
  refine c_loop (σ := Int) (fun z w => I12 z w) (fun z w => m13 z w) (fun z => [(0, a1.v), (1, b2.v), (5, (.i z))]) 0 h128 (H.weaken ⟨rfl, rfl, rfl, trivial⟩) ?_
  clear H h128
  rintro i10 a w11 h H
  replace h := h129 i10 w11 h
  clear h129
  replace H : Has 76 [] a [(0, a1.v), (1, b2.v), (5, (.i i10))] := H
  refine c_seq fun K14 hK14 => c_seq fun K15 hK15 => c_reg <| s_move H rfl rfl (lt_ rfl) fun a H => s_move H rfl rfl (lt_ rfl) fun a H => s_blt H rfl (H.args (vs := [a1.v]) rfl) (lt_ rfl) (fun cs => b_lenS (z := a1) sl_23) fun a H => s_bin H rfl rfl rfl r_lss (lt_ rfl) fun a H => c_nil <| hK15 _ _ <| c_cond H rfl (fun h16 => ?_) (fun h16 => ?_)
  ·replace h := h.1 h16
   refine c_skip <| hK14 _ _ <| c_seq fun K17 hK17 => c_block <| c_seq fun K18 hK18 => c_reg <| s_move H rfl rfl (lt_ rfl) fun a H => s_move H rfl rfl (lt_ rfl) fun a H => ?_
   obtain ⟨a19, h20, h21, h22, h⟩ := h
   refine s_idxS (s := a1) H rfl rfl rfl slc_23 h20 h21 h22 (lt_ rfl) fun a H => ?_
   obtain ⟨K23, hc24, K25, hc26, C27, hc28, C29, hc30, F31, hc32, H33, hc34, D35, hc36, h⟩ := h
   refine s_loadN (l := [(.i K23), (.string K25), (.i C27), (.i C29), (.bool F31), (.bool H33), D35.v]) H rfl rfl agg_92 rfl ⟨hc24, hc26, hc28, hc30, hc32, hc34, hc36, trivial⟩ (lt_ rfl) fun a H => ?_
   replace h := h.get
   obtain ⟨b37, w38, n39, h⟩ := h
   refine s_alloc H rfl zero_92 (lt_ rfl) ?_
   rw [← n39.at_]
   clear H a
   intro a H
   refine n39.go <| s_stoN (l := [(.i K23), (.string K25), (.i C27), (.i C29), (.bool F31), (.bool H33), D35.v]) H rfl rfl rfl rfl agg_92 rfl rfl h ?_
   clear h H
   intro w40 h H
   refine c_nil <| hK18 _ _ <| c_seq fun K41 hK41 => c_reg <| s_move H rfl rfl (lt_ rfl) fun a H => s_move H rfl rfl (lt_ rfl) fun a H => ?_
   obtain ⟨a42, h43, h44, h45, h⟩ := h
   refine s_idxS (s := b2) H rfl rfl rfl slc_23 h43 h44 h45 (lt_ rfl) fun a H => ?_
   obtain ⟨K46, hc47, K48, hc49, C50, hc51, C52, hc53, F54, hc55, H56, hc57, D58, hc59, h⟩ := h
   refine s_loadN (l := [(.i K46), (.string K48), (.i C50), (.i C52), (.bool F54), (.bool H56), D58.v]) H rfl rfl agg_92 rfl ⟨hc47, hc49, hc51, hc53, hc55, hc57, hc59, trivial⟩ (lt_ rfl) fun a H => ?_
   replace h := h.get
   obtain ⟨b60, w61, n62, h⟩ := h
   refine s_alloc H rfl zero_92 (lt_ rfl) ?_
   rw [← n62.at_]
   clear H a
   intro a H
   refine n62.go <| s_stoN (l := [(.i K46), (.string K48), (.i C50), (.i C52), (.bool F54), (.bool H56), D58.v]) H rfl rfl rfl rfl agg_92 rfl rfl h ?_
   clear h H
   intro w63 h H
   refine c_nil <| hK41 _ _ <| c_seq fun K64 hK64 => c_reg <| s_fld H rfl rfl fld_92_0 (lt_ rfl) fun a H => ?_
   obtain ⟨l65, hc66, h⟩ := h
   refine s_load (v := (.i l65)) H rfl rfl one_3 hc66 (lt_ rfl) fun a H => s_fld H rfl rfl fld_92_0 (lt_ rfl) fun a H => ?_
   obtain ⟨l67, hc68, h⟩ := h
   refine s_load (v := (.i l67)) H rfl rfl one_3 hc68 (lt_ rfl) fun a H => s_bin H rfl rfl rfl r_neq (lt_ rfl) fun a H => s_move H rfl rfl (lt_ rfl) fun a H => ?_
   obtain ⟨x75, h76, h77, h⟩ := h
   refine g_join (n := 76) [(38, (.bool x75)), (0, a1.v), (1, b2.v), (5, (.i i10)), (6, (.pointer (some (blk b37)))), (7, (.pointer (some (blk b60))))] (.succ (.succ (.succ (.succ (.succ (.succ (.zero _))))))) ?_ ?_
   ·intro h70
    try clear h
    rcases Bool.eq_false_or_eq_true (decide (l65 ≠ l67)) with h69 | h69
    ·replace H := H.ch (t := 32) (b := true) rfl h69
     iterate 5 refine s_skip H (wantN H rfl rfl rfl) rfl (lt_ rfl) fun a H => ?_
     refine s_pickT H rfl rfl rfl (lt_ rfl) fun a H => ?_
     replace h := h77 h69
     subst h
     exact h70 _ (H.weaken ⟨rfl, rfl, rfl, rfl, rfl, rfl, trivial⟩)
    ·replace H := H.ch (t := 32) (b := false) rfl h69
     replace h := h76 h69
     refine s_fld H (wantG H rfl rfl) rfl fld_92_1 (lt_ rfl) fun a H => ?_
     obtain ⟨l71, hc72, h⟩ := h
     refine s_load (v := (.string l71)) H (wantG H rfl rfl) rfl one_9 hc72 (lt_ rfl) fun a H => s_fld H (wantG H rfl rfl) rfl fld_92_1 (lt_ rfl) fun a H => ?_
     obtain ⟨l73, hc74, h⟩ := h
     refine s_load (v := (.string l73)) H (wantG H rfl rfl) rfl one_9 hc74 (lt_ rfl) fun a H => s_bin H (wantG H rfl rfl) rfl rfl r_neqS (lt_ rfl) fun a H => s_pickF H rfl rfl rfl (lt_ rfl) fun a H => ?_
     subst h
     exact h70 _ (H.weaken ⟨rfl, rfl, rfl, rfl, rfl, rfl, trivial⟩)
   ·clear H a
    clear h76 h77
    intro a H
    refine s_move H rfl rfl (lt_ rfl) fun a H => ?_
    obtain ⟨x88, h89, h90, h⟩ := h
    refine g_join (n := 76) [(47, (.bool x88)), (0, a1.v), (1, b2.v), (5, (.i i10)), (6, (.pointer (some (blk b37)))), (7, (.pointer (some (blk b60))))] (.succ (.succ (.succ (.succ (.succ (.succ (.succ (.succ (.zero _))))))))) ?_ ?_
    ·intro h79
     try clear h
     rcases Bool.eq_false_or_eq_true x75 with h78 | h78
     ·replace H := H.ch (t := 39) (b := true) rfl h78
      iterate 7 refine s_skip H (wantN H rfl rfl rfl) rfl (lt_ rfl) fun a H => ?_
      refine s_pickT H rfl rfl rfl (lt_ rfl) fun a H => ?_
      replace h := h90 h78
      subst h
      exact h79 _ (H.weaken ⟨rfl, rfl, rfl, rfl, rfl, rfl, trivial⟩)
     ·replace H := H.ch (t := 39) (b := false) rfl h78
      replace h := h89 h78
      refine s_fld H (wantG H rfl rfl) rfl fld_92_2 (lt_ rfl) fun a H => s_fld H (wantG H rfl rfl) rfl fld_90_0 (lt_ rfl) fun a H => ?_
      obtain ⟨C80, hc81, C82, hc83, h⟩ := h
      refine s_loadN (l := [(.i C80), (.i C82)]) H (wantG H rfl rfl) rfl agg_88 rfl ⟨hc81, hc83, trivial⟩ (lt_ rfl) fun a H => s_fld H (wantG H rfl rfl) rfl fld_92_2 (lt_ rfl) fun a H => s_fld H (wantG H rfl rfl) rfl fld_90_0 (lt_ rfl) fun a H => ?_
      obtain ⟨C84, hc85, C86, hc87, h⟩ := h
      refine s_loadN (l := [(.i C84), (.i C86)]) H (wantG H rfl rfl) rfl agg_88 rfl ⟨hc85, hc87, trivial⟩ (lt_ rfl) fun a H => s_bin H (wantG H rfl rfl) rfl rfl (r_nest eqg_88 (eqst_88 0) rfl) (lt_ rfl) fun a H => s_pickF H rfl rfl rfl (lt_ rfl) fun a H => ?_
      subst h
      exact h79 _ (H.weaken ⟨rfl, rfl, rfl, rfl, rfl, rfl, trivial⟩)
    ·clear H a
     clear h89 h90
     intro a H
     refine s_move H rfl rfl (lt_ rfl) fun a H => ?_
     obtain ⟨x97, h98, h99, h⟩ := h
     refine g_join (n := 76) [(56, (.bool x97)), (0, a1.v), (1, b2.v), (5, (.i i10)), (6, (.pointer (some (blk b37)))), (7, (.pointer (some (blk b60))))] (.succ (.succ (.succ (.succ (.succ (.succ (.succ (.succ (.zero _))))))))) ?_ ?_
     ·intro h92
      try clear h
      rcases Bool.eq_false_or_eq_true x88 with h91 | h91
      ·replace H := H.ch (t := 48) (b := true) rfl h91
       iterate 7 refine s_skip H (wantN H rfl rfl rfl) rfl (lt_ rfl) fun a H => ?_
       refine s_pickT H rfl rfl rfl (lt_ rfl) fun a H => ?_
       replace h := h99 h91
       subst h
       exact h92 _ (H.weaken ⟨rfl, rfl, rfl, rfl, rfl, rfl, trivial⟩)
      ·replace H := H.ch (t := 48) (b := false) rfl h91
       replace h := h98 h91
       refine s_fld H (wantG H rfl rfl) rfl fld_92_2 (lt_ rfl) fun a H => s_fld H (wantG H rfl rfl) rfl fld_90_1 (lt_ rfl) fun a H => ?_
       obtain ⟨l93, hc94, h⟩ := h
       refine s_load (v := (.bool l93)) H (wantG H rfl rfl) rfl one_4 hc94 (lt_ rfl) fun a H => s_fld H (wantG H rfl rfl) rfl fld_92_2 (lt_ rfl) fun a H => s_fld H (wantG H rfl rfl) rfl fld_90_1 (lt_ rfl) fun a H => ?_
       obtain ⟨l95, hc96, h⟩ := h
       refine s_load (v := (.bool l95)) H (wantG H rfl rfl) rfl one_4 hc96 (lt_ rfl) fun a H => s_bin H (wantG H rfl rfl) rfl rfl (r_neB bool_4) (lt_ rfl) fun a H => s_pickF H rfl rfl rfl (lt_ rfl) fun a H => ?_
       subst h
       exact h92 _ (H.weaken ⟨rfl, rfl, rfl, rfl, rfl, rfl, trivial⟩)
     ·clear H a
      clear h98 h99
      intro a H
      refine s_move H rfl rfl (lt_ rfl) fun a H => ?_
      obtain ⟨x106, h107, h108, h⟩ := h
      refine g_join (n := 76) [(65, (.bool x106)), (0, a1.v), (1, b2.v), (5, (.i i10)), (6, (.pointer (some (blk b37)))), (7, (.pointer (some (blk b60))))] (.succ (.succ (.succ (.succ (.succ (.succ (.succ (.succ (.zero _))))))))) ?_ ?_
      ·intro h101
       try clear h
       rcases Bool.eq_false_or_eq_true x97 with h100 | h100
       ·replace H := H.ch (t := 57) (b := true) rfl h100
        iterate 7 refine s_skip H (wantN H rfl rfl rfl) rfl (lt_ rfl) fun a H => ?_
        refine s_pickT H rfl rfl rfl (lt_ rfl) fun a H => ?_
        replace h := h108 h100
        subst h
        exact h101 _ (H.weaken ⟨rfl, rfl, rfl, rfl, rfl, rfl, trivial⟩)
       ·replace H := H.ch (t := 57) (b := false) rfl h100
        replace h := h107 h100
        refine s_fld H (wantG H rfl rfl) rfl fld_92_2 (lt_ rfl) fun a H => s_fld H (wantG H rfl rfl) rfl fld_90_2 (lt_ rfl) fun a H => ?_
        obtain ⟨l102, hc103, h⟩ := h
        refine s_load (v := (.bool l102)) H (wantG H rfl rfl) rfl one_4 hc103 (lt_ rfl) fun a H => s_fld H (wantG H rfl rfl) rfl fld_92_2 (lt_ rfl) fun a H => s_fld H (wantG H rfl rfl) rfl fld_90_2 (lt_ rfl) fun a H => ?_
        obtain ⟨l104, hc105, h⟩ := h
        refine s_load (v := (.bool l104)) H (wantG H rfl rfl) rfl one_4 hc105 (lt_ rfl) fun a H => s_bin H (wantG H rfl rfl) rfl rfl (r_neB bool_4) (lt_ rfl) fun a H => s_pickF H rfl rfl rfl (lt_ rfl) fun a H => ?_
        subst h
        exact h101 _ (H.weaken ⟨rfl, rfl, rfl, rfl, rfl, rfl, trivial⟩)
      ·clear H a
       clear h107 h108
       intro a H
       refine s_move H rfl rfl (lt_ rfl) fun a H => ?_
       obtain ⟨R111, h, h126⟩ := h
       refine g_joinW (n := 76) R111 (fun x112 => [(75, (.bool x112)), (0, a1.v), (1, b2.v), (5, (.i i10))]) (.succ (.succ (.succ (.succ (.succ (.succ (.succ (.succ (.succ (.zero _)))))))))) ?_ ?_
       ·intro h110
        clear h126
        rcases Bool.eq_false_or_eq_true x106 with h109 | h109
        ·replace H := H.ch (t := 66) (b := true) rfl h109
         replace h := h.2 h109
         iterate 8 refine s_skip H (wantN H rfl rfl rfl) rfl (lt_ rfl) fun a H => ?_
         refine s_pickT H rfl rfl rfl (lt_ rfl) fun a H => ?_
         exact h110 _ _ _ h (H.weaken ⟨rfl, rfl, rfl, rfl, trivial⟩)
        ·replace H := H.ch (t := 66) (b := false) rfl h109
         replace h := h.1 h109
         refine s_fld H (wantG H rfl rfl) rfl fld_92_2 (lt_ rfl) fun a H => s_fld H (wantG H rfl rfl) rfl fld_90_3 (lt_ rfl) fun a H => ?_
         obtain ⟨l114, hc115, h⟩ := h
         refine s_load (v := l114.v) H (wantG H rfl rfl) rfl one_51 hc115 (lt_ rfl) fun a H => s_fld H (wantG H rfl rfl) rfl fld_92_2 (lt_ rfl) fun a H => s_fld H (wantG H rfl rfl) rfl fld_90_3 (lt_ rfl) fun a H => ?_
         obtain ⟨l116, hc117, h⟩ := h
         refine s_load (v := l116.v) H (wantG H rfl rfl) rfl one_51 hc117 (lt_ rfl) fun a H => s_call H (wantG H rfl rfl) body_23 (H.args (vs := [l114.v, l116.v]) rfl) (lt_ rfl) h ?_ (fun c w' h H => e_panic (P := PP) (fn := Tryz.f14) H h)
         clear H h a
         rintro _ w118 a ⟨s119, rfl, h⟩ H
         refine s_un H (wantG H rfl rfl) rfl r_not (lt_ rfl) fun a H => s_pickF H rfl rfl rfl (lt_ rfl) fun a H => ?_
         exact h110 _ _ _ h (H.weaken ⟨rfl, rfl, rfl, rfl, trivial⟩)
       ·clear H a h
        intro a x112 w113 h H
        replace h := h126 x112 w113 h
        clear h126
        refine c_nil <| hK64 _ _ <| c_cond H rfl (fun h124 => ?_) (fun h124 => ?_)
        ·replace h := h.1 h124
         refine c_seq fun K125 hK125 => c_reg <| s_assign H rfl rfl (lt_ rfl) fun a H => c_nil <| hK125 _ _ <| c_ret ?_
         exact e_ret1 H rfl rfl h
        ·replace h := h.2 h124
         refine c_skip <| hK17 _ _ <| c_reg <| s_move H rfl rfl (lt_ rfl) fun a H => s_bin H rfl rfl rfl r_add (lt_ rfl) fun a H => s_assign H rfl rfl (lt_ rfl) fun a H => c_nil <| Exists.intro (wr .i64 (i10 + 1)) ⟨h.1, h.2, H.weaken ⟨rfl, rfl, rfl, trivial⟩⟩
  ·replace h := h.2 h16
   refine c_exit ?_
   first | (simp only [Exit.then, Exit.inBlock, ↓reduceIte]; fail_if_success simp only [Nat.reduceEqDiff]) | simp only [Exit.then, Exit.inBlock, ↓reduceIte, Nat.reduceEqDiff]
   refine hK8 _ _ <| c_seq fun K127 hK127 => c_reg <| s_assign H rfl rfl (lt_ rfl) fun a H => c_nil <| hK127 _ _ <| c_ret ?_
   exact e_ret1 H rfl rfl h

theorem sim_sherdlaw14_good (N1 K2 D3 S4 : Int) (u5 : Slc) (w : World) (Q : Ending → World → Prop) (h : vc_sherdlaw14_good N1 K2 D3 S4 u5 w Q) : Calls PP F_sherdlaw14_good #[(.agg #[(.i N1), (.i K2), (.i D3), (.i S4)]), u5.v] w Q := by
 unfold vc_sherdlaw14_good at h
 refine enter (n := 93) Tryz.func15 rfl rfl (Nat.le_of_ble_eq_true rfl) fun a H => c_seq fun K6 hK6 => c_reg ?_
 replace h := h.get
 obtain ⟨b7, w8, n9, h⟩ := h
 refine s_box H rfl rfl (lt_ rfl) ?_
 rw [← n9.at_]
 clear H a
 intro a H
 refine n9.go <| s_assign H rfl rfl (lt_ rfl) fun a H => c_nil <| hK6 _ _ <| c_seq fun K10 hK10 => c_reg <| s_assign H rfl rfl (lt_ rfl) fun a H => c_nil <| hK10 _ _ <| c_seq fun K11 hK11 => c_seq fun K12 hK12 => c_reg <| s_assign H rfl rfl (lt_ rfl) fun a H => c_nil <| hK12 _ _ <| c_block ?_
 obtain ⟨I16, m17, h155, h156⟩ := h
 refine c_loop (σ := Slc × Int) (fun z w => I16 z.1 z.2 w) (fun z w => m17 z.1 z.2 w) (fun z => [(1, u5.v), (5, z.1.v), (6, (.i z.2))]) (Slc.nil, 0) h155 (H.weaken ⟨rfl, rfl, rfl, trivial⟩) ?_
 clear H h155
 rintro ⟨o13, i14⟩ a w15 h H
 replace h := h156 o13 i14 w15 h
 clear h156
 replace H : Has 93 [] a [(1, u5.v), (5, o13.v), (6, (.i i14))] := H
 refine c_seq fun K18 hK18 => c_seq fun K19 hK19 => c_reg <| s_move H rfl rfl (lt_ rfl) fun a H => s_move H rfl rfl (lt_ rfl) fun a H => s_blt H rfl (H.args (vs := [u5.v]) rfl) (lt_ rfl) (fun cs => b_lenS (z := u5) sl_23) fun a H => s_bin H rfl rfl rfl r_lss (lt_ rfl) fun a H => c_nil <| hK19 _ _ <| c_cond H rfl (fun h20 => ?_) (fun h20 => ?_)
 ·replace h := h.1 h20
  refine c_skip <| hK18 _ _ <| c_seq fun K21 hK21 => ?_
  obtain ⟨R23, h, h153⟩ := h
  have h25 : ∀ (a : Act) (o22 : Slc) (w24 : World), R23 o22 w24 → Has 93 [] a [(1, u5.v), (5, o22.v), (6, (.i i14))] → K21 a w24 := by
   clear h
   intro a o22 w24 h H
   replace h := h153 o22 w24 h
   refine hK21 _ _ <| c_reg <| s_move H rfl rfl (lt_ rfl) fun a H => s_bin H rfl rfl rfl r_add (lt_ rfl) fun a H => s_assign H rfl rfl (lt_ rfl) fun a H => c_nil <| Exists.intro (o22, wr .i64 (i14 + 1)) ⟨h.1, h.2, H.weaken ⟨rfl, rfl, rfl, trivial⟩⟩
  clear h153
  refine c_block <| c_seq fun K26 hK26 => c_reg <| s_move H rfl rfl (lt_ rfl) fun a H => s_move H rfl rfl (lt_ rfl) fun a H => ?_
  obtain ⟨a27, h28, h29, h30, h⟩ := h
  refine s_idxS (s := u5) H rfl rfl rfl slc_23 h28 h29 h30 (lt_ rfl) fun a H => ?_
  obtain ⟨K31, hc32, K33, hc34, C35, hc36, C37, hc38, F39, hc40, H41, hc42, D43, hc44, h⟩ := h
  refine s_loadN (l := [(.i K31), (.string K33), (.i C35), (.i C37), (.bool F39), (.bool H41), D43.v]) H rfl rfl agg_92 rfl ⟨hc32, hc34, hc36, hc38, hc40, hc42, hc44, trivial⟩ (lt_ rfl) fun a H => ?_
  replace h := h.get
  obtain ⟨b45, w46, n47, h⟩ := h
  refine s_alloc H rfl zero_92 (lt_ rfl) ?_
  rw [← n47.at_]
  clear H a
  intro a H
  refine n47.go <| s_stoN (l := [(.i K31), (.string K33), (.i C35), (.i C37), (.bool F39), (.bool H41), D43.v]) H rfl rfl rfl rfl agg_92 rfl rfl h ?_
  clear h H
  intro w48 h H
  refine c_nil <| hK26 _ _ <| c_seq fun K49 hK49 => c_seq fun K50 hK50 => c_reg <| s_fld H rfl rfl fld_92_1 (lt_ rfl) fun a H => ?_
  obtain ⟨l51, hc52, h⟩ := h
  refine s_load (v := (.string l51)) H rfl rfl one_9 hc52 (lt_ rfl) fun a H => s_blt H rfl (H.args (vs := [(.string l51)]) rfl) (lt_ rfl) (fun cs => b_lenT str_9) fun a H => s_bin H rfl rfl rfl r_lss (lt_ rfl) fun a H => s_move H rfl rfl (lt_ rfl) fun a H => ?_
  obtain ⟨x57, h58, h59, h⟩ := h
  refine g_join (n := 93) [(27, (.bool x57)), (1, u5.v), (5, o13.v), (6, (.i i14)), (7, (.pointer (some (blk b45))))] (.succ (.succ (.succ (.succ (.succ (.zero _)))))) ?_ ?_
  ·intro h54
   try clear h
   rcases Bool.eq_false_or_eq_true (decide ((l51.size : Int) < 1)) with h53 | h53
   ·replace H := H.ch (t := 22) (b := true) rfl h53
    iterate 4 refine s_skip H (wantN H rfl rfl rfl) rfl (lt_ rfl) fun a H => ?_
    refine s_pickT H rfl rfl rfl (lt_ rfl) fun a H => ?_
    replace h := h59 h53
    subst h
    exact h54 _ (H.weaken ⟨rfl, rfl, rfl, rfl, rfl, trivial⟩)
   ·replace H := H.ch (t := 22) (b := false) rfl h53
    replace h := h58 h53
    refine s_fld H (wantG H rfl rfl) rfl fld_92_1 (lt_ rfl) fun a H => ?_
    obtain ⟨l55, hc56, h⟩ := h
    refine s_load (v := (.string l55)) H (wantG H rfl rfl) rfl one_9 hc56 (lt_ rfl) fun a H => s_blt H (wantG H rfl rfl) (H.args (vs := [(.string l55)]) rfl) (lt_ rfl) (fun cs => b_lenT str_9) fun a H => s_bin H (wantG H rfl rfl) rfl rfl r_gtr (lt_ rfl) fun a H => s_pickF H rfl rfl rfl (lt_ rfl) fun a H => ?_
    subst h
    exact h54 _ (H.weaken ⟨rfl, rfl, rfl, rfl, rfl, trivial⟩)
  ·clear H a
   clear h58 h59
   intro a H
   refine s_move H rfl rfl (lt_ rfl) fun a H => ?_
   obtain ⟨x64, h65, h66, h⟩ := h
   refine g_join (n := 93) [(34, (.bool x64)), (1, u5.v), (5, o13.v), (6, (.i i14)), (7, (.pointer (some (blk b45))))] (.succ (.succ (.succ (.succ (.succ (.succ (.zero _))))))) ?_ ?_
   ·intro h61
    try clear h
    rcases Bool.eq_false_or_eq_true x57 with h60 | h60
    ·replace H := H.ch (t := 28) (b := true) rfl h60
     iterate 5 refine s_skip H (wantN H rfl rfl rfl) rfl (lt_ rfl) fun a H => ?_
     refine s_pickT H rfl rfl rfl (lt_ rfl) fun a H => ?_
     replace h := h66 h60
     subst h
     exact h61 _ (H.weaken ⟨rfl, rfl, rfl, rfl, rfl, trivial⟩)
    ·replace H := H.ch (t := 28) (b := false) rfl h60
     replace h := h65 h60
     refine s_fld H (wantG H rfl rfl) rfl fld_92_2 (lt_ rfl) fun a H => s_fld H (wantG H rfl rfl) rfl fld_90_0 (lt_ rfl) fun a H => s_fld H (wantG H rfl rfl) rfl fld_88_0 (lt_ rfl) fun a H => ?_
     obtain ⟨l62, hc63, h⟩ := h
     refine s_load (v := (.i l62)) H (wantG H rfl rfl) rfl one_2 hc63 (lt_ rfl) fun a H => s_bin H (wantG H rfl rfl) rfl rfl r_lss (lt_ rfl) fun a H => s_pickF H rfl rfl rfl (lt_ rfl) fun a H => ?_
     subst h
     exact h61 _ (H.weaken ⟨rfl, rfl, rfl, rfl, rfl, trivial⟩)
   ·clear H a
    clear h65 h66
    intro a H
    refine s_move H rfl rfl (lt_ rfl) fun a H => ?_
    obtain ⟨x71, h72, h73, h⟩ := h
    refine g_join (n := 93) [(41, (.bool x71)), (1, u5.v), (5, o13.v), (6, (.i i14)), (7, (.pointer (some (blk b45))))] (.succ (.succ (.succ (.succ (.succ (.succ (.zero _))))))) ?_ ?_
    ·intro h68
     try clear h
     rcases Bool.eq_false_or_eq_true x64 with h67 | h67
     ·replace H := H.ch (t := 35) (b := true) rfl h67
      iterate 5 refine s_skip H (wantN H rfl rfl rfl) rfl (lt_ rfl) fun a H => ?_
      refine s_pickT H rfl rfl rfl (lt_ rfl) fun a H => ?_
      replace h := h73 h67
      subst h
      exact h68 _ (H.weaken ⟨rfl, rfl, rfl, rfl, rfl, trivial⟩)
     ·replace H := H.ch (t := 35) (b := false) rfl h67
      replace h := h72 h67
      refine s_fld H (wantG H rfl rfl) rfl fld_92_2 (lt_ rfl) fun a H => s_fld H (wantG H rfl rfl) rfl fld_90_0 (lt_ rfl) fun a H => s_fld H (wantG H rfl rfl) rfl fld_88_0 (lt_ rfl) fun a H => ?_
      obtain ⟨l69, hc70, h⟩ := h
      refine s_load (v := (.i l69)) H (wantG H rfl rfl) rfl one_2 hc70 (lt_ rfl) fun a H => s_bin H (wantG H rfl rfl) rfl rfl r_gtr (lt_ rfl) fun a H => s_pickF H rfl rfl rfl (lt_ rfl) fun a H => ?_
      subst h
      exact h68 _ (H.weaken ⟨rfl, rfl, rfl, rfl, rfl, trivial⟩)
    ·clear H a
     clear h72 h73
     intro a H
     refine s_move H rfl rfl (lt_ rfl) fun a H => ?_
     obtain ⟨x78, h79, h80, h⟩ := h
     refine g_join (n := 93) [(48, (.bool x78)), (1, u5.v), (5, o13.v), (6, (.i i14)), (7, (.pointer (some (blk b45))))] (.succ (.succ (.succ (.succ (.succ (.succ (.zero _))))))) ?_ ?_
     ·intro h75
      try clear h
      rcases Bool.eq_false_or_eq_true x71 with h74 | h74
      ·replace H := H.ch (t := 42) (b := true) rfl h74
       iterate 5 refine s_skip H (wantN H rfl rfl rfl) rfl (lt_ rfl) fun a H => ?_
       refine s_pickT H rfl rfl rfl (lt_ rfl) fun a H => ?_
       replace h := h80 h74
       subst h
       exact h75 _ (H.weaken ⟨rfl, rfl, rfl, rfl, rfl, trivial⟩)
      ·replace H := H.ch (t := 42) (b := false) rfl h74
       replace h := h79 h74
       refine s_fld H (wantG H rfl rfl) rfl fld_92_2 (lt_ rfl) fun a H => s_fld H (wantG H rfl rfl) rfl fld_90_0 (lt_ rfl) fun a H => s_fld H (wantG H rfl rfl) rfl fld_88_1 (lt_ rfl) fun a H => ?_
       obtain ⟨l76, hc77, h⟩ := h
       refine s_load (v := (.i l76)) H (wantG H rfl rfl) rfl one_3 hc77 (lt_ rfl) fun a H => s_bin H (wantG H rfl rfl) rfl rfl r_lss (lt_ rfl) fun a H => s_pickF H rfl rfl rfl (lt_ rfl) fun a H => ?_
       subst h
       exact h75 _ (H.weaken ⟨rfl, rfl, rfl, rfl, rfl, trivial⟩)
     ·clear H a
      clear h79 h80
      intro a H
      refine s_move H rfl rfl (lt_ rfl) fun a H => ?_
      obtain ⟨x85, h86, h87, h⟩ := h
      refine g_join (n := 93) [(55, (.bool x85)), (1, u5.v), (5, o13.v), (6, (.i i14)), (7, (.pointer (some (blk b45))))] (.succ (.succ (.succ (.succ (.succ (.succ (.zero _))))))) ?_ ?_
      ·intro h82
       try clear h
       rcases Bool.eq_false_or_eq_true x78 with h81 | h81
       ·replace H := H.ch (t := 49) (b := true) rfl h81
        iterate 5 refine s_skip H (wantN H rfl rfl rfl) rfl (lt_ rfl) fun a H => ?_
        refine s_pickT H rfl rfl rfl (lt_ rfl) fun a H => ?_
        replace h := h87 h81
        subst h
        exact h82 _ (H.weaken ⟨rfl, rfl, rfl, rfl, rfl, trivial⟩)
       ·replace H := H.ch (t := 49) (b := false) rfl h81
        replace h := h86 h81
        refine s_fld H (wantG H rfl rfl) rfl fld_92_2 (lt_ rfl) fun a H => s_fld H (wantG H rfl rfl) rfl fld_90_0 (lt_ rfl) fun a H => s_fld H (wantG H rfl rfl) rfl fld_88_1 (lt_ rfl) fun a H => ?_
        obtain ⟨l83, hc84, h⟩ := h
        refine s_load (v := (.i l83)) H (wantG H rfl rfl) rfl one_3 hc84 (lt_ rfl) fun a H => s_bin H (wantG H rfl rfl) rfl rfl r_gtr (lt_ rfl) fun a H => s_pickF H rfl rfl rfl (lt_ rfl) fun a H => ?_
        subst h
        exact h82 _ (H.weaken ⟨rfl, rfl, rfl, rfl, rfl, trivial⟩)
      ·clear H a
       clear h86 h87
       intro a H
       refine s_move H rfl rfl (lt_ rfl) fun a H => ?_
       obtain ⟨x92, h93, h94, h⟩ := h
       refine g_join (n := 93) [(62, (.bool x92)), (1, u5.v), (5, o13.v), (6, (.i i14)), (7, (.pointer (some (blk b45))))] (.succ (.succ (.succ (.succ (.succ (.succ (.zero _))))))) ?_ ?_
       ·intro h89
        try clear h
        rcases Bool.eq_false_or_eq_true x85 with h88 | h88
        ·replace H := H.ch (t := 56) (b := true) rfl h88
         iterate 5 refine s_skip H (wantN H rfl rfl rfl) rfl (lt_ rfl) fun a H => ?_
         refine s_pickT H rfl rfl rfl (lt_ rfl) fun a H => ?_
         replace h := h94 h88
         subst h
         exact h89 _ (H.weaken ⟨rfl, rfl, rfl, rfl, rfl, trivial⟩)
        ·replace H := H.ch (t := 56) (b := false) rfl h88
         replace h := h93 h88
         refine s_fld H (wantG H rfl rfl) rfl fld_92_2 (lt_ rfl) fun a H => s_fld H (wantG H rfl rfl) rfl fld_90_3 (lt_ rfl) fun a H => ?_
         obtain ⟨l90, hc91, h⟩ := h
         refine s_load (v := l90.v) H (wantG H rfl rfl) rfl one_51 hc91 (lt_ rfl) fun a H => s_blt H (wantG H rfl rfl) (H.args (vs := [l90.v]) rfl) (lt_ rfl) (fun cs => b_lenS (z := l90) sl_51) fun a H => s_bin H (wantG H rfl rfl) rfl rfl r_gtr (lt_ rfl) fun a H => s_pickF H rfl rfl rfl (lt_ rfl) fun a H => ?_
         subst h
         exact h89 _ (H.weaken ⟨rfl, rfl, rfl, rfl, rfl, trivial⟩)
       ·clear H a
        clear h93 h94
        intro a H
        refine c_nil <| hK50 _ _ <| c_cond H rfl (fun h95 => ?_) (fun h95 => ?_)
        ·replace h := h.1 h95
         refine c_exit ?_
         first | (simp only [Exit.then, Exit.inBlock, ↓reduceIte]; fail_if_success simp only [Nat.reduceEqDiff]) | simp only [Exit.then, Exit.inBlock, ↓reduceIte, Nat.reduceEqDiff]
         exact h25 _ _ _ h (H.weaken ⟨rfl, rfl, rfl, trivial⟩)
        ·replace h := h.2 h95
         refine c_skip <| hK49 _ _ <| c_seq fun K96 hK96 => ?_
         obtain ⟨R97, h, h152⟩ := h
         have h119 : ∀ (a : Act) (w98 : World), R97 w98 → Has 93 [] a [(1, u5.v), (5, o13.v), (6, (.i i14)), (7, (.pointer (some (blk b45))))] → K96 a w98 := by
          clear h
          intro a w98 h H
          replace h := h152 w98 h
          refine hK96 _ _ <| c_reg <| s_move H rfl rfl (lt_ rfl) fun a H => ?_
          obtain ⟨K99, hc100, K101, hc102, C103, hc104, C105, hc106, F107, hc108, H109, hc110, D111, hc112, h⟩ := h
          refine s_loadN (l := [(.i K99), (.string K101), (.i C103), (.i C105), (.bool F107), (.bool H109), D111.v]) H rfl rfl agg_92 rfl ⟨hc100, hc102, hc104, hc106, hc108, hc110, hc112, trivial⟩ (lt_ rfl) fun a H => ?_
          replace h := h.get
          obtain ⟨b113, w114, n115, h⟩ := h
          refine s_bslc H rfl (by rw [H.parts (vs := [(0, (.agg #[(.i K99), (.string K101), (.i C103), (.i C105), (.bool F107), (.bool H109), D111.v]))]) rfl]; exact bs_23_1_ii64sii64ii64bbs0 w98 K99 K101 C103 C105 F107 H109 D111) (lt_ rfl) ?_
          rw [← n115.at_]
          clear H a
          intro a H
          refine n115.go ?_
          obtain ⟨s116, w117, h118, h⟩ := h
          refine s_blt H rfl (H.args (vs := [o13.v, (Slc.v (Slc.mk (some (blk b113)) 1 1))]) rfl) (lt_ rfl) (fun cs => b_app (z := s116) h118) ?_
          clear H a h118
          intro a H
          refine s_assign H rfl rfl (lt_ rfl) fun a H => c_nil ?_
          exact h25 _ _ _ h (H.weaken ⟨rfl, rfl, rfl, trivial⟩)
         clear h152
         refine c_seq fun K120 hK120 => c_reg <| s_fld H rfl rfl fld_92_0 (lt_ rfl) fun a H => ?_
         obtain ⟨l121, hc122, h⟩ := h
         refine s_load (v := (.i l121)) H rfl rfl one_3 hc122 (lt_ rfl) fun a H => c_nil <| hK120 _ _ <| c_block <| c_seq fun K123 hK123 => c_reg <| s_bin H rfl rfl rfl r_eql (lt_ rfl) fun a H => s_assign H rfl rfl (lt_ rfl) fun a H => c_nil <| hK123 _ _ <| c_cond H rfl (fun h124 => ?_) (fun h124 => ?_)
         ·replace h := h.1 h124
          refine c_seq fun K125 hK125 => c_reg <| s_fld H rfl rfl fld_92_2 (lt_ rfl) fun a H => s_fld H rfl rfl fld_90_1 (lt_ rfl) fun a H => ?_
          obtain ⟨h127, h128, h⟩ := h
          refine s_sto (p := ((blk b45).add 2).add 2) (v := (.bool false)) H rfl rfl rfl rfl one_4 rfl h127 h128 ?_
          clear H
          intro H
          generalize hww126 : World.setCell w48 (((blk b45).add 2).add 2) (.bool false) = w126 at h ⊢
          have w126S : SetAt w48 (((blk b45).add 2).add 2) (.bool false) w126 := ⟨hww126.symm⟩
          clear hww126 h127 h128
          refine c_nil <| hK125 _ _ <| c_reg <| s_fld H rfl rfl fld_92_2 (lt_ rfl) fun a H => s_fld H rfl rfl fld_90_2 (lt_ rfl) fun a H => ?_
          obtain ⟨h130, h131, h⟩ := h
          refine s_sto (p := ((blk b45).add 2).add 3) (v := (.bool false)) H rfl rfl rfl rfl one_4 rfl h130 h131 ?_
          clear H
          intro H
          generalize hww129 : World.setCell w126 (((blk b45).add 2).add 3) (.bool false) = w129 at h ⊢
          have w129S : SetAt w126 (((blk b45).add 2).add 3) (.bool false) w129 := ⟨hww129.symm⟩
          clear hww129 h130 h131
          refine c_nil ?_
          exact h119 _ _ h (H.weaken ⟨rfl, rfl, rfl, rfl, trivial⟩)
         ·replace h := h.2 h124
          refine c_seq fun K132 hK132 => c_reg <| s_bin H rfl rfl rfl r_eql (lt_ rfl) fun a H => s_assign H rfl rfl (lt_ rfl) fun a H => c_nil <| hK132 _ _ <| c_cond H rfl (fun h133 => ?_) (fun h133 => ?_)
          ·replace h := h.1 h133
           refine c_reg <| s_fld H rfl rfl fld_92_2 (lt_ rfl) fun a H => s_fld H rfl rfl fld_90_0 (lt_ rfl) fun a H => ?_
           obtain ⟨C134, hc135, C136, hc137, h⟩ := h
           refine s_loadN (l := [(.i C134), (.i C136)]) H rfl rfl agg_88 rfl ⟨hc135, hc137, trivial⟩ (lt_ rfl) fun a H => s_build H rfl (by rw [H.parts (vs := [(0, (.agg #[(.i C134), (.i C136)]))]) rfl]; exact bd_90_ii64ii640 w48 C134 C136) (lt_ rfl) fun a H => s_fld H rfl rfl fld_92_2 (lt_ rfl) fun a H => s_stoN (l := [(.i C134), (.i C136), (.bool false), (.bool false), Slc.nil.v]) H rfl rfl rfl rfl agg_90 rfl rfl h ?_
           clear h H
           intro w138 h H
           refine c_nil ?_
           exact h119 _ _ h (H.weaken ⟨rfl, rfl, rfl, rfl, trivial⟩)
          ·replace h := h.2 h133
           refine c_seq fun K139 hK139 => c_reg <| s_bin H rfl rfl rfl r_eql (lt_ rfl) fun a H => s_assign H rfl rfl (lt_ rfl) fun a H => c_nil <| hK139 _ _ <| c_cond H rfl (fun h140 => ?_) (fun h140 => ?_)
           ·replace h := h.1 h140
            refine c_seq fun K141 hK141 => c_reg <| s_fld H rfl rfl fld_92_2 (lt_ rfl) fun a H => s_fld H rfl rfl fld_90_2 (lt_ rfl) fun a H => ?_
            obtain ⟨l142, hc143, h⟩ := h
            refine s_load (v := (.bool l142)) H rfl rfl one_4 hc143 (lt_ rfl) fun a H => s_un H rfl rfl r_not (lt_ rfl) fun a H => c_nil <| hK141 _ _ <| c_cond H rfl (fun h144 => ?_) (fun h144 => ?_)
            ·replace h := h.1 h144
             refine c_seq fun K145 hK145 => c_reg <| s_fld H rfl rfl fld_92_2 (lt_ rfl) fun a H => s_fld H rfl rfl fld_90_1 (lt_ rfl) fun a H => ?_
             obtain ⟨h147, h148, h⟩ := h
             refine s_sto (p := ((blk b45).add 2).add 2) (v := (.bool true)) H rfl rfl rfl rfl one_4 rfl h147 h148 ?_
             clear H
             intro H
             generalize hww146 : World.setCell w48 (((blk b45).add 2).add 2) (.bool true) = w146 at h ⊢
             have w146S : SetAt w48 (((blk b45).add 2).add 2) (.bool true) w146 := ⟨hww146.symm⟩
             clear hww146 h147 h148
             refine c_nil <| hK145 _ _ <| c_reg <| s_fld H rfl rfl fld_92_2 (lt_ rfl) fun a H => s_fld H rfl rfl fld_90_3 (lt_ rfl) fun a H => ?_
             obtain ⟨h150, h151, h⟩ := h
             refine s_sto (p := ((blk b45).add 2).add 4) (v := Slc.nil.v) H rfl rfl rfl rfl one_51 rfl h150 h151 ?_
             clear H
             intro H
             generalize hww149 : World.setCell w146 (((blk b45).add 2).add 4) Slc.nil.v = w149 at h ⊢
             have w149S : SetAt w146 (((blk b45).add 2).add 4) Slc.nil.v w149 := ⟨hww149.symm⟩
             clear hww149 h150 h151
             refine c_nil ?_
             exact h119 _ _ h (H.weaken ⟨rfl, rfl, rfl, rfl, trivial⟩)
            ·replace h := h.2 h144
             refine c_skip ?_
             exact h119 _ _ h (H.weaken ⟨rfl, rfl, rfl, rfl, trivial⟩)
           ·replace h := h.2 h140
            refine c_exit ?_
            first | (simp only [Exit.then, Exit.inBlock, ↓reduceIte]; fail_if_success simp only [Nat.reduceEqDiff]) | simp only [Exit.then, Exit.inBlock, ↓reduceIte, Nat.reduceEqDiff]
            exact h25 _ _ _ h (H.weaken ⟨rfl, rfl, rfl, trivial⟩)
 ·replace h := h.2 h20
  refine c_exit ?_
  first | (simp only [Exit.then, Exit.inBlock, ↓reduceIte]; fail_if_success simp only [Nat.reduceEqDiff]) | simp only [Exit.then, Exit.inBlock, ↓reduceIte, Nat.reduceEqDiff]
  refine hK11 _ _ <| c_seq fun K154 hK154 => c_reg <| s_move H rfl rfl (lt_ rfl) fun a H => s_assign H rfl rfl (lt_ rfl) fun a H => c_nil <| hK154 _ _ <| c_ret ?_
  exact e_ret1 H rfl rfl h

theorem sim_disk_Disk_Current (d1 : Option Addr) (w : World) (Q : Ending → World → Prop) (h : vc_disk_Disk_Current d1 w Q) : Calls PP F_disk_Disk_Current #[(.pointer d1)] w Q := by
 unfold vc_disk_Disk_Current at h
 refine enter (n := 9) Tryz.func16 rfl rfl (Nat.le_of_ble_eq_true rfl) fun a H => c_seq fun K2 hK2 => c_reg <| s_assign H rfl rfl (lt_ rfl) fun a H => c_nil <| hK2 _ _ <| c_seq fun K3 hK3 => c_seq fun K4 hK4 => c_reg <| s_move H rfl rfl (lt_ rfl) fun a H => s_call H rfl body_37 (H.args (vs := [(.pointer d1)]) rfl) (lt_ rfl) h ?_ (fun c w' h H => e_panic (P := PP) (fn := Tryz.f16) H h)
 clear H h a
 rintro _ w5 a ⟨g6, rfl, h⟩ H
 refine c_nil <| hK4 _ _ <| c_cond H rfl (fun h7 => ?_) (fun h7 => ?_)
 ·replace h := h.1 h7
  refine c_seq fun K8 hK8 => c_reg <| s_assign H rfl rfl (lt_ rfl) fun a H => c_nil <| hK8 _ _ <| c_ret ?_
  exact e_ret1 H rfl rfl h
 ·replace h := h.2 h7
  refine c_skip <| hK3 _ _ <| c_seq fun K9 hK9 => c_reg <| s_move H rfl rfl (lt_ rfl) fun a H => ?_
  obtain ⟨a10, h13, h⟩ := h
  revert H
  subst h13
  intro H
  refine s_nil H rfl rfl (lt_ rfl) fun a H => s_fld H rfl rfl fld_81_1 (lt_ rfl) fun a H => ?_
  obtain ⟨l11, hc12, h⟩ := h
  refine s_load (v := (.i l11)) H rfl rfl one_3 hc12 (lt_ rfl) fun a H => s_assign H rfl rfl (lt_ rfl) fun a H => c_nil <| hK9 _ _ <| c_ret ?_
  exact e_ret1 H rfl rfl h

theorem sim_flog_Log_Compact (l1 : Option Addr) (u2 : Slc) (w : World) (Q : Ending → World → Prop) (h : vc_flog_Log_Compact l1 u2 w Q) : Calls PP F_flog_Log_Compact #[(.pointer l1), u2.v] w Q := by
 unfold vc_flog_Log_Compact at h
 refine enter (n := 43) Tryz.func17 rfl rfl (Nat.le_of_ble_eq_true rfl) fun a H => c_seq fun K3 hK3 => c_reg <| s_assign H rfl rfl (lt_ rfl) fun a H => c_nil <| hK3 _ _ <| c_seq fun K4 hK4 => c_seq fun K5 hK5 => c_reg <| s_move H rfl rfl (lt_ rfl) fun a H => s_bin H rfl rfl rfl (r_eqP0 ptr_34) (lt_ rfl) fun a H => c_nil <| hK5 _ _ <| c_cond H rfl (fun h6 => ?_) (fun h6 => ?_)
 ·replace h := h.1 h6
  refine c_seq fun K7 hK7 => c_reg <| s_assign H rfl rfl (lt_ rfl) fun a H => c_nil <| hK7 _ _ <| c_ret ?_
  exact e_ret1 H rfl rfl h
 ·replace h := h.2 h6
  refine c_skip <| hK4 _ _ <| c_seq fun K8 hK8 => c_seq fun K9 hK9 => c_reg <| s_move H rfl rfl (lt_ rfl) fun a H => ?_
  obtain ⟨a10, h66, h⟩ := h
  revert H
  subst h66
  intro H
  refine s_nil H rfl rfl (lt_ rfl) fun a H => s_fld H rfl rfl fld_95_5 (lt_ rfl) fun a H => ?_
  obtain ⟨l11, hc12, h⟩ := h
  refine s_load (v := (.i l11)) H rfl rfl one_40 hc12 (lt_ rfl) fun a H => s_bin H rfl rfl rfl r_neq (lt_ rfl) fun a H => c_nil <| hK9 _ _ <| c_cond H rfl (fun h13 => ?_) (fun h13 => ?_)
  ·replace h := h.1 h13
   refine c_seq fun K14 hK14 => c_reg <| s_move H rfl rfl (lt_ rfl) fun a H => s_nil H rfl rfl (lt_ rfl) fun a H => s_fld H rfl rfl fld_95_5 (lt_ rfl) fun a H => ?_
   obtain ⟨l15, hc16, h⟩ := h
   refine s_load (v := (.i l15)) H rfl rfl one_40 hc16 (lt_ rfl) fun a H => s_assign H rfl rfl (lt_ rfl) fun a H => c_nil <| hK14 _ _ <| c_ret ?_
   exact e_ret1 H rfl rfl h
  ·replace h := h.2 h13
   refine c_skip <| hK8 _ _ <| c_seq fun K17 hK17 => c_reg <| s_move H rfl rfl (lt_ rfl) fun a H => s_nil H rfl rfl (lt_ rfl) fun a H => s_fld H rfl rfl fld_95_1 (lt_ rfl) fun a H => ?_
   obtain ⟨N18, hc19, K20, hc21, D22, hc23, S24, hc25, h⟩ := h
   refine s_loadN (l := [(.i N18), (.i K20), (.i D22), (.i S24)]) H rfl rfl agg_28 rfl ⟨hc19, hc21, hc23, hc25, trivial⟩ (lt_ rfl) fun a H => s_move H rfl rfl (lt_ rfl) fun a H => s_call H rfl body_38 (H.args (vs := [(.agg #[(.i N18), (.i K20), (.i D22), (.i S24)]), u2.v]) rfl) (lt_ rfl) h ?_ (fun c w' h H => e_panic (P := PP) (fn := Tryz.f17) H h)
   clear H h a
   rintro _ w26 a ⟨m27, m28, m29, rfl, h⟩ H
   refine s_move H rfl rfl (lt_ rfl) fun a H => ?_
   iterate 3 refine s_ext H rfl rfl rfl (lt_ rfl) fun a H => ?_
   iterate 3 refine s_assign H rfl rfl (lt_ rfl) fun a H => ?_
   refine c_nil <| hK17 _ _ <| c_seq fun K30 hK30 => c_seq fun K31 hK31 => c_reg <| s_move H rfl rfl (lt_ rfl) fun a H => ?_
   obtain ⟨n33, h32, h⟩ := h
   refine s_bin H rfl rfl rfl (r_neN ifc_83 h32) (lt_ rfl) fun a H => c_nil <| hK31 _ _ <| c_cond H rfl (fun h34 => ?_) (fun h34 => ?_)
   ·replace h := h.1 h34
    refine c_seq fun K35 hK35 => c_reg <| s_move H rfl rfl (lt_ rfl) fun a H => s_call H rfl body_36 (H.args (vs := [m29]) rfl) (lt_ rfl) h ?_ (fun c w' h H => e_panic (P := PP) (fn := Tryz.f17) H h)
    clear H h a
    rintro _ w36 a ⟨n37, rfl, h⟩ H
    refine s_assign H rfl rfl (lt_ rfl) fun a H => c_nil <| hK35 _ _ <| c_ret ?_
    exact e_ret1 H rfl rfl h
   ·replace h := h.2 h34
    refine c_skip <| hK30 _ _ <| c_seq fun K42 hK42 => c_seq fun K43 hK43 => c_reg ?_
    iterate 3 refine s_move H rfl rfl (lt_ rfl) fun a H => ?_
    refine s_call H rfl body_39 (H.args (vs := [(.pointer (some a10)), m27.v, (.pointer m28)]) rfl) (lt_ rfl) h ?_ (fun c w' h H => e_panic (P := PP) (fn := Tryz.f17) H h)
    clear H h a
    rintro a45 w44 a ⟨_, rfl, h⟩ H
    refine s_assign H rfl rfl (lt_ rfl) fun a H => c_nil <| hK43 _ _ <| c_seq fun K46 hK46 => c_reg <| s_move H rfl rfl (lt_ rfl) fun a H => ?_
    obtain ⟨n48, h47, h⟩ := h
    refine s_bin H rfl rfl rfl (r_neN ifc_83 h47) (lt_ rfl) fun a H => c_nil <| hK46 _ _ <| c_cond H rfl (fun h49 => ?_) (fun h49 => ?_)
    ·replace h := h.1 h49
     refine c_seq fun K50 hK50 => c_reg <| s_move H rfl rfl (lt_ rfl) fun a H => s_move H rfl rfl (lt_ rfl) fun a H => s_call H rfl body_40 (H.args (vs := [(.pointer (some a10)), a45]) rfl) (lt_ rfl) h ?_ (fun c w' h H => e_panic (P := PP) (fn := Tryz.f17) H h)
     clear H h a
     rintro _ w51 a ⟨f52, rfl, h⟩ H
     refine s_assign H rfl rfl (lt_ rfl) fun a H => c_nil <| hK50 _ _ <| c_ret ?_
     exact e_ret1 H rfl rfl h
    ·replace h := h.2 h49
     refine c_skip <| hK42 _ _ <| c_seq fun K57 hK57 => c_reg <| s_assign H rfl rfl (lt_ rfl) fun a H => c_nil <| hK57 _ _ <| c_ret ?_
     exact e_ret1 H rfl rfl h

theorem sim_flog_Log_Count (l1 : Option Addr) (w : World) (Q : Ending → World → Prop) (h : vc_flog_Log_Count l1 w Q) : Calls PP F_flog_Log_Count #[(.pointer l1)] w Q := by
 unfold vc_flog_Log_Count at h
 refine enter (n := 10) Tryz.func18 rfl rfl (Nat.le_of_ble_eq_true rfl) fun a H => c_seq fun K2 hK2 => c_reg <| s_assign H rfl rfl (lt_ rfl) fun a H => c_nil <| hK2 _ _ <| c_seq fun K3 hK3 => c_seq fun K4 hK4 => c_reg <| s_move H rfl rfl (lt_ rfl) fun a H => s_bin H rfl rfl rfl (r_eqP0 ptr_34) (lt_ rfl) fun a H => c_nil <| hK4 _ _ <| c_cond H rfl (fun h5 => ?_) (fun h5 => ?_)
 ·replace h := h.1 h5
  refine c_seq fun K6 hK6 => c_reg <| s_assign H rfl rfl (lt_ rfl) fun a H => c_nil <| hK6 _ _ <| c_ret ?_
  exact e_ret1 H rfl rfl h
 ·replace h := h.2 h5
  refine c_skip <| hK3 _ _ <| c_seq fun K7 hK7 => c_reg <| s_move H rfl rfl (lt_ rfl) fun a H => ?_
  obtain ⟨a8, h17, h⟩ := h
  revert H
  subst h17
  intro H
  refine s_nil H rfl rfl (lt_ rfl) fun a H => s_fld H rfl rfl fld_95_3 (lt_ rfl) fun a H => ?_
  obtain ⟨l9, hc10, h⟩ := h
  refine s_load (v := (.pointer l9)) H rfl rfl one_93 hc10 (lt_ rfl) fun a H => s_call H rfl body_41 (H.args (vs := [(.pointer l9)]) rfl) (lt_ rfl) h ?_ (fun c w' h H => e_panic (P := PP) (fn := Tryz.f18) H h)
  clear H h a
  rintro _ w11 a ⟨C12, rfl, h⟩ H
  refine s_assign H rfl rfl (lt_ rfl) fun a H => c_nil <| hK7 _ _ <| c_ret ?_
  exact e_ret1 H rfl rfl h

theorem sim_disk_New (w : World) (Q : Ending → World → Prop) (h : vc_disk_New w Q) : Calls PP F_disk_New #[] w Q := by
 unfold vc_disk_New at h
 refine enter (n := 3) Tryz.func19 rfl rfl (Nat.le_of_ble_eq_true rfl) fun a H => c_seq fun K1 hK1 => c_reg <| s_assign H rfl rfl (lt_ rfl) fun a H => c_nil <| hK1 _ _ <| c_seq fun K2 hK2 => c_reg <| s_build H rfl (by rw [H.parts (vs := []) rfl]; exact bd_81 w) (lt_ rfl) fun a H => ?_
 replace h := h.get
 obtain ⟨b3, w4, n5, h⟩ := h
 refine s_box H rfl rfl (lt_ rfl) ?_
 rw [← n5.at_]
 clear H a
 intro a H
 refine n5.go <| s_assign H rfl rfl (lt_ rfl) fun a H => c_nil <| hK2 _ _ <| c_ret ?_
 exact e_ret1 H rfl rfl h

theorem sim_flog_Log_Append (l1 : Option Addr) (u2 : Slc) (w : World) (Q : Ending → World → Prop) (h : vc_flog_Log_Append l1 u2 w Q) : Calls PP F_flog_Log_Append #[(.pointer l1), u2.v] w Q := by
 unfold vc_flog_Log_Append at h
 refine enter (n := 108) Tryz.func20 rfl rfl (Nat.le_of_ble_eq_true rfl) fun a H => c_seq fun K3 hK3 => c_reg <| s_assign H rfl rfl (lt_ rfl) fun a H => c_nil <| hK3 _ _ <| c_seq fun K4 hK4 => c_seq fun K5 hK5 => c_reg <| s_move H rfl rfl (lt_ rfl) fun a H => s_bin H rfl rfl rfl (r_eqP0 ptr_34) (lt_ rfl) fun a H => c_nil <| hK5 _ _ <| c_cond H rfl (fun h6 => ?_) (fun h6 => ?_)
 ·replace h := h.1 h6
  refine c_seq fun K7 hK7 => c_reg <| s_assign H rfl rfl (lt_ rfl) fun a H => c_nil <| hK7 _ _ <| c_ret ?_
  exact e_ret1 H rfl rfl h
 ·replace h := h.2 h6
  refine c_skip <| hK4 _ _ <| c_seq fun K8 hK8 => c_seq fun K9 hK9 => c_reg <| s_move H rfl rfl (lt_ rfl) fun a H => ?_
  obtain ⟨a10, h222, h⟩ := h
  revert H
  subst h222
  intro H
  refine s_nil H rfl rfl (lt_ rfl) fun a H => s_fld H rfl rfl fld_95_5 (lt_ rfl) fun a H => ?_
  obtain ⟨l11, hc12, h⟩ := h
  refine s_load (v := (.i l11)) H rfl rfl one_40 hc12 (lt_ rfl) fun a H => s_bin H rfl rfl rfl r_neq (lt_ rfl) fun a H => s_move H rfl rfl (lt_ rfl) fun a H => g_join (n := 108) [(27, (.bool ((decide (l11 ≠ 0)) || (decide ((u2.l : Int) = 0))))), (0, (.pointer (some a10))), (1, u2.v)] (.succ (.succ (.succ (.succ (.zero _))))) ?_ ?_
  ·intro h14
   try clear h
   rcases Bool.eq_false_or_eq_true (decide (l11 ≠ 0)) with h13 | h13
   ·replace H := H.ch (t := 23) (b := true) rfl h13
    iterate 3 refine s_skip H (wantN H rfl rfl rfl) rfl (lt_ rfl) fun a H => ?_
    refine s_pickT H rfl rfl rfl (lt_ rfl) fun a H => ?_
    exact h14 _ (H.weaken ⟨by rw [h13]; rfl, rfl, rfl, trivial⟩)
   ·replace H := H.ch (t := 23) (b := false) rfl h13
    refine s_move H (wantG H rfl rfl) rfl (lt_ rfl) fun a H => s_blt H (wantG H rfl rfl) (H.args (vs := [u2.v]) rfl) (lt_ rfl) (fun cs => b_lenS (z := u2) sl_23) fun a H => s_bin H (wantG H rfl rfl) rfl rfl r_eql (lt_ rfl) fun a H => s_pickF H rfl rfl rfl (lt_ rfl) fun a H => ?_
    exact h14 _ (H.weaken ⟨by rw [h13]; rfl, rfl, rfl, trivial⟩)
  ·clear H a
   intro a H
   refine c_nil <| hK9 _ _ <| c_cond H rfl (fun h15 => ?_) (fun h15 => ?_)
   ·replace h := h.1 h15
    refine c_seq fun K16 hK16 => c_reg <| s_move H rfl rfl (lt_ rfl) fun a H => s_nil H rfl rfl (lt_ rfl) fun a H => s_fld H rfl rfl fld_95_5 (lt_ rfl) fun a H => ?_
    obtain ⟨l17, hc18, h⟩ := h
    refine s_load (v := (.i l17)) H rfl rfl one_40 hc18 (lt_ rfl) fun a H => s_assign H rfl rfl (lt_ rfl) fun a H => c_nil <| hK16 _ _ <| c_ret ?_
    exact e_ret1 H rfl rfl h
   ·replace h := h.2 h15
    refine c_skip <| hK8 _ _ <| c_seq fun K19 hK19 => c_seq fun K20 hK20 => c_reg <| s_move H rfl rfl (lt_ rfl) fun a H => s_blt H rfl (H.args (vs := [u2.v]) rfl) (lt_ rfl) (fun cs => b_lenS (z := u2) sl_23) fun a H => s_move H rfl rfl (lt_ rfl) fun a H => c_nil <| hK20 _ _ <| c_block ?_
    obtain ⟨I23, m24, h220, h221⟩ := h
    refine c_loop (σ := Int) (fun z w => I23 z w) (fun z w => m24 z w) (fun z => [(0, (.pointer (some a10))), (1, u2.v), (32, u2.v), (33, (.i (u2.l : Int))), (34, (.i z))]) 0 h220 (H.weaken ⟨rfl, rfl, rfl, rfl, rfl, trivial⟩) ?_
    clear H h220
    rintro s21 a w22 h H
    replace h := h221 s21 w22 h
    clear h221
    replace H : Has 108 [] a [(0, (.pointer (some a10))), (1, u2.v), (32, u2.v), (33, (.i (u2.l : Int))), (34, (.i s21))] := H
    refine c_seq fun K25 hK25 => c_reg <| s_bin H rfl rfl rfl r_lss (lt_ rfl) fun a H => c_nil <| hK25 _ _ <| c_seq fun K26 hK26 => c_cond H rfl (fun h27 => ?_) (fun h27 => ?_)
    ·replace h := h.1 h27
     refine c_skip <| hK26 _ _ <| c_seq fun K28 hK28 => c_block <| c_seq fun K29 hK29 => c_reg ?_
     obtain ⟨a30, h31, h32, h33, h⟩ := h
     refine s_idxS (s := u2) H rfl rfl rfl slc_23 h31 h32 h33 (lt_ rfl) fun a H => ?_
     obtain ⟨K34, hc35, K36, hc37, C38, hc39, C40, hc41, F42, hc43, H44, hc45, D46, hc47, h⟩ := h
     refine s_loadN (l := [(.i K34), (.string K36), (.i C38), (.i C40), (.bool F42), (.bool H44), D46.v]) H rfl rfl agg_92 rfl ⟨hc35, hc37, hc39, hc41, hc43, hc45, hc47, trivial⟩ (lt_ rfl) fun a H => ?_
     replace h := h.get
     obtain ⟨b48, w49, n50, h⟩ := h
     refine s_alloc H rfl zero_92 (lt_ rfl) ?_
     rw [← n50.at_]
     clear H a
     intro a H
     refine n50.go <| s_stoN (l := [(.i K34), (.string K36), (.i C38), (.i C40), (.bool F42), (.bool H44), D46.v]) H rfl rfl rfl rfl agg_92 rfl rfl h ?_
     clear h H
     intro w51 h H
     refine c_nil <| hK29 _ _ <| c_seq fun K52 hK52 => c_reg ?_
     obtain ⟨K53, hc54, K55, hc56, C57, hc58, C59, hc60, F61, hc62, H63, hc64, D65, hc66, h⟩ := h
     refine s_loadN (l := [(.i K53), (.string K55), (.i C57), (.i C59), (.bool F61), (.bool H63), D65.v]) H rfl rfl agg_92 rfl ⟨hc54, hc56, hc58, hc60, hc62, hc64, hc66, trivial⟩ (lt_ rfl) fun a H => s_call H rfl body_42 (H.args (vs := [(.agg #[(.i K53), (.string K55), (.i C57), (.i C59), (.bool F61), (.bool H63), D65.v])]) rfl) (lt_ rfl) h ?_ (fun c w' h H => e_panic (P := PP) (fn := Tryz.f20) H h)
     clear H h a
     rintro _ w67 a ⟨r68, rfl, h⟩ H
     refine s_assign H rfl rfl (lt_ rfl) fun a H => c_nil <| hK52 _ _ <| c_seq fun K69 hK69 => c_reg <| s_move H rfl rfl (lt_ rfl) fun a H => s_bin H rfl rfl rfl r_neq (lt_ rfl) fun a H => c_nil <| hK69 _ _ <| c_cond H rfl (fun h70 => ?_) (fun h70 => ?_)
     ·replace h := h.1 h70
      refine c_seq fun K71 hK71 => c_reg <| s_move H rfl rfl (lt_ rfl) fun a H => s_assign H rfl rfl (lt_ rfl) fun a H => c_nil <| hK71 _ _ <| c_ret ?_
      exact e_ret1 H rfl rfl h
     ·replace h := h.2 h70
      refine c_skip <| hK28 _ _ <| c_reg <| s_bin H rfl rfl rfl r_add (lt_ rfl) fun a H => s_move H rfl rfl (lt_ rfl) fun a H => c_nil <| Exists.intro (wr .i64 (s21 + 1)) ⟨h.1, h.2, H.weaken ⟨rfl, rfl, rfl, rfl, rfl, trivial⟩⟩
    ·replace h := h.2 h27
     refine c_exit ?_
     first | (simp only [Exit.then, Exit.inBlock, ↓reduceIte]; fail_if_success simp only [Nat.reduceEqDiff]) | simp only [Exit.then, Exit.inBlock, ↓reduceIte, Nat.reduceEqDiff]
     refine hK19 _ _ <| c_seq fun K76 hK76 => c_reg <| s_move H rfl rfl (lt_ rfl) fun a H => s_nil H rfl rfl (lt_ rfl) fun a H => s_fld H rfl rfl fld_95_3 (lt_ rfl) fun a H => ?_
     obtain ⟨l77, hc78, h⟩ := h
     refine s_load (v := (.pointer l77)) H rfl rfl one_93 hc78 (lt_ rfl) fun a H => ?_
     obtain ⟨a79, h219, h⟩ := h
     revert H
     subst h219
     intro H
     refine s_nil H rfl rfl (lt_ rfl) fun a H => ?_
     obtain ⟨l80, hc81, c82, hc83, h⟩ := h
     refine s_loadN (l := [l80.v, (.i c82)]) H rfl rfl agg_101 rfl ⟨hc81, hc83, trivial⟩ (lt_ rfl) fun a H => ?_
     replace h := h.get
     obtain ⟨b84, w85, n86, h⟩ := h
     refine s_alloc H rfl zero_101 (lt_ rfl) ?_
     rw [← n86.at_]
     clear H a
     intro a H
     refine n86.go <| s_stoN (l := [l80.v, (.i c82)]) H rfl rfl rfl rfl agg_101 rfl rfl h ?_
     clear h H
     intro w87 h H
     refine c_nil <| hK76 _ _ <| c_seq fun K88 hK88 => c_reg <| s_assign H rfl rfl (lt_ rfl) fun a H => c_nil <| hK88 _ _ <| c_seq fun K89 hK89 => c_seq fun K90 hK90 => c_reg <| s_move H rfl rfl (lt_ rfl) fun a H => s_blt H rfl (H.args (vs := [u2.v]) rfl) (lt_ rfl) (fun cs => b_lenS (z := u2) sl_23) fun a H => s_move H rfl rfl (lt_ rfl) fun a H => c_nil <| hK90 _ _ <| c_block ?_
     obtain ⟨I94, m95, h217, h218⟩ := h
     refine c_loop (σ := Slc × Int) (fun z w => I94 z.1 z.2 w) (fun z w => m95 z.1 z.2 w) (fun z => [(0, (.pointer (some a10))), (8, (.pointer (some (blk b84)))), (9, z.1.v), (50, u2.v), (51, (.i (u2.l : Int))), (52, (.i z.2))]) (Slc.nil, 0) h217 (H.weaken ⟨rfl, rfl, rfl, rfl, rfl, rfl, trivial⟩) ?_
     clear H h217
     rintro ⟨d91, s92⟩ a w93 h H
     replace h := h218 d91 s92 w93 h
     clear h218
     replace H : Has 108 [] a [(0, (.pointer (some a10))), (8, (.pointer (some (blk b84)))), (9, d91.v), (50, u2.v), (51, (.i (u2.l : Int))), (52, (.i s92))] := H
     refine c_seq fun K96 hK96 => c_reg <| s_bin H rfl rfl rfl r_lss (lt_ rfl) fun a H => c_nil <| hK96 _ _ <| c_seq fun K97 hK97 => c_cond H rfl (fun h98 => ?_) (fun h98 => ?_)
     ·replace h := h.1 h98
      refine c_skip <| hK97 _ _ <| c_seq fun K99 hK99 => c_block <| c_seq fun K100 hK100 => c_reg ?_
      obtain ⟨a101, h102, h103, h104, h⟩ := h
      refine s_idxS (s := u2) H rfl rfl rfl slc_23 h102 h103 h104 (lt_ rfl) fun a H => ?_
      obtain ⟨K105, hc106, K107, hc108, C109, hc110, C111, hc112, F113, hc114, H115, hc116, D117, hc118, h⟩ := h
      refine s_loadN (l := [(.i K105), (.string K107), (.i C109), (.i C111), (.bool F113), (.bool H115), D117.v]) H rfl rfl agg_92 rfl ⟨hc106, hc108, hc110, hc112, hc114, hc116, hc118, trivial⟩ (lt_ rfl) fun a H => ?_
      replace h := h.get
      obtain ⟨b119, w120, n121, h⟩ := h
      refine s_alloc H rfl zero_92 (lt_ rfl) ?_
      rw [← n121.at_]
      clear H a
      intro a H
      refine n121.go <| s_stoN (l := [(.i K105), (.string K107), (.i C109), (.i C111), (.bool F113), (.bool H115), D117.v]) H rfl rfl rfl rfl agg_92 rfl rfl h ?_
      clear h H
      intro w122 h H
      refine c_nil <| hK100 _ _ <| c_seq fun K123 hK123 => c_reg ?_
      obtain ⟨K124, hc125, K126, hc127, C128, hc129, C130, hc131, F132, hc133, H134, hc135, D136, hc137, h⟩ := h
      refine s_loadN (l := [(.i K124), (.string K126), (.i C128), (.i C130), (.bool F132), (.bool H134), D136.v]) H rfl rfl agg_92 rfl ⟨hc125, hc127, hc129, hc131, hc133, hc135, hc137, trivial⟩ (lt_ rfl) fun a H => s_call H rfl body_43 (H.args (vs := [(.pointer (some (blk b84))), (.agg #[(.i K124), (.string K126), (.i C128), (.i C130), (.bool F132), (.bool H134), D136.v])]) rfl) (lt_ rfl) h ?_ (fun c w' h H => e_panic (P := PP) (fn := Tryz.f20) H h)
      clear H h a
      rintro _ w138 a ⟨P139, P140, rfl, h⟩ H
      refine s_move H rfl rfl (lt_ rfl) fun a H => s_ext H rfl rfl rfl (lt_ rfl) fun a H => s_ext H rfl rfl rfl (lt_ rfl) fun a H => s_assign H rfl rfl (lt_ rfl) fun a H => s_assign H rfl rfl (lt_ rfl) fun a H => c_nil <| hK123 _ _ <| c_reg <| s_move H rfl rfl (lt_ rfl) fun a H => s_move H rfl rfl (lt_ rfl) fun a H => ?_
      obtain ⟨s141, w142, h143, h⟩ := h
      refine s_blt H rfl (H.args (vs := [d91.v, P139.v]) rfl) (lt_ rfl) (fun cs => b_app (z := s141) h143) ?_
      clear H a h143
      intro a H
      refine s_assign H rfl rfl (lt_ rfl) fun a H => c_nil <| hK99 _ _ <| c_reg <| s_bin H rfl rfl rfl r_add (lt_ rfl) fun a H => s_move H rfl rfl (lt_ rfl) fun a H => c_nil <| Exists.intro (s141, wr .i64 (s92 + 1)) ⟨h.1, h.2, H.weaken ⟨rfl, rfl, rfl, rfl, rfl, rfl, trivial⟩⟩
     ·replace h := h.2 h98
      refine c_exit ?_
      first | (simp only [Exit.then, Exit.inBlock, ↓reduceIte]; fail_if_success simp only [Nat.reduceEqDiff]) | simp only [Exit.then, Exit.inBlock, ↓reduceIte, Nat.reduceEqDiff]
      refine hK89 _ _ <| c_seq fun K148 hK148 => c_seq fun K149 hK149 => ?_
      replace H := H.weaken (L' := [(0, (.pointer (some a10))), (8, (.pointer (some (blk b84)))), (9, d91.v)]) ⟨rfl, rfl, rfl, trivial⟩
      obtain ⟨l150, hc151, l152, hc153, h⟩ := h
      refine c_any (V := [(0, (.pointer (some a10))), (1, (.pointer (some a10))), (2, (.pointer (some (a10.add 0)))), (3, (.pointer l150)), (4, (.pointer (some a10))), (5, (.pointer (some a10))), (6, (.pointer (some (a10.add 5)))), (7, (.i l152)), (8, d91.v)]) (⟨[[], [0], [1], [2], [], [4], [5], [6], [], [3, 7, 8], [9], [0, 1, 2, 3, 4, 5, 6, 7, 8, 9, 10]], [some 65, some 66, some 67, some 68, some 69, some 70, some 71, some 72, some 73, some 74, some 75, some 14], [9, 10], [0, 0, 0, 0, 0, 0, 0, 0, 0, 0, 1, 2], [0, 0, 0, 0, 0, 0, 0, 0, 0, 1, 2, 2]⟩ : Rg) [(0, (.pointer (some a10))), (8, (.pointer (some (blk b84)))), (9, d91.v)] mixed (by kernel_rfl) H ?_
      refine Stg.eff [0, 1, 2, 3, 4, 5, 6, 7, 8] (by kernel_rfl) rfl (.cons ?_ (.cons ?_ (.cons ?_ (.cons ?_ (.cons ?_ (.cons ?_ (.cons ?_ (.cons ?_ (.cons ?_ .nil))))))))) ?_
      ·refine Ans.mk rfl rfl fun a H => s_move H rfl rfl (lt_ rfl) fun a H => ?_
       exact Ans.fin H rfl
      ·refine Ans.mk rfl rfl fun a H => s_nil H rfl rfl (lt_ rfl) fun a H => ?_
       exact Ans.fin H rfl
      ·refine Ans.mk rfl rfl fun a H => s_fld H rfl rfl fld_95_0 (lt_ rfl) fun a H => ?_
       exact Ans.fin H rfl
      ·refine Ans.mk rfl rfl fun a H => s_load (v := (.pointer l150)) H rfl rfl one_33 hc151 (lt_ rfl) fun a H => ?_
       exact Ans.fin H rfl
      ·refine Ans.mk rfl rfl fun a H => s_move H rfl rfl (lt_ rfl) fun a H => ?_
       exact Ans.fin H rfl
      ·refine Ans.mk rfl rfl fun a H => s_nil H rfl rfl (lt_ rfl) fun a H => ?_
       exact Ans.fin H rfl
      ·refine Ans.mk rfl rfl fun a H => s_fld H rfl rfl fld_95_2 (lt_ rfl) fun a H => ?_
       exact Ans.fin H rfl
      ·refine Ans.mk rfl rfl fun a H => s_load (v := (.i l152)) H rfl rfl one_3 hc153 (lt_ rfl) fun a H => ?_
       exact Ans.fin H rfl
      ·refine Ans.mk rfl rfl fun a H => s_move H rfl rfl (lt_ rfl) fun a H => ?_
       exact Ans.fin H rfl
      ·intro a H
       replace H := H.weaken (L' := [(68, (.pointer l150)), (72, (.i l152)), (73, d91.v)]) ⟨rfl, rfl, rfl, trivial⟩
       refine s_call H rfl body_45 (H.args (vs := [(.pointer l150), (.i l152), d91.v]) rfl) (lt_ rfl) h ?_ (fun c w' h H => e_panic (P := PP) (fn := Tryz.f20) H h)
       clear H h a
       rintro _ w154 a ⟨A155, rfl, h⟩ H
       refine c_nil <| effQ.go [] H rfl rfl <| Stg.eff [] (by kernel_rfl) rfl .nil ?_
       ·intro a H
        replace H := H.weaken (L' := [(74, (.i A155))]) ⟨rfl, trivial⟩
        refine s_call H rfl body_44 (H.args (vs := [(.string (ByteArray.mk #[97, 112, 112, 101, 110, 100])), (.i A155)]) rfl) (lt_ rfl) h ?_ (fun c w' h H => e_panic (P := PP) (fn := Tryz.f20) H h)
        clear H h a
        rintro w157 w156 a ⟨_, rfl, h⟩ H
        refine c_nil <| effQ.go [(11, w157)] H rfl rfl <| Stg.fin [11] (by kernel_rfl) (.cons ?_ .nil) ?_
        ·refine Ans.mk rfl rfl fun a H => s_assign H rfl rfl (lt_ rfl) fun a H => ?_
         exact Ans.fin H rfl
        ·intro a H
         replace H := H.weaken (L' := [(0, (.pointer (some a10))), (8, (.pointer (some (blk b84)))), (9, d91.v), (14, w157)]) ⟨rfl, rfl, rfl, rfl, trivial⟩
         refine hK149 _ _ <| c_seq fun K158 hK158 => c_reg <| s_move H rfl rfl (lt_ rfl) fun a H => ?_
         obtain ⟨n160, h159, h⟩ := h
         refine s_bin H rfl rfl rfl (r_neN ifc_83 h159) (lt_ rfl) fun a H => c_nil <| hK158 _ _ <| c_cond H rfl (fun h161 => ?_) (fun h161 => ?_)
         ·replace h := h.1 h161
          refine c_seq fun K162 hK162 => c_reg <| s_move H rfl rfl (lt_ rfl) fun a H => s_move H rfl rfl (lt_ rfl) fun a H => s_call H rfl body_40 (H.args (vs := [(.pointer (some a10)), w157]) rfl) (lt_ rfl) h ?_ (fun c w' h H => e_panic (P := PP) (fn := Tryz.f20) H h)
          clear H h a
          rintro _ w163 a ⟨f164, rfl, h⟩ H
          refine s_assign H rfl rfl (lt_ rfl) fun a H => c_nil <| hK162 _ _ <| c_ret ?_
          exact e_ret1 H rfl rfl h
         ·replace h := h.2 h161
          refine c_skip <| hK148 _ _ <| c_seq fun K169 hK169 => c_seq fun K170 hK170 => ?_
          replace H := H.weaken (L' := [(0, (.pointer (some a10))), (8, (.pointer (some (blk b84)))), (9, d91.v)]) ⟨rfl, rfl, rfl, trivial⟩
          obtain ⟨l171, hc172, l173, hc174, h⟩ := h
          refine c_any (V := [(0, (.pointer (some a10))), (1, (.pointer (some a10))), (2, (.pointer (some (a10.add 0)))), (3, (.pointer l171)), (4, (.pointer (some a10))), (5, (.pointer (some a10))), (6, (.pointer (some (a10.add 5)))), (7, (.i l173))]) (⟨[[], [0], [1], [2], [], [4], [5], [6], [3, 7], [8], [0, 1, 2, 3, 4, 5, 6, 7, 8, 9]], [some 81, some 82, some 83, some 84, some 85, some 86, some 87, some 88, some 89, some 90, some 15], [8, 9], [0, 0, 0, 0, 0, 0, 0, 0, 0, 1, 2], [0, 0, 0, 0, 0, 0, 0, 0, 1, 2, 2]⟩ : Rg) [(0, (.pointer (some a10))), (8, (.pointer (some (blk b84)))), (9, d91.v)] mixed (by kernel_rfl) H ?_
          refine Stg.eff [0, 1, 2, 3, 4, 5, 6, 7] (by kernel_rfl) rfl (.cons ?_ (.cons ?_ (.cons ?_ (.cons ?_ (.cons ?_ (.cons ?_ (.cons ?_ (.cons ?_ .nil)))))))) ?_
          ·refine Ans.mk rfl rfl fun a H => s_move H rfl rfl (lt_ rfl) fun a H => ?_
           exact Ans.fin H rfl
          ·refine Ans.mk rfl rfl fun a H => s_nil H rfl rfl (lt_ rfl) fun a H => ?_
           exact Ans.fin H rfl
          ·refine Ans.mk rfl rfl fun a H => s_fld H rfl rfl fld_95_0 (lt_ rfl) fun a H => ?_
           exact Ans.fin H rfl
          ·refine Ans.mk rfl rfl fun a H => s_load (v := (.pointer l171)) H rfl rfl one_33 hc172 (lt_ rfl) fun a H => ?_
           exact Ans.fin H rfl
          ·refine Ans.mk rfl rfl fun a H => s_move H rfl rfl (lt_ rfl) fun a H => ?_
           exact Ans.fin H rfl
          ·refine Ans.mk rfl rfl fun a H => s_nil H rfl rfl (lt_ rfl) fun a H => ?_
           exact Ans.fin H rfl
          ·refine Ans.mk rfl rfl fun a H => s_fld H rfl rfl fld_95_2 (lt_ rfl) fun a H => ?_
           exact Ans.fin H rfl
          ·refine Ans.mk rfl rfl fun a H => s_load (v := (.i l173)) H rfl rfl one_3 hc174 (lt_ rfl) fun a H => ?_
           exact Ans.fin H rfl
          ·intro a H
           replace H := H.weaken (L' := [(84, (.pointer l171)), (88, (.i l173))]) ⟨rfl, rfl, trivial⟩
           refine s_call H rfl body_46 (H.args (vs := [(.pointer l171), (.i l173)]) rfl) (lt_ rfl) h ?_ (fun c w' h H => e_panic (P := PP) (fn := Tryz.f20) H h)
           clear H h a
           rintro _ w175 a ⟨S176, rfl, h⟩ H
           refine c_nil <| effQ.go [] H rfl rfl <| Stg.eff [] (by kernel_rfl) rfl .nil ?_
           ·intro a H
            replace H := H.weaken (L' := [(89, (.i S176))]) ⟨rfl, trivial⟩
            refine s_call H rfl body_44 (H.args (vs := [(.string (ByteArray.mk #[115, 121, 110, 99])), (.i S176)]) rfl) (lt_ rfl) h ?_ (fun c w' h H => e_panic (P := PP) (fn := Tryz.f20) H h)
            clear H h a
            rintro w178 w177 a ⟨_, rfl, h⟩ H
            refine c_nil <| effQ.go [(10, w178)] H rfl rfl <| Stg.fin [10] (by kernel_rfl) (.cons ?_ .nil) ?_
            ·refine Ans.mk rfl rfl fun a H => s_assign H rfl rfl (lt_ rfl) fun a H => ?_
             exact Ans.fin H rfl
            ·intro a H
             replace H := H.weaken (L' := [(0, (.pointer (some a10))), (8, (.pointer (some (blk b84)))), (9, d91.v), (15, w178)]) ⟨rfl, rfl, rfl, rfl, trivial⟩
             refine hK170 _ _ <| c_seq fun K179 hK179 => c_reg <| s_move H rfl rfl (lt_ rfl) fun a H => ?_
             obtain ⟨n181, h180, h⟩ := h
             refine s_bin H rfl rfl rfl (r_neN ifc_83 h180) (lt_ rfl) fun a H => c_nil <| hK179 _ _ <| c_cond H rfl (fun h182 => ?_) (fun h182 => ?_)
             ·replace h := h.1 h182
              refine c_seq fun K183 hK183 => c_reg <| s_move H rfl rfl (lt_ rfl) fun a H => s_move H rfl rfl (lt_ rfl) fun a H => s_call H rfl body_40 (H.args (vs := [(.pointer (some a10)), w178]) rfl) (lt_ rfl) h ?_ (fun c w' h H => e_panic (P := PP) (fn := Tryz.f20) H h)
              clear H h a
              rintro _ w184 a ⟨f185, rfl, h⟩ H
              refine s_assign H rfl rfl (lt_ rfl) fun a H => c_nil <| hK183 _ _ <| c_ret ?_
              exact e_ret1 H rfl rfl h
             ·replace h := h.2 h182
              refine c_skip <| hK169 _ _ <| c_seq fun K190 hK190 => c_reg <| s_move H rfl rfl (lt_ rfl) fun a H => s_nil H rfl rfl (lt_ rfl) fun a H => s_fld H rfl rfl fld_95_3 (lt_ rfl) fun a H => ?_
              obtain ⟨h192, h193, h⟩ := h
              refine s_sto (p := a10.add 6) (v := (.pointer (some (blk b84)))) H rfl rfl rfl rfl one_93 rfl h192 h193 ?_
              clear H
              intro H
              generalize hww191 : World.setCell w177 (a10.add 6) (.pointer (some (blk b84))) = w191 at h ⊢
              have w191S : SetAt w177 (a10.add 6) (.pointer (some (blk b84))) w191 := ⟨hww191.symm⟩
              clear hww191 h192 h193
              refine c_nil <| hK190 _ _ <| c_seq fun K194 hK194 => c_reg <| s_move H rfl rfl (lt_ rfl) fun a H => s_nil H rfl rfl (lt_ rfl) fun a H => s_fld H rfl rfl fld_95_4 (lt_ rfl) fun a H => ?_
              obtain ⟨l195, hc196, h⟩ := h
              refine s_load (v := (.i l195)) H rfl rfl one_3 hc196 (lt_ rfl) fun a H => s_move H rfl rfl (lt_ rfl) fun a H => s_blt H rfl (H.args (vs := [d91.v]) rfl) (lt_ rfl) (fun cs => b_lenS (z := d91) sl_51) fun a H => s_bin H rfl rfl rfl r_add (lt_ rfl) fun a H => s_nil H rfl rfl (lt_ rfl) fun a H => s_fld H rfl rfl fld_95_4 (lt_ rfl) fun a H => ?_
              obtain ⟨h198, h199, h⟩ := h
              refine s_sto (p := a10.add 7) (v := (.i (wr .i64 (l195 + (d91.l : Int))))) H rfl rfl rfl rfl one_3 rfl h198 h199 ?_
              clear H
              intro H
              generalize hww197 : World.setCell w191 (a10.add 7) (.i (wr .i64 (l195 + (d91.l : Int)))) = w197 at h ⊢
              have w197S : SetAt w191 (a10.add 7) (.i (wr .i64 (l195 + (d91.l : Int)))) w197 := ⟨hww197.symm⟩
              clear hww197 h198 h199
              refine c_nil <| hK194 _ _ <| c_seq fun K200 hK200 => c_reg <| s_assign H rfl rfl (lt_ rfl) fun a H => c_nil <| hK200 _ _ <| c_ret ?_
              exact e_ret1 H rfl rfl h

end Go.Proofs.YtflcdgkckfcofaaGreatDoor
