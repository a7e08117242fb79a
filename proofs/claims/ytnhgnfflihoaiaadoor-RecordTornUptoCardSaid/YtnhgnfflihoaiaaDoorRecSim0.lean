/-
  The conditions give the machine's calls; printed by vcgen.py.
-/
import Derived.Test.YtnhgnfflihoaiaaDoorRecVc
namespace Go.Proofs.YtnhgnfflihoaiaaDoor
open Go Go.Vc
set_option maxRecDepth 100000 in
set_option maxHeartbeats 4000000 in
theorem sim_sherdlaw11_RecordWrites (N1 : Int) (K2 : Int) (Delta3 : Int) (Serve4 : Int) (us5 : Slc) (w : World) (Q : Ending → World → Prop) (h : vc_sherdlaw11_RecordWrites N1 K2 Delta3 Serve4 us5 w Q) : Calls PP F_sherdlaw11_RecordWrites #[(.agg #[(.int .i64 N1), (.int .i64 K2), (.int .i64 Delta3), (.int .i64 Serve4)]), (Slc.v us5)] w Q := by
 unfold vc_sherdlaw11_RecordWrites at h
 refine enter (n := 79) (l := [(.agg #[(.int .i64 N1), (.int .i64 K2), (.int .i64 Delta3), (.int .i64 Serve4)]), (Slc.v us5)]) Tryd.func3 rfl rfl (Nat.le_of_ble_eq_true rfl) fun a H => ?_
 replace H : Has 79 [] a [(0, (.agg #[(.int .i64 N1), (.int .i64 K2), (.int .i64 Delta3), (.int .i64 Serve4)])), (1, (Slc.v us5))] := H
 refine c_seq fun K6 hK6 => c_reg ?_
 replace h := h.get
 obtain ⟨b7, w8, nb9, h⟩ := h
 refine s_box H rfl rfl (lt_ rfl) ?_
 rw [← nb9.at_]
 clear H a
 intro a H
 refine nb9.go <| s_assign H rfl rfl (lt_ rfl) fun a H => c_nil <| hK6 _ _ <| c_seq fun K10 hK10 => c_reg <| s_loadN (l := [(.int .i64 N1), (.int .i64 K2), (.int .i64 Delta3), (.int .i64 Serve4)]) H rfl rfl agg_25 rfl ⟨(nb9.cell (i := 0) rfl), (nb9.cell (i := 1) rfl), (nb9.cell (i := 2) rfl), (nb9.cell (i := 3) rfl), trivial⟩ (lt_ rfl) fun a H => ?_
 refine s_call H rfl body_8 (H.args (vs := [(.agg #[(.int .i64 N1), (.int .i64 K2), (.int .i64 Delta3), (.int .i64 Serve4)])]) rfl) (lt_ rfl) h ?_ (fun c w' h H => e_panic (P := PP) (fn := Tryd.f3) H h)
 clear H h a
 rintro _ w11 a ⟨Newr12, Newr13, Newr14, rfl, h⟩ H
 refine s_move H rfl rfl (lt_ rfl) fun a H => ?_
 iterate 3 refine s_ext H rfl rfl rfl (lt_ rfl) fun a H => ?_
 iterate 3 refine s_assign H rfl rfl (lt_ rfl) fun a H => ?_
 refine c_nil <| hK10 _ _ <| c_seq fun K15 hK15 => c_reg ?_
 obtain ⟨N16, hc17, h⟩ := h
 obtain ⟨K18, hc19, h⟩ := h
 obtain ⟨Delta20, hc21, h⟩ := h
 obtain ⟨Serve22, hc23, h⟩ := h
 refine s_loadN (l := [(.int .i64 N16), (.int .i64 K18), (.int .i64 Delta20), (.int .i64 Serve22)]) H rfl rfl agg_25 rfl ⟨hc17, hc19, hc21, hc23, trivial⟩ (lt_ rfl) fun a H => s_call H rfl body_9 (H.args (vs := [(.agg #[(.int .i64 N16), (.int .i64 K18), (.int .i64 Delta20), (.int .i64 Serve22)])]) rfl) (lt_ rfl) h ?_ (fun c w' h H => e_panic (P := PP) (fn := Tryd.f3) H h)
 clear H h a
 rintro _ w24 a ⟨Newr25, Newr26, Newr27, rfl, h⟩ H
 refine s_move H rfl rfl (lt_ rfl) fun a H => ?_
 iterate 3 refine s_ext H rfl rfl rfl (lt_ rfl) fun a H => ?_
 iterate 3 refine s_assign H rfl rfl (lt_ rfl) fun a H => ?_
 refine c_nil <| hK15 _ _ <| c_seq fun K28 hK28 => c_seq fun K29 hK29 => c_reg <| s_move H rfl rfl (lt_ rfl) fun a H => s_move H rfl rfl (lt_ rfl) fun a H => s_bin H rfl rfl rfl r_neq (lt_ rfl) fun a H => s_move H rfl rfl (lt_ rfl) fun a H => ?_
 refine g_join (n := 79) [(36, (.bool ((decide (Newr27 ≠ Newr14)) || (decide (Newr25.isNone ≠ Newr12.isNone))))), (1, (Slc.v us5)), (5, (.pointer Newr12)), (6, (Slc.v Newr13)), (8, (.pointer Newr25)), (9, (Slc.v Newr26))] (.succ (.succ (.succ (.succ (.succ (.succ (.zero _))))))) ?_ ?_
 ·intro hr31
  try clear h
  rcases Bool.eq_false_or_eq_true (decide (Newr27 ≠ Newr14)) with hg30 | hg30
  ·replace H := H.ch (t := 30) (b := true) rfl hg30
   iterate 5 refine s_skip H (wantN H rfl rfl rfl) rfl (lt_ rfl) fun a H => ?_
   refine s_pickT H rfl rfl rfl (lt_ rfl) fun a H => ?_
   exact hr31 _ (H.weaken ⟨by rw [hg30]; rfl, rfl, rfl, rfl, rfl, rfl, trivial⟩)
  ·replace H := H.ch (t := 30) (b := false) rfl hg30
   refine s_move H (wantG H rfl rfl) rfl (lt_ rfl) fun a H => s_bin H (wantG H rfl rfl) rfl rfl (r_eqP0 ptr_32) (lt_ rfl) fun a H => s_move H (wantG H rfl rfl) rfl (lt_ rfl) fun a H => s_bin H (wantG H rfl rfl) rfl rfl (r_eqP0 ptr_27) (lt_ rfl) fun a H => s_bin H (wantG H rfl rfl) rfl rfl (r_neB bool_4) (lt_ rfl) fun a H => s_pickF H rfl rfl rfl (lt_ rfl) fun a H => ?_
   exact hr31 _ (H.weaken ⟨by rw [hg30]; rfl, rfl, rfl, rfl, rfl, rfl, trivial⟩)
 ·clear H a
  intro a H
  refine s_move H rfl rfl (lt_ rfl) fun a H => ?_
  obtain ⟨R34, h, hx129⟩ := h
  refine g_joinW (n := 79) R34 (fun x35 => [(42, (.bool x35)), (1, (Slc.v us5)), (5, (.pointer Newr12)), (8, (.pointer Newr25)), (9, (Slc.v Newr26))]) (.succ (.succ (.succ (.succ (.succ (.zero _)))))) ?_ ?_
  ·intro hr33
   clear hx129
   rcases Bool.eq_false_or_eq_true ((decide (Newr27 ≠ Newr14)) || (decide (Newr25.isNone ≠ Newr12.isNone))) with hg32 | hg32
   ·replace H := H.ch (t := 37) (b := true) rfl hg32
    replace h := h.2 hg32
    iterate 4 refine s_skip H (wantN H rfl rfl rfl) rfl (lt_ rfl) fun a H => ?_
    refine s_pickT H rfl rfl rfl (lt_ rfl) fun a H => ?_
    exact hr33 _ _ _ h (H.weaken ⟨rfl, rfl, rfl, rfl, rfl, trivial⟩)
   ·replace H := H.ch (t := 37) (b := false) rfl hg32
    replace h := h.1 hg32
    refine s_move H (wantG H rfl rfl) rfl (lt_ rfl) fun a H => s_move H (wantG H rfl rfl) rfl (lt_ rfl) fun a H => s_call H (wantG H rfl rfl) body_10 (H.args (vs := [(Slc.v Newr26), (Slc.v Newr13)]) rfl) (lt_ rfl) h ?_ (fun c w' h H => e_panic (P := PP) (fn := Tryd.f3) H h)
    clear H h a
    rintro _ w37 a ⟨same38, rfl, h⟩ H
    refine s_un H (wantG H rfl rfl) rfl r_not (lt_ rfl) fun a H => s_pickF H rfl rfl rfl (lt_ rfl) fun a H => ?_
    exact hr33 _ _ _ h (H.weaken ⟨rfl, rfl, rfl, rfl, rfl, trivial⟩)
  ·clear H a h
   intro a x35 w36 h H
   replace h := hx129 x35 w36 h
   clear hx129
   refine c_nil <| hK29 _ _ <| c_cond H rfl (fun hb43 => ?_) (fun hb43 => ?_)
   ·replace h := h.1 hb43
    refine c_seq fun K44 hK44 => c_reg <| s_assign H rfl rfl (lt_ rfl) fun a H => c_nil <| hK44 _ _ <| c_ret ?_
    exact e_ret1 H rfl rfl h
   ·replace h := h.2 hb43
    refine c_skip <| hK28 _ _ <| c_seq fun K45 hK45 => c_seq fun K46 hK46 => c_reg <| s_move H rfl rfl (lt_ rfl) fun a H => s_bin H rfl rfl rfl (r_eqP0 ptr_32) (lt_ rfl) fun a H => s_move H rfl rfl (lt_ rfl) fun a H => g_join (n := 79) [(48, (.bool (Newr25.isNone || Newr12.isNone))), (1, (Slc.v us5)), (5, (.pointer Newr12)), (8, (.pointer Newr25)), (9, (Slc.v Newr26))] (.succ (.succ (.succ (.zero _)))) ?_ ?_
    ·intro hr48
     try clear h
     rcases Bool.eq_false_or_eq_true Newr25.isNone with hg47 | hg47
     ·replace H := H.ch (t := 45) (b := true) rfl hg47
      refine s_skip H (wantN H rfl rfl rfl) rfl (lt_ rfl) fun a H => s_skip H (wantN H rfl rfl rfl) rfl (lt_ rfl) fun a H => s_pickT H rfl rfl rfl (lt_ rfl) fun a H => ?_
      exact hr48 _ (H.weaken ⟨by rw [hg47]; rfl, rfl, rfl, rfl, rfl, trivial⟩)
     ·replace H := H.ch (t := 45) (b := false) rfl hg47
      refine s_move H (wantG H rfl rfl) rfl (lt_ rfl) fun a H => s_bin H (wantG H rfl rfl) rfl rfl (r_eqP0 ptr_27) (lt_ rfl) fun a H => s_pickF H rfl rfl rfl (lt_ rfl) fun a H => ?_
      exact hr48 _ (H.weaken ⟨by rw [hg47]; rfl, rfl, rfl, rfl, rfl, trivial⟩)
    ·clear H a
     intro a H
     refine c_nil <| hK46 _ _ <| c_cond H rfl (fun hb49 => ?_) (fun hb49 => ?_)
     ·replace h := h.1 hb49
      refine c_seq fun K50 hK50 => c_reg <| s_call H rfl body_11 (H.args (vs := []) rfl) (lt_ rfl) h ?_ (fun c w' h H => e_panic (P := PP) (fn := Tryd.f3) H h)
      clear H h a
      rintro _ w51 a ⟨silen52, rfl, h⟩ H
      refine s_assign H rfl rfl (lt_ rfl) fun a H => c_nil <| hK50 _ _ <| c_ret ?_
      exact e_ret1 H rfl rfl h
     ·replace h := h.2 hb49
      refine c_skip <| hK45 _ _ <| c_seq fun K57 hK57 => c_reg <| s_move H rfl rfl (lt_ rfl) fun a H => ?_
      replace h := h.get
      obtain ⟨b58, w59, nb60, h⟩ := h
      refine s_bslc H rfl (by rw [H.parts (vs := [(0, (Slc.v Newr26))]) rfl]; exact bs_37_1_s0 w36 Newr26) (lt_ rfl) ?_
      rw [← nb60.at_]
      clear H a
      intro a H
      refine nb60.go <| s_assign H rfl rfl (lt_ rfl) fun a H => c_nil <| hK57 _ _ <| c_seq fun K61 hK61 => c_seq fun K62 hK62 => c_reg <| s_assign H rfl rfl (lt_ rfl) fun a H => c_nil <| hK62 _ _ <| c_block ?_
      obtain ⟨I66, mu67, h0127, hl128⟩ := h
      refine c_loop (σ := Slc × Int) (fun z w => I66 z.1 z.2 w) (fun z w => mu67 z.1 z.2 w) (fun z => [(1, (Slc.v us5)), (5, (.pointer Newr12)), (8, (.pointer Newr25)), (11, (Slc.v z.1)), (12, (.int .i64 z.2))]) (Slc.mk (some (blk b58)) 1 1, 0) h0127 (H.weaken ⟨rfl, rfl, rfl, rfl, rfl, trivial⟩) ?_
      clear H h0127
      rintro ⟨all63, i64⟩ a w65 h H
      replace h := hl128 all63 i64 w65 h
      clear hl128
      replace H : Has 79 [] a [(1, (Slc.v us5)), (5, (.pointer Newr12)), (8, (.pointer Newr25)), (11, (Slc.v all63)), (12, (.int .i64 i64))] := H
      refine c_seq fun K68 hK68 => c_seq fun K69 hK69 => c_reg <| s_move H rfl rfl (lt_ rfl) fun a H => s_move H rfl rfl (lt_ rfl) fun a H => s_blt H rfl (H.args (vs := [(Slc.v us5)]) rfl) (lt_ rfl) (fun cs => b_lenS (z := us5) sl_26) fun a H => s_bin H rfl rfl rfl r_lss (lt_ rfl) fun a H => c_nil <| hK69 _ _ <| c_cond H rfl (fun hb70 => ?_) (fun hb70 => ?_)
      ·replace h := h.1 hb70
       refine c_skip <| hK68 _ _ <| c_seq fun K71 hK71 => c_block <| c_seq fun K72 hK72 => c_reg ?_
       iterate 4 refine s_move H rfl rfl (lt_ rfl) fun a H => ?_
       obtain ⟨a73, hi74, hi75, hi76, h⟩ := h
       refine s_idxS (s := us5) H rfl rfl rfl slc_26 hi74 hi75 hi76 (lt_ rfl) fun a H => ?_
       obtain ⟨Kind77, hc78, h⟩ := h
       obtain ⟨Key79, hc80, h⟩ := h
       obtain ⟨Count81, hc82, h⟩ := h
       obtain ⟨Clien83, hc84, h⟩ := h
       obtain ⟨Fin85, hc86, h⟩ := h
       obtain ⟨Has87, hc88, h⟩ := h
       obtain ⟨Data89, hc90, h⟩ := h
       refine s_loadN (l := [(.int .i64 Kind77), (.string Key79), (.int .i64 Count81), (.int .i64 Clien83), (.bool Fin85), (.bool Has87), (Slc.v Data89)]) H rfl rfl agg_45 rfl ⟨hc78, hc80, hc82, hc84, hc86, hc88, hc90, trivial⟩ (lt_ rfl) fun a H => ?_
       refine s_call H rfl body_12 (H.args (vs := [(.pointer Newr25), (.pointer Newr12), (.agg #[(.int .i64 Kind77), (.string Key79), (.int .i64 Count81), (.int .i64 Clien83), (.bool Fin85), (.bool Has87), (Slc.v Data89)])]) rfl) (lt_ rfl) h ?_ (fun c w' h H => e_panic (P := PP) (fn := Tryd.f3) H h)
       clear H h a
       rintro _ w91 a ⟨putti92, putti93, rfl, h⟩ H
       refine s_move H rfl rfl (lt_ rfl) fun a H => s_ext H rfl rfl rfl (lt_ rfl) fun a H => s_ext H rfl rfl rfl (lt_ rfl) fun a H => s_assign H rfl rfl (lt_ rfl) fun a H => s_assign H rfl rfl (lt_ rfl) fun a H => c_nil <| hK72 _ _ <| c_seq fun K94 hK94 => c_seq fun K95 hK95 => c_reg <| s_move H rfl rfl (lt_ rfl) fun a H => s_un H rfl rfl r_not (lt_ rfl) fun a H => c_nil <| hK95 _ _ <| c_cond H rfl (fun hb96 => ?_) (fun hb96 => ?_)
       ·replace h := h.1 hb96
        refine c_seq fun K97 hK97 => c_reg <| s_assign H rfl rfl (lt_ rfl) fun a H => c_nil <| hK97 _ _ <| c_ret ?_
        exact e_ret1 H rfl rfl h
       ·replace h := h.2 hb96
        refine c_skip <| hK94 _ _ <| c_reg <| s_move H rfl rfl (lt_ rfl) fun a H => s_move H rfl rfl (lt_ rfl) fun a H => ?_
        replace h := h.get
        obtain ⟨b98, w99, nb100, h⟩ := h
        refine s_bslc H rfl (by rw [H.parts (vs := [(0, (Slc.v putti92))]) rfl]; exact bs_37_1_s0 w91 putti92) (lt_ rfl) ?_
        rw [← nb100.at_]
        clear H a
        intro a H
        refine nb100.go ?_
        obtain ⟨s101, w102, hq103, h⟩ := h
        refine s_blt H rfl (H.args (vs := [(Slc.v all63), (Slc.v (Slc.mk (some (blk b98)) 1 1))]) rfl) (lt_ rfl) (fun cs => b_app (z := s101) hq103) ?_
        clear H a hq103
        intro a H
        refine s_assign H rfl rfl (lt_ rfl) fun a H => c_nil <| hK71 _ _ <| c_reg <| s_move H rfl rfl (lt_ rfl) fun a H => s_bin H rfl rfl rfl r_add (lt_ rfl) fun a H => s_assign H rfl rfl (lt_ rfl) fun a H => c_nil <| Exists.intro (s101, wr .i64 (i64 + 1)) ⟨h.1, h.2, H.weaken ⟨rfl, rfl, rfl, rfl, rfl, trivial⟩⟩
      ·replace h := h.2 hb70
       refine c_exit ?_
       first | (simp only [Exit.then, Exit.inBlock, ↓reduceIte]; fail_if_success simp only [Nat.reduceEqDiff]) | simp only [Exit.then, Exit.inBlock, ↓reduceIte, Nat.reduceEqDiff]
       refine hK61 _ _ <| c_seq fun K108 hK108 => c_reg <| s_move H rfl rfl (lt_ rfl) fun a H => s_call H rfl body_13 (H.args (vs := [(Slc.v all63)]) rfl) (lt_ rfl) h ?_ (fun c w' h H => e_panic (P := PP) (fn := Tryd.f3) H h)
       clear H h a
       rintro _ w109 a ⟨apart110, rfl, h⟩ H
       refine s_move H rfl rfl (lt_ rfl) fun a H => ?_
       obtain ⟨R113, h, hx122⟩ := h
       refine g_joinW (n := 79) R113 (fun x114 => [(78, (.bool x114))]) (.succ (.succ (.zero _))) ?_ ?_
       ·intro hr112
        clear hx122
        rcases Bool.eq_false_or_eq_true apart110 with hg111 | hg111
        ·replace H := H.ch (t := 76) (b := true) rfl hg111
         replace h := h.1 hg111
         refine s_call H (wantG H rfl rfl) body_11 (H.args (vs := []) rfl) (lt_ rfl) h ?_ (fun c w' h H => e_panic (P := PP) (fn := Tryd.f3) H h)
         clear H h a
         rintro _ w116 a ⟨silen117, rfl, h⟩ H
         refine s_pickT H rfl rfl rfl (lt_ rfl) fun a H => ?_
         exact hr112 _ _ _ h (H.weaken ⟨rfl, trivial⟩)
        ·replace H := H.ch (t := 76) (b := false) rfl hg111
         replace h := h.2 hg111
         refine s_skip H (wantN H rfl rfl rfl) rfl (lt_ rfl) fun a H => s_pickF H rfl rfl rfl (lt_ rfl) fun a H => ?_
         exact hr112 _ _ _ h (H.weaken ⟨rfl, trivial⟩)
       ·clear H a h
        intro a x114 w115 h H
        replace h := hx122 x114 w115 h
        clear hx122
        refine s_assign H rfl rfl (lt_ rfl) fun a H => c_nil <| hK108 _ _ <| c_ret ?_
        exact e_ret1 H rfl rfl h

set_option maxRecDepth 100000 in
set_option maxHeartbeats 4000000 in
theorem sim_sherdlaw11_RecordSpoilt (N1 : Int) (K2 : Int) (Delta3 : Int) (Serve4 : Int) (Updat5 : Slc) (at6 : Int) (by7 : Int) (w : World) (Q : Ending → World → Prop) (h : vc_sherdlaw11_RecordSpoilt N1 K2 Delta3 Serve4 Updat5 at6 by7 w Q) : Calls PP F_sherdlaw11_RecordSpoilt #[(.agg #[(.int .i64 N1), (.int .i64 K2), (.int .i64 Delta3), (.int .i64 Serve4), (Slc.v Updat5)]), (.int .i64 at6), (.int .i64 by7)] w Q := by
 unfold vc_sherdlaw11_RecordSpoilt at h
 refine enter (n := 129) (l := [(.agg #[(.int .i64 N1), (.int .i64 K2), (.int .i64 Delta3), (.int .i64 Serve4), (Slc.v Updat5)]), (.int .i64 at6), (.int .i64 by7)]) Tryd.func4 rfl rfl (Nat.le_of_ble_eq_true rfl) fun a H => ?_
 replace H : Has 129 [] a [(0, (.agg #[(.int .i64 N1), (.int .i64 K2), (.int .i64 Delta3), (.int .i64 Serve4), (Slc.v Updat5)])), (1, (.int .i64 at6)), (2, (.int .i64 by7))] := H
 refine c_seq fun K8 hK8 => c_reg ?_
 replace h := h.get
 obtain ⟨b9, w10, nb11, h⟩ := h
 refine s_box H rfl rfl (lt_ rfl) ?_
 rw [← nb11.at_]
 clear H a
 intro a H
 refine nb11.go <| s_assign H rfl rfl (lt_ rfl) fun a H => c_nil <| hK8 _ _ <| c_seq fun K12 hK12 => c_reg <| s_loadN (l := [(.int .i64 N1), (.int .i64 K2), (.int .i64 Delta3), (.int .i64 Serve4), (Slc.v Updat5)]) H rfl rfl agg_49 rfl ⟨(nb11.cell (i := 0) rfl), (nb11.cell (i := 1) rfl), (nb11.cell (i := 2) rfl), (nb11.cell (i := 3) rfl), (nb11.cell (i := 4) rfl), trivial⟩ (lt_ rfl) fun a H => ?_
 refine s_call H rfl body_14 (H.args (vs := [(.agg #[(.int .i64 N1), (.int .i64 K2), (.int .i64 Delta3), (.int .i64 Serve4), (Slc.v Updat5)])]) rfl) (lt_ rfl) h ?_ (fun c w' h H => e_panic (P := PP) (fn := Tryd.f4) H h)
 clear H h a
 rintro _ w13 a ⟨N14, K15, Delta16, Serve17, writt18, writt19, writt20, writt21, rfl, h⟩ H
 refine s_move H rfl rfl (lt_ rfl) fun a H => ?_
 iterate 5 refine s_ext H rfl rfl rfl (lt_ rfl) fun a H => ?_
 replace h := h.get
 obtain ⟨b22, w23, nb24, h⟩ := h
 refine s_alloc H rfl zero_25 (lt_ rfl) ?_
 rw [← nb24.at_]
 clear H a
 intro a H
 refine nb24.go <| s_stoN (l := [(.int .i64 N14), (.int .i64 K15), (.int .i64 Delta16), (.int .i64 Serve17)]) H rfl rfl rfl rfl agg_25 rfl rfl h ?_
 clear h H
 intro w25 h H
 iterate 4 refine s_assign H rfl rfl (lt_ rfl) fun a H => ?_
 refine c_nil <| hK12 _ _ <| c_seq fun K26 hK26 => c_seq fun K27 hK27 => c_reg <| s_move H rfl rfl (lt_ rfl) fun a H => s_bin H rfl rfl rfl (r_eqP0 ptr_32) (lt_ rfl) fun a H => c_nil <| hK27 _ _ <| c_cond H rfl (fun hb28 => ?_) (fun hb28 => ?_)
 ·replace h := h.1 hb28
  refine c_seq fun K29 hK29 => c_reg <| s_assign H rfl rfl (lt_ rfl) fun a H => c_nil <| hK29 _ _ <| c_ret ?_
  exact e_ret1 H rfl rfl h
 ·replace h := h.2 hb28
  refine c_skip <| hK26 _ _ <| c_seq fun K30 hK30 => c_reg <| s_move H rfl rfl (lt_ rfl) fun a H => s_move H rfl rfl (lt_ rfl) fun a H => s_blt H rfl (H.args (vs := [(Slc.v writt18)]) rfl) (lt_ rfl) (fun cs => b_lenS (z := writt18) sl_28) fun a H => s_call H rfl body_15 (H.args (vs := [(.int .i64 at6), (.int .i64 (writt18.l : Int))]) rfl) (lt_ rfl) h ?_ (fun c w' h H => e_panic (P := PP) (fn := Tryd.f4) H h)
  clear H h a
  rintro _ w31 a ⟨mod32, rfl, h⟩ H
  refine s_assign H rfl rfl (lt_ rfl) fun a H => c_nil <| hK30 _ _ <| c_seq fun K33 hK33 => c_reg <| s_assign H rfl rfl (lt_ rfl) fun a H => c_nil <| hK33 _ _ <| c_seq fun K34 hK34 => c_reg <| s_assign H rfl rfl (lt_ rfl) fun a H => c_nil <| hK34 _ _ <| c_seq fun K35 hK35 => ?_
  obtain ⟨R38, h, hx189⟩ := h
  have hJ165 : ∀ (a : Act) (piece36 : Int) (from37 : Int) (w39 : World), R38 piece36 from37 w39 → Has 129 [] a [(2, (.int .i64 by7)), (8, (Slc.v writt18)), (9, (Slc.v writt19)), (10, (Slc.v writt20)), (12, (.int .i64 mod32)), (13, (.int .i64 piece36)), (14, (.int .i64 from37))] → K35 a w39 := by
   clear h
   intro a piece36 from37 w39 h H
   replace h := hx189 piece36 from37 w39 h
   refine hK35 _ _ <| c_seq fun K40 hK40 => c_reg <| s_move H rfl rfl (lt_ rfl) fun a H => s_bin H rfl rfl rfl r_add (lt_ rfl) fun a H => s_assign H rfl rfl (lt_ rfl) fun a H => c_nil <| hK40 _ _ <| c_seq fun K41 hK41 => ?_
   obtain ⟨R43, h, hx164⟩ := h
   have hJ143 : ∀ (a : Act) (body42 : Int) (w44 : World), R43 body42 w44 → Has 129 [] a [(2, (.int .i64 by7)), (8, (Slc.v writt18)), (9, (Slc.v writt19)), (10, (Slc.v writt20)), (12, (.int .i64 mod32)), (13, (.int .i64 piece36)), (15, (.int .i64 body42))] → K41 a w44 := by
    clear h
    intro a body42 w44 h H
    replace h := hx164 body42 w44 h
    refine hK41 _ _ <| c_seq fun K45 hK45 => c_reg ?_
    replace h := h.get
    obtain ⟨b46, w47, nb48, h⟩ := h
    refine s_bslc H rfl (by rw [H.parts (vs := []) rfl]; exact bs_28_0 w44) (lt_ rfl) ?_
    rw [← nb48.at_]
    clear H a
    intro a H
    refine nb48.go <| s_move H rfl rfl (lt_ rfl) fun a H => ?_
    obtain ⟨s49, w50, hq51, h⟩ := h
    refine s_blt H rfl (H.args (vs := [(Slc.v (Slc.mk (some (blk b46)) 0 0)), (Slc.v writt18)]) rfl) (lt_ rfl) (fun cs => b_app (z := s49) hq51) ?_
    clear H a hq51
    intro a H
    refine s_assign H rfl rfl (lt_ rfl) fun a H => c_nil <| hK45 _ _ <| c_seq fun K52 hK52 => ?_
    replace H := H.weaken (L' := [(2, (.int .i64 by7)), (9, (Slc.v writt19)), (10, (Slc.v writt20)), (12, (.int .i64 mod32)), (13, (.int .i64 piece36)), (15, (.int .i64 body42)), (16, (Slc.v s49))]) ⟨rfl, rfl, rfl, rfl, rfl, rfl, rfl, trivial⟩
    obtain ⟨a53, hi54, hi55, hi56, h⟩ := h
    obtain ⟨l57, hc58, h⟩ := h
    refine c_any (V := [(0, (Slc.v s49)), (1, (.int .i64 mod32)), (2, (.pointer (some (a53.add (Int.toNat (mod32) * 1))))), (3, (.int .u8 l57)), (4, (.int .i64 by7))]) (⟨[[], [], [0, 1], [2], [], [4], [5], [6], [3, 7], [0, 1, 2, 3, 4, 5, 6, 7, 8], [0, 1, 2, 3, 4, 5, 6, 7, 8, 9]], [some 69, some 70, some 71, some 72, some 73, some 74, some 75, some 76, some 77, some 78, none], [5, 10], [0, 0, 0, 0, 0, 0, 1, 1, 1, 1, 1], [1, 1, 1, 1, 0, 1, 1, 1, 1, 1, 2]⟩ : Rg) [(2, (.int .i64 by7)), (9, (Slc.v writt19)), (10, (Slc.v writt20)), (12, (.int .i64 mod32)), (13, (.int .i64 piece36)), (15, (.int .i64 body42)), (16, (Slc.v s49))] mixed (by kernel_rfl) H ?_
    refine Stg.eff [0, 1, 2, 3, 4] (by kernel_rfl) rfl (.cons ?_ (.cons ?_ (.cons ?_ (.cons ?_ (.cons ?_ .nil))))) ?_
    ·refine Ans.mk rfl rfl fun a H => ?_
     replace H := H.weaken (L' := [(16, (Slc.v s49))]) ⟨rfl, trivial⟩
     refine s_move H rfl rfl (lt_ rfl) fun a H => c_nil ⟨rfl, rfl, H.weaken (L' := [(69, (Slc.v s49))]) ⟨rfl, trivial⟩⟩
    ·refine Ans.mk rfl rfl fun a H => ?_
     replace H := H.weaken (L' := [(12, (.int .i64 mod32))]) ⟨rfl, trivial⟩
     refine s_move H rfl rfl (lt_ rfl) fun a H => c_nil ⟨rfl, rfl, H.weaken (L' := [(70, (.int .i64 mod32))]) ⟨rfl, trivial⟩⟩
    ·refine Ans.mk rfl rfl fun a H => ?_
     replace H := H.weaken (L' := [(69, (Slc.v s49)), (70, (.int .i64 mod32))]) ⟨rfl, rfl, trivial⟩
     refine s_idxS (s := s49) H rfl rfl rfl slc_28 hi54 hi55 hi56 (lt_ rfl) fun a H => c_nil ⟨rfl, rfl, H.weaken (L' := [(71, (.pointer (some (a53.add (Int.toNat (mod32) * 1)))))]) ⟨rfl, trivial⟩⟩
    ·refine Ans.mk rfl rfl fun a H => ?_
     replace H := H.weaken (L' := [(71, (.pointer (some (a53.add (Int.toNat (mod32) * 1)))))]) ⟨rfl, trivial⟩
     refine s_load (v := (.int .u8 l57)) H rfl rfl one_5 hc58 (lt_ rfl) fun a H => c_nil ⟨rfl, rfl, H.weaken (L' := [(72, (.int .u8 l57))]) ⟨rfl, trivial⟩⟩
    ·refine Ans.mk rfl rfl fun a H => ?_
     replace H := H.weaken (L' := [(2, (.int .i64 by7))]) ⟨rfl, trivial⟩
     refine s_move H rfl rfl (lt_ rfl) fun a H => c_nil ⟨rfl, rfl, H.weaken (L' := [(73, (.int .i64 by7))]) ⟨rfl, trivial⟩⟩
    ·intro a H
     replace H := H.weaken (L' := [(73, (.int .i64 by7))]) ⟨rfl, trivial⟩
     refine s_call H rfl body_15 (H.args (vs := [(.int .i64 by7), (.int .i64 255)]) rfl) (lt_ rfl) h ?_ (fun c w' h H => e_panic (P := PP) (fn := Tryd.f4) H h)
     clear H h a
     rintro _ w59 a ⟨mod60, rfl, h⟩ H
     refine c_nil ?_
     obtain ⟨hc61, h⟩ := h
     obtain ⟨a62, hi63, hi64, hi65, h⟩ := h
     refine effQ.ok (v := (.int .i64 mod60)) (H.weaken (L' := [(74, (.int .i64 mod60))]) ⟨rfl, trivial⟩) ⟨[(0, (Slc.v s49)), (1, (.int .i64 mod32)), (2, (.pointer (some (a53.add (Int.toNat (mod32) * 1))))), (3, (.int .u8 l57)), (4, (.int .i64 by7)), (5, (.int .i64 mod60)), (6, (.int .i64 (wr .i64 (1 + mod60)))), (7, (.int .u8 (wr .u8 (wr .i64 (1 + mod60))))), (8, (.int .u8 (xorI .u8 l57 (wr .u8 (wr .i64 (1 + mod60)))))), (9, (.pointer (some (a62.add (Int.toNat (mod32) * 1)))))], ⟨rfl, rfl, rfl, rfl, rfl, rfl, trivial⟩, ?_⟩
     refine Stg.eff [0, 1, 2, 3, 6, 7, 8, 9] (by kernel_rfl) rfl (.cons ?_ (.cons ?_ (.cons ?_ (.cons ?_ (.cons ?_ (.cons ?_ (.cons ?_ (.cons ?_ .nil)))))))) ?_
     ·refine Ans.mk rfl rfl fun a H => ?_
      replace H := H.weaken (L' := [(16, (Slc.v s49))]) ⟨rfl, trivial⟩
      refine s_move H rfl rfl (lt_ rfl) fun a H => c_nil ⟨rfl, rfl, H.weaken (L' := [(69, (Slc.v s49))]) ⟨rfl, trivial⟩⟩
     ·refine Ans.mk rfl rfl fun a H => ?_
      replace H := H.weaken (L' := [(12, (.int .i64 mod32))]) ⟨rfl, trivial⟩
      refine s_move H rfl rfl (lt_ rfl) fun a H => c_nil ⟨rfl, rfl, H.weaken (L' := [(70, (.int .i64 mod32))]) ⟨rfl, trivial⟩⟩
     ·refine Ans.mk rfl rfl fun a H => ?_
      replace H := H.weaken (L' := [(69, (Slc.v s49)), (70, (.int .i64 mod32))]) ⟨rfl, rfl, trivial⟩
      refine s_idxS (s := s49) H rfl rfl rfl slc_28 hi54 hi55 hi56 (lt_ rfl) fun a H => c_nil ⟨rfl, rfl, H.weaken (L' := [(71, (.pointer (some (a53.add (Int.toNat (mod32) * 1)))))]) ⟨rfl, trivial⟩⟩
     ·refine Ans.mk rfl rfl fun a H => ?_
      replace H := H.weaken (L' := [(71, (.pointer (some (a53.add (Int.toNat (mod32) * 1)))))]) ⟨rfl, trivial⟩
      refine s_load (v := (.int .u8 l57)) H rfl rfl one_5 hc61 (lt_ rfl) fun a H => c_nil ⟨rfl, rfl, H.weaken (L' := [(72, (.int .u8 l57))]) ⟨rfl, trivial⟩⟩
     ·refine Ans.mk rfl rfl fun a H => ?_
      replace H := H.weaken (L' := [(74, (.int .i64 mod60))]) ⟨rfl, trivial⟩
      refine s_bin H rfl rfl rfl r_add (lt_ rfl) fun a H => c_nil ⟨rfl, rfl, H.weaken (L' := [(75, (.int .i64 (wr .i64 (1 + mod60))))]) ⟨rfl, trivial⟩⟩
     ·refine Ans.mk rfl rfl fun a H => ?_
      replace H := H.weaken (L' := [(75, (.int .i64 (wr .i64 (1 + mod60))))]) ⟨rfl, trivial⟩
      refine s_cv H rfl rfl (r_cvI some_3 int_5) (lt_ rfl) fun a H => c_nil ⟨rfl, rfl, H.weaken (L' := [(76, (.int .u8 (wr .u8 (wr .i64 (1 + mod60)))))]) ⟨rfl, trivial⟩⟩
     ·refine Ans.mk rfl rfl fun a H => ?_
      replace H := H.weaken (L' := [(72, (.int .u8 l57)), (76, (.int .u8 (wr .u8 (wr .i64 (1 + mod60)))))]) ⟨rfl, rfl, trivial⟩
      refine s_bin H rfl rfl rfl r_xor (lt_ rfl) fun a H => c_nil ⟨rfl, rfl, H.weaken (L' := [(77, (.int .u8 (xorI .u8 l57 (wr .u8 (wr .i64 (1 + mod60))))))]) ⟨rfl, trivial⟩⟩
     ·refine Ans.mk rfl rfl fun a H => ?_
      replace H := H.weaken (L' := [(69, (Slc.v s49)), (70, (.int .i64 mod32))]) ⟨rfl, rfl, trivial⟩
      refine s_idxS (s := s49) H rfl rfl rfl slc_28 hi63 hi64 hi65 (lt_ rfl) fun a H => c_nil ⟨rfl, rfl, H.weaken (L' := [(78, (.pointer (some (a62.add (Int.toNat (mod32) * 1)))))]) ⟨rfl, trivial⟩⟩
     ·intro a H
      replace H := H.weaken (L' := [(77, (.int .u8 (xorI .u8 l57 (wr .u8 (wr .i64 (1 + mod60)))))), (78, (.pointer (some (a62.add (Int.toNat (mod32) * 1)))))]) ⟨rfl, rfl, trivial⟩
      obtain ⟨hs67, hf68, h⟩ := h
      refine s_sto (p := a62.add (Int.toNat (mod32) * 1)) (v := (.int .u8 (xorI .u8 l57 (wr .u8 (wr .i64 (1 + mod60)))))) H rfl rfl rfl rfl one_5 rfl hs67 hf68 ?_
      clear H
      intro H
      generalize hww66 : World.setCell w59 (a62.add (Int.toNat (mod32) * 1)) (.int .u8 (xorI .u8 l57 (wr .u8 (wr .i64 (1 + mod60))))) = w66 at h ⊢
      have w66S : SetAt w59 (a62.add (Int.toNat (mod32) * 1)) (.int .u8 (xorI .u8 l57 (wr .u8 (wr .i64 (1 + mod60))))) w66 := ⟨hww66.symm⟩
      clear hww66 hs67 hf68
      refine c_nil ?_
      refine effQ.ok (v := undef) (H.weaken (L' := []) trivial) ⟨[(0, (Slc.v s49)), (1, (.int .i64 mod32)), (2, (.pointer (some (a53.add (Int.toNat (mod32) * 1))))), (3, (.int .u8 l57)), (4, (.int .i64 by7)), (5, (.int .i64 mod60)), (6, (.int .i64 (wr .i64 (1 + mod60)))), (7, (.int .u8 (wr .u8 (wr .i64 (1 + mod60))))), (8, (.int .u8 (xorI .u8 l57 (wr .u8 (wr .i64 (1 + mod60)))))), (9, (.pointer (some (a62.add (Int.toNat (mod32) * 1))))), (10, undef)], ⟨rfl, rfl, rfl, rfl, rfl, rfl, rfl, rfl, rfl, rfl, rfl, trivial⟩, ?_⟩
      refine Stg.fin [] (by kernel_rfl) .nil ?_
      ·intro a H
       replace H := H.weaken (L' := [(9, (Slc.v writt19)), (10, (Slc.v writt20)), (12, (.int .i64 mod32)), (13, (.int .i64 piece36)), (15, (.int .i64 body42)), (16, (Slc.v s49))]) ⟨rfl, rfl, rfl, rfl, rfl, rfl, trivial⟩
       refine hK52 _ _ <| c_seq fun K69 hK69 => c_reg <| s_move H rfl rfl (lt_ rfl) fun a H => s_call H rfl body_16 (H.args (vs := [(Slc.v s49)]) rfl) (lt_ rfl) h ?_ (fun c w' h H => e_panic (P := PP) (fn := Tryd.f4) H h)
       clear H h a
       rintro _ w70 a ⟨N71, K72, Delta73, Serve74, Scanr75, Scanr76, Scanr77, Scanr78, Scanr79, rfl, h⟩ H
       refine s_move H rfl rfl (lt_ rfl) fun a H => ?_
       iterate 6 refine s_ext H rfl rfl rfl (lt_ rfl) fun a H => ?_
       replace h := h.get
       obtain ⟨b80, w81, nb82, h⟩ := h
       refine s_alloc H rfl zero_25 (lt_ rfl) ?_
       rw [← nb82.at_]
       clear H a
       intro a H
       refine nb82.go <| s_stoN (l := [(.int .i64 N71), (.int .i64 K72), (.int .i64 Delta73), (.int .i64 Serve74)]) H rfl rfl rfl rfl agg_25 rfl rfl h ?_
       clear h H
       intro w83 h H
       iterate 5 refine s_assign H rfl rfl (lt_ rfl) fun a H => ?_
       refine c_nil <| hK69 _ _ <| c_seq fun K84 hK84 => c_seq fun K85 hK85 => c_reg <| s_move H rfl rfl (lt_ rfl) fun a H => s_bin H rfl rfl rfl r_eql (lt_ rfl) fun a H => c_nil <| hK85 _ _ <| c_cond H rfl (fun hb86 => ?_) (fun hb86 => ?_)
       ·replace h := h.1 hb86
        refine c_seq fun K87 hK87 => c_reg <| s_move H rfl rfl (lt_ rfl) fun a H => s_move H rfl rfl (lt_ rfl) fun a H => ?_
        obtain ⟨a88, hi89, hi90, hi91, h⟩ := h
        refine s_idxS (s := writt19) H rfl rfl rfl slc_50 hi89 hi90 hi91 (lt_ rfl) fun a H => ?_
        obtain ⟨l92, hc93, h⟩ := h
        refine s_load (v := (.int .i64 l92)) H rfl rfl one_3 hc93 (lt_ rfl) fun a H => s_bin H rfl rfl rfl r_sub (lt_ rfl) fun a H => s_bin H rfl rfl rfl r_lss (lt_ rfl) fun a H => s_move H rfl rfl (lt_ rfl) fun a H => g_join (n := 129) [(104, (.bool ((decide (mod32 < (wr .i64 (l92 - 4)))) || ((decide (Scanr79 = 63)) && (decide ((Scanr75.l : Int) = 0))))))] (.succ (.succ (.succ (.succ (.succ (.succ (.succ (.succ (.zero _))))))))) ?_ ?_
        ·intro hr95
         try clear h
         rcases Bool.eq_false_or_eq_true (decide (mod32 < (wr .i64 (l92 - 4)))) with hg94 | hg94
         ·replace H := H.ch (t := 96) (b := true) rfl hg94
          iterate 3 refine s_skip H (wantN H rfl rfl rfl) rfl (lt_ rfl) fun a H => ?_
          iterate 3 refine s_skip H (wantU H rfl rfl) rfl (lt_ rfl) fun a H => ?_
          refine s_skip H (wantN H rfl rfl rfl) rfl (lt_ rfl) fun a H => s_pickT H rfl rfl rfl (lt_ rfl) fun a H => ?_
          exact hr95 _ (H.weaken ⟨by rw [hg94]; rfl, trivial⟩)
         ·replace H := H.ch (t := 96) (b := false) rfl hg94
          refine s_move H (wantG H rfl rfl) rfl (lt_ rfl) fun a H => s_bin H (wantG H rfl rfl) rfl rfl r_eql (lt_ rfl) fun a H => s_move H (wantG H rfl rfl) rfl (lt_ rfl) fun a H => g_join (n := 129) [(103, (.bool ((decide (Scanr79 = 63)) && (decide ((Scanr75.l : Int) = 0))))), (96, (.bool false))] (.succ (.succ (.succ (.succ (.zero _))))) ?_ ?_
          ·intro hr97
           try clear h
           rcases Bool.eq_false_or_eq_true (decide (Scanr79 = 63)) with hg96 | hg96
           ·replace H := H.ch (t := 99) (b := true) rfl hg96
            refine s_move H (wantG H rfl rfl) rfl (lt_ rfl) fun a H => s_blt H (wantG H rfl rfl) (H.args (vs := [(Slc.v Scanr75)]) rfl) (lt_ rfl) (fun cs => b_lenS (z := Scanr75) sl_26) fun a H => s_bin H (wantG H rfl rfl) rfl rfl r_eql (lt_ rfl) fun a H => s_pickT H (wantG H rfl rfl) rfl rfl (lt_ rfl) fun a H => ?_
            exact hr97 _ (H.weaken ⟨by rw [hg96]; rfl, rfl, trivial⟩)
           ·replace H := H.ch (t := 99) (b := false) rfl hg96
            iterate 3 refine s_skip H (wantN H rfl rfl rfl) rfl (lt_ rfl) fun a H => ?_
            refine s_pickF H (wantG H rfl rfl) rfl rfl (lt_ rfl) fun a H => ?_
            exact hr97 _ (H.weaken ⟨by rw [hg96]; rfl, rfl, trivial⟩)
          ·clear H a
           intro a H
           refine s_pickF H rfl rfl rfl (lt_ rfl) fun a H => ?_
           exact hr95 _ (H.weaken ⟨by rw [hg94]; rfl, trivial⟩)
        ·clear H a
         intro a H
         refine s_assign H rfl rfl (lt_ rfl) fun a H => c_nil <| hK87 _ _ <| c_ret ?_
         exact e_ret1 H rfl rfl h
       ·replace h := h.2 hb86
        refine c_skip <| hK84 _ _ <| c_seq fun K98 hK98 => c_seq fun K99 hK99 => c_reg <| s_move H rfl rfl (lt_ rfl) fun a H => s_move H rfl rfl (lt_ rfl) fun a H => s_bin H rfl rfl rfl r_lss (lt_ rfl) fun a H => c_nil <| hK99 _ _ <| c_cond H rfl (fun hb100 => ?_) (fun hb100 => ?_)
        ·replace h := h.1 hb100
         refine c_seq fun K101 hK101 => c_reg <| s_assign H rfl rfl (lt_ rfl) fun a H => c_nil <| hK101 _ _ <| c_ret ?_
         exact e_ret1 H rfl rfl h
        ·replace h := h.2 hb100
         refine c_skip <| hK98 _ _ <| c_seq fun K102 hK102 => c_reg <| s_move H rfl rfl (lt_ rfl) fun a H => s_bin H rfl rfl rfl r_eql (lt_ rfl) fun a H => s_move H rfl rfl (lt_ rfl) fun a H => g_join (n := 129) [(113, (.bool ((decide (Scanr79 = 0)) && (decide (Scanr77 = 34))))), (9, (Slc.v writt19)), (10, (Slc.v writt20)), (13, (.int .i64 piece36)), (18, (Slc.v Scanr75)), (19, (Slc.v Scanr76))] (.succ (.succ (.succ (.zero _)))) ?_ ?_
         ·intro hr104
          try clear h
          rcases Bool.eq_false_or_eq_true (decide (Scanr79 = 0)) with hg103 | hg103
          ·replace H := H.ch (t := 110) (b := true) rfl hg103
           refine s_move H (wantG H rfl rfl) rfl (lt_ rfl) fun a H => s_bin H (wantG H rfl rfl) rfl rfl r_eql (lt_ rfl) fun a H => s_pickT H rfl rfl rfl (lt_ rfl) fun a H => ?_
           exact hr104 _ (H.weaken ⟨by rw [hg103]; rfl, rfl, rfl, rfl, rfl, rfl, trivial⟩)
          ·replace H := H.ch (t := 110) (b := false) rfl hg103
           refine s_skip H (wantN H rfl rfl rfl) rfl (lt_ rfl) fun a H => s_skip H (wantN H rfl rfl rfl) rfl (lt_ rfl) fun a H => s_pickF H rfl rfl rfl (lt_ rfl) fun a H => ?_
           exact hr104 _ (H.weaken ⟨by rw [hg103]; rfl, rfl, rfl, rfl, rfl, rfl, trivial⟩)
         ·clear H a
          intro a H
          refine s_move H rfl rfl (lt_ rfl) fun a H => ?_
          obtain ⟨R107, h, hx134⟩ := h
          refine g_joinW (n := 129) R107 (fun x108 => [(121, (.bool x108)), (9, (Slc.v writt19)), (13, (.int .i64 piece36)), (19, (Slc.v Scanr76))]) (.succ (.succ (.succ (.succ (.succ (.succ (.succ (.zero _)))))))) ?_ ?_
          ·intro hr106
           clear hx134
           rcases Bool.eq_false_or_eq_true ((decide (Scanr79 = 0)) && (decide (Scanr77 = 34))) with hg105 | hg105
           ·replace H := H.ch (t := 114) (b := true) rfl hg105
            replace h := h.1 hg105
            iterate 3 refine s_move H (wantG H rfl rfl) rfl (lt_ rfl) fun a H => ?_
            refine s_bin H (wantG H rfl rfl) rfl rfl r_sub (lt_ rfl) fun a H => ?_
            obtain ⟨hi110, hi111, hi112, h⟩ := h
            refine s_slice (v := (Slc.v (writt20.cut 7 (Int.toNat (0)) (Int.toNat (wr .i64 (piece36 - 1)))))) H (wantG H rfl rfl) rfl ⟨rfl, rfl⟩ ⟨rfl, rfl⟩ ⟨rfl, rfl⟩ (r_sliceSlc (lo := none) (hi := (some (.i64, wr .i64 (piece36 - 1)))) slc_26 rfl rfl hi110 hi111 hi112) (lt_ rfl) fun a H => ?_
            refine s_call H (wantG H rfl rfl) body_17 (H.args (vs := [(Slc.v Scanr75), (Slc.v (writt20.cut 7 (Int.toNat (0)) (Int.toNat (wr .i64 (piece36 - 1)))))]) rfl) (lt_ rfl) h ?_ (fun c w' h H => e_panic (P := PP) (fn := Tryd.f4) H h)
            clear H h a
            rintro _ w113 a ⟨updat114, rfl, h⟩ H
            refine s_pickT H rfl rfl rfl (lt_ rfl) fun a H => ?_
            exact hr106 _ _ _ h (H.weaken ⟨rfl, rfl, rfl, rfl, trivial⟩)
           ·replace H := H.ch (t := 114) (b := false) rfl hg105
            replace h := h.2 hg105
            iterate 6 refine s_skip H (wantN H rfl rfl rfl) rfl (lt_ rfl) fun a H => ?_
            refine s_pickF H rfl rfl rfl (lt_ rfl) fun a H => ?_
            exact hr106 _ _ _ h (H.weaken ⟨rfl, rfl, rfl, rfl, trivial⟩)
          ·clear H a h
           intro a x108 w109 h H
           replace h := hx134 x108 w109 h
           clear hx134
           refine s_move H rfl rfl (lt_ rfl) fun a H => ?_
           obtain ⟨R121, h, hx133⟩ := h
           refine g_joinW (n := 129) R121 (fun x122 => [(128, (.bool x122))]) (.succ (.succ (.succ (.succ (.succ (.succ (.zero _))))))) ?_ ?_
           ·intro hr120
            clear hx133
            rcases Bool.eq_false_or_eq_true x108 with hg119 | hg119
            ·replace H := H.ch (t := 122) (b := true) rfl hg119
             replace h := h.1 hg119
             iterate 3 refine s_move H (wantG H rfl rfl) rfl (lt_ rfl) fun a H => ?_
             obtain ⟨hi124, hi125, hi126, h⟩ := h
             refine s_slice (v := (Slc.v (writt19.cut 1 (Int.toNat (0)) (Int.toNat (piece36))))) H (wantG H rfl rfl) rfl ⟨rfl, rfl⟩ ⟨rfl, rfl⟩ ⟨rfl, rfl⟩ (r_sliceSlc (lo := none) (hi := (some (.i64, piece36))) slc_50 rfl rfl hi124 hi125 hi126) (lt_ rfl) fun a H => s_call H (wantG H rfl rfl) body_18 (H.args (vs := [(Slc.v Scanr76), (Slc.v (writt19.cut 1 (Int.toNat (0)) (Int.toNat (piece36))))]) rfl) (lt_ rfl) h ?_ (fun c w' h H => e_panic (P := PP) (fn := Tryd.f4) H h)
             clear H h a
             rintro _ w127 a ⟨ints128, rfl, h⟩ H
             refine s_pickT H rfl rfl rfl (lt_ rfl) fun a H => ?_
             exact hr120 _ _ _ h (H.weaken ⟨rfl, trivial⟩)
            ·replace H := H.ch (t := 122) (b := false) rfl hg119
             replace h := h.2 hg119
             iterate 5 refine s_skip H (wantN H rfl rfl rfl) rfl (lt_ rfl) fun a H => ?_
             refine s_pickF H rfl rfl rfl (lt_ rfl) fun a H => ?_
             exact hr120 _ _ _ h (H.weaken ⟨rfl, trivial⟩)
           ·clear H a h
            intro a x122 w123 h H
            replace h := hx133 x122 w123 h
            clear hx133
            refine s_assign H rfl rfl (lt_ rfl) fun a H => c_nil <| hK102 _ _ <| c_ret ?_
            exact e_ret1 H rfl rfl h
   clear hx164
   refine c_block ?_
   obtain ⟨I146, mu147, h0162, hl163⟩ := h
   refine c_loop (σ := Int) (fun z w => I146 z w) (fun z w => mu147 z w) (fun z => [(2, (.int .i64 by7)), (8, (Slc.v writt18)), (9, (Slc.v writt19)), (10, (Slc.v writt20)), (12, (.int .i64 mod32)), (13, (.int .i64 piece36)), (15, (.int .i64 z))]) (wr .i64 (from37 + 2)) h0162 (H.weaken ⟨rfl, rfl, rfl, rfl, rfl, rfl, rfl, trivial⟩) ?_
   clear H h0162
   rintro body144 a w145 h H
   replace h := hl163 body144 w145 h
   clear hl163
   replace H : Has 129 [] a [(2, (.int .i64 by7)), (8, (Slc.v writt18)), (9, (Slc.v writt19)), (10, (Slc.v writt20)), (12, (.int .i64 mod32)), (13, (.int .i64 piece36)), (15, (.int .i64 body144))] := H
   refine c_seq fun K148 hK148 => c_seq fun K149 hK149 => c_reg <| s_move H rfl rfl (lt_ rfl) fun a H => s_bin H rfl rfl rfl r_sub (lt_ rfl) fun a H => s_move H rfl rfl (lt_ rfl) fun a H => s_blt H rfl (H.args (vs := [(Slc.v writt18)]) rfl) (lt_ rfl) (fun cs => b_lenS (z := writt18) sl_28) fun a H => s_bin H rfl rfl rfl r_lss (lt_ rfl) fun a H => s_move H rfl rfl (lt_ rfl) fun a H => ?_
   obtain ⟨x158, hy159, hn160, h⟩ := h
   refine g_join (n := 129) [(63, (.bool x158)), (2, (.int .i64 by7)), (8, (Slc.v writt18)), (9, (Slc.v writt19)), (10, (Slc.v writt20)), (12, (.int .i64 mod32)), (13, (.int .i64 piece36)), (15, (.int .i64 body144))] (.succ (.succ (.succ (.succ (.succ (.succ (.succ (.zero _)))))))) ?_ ?_
   ·intro hr151
    try clear h
    rcases Bool.eq_false_or_eq_true (decide ((wr .i64 (body144 - 1)) < (writt18.l : Int))) with hg150 | hg150
    ·replace H := H.ch (t := 56) (b := true) rfl hg150
     replace h := hy159 hg150
     refine s_move H (wantG H rfl rfl) rfl (lt_ rfl) fun a H => s_move H (wantG H rfl rfl) rfl (lt_ rfl) fun a H => s_bin H (wantG H rfl rfl) rfl rfl r_sub (lt_ rfl) fun a H => ?_
     obtain ⟨a152, hi153, hi154, hi155, h⟩ := h
     refine s_idxS (s := writt18) H (wantG H rfl rfl) rfl rfl slc_28 hi153 hi154 hi155 (lt_ rfl) fun a H => ?_
     obtain ⟨l156, hc157, h⟩ := h
     refine s_load (v := (.int .u8 l156)) H (wantG H rfl rfl) rfl one_5 hc157 (lt_ rfl) fun a H => s_bin H (wantG H rfl rfl) rfl rfl r_geq (lt_ rfl) fun a H => s_pickT H rfl rfl rfl (lt_ rfl) fun a H => ?_
     subst h
     exact hr151 _ (H.weaken ⟨rfl, rfl, rfl, rfl, rfl, rfl, rfl, rfl, trivial⟩)
    ·replace H := H.ch (t := 56) (b := false) rfl hg150
     iterate 6 refine s_skip H (wantN H rfl rfl rfl) rfl (lt_ rfl) fun a H => ?_
     refine s_pickF H rfl rfl rfl (lt_ rfl) fun a H => ?_
     replace h := hn160 hg150
     subst h
     exact hr151 _ (H.weaken ⟨rfl, rfl, rfl, rfl, rfl, rfl, rfl, rfl, trivial⟩)
   ·clear H a
    clear hy159 hn160
    intro a H
    refine c_nil <| hK149 _ _ <| c_cond H rfl (fun hb161 => ?_) (fun hb161 => ?_)
    ·replace h := h.1 hb161
     refine c_skip <| hK148 _ _ <| c_block <| c_reg <| s_move H rfl rfl (lt_ rfl) fun a H => s_bin H rfl rfl rfl r_add (lt_ rfl) fun a H => s_assign H rfl rfl (lt_ rfl) fun a H => c_nil <| Exists.intro (wr .i64 (body144 + 1)) ⟨h.1, h.2, H.weaken ⟨rfl, rfl, rfl, rfl, rfl, rfl, rfl, trivial⟩⟩
    ·replace h := h.2 hb161
     refine c_exit ?_
     first | (simp only [Exit.then, Exit.inBlock, ↓reduceIte]; fail_if_success simp only [Nat.reduceEqDiff]) | simp only [Exit.then, Exit.inBlock, ↓reduceIte, Nat.reduceEqDiff]
     exact hJ143 _ _ _ h (H.weaken ⟨rfl, rfl, rfl, rfl, rfl, rfl, rfl, trivial⟩)
  clear hx189
  refine c_block ?_
  obtain ⟨I169, mu170, h0187, hl188⟩ := h
  refine c_loop (σ := Int × Int) (fun z w => I169 z.1 z.2 w) (fun z w => mu170 z.1 z.2 w) (fun z => [(2, (.int .i64 by7)), (8, (Slc.v writt18)), (9, (Slc.v writt19)), (10, (Slc.v writt20)), (12, (.int .i64 mod32)), (13, (.int .i64 z.1)), (14, (.int .i64 z.2))]) (0, 0) h0187 (H.weaken ⟨rfl, rfl, rfl, rfl, rfl, rfl, rfl, trivial⟩) ?_
  clear H h0187
  rintro ⟨piece166, from167⟩ a w168 h H
  replace h := hl188 piece166 from167 w168 h
  clear hl188
  replace H : Has 129 [] a [(2, (.int .i64 by7)), (8, (Slc.v writt18)), (9, (Slc.v writt19)), (10, (Slc.v writt20)), (12, (.int .i64 mod32)), (13, (.int .i64 piece166)), (14, (.int .i64 from167))] := H
  refine c_seq fun K171 hK171 => c_seq fun K172 hK172 => c_reg ?_
  iterate 3 refine s_move H rfl rfl (lt_ rfl) fun a H => ?_
  obtain ⟨a173, hi174, hi175, hi176, h⟩ := h
  refine s_idxS (s := writt19) H rfl rfl rfl slc_50 hi174 hi175 hi176 (lt_ rfl) fun a H => ?_
  obtain ⟨l177, hc178, h⟩ := h
  refine s_load (v := (.int .i64 l177)) H rfl rfl one_3 hc178 (lt_ rfl) fun a H => s_bin H rfl rfl rfl r_geq (lt_ rfl) fun a H => c_nil <| hK172 _ _ <| c_cond H rfl (fun hb179 => ?_) (fun hb179 => ?_)
  ·replace h := h.1 hb179
   refine c_skip <| hK171 _ _ <| c_block <| c_seq fun K180 hK180 => c_reg <| s_move H rfl rfl (lt_ rfl) fun a H => s_move H rfl rfl (lt_ rfl) fun a H => ?_
   obtain ⟨a181, hi182, hi183, hi184, h⟩ := h
   refine s_idxS (s := writt19) H rfl rfl rfl slc_50 hi182 hi183 hi184 (lt_ rfl) fun a H => ?_
   obtain ⟨l185, hc186, h⟩ := h
   refine s_load (v := (.int .i64 l185)) H rfl rfl one_3 hc186 (lt_ rfl) fun a H => s_assign H rfl rfl (lt_ rfl) fun a H => c_nil <| hK180 _ _ <| c_reg <| s_move H rfl rfl (lt_ rfl) fun a H => s_bin H rfl rfl rfl r_add (lt_ rfl) fun a H => s_assign H rfl rfl (lt_ rfl) fun a H => c_nil <| Exists.intro (wr .i64 (piece166 + 1), l185) ⟨h.1, h.2, H.weaken ⟨rfl, rfl, rfl, rfl, rfl, rfl, rfl, trivial⟩⟩
  ·replace h := h.2 hb179
   refine c_exit ?_
   first | (simp only [Exit.then, Exit.inBlock, ↓reduceIte]; fail_if_success simp only [Nat.reduceEqDiff]) | simp only [Exit.then, Exit.inBlock, ↓reduceIte, Nat.reduceEqDiff]
   exact hJ165 _ _ _ _ h (H.weaken ⟨rfl, rfl, rfl, rfl, rfl, rfl, rfl, trivial⟩)

set_option maxRecDepth 100000 in
set_option maxHeartbeats 4000000 in
theorem sim_sherdlaw11_RecordAny (N1 : Int) (K2 : Int) (Delta3 : Int) (Serve4 : Int) (Updat5 : Slc) (data6 : Slc) (w : World) (Q : Ending → World → Prop) (h : vc_sherdlaw11_RecordAny N1 K2 Delta3 Serve4 Updat5 data6 w Q) : Calls PP F_sherdlaw11_RecordAny #[(.agg #[(.int .i64 N1), (.int .i64 K2), (.int .i64 Delta3), (.int .i64 Serve4), (Slc.v Updat5)]), (Slc.v data6)] w Q := by
 unfold vc_sherdlaw11_RecordAny at h
 refine enter (n := 171) (l := [(.agg #[(.int .i64 N1), (.int .i64 K2), (.int .i64 Delta3), (.int .i64 Serve4), (Slc.v Updat5)]), (Slc.v data6)]) Tryd.func5 rfl rfl (Nat.le_of_ble_eq_true rfl) fun a H => ?_
 replace H : Has 171 [] a [(0, (.agg #[(.int .i64 N1), (.int .i64 K2), (.int .i64 Delta3), (.int .i64 Serve4), (Slc.v Updat5)])), (1, (Slc.v data6))] := H
 refine c_seq fun K7 hK7 => c_reg ?_
 replace h := h.get
 obtain ⟨b8, w9, nb10, h⟩ := h
 refine s_box H rfl rfl (lt_ rfl) ?_
 rw [← nb10.at_]
 clear H a
 intro a H
 refine nb10.go <| s_assign H rfl rfl (lt_ rfl) fun a H => c_nil <| hK7 _ _ <| c_seq fun K11 hK11 => c_reg <| s_loadN (l := [(.int .i64 N1), (.int .i64 K2), (.int .i64 Delta3), (.int .i64 Serve4), (Slc.v Updat5)]) H rfl rfl agg_49 rfl ⟨(nb10.cell (i := 0) rfl), (nb10.cell (i := 1) rfl), (nb10.cell (i := 2) rfl), (nb10.cell (i := 3) rfl), (nb10.cell (i := 4) rfl), trivial⟩ (lt_ rfl) fun a H => ?_
 refine s_call H rfl body_14 (H.args (vs := [(.agg #[(.int .i64 N1), (.int .i64 K2), (.int .i64 Delta3), (.int .i64 Serve4), (Slc.v Updat5)])]) rfl) (lt_ rfl) h ?_ (fun c w' h H => e_panic (P := PP) (fn := Tryd.f5) H h)
 clear H h a
 rintro _ w12 a ⟨N13, K14, Delta15, Serve16, writt17, writt18, writt19, writt20, rfl, h⟩ H
 refine s_move H rfl rfl (lt_ rfl) fun a H => ?_
 iterate 5 refine s_ext H rfl rfl rfl (lt_ rfl) fun a H => ?_
 replace h := h.get
 obtain ⟨b21, w22, nb23, h⟩ := h
 refine s_alloc H rfl zero_25 (lt_ rfl) ?_
 rw [← nb23.at_]
 clear H a
 intro a H
 refine nb23.go <| s_stoN (l := [(.int .i64 N13), (.int .i64 K14), (.int .i64 Delta15), (.int .i64 Serve16)]) H rfl rfl rfl rfl agg_25 rfl rfl h ?_
 clear h H
 intro w24 h H
 iterate 4 refine s_assign H rfl rfl (lt_ rfl) fun a H => ?_
 refine c_nil <| hK11 _ _ <| c_seq fun K25 hK25 => c_seq fun K26 hK26 => c_reg <| s_move H rfl rfl (lt_ rfl) fun a H => s_bin H rfl rfl rfl (r_eqP0 ptr_32) (lt_ rfl) fun a H => c_nil <| hK26 _ _ <| c_cond H rfl (fun hb27 => ?_) (fun hb27 => ?_)
 ·replace h := h.1 hb27
  refine c_seq fun K28 hK28 => c_reg <| s_assign H rfl rfl (lt_ rfl) fun a H => c_nil <| hK28 _ _ <| c_ret ?_
  exact e_ret1 H rfl rfl h
 ·replace h := h.2 hb27
  refine c_skip <| hK25 _ _ <| c_seq fun K29 hK29 => c_reg ?_
  replace h := h.get
  obtain ⟨b30, w31, nb32, h⟩ := h
  refine s_bslc H rfl (by rw [H.parts (vs := []) rfl]; exact bs_28_0 w24) (lt_ rfl) ?_
  rw [← nb32.at_]
  clear H a
  intro a H
  refine nb32.go <| s_move H rfl rfl (lt_ rfl) fun a H => ?_
  obtain ⟨s33, w34, hq35, h⟩ := h
  refine s_blt H rfl (H.args (vs := [(Slc.v (Slc.mk (some (blk b30)) 0 0)), (Slc.v writt17)]) rfl) (lt_ rfl) (fun cs => b_app (z := s33) hq35) ?_
  clear H a hq35
  intro a H
  refine s_move H rfl rfl (lt_ rfl) fun a H => ?_
  obtain ⟨s36, w37, hq38, h⟩ := h
  refine s_blt H rfl (H.args (vs := [(Slc.v s33), (Slc.v data6)]) rfl) (lt_ rfl) (fun cs => b_app (z := s36) hq38) ?_
  clear H a hq38
  intro a H
  refine s_assign H rfl rfl (lt_ rfl) fun a H => c_nil <| hK29 _ _ <| c_seq fun K39 hK39 => c_reg <| s_move H rfl rfl (lt_ rfl) fun a H => s_call H rfl body_16 (H.args (vs := [(Slc.v s36)]) rfl) (lt_ rfl) h ?_ (fun c w' h H => e_panic (P := PP) (fn := Tryd.f5) H h)
  clear H h a
  rintro _ w40 a ⟨N41, K42, Delta43, Serve44, Scanr45, Scanr46, Scanr47, Scanr48, Scanr49, rfl, h⟩ H
  refine s_move H rfl rfl (lt_ rfl) fun a H => ?_
  iterate 6 refine s_ext H rfl rfl rfl (lt_ rfl) fun a H => ?_
  replace h := h.get
  obtain ⟨b50, w51, nb52, h⟩ := h
  refine s_alloc H rfl zero_25 (lt_ rfl) ?_
  rw [← nb52.at_]
  clear H a
  intro a H
  refine nb52.go <| s_stoN (l := [(.int .i64 N41), (.int .i64 K42), (.int .i64 Delta43), (.int .i64 Serve44)]) H rfl rfl rfl rfl agg_25 rfl rfl h ?_
  clear h H
  intro w53 h H
  iterate 5 refine s_assign H rfl rfl (lt_ rfl) fun a H => ?_
  refine c_nil <| hK39 _ _ <| c_seq fun K54 hK54 => c_seq fun K55 hK55 => c_reg <| s_move H rfl rfl (lt_ rfl) fun a H => s_bin H rfl rfl rfl r_neq (lt_ rfl) fun a H => s_move H rfl rfl (lt_ rfl) fun a H => ?_
  refine g_join (n := 171) [(58, (.bool ((decide (Scanr49 ≠ 0)) || (decide ((Scanr46.l : Int) ≠ (wr .i64 ((Scanr45.l : Int) + 1))))))), (6, (Slc.v s36)), (10, (.pointer (some (blk b50)))), (11, (Slc.v Scanr45)), (12, (Slc.v Scanr46)), (13, (.int .i64 Scanr47))] (.succ (.succ (.succ (.succ (.succ (.succ (.succ (.zero _)))))))) ?_ ?_
  ·intro hr57
   try clear h
   rcases Bool.eq_false_or_eq_true (decide (Scanr49 ≠ 0)) with hg56 | hg56
   ·replace H := H.ch (t := 51) (b := true) rfl hg56
    iterate 6 refine s_skip H (wantN H rfl rfl rfl) rfl (lt_ rfl) fun a H => ?_
    refine s_pickT H rfl rfl rfl (lt_ rfl) fun a H => ?_
    exact hr57 _ (H.weaken ⟨by rw [hg56]; rfl, rfl, rfl, rfl, rfl, rfl, trivial⟩)
   ·replace H := H.ch (t := 51) (b := false) rfl hg56
    refine s_move H (wantG H rfl rfl) rfl (lt_ rfl) fun a H => s_blt H (wantG H rfl rfl) (H.args (vs := [(Slc.v Scanr46)]) rfl) (lt_ rfl) (fun cs => b_lenS (z := Scanr46) sl_50) fun a H => s_move H (wantG H rfl rfl) rfl (lt_ rfl) fun a H => s_blt H (wantG H rfl rfl) (H.args (vs := [(Slc.v Scanr45)]) rfl) (lt_ rfl) (fun cs => b_lenS (z := Scanr45) sl_26) fun a H => s_bin H (wantG H rfl rfl) rfl rfl r_add (lt_ rfl) fun a H => s_bin H (wantG H rfl rfl) rfl rfl r_neq (lt_ rfl) fun a H => ?_
    refine s_pickF H rfl rfl rfl (lt_ rfl) fun a H => ?_
    exact hr57 _ (H.weaken ⟨by rw [hg56]; rfl, rfl, rfl, rfl, rfl, rfl, trivial⟩)
  ·clear H a
   intro a H
   refine s_move H rfl rfl (lt_ rfl) fun a H => ?_
   obtain ⟨x66, hy67, hn68, h⟩ := h
   refine g_join (n := 171) [(68, (.bool x66)), (6, (Slc.v s36)), (10, (.pointer (some (blk b50)))), (11, (Slc.v Scanr45)), (12, (Slc.v Scanr46)), (13, (.int .i64 Scanr47))] (.succ (.succ (.succ (.succ (.succ (.succ (.succ (.succ (.succ (.zero _)))))))))) ?_ ?_
   ·intro hr59
    try clear h
    rcases Bool.eq_false_or_eq_true ((decide (Scanr49 ≠ 0)) || (decide ((Scanr46.l : Int) ≠ (wr .i64 ((Scanr45.l : Int) + 1))))) with hg58 | hg58
    ·replace H := H.ch (t := 59) (b := true) rfl hg58
     iterate 8 refine s_skip H (wantN H rfl rfl rfl) rfl (lt_ rfl) fun a H => ?_
     refine s_pickT H rfl rfl rfl (lt_ rfl) fun a H => ?_
     replace h := hn68 hg58
     subst h
     exact hr59 _ (H.weaken ⟨rfl, rfl, rfl, rfl, rfl, rfl, trivial⟩)
    ·replace H := H.ch (t := 59) (b := false) rfl hg58
     replace h := hy67 hg58
     refine s_move H (wantG H rfl rfl) rfl (lt_ rfl) fun a H => s_move H (wantG H rfl rfl) rfl (lt_ rfl) fun a H => s_blt H (wantG H rfl rfl) (H.args (vs := [(Slc.v Scanr45)]) rfl) (lt_ rfl) (fun cs => b_lenS (z := Scanr45) sl_26) fun a H => ?_
     obtain ⟨a60, hi61, hi62, hi63, h⟩ := h
     refine s_idxS (s := Scanr46) H (wantG H rfl rfl) rfl rfl slc_50 hi61 hi62 hi63 (lt_ rfl) fun a H => ?_
     obtain ⟨l64, hc65, h⟩ := h
     refine s_load (v := (.int .i64 l64)) H (wantG H rfl rfl) rfl one_3 hc65 (lt_ rfl) fun a H => s_move H (wantG H rfl rfl) rfl (lt_ rfl) fun a H => s_blt H (wantG H rfl rfl) (H.args (vs := [(Slc.v s36)]) rfl) (lt_ rfl) (fun cs => b_lenS (z := s36) sl_28) fun a H => s_bin H (wantG H rfl rfl) rfl rfl r_gtr (lt_ rfl) fun a H => s_pickF H rfl rfl rfl (lt_ rfl) fun a H => ?_
     subst h
     exact hr59 _ (H.weaken ⟨rfl, rfl, rfl, rfl, rfl, rfl, trivial⟩)
   ·clear H a
    clear hy67 hn68
    intro a H
    refine s_move H rfl rfl (lt_ rfl) fun a H => ?_
    obtain ⟨x77, hy78, hn79, h⟩ := h
    refine g_join (n := 171) [(81, (.bool x77)), (6, (Slc.v s36)), (10, (.pointer (some (blk b50)))), (11, (Slc.v Scanr45)), (12, (Slc.v Scanr46))] (.succ (.succ (.succ (.succ (.succ (.succ (.succ (.succ (.succ (.succ (.succ (.succ (.zero _))))))))))))) ?_ ?_
    ·intro hr70
     try clear h
     rcases Bool.eq_false_or_eq_true x66 with hg69 | hg69
     ·replace H := H.ch (t := 69) (b := true) rfl hg69
      iterate 11 refine s_skip H (wantN H rfl rfl rfl) rfl (lt_ rfl) fun a H => ?_
      refine s_pickT H rfl rfl rfl (lt_ rfl) fun a H => ?_
      replace h := hn79 hg69
      subst h
      exact hr70 _ (H.weaken ⟨rfl, rfl, rfl, rfl, rfl, trivial⟩)
     ·replace H := H.ch (t := 69) (b := false) rfl hg69
      replace h := hy78 hg69
      refine s_move H (wantG H rfl rfl) rfl (lt_ rfl) fun a H => s_bin H (wantG H rfl rfl) rfl rfl r_eql (lt_ rfl) fun a H => s_move H (wantG H rfl rfl) rfl (lt_ rfl) fun a H => s_move H (wantG H rfl rfl) rfl (lt_ rfl) fun a H => s_blt H (wantG H rfl rfl) (H.args (vs := [(Slc.v Scanr45)]) rfl) (lt_ rfl) (fun cs => b_lenS (z := Scanr45) sl_26) fun a H => ?_
      obtain ⟨a71, hi72, hi73, hi74, h⟩ := h
      refine s_idxS (s := Scanr46) H (wantG H rfl rfl) rfl rfl slc_50 hi72 hi73 hi74 (lt_ rfl) fun a H => ?_
      obtain ⟨l75, hc76, h⟩ := h
      refine s_load (v := (.int .i64 l75)) H (wantG H rfl rfl) rfl one_3 hc76 (lt_ rfl) fun a H => s_move H (wantG H rfl rfl) rfl (lt_ rfl) fun a H => s_blt H (wantG H rfl rfl) (H.args (vs := [(Slc.v s36)]) rfl) (lt_ rfl) (fun cs => b_lenS (z := s36) sl_28) fun a H => s_bin H (wantG H rfl rfl) rfl rfl r_eql (lt_ rfl) fun a H => s_bin H (wantG H rfl rfl) rfl rfl (r_neB bool_4) (lt_ rfl) fun a H => s_pickF H rfl rfl rfl (lt_ rfl) fun a H => ?_
      subst h
      exact hr70 _ (H.weaken ⟨rfl, rfl, rfl, rfl, rfl, trivial⟩)
    ·clear H a
     clear hy78 hn79
     intro a H
     refine c_nil <| hK55 _ _ <| c_cond H rfl (fun hb80 => ?_) (fun hb80 => ?_)
     ·replace h := h.1 hb80
      refine c_seq fun K81 hK81 => c_reg <| s_assign H rfl rfl (lt_ rfl) fun a H => c_nil <| hK81 _ _ <| c_ret ?_
      exact e_ret1 H rfl rfl h
     ·replace h := h.2 hb80
      refine c_skip <| hK54 _ _ <| c_seq fun K82 hK82 => c_reg ?_
      obtain ⟨N83, hc84, h⟩ := h
      obtain ⟨K85, hc86, h⟩ := h
      obtain ⟨Delta87, hc88, h⟩ := h
      obtain ⟨Serve89, hc90, h⟩ := h
      refine s_loadN (l := [(.int .i64 N83), (.int .i64 K85), (.int .i64 Delta87), (.int .i64 Serve89)]) H rfl rfl agg_25 rfl ⟨hc84, hc86, hc88, hc90, trivial⟩ (lt_ rfl) fun a H => s_call H rfl body_9 (H.args (vs := [(.agg #[(.int .i64 N83), (.int .i64 K85), (.int .i64 Delta87), (.int .i64 Serve89)])]) rfl) (lt_ rfl) h ?_ (fun c w' h H => e_panic (P := PP) (fn := Tryd.f5) H h)
      clear H h a
      rintro _ w91 a ⟨Newr92, Newr93, Newr94, rfl, h⟩ H
      refine s_move H rfl rfl (lt_ rfl) fun a H => ?_
      iterate 3 refine s_ext H rfl rfl rfl (lt_ rfl) fun a H => ?_
      iterate 3 refine s_assign H rfl rfl (lt_ rfl) fun a H => ?_
      refine c_nil <| hK82 _ _ <| c_seq fun K95 hK95 => c_seq fun K96 hK96 => c_reg <| s_move H rfl rfl (lt_ rfl) fun a H => s_bin H rfl rfl rfl (r_eqP0 ptr_32) (lt_ rfl) fun a H => s_move H rfl rfl (lt_ rfl) fun a H => g_join (n := 171) [(93, (.bool (Newr92.isNone || (decide (Newr94 ≠ 0))))), (6, (Slc.v s36)), (10, (.pointer (some (blk b50)))), (11, (Slc.v Scanr45)), (12, (Slc.v Scanr46)), (16, (.pointer Newr92)), (17, (Slc.v Newr93))] (.succ (.succ (.succ (.zero _)))) ?_ ?_
      ·intro hr98
       try clear h
       rcases Bool.eq_false_or_eq_true Newr92.isNone with hg97 | hg97
       ·replace H := H.ch (t := 90) (b := true) rfl hg97
        refine s_skip H (wantN H rfl rfl rfl) rfl (lt_ rfl) fun a H => s_skip H (wantN H rfl rfl rfl) rfl (lt_ rfl) fun a H => s_pickT H rfl rfl rfl (lt_ rfl) fun a H => ?_
        exact hr98 _ (H.weaken ⟨by rw [hg97]; rfl, rfl, rfl, rfl, rfl, rfl, rfl, trivial⟩)
       ·replace H := H.ch (t := 90) (b := false) rfl hg97
        refine s_move H (wantG H rfl rfl) rfl (lt_ rfl) fun a H => s_bin H (wantG H rfl rfl) rfl rfl r_neq (lt_ rfl) fun a H => s_pickF H rfl rfl rfl (lt_ rfl) fun a H => ?_
        exact hr98 _ (H.weaken ⟨by rw [hg97]; rfl, rfl, rfl, rfl, rfl, rfl, rfl, trivial⟩)
      ·clear H a
       intro a H
       refine s_move H rfl rfl (lt_ rfl) fun a H => ?_
       obtain ⟨x107, hy108, hn109, h⟩ := h
       refine g_join (n := 171) [(101, (.bool x107)), (6, (Slc.v s36)), (10, (.pointer (some (blk b50)))), (11, (Slc.v Scanr45)), (12, (Slc.v Scanr46)), (16, (.pointer Newr92)), (17, (Slc.v Newr93))] (.succ (.succ (.succ (.succ (.succ (.succ (.succ (.zero _)))))))) ?_ ?_
       ·intro hr100
        try clear h
        rcases Bool.eq_false_or_eq_true (Newr92.isNone || (decide (Newr94 ≠ 0))) with hg99 | hg99
        ·replace H := H.ch (t := 94) (b := true) rfl hg99
         iterate 6 refine s_skip H (wantN H rfl rfl rfl) rfl (lt_ rfl) fun a H => ?_
         refine s_pickT H rfl rfl rfl (lt_ rfl) fun a H => ?_
         replace h := hn109 hg99
         subst h
         exact hr100 _ (H.weaken ⟨rfl, rfl, rfl, rfl, rfl, rfl, rfl, trivial⟩)
        ·replace H := H.ch (t := 94) (b := false) rfl hg99
         replace h := hy108 hg99
         refine s_move H (wantG H rfl rfl) rfl (lt_ rfl) fun a H => s_blt H (wantG H rfl rfl) (H.args (vs := [(Slc.v Newr93)]) rfl) (lt_ rfl) (fun cs => b_lenS (z := Newr93) sl_28) fun a H => s_move H (wantG H rfl rfl) rfl (lt_ rfl) fun a H => ?_
         obtain ⟨a101, hi102, hi103, hi104, h⟩ := h
         refine s_idxS (s := Scanr46) H (wantG H rfl rfl) rfl rfl slc_50 hi102 hi103 hi104 (lt_ rfl) fun a H => ?_
         obtain ⟨l105, hc106, h⟩ := h
         refine s_load (v := (.int .i64 l105)) H (wantG H rfl rfl) rfl one_3 hc106 (lt_ rfl) fun a H => s_bin H (wantG H rfl rfl) rfl rfl r_neq (lt_ rfl) fun a H => s_pickF H rfl rfl rfl (lt_ rfl) fun a H => ?_
         subst h
         exact hr100 _ (H.weaken ⟨rfl, rfl, rfl, rfl, rfl, rfl, rfl, trivial⟩)
       ·clear H a
        clear hy108 hn109
        intro a H
        refine c_nil <| hK96 _ _ <| c_cond H rfl (fun hb110 => ?_) (fun hb110 => ?_)
        ·replace h := h.1 hb110
         refine c_seq fun K111 hK111 => c_reg <| s_assign H rfl rfl (lt_ rfl) fun a H => c_nil <| hK111 _ _ <| c_ret ?_
         exact e_ret1 H rfl rfl h
        ·replace h := h.2 hb110
         refine c_skip <| hK95 _ _ <| c_seq fun K112 hK112 => c_seq fun K113 hK113 => c_reg <| s_assign H rfl rfl (lt_ rfl) fun a H => c_nil <| hK113 _ _ <| c_block ?_
         obtain ⟨I117, mu118, h0253, hl254⟩ := h
         refine c_loop (σ := Slc × Int) (fun z w => I117 z.1 z.2 w) (fun z w => mu118 z.1 z.2 w) (fun z => [(6, (Slc.v s36)), (10, (.pointer (some (blk b50)))), (11, (Slc.v Scanr45)), (12, (Slc.v Scanr46)), (16, (.pointer Newr92)), (17, (Slc.v z.1)), (18, (.int .i64 z.2))]) (Newr93, 0) h0253 (H.weaken ⟨rfl, rfl, rfl, rfl, rfl, rfl, rfl, trivial⟩) ?_
         clear H h0253
         rintro ⟨again114, i115⟩ a w116 h H
         replace h := hl254 again114 i115 w116 h
         clear hl254
         replace H : Has 171 [] a [(6, (Slc.v s36)), (10, (.pointer (some (blk b50)))), (11, (Slc.v Scanr45)), (12, (Slc.v Scanr46)), (16, (.pointer Newr92)), (17, (Slc.v again114)), (18, (.int .i64 i115))] := H
         refine c_seq fun K119 hK119 => c_seq fun K120 hK120 => c_reg <| s_move H rfl rfl (lt_ rfl) fun a H => s_move H rfl rfl (lt_ rfl) fun a H => s_blt H rfl (H.args (vs := [(Slc.v Scanr45)]) rfl) (lt_ rfl) (fun cs => b_lenS (z := Scanr45) sl_26) fun a H => s_bin H rfl rfl rfl r_lss (lt_ rfl) fun a H => c_nil <| hK120 _ _ <| c_cond H rfl (fun hb121 => ?_) (fun hb121 => ?_)
         ·replace h := h.1 hb121
          refine c_skip <| hK119 _ _ <| c_seq fun K122 hK122 => c_block <| c_seq fun K123 hK123 => c_reg ?_
          iterate 3 refine s_move H rfl rfl (lt_ rfl) fun a H => ?_
          obtain ⟨a124, hi125, hi126, hi127, h⟩ := h
          refine s_idxS (s := Scanr45) H rfl rfl rfl slc_26 hi125 hi126 hi127 (lt_ rfl) fun a H => ?_
          obtain ⟨Kind128, hc129, h⟩ := h
          obtain ⟨Key130, hc131, h⟩ := h
          obtain ⟨Count132, hc133, h⟩ := h
          obtain ⟨Clien134, hc135, h⟩ := h
          obtain ⟨Fin136, hc137, h⟩ := h
          obtain ⟨Has138, hc139, h⟩ := h
          obtain ⟨Data140, hc141, h⟩ := h
          refine s_loadN (l := [(.int .i64 Kind128), (.string Key130), (.int .i64 Count132), (.int .i64 Clien134), (.bool Fin136), (.bool Has138), (Slc.v Data140)]) H rfl rfl agg_45 rfl ⟨hc129, hc131, hc133, hc135, hc137, hc139, hc141, trivial⟩ (lt_ rfl) fun a H => ?_
          refine s_call H rfl body_19 (H.args (vs := [(.pointer Newr92), (.agg #[(.int .i64 Kind128), (.string Key130), (.int .i64 Count132), (.int .i64 Clien134), (.bool Fin136), (.bool Has138), (Slc.v Data140)])]) rfl) (lt_ rfl) h ?_ (fun c w' h H => e_panic (P := PP) (fn := Tryd.f5) H h)
          clear H h a
          rintro _ w142 a ⟨Putr143, Putr144, rfl, h⟩ H
          refine s_move H rfl rfl (lt_ rfl) fun a H => s_ext H rfl rfl rfl (lt_ rfl) fun a H => s_ext H rfl rfl rfl (lt_ rfl) fun a H => s_assign H rfl rfl (lt_ rfl) fun a H => s_assign H rfl rfl (lt_ rfl) fun a H => c_nil <| hK123 _ _ <| c_seq fun K145 hK145 => c_reg ?_
          replace h := h.get
          obtain ⟨b146, w147, nb148, h⟩ := h
          refine s_bslc H rfl (by rw [H.parts (vs := []) rfl]; exact bs_28_0 w142) (lt_ rfl) ?_
          rw [← nb148.at_]
          clear H a
          intro a H
          refine nb148.go <| s_move H rfl rfl (lt_ rfl) fun a H => ?_
          obtain ⟨s149, w150, hq151, h⟩ := h
          refine s_blt H rfl (H.args (vs := [(Slc.v (Slc.mk (some (blk b146)) 0 0)), (Slc.v again114)]) rfl) (lt_ rfl) (fun cs => b_app (z := s149) hq151) ?_
          clear H a hq151
          intro a H
          refine s_move H rfl rfl (lt_ rfl) fun a H => ?_
          obtain ⟨s152, w153, hq154, h⟩ := h
          refine s_blt H rfl (H.args (vs := [(Slc.v s149), (Slc.v Putr143)]) rfl) (lt_ rfl) (fun cs => b_app (z := s152) hq154) ?_
          clear H a hq154
          intro a H
          refine s_assign H rfl rfl (lt_ rfl) fun a H => c_nil <| hK145 _ _ <| c_seq fun K155 hK155 => c_reg <| s_move H rfl rfl (lt_ rfl) fun a H => s_bin H rfl rfl rfl r_neq (lt_ rfl) fun a H => s_move H rfl rfl (lt_ rfl) fun a H => ?_
          obtain ⟨x164, hy165, hn166, h⟩ := h
          refine g_join (n := 171) [(133, (.bool x164)), (6, (Slc.v s36)), (10, (.pointer (some (blk b50)))), (11, (Slc.v Scanr45)), (12, (Slc.v Scanr46)), (16, (.pointer Newr92)), (17, (Slc.v s152)), (18, (.int .i64 i115))] (.succ (.succ (.succ (.succ (.succ (.succ (.succ (.succ (.succ (.zero _)))))))))) ?_ ?_
          ·intro hr157
           try clear h
           rcases Bool.eq_false_or_eq_true (decide (Putr144 ≠ 0)) with hg156 | hg156
           ·replace H := H.ch (t := 124) (b := true) rfl hg156
            iterate 8 refine s_skip H (wantN H rfl rfl rfl) rfl (lt_ rfl) fun a H => ?_
            refine s_pickT H rfl rfl rfl (lt_ rfl) fun a H => ?_
            replace h := hn166 hg156
            subst h
            exact hr157 _ (H.weaken ⟨rfl, rfl, rfl, rfl, rfl, rfl, rfl, rfl, trivial⟩)
           ·replace H := H.ch (t := 124) (b := false) rfl hg156
            replace h := hy165 hg156
            refine s_move H (wantG H rfl rfl) rfl (lt_ rfl) fun a H => s_blt H (wantG H rfl rfl) (H.args (vs := [(Slc.v s152)]) rfl) (lt_ rfl) (fun cs => b_lenS (z := s152) sl_28) fun a H => s_move H (wantG H rfl rfl) rfl (lt_ rfl) fun a H => s_move H (wantG H rfl rfl) rfl (lt_ rfl) fun a H => s_bin H (wantG H rfl rfl) rfl rfl r_add (lt_ rfl) fun a H => ?_
            obtain ⟨a158, hi159, hi160, hi161, h⟩ := h
            refine s_idxS (s := Scanr46) H (wantG H rfl rfl) rfl rfl slc_50 hi159 hi160 hi161 (lt_ rfl) fun a H => ?_
            obtain ⟨l162, hc163, h⟩ := h
            refine s_load (v := (.int .i64 l162)) H (wantG H rfl rfl) rfl one_3 hc163 (lt_ rfl) fun a H => s_bin H (wantG H rfl rfl) rfl rfl r_neq (lt_ rfl) fun a H => s_pickF H rfl rfl rfl (lt_ rfl) fun a H => ?_
            subst h
            exact hr157 _ (H.weaken ⟨rfl, rfl, rfl, rfl, rfl, rfl, rfl, rfl, trivial⟩)
          ·clear H a
           clear hy165 hn166
           intro a H
           refine c_nil <| hK155 _ _ <| c_cond H rfl (fun hb167 => ?_) (fun hb167 => ?_)
           ·replace h := h.1 hb167
            refine c_seq fun K168 hK168 => c_reg <| s_assign H rfl rfl (lt_ rfl) fun a H => c_nil <| hK168 _ _ <| c_ret ?_
            exact e_ret1 H rfl rfl h
           ·replace h := h.2 hb167
            refine c_skip <| hK122 _ _ <| c_reg <| s_move H rfl rfl (lt_ rfl) fun a H => s_bin H rfl rfl rfl r_add (lt_ rfl) fun a H => s_assign H rfl rfl (lt_ rfl) fun a H => c_nil <| Exists.intro (s152, wr .i64 (i115 + 1)) ⟨h.1, h.2, H.weaken ⟨rfl, rfl, rfl, rfl, rfl, rfl, rfl, trivial⟩⟩
         ·replace h := h.2 hb121
          refine c_exit ?_
          first | (simp only [Exit.then, Exit.inBlock, ↓reduceIte]; fail_if_success simp only [Nat.reduceEqDiff]) | simp only [Exit.then, Exit.inBlock, ↓reduceIte, Nat.reduceEqDiff]
          refine hK112 _ _ <| c_seq fun K173 hK173 => c_seq fun K174 hK174 => c_reg ?_
          iterate 3 refine s_move H rfl rfl (lt_ rfl) fun a H => ?_
          refine s_blt H rfl (H.args (vs := [(Slc.v again114)]) rfl) (lt_ rfl) (fun cs => b_lenS (z := again114) sl_28) fun a H => ?_
          obtain ⟨hi175, hi176, hi177, h⟩ := h
          refine s_slice (v := (Slc.v (s36.cut 1 (Int.toNat (0)) (Int.toNat ((again114.l : Int)))))) H rfl rfl ⟨rfl, rfl⟩ ⟨rfl, rfl⟩ ⟨rfl, rfl⟩ (r_sliceSlc (lo := none) (hi := (some (.i64, (again114.l : Int)))) slc_28 rfl rfl hi175 hi176 hi177) (lt_ rfl) fun a H => s_call H rfl body_10 (H.args (vs := [(Slc.v again114), (Slc.v (s36.cut 1 (Int.toNat (0)) (Int.toNat ((again114.l : Int)))))]) rfl) (lt_ rfl) h ?_ (fun c w' h H => e_panic (P := PP) (fn := Tryd.f5) H h)
          clear H h a
          rintro _ w178 a ⟨same179, rfl, h⟩ H
          refine s_un H rfl rfl r_not (lt_ rfl) fun a H => c_nil <| hK174 _ _ <| c_cond H rfl (fun hb180 => ?_) (fun hb180 => ?_)
          ·replace h := h.1 hb180
           refine c_seq fun K181 hK181 => c_reg <| s_assign H rfl rfl (lt_ rfl) fun a H => c_nil <| hK181 _ _ <| c_ret ?_
           exact e_ret1 H rfl rfl h
          ·replace h := h.2 hb180
           refine c_skip <| hK173 _ _ <| c_seq fun K182 hK182 => c_reg <| s_move H rfl rfl (lt_ rfl) fun a H => s_call H rfl body_16 (H.args (vs := [(Slc.v again114)]) rfl) (lt_ rfl) h ?_ (fun c w' h H => e_panic (P := PP) (fn := Tryd.f5) H h)
           clear H h a
           rintro _ w183 a ⟨N184, K185, Delta186, Serve187, Scanr188, Scanr189, Scanr190, Scanr191, Scanr192, rfl, h⟩ H
           refine s_move H rfl rfl (lt_ rfl) fun a H => ?_
           iterate 6 refine s_ext H rfl rfl rfl (lt_ rfl) fun a H => ?_
           replace h := h.get
           obtain ⟨b193, w194, nb195, h⟩ := h
           refine s_alloc H rfl zero_25 (lt_ rfl) ?_
           rw [← nb195.at_]
           clear H a
           intro a H
           refine nb195.go <| s_stoN (l := [(.int .i64 N184), (.int .i64 K185), (.int .i64 Delta186), (.int .i64 Serve187)]) H rfl rfl rfl rfl agg_25 rfl rfl h ?_
           clear h H
           intro w196 h H
           iterate 5 refine s_assign H rfl rfl (lt_ rfl) fun a H => ?_
           refine c_nil <| hK182 _ _ <| c_seq fun K197 hK197 => c_reg <| s_move H rfl rfl (lt_ rfl) fun a H => s_bin H rfl rfl rfl r_eql (lt_ rfl) fun a H => s_move H rfl rfl (lt_ rfl) fun a H => g_join (n := 171) [(155, (.bool ((decide (Scanr192 = 0)) && (decide (Scanr190 = 0))))), (10, (.pointer (some (blk b50)))), (11, (Slc.v Scanr45)), (12, (Slc.v Scanr46)), (21, (.pointer (some (blk b193)))), (22, (Slc.v Scanr188)), (23, (Slc.v Scanr189))] (.succ (.succ (.succ (.zero _)))) ?_ ?_
           ·intro hr199
            try clear h
            rcases Bool.eq_false_or_eq_true (decide (Scanr192 = 0)) with hg198 | hg198
            ·replace H := H.ch (t := 152) (b := true) rfl hg198
             refine s_move H (wantG H rfl rfl) rfl (lt_ rfl) fun a H => s_bin H (wantG H rfl rfl) rfl rfl r_eql (lt_ rfl) fun a H => s_pickT H rfl rfl rfl (lt_ rfl) fun a H => ?_
             exact hr199 _ (H.weaken ⟨by rw [hg198]; rfl, rfl, rfl, rfl, rfl, rfl, rfl, trivial⟩)
            ·replace H := H.ch (t := 152) (b := false) rfl hg198
             refine s_skip H (wantN H rfl rfl rfl) rfl (lt_ rfl) fun a H => s_skip H (wantN H rfl rfl rfl) rfl (lt_ rfl) fun a H => s_pickF H rfl rfl rfl (lt_ rfl) fun a H => ?_
             exact hr199 _ (H.weaken ⟨by rw [hg198]; rfl, rfl, rfl, rfl, rfl, rfl, rfl, trivial⟩)
           ·clear H a
            intro a H
            refine s_move H rfl rfl (lt_ rfl) fun a H => ?_
            obtain ⟨x218, hy219, hn220, h⟩ := h
            refine g_join (n := 171) [(160, (.bool x218)), (11, (Slc.v Scanr45)), (12, (Slc.v Scanr46)), (22, (Slc.v Scanr188)), (23, (Slc.v Scanr189))] (.succ (.succ (.succ (.succ (.zero _))))) ?_ ?_
            ·intro hr201
             try clear h
             rcases Bool.eq_false_or_eq_true ((decide (Scanr192 = 0)) && (decide (Scanr190 = 0))) with hg200 | hg200
             ·replace H := H.ch (t := 156) (b := true) rfl hg200
              replace h := hy219 hg200
              obtain ⟨N202, hc203, h⟩ := h
              obtain ⟨K204, hc205, h⟩ := h
              obtain ⟨Delta206, hc207, h⟩ := h
              obtain ⟨Serve208, hc209, h⟩ := h
              refine s_loadN (l := [(.int .i64 N202), (.int .i64 K204), (.int .i64 Delta206), (.int .i64 Serve208)]) H (wantG H rfl rfl) rfl agg_25 rfl ⟨hc203, hc205, hc207, hc209, trivial⟩ (lt_ rfl) fun a H => ?_
              obtain ⟨N210, hc211, h⟩ := h
              obtain ⟨K212, hc213, h⟩ := h
              obtain ⟨Delta214, hc215, h⟩ := h
              obtain ⟨Serve216, hc217, h⟩ := h
              refine s_loadN (l := [(.int .i64 N210), (.int .i64 K212), (.int .i64 Delta214), (.int .i64 Serve216)]) H (wantG H rfl rfl) rfl agg_25 rfl ⟨hc211, hc213, hc215, hc217, trivial⟩ (lt_ rfl) fun a H => s_bin H (wantG H rfl rfl) rfl rfl (r_eqst eqg_25 (eqst_25 0) rfl) (lt_ rfl) fun a H => s_pickT H rfl rfl rfl (lt_ rfl) fun a H => ?_
              subst h
              exact hr201 _ (H.weaken ⟨rfl, rfl, rfl, rfl, rfl, trivial⟩)
             ·replace H := H.ch (t := 156) (b := false) rfl hg200
              iterate 3 refine s_skip H (wantN H rfl rfl rfl) rfl (lt_ rfl) fun a H => ?_
              refine s_pickF H rfl rfl rfl (lt_ rfl) fun a H => ?_
              replace h := hn220 hg200
              subst h
              exact hr201 _ (H.weaken ⟨rfl, rfl, rfl, rfl, rfl, trivial⟩)
            ·clear H a
             clear hy219 hn220
             intro a H
             refine s_move H rfl rfl (lt_ rfl) fun a H => ?_
             obtain ⟨R223, h, hx244⟩ := h
             refine g_joinW (n := 171) R223 (fun x224 => [(165, (.bool x224)), (12, (Slc.v Scanr46)), (23, (Slc.v Scanr189))]) (.succ (.succ (.succ (.succ (.zero _))))) ?_ ?_
             ·intro hr222
              clear hx244
              rcases Bool.eq_false_or_eq_true x218 with hg221 | hg221
              ·replace H := H.ch (t := 161) (b := true) rfl hg221
               replace h := h.1 hg221
               refine s_move H (wantG H rfl rfl) rfl (lt_ rfl) fun a H => s_move H (wantG H rfl rfl) rfl (lt_ rfl) fun a H => s_call H (wantG H rfl rfl) body_17 (H.args (vs := [(Slc.v Scanr188), (Slc.v Scanr45)]) rfl) (lt_ rfl) h ?_ (fun c w' h H => e_panic (P := PP) (fn := Tryd.f5) H h)
               clear H h a
               rintro _ w226 a ⟨updat227, rfl, h⟩ H
               refine s_pickT H rfl rfl rfl (lt_ rfl) fun a H => ?_
               exact hr222 _ _ _ h (H.weaken ⟨rfl, rfl, rfl, trivial⟩)
              ·replace H := H.ch (t := 161) (b := false) rfl hg221
               replace h := h.2 hg221
               iterate 3 refine s_skip H (wantN H rfl rfl rfl) rfl (lt_ rfl) fun a H => ?_
               refine s_pickF H rfl rfl rfl (lt_ rfl) fun a H => ?_
               exact hr222 _ _ _ h (H.weaken ⟨rfl, rfl, rfl, trivial⟩)
             ·clear H a h
              intro a x224 w225 h H
              replace h := hx244 x224 w225 h
              clear hx244
              refine s_move H rfl rfl (lt_ rfl) fun a H => ?_
              obtain ⟨R234, h, hx243⟩ := h
              refine g_joinW (n := 171) R234 (fun x235 => [(170, (.bool x235))]) (.succ (.succ (.succ (.succ (.zero _))))) ?_ ?_
              ·intro hr233
               clear hx243
               rcases Bool.eq_false_or_eq_true x224 with hg232 | hg232
               ·replace H := H.ch (t := 166) (b := true) rfl hg232
                replace h := h.1 hg232
                refine s_move H (wantG H rfl rfl) rfl (lt_ rfl) fun a H => s_move H (wantG H rfl rfl) rfl (lt_ rfl) fun a H => s_call H (wantG H rfl rfl) body_18 (H.args (vs := [(Slc.v Scanr189), (Slc.v Scanr46)]) rfl) (lt_ rfl) h ?_ (fun c w' h H => e_panic (P := PP) (fn := Tryd.f5) H h)
                clear H h a
                rintro _ w237 a ⟨ints238, rfl, h⟩ H
                refine s_pickT H rfl rfl rfl (lt_ rfl) fun a H => ?_
                exact hr233 _ _ _ h (H.weaken ⟨rfl, trivial⟩)
               ·replace H := H.ch (t := 166) (b := false) rfl hg232
                replace h := h.2 hg232
                iterate 3 refine s_skip H (wantN H rfl rfl rfl) rfl (lt_ rfl) fun a H => ?_
                refine s_pickF H rfl rfl rfl (lt_ rfl) fun a H => ?_
                exact hr233 _ _ _ h (H.weaken ⟨rfl, trivial⟩)
              ·clear H a h
               intro a x235 w236 h H
               replace h := hx243 x235 w236 h
               clear hx243
               refine s_assign H rfl rfl (lt_ rfl) fun a H => c_nil <| hK197 _ _ <| c_ret ?_
               exact e_ret1 H rfl rfl h

set_option maxRecDepth 100000 in
set_option maxHeartbeats 4000000 in
theorem sim_sherdlaw11_RecordBack (N1 : Int) (K2 : Int) (Delta3 : Int) (Serve4 : Int) (Updat5 : Slc) (Kind6 : Int) (Key7 : ByteArray) (Count8 : Int) (Clien9 : Int) (Fin10 : Bool) (Has11 : Bool) (Data12 : Slc) (w : World) (Q : Ending → World → Prop) (h : vc_sherdlaw11_RecordBack N1 K2 Delta3 Serve4 Updat5 Kind6 Key7 Count8 Clien9 Fin10 Has11 Data12 w Q) : Calls PP F_sherdlaw11_RecordBack #[(.agg #[(.int .i64 N1), (.int .i64 K2), (.int .i64 Delta3), (.int .i64 Serve4), (Slc.v Updat5)]), (.agg #[(.int .i64 Kind6), (.string Key7), (.int .i64 Count8), (.int .i64 Clien9), (.bool Fin10), (.bool Has11), (Slc.v Data12)])] w Q := by
 unfold vc_sherdlaw11_RecordBack at h
 refine enter (n := 143) (l := [(.agg #[(.int .i64 N1), (.int .i64 K2), (.int .i64 Delta3), (.int .i64 Serve4), (Slc.v Updat5)]), (.agg #[(.int .i64 Kind6), (.string Key7), (.int .i64 Count8), (.int .i64 Clien9), (.bool Fin10), (.bool Has11), (Slc.v Data12)])]) Tryd.func6 rfl rfl (Nat.le_of_ble_eq_true rfl) fun a H => ?_
 replace H : Has 143 [] a [(0, (.agg #[(.int .i64 N1), (.int .i64 K2), (.int .i64 Delta3), (.int .i64 Serve4), (Slc.v Updat5)])), (1, (.agg #[(.int .i64 Kind6), (.string Key7), (.int .i64 Count8), (.int .i64 Clien9), (.bool Fin10), (.bool Has11), (Slc.v Data12)]))] := H
 refine c_seq fun K13 hK13 => c_reg ?_
 replace h := h.get
 obtain ⟨b14, w15, nb16, h⟩ := h
 refine s_box H rfl rfl (lt_ rfl) ?_
 rw [← nb16.at_]
 clear H a
 intro a H
 refine nb16.go ?_
 replace h := h.get
 obtain ⟨b17, w18, nb19, h⟩ := h
 refine s_box H rfl rfl (lt_ rfl) ?_
 rw [← nb19.at_]
 clear H a
 intro a H
 refine nb19.go <| s_assign H rfl rfl (lt_ rfl) fun a H => c_nil <| hK13 _ _ <| c_seq fun K20 hK20 => c_reg <| s_loadN (l := [(.int .i64 N1), (.int .i64 K2), (.int .i64 Delta3), (.int .i64 Serve4), (Slc.v Updat5)]) H rfl rfl agg_49 rfl ⟨(nb19.old (nb16.cell (i := 0) rfl)), (nb19.old (nb16.cell (i := 1) rfl)), (nb19.old (nb16.cell (i := 2) rfl)), (nb19.old (nb16.cell (i := 3) rfl)), (nb19.old (nb16.cell (i := 4) rfl)), trivial⟩ (lt_ rfl) fun a H => ?_
 refine s_call H rfl body_14 (H.args (vs := [(.agg #[(.int .i64 N1), (.int .i64 K2), (.int .i64 Delta3), (.int .i64 Serve4), (Slc.v Updat5)])]) rfl) (lt_ rfl) h ?_ (fun c w' h H => e_panic (P := PP) (fn := Tryd.f6) H h)
 clear H h a
 rintro _ w21 a ⟨N22, K23, Delta24, Serve25, writt26, writt27, writt28, writt29, rfl, h⟩ H
 refine s_move H rfl rfl (lt_ rfl) fun a H => ?_
 iterate 5 refine s_ext H rfl rfl rfl (lt_ rfl) fun a H => ?_
 replace h := h.get
 obtain ⟨b30, w31, nb32, h⟩ := h
 refine s_alloc H rfl zero_25 (lt_ rfl) ?_
 rw [← nb32.at_]
 clear H a
 intro a H
 refine nb32.go <| s_stoN (l := [(.int .i64 N22), (.int .i64 K23), (.int .i64 Delta24), (.int .i64 Serve25)]) H rfl rfl rfl rfl agg_25 rfl rfl h ?_
 clear h H
 intro w33 h H
 iterate 4 refine s_assign H rfl rfl (lt_ rfl) fun a H => ?_
 refine c_nil <| hK20 _ _ <| c_seq fun K34 hK34 => c_seq fun K35 hK35 => c_reg <| s_move H rfl rfl (lt_ rfl) fun a H => s_bin H rfl rfl rfl (r_eqP0 ptr_32) (lt_ rfl) fun a H => s_move H rfl rfl (lt_ rfl) fun a H => ?_
 obtain ⟨R38, h, hx275⟩ := h
 refine g_joinW (n := 143) R38 (fun x39 => [(41, (.bool x39)), (3, (.pointer (some (blk b17)))), (5, (.pointer (some (blk b30)))), (6, (Slc.v writt26)), (7, (Slc.v writt27)), (8, (Slc.v writt28)), (9, (.pointer writt29))]) (.succ (.succ (.succ (.succ (.succ (.succ (.zero _))))))) ?_ ?_
 ·intro hr37
  clear hx275
  rcases Bool.eq_false_or_eq_true writt29.isNone with hg36 | hg36
  ·replace H := H.ch (t := 35) (b := true) rfl hg36
   replace h := h.2 hg36
   iterate 5 refine s_skip H (wantN H rfl rfl rfl) rfl (lt_ rfl) fun a H => ?_
   refine s_pickT H rfl rfl rfl (lt_ rfl) fun a H => ?_
   exact hr37 _ _ _ h (H.weaken ⟨rfl, rfl, rfl, rfl, rfl, rfl, rfl, trivial⟩)
  ·replace H := H.ch (t := 35) (b := false) rfl hg36
   replace h := h.1 hg36
   refine s_move H (wantG H rfl rfl) rfl (lt_ rfl) fun a H => s_call H (wantG H rfl rfl) body_20 (H.args (vs := [(.pointer writt29)]) rfl) (lt_ rfl) h ?_ (fun c w' h H => e_panic (P := PP) (fn := Tryd.f6) H h)
   clear H h a
   rintro _ w41 a ⟨Count42, rfl, h⟩ H
   refine s_move H (wantG H rfl rfl) rfl (lt_ rfl) fun a H => s_blt H (wantG H rfl rfl) (H.args (vs := [(Slc.v writt28)]) rfl) (lt_ rfl) (fun cs => b_lenS (z := writt28) sl_26) fun a H => s_bin H (wantG H rfl rfl) rfl rfl r_neq (lt_ rfl) fun a H => s_pickF H rfl rfl rfl (lt_ rfl) fun a H => ?_
   exact hr37 _ _ _ h (H.weaken ⟨rfl, rfl, rfl, rfl, rfl, rfl, rfl, trivial⟩)
 ·clear H a h
  intro a x39 w40 h H
  replace h := hx275 x39 w40 h
  clear hx275
  refine c_nil <| hK35 _ _ <| c_cond H rfl (fun hb47 => ?_) (fun hb47 => ?_)
  ·replace h := h.1 hb47
   refine c_seq fun K48 hK48 => c_reg <| s_assign H rfl rfl (lt_ rfl) fun a H => c_nil <| hK48 _ _ <| c_ret ?_
   exact e_ret1 H rfl rfl h
  ·replace h := h.2 hb47
   refine c_skip <| hK34 _ _ <| c_seq fun K49 hK49 => c_reg <| s_move H rfl rfl (lt_ rfl) fun a H => s_call H rfl body_16 (H.args (vs := [(Slc.v writt26)]) rfl) (lt_ rfl) h ?_ (fun c w' h H => e_panic (P := PP) (fn := Tryd.f6) H h)
   clear H h a
   rintro _ w50 a ⟨N51, K52, Delta53, Serve54, Scanr55, Scanr56, Scanr57, Scanr58, Scanr59, rfl, h⟩ H
   refine s_move H rfl rfl (lt_ rfl) fun a H => ?_
   iterate 6 refine s_ext H rfl rfl rfl (lt_ rfl) fun a H => ?_
   replace h := h.get
   obtain ⟨b60, w61, nb62, h⟩ := h
   refine s_alloc H rfl zero_25 (lt_ rfl) ?_
   rw [← nb62.at_]
   clear H a
   intro a H
   refine nb62.go <| s_stoN (l := [(.int .i64 N51), (.int .i64 K52), (.int .i64 Delta53), (.int .i64 Serve54)]) H rfl rfl rfl rfl agg_25 rfl rfl h ?_
   clear h H
   intro w63 h H
   iterate 5 refine s_assign H rfl rfl (lt_ rfl) fun a H => ?_
   refine c_nil <| hK49 _ _ <| c_seq fun K64 hK64 => c_seq fun K65 hK65 => c_reg <| s_move H rfl rfl (lt_ rfl) fun a H => s_bin H rfl rfl rfl r_neq (lt_ rfl) fun a H => s_move H rfl rfl (lt_ rfl) fun a H => ?_
   refine g_join (n := 143) [(56, (.bool ((decide (Scanr59 ≠ 0)) || (decide (Scanr57 ≠ 0))))), (3, (.pointer (some (blk b17)))), (5, (.pointer (some (blk b30)))), (6, (Slc.v writt26)), (7, (Slc.v writt27)), (8, (Slc.v writt28)), (9, (.pointer writt29)), (10, (.pointer (some (blk b60)))), (11, (Slc.v Scanr55)), (12, (Slc.v Scanr56)), (14, (.pointer Scanr58))] (.succ (.succ (.succ (.zero _)))) ?_ ?_
   ·intro hr67
    try clear h
    rcases Bool.eq_false_or_eq_true (decide (Scanr59 ≠ 0)) with hg66 | hg66
    ·replace H := H.ch (t := 53) (b := true) rfl hg66
     refine s_skip H (wantN H rfl rfl rfl) rfl (lt_ rfl) fun a H => s_skip H (wantN H rfl rfl rfl) rfl (lt_ rfl) fun a H => s_pickT H rfl rfl rfl (lt_ rfl) fun a H => ?_
     exact hr67 _ (H.weaken ⟨by rw [hg66]; rfl, rfl, rfl, rfl, rfl, rfl, rfl, rfl, rfl, rfl, rfl, trivial⟩)
    ·replace H := H.ch (t := 53) (b := false) rfl hg66
     refine s_move H (wantG H rfl rfl) rfl (lt_ rfl) fun a H => s_bin H (wantG H rfl rfl) rfl rfl r_neq (lt_ rfl) fun a H => s_pickF H rfl rfl rfl (lt_ rfl) fun a H => ?_
     exact hr67 _ (H.weaken ⟨by rw [hg66]; rfl, rfl, rfl, rfl, rfl, rfl, rfl, rfl, rfl, rfl, rfl, trivial⟩)
   ·clear H a
    intro a H
    refine s_move H rfl rfl (lt_ rfl) fun a H => ?_
    obtain ⟨x86, hy87, hn88, h⟩ := h
    refine g_join (n := 143) [(61, (.bool x86)), (3, (.pointer (some (blk b17)))), (6, (Slc.v writt26)), (7, (Slc.v writt27)), (8, (Slc.v writt28)), (9, (.pointer writt29)), (10, (.pointer (some (blk b60)))), (11, (Slc.v Scanr55)), (12, (Slc.v Scanr56)), (14, (.pointer Scanr58))] (.succ (.succ (.succ (.succ (.zero _))))) ?_ ?_
    ·intro hr69
     try clear h
     rcases Bool.eq_false_or_eq_true ((decide (Scanr59 ≠ 0)) || (decide (Scanr57 ≠ 0))) with hg68 | hg68
     ·replace H := H.ch (t := 57) (b := true) rfl hg68
      iterate 3 refine s_skip H (wantN H rfl rfl rfl) rfl (lt_ rfl) fun a H => ?_
      refine s_pickT H rfl rfl rfl (lt_ rfl) fun a H => ?_
      replace h := hn88 hg68
      subst h
      exact hr69 _ (H.weaken ⟨rfl, rfl, rfl, rfl, rfl, rfl, rfl, rfl, rfl, rfl, trivial⟩)
     ·replace H := H.ch (t := 57) (b := false) rfl hg68
      replace h := hy87 hg68
      obtain ⟨N70, hc71, h⟩ := h
      obtain ⟨K72, hc73, h⟩ := h
      obtain ⟨Delta74, hc75, h⟩ := h
      obtain ⟨Serve76, hc77, h⟩ := h
      refine s_loadN (l := [(.int .i64 N70), (.int .i64 K72), (.int .i64 Delta74), (.int .i64 Serve76)]) H (wantG H rfl rfl) rfl agg_25 rfl ⟨hc71, hc73, hc75, hc77, trivial⟩ (lt_ rfl) fun a H => ?_
      obtain ⟨N78, hc79, h⟩ := h
      obtain ⟨K80, hc81, h⟩ := h
      obtain ⟨Delta82, hc83, h⟩ := h
      obtain ⟨Serve84, hc85, h⟩ := h
      refine s_loadN (l := [(.int .i64 N78), (.int .i64 K80), (.int .i64 Delta82), (.int .i64 Serve84)]) H (wantG H rfl rfl) rfl agg_25 rfl ⟨hc79, hc81, hc83, hc85, trivial⟩ (lt_ rfl) fun a H => s_bin H (wantG H rfl rfl) rfl rfl (r_nest eqg_25 (eqst_25 0) rfl) (lt_ rfl) fun a H => s_pickF H rfl rfl rfl (lt_ rfl) fun a H => ?_
      subst h
      exact hr69 _ (H.weaken ⟨rfl, rfl, rfl, rfl, rfl, rfl, rfl, rfl, rfl, rfl, trivial⟩)
    ·clear H a
     clear hy87 hn88
     intro a H
     refine s_move H rfl rfl (lt_ rfl) fun a H => ?_
     obtain ⟨R91, h, hx270⟩ := h
     refine g_joinW (n := 143) R91 (fun x92 => [(67, (.bool x92)), (3, (.pointer (some (blk b17)))), (6, (Slc.v writt26)), (7, (Slc.v writt27)), (8, (Slc.v writt28)), (9, (.pointer writt29)), (10, (.pointer (some (blk b60)))), (11, (Slc.v Scanr55)), (12, (Slc.v Scanr56)), (14, (.pointer Scanr58))]) (.succ (.succ (.succ (.succ (.succ (.zero _)))))) ?_ ?_
     ·intro hr90
      clear hx270
      rcases Bool.eq_false_or_eq_true x86 with hg89 | hg89
      ·replace H := H.ch (t := 62) (b := true) rfl hg89
       replace h := h.2 hg89
       iterate 4 refine s_skip H (wantN H rfl rfl rfl) rfl (lt_ rfl) fun a H => ?_
       refine s_pickT H rfl rfl rfl (lt_ rfl) fun a H => ?_
       exact hr90 _ _ _ h (H.weaken ⟨rfl, rfl, rfl, rfl, rfl, rfl, rfl, rfl, rfl, rfl, trivial⟩)
      ·replace H := H.ch (t := 62) (b := false) rfl hg89
       replace h := h.1 hg89
       refine s_move H (wantG H rfl rfl) rfl (lt_ rfl) fun a H => s_move H (wantG H rfl rfl) rfl (lt_ rfl) fun a H => s_call H (wantG H rfl rfl) body_17 (H.args (vs := [(Slc.v Scanr55), (Slc.v writt28)]) rfl) (lt_ rfl) h ?_ (fun c w' h H => e_panic (P := PP) (fn := Tryd.f6) H h)
       clear H h a
       rintro _ w94 a ⟨updat95, rfl, h⟩ H
       refine s_un H (wantG H rfl rfl) rfl r_not (lt_ rfl) fun a H => s_pickF H rfl rfl rfl (lt_ rfl) fun a H => ?_
       exact hr90 _ _ _ h (H.weaken ⟨rfl, rfl, rfl, rfl, rfl, rfl, rfl, rfl, rfl, rfl, trivial⟩)
     ·clear H a h
      intro a x92 w93 h H
      replace h := hx270 x92 w93 h
      clear hx270
      refine s_move H rfl rfl (lt_ rfl) fun a H => ?_
      obtain ⟨R102, h, hx269⟩ := h
      refine g_joinW (n := 143) R102 (fun x103 => [(73, (.bool x103)), (3, (.pointer (some (blk b17)))), (6, (Slc.v writt26)), (8, (Slc.v writt28)), (9, (.pointer writt29)), (10, (.pointer (some (blk b60)))), (11, (Slc.v Scanr55)), (14, (.pointer Scanr58))]) (.succ (.succ (.succ (.succ (.succ (.zero _)))))) ?_ ?_
      ·intro hr101
       clear hx269
       rcases Bool.eq_false_or_eq_true x92 with hg100 | hg100
       ·replace H := H.ch (t := 68) (b := true) rfl hg100
        replace h := h.2 hg100
        iterate 4 refine s_skip H (wantN H rfl rfl rfl) rfl (lt_ rfl) fun a H => ?_
        refine s_pickT H rfl rfl rfl (lt_ rfl) fun a H => ?_
        exact hr101 _ _ _ h (H.weaken ⟨rfl, rfl, rfl, rfl, rfl, rfl, rfl, rfl, trivial⟩)
       ·replace H := H.ch (t := 68) (b := false) rfl hg100
        replace h := h.1 hg100
        refine s_move H (wantG H rfl rfl) rfl (lt_ rfl) fun a H => s_move H (wantG H rfl rfl) rfl (lt_ rfl) fun a H => s_call H (wantG H rfl rfl) body_18 (H.args (vs := [(Slc.v Scanr56), (Slc.v writt27)]) rfl) (lt_ rfl) h ?_ (fun c w' h H => e_panic (P := PP) (fn := Tryd.f6) H h)
        clear H h a
        rintro _ w105 a ⟨ints106, rfl, h⟩ H
        refine s_un H (wantG H rfl rfl) rfl r_not (lt_ rfl) fun a H => s_pickF H rfl rfl rfl (lt_ rfl) fun a H => ?_
        exact hr101 _ _ _ h (H.weaken ⟨rfl, rfl, rfl, rfl, rfl, rfl, rfl, rfl, trivial⟩)
      ·clear H a h
       intro a x103 w104 h H
       replace h := hx269 x103 w104 h
       clear hx269
       refine s_move H rfl rfl (lt_ rfl) fun a H => g_join (n := 143) [(77, (.bool (x103 || Scanr58.isNone))), (3, (.pointer (some (blk b17)))), (6, (Slc.v writt26)), (8, (Slc.v writt28)), (9, (.pointer writt29)), (10, (.pointer (some (blk b60)))), (11, (Slc.v Scanr55)), (14, (.pointer Scanr58))] (.succ (.succ (.succ (.zero _)))) ?_ ?_
       ·intro hr112
        try clear h
        rcases Bool.eq_false_or_eq_true x103 with hg111 | hg111
        ·replace H := H.ch (t := 74) (b := true) rfl hg111
         refine s_skip H (wantN H rfl rfl rfl) rfl (lt_ rfl) fun a H => s_skip H (wantN H rfl rfl rfl) rfl (lt_ rfl) fun a H => s_pickT H rfl rfl rfl (lt_ rfl) fun a H => ?_
         exact hr112 _ (H.weaken ⟨by rw [hg111]; rfl, rfl, rfl, rfl, rfl, rfl, rfl, rfl, trivial⟩)
        ·replace H := H.ch (t := 74) (b := false) rfl hg111
         refine s_move H (wantG H rfl rfl) rfl (lt_ rfl) fun a H => s_bin H (wantG H rfl rfl) rfl rfl (r_eqP0 ptr_32) (lt_ rfl) fun a H => s_pickF H rfl rfl rfl (lt_ rfl) fun a H => ?_
         exact hr112 _ (H.weaken ⟨by rw [hg111]; rfl, rfl, rfl, rfl, rfl, rfl, rfl, rfl, trivial⟩)
       ·clear H a
        intro a H
        refine s_move H rfl rfl (lt_ rfl) fun a H => ?_
        obtain ⟨R115, h, hx268⟩ := h
        refine g_joinW (n := 143) R115 (fun x116 => [(84, (.bool x116)), (3, (.pointer (some (blk b17)))), (6, (Slc.v writt26)), (9, (.pointer writt29)), (10, (.pointer (some (blk b60)))), (11, (Slc.v Scanr55)), (14, (.pointer Scanr58))]) (.succ (.succ (.succ (.succ (.succ (.succ (.zero _))))))) ?_ ?_
        ·intro hr114
         clear hx268
         rcases Bool.eq_false_or_eq_true (x103 || Scanr58.isNone) with hg113 | hg113
         ·replace H := H.ch (t := 78) (b := true) rfl hg113
          replace h := h.2 hg113
          iterate 5 refine s_skip H (wantN H rfl rfl rfl) rfl (lt_ rfl) fun a H => ?_
          refine s_pickT H rfl rfl rfl (lt_ rfl) fun a H => ?_
          exact hr114 _ _ _ h (H.weaken ⟨rfl, rfl, rfl, rfl, rfl, rfl, rfl, trivial⟩)
         ·replace H := H.ch (t := 78) (b := false) rfl hg113
          replace h := h.1 hg113
          refine s_move H (wantG H rfl rfl) rfl (lt_ rfl) fun a H => s_call H (wantG H rfl rfl) body_20 (H.args (vs := [(.pointer Scanr58)]) rfl) (lt_ rfl) h ?_ (fun c w' h H => e_panic (P := PP) (fn := Tryd.f6) H h)
          clear H h a
          rintro _ w118 a ⟨Count119, rfl, h⟩ H
          refine s_move H (wantG H rfl rfl) rfl (lt_ rfl) fun a H => s_blt H (wantG H rfl rfl) (H.args (vs := [(Slc.v writt28)]) rfl) (lt_ rfl) (fun cs => b_lenS (z := writt28) sl_26) fun a H => s_bin H (wantG H rfl rfl) rfl rfl r_neq (lt_ rfl) fun a H => s_pickF H rfl rfl rfl (lt_ rfl) fun a H => ?_
          exact hr114 _ _ _ h (H.weaken ⟨rfl, rfl, rfl, rfl, rfl, rfl, rfl, trivial⟩)
        ·clear H a h
         intro a x116 w117 h H
         replace h := hx268 x116 w117 h
         clear hx268
         refine c_nil <| hK65 _ _ <| c_cond H rfl (fun hb124 => ?_) (fun hb124 => ?_)
         ·replace h := h.1 hb124
          refine c_seq fun K125 hK125 => c_reg <| s_assign H rfl rfl (lt_ rfl) fun a H => c_nil <| hK125 _ _ <| c_ret ?_
          exact e_ret1 H rfl rfl h
         ·replace h := h.2 hb124
          refine c_skip <| hK64 _ _ <| c_seq fun K126 hK126 => c_reg <| s_move H rfl rfl (lt_ rfl) fun a H => ?_
          obtain ⟨Kind127, hc128, h⟩ := h
          obtain ⟨Key129, hc130, h⟩ := h
          obtain ⟨Count131, hc132, h⟩ := h
          obtain ⟨Clien133, hc134, h⟩ := h
          obtain ⟨Fin135, hc136, h⟩ := h
          obtain ⟨Has137, hc138, h⟩ := h
          obtain ⟨Data139, hc140, h⟩ := h
          refine s_loadN (l := [(.int .i64 Kind127), (.string Key129), (.int .i64 Count131), (.int .i64 Clien133), (.bool Fin135), (.bool Has137), (Slc.v Data139)]) H rfl rfl agg_45 rfl ⟨hc128, hc130, hc132, hc134, hc136, hc138, hc140, trivial⟩ (lt_ rfl) fun a H => ?_
          refine s_call H rfl body_19 (H.args (vs := [(.pointer writt29), (.agg #[(.int .i64 Kind127), (.string Key129), (.int .i64 Count131), (.int .i64 Clien133), (.bool Fin135), (.bool Has137), (Slc.v Data139)])]) rfl) (lt_ rfl) h ?_ (fun c w' h H => e_panic (P := PP) (fn := Tryd.f6) H h)
          clear H h a
          rintro _ w141 a ⟨Putr142, Putr143, rfl, h⟩ H
          refine s_move H rfl rfl (lt_ rfl) fun a H => s_ext H rfl rfl rfl (lt_ rfl) fun a H => s_ext H rfl rfl rfl (lt_ rfl) fun a H => s_assign H rfl rfl (lt_ rfl) fun a H => s_assign H rfl rfl (lt_ rfl) fun a H => c_nil <| hK126 _ _ <| c_seq fun K144 hK144 => c_reg <| s_move H rfl rfl (lt_ rfl) fun a H => ?_
          obtain ⟨Kind145, hc146, h⟩ := h
          obtain ⟨Key147, hc148, h⟩ := h
          obtain ⟨Count149, hc150, h⟩ := h
          obtain ⟨Clien151, hc152, h⟩ := h
          obtain ⟨Fin153, hc154, h⟩ := h
          obtain ⟨Has155, hc156, h⟩ := h
          obtain ⟨Data157, hc158, h⟩ := h
          refine s_loadN (l := [(.int .i64 Kind145), (.string Key147), (.int .i64 Count149), (.int .i64 Clien151), (.bool Fin153), (.bool Has155), (Slc.v Data157)]) H rfl rfl agg_45 rfl ⟨hc146, hc148, hc150, hc152, hc154, hc156, hc158, trivial⟩ (lt_ rfl) fun a H => ?_
          refine s_call H rfl body_19 (H.args (vs := [(.pointer Scanr58), (.agg #[(.int .i64 Kind145), (.string Key147), (.int .i64 Count149), (.int .i64 Clien151), (.bool Fin153), (.bool Has155), (Slc.v Data157)])]) rfl) (lt_ rfl) h ?_ (fun c w' h H => e_panic (P := PP) (fn := Tryd.f6) H h)
          clear H h a
          rintro _ w159 a ⟨Putr160, Putr161, rfl, h⟩ H
          refine s_move H rfl rfl (lt_ rfl) fun a H => s_ext H rfl rfl rfl (lt_ rfl) fun a H => s_ext H rfl rfl rfl (lt_ rfl) fun a H => s_assign H rfl rfl (lt_ rfl) fun a H => s_assign H rfl rfl (lt_ rfl) fun a H => c_nil <| hK144 _ _ <| c_seq fun K162 hK162 => c_seq fun K163 hK163 => c_reg <| s_move H rfl rfl (lt_ rfl) fun a H => s_move H rfl rfl (lt_ rfl) fun a H => s_bin H rfl rfl rfl r_neq (lt_ rfl) fun a H => s_move H rfl rfl (lt_ rfl) fun a H => ?_
          obtain ⟨R166, h, hx259⟩ := h
          refine g_joinW (n := 143) R166 (fun x167 => [(105, (.bool x167)), (6, (Slc.v writt26)), (10, (.pointer (some (blk b60)))), (11, (Slc.v Scanr55))]) (.succ (.succ (.succ (.succ (.succ (.zero _)))))) ?_ ?_
          ·intro hr165
           clear hx259
           rcases Bool.eq_false_or_eq_true (decide (Putr143 ≠ Putr161)) with hg164 | hg164
           ·replace H := H.ch (t := 100) (b := true) rfl hg164
            replace h := h.2 hg164
            iterate 4 refine s_skip H (wantN H rfl rfl rfl) rfl (lt_ rfl) fun a H => ?_
            refine s_pickT H rfl rfl rfl (lt_ rfl) fun a H => ?_
            exact hr165 _ _ _ h (H.weaken ⟨rfl, rfl, rfl, rfl, trivial⟩)
           ·replace H := H.ch (t := 100) (b := false) rfl hg164
            replace h := h.1 hg164
            refine s_move H (wantG H rfl rfl) rfl (lt_ rfl) fun a H => s_move H (wantG H rfl rfl) rfl (lt_ rfl) fun a H => s_call H (wantG H rfl rfl) body_10 (H.args (vs := [(Slc.v Putr142), (Slc.v Putr160)]) rfl) (lt_ rfl) h ?_ (fun c w' h H => e_panic (P := PP) (fn := Tryd.f6) H h)
            clear H h a
            rintro _ w169 a ⟨same170, rfl, h⟩ H
            refine s_un H (wantG H rfl rfl) rfl r_not (lt_ rfl) fun a H => s_pickF H rfl rfl rfl (lt_ rfl) fun a H => ?_
            exact hr165 _ _ _ h (H.weaken ⟨rfl, rfl, rfl, rfl, trivial⟩)
          ·clear H a h
           intro a x167 w168 h H
           replace h := hx259 x167 w168 h
           clear hx259
           refine c_nil <| hK163 _ _ <| c_cond H rfl (fun hb175 => ?_) (fun hb175 => ?_)
           ·replace h := h.1 hb175
            refine c_seq fun K176 hK176 => c_reg <| s_assign H rfl rfl (lt_ rfl) fun a H => c_nil <| hK176 _ _ <| c_ret ?_
            exact e_ret1 H rfl rfl h
           ·replace h := h.2 hb175
            refine c_skip <| hK162 _ _ <| c_seq fun K177 hK177 => c_reg ?_
            obtain ⟨N178, hc179, h⟩ := h
            obtain ⟨K180, hc181, h⟩ := h
            obtain ⟨Delta182, hc183, h⟩ := h
            obtain ⟨Serve184, hc185, h⟩ := h
            refine s_loadN (l := [(.int .i64 N178), (.int .i64 K180), (.int .i64 Delta182), (.int .i64 Serve184)]) H rfl rfl agg_25 rfl ⟨hc179, hc181, hc183, hc185, trivial⟩ (lt_ rfl) fun a H => s_call H rfl body_9 (H.args (vs := [(.agg #[(.int .i64 N178), (.int .i64 K180), (.int .i64 Delta182), (.int .i64 Serve184)])]) rfl) (lt_ rfl) h ?_ (fun c w' h H => e_panic (P := PP) (fn := Tryd.f6) H h)
            clear H h a
            rintro _ w186 a ⟨Newr187, Newr188, Newr189, rfl, h⟩ H
            refine s_move H rfl rfl (lt_ rfl) fun a H => ?_
            iterate 3 refine s_ext H rfl rfl rfl (lt_ rfl) fun a H => ?_
            iterate 3 refine s_assign H rfl rfl (lt_ rfl) fun a H => ?_
            refine c_nil <| hK177 _ _ <| c_seq fun K190 hK190 => c_seq fun K191 hK191 => c_reg <| s_move H rfl rfl (lt_ rfl) fun a H => s_bin H rfl rfl rfl (r_eqP0 ptr_32) (lt_ rfl) fun a H => s_move H rfl rfl (lt_ rfl) fun a H => g_join (n := 143) [(117, (.bool (Newr187.isNone || (decide (Newr189 ≠ 0))))), (6, (Slc.v writt26)), (11, (Slc.v Scanr55)), (20, (.pointer Newr187)), (21, (Slc.v Newr188))] (.succ (.succ (.succ (.zero _)))) ?_ ?_
            ·intro hr193
             try clear h
             rcases Bool.eq_false_or_eq_true Newr187.isNone with hg192 | hg192
             ·replace H := H.ch (t := 114) (b := true) rfl hg192
              refine s_skip H (wantN H rfl rfl rfl) rfl (lt_ rfl) fun a H => s_skip H (wantN H rfl rfl rfl) rfl (lt_ rfl) fun a H => s_pickT H rfl rfl rfl (lt_ rfl) fun a H => ?_
              exact hr193 _ (H.weaken ⟨by rw [hg192]; rfl, rfl, rfl, rfl, rfl, trivial⟩)
             ·replace H := H.ch (t := 114) (b := false) rfl hg192
              refine s_move H (wantG H rfl rfl) rfl (lt_ rfl) fun a H => s_bin H (wantG H rfl rfl) rfl rfl r_neq (lt_ rfl) fun a H => s_pickF H rfl rfl rfl (lt_ rfl) fun a H => ?_
              exact hr193 _ (H.weaken ⟨by rw [hg192]; rfl, rfl, rfl, rfl, rfl, trivial⟩)
            ·clear H a
             intro a H
             refine c_nil <| hK191 _ _ <| c_cond H rfl (fun hb194 => ?_) (fun hb194 => ?_)
             ·replace h := h.1 hb194
              refine c_seq fun K195 hK195 => c_reg <| s_assign H rfl rfl (lt_ rfl) fun a H => c_nil <| hK195 _ _ <| c_ret ?_
              exact e_ret1 H rfl rfl h
             ·replace h := h.2 hb194
              refine c_skip <| hK190 _ _ <| c_seq fun K196 hK196 => c_seq fun K197 hK197 => c_reg <| s_assign H rfl rfl (lt_ rfl) fun a H => c_nil <| hK197 _ _ <| c_block ?_
              obtain ⟨I201, mu202, h0253, hl254⟩ := h
              refine c_loop (σ := Slc × Int) (fun z w => I201 z.1 z.2 w) (fun z w => mu202 z.1 z.2 w) (fun z => [(6, (Slc.v writt26)), (11, (Slc.v Scanr55)), (20, (.pointer Newr187)), (21, (Slc.v z.1)), (22, (.int .i64 z.2))]) (Newr188, 0) h0253 (H.weaken ⟨rfl, rfl, rfl, rfl, rfl, trivial⟩) ?_
              clear H h0253
              rintro ⟨again198, i199⟩ a w200 h H
              replace h := hl254 again198 i199 w200 h
              clear hl254
              replace H : Has 143 [] a [(6, (Slc.v writt26)), (11, (Slc.v Scanr55)), (20, (.pointer Newr187)), (21, (Slc.v again198)), (22, (.int .i64 i199))] := H
              refine c_seq fun K203 hK203 => c_seq fun K204 hK204 => c_reg <| s_move H rfl rfl (lt_ rfl) fun a H => s_move H rfl rfl (lt_ rfl) fun a H => s_blt H rfl (H.args (vs := [(Slc.v Scanr55)]) rfl) (lt_ rfl) (fun cs => b_lenS (z := Scanr55) sl_26) fun a H => s_bin H rfl rfl rfl r_lss (lt_ rfl) fun a H => c_nil <| hK204 _ _ <| c_cond H rfl (fun hb205 => ?_) (fun hb205 => ?_)
              ·replace h := h.1 hb205
               refine c_skip <| hK203 _ _ <| c_seq fun K206 hK206 => c_block <| c_seq fun K207 hK207 => c_reg ?_
               iterate 3 refine s_move H rfl rfl (lt_ rfl) fun a H => ?_
               obtain ⟨a208, hi209, hi210, hi211, h⟩ := h
               refine s_idxS (s := Scanr55) H rfl rfl rfl slc_26 hi209 hi210 hi211 (lt_ rfl) fun a H => ?_
               obtain ⟨Kind212, hc213, h⟩ := h
               obtain ⟨Key214, hc215, h⟩ := h
               obtain ⟨Count216, hc217, h⟩ := h
               obtain ⟨Clien218, hc219, h⟩ := h
               obtain ⟨Fin220, hc221, h⟩ := h
               obtain ⟨Has222, hc223, h⟩ := h
               obtain ⟨Data224, hc225, h⟩ := h
               refine s_loadN (l := [(.int .i64 Kind212), (.string Key214), (.int .i64 Count216), (.int .i64 Clien218), (.bool Fin220), (.bool Has222), (Slc.v Data224)]) H rfl rfl agg_45 rfl ⟨hc213, hc215, hc217, hc219, hc221, hc223, hc225, trivial⟩ (lt_ rfl) fun a H => ?_
               refine s_call H rfl body_19 (H.args (vs := [(.pointer Newr187), (.agg #[(.int .i64 Kind212), (.string Key214), (.int .i64 Count216), (.int .i64 Clien218), (.bool Fin220), (.bool Has222), (Slc.v Data224)])]) rfl) (lt_ rfl) h ?_ (fun c w' h H => e_panic (P := PP) (fn := Tryd.f6) H h)
               clear H h a
               rintro _ w226 a ⟨Putr227, Putr228, rfl, h⟩ H
               refine s_move H rfl rfl (lt_ rfl) fun a H => s_ext H rfl rfl rfl (lt_ rfl) fun a H => s_ext H rfl rfl rfl (lt_ rfl) fun a H => s_assign H rfl rfl (lt_ rfl) fun a H => s_assign H rfl rfl (lt_ rfl) fun a H => c_nil <| hK207 _ _ <| c_seq fun K229 hK229 => c_seq fun K230 hK230 => c_reg <| s_move H rfl rfl (lt_ rfl) fun a H => s_bin H rfl rfl rfl r_neq (lt_ rfl) fun a H => c_nil <| hK230 _ _ <| c_cond H rfl (fun hb231 => ?_) (fun hb231 => ?_)
               ·replace h := h.1 hb231
                refine c_seq fun K232 hK232 => c_reg <| s_assign H rfl rfl (lt_ rfl) fun a H => c_nil <| hK232 _ _ <| c_ret ?_
                exact e_ret1 H rfl rfl h
               ·replace h := h.2 hb231
                refine c_skip <| hK229 _ _ <| c_reg ?_
                replace h := h.get
                obtain ⟨b233, w234, nb235, h⟩ := h
                refine s_bslc H rfl (by rw [H.parts (vs := []) rfl]; exact bs_28_0 w226) (lt_ rfl) ?_
                rw [← nb235.at_]
                clear H a
                intro a H
                refine nb235.go <| s_move H rfl rfl (lt_ rfl) fun a H => ?_
                obtain ⟨s236, w237, hq238, h⟩ := h
                refine s_blt H rfl (H.args (vs := [(Slc.v (Slc.mk (some (blk b233)) 0 0)), (Slc.v again198)]) rfl) (lt_ rfl) (fun cs => b_app (z := s236) hq238) ?_
                clear H a hq238
                intro a H
                refine s_move H rfl rfl (lt_ rfl) fun a H => ?_
                obtain ⟨s239, w240, hq241, h⟩ := h
                refine s_blt H rfl (H.args (vs := [(Slc.v s236), (Slc.v Putr227)]) rfl) (lt_ rfl) (fun cs => b_app (z := s239) hq241) ?_
                clear H a hq241
                intro a H
                refine s_assign H rfl rfl (lt_ rfl) fun a H => c_nil <| hK206 _ _ <| c_reg <| s_move H rfl rfl (lt_ rfl) fun a H => s_bin H rfl rfl rfl r_add (lt_ rfl) fun a H => s_assign H rfl rfl (lt_ rfl) fun a H => c_nil <| Exists.intro (s239, wr .i64 (i199 + 1)) ⟨h.1, h.2, H.weaken ⟨rfl, rfl, rfl, rfl, rfl, trivial⟩⟩
              ·replace h := h.2 hb205
               refine c_exit ?_
               first | (simp only [Exit.then, Exit.inBlock, ↓reduceIte]; fail_if_success simp only [Nat.reduceEqDiff]) | simp only [Exit.then, Exit.inBlock, ↓reduceIte, Nat.reduceEqDiff]
               refine hK196 _ _ <| c_seq fun K246 hK246 => c_reg <| s_move H rfl rfl (lt_ rfl) fun a H => s_move H rfl rfl (lt_ rfl) fun a H => s_call H rfl body_10 (H.args (vs := [(Slc.v again198), (Slc.v writt26)]) rfl) (lt_ rfl) h ?_ (fun c w' h H => e_panic (P := PP) (fn := Tryd.f6) H h)
               clear H h a
               rintro _ w247 a ⟨same248, rfl, h⟩ H
               refine s_assign H rfl rfl (lt_ rfl) fun a H => c_nil <| hK246 _ _ <| c_ret ?_
               exact e_ret1 H rfl rfl h
end Go.Proofs.YtnhgnfflihoaiaaDoor
