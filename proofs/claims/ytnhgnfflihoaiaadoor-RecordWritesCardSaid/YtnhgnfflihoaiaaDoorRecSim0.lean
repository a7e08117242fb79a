/-
  The conditions give the machine's calls; printed by vcgen.py.
-/
import Derived.Test.YtnhgnfflihoaiaaDoorRecVc
namespace Go.Proofs.YtnhgnfflihoaiaaDoor
open Go Go.Vc
set_option maxRecDepth 100000 in
set_option maxHeartbeats 4000000 in
theorem sim_sherdlaw11_RecordWrites (h_Config_N1 : Int) (h_Config_K2 : Int) (h_Config_Delta3 : Int) (h_Server4 : Int) (us5 : Slc) (w : World) (Q : Ending → World → Prop) (h : vc_sherdlaw11_RecordWrites h_Config_N1 h_Config_K2 h_Config_Delta3 h_Server4 us5 w Q) : Calls PP F_sherdlaw11_RecordWrites #[(.agg #[(.int .i64 h_Config_N1), (.int .i64 h_Config_K2), (.int .i64 h_Config_Delta3), (.int .i64 h_Server4)]), (Slc.v us5)] w Q := by
  unfold vc_sherdlaw11_RecordWrites at h
  refine enter (n := 79) (l := [(.agg #[(.int .i64 h_Config_N1), (.int .i64 h_Config_K2), (.int .i64 h_Config_Delta3), (.int .i64 h_Server4)]), (Slc.v us5)]) Tryd.func3 rfl rfl (Nat.le_of_ble_eq_true rfl) fun a H => ?_
  replace H : Has 79 [] a [(0, (.agg #[(.int .i64 h_Config_N1), (.int .i64 h_Config_K2), (.int .i64 h_Config_Delta3), (.int .i64 h_Server4)])), (1, (Slc.v us5))] := H
  refine c_seq fun K6 hK6 => ?_
  refine c_reg ?_
  replace h := h.get
  obtain ⟨b7, w8, nb9, h⟩ := h
  refine s_box H rfl rfl (lt_ rfl) ?_
  rw [← nb9.at_]
  clear H a
  intro a H
  refine nb9.go ?_
  refine s_assign H rfl rfl (lt_ rfl) ?_
  clear H a
  intro a H
  refine c_nil ?_
  refine hK6 _ _ ?_
  refine c_seq fun K10 hK10 => ?_
  refine c_reg ?_
  refine s_loadN (l := [(.int .i64 h_Config_N1), (.int .i64 h_Config_K2), (.int .i64 h_Config_Delta3), (.int .i64 h_Server4)]) H rfl rfl agg_25 rfl ⟨(nb9.cell (i := 0) rfl), (nb9.cell (i := 1) rfl), (nb9.cell (i := 2) rfl), (nb9.cell (i := 3) rfl), trivial⟩ (lt_ rfl) ?_
  clear H a
  intro a H
  refine s_call H rfl body_8 (H.args (vs := [(.agg #[(.int .i64 h_Config_N1), (.int .i64 h_Config_K2), (.int .i64 h_Config_Delta3), (.int .i64 h_Server4)])]) rfl) (lt_ rfl) h ?_ (fun c w' h H => e_panic (P := PP) (fn := Tryd.f3) H h)
  clear H h a
  rintro _ w11 a ⟨Newr12, Newr13, Newr14, rfl, h⟩ H
  refine s_move H rfl rfl (lt_ rfl) ?_
  clear H a
  intro a H
  refine s_ext H rfl rfl rfl (lt_ rfl) ?_
  clear H a
  intro a H
  refine s_ext H rfl rfl rfl (lt_ rfl) ?_
  clear H a
  intro a H
  refine s_ext H rfl rfl rfl (lt_ rfl) ?_
  clear H a
  intro a H
  refine s_assign H rfl rfl (lt_ rfl) ?_
  clear H a
  intro a H
  refine s_assign H rfl rfl (lt_ rfl) ?_
  clear H a
  intro a H
  refine s_assign H rfl rfl (lt_ rfl) ?_
  clear H a
  intro a H
  refine c_nil ?_
  refine hK10 _ _ ?_
  refine c_seq fun K15 hK15 => ?_
  refine c_reg ?_
  obtain ⟨l_Config_N16, hc17, h⟩ := h
  obtain ⟨l_Config_K18, hc19, h⟩ := h
  obtain ⟨l_Config_Delta20, hc21, h⟩ := h
  obtain ⟨l_Server22, hc23, h⟩ := h
  refine s_loadN (l := [(.int .i64 l_Config_N16), (.int .i64 l_Config_K18), (.int .i64 l_Config_Delta20), (.int .i64 l_Server22)]) H rfl rfl agg_25 rfl ⟨hc17, hc19, hc21, hc23, trivial⟩ (lt_ rfl) ?_
  clear H a
  intro a H
  refine s_call H rfl body_9 (H.args (vs := [(.agg #[(.int .i64 l_Config_N16), (.int .i64 l_Config_K18), (.int .i64 l_Config_Delta20), (.int .i64 l_Server22)])]) rfl) (lt_ rfl) h ?_ (fun c w' h H => e_panic (P := PP) (fn := Tryd.f3) H h)
  clear H h a
  rintro _ w24 a ⟨Newr25, Newr26, Newr27, rfl, h⟩ H
  refine s_move H rfl rfl (lt_ rfl) ?_
  clear H a
  intro a H
  refine s_ext H rfl rfl rfl (lt_ rfl) ?_
  clear H a
  intro a H
  refine s_ext H rfl rfl rfl (lt_ rfl) ?_
  clear H a
  intro a H
  refine s_ext H rfl rfl rfl (lt_ rfl) ?_
  clear H a
  intro a H
  refine s_assign H rfl rfl (lt_ rfl) ?_
  clear H a
  intro a H
  refine s_assign H rfl rfl (lt_ rfl) ?_
  clear H a
  intro a H
  refine s_assign H rfl rfl (lt_ rfl) ?_
  clear H a
  intro a H
  refine c_nil ?_
  refine hK15 _ _ ?_
  refine c_seq fun K28 hK28 => ?_
  refine c_seq fun K29 hK29 => ?_
  refine c_reg ?_
  refine s_move H rfl rfl (lt_ rfl) ?_
  clear H a
  intro a H
  refine s_move H rfl rfl (lt_ rfl) ?_
  clear H a
  intro a H
  refine s_bin H rfl rfl rfl r_neq (lt_ rfl) ?_
  clear H a
  intro a H
  refine s_move H rfl rfl (lt_ rfl) ?_
  clear H a
  intro a H
  refine g_join (n := 79) [(36, (.bool ((decide (Newr27 ≠ Newr14)) || (decide (Newr25.isNone ≠ Newr12.isNone))))), (1, (Slc.v us5)), (5, (.pointer Newr12)), (6, (Slc.v Newr13)), (8, (.pointer Newr25)), (9, (Slc.v Newr26))] (.succ (.succ (.succ (.succ (.succ (.succ (.zero _))))))) ?_ ?_
  · intro hr31
    try clear h
    rcases Bool.eq_false_or_eq_true (decide (Newr27 ≠ Newr14)) with hg30 | hg30
    · replace H := H.ch (t := 30) (b := true) rfl hg30
      refine s_skip H (wantN H rfl rfl rfl) rfl (lt_ rfl) ?_
      clear H a
      intro a H
      refine s_skip H (wantN H rfl rfl rfl) rfl (lt_ rfl) ?_
      clear H a
      intro a H
      refine s_skip H (wantN H rfl rfl rfl) rfl (lt_ rfl) ?_
      clear H a
      intro a H
      refine s_skip H (wantN H rfl rfl rfl) rfl (lt_ rfl) ?_
      clear H a
      intro a H
      refine s_skip H (wantN H rfl rfl rfl) rfl (lt_ rfl) ?_
      clear H a
      intro a H
      refine s_pickT H rfl rfl rfl (lt_ rfl) ?_
      clear H a
      intro a H
      exact hr31 _ (H.weaken ⟨by rw [hg30]; rfl, rfl, rfl, rfl, rfl, rfl, trivial⟩)
    · replace H := H.ch (t := 30) (b := false) rfl hg30
      refine s_move H (wantG H rfl rfl) rfl (lt_ rfl) ?_
      clear H a
      intro a H
      refine s_bin H (wantG H rfl rfl) rfl rfl (r_eqP0 ptr_32) (lt_ rfl) ?_
      clear H a
      intro a H
      refine s_move H (wantG H rfl rfl) rfl (lt_ rfl) ?_
      clear H a
      intro a H
      refine s_bin H (wantG H rfl rfl) rfl rfl (r_eqP0 ptr_27) (lt_ rfl) ?_
      clear H a
      intro a H
      refine s_bin H (wantG H rfl rfl) rfl rfl (r_neB bool_4) (lt_ rfl) ?_
      clear H a
      intro a H
      refine s_pickF H rfl rfl rfl (lt_ rfl) ?_
      clear H a
      intro a H
      exact hr31 _ (H.weaken ⟨by rw [hg30]; rfl, rfl, rfl, rfl, rfl, rfl, trivial⟩)
  · clear H a
    intro a H
    refine s_move H rfl rfl (lt_ rfl) ?_
    clear H a
    intro a H
    obtain ⟨R34, h, hx129⟩ := h
    refine g_joinW (n := 79) R34 (fun x35 => [(42, (.bool x35)), (1, (Slc.v us5)), (5, (.pointer Newr12)), (8, (.pointer Newr25)), (9, (Slc.v Newr26))]) (.succ (.succ (.succ (.succ (.succ (.zero _)))))) ?_ ?_
    · intro hr33
      clear hx129
      rcases Bool.eq_false_or_eq_true ((decide (Newr27 ≠ Newr14)) || (decide (Newr25.isNone ≠ Newr12.isNone))) with hg32 | hg32
      · replace H := H.ch (t := 37) (b := true) rfl hg32
        replace h := h.2 hg32
        refine s_skip H (wantN H rfl rfl rfl) rfl (lt_ rfl) ?_
        clear H a
        intro a H
        refine s_skip H (wantN H rfl rfl rfl) rfl (lt_ rfl) ?_
        clear H a
        intro a H
        refine s_skip H (wantN H rfl rfl rfl) rfl (lt_ rfl) ?_
        clear H a
        intro a H
        refine s_skip H (wantN H rfl rfl rfl) rfl (lt_ rfl) ?_
        clear H a
        intro a H
        refine s_pickT H rfl rfl rfl (lt_ rfl) ?_
        clear H a
        intro a H
        exact hr33 _ _ _ h (H.weaken ⟨rfl, rfl, rfl, rfl, rfl, trivial⟩)
      · replace H := H.ch (t := 37) (b := false) rfl hg32
        replace h := h.1 hg32
        refine s_move H (wantG H rfl rfl) rfl (lt_ rfl) ?_
        clear H a
        intro a H
        refine s_move H (wantG H rfl rfl) rfl (lt_ rfl) ?_
        clear H a
        intro a H
        refine s_call H (wantG H rfl rfl) body_10 (H.args (vs := [(Slc.v Newr26), (Slc.v Newr13)]) rfl) (lt_ rfl) h ?_ (fun c w' h H => e_panic (P := PP) (fn := Tryd.f3) H h)
        clear H h a
        rintro _ w37 a ⟨same38, rfl, h⟩ H
        refine s_un H (wantG H rfl rfl) rfl r_not (lt_ rfl) ?_
        clear H a
        intro a H
        refine s_pickF H rfl rfl rfl (lt_ rfl) ?_
        clear H a
        intro a H
        exact hr33 _ _ _ h (H.weaken ⟨rfl, rfl, rfl, rfl, rfl, trivial⟩)
    · clear H a h
      intro a x35 w36 h H
      replace h := hx129 x35 w36 h
      clear hx129
      refine c_nil ?_
      refine hK29 _ _ ?_
      refine c_cond H rfl (fun hb43 => ?_) (fun hb43 => ?_)
      · replace h := h.1 hb43
        refine c_seq fun K44 hK44 => ?_
        refine c_reg ?_
        refine s_assign H rfl rfl (lt_ rfl) ?_
        clear H a
        intro a H
        refine c_nil ?_
        refine hK44 _ _ ?_
        refine c_ret ?_
        exact e_ret1 H rfl rfl h
      · replace h := h.2 hb43
        refine c_skip ?_
        refine hK28 _ _ ?_
        refine c_seq fun K45 hK45 => ?_
        refine c_seq fun K46 hK46 => ?_
        refine c_reg ?_
        refine s_move H rfl rfl (lt_ rfl) ?_
        clear H a
        intro a H
        refine s_bin H rfl rfl rfl (r_eqP0 ptr_32) (lt_ rfl) ?_
        clear H a
        intro a H
        refine s_move H rfl rfl (lt_ rfl) ?_
        clear H a
        intro a H
        refine g_join (n := 79) [(48, (.bool (Newr25.isNone || Newr12.isNone))), (1, (Slc.v us5)), (5, (.pointer Newr12)), (8, (.pointer Newr25)), (9, (Slc.v Newr26))] (.succ (.succ (.succ (.zero _)))) ?_ ?_
        · intro hr48
          try clear h
          rcases Bool.eq_false_or_eq_true Newr25.isNone with hg47 | hg47
          · replace H := H.ch (t := 45) (b := true) rfl hg47
            refine s_skip H (wantN H rfl rfl rfl) rfl (lt_ rfl) ?_
            clear H a
            intro a H
            refine s_skip H (wantN H rfl rfl rfl) rfl (lt_ rfl) ?_
            clear H a
            intro a H
            refine s_pickT H rfl rfl rfl (lt_ rfl) ?_
            clear H a
            intro a H
            exact hr48 _ (H.weaken ⟨by rw [hg47]; rfl, rfl, rfl, rfl, rfl, trivial⟩)
          · replace H := H.ch (t := 45) (b := false) rfl hg47
            refine s_move H (wantG H rfl rfl) rfl (lt_ rfl) ?_
            clear H a
            intro a H
            refine s_bin H (wantG H rfl rfl) rfl rfl (r_eqP0 ptr_27) (lt_ rfl) ?_
            clear H a
            intro a H
            refine s_pickF H rfl rfl rfl (lt_ rfl) ?_
            clear H a
            intro a H
            exact hr48 _ (H.weaken ⟨by rw [hg47]; rfl, rfl, rfl, rfl, rfl, trivial⟩)
        · clear H a
          intro a H
          refine c_nil ?_
          refine hK46 _ _ ?_
          refine c_cond H rfl (fun hb49 => ?_) (fun hb49 => ?_)
          · replace h := h.1 hb49
            refine c_seq fun K50 hK50 => ?_
            refine c_reg ?_
            refine s_call H rfl body_11 (H.args (vs := []) rfl) (lt_ rfl) h ?_ (fun c w' h H => e_panic (P := PP) (fn := Tryd.f3) H h)
            clear H h a
            rintro _ w51 a ⟨silent52, rfl, h⟩ H
            refine s_assign H rfl rfl (lt_ rfl) ?_
            clear H a
            intro a H
            refine c_nil ?_
            refine hK50 _ _ ?_
            refine c_ret ?_
            exact e_ret1 H rfl rfl h
          · replace h := h.2 hb49
            refine c_skip ?_
            refine hK45 _ _ ?_
            refine c_seq fun K57 hK57 => ?_
            refine c_reg ?_
            refine s_move H rfl rfl (lt_ rfl) ?_
            clear H a
            intro a H
            replace h := h.get
            obtain ⟨b58, w59, nb60, h⟩ := h
            refine s_bslc H rfl (by rw [H.parts (vs := [(0, (Slc.v Newr26))]) rfl]; exact bs_37_1_s0 w36 Newr26) (lt_ rfl) ?_
            rw [← nb60.at_]
            clear H a
            intro a H
            refine nb60.go ?_
            refine s_assign H rfl rfl (lt_ rfl) ?_
            clear H a
            intro a H
            refine c_nil ?_
            refine hK57 _ _ ?_
            refine c_seq fun K61 hK61 => ?_
            refine c_seq fun K62 hK62 => ?_
            refine c_reg ?_
            refine s_assign H rfl rfl (lt_ rfl) ?_
            clear H a
            intro a H
            refine c_nil ?_
            refine hK62 _ _ ?_
            refine c_block ?_
            obtain ⟨I66, mu67, h0127, hl128⟩ := h
            refine c_loop (σ := Slc × Int) (fun z w => I66 z.1 z.2 w) (fun z w => mu67 z.1 z.2 w) (fun z => [(1, (Slc.v us5)), (5, (.pointer Newr12)), (8, (.pointer Newr25)), (11, (Slc.v z.1)), (12, (.int .i64 z.2))]) (Slc.mk (some (blk b58)) 1 1, 0) h0127 (H.weaken ⟨rfl, rfl, rfl, rfl, rfl, trivial⟩) ?_
            clear H h0127
            rintro ⟨all63, i64⟩ a w65 h H
            replace h := hl128 all63 i64 w65 h
            clear hl128
            replace H : Has 79 [] a [(1, (Slc.v us5)), (5, (.pointer Newr12)), (8, (.pointer Newr25)), (11, (Slc.v all63)), (12, (.int .i64 i64))] := H
            refine c_seq fun K68 hK68 => ?_
            refine c_seq fun K69 hK69 => ?_
            refine c_reg ?_
            refine s_move H rfl rfl (lt_ rfl) ?_
            clear H a
            intro a H
            refine s_move H rfl rfl (lt_ rfl) ?_
            clear H a
            intro a H
            refine s_blt H rfl (H.args (vs := [(Slc.v us5)]) rfl) (lt_ rfl) (fun cs => b_lenS (z := us5) sl_26) ?_
            clear H a
            intro a H
            refine s_bin H rfl rfl rfl r_lss (lt_ rfl) ?_
            clear H a
            intro a H
            refine c_nil ?_
            refine hK69 _ _ ?_
            refine c_cond H rfl (fun hb70 => ?_) (fun hb70 => ?_)
            · replace h := h.1 hb70
              refine c_skip ?_
              refine hK68 _ _ ?_
              refine c_seq fun K71 hK71 => ?_
              refine c_block ?_
              refine c_seq fun K72 hK72 => ?_
              refine c_reg ?_
              refine s_move H rfl rfl (lt_ rfl) ?_
              clear H a
              intro a H
              refine s_move H rfl rfl (lt_ rfl) ?_
              clear H a
              intro a H
              refine s_move H rfl rfl (lt_ rfl) ?_
              clear H a
              intro a H
              refine s_move H rfl rfl (lt_ rfl) ?_
              clear H a
              intro a H
              obtain ⟨a73, hi74, hi75, hi76, h⟩ := h
              refine s_idxS (s := us5) H rfl rfl rfl slc_26 hi74 hi75 hi76 (lt_ rfl) ?_
              clear H a
              intro a H
              obtain ⟨l_Kind77, hc78, h⟩ := h
              obtain ⟨l_Key79, hc80, h⟩ := h
              obtain ⟨l_Entry_Tag_Count81, hc82, h⟩ := h
              obtain ⟨l_Entry_Tag_Client83, hc84, h⟩ := h
              obtain ⟨l_Entry_Fin85, hc86, h⟩ := h
              obtain ⟨l_Entry_Has87, hc88, h⟩ := h
              obtain ⟨l_Entry_Data89, hc90, h⟩ := h
              refine s_loadN (l := [(.int .i64 l_Kind77), (.string l_Key79), (.int .i64 l_Entry_Tag_Count81), (.int .i64 l_Entry_Tag_Client83), (.bool l_Entry_Fin85), (.bool l_Entry_Has87), (Slc.v l_Entry_Data89)]) H rfl rfl agg_45 rfl ⟨hc78, hc80, hc82, hc84, hc86, hc88, hc90, trivial⟩ (lt_ rfl) ?_
              clear H a
              intro a H
              refine s_call H rfl body_12 (H.args (vs := [(.pointer Newr25), (.pointer Newr12), (.agg #[(.int .i64 l_Kind77), (.string l_Key79), (.int .i64 l_Entry_Tag_Count81), (.int .i64 l_Entry_Tag_Client83), (.bool l_Entry_Fin85), (.bool l_Entry_Has87), (Slc.v l_Entry_Data89)])]) rfl) (lt_ rfl) h ?_ (fun c w' h H => e_panic (P := PP) (fn := Tryd.f3) H h)
              clear H h a
              rintro _ w91 a ⟨puttinr92, puttinr93, rfl, h⟩ H
              refine s_move H rfl rfl (lt_ rfl) ?_
              clear H a
              intro a H
              refine s_ext H rfl rfl rfl (lt_ rfl) ?_
              clear H a
              intro a H
              refine s_ext H rfl rfl rfl (lt_ rfl) ?_
              clear H a
              intro a H
              refine s_assign H rfl rfl (lt_ rfl) ?_
              clear H a
              intro a H
              refine s_assign H rfl rfl (lt_ rfl) ?_
              clear H a
              intro a H
              refine c_nil ?_
              refine hK72 _ _ ?_
              refine c_seq fun K94 hK94 => ?_
              refine c_seq fun K95 hK95 => ?_
              refine c_reg ?_
              refine s_move H rfl rfl (lt_ rfl) ?_
              clear H a
              intro a H
              refine s_un H rfl rfl r_not (lt_ rfl) ?_
              clear H a
              intro a H
              refine c_nil ?_
              refine hK95 _ _ ?_
              refine c_cond H rfl (fun hb96 => ?_) (fun hb96 => ?_)
              · replace h := h.1 hb96
                refine c_seq fun K97 hK97 => ?_
                refine c_reg ?_
                refine s_assign H rfl rfl (lt_ rfl) ?_
                clear H a
                intro a H
                refine c_nil ?_
                refine hK97 _ _ ?_
                refine c_ret ?_
                exact e_ret1 H rfl rfl h
              · replace h := h.2 hb96
                refine c_skip ?_
                refine hK94 _ _ ?_
                refine c_reg ?_
                refine s_move H rfl rfl (lt_ rfl) ?_
                clear H a
                intro a H
                refine s_move H rfl rfl (lt_ rfl) ?_
                clear H a
                intro a H
                replace h := h.get
                obtain ⟨b98, w99, nb100, h⟩ := h
                refine s_bslc H rfl (by rw [H.parts (vs := [(0, (Slc.v puttinr92))]) rfl]; exact bs_37_1_s0 w91 puttinr92) (lt_ rfl) ?_
                rw [← nb100.at_]
                clear H a
                intro a H
                refine nb100.go ?_
                obtain ⟨s101, w102, hq103, h⟩ := h
                refine s_blt H rfl (H.args (vs := [(Slc.v all63), (Slc.v (Slc.mk (some (blk b98)) 1 1))]) rfl) (lt_ rfl) (fun cs => b_app (z := s101) hq103) ?_
                clear H a hq103
                intro a H
                refine s_assign H rfl rfl (lt_ rfl) ?_
                clear H a
                intro a H
                refine c_nil ?_
                refine hK71 _ _ ?_
                refine c_reg ?_
                refine s_move H rfl rfl (lt_ rfl) ?_
                clear H a
                intro a H
                refine s_bin H rfl rfl rfl r_add (lt_ rfl) ?_
                clear H a
                intro a H
                refine s_assign H rfl rfl (lt_ rfl) ?_
                clear H a
                intro a H
                refine c_nil ?_
                refine Exists.intro (s101, wr .i64 (i64 + 1)) ⟨h.1, h.2, H.weaken ⟨rfl, rfl, rfl, rfl, rfl, trivial⟩⟩
            · replace h := h.2 hb70
              refine c_exit ?_
              simp only [Exit.then, Exit.inBlock, ↓reduceIte, Nat.reduceEqDiff]
              refine hK61 _ _ ?_
              refine c_seq fun K108 hK108 => ?_
              refine c_reg ?_
              refine s_move H rfl rfl (lt_ rfl) ?_
              clear H a
              intro a H
              refine s_call H rfl body_13 (H.args (vs := [(Slc.v all63)]) rfl) (lt_ rfl) h ?_ (fun c w' h H => e_panic (P := PP) (fn := Tryd.f3) H h)
              clear H h a
              rintro _ w109 a ⟨apart110, rfl, h⟩ H
              refine s_move H rfl rfl (lt_ rfl) ?_
              clear H a
              intro a H
              obtain ⟨R113, h, hx122⟩ := h
              refine g_joinW (n := 79) R113 (fun x114 => [(78, (.bool x114))]) (.succ (.succ (.zero _))) ?_ ?_
              · intro hr112
                clear hx122
                rcases Bool.eq_false_or_eq_true apart110 with hg111 | hg111
                · replace H := H.ch (t := 76) (b := true) rfl hg111
                  replace h := h.1 hg111
                  refine s_call H (wantG H rfl rfl) body_11 (H.args (vs := []) rfl) (lt_ rfl) h ?_ (fun c w' h H => e_panic (P := PP) (fn := Tryd.f3) H h)
                  clear H h a
                  rintro _ w116 a ⟨silent117, rfl, h⟩ H
                  refine s_pickT H rfl rfl rfl (lt_ rfl) ?_
                  clear H a
                  intro a H
                  exact hr112 _ _ _ h (H.weaken ⟨rfl, trivial⟩)
                · replace H := H.ch (t := 76) (b := false) rfl hg111
                  replace h := h.2 hg111
                  refine s_skip H (wantN H rfl rfl rfl) rfl (lt_ rfl) ?_
                  clear H a
                  intro a H
                  refine s_pickF H rfl rfl rfl (lt_ rfl) ?_
                  clear H a
                  intro a H
                  exact hr112 _ _ _ h (H.weaken ⟨rfl, trivial⟩)
              · clear H a h
                intro a x114 w115 h H
                replace h := hx122 x114 w115 h
                clear hx122
                refine s_assign H rfl rfl (lt_ rfl) ?_
                clear H a
                intro a H
                refine c_nil ?_
                refine hK108 _ _ ?_
                refine c_ret ?_
                exact e_ret1 H rfl rfl h

set_option maxRecDepth 100000 in
set_option maxHeartbeats 4000000 in
theorem sim_sherdlaw11_RecordAny (x_N1 : Int) (x_K2 : Int) (x_Delta3 : Int) (x_Server4 : Int) (x_Updates5 : Slc) (data6 : Slc) (w : World) (Q : Ending → World → Prop) (h : vc_sherdlaw11_RecordAny x_N1 x_K2 x_Delta3 x_Server4 x_Updates5 data6 w Q) : Calls PP F_sherdlaw11_RecordAny #[(.agg #[(.int .i64 x_N1), (.int .i64 x_K2), (.int .i64 x_Delta3), (.int .i64 x_Server4), (Slc.v x_Updates5)]), (Slc.v data6)] w Q := by
  unfold vc_sherdlaw11_RecordAny at h
  refine enter (n := 171) (l := [(.agg #[(.int .i64 x_N1), (.int .i64 x_K2), (.int .i64 x_Delta3), (.int .i64 x_Server4), (Slc.v x_Updates5)]), (Slc.v data6)]) Tryd.func5 rfl rfl (Nat.le_of_ble_eq_true rfl) fun a H => ?_
  replace H : Has 171 [] a [(0, (.agg #[(.int .i64 x_N1), (.int .i64 x_K2), (.int .i64 x_Delta3), (.int .i64 x_Server4), (Slc.v x_Updates5)])), (1, (Slc.v data6))] := H
  refine c_seq fun K7 hK7 => ?_
  refine c_reg ?_
  replace h := h.get
  obtain ⟨b8, w9, nb10, h⟩ := h
  refine s_box H rfl rfl (lt_ rfl) ?_
  rw [← nb10.at_]
  clear H a
  intro a H
  refine nb10.go ?_
  refine s_assign H rfl rfl (lt_ rfl) ?_
  clear H a
  intro a H
  refine c_nil ?_
  refine hK7 _ _ ?_
  refine c_seq fun K11 hK11 => ?_
  refine c_reg ?_
  refine s_loadN (l := [(.int .i64 x_N1), (.int .i64 x_K2), (.int .i64 x_Delta3), (.int .i64 x_Server4), (Slc.v x_Updates5)]) H rfl rfl agg_49 rfl ⟨(nb10.cell (i := 0) rfl), (nb10.cell (i := 1) rfl), (nb10.cell (i := 2) rfl), (nb10.cell (i := 3) rfl), (nb10.cell (i := 4) rfl), trivial⟩ (lt_ rfl) ?_
  clear H a
  intro a H
  refine s_call H rfl body_14 (H.args (vs := [(.agg #[(.int .i64 x_N1), (.int .i64 x_K2), (.int .i64 x_Delta3), (.int .i64 x_Server4), (Slc.v x_Updates5)])]) rfl) (lt_ rfl) h ?_ (fun c w' h H => e_panic (P := PP) (fn := Tryd.f5) H h)
  clear H h a
  rintro _ w12 a ⟨writter_Config_N13, writter_Config_K14, writter_Config_Delta15, writter_Server16, writter17, writter18, writter19, writter20, rfl, h⟩ H
  refine s_move H rfl rfl (lt_ rfl) ?_
  clear H a
  intro a H
  refine s_ext H rfl rfl rfl (lt_ rfl) ?_
  clear H a
  intro a H
  refine s_ext H rfl rfl rfl (lt_ rfl) ?_
  clear H a
  intro a H
  refine s_ext H rfl rfl rfl (lt_ rfl) ?_
  clear H a
  intro a H
  refine s_ext H rfl rfl rfl (lt_ rfl) ?_
  clear H a
  intro a H
  refine s_ext H rfl rfl rfl (lt_ rfl) ?_
  clear H a
  intro a H
  replace h := h.get
  obtain ⟨b21, w22, nb23, h⟩ := h
  refine s_alloc H rfl zero_25 (lt_ rfl) ?_
  rw [← nb23.at_]
  clear H a
  intro a H
  refine nb23.go ?_
  refine s_stoN (l := [(.int .i64 writter_Config_N13), (.int .i64 writter_Config_K14), (.int .i64 writter_Config_Delta15), (.int .i64 writter_Server16)]) H rfl rfl rfl rfl agg_25 rfl rfl h ?_
  clear h H
  intro w24 h H
  refine s_assign H rfl rfl (lt_ rfl) ?_
  clear H a
  intro a H
  refine s_assign H rfl rfl (lt_ rfl) ?_
  clear H a
  intro a H
  refine s_assign H rfl rfl (lt_ rfl) ?_
  clear H a
  intro a H
  refine s_assign H rfl rfl (lt_ rfl) ?_
  clear H a
  intro a H
  refine c_nil ?_
  refine hK11 _ _ ?_
  refine c_seq fun K25 hK25 => ?_
  refine c_seq fun K26 hK26 => ?_
  refine c_reg ?_
  refine s_move H rfl rfl (lt_ rfl) ?_
  clear H a
  intro a H
  refine s_bin H rfl rfl rfl (r_eqP0 ptr_32) (lt_ rfl) ?_
  clear H a
  intro a H
  refine c_nil ?_
  refine hK26 _ _ ?_
  refine c_cond H rfl (fun hb27 => ?_) (fun hb27 => ?_)
  · replace h := h.1 hb27
    refine c_seq fun K28 hK28 => ?_
    refine c_reg ?_
    refine s_assign H rfl rfl (lt_ rfl) ?_
    clear H a
    intro a H
    refine c_nil ?_
    refine hK28 _ _ ?_
    refine c_ret ?_
    exact e_ret1 H rfl rfl h
  · replace h := h.2 hb27
    refine c_skip ?_
    refine hK25 _ _ ?_
    refine c_seq fun K29 hK29 => ?_
    refine c_reg ?_
    replace h := h.get
    obtain ⟨b30, w31, nb32, h⟩ := h
    refine s_bslc H rfl (by rw [H.parts (vs := []) rfl]; exact bs_28_0 w24) (lt_ rfl) ?_
    rw [← nb32.at_]
    clear H a
    intro a H
    refine nb32.go ?_
    refine s_move H rfl rfl (lt_ rfl) ?_
    clear H a
    intro a H
    obtain ⟨s33, w34, hq35, h⟩ := h
    refine s_blt H rfl (H.args (vs := [(Slc.v (Slc.mk (some (blk b30)) 0 0)), (Slc.v writter17)]) rfl) (lt_ rfl) (fun cs => b_app (z := s33) hq35) ?_
    clear H a hq35
    intro a H
    refine s_move H rfl rfl (lt_ rfl) ?_
    clear H a
    intro a H
    obtain ⟨s36, w37, hq38, h⟩ := h
    refine s_blt H rfl (H.args (vs := [(Slc.v s33), (Slc.v data6)]) rfl) (lt_ rfl) (fun cs => b_app (z := s36) hq38) ?_
    clear H a hq38
    intro a H
    refine s_assign H rfl rfl (lt_ rfl) ?_
    clear H a
    intro a H
    refine c_nil ?_
    refine hK29 _ _ ?_
    refine c_seq fun K39 hK39 => ?_
    refine c_reg ?_
    refine s_move H rfl rfl (lt_ rfl) ?_
    clear H a
    intro a H
    refine s_call H rfl body_16 (H.args (vs := [(Slc.v s36)]) rfl) (lt_ rfl) h ?_ (fun c w' h H => e_panic (P := PP) (fn := Tryd.f5) H h)
    clear H h a
    rintro _ w40 a ⟨Scanr_Config_N41, Scanr_Config_K42, Scanr_Config_Delta43, Scanr_Server44, Scanr45, Scanr46, Scanr47, Scanr48, Scanr49, rfl, h⟩ H
    refine s_move H rfl rfl (lt_ rfl) ?_
    clear H a
    intro a H
    refine s_ext H rfl rfl rfl (lt_ rfl) ?_
    clear H a
    intro a H
    refine s_ext H rfl rfl rfl (lt_ rfl) ?_
    clear H a
    intro a H
    refine s_ext H rfl rfl rfl (lt_ rfl) ?_
    clear H a
    intro a H
    refine s_ext H rfl rfl rfl (lt_ rfl) ?_
    clear H a
    intro a H
    refine s_ext H rfl rfl rfl (lt_ rfl) ?_
    clear H a
    intro a H
    refine s_ext H rfl rfl rfl (lt_ rfl) ?_
    clear H a
    intro a H
    replace h := h.get
    obtain ⟨b50, w51, nb52, h⟩ := h
    refine s_alloc H rfl zero_25 (lt_ rfl) ?_
    rw [← nb52.at_]
    clear H a
    intro a H
    refine nb52.go ?_
    refine s_stoN (l := [(.int .i64 Scanr_Config_N41), (.int .i64 Scanr_Config_K42), (.int .i64 Scanr_Config_Delta43), (.int .i64 Scanr_Server44)]) H rfl rfl rfl rfl agg_25 rfl rfl h ?_
    clear h H
    intro w53 h H
    refine s_assign H rfl rfl (lt_ rfl) ?_
    clear H a
    intro a H
    refine s_assign H rfl rfl (lt_ rfl) ?_
    clear H a
    intro a H
    refine s_assign H rfl rfl (lt_ rfl) ?_
    clear H a
    intro a H
    refine s_assign H rfl rfl (lt_ rfl) ?_
    clear H a
    intro a H
    refine s_assign H rfl rfl (lt_ rfl) ?_
    clear H a
    intro a H
    refine c_nil ?_
    refine hK39 _ _ ?_
    refine c_seq fun K54 hK54 => ?_
    refine c_seq fun K55 hK55 => ?_
    refine c_reg ?_
    refine s_move H rfl rfl (lt_ rfl) ?_
    clear H a
    intro a H
    refine s_bin H rfl rfl rfl r_neq (lt_ rfl) ?_
    clear H a
    intro a H
    refine s_move H rfl rfl (lt_ rfl) ?_
    clear H a
    intro a H
    refine g_join (n := 171) [(58, (.bool ((decide (Scanr49 ≠ 0)) || (decide ((Scanr46.l : Int) ≠ (wr .i64 ((Scanr45.l : Int) + 1))))))), (6, (Slc.v s36)), (10, (.pointer (some (blk b50)))), (11, (Slc.v Scanr45)), (12, (Slc.v Scanr46)), (13, (.int .i64 Scanr47))] (.succ (.succ (.succ (.succ (.succ (.succ (.succ (.zero _)))))))) ?_ ?_
    · intro hr57
      try clear h
      rcases Bool.eq_false_or_eq_true (decide (Scanr49 ≠ 0)) with hg56 | hg56
      · replace H := H.ch (t := 51) (b := true) rfl hg56
        refine s_skip H (wantN H rfl rfl rfl) rfl (lt_ rfl) ?_
        clear H a
        intro a H
        refine s_skip H (wantN H rfl rfl rfl) rfl (lt_ rfl) ?_
        clear H a
        intro a H
        refine s_skip H (wantN H rfl rfl rfl) rfl (lt_ rfl) ?_
        clear H a
        intro a H
        refine s_skip H (wantN H rfl rfl rfl) rfl (lt_ rfl) ?_
        clear H a
        intro a H
        refine s_skip H (wantN H rfl rfl rfl) rfl (lt_ rfl) ?_
        clear H a
        intro a H
        refine s_skip H (wantN H rfl rfl rfl) rfl (lt_ rfl) ?_
        clear H a
        intro a H
        refine s_pickT H rfl rfl rfl (lt_ rfl) ?_
        clear H a
        intro a H
        exact hr57 _ (H.weaken ⟨by rw [hg56]; rfl, rfl, rfl, rfl, rfl, rfl, trivial⟩)
      · replace H := H.ch (t := 51) (b := false) rfl hg56
        refine s_move H (wantG H rfl rfl) rfl (lt_ rfl) ?_
        clear H a
        intro a H
        refine s_blt H (wantG H rfl rfl) (H.args (vs := [(Slc.v Scanr46)]) rfl) (lt_ rfl) (fun cs => b_lenS (z := Scanr46) sl_50) ?_
        clear H a
        intro a H
        refine s_move H (wantG H rfl rfl) rfl (lt_ rfl) ?_
        clear H a
        intro a H
        refine s_blt H (wantG H rfl rfl) (H.args (vs := [(Slc.v Scanr45)]) rfl) (lt_ rfl) (fun cs => b_lenS (z := Scanr45) sl_26) ?_
        clear H a
        intro a H
        refine s_bin H (wantG H rfl rfl) rfl rfl r_add (lt_ rfl) ?_
        clear H a
        intro a H
        refine s_bin H (wantG H rfl rfl) rfl rfl r_neq (lt_ rfl) ?_
        clear H a
        intro a H
        refine s_pickF H rfl rfl rfl (lt_ rfl) ?_
        clear H a
        intro a H
        exact hr57 _ (H.weaken ⟨by rw [hg56]; rfl, rfl, rfl, rfl, rfl, rfl, trivial⟩)
    · clear H a
      intro a H
      refine s_move H rfl rfl (lt_ rfl) ?_
      clear H a
      intro a H
      obtain ⟨x66, hy67, hn68, h⟩ := h
      refine g_join (n := 171) [(68, (.bool x66)), (6, (Slc.v s36)), (10, (.pointer (some (blk b50)))), (11, (Slc.v Scanr45)), (12, (Slc.v Scanr46)), (13, (.int .i64 Scanr47))] (.succ (.succ (.succ (.succ (.succ (.succ (.succ (.succ (.succ (.zero _)))))))))) ?_ ?_
      · intro hr59
        try clear h
        rcases Bool.eq_false_or_eq_true ((decide (Scanr49 ≠ 0)) || (decide ((Scanr46.l : Int) ≠ (wr .i64 ((Scanr45.l : Int) + 1))))) with hg58 | hg58
        · replace H := H.ch (t := 59) (b := true) rfl hg58
          refine s_skip H (wantN H rfl rfl rfl) rfl (lt_ rfl) ?_
          clear H a
          intro a H
          refine s_skip H (wantN H rfl rfl rfl) rfl (lt_ rfl) ?_
          clear H a
          intro a H
          refine s_skip H (wantN H rfl rfl rfl) rfl (lt_ rfl) ?_
          clear H a
          intro a H
          refine s_skip H (wantN H rfl rfl rfl) rfl (lt_ rfl) ?_
          clear H a
          intro a H
          refine s_skip H (wantN H rfl rfl rfl) rfl (lt_ rfl) ?_
          clear H a
          intro a H
          refine s_skip H (wantN H rfl rfl rfl) rfl (lt_ rfl) ?_
          clear H a
          intro a H
          refine s_skip H (wantN H rfl rfl rfl) rfl (lt_ rfl) ?_
          clear H a
          intro a H
          refine s_skip H (wantN H rfl rfl rfl) rfl (lt_ rfl) ?_
          clear H a
          intro a H
          refine s_pickT H rfl rfl rfl (lt_ rfl) ?_
          clear H a
          intro a H
          replace h := hn68 hg58
          subst h
          exact hr59 _ (H.weaken ⟨rfl, rfl, rfl, rfl, rfl, rfl, trivial⟩)
        · replace H := H.ch (t := 59) (b := false) rfl hg58
          replace h := hy67 hg58
          refine s_move H (wantG H rfl rfl) rfl (lt_ rfl) ?_
          clear H a
          intro a H
          refine s_move H (wantG H rfl rfl) rfl (lt_ rfl) ?_
          clear H a
          intro a H
          refine s_blt H (wantG H rfl rfl) (H.args (vs := [(Slc.v Scanr45)]) rfl) (lt_ rfl) (fun cs => b_lenS (z := Scanr45) sl_26) ?_
          clear H a
          intro a H
          obtain ⟨a60, hi61, hi62, hi63, h⟩ := h
          refine s_idxS (s := Scanr46) H (wantG H rfl rfl) rfl rfl slc_50 hi61 hi62 hi63 (lt_ rfl) ?_
          clear H a
          intro a H
          obtain ⟨l64, hc65, h⟩ := h
          refine s_load (v := (.int .i64 l64)) H (wantG H rfl rfl) rfl one_3 hc65 (lt_ rfl) ?_
          clear H a
          intro a H
          refine s_move H (wantG H rfl rfl) rfl (lt_ rfl) ?_
          clear H a
          intro a H
          refine s_blt H (wantG H rfl rfl) (H.args (vs := [(Slc.v s36)]) rfl) (lt_ rfl) (fun cs => b_lenS (z := s36) sl_28) ?_
          clear H a
          intro a H
          refine s_bin H (wantG H rfl rfl) rfl rfl r_gtr (lt_ rfl) ?_
          clear H a
          intro a H
          refine s_pickF H rfl rfl rfl (lt_ rfl) ?_
          clear H a
          intro a H
          subst h
          exact hr59 _ (H.weaken ⟨rfl, rfl, rfl, rfl, rfl, rfl, trivial⟩)
      · clear H a
        clear hy67 hn68
        intro a H
        refine s_move H rfl rfl (lt_ rfl) ?_
        clear H a
        intro a H
        obtain ⟨x77, hy78, hn79, h⟩ := h
        refine g_join (n := 171) [(81, (.bool x77)), (6, (Slc.v s36)), (10, (.pointer (some (blk b50)))), (11, (Slc.v Scanr45)), (12, (Slc.v Scanr46))] (.succ (.succ (.succ (.succ (.succ (.succ (.succ (.succ (.succ (.succ (.succ (.succ (.zero _))))))))))))) ?_ ?_
        · intro hr70
          try clear h
          rcases Bool.eq_false_or_eq_true x66 with hg69 | hg69
          · replace H := H.ch (t := 69) (b := true) rfl hg69
            refine s_skip H (wantN H rfl rfl rfl) rfl (lt_ rfl) ?_
            clear H a
            intro a H
            refine s_skip H (wantN H rfl rfl rfl) rfl (lt_ rfl) ?_
            clear H a
            intro a H
            refine s_skip H (wantN H rfl rfl rfl) rfl (lt_ rfl) ?_
            clear H a
            intro a H
            refine s_skip H (wantN H rfl rfl rfl) rfl (lt_ rfl) ?_
            clear H a
            intro a H
            refine s_skip H (wantN H rfl rfl rfl) rfl (lt_ rfl) ?_
            clear H a
            intro a H
            refine s_skip H (wantN H rfl rfl rfl) rfl (lt_ rfl) ?_
            clear H a
            intro a H
            refine s_skip H (wantN H rfl rfl rfl) rfl (lt_ rfl) ?_
            clear H a
            intro a H
            refine s_skip H (wantN H rfl rfl rfl) rfl (lt_ rfl) ?_
            clear H a
            intro a H
            refine s_skip H (wantN H rfl rfl rfl) rfl (lt_ rfl) ?_
            clear H a
            intro a H
            refine s_skip H (wantN H rfl rfl rfl) rfl (lt_ rfl) ?_
            clear H a
            intro a H
            refine s_skip H (wantN H rfl rfl rfl) rfl (lt_ rfl) ?_
            clear H a
            intro a H
            refine s_pickT H rfl rfl rfl (lt_ rfl) ?_
            clear H a
            intro a H
            replace h := hn79 hg69
            subst h
            exact hr70 _ (H.weaken ⟨rfl, rfl, rfl, rfl, rfl, trivial⟩)
          · replace H := H.ch (t := 69) (b := false) rfl hg69
            replace h := hy78 hg69
            refine s_move H (wantG H rfl rfl) rfl (lt_ rfl) ?_
            clear H a
            intro a H
            refine s_bin H (wantG H rfl rfl) rfl rfl r_eql (lt_ rfl) ?_
            clear H a
            intro a H
            refine s_move H (wantG H rfl rfl) rfl (lt_ rfl) ?_
            clear H a
            intro a H
            refine s_move H (wantG H rfl rfl) rfl (lt_ rfl) ?_
            clear H a
            intro a H
            refine s_blt H (wantG H rfl rfl) (H.args (vs := [(Slc.v Scanr45)]) rfl) (lt_ rfl) (fun cs => b_lenS (z := Scanr45) sl_26) ?_
            clear H a
            intro a H
            obtain ⟨a71, hi72, hi73, hi74, h⟩ := h
            refine s_idxS (s := Scanr46) H (wantG H rfl rfl) rfl rfl slc_50 hi72 hi73 hi74 (lt_ rfl) ?_
            clear H a
            intro a H
            obtain ⟨l75, hc76, h⟩ := h
            refine s_load (v := (.int .i64 l75)) H (wantG H rfl rfl) rfl one_3 hc76 (lt_ rfl) ?_
            clear H a
            intro a H
            refine s_move H (wantG H rfl rfl) rfl (lt_ rfl) ?_
            clear H a
            intro a H
            refine s_blt H (wantG H rfl rfl) (H.args (vs := [(Slc.v s36)]) rfl) (lt_ rfl) (fun cs => b_lenS (z := s36) sl_28) ?_
            clear H a
            intro a H
            refine s_bin H (wantG H rfl rfl) rfl rfl r_eql (lt_ rfl) ?_
            clear H a
            intro a H
            refine s_bin H (wantG H rfl rfl) rfl rfl (r_neB bool_4) (lt_ rfl) ?_
            clear H a
            intro a H
            refine s_pickF H rfl rfl rfl (lt_ rfl) ?_
            clear H a
            intro a H
            subst h
            exact hr70 _ (H.weaken ⟨rfl, rfl, rfl, rfl, rfl, trivial⟩)
        · clear H a
          clear hy78 hn79
          intro a H
          refine c_nil ?_
          refine hK55 _ _ ?_
          refine c_cond H rfl (fun hb80 => ?_) (fun hb80 => ?_)
          · replace h := h.1 hb80
            refine c_seq fun K81 hK81 => ?_
            refine c_reg ?_
            refine s_assign H rfl rfl (lt_ rfl) ?_
            clear H a
            intro a H
            refine c_nil ?_
            refine hK81 _ _ ?_
            refine c_ret ?_
            exact e_ret1 H rfl rfl h
          · replace h := h.2 hb80
            refine c_skip ?_
            refine hK54 _ _ ?_
            refine c_seq fun K82 hK82 => ?_
            refine c_reg ?_
            obtain ⟨l_Config_N83, hc84, h⟩ := h
            obtain ⟨l_Config_K85, hc86, h⟩ := h
            obtain ⟨l_Config_Delta87, hc88, h⟩ := h
            obtain ⟨l_Server89, hc90, h⟩ := h
            refine s_loadN (l := [(.int .i64 l_Config_N83), (.int .i64 l_Config_K85), (.int .i64 l_Config_Delta87), (.int .i64 l_Server89)]) H rfl rfl agg_25 rfl ⟨hc84, hc86, hc88, hc90, trivial⟩ (lt_ rfl) ?_
            clear H a
            intro a H
            refine s_call H rfl body_9 (H.args (vs := [(.agg #[(.int .i64 l_Config_N83), (.int .i64 l_Config_K85), (.int .i64 l_Config_Delta87), (.int .i64 l_Server89)])]) rfl) (lt_ rfl) h ?_ (fun c w' h H => e_panic (P := PP) (fn := Tryd.f5) H h)
            clear H h a
            rintro _ w91 a ⟨Newr92, Newr93, Newr94, rfl, h⟩ H
            refine s_move H rfl rfl (lt_ rfl) ?_
            clear H a
            intro a H
            refine s_ext H rfl rfl rfl (lt_ rfl) ?_
            clear H a
            intro a H
            refine s_ext H rfl rfl rfl (lt_ rfl) ?_
            clear H a
            intro a H
            refine s_ext H rfl rfl rfl (lt_ rfl) ?_
            clear H a
            intro a H
            refine s_assign H rfl rfl (lt_ rfl) ?_
            clear H a
            intro a H
            refine s_assign H rfl rfl (lt_ rfl) ?_
            clear H a
            intro a H
            refine s_assign H rfl rfl (lt_ rfl) ?_
            clear H a
            intro a H
            refine c_nil ?_
            refine hK82 _ _ ?_
            refine c_seq fun K95 hK95 => ?_
            refine c_seq fun K96 hK96 => ?_
            refine c_reg ?_
            refine s_move H rfl rfl (lt_ rfl) ?_
            clear H a
            intro a H
            refine s_bin H rfl rfl rfl (r_eqP0 ptr_32) (lt_ rfl) ?_
            clear H a
            intro a H
            refine s_move H rfl rfl (lt_ rfl) ?_
            clear H a
            intro a H
            refine g_join (n := 171) [(93, (.bool (Newr92.isNone || (decide (Newr94 ≠ 0))))), (6, (Slc.v s36)), (10, (.pointer (some (blk b50)))), (11, (Slc.v Scanr45)), (12, (Slc.v Scanr46)), (16, (.pointer Newr92)), (17, (Slc.v Newr93))] (.succ (.succ (.succ (.zero _)))) ?_ ?_
            · intro hr98
              try clear h
              rcases Bool.eq_false_or_eq_true Newr92.isNone with hg97 | hg97
              · replace H := H.ch (t := 90) (b := true) rfl hg97
                refine s_skip H (wantN H rfl rfl rfl) rfl (lt_ rfl) ?_
                clear H a
                intro a H
                refine s_skip H (wantN H rfl rfl rfl) rfl (lt_ rfl) ?_
                clear H a
                intro a H
                refine s_pickT H rfl rfl rfl (lt_ rfl) ?_
                clear H a
                intro a H
                exact hr98 _ (H.weaken ⟨by rw [hg97]; rfl, rfl, rfl, rfl, rfl, rfl, rfl, trivial⟩)
              · replace H := H.ch (t := 90) (b := false) rfl hg97
                refine s_move H (wantG H rfl rfl) rfl (lt_ rfl) ?_
                clear H a
                intro a H
                refine s_bin H (wantG H rfl rfl) rfl rfl r_neq (lt_ rfl) ?_
                clear H a
                intro a H
                refine s_pickF H rfl rfl rfl (lt_ rfl) ?_
                clear H a
                intro a H
                exact hr98 _ (H.weaken ⟨by rw [hg97]; rfl, rfl, rfl, rfl, rfl, rfl, rfl, trivial⟩)
            · clear H a
              intro a H
              refine s_move H rfl rfl (lt_ rfl) ?_
              clear H a
              intro a H
              obtain ⟨x107, hy108, hn109, h⟩ := h
              refine g_join (n := 171) [(101, (.bool x107)), (6, (Slc.v s36)), (10, (.pointer (some (blk b50)))), (11, (Slc.v Scanr45)), (12, (Slc.v Scanr46)), (16, (.pointer Newr92)), (17, (Slc.v Newr93))] (.succ (.succ (.succ (.succ (.succ (.succ (.succ (.zero _)))))))) ?_ ?_
              · intro hr100
                try clear h
                rcases Bool.eq_false_or_eq_true (Newr92.isNone || (decide (Newr94 ≠ 0))) with hg99 | hg99
                · replace H := H.ch (t := 94) (b := true) rfl hg99
                  refine s_skip H (wantN H rfl rfl rfl) rfl (lt_ rfl) ?_
                  clear H a
                  intro a H
                  refine s_skip H (wantN H rfl rfl rfl) rfl (lt_ rfl) ?_
                  clear H a
                  intro a H
                  refine s_skip H (wantN H rfl rfl rfl) rfl (lt_ rfl) ?_
                  clear H a
                  intro a H
                  refine s_skip H (wantN H rfl rfl rfl) rfl (lt_ rfl) ?_
                  clear H a
                  intro a H
                  refine s_skip H (wantN H rfl rfl rfl) rfl (lt_ rfl) ?_
                  clear H a
                  intro a H
                  refine s_skip H (wantN H rfl rfl rfl) rfl (lt_ rfl) ?_
                  clear H a
                  intro a H
                  refine s_pickT H rfl rfl rfl (lt_ rfl) ?_
                  clear H a
                  intro a H
                  replace h := hn109 hg99
                  subst h
                  exact hr100 _ (H.weaken ⟨rfl, rfl, rfl, rfl, rfl, rfl, rfl, trivial⟩)
                · replace H := H.ch (t := 94) (b := false) rfl hg99
                  replace h := hy108 hg99
                  refine s_move H (wantG H rfl rfl) rfl (lt_ rfl) ?_
                  clear H a
                  intro a H
                  refine s_blt H (wantG H rfl rfl) (H.args (vs := [(Slc.v Newr93)]) rfl) (lt_ rfl) (fun cs => b_lenS (z := Newr93) sl_28) ?_
                  clear H a
                  intro a H
                  refine s_move H (wantG H rfl rfl) rfl (lt_ rfl) ?_
                  clear H a
                  intro a H
                  obtain ⟨a101, hi102, hi103, hi104, h⟩ := h
                  refine s_idxS (s := Scanr46) H (wantG H rfl rfl) rfl rfl slc_50 hi102 hi103 hi104 (lt_ rfl) ?_
                  clear H a
                  intro a H
                  obtain ⟨l105, hc106, h⟩ := h
                  refine s_load (v := (.int .i64 l105)) H (wantG H rfl rfl) rfl one_3 hc106 (lt_ rfl) ?_
                  clear H a
                  intro a H
                  refine s_bin H (wantG H rfl rfl) rfl rfl r_neq (lt_ rfl) ?_
                  clear H a
                  intro a H
                  refine s_pickF H rfl rfl rfl (lt_ rfl) ?_
                  clear H a
                  intro a H
                  subst h
                  exact hr100 _ (H.weaken ⟨rfl, rfl, rfl, rfl, rfl, rfl, rfl, trivial⟩)
              · clear H a
                clear hy108 hn109
                intro a H
                refine c_nil ?_
                refine hK96 _ _ ?_
                refine c_cond H rfl (fun hb110 => ?_) (fun hb110 => ?_)
                · replace h := h.1 hb110
                  refine c_seq fun K111 hK111 => ?_
                  refine c_reg ?_
                  refine s_assign H rfl rfl (lt_ rfl) ?_
                  clear H a
                  intro a H
                  refine c_nil ?_
                  refine hK111 _ _ ?_
                  refine c_ret ?_
                  exact e_ret1 H rfl rfl h
                · replace h := h.2 hb110
                  refine c_skip ?_
                  refine hK95 _ _ ?_
                  refine c_seq fun K112 hK112 => ?_
                  refine c_seq fun K113 hK113 => ?_
                  refine c_reg ?_
                  refine s_assign H rfl rfl (lt_ rfl) ?_
                  clear H a
                  intro a H
                  refine c_nil ?_
                  refine hK113 _ _ ?_
                  refine c_block ?_
                  obtain ⟨I117, mu118, h0253, hl254⟩ := h
                  refine c_loop (σ := Slc × Int) (fun z w => I117 z.1 z.2 w) (fun z w => mu118 z.1 z.2 w) (fun z => [(6, (Slc.v s36)), (10, (.pointer (some (blk b50)))), (11, (Slc.v Scanr45)), (12, (Slc.v Scanr46)), (16, (.pointer Newr92)), (17, (Slc.v z.1)), (18, (.int .i64 z.2))]) (Newr93, 0) h0253 (H.weaken ⟨rfl, rfl, rfl, rfl, rfl, rfl, rfl, trivial⟩) ?_
                  clear H h0253
                  rintro ⟨again114, i115⟩ a w116 h H
                  replace h := hl254 again114 i115 w116 h
                  clear hl254
                  replace H : Has 171 [] a [(6, (Slc.v s36)), (10, (.pointer (some (blk b50)))), (11, (Slc.v Scanr45)), (12, (Slc.v Scanr46)), (16, (.pointer Newr92)), (17, (Slc.v again114)), (18, (.int .i64 i115))] := H
                  refine c_seq fun K119 hK119 => ?_
                  refine c_seq fun K120 hK120 => ?_
                  refine c_reg ?_
                  refine s_move H rfl rfl (lt_ rfl) ?_
                  clear H a
                  intro a H
                  refine s_move H rfl rfl (lt_ rfl) ?_
                  clear H a
                  intro a H
                  refine s_blt H rfl (H.args (vs := [(Slc.v Scanr45)]) rfl) (lt_ rfl) (fun cs => b_lenS (z := Scanr45) sl_26) ?_
                  clear H a
                  intro a H
                  refine s_bin H rfl rfl rfl r_lss (lt_ rfl) ?_
                  clear H a
                  intro a H
                  refine c_nil ?_
                  refine hK120 _ _ ?_
                  refine c_cond H rfl (fun hb121 => ?_) (fun hb121 => ?_)
                  · replace h := h.1 hb121
                    refine c_skip ?_
                    refine hK119 _ _ ?_
                    refine c_seq fun K122 hK122 => ?_
                    refine c_block ?_
                    refine c_seq fun K123 hK123 => ?_
                    refine c_reg ?_
                    refine s_move H rfl rfl (lt_ rfl) ?_
                    clear H a
                    intro a H
                    refine s_move H rfl rfl (lt_ rfl) ?_
                    clear H a
                    intro a H
                    refine s_move H rfl rfl (lt_ rfl) ?_
                    clear H a
                    intro a H
                    obtain ⟨a124, hi125, hi126, hi127, h⟩ := h
                    refine s_idxS (s := Scanr45) H rfl rfl rfl slc_26 hi125 hi126 hi127 (lt_ rfl) ?_
                    clear H a
                    intro a H
                    obtain ⟨l_Kind128, hc129, h⟩ := h
                    obtain ⟨l_Key130, hc131, h⟩ := h
                    obtain ⟨l_Entry_Tag_Count132, hc133, h⟩ := h
                    obtain ⟨l_Entry_Tag_Client134, hc135, h⟩ := h
                    obtain ⟨l_Entry_Fin136, hc137, h⟩ := h
                    obtain ⟨l_Entry_Has138, hc139, h⟩ := h
                    obtain ⟨l_Entry_Data140, hc141, h⟩ := h
                    refine s_loadN (l := [(.int .i64 l_Kind128), (.string l_Key130), (.int .i64 l_Entry_Tag_Count132), (.int .i64 l_Entry_Tag_Client134), (.bool l_Entry_Fin136), (.bool l_Entry_Has138), (Slc.v l_Entry_Data140)]) H rfl rfl agg_45 rfl ⟨hc129, hc131, hc133, hc135, hc137, hc139, hc141, trivial⟩ (lt_ rfl) ?_
                    clear H a
                    intro a H
                    refine s_call H rfl body_19 (H.args (vs := [(.pointer Newr92), (.agg #[(.int .i64 l_Kind128), (.string l_Key130), (.int .i64 l_Entry_Tag_Count132), (.int .i64 l_Entry_Tag_Client134), (.bool l_Entry_Fin136), (.bool l_Entry_Has138), (Slc.v l_Entry_Data140)])]) rfl) (lt_ rfl) h ?_ (fun c w' h H => e_panic (P := PP) (fn := Tryd.f5) H h)
                    clear H h a
                    rintro _ w142 a ⟨Putr143, Putr144, rfl, h⟩ H
                    refine s_move H rfl rfl (lt_ rfl) ?_
                    clear H a
                    intro a H
                    refine s_ext H rfl rfl rfl (lt_ rfl) ?_
                    clear H a
                    intro a H
                    refine s_ext H rfl rfl rfl (lt_ rfl) ?_
                    clear H a
                    intro a H
                    refine s_assign H rfl rfl (lt_ rfl) ?_
                    clear H a
                    intro a H
                    refine s_assign H rfl rfl (lt_ rfl) ?_
                    clear H a
                    intro a H
                    refine c_nil ?_
                    refine hK123 _ _ ?_
                    refine c_seq fun K145 hK145 => ?_
                    refine c_reg ?_
                    replace h := h.get
                    obtain ⟨b146, w147, nb148, h⟩ := h
                    refine s_bslc H rfl (by rw [H.parts (vs := []) rfl]; exact bs_28_0 w142) (lt_ rfl) ?_
                    rw [← nb148.at_]
                    clear H a
                    intro a H
                    refine nb148.go ?_
                    refine s_move H rfl rfl (lt_ rfl) ?_
                    clear H a
                    intro a H
                    obtain ⟨s149, w150, hq151, h⟩ := h
                    refine s_blt H rfl (H.args (vs := [(Slc.v (Slc.mk (some (blk b146)) 0 0)), (Slc.v again114)]) rfl) (lt_ rfl) (fun cs => b_app (z := s149) hq151) ?_
                    clear H a hq151
                    intro a H
                    refine s_move H rfl rfl (lt_ rfl) ?_
                    clear H a
                    intro a H
                    obtain ⟨s152, w153, hq154, h⟩ := h
                    refine s_blt H rfl (H.args (vs := [(Slc.v s149), (Slc.v Putr143)]) rfl) (lt_ rfl) (fun cs => b_app (z := s152) hq154) ?_
                    clear H a hq154
                    intro a H
                    refine s_assign H rfl rfl (lt_ rfl) ?_
                    clear H a
                    intro a H
                    refine c_nil ?_
                    refine hK145 _ _ ?_
                    refine c_seq fun K155 hK155 => ?_
                    refine c_reg ?_
                    refine s_move H rfl rfl (lt_ rfl) ?_
                    clear H a
                    intro a H
                    refine s_bin H rfl rfl rfl r_neq (lt_ rfl) ?_
                    clear H a
                    intro a H
                    refine s_move H rfl rfl (lt_ rfl) ?_
                    clear H a
                    intro a H
                    obtain ⟨x164, hy165, hn166, h⟩ := h
                    refine g_join (n := 171) [(133, (.bool x164)), (6, (Slc.v s36)), (10, (.pointer (some (blk b50)))), (11, (Slc.v Scanr45)), (12, (Slc.v Scanr46)), (16, (.pointer Newr92)), (17, (Slc.v s152)), (18, (.int .i64 i115))] (.succ (.succ (.succ (.succ (.succ (.succ (.succ (.succ (.succ (.zero _)))))))))) ?_ ?_
                    · intro hr157
                      try clear h
                      rcases Bool.eq_false_or_eq_true (decide (Putr144 ≠ 0)) with hg156 | hg156
                      · replace H := H.ch (t := 124) (b := true) rfl hg156
                        refine s_skip H (wantN H rfl rfl rfl) rfl (lt_ rfl) ?_
                        clear H a
                        intro a H
                        refine s_skip H (wantN H rfl rfl rfl) rfl (lt_ rfl) ?_
                        clear H a
                        intro a H
                        refine s_skip H (wantN H rfl rfl rfl) rfl (lt_ rfl) ?_
                        clear H a
                        intro a H
                        refine s_skip H (wantN H rfl rfl rfl) rfl (lt_ rfl) ?_
                        clear H a
                        intro a H
                        refine s_skip H (wantN H rfl rfl rfl) rfl (lt_ rfl) ?_
                        clear H a
                        intro a H
                        refine s_skip H (wantN H rfl rfl rfl) rfl (lt_ rfl) ?_
                        clear H a
                        intro a H
                        refine s_skip H (wantN H rfl rfl rfl) rfl (lt_ rfl) ?_
                        clear H a
                        intro a H
                        refine s_skip H (wantN H rfl rfl rfl) rfl (lt_ rfl) ?_
                        clear H a
                        intro a H
                        refine s_pickT H rfl rfl rfl (lt_ rfl) ?_
                        clear H a
                        intro a H
                        replace h := hn166 hg156
                        subst h
                        exact hr157 _ (H.weaken ⟨rfl, rfl, rfl, rfl, rfl, rfl, rfl, rfl, trivial⟩)
                      · replace H := H.ch (t := 124) (b := false) rfl hg156
                        replace h := hy165 hg156
                        refine s_move H (wantG H rfl rfl) rfl (lt_ rfl) ?_
                        clear H a
                        intro a H
                        refine s_blt H (wantG H rfl rfl) (H.args (vs := [(Slc.v s152)]) rfl) (lt_ rfl) (fun cs => b_lenS (z := s152) sl_28) ?_
                        clear H a
                        intro a H
                        refine s_move H (wantG H rfl rfl) rfl (lt_ rfl) ?_
                        clear H a
                        intro a H
                        refine s_move H (wantG H rfl rfl) rfl (lt_ rfl) ?_
                        clear H a
                        intro a H
                        refine s_bin H (wantG H rfl rfl) rfl rfl r_add (lt_ rfl) ?_
                        clear H a
                        intro a H
                        obtain ⟨a158, hi159, hi160, hi161, h⟩ := h
                        refine s_idxS (s := Scanr46) H (wantG H rfl rfl) rfl rfl slc_50 hi159 hi160 hi161 (lt_ rfl) ?_
                        clear H a
                        intro a H
                        obtain ⟨l162, hc163, h⟩ := h
                        refine s_load (v := (.int .i64 l162)) H (wantG H rfl rfl) rfl one_3 hc163 (lt_ rfl) ?_
                        clear H a
                        intro a H
                        refine s_bin H (wantG H rfl rfl) rfl rfl r_neq (lt_ rfl) ?_
                        clear H a
                        intro a H
                        refine s_pickF H rfl rfl rfl (lt_ rfl) ?_
                        clear H a
                        intro a H
                        subst h
                        exact hr157 _ (H.weaken ⟨rfl, rfl, rfl, rfl, rfl, rfl, rfl, rfl, trivial⟩)
                    · clear H a
                      clear hy165 hn166
                      intro a H
                      refine c_nil ?_
                      refine hK155 _ _ ?_
                      refine c_cond H rfl (fun hb167 => ?_) (fun hb167 => ?_)
                      · replace h := h.1 hb167
                        refine c_seq fun K168 hK168 => ?_
                        refine c_reg ?_
                        refine s_assign H rfl rfl (lt_ rfl) ?_
                        clear H a
                        intro a H
                        refine c_nil ?_
                        refine hK168 _ _ ?_
                        refine c_ret ?_
                        exact e_ret1 H rfl rfl h
                      · replace h := h.2 hb167
                        refine c_skip ?_
                        refine hK122 _ _ ?_
                        refine c_reg ?_
                        refine s_move H rfl rfl (lt_ rfl) ?_
                        clear H a
                        intro a H
                        refine s_bin H rfl rfl rfl r_add (lt_ rfl) ?_
                        clear H a
                        intro a H
                        refine s_assign H rfl rfl (lt_ rfl) ?_
                        clear H a
                        intro a H
                        refine c_nil ?_
                        refine Exists.intro (s152, wr .i64 (i115 + 1)) ⟨h.1, h.2, H.weaken ⟨rfl, rfl, rfl, rfl, rfl, rfl, rfl, trivial⟩⟩
                  · replace h := h.2 hb121
                    refine c_exit ?_
                    simp only [Exit.then, Exit.inBlock, ↓reduceIte, Nat.reduceEqDiff]
                    refine hK112 _ _ ?_
                    refine c_seq fun K173 hK173 => ?_
                    refine c_seq fun K174 hK174 => ?_
                    refine c_reg ?_
                    refine s_move H rfl rfl (lt_ rfl) ?_
                    clear H a
                    intro a H
                    refine s_move H rfl rfl (lt_ rfl) ?_
                    clear H a
                    intro a H
                    refine s_move H rfl rfl (lt_ rfl) ?_
                    clear H a
                    intro a H
                    refine s_blt H rfl (H.args (vs := [(Slc.v again114)]) rfl) (lt_ rfl) (fun cs => b_lenS (z := again114) sl_28) ?_
                    clear H a
                    intro a H
                    obtain ⟨hi175, hi176, hi177, h⟩ := h
                    refine s_slice (v := (Slc.v (s36.cut 1 (Int.toNat (0)) (Int.toNat ((again114.l : Int)))))) H rfl rfl ⟨rfl, rfl⟩ ⟨rfl, rfl⟩ ⟨rfl, rfl⟩ (r_sliceSlc (lo := none) (hi := (some (.i64, (again114.l : Int)))) slc_28 rfl rfl hi175 hi176 hi177) (lt_ rfl) ?_
                    clear H a
                    intro a H
                    refine s_call H rfl body_10 (H.args (vs := [(Slc.v again114), (Slc.v (s36.cut 1 (Int.toNat (0)) (Int.toNat ((again114.l : Int)))))]) rfl) (lt_ rfl) h ?_ (fun c w' h H => e_panic (P := PP) (fn := Tryd.f5) H h)
                    clear H h a
                    rintro _ w178 a ⟨same179, rfl, h⟩ H
                    refine s_un H rfl rfl r_not (lt_ rfl) ?_
                    clear H a
                    intro a H
                    refine c_nil ?_
                    refine hK174 _ _ ?_
                    refine c_cond H rfl (fun hb180 => ?_) (fun hb180 => ?_)
                    · replace h := h.1 hb180
                      refine c_seq fun K181 hK181 => ?_
                      refine c_reg ?_
                      refine s_assign H rfl rfl (lt_ rfl) ?_
                      clear H a
                      intro a H
                      refine c_nil ?_
                      refine hK181 _ _ ?_
                      refine c_ret ?_
                      exact e_ret1 H rfl rfl h
                    · replace h := h.2 hb180
                      refine c_skip ?_
                      refine hK173 _ _ ?_
                      refine c_seq fun K182 hK182 => ?_
                      refine c_reg ?_
                      refine s_move H rfl rfl (lt_ rfl) ?_
                      clear H a
                      intro a H
                      refine s_call H rfl body_16 (H.args (vs := [(Slc.v again114)]) rfl) (lt_ rfl) h ?_ (fun c w' h H => e_panic (P := PP) (fn := Tryd.f5) H h)
                      clear H h a
                      rintro _ w183 a ⟨Scanr_Config_N184, Scanr_Config_K185, Scanr_Config_Delta186, Scanr_Server187, Scanr188, Scanr189, Scanr190, Scanr191, Scanr192, rfl, h⟩ H
                      refine s_move H rfl rfl (lt_ rfl) ?_
                      clear H a
                      intro a H
                      refine s_ext H rfl rfl rfl (lt_ rfl) ?_
                      clear H a
                      intro a H
                      refine s_ext H rfl rfl rfl (lt_ rfl) ?_
                      clear H a
                      intro a H
                      refine s_ext H rfl rfl rfl (lt_ rfl) ?_
                      clear H a
                      intro a H
                      refine s_ext H rfl rfl rfl (lt_ rfl) ?_
                      clear H a
                      intro a H
                      refine s_ext H rfl rfl rfl (lt_ rfl) ?_
                      clear H a
                      intro a H
                      refine s_ext H rfl rfl rfl (lt_ rfl) ?_
                      clear H a
                      intro a H
                      replace h := h.get
                      obtain ⟨b193, w194, nb195, h⟩ := h
                      refine s_alloc H rfl zero_25 (lt_ rfl) ?_
                      rw [← nb195.at_]
                      clear H a
                      intro a H
                      refine nb195.go ?_
                      refine s_stoN (l := [(.int .i64 Scanr_Config_N184), (.int .i64 Scanr_Config_K185), (.int .i64 Scanr_Config_Delta186), (.int .i64 Scanr_Server187)]) H rfl rfl rfl rfl agg_25 rfl rfl h ?_
                      clear h H
                      intro w196 h H
                      refine s_assign H rfl rfl (lt_ rfl) ?_
                      clear H a
                      intro a H
                      refine s_assign H rfl rfl (lt_ rfl) ?_
                      clear H a
                      intro a H
                      refine s_assign H rfl rfl (lt_ rfl) ?_
                      clear H a
                      intro a H
                      refine s_assign H rfl rfl (lt_ rfl) ?_
                      clear H a
                      intro a H
                      refine s_assign H rfl rfl (lt_ rfl) ?_
                      clear H a
                      intro a H
                      refine c_nil ?_
                      refine hK182 _ _ ?_
                      refine c_seq fun K197 hK197 => ?_
                      refine c_reg ?_
                      refine s_move H rfl rfl (lt_ rfl) ?_
                      clear H a
                      intro a H
                      refine s_bin H rfl rfl rfl r_eql (lt_ rfl) ?_
                      clear H a
                      intro a H
                      refine s_move H rfl rfl (lt_ rfl) ?_
                      clear H a
                      intro a H
                      refine g_join (n := 171) [(155, (.bool ((decide (Scanr192 = 0)) && (decide (Scanr190 = 0))))), (10, (.pointer (some (blk b50)))), (11, (Slc.v Scanr45)), (12, (Slc.v Scanr46)), (21, (.pointer (some (blk b193)))), (22, (Slc.v Scanr188)), (23, (Slc.v Scanr189))] (.succ (.succ (.succ (.zero _)))) ?_ ?_
                      · intro hr199
                        try clear h
                        rcases Bool.eq_false_or_eq_true (decide (Scanr192 = 0)) with hg198 | hg198
                        · replace H := H.ch (t := 152) (b := true) rfl hg198
                          refine s_move H (wantG H rfl rfl) rfl (lt_ rfl) ?_
                          clear H a
                          intro a H
                          refine s_bin H (wantG H rfl rfl) rfl rfl r_eql (lt_ rfl) ?_
                          clear H a
                          intro a H
                          refine s_pickT H rfl rfl rfl (lt_ rfl) ?_
                          clear H a
                          intro a H
                          exact hr199 _ (H.weaken ⟨by rw [hg198]; rfl, rfl, rfl, rfl, rfl, rfl, rfl, trivial⟩)
                        · replace H := H.ch (t := 152) (b := false) rfl hg198
                          refine s_skip H (wantN H rfl rfl rfl) rfl (lt_ rfl) ?_
                          clear H a
                          intro a H
                          refine s_skip H (wantN H rfl rfl rfl) rfl (lt_ rfl) ?_
                          clear H a
                          intro a H
                          refine s_pickF H rfl rfl rfl (lt_ rfl) ?_
                          clear H a
                          intro a H
                          exact hr199 _ (H.weaken ⟨by rw [hg198]; rfl, rfl, rfl, rfl, rfl, rfl, rfl, trivial⟩)
                      · clear H a
                        intro a H
                        refine s_move H rfl rfl (lt_ rfl) ?_
                        clear H a
                        intro a H
                        obtain ⟨x218, hy219, hn220, h⟩ := h
                        refine g_join (n := 171) [(160, (.bool x218)), (11, (Slc.v Scanr45)), (12, (Slc.v Scanr46)), (22, (Slc.v Scanr188)), (23, (Slc.v Scanr189))] (.succ (.succ (.succ (.succ (.zero _))))) ?_ ?_
                        · intro hr201
                          try clear h
                          rcases Bool.eq_false_or_eq_true ((decide (Scanr192 = 0)) && (decide (Scanr190 = 0))) with hg200 | hg200
                          · replace H := H.ch (t := 156) (b := true) rfl hg200
                            replace h := hy219 hg200
                            obtain ⟨l_Config_N202, hc203, h⟩ := h
                            obtain ⟨l_Config_K204, hc205, h⟩ := h
                            obtain ⟨l_Config_Delta206, hc207, h⟩ := h
                            obtain ⟨l_Server208, hc209, h⟩ := h
                            refine s_loadN (l := [(.int .i64 l_Config_N202), (.int .i64 l_Config_K204), (.int .i64 l_Config_Delta206), (.int .i64 l_Server208)]) H (wantG H rfl rfl) rfl agg_25 rfl ⟨hc203, hc205, hc207, hc209, trivial⟩ (lt_ rfl) ?_
                            clear H a
                            intro a H
                            obtain ⟨l_Config_N210, hc211, h⟩ := h
                            obtain ⟨l_Config_K212, hc213, h⟩ := h
                            obtain ⟨l_Config_Delta214, hc215, h⟩ := h
                            obtain ⟨l_Server216, hc217, h⟩ := h
                            refine s_loadN (l := [(.int .i64 l_Config_N210), (.int .i64 l_Config_K212), (.int .i64 l_Config_Delta214), (.int .i64 l_Server216)]) H (wantG H rfl rfl) rfl agg_25 rfl ⟨hc211, hc213, hc215, hc217, trivial⟩ (lt_ rfl) ?_
                            clear H a
                            intro a H
                            refine s_bin H (wantG H rfl rfl) rfl rfl (r_eqst eqg_25 (eqst_25 0) rfl) (lt_ rfl) ?_
                            clear H a
                            intro a H
                            refine s_pickT H rfl rfl rfl (lt_ rfl) ?_
                            clear H a
                            intro a H
                            subst h
                            exact hr201 _ (H.weaken ⟨rfl, rfl, rfl, rfl, rfl, trivial⟩)
                          · replace H := H.ch (t := 156) (b := false) rfl hg200
                            refine s_skip H (wantN H rfl rfl rfl) rfl (lt_ rfl) ?_
                            clear H a
                            intro a H
                            refine s_skip H (wantN H rfl rfl rfl) rfl (lt_ rfl) ?_
                            clear H a
                            intro a H
                            refine s_skip H (wantN H rfl rfl rfl) rfl (lt_ rfl) ?_
                            clear H a
                            intro a H
                            refine s_pickF H rfl rfl rfl (lt_ rfl) ?_
                            clear H a
                            intro a H
                            replace h := hn220 hg200
                            subst h
                            exact hr201 _ (H.weaken ⟨rfl, rfl, rfl, rfl, rfl, trivial⟩)
                        · clear H a
                          clear hy219 hn220
                          intro a H
                          refine s_move H rfl rfl (lt_ rfl) ?_
                          clear H a
                          intro a H
                          obtain ⟨R223, h, hx244⟩ := h
                          refine g_joinW (n := 171) R223 (fun x224 => [(165, (.bool x224)), (12, (Slc.v Scanr46)), (23, (Slc.v Scanr189))]) (.succ (.succ (.succ (.succ (.zero _))))) ?_ ?_
                          · intro hr222
                            clear hx244
                            rcases Bool.eq_false_or_eq_true x218 with hg221 | hg221
                            · replace H := H.ch (t := 161) (b := true) rfl hg221
                              replace h := h.1 hg221
                              refine s_move H (wantG H rfl rfl) rfl (lt_ rfl) ?_
                              clear H a
                              intro a H
                              refine s_move H (wantG H rfl rfl) rfl (lt_ rfl) ?_
                              clear H a
                              intro a H
                              refine s_call H (wantG H rfl rfl) body_17 (H.args (vs := [(Slc.v Scanr188), (Slc.v Scanr45)]) rfl) (lt_ rfl) h ?_ (fun c w' h H => e_panic (P := PP) (fn := Tryd.f5) H h)
                              clear H h a
                              rintro _ w226 a ⟨update227, rfl, h⟩ H
                              refine s_pickT H rfl rfl rfl (lt_ rfl) ?_
                              clear H a
                              intro a H
                              exact hr222 _ _ _ h (H.weaken ⟨rfl, rfl, rfl, trivial⟩)
                            · replace H := H.ch (t := 161) (b := false) rfl hg221
                              replace h := h.2 hg221
                              refine s_skip H (wantN H rfl rfl rfl) rfl (lt_ rfl) ?_
                              clear H a
                              intro a H
                              refine s_skip H (wantN H rfl rfl rfl) rfl (lt_ rfl) ?_
                              clear H a
                              intro a H
                              refine s_skip H (wantN H rfl rfl rfl) rfl (lt_ rfl) ?_
                              clear H a
                              intro a H
                              refine s_pickF H rfl rfl rfl (lt_ rfl) ?_
                              clear H a
                              intro a H
                              exact hr222 _ _ _ h (H.weaken ⟨rfl, rfl, rfl, trivial⟩)
                          · clear H a h
                            intro a x224 w225 h H
                            replace h := hx244 x224 w225 h
                            clear hx244
                            refine s_move H rfl rfl (lt_ rfl) ?_
                            clear H a
                            intro a H
                            obtain ⟨R234, h, hx243⟩ := h
                            refine g_joinW (n := 171) R234 (fun x235 => [(170, (.bool x235))]) (.succ (.succ (.succ (.succ (.zero _))))) ?_ ?_
                            · intro hr233
                              clear hx243
                              rcases Bool.eq_false_or_eq_true x224 with hg232 | hg232
                              · replace H := H.ch (t := 166) (b := true) rfl hg232
                                replace h := h.1 hg232
                                refine s_move H (wantG H rfl rfl) rfl (lt_ rfl) ?_
                                clear H a
                                intro a H
                                refine s_move H (wantG H rfl rfl) rfl (lt_ rfl) ?_
                                clear H a
                                intro a H
                                refine s_call H (wantG H rfl rfl) body_18 (H.args (vs := [(Slc.v Scanr189), (Slc.v Scanr46)]) rfl) (lt_ rfl) h ?_ (fun c w' h H => e_panic (P := PP) (fn := Tryd.f5) H h)
                                clear H h a
                                rintro _ w237 a ⟨ints238, rfl, h⟩ H
                                refine s_pickT H rfl rfl rfl (lt_ rfl) ?_
                                clear H a
                                intro a H
                                exact hr233 _ _ _ h (H.weaken ⟨rfl, trivial⟩)
                              · replace H := H.ch (t := 166) (b := false) rfl hg232
                                replace h := h.2 hg232
                                refine s_skip H (wantN H rfl rfl rfl) rfl (lt_ rfl) ?_
                                clear H a
                                intro a H
                                refine s_skip H (wantN H rfl rfl rfl) rfl (lt_ rfl) ?_
                                clear H a
                                intro a H
                                refine s_skip H (wantN H rfl rfl rfl) rfl (lt_ rfl) ?_
                                clear H a
                                intro a H
                                refine s_pickF H rfl rfl rfl (lt_ rfl) ?_
                                clear H a
                                intro a H
                                exact hr233 _ _ _ h (H.weaken ⟨rfl, trivial⟩)
                            · clear H a h
                              intro a x235 w236 h H
                              replace h := hx243 x235 w236 h
                              clear hx243
                              refine s_assign H rfl rfl (lt_ rfl) ?_
                              clear H a
                              intro a H
                              refine c_nil ?_
                              refine hK197 _ _ ?_
                              refine c_ret ?_
                              exact e_ret1 H rfl rfl h
end Go.Proofs.YtnhgnfflihoaiaaDoor
