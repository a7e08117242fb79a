/-
  The conditions give the machine's calls; printed by vcgen.py.
-/
import Derived.Test.YtnhgnfflihoaiaaDoorRecVc
namespace Go.Proofs.YtnhgnfflihoaiaaDoor
open Go Go.Vc
set_option maxRecDepth 100000 in
set_option maxHeartbeats 4000000 in
theorem sim_sherdlaw11_RecordBack (x_N1 : Int) (x_K2 : Int) (x_Delta3 : Int) (x_Server4 : Int) (x_Updates5 : Slc) (more_Kind6 : Int) (more_Key7 : ByteArray) (more_Entry_Tag_Count8 : Int) (more_Entry_Tag_Client9 : Int) (more_Entry_Fin10 : Bool) (more_Entry_Has11 : Bool) (more_Entry_Data12 : Slc) (w : World) (Q : Ending → World → Prop) (h : vc_sherdlaw11_RecordBack x_N1 x_K2 x_Delta3 x_Server4 x_Updates5 more_Kind6 more_Key7 more_Entry_Tag_Count8 more_Entry_Tag_Client9 more_Entry_Fin10 more_Entry_Has11 more_Entry_Data12 w Q) : Calls PP F_sherdlaw11_RecordBack #[(.agg #[(.int .i64 x_N1), (.int .i64 x_K2), (.int .i64 x_Delta3), (.int .i64 x_Server4), (Slc.v x_Updates5)]), (.agg #[(.int .i64 more_Kind6), (.string more_Key7), (.int .i64 more_Entry_Tag_Count8), (.int .i64 more_Entry_Tag_Client9), (.bool more_Entry_Fin10), (.bool more_Entry_Has11), (Slc.v more_Entry_Data12)])] w Q := by
  unfold vc_sherdlaw11_RecordBack at h
  refine enter (n := 143) (l := [(.agg #[(.int .i64 x_N1), (.int .i64 x_K2), (.int .i64 x_Delta3), (.int .i64 x_Server4), (Slc.v x_Updates5)]), (.agg #[(.int .i64 more_Kind6), (.string more_Key7), (.int .i64 more_Entry_Tag_Count8), (.int .i64 more_Entry_Tag_Client9), (.bool more_Entry_Fin10), (.bool more_Entry_Has11), (Slc.v more_Entry_Data12)])]) Tryd.func6 rfl rfl (Nat.le_of_ble_eq_true rfl) fun a H => ?_
  replace H : Has 143 [] a [(0, (.agg #[(.int .i64 x_N1), (.int .i64 x_K2), (.int .i64 x_Delta3), (.int .i64 x_Server4), (Slc.v x_Updates5)])), (1, (.agg #[(.int .i64 more_Kind6), (.string more_Key7), (.int .i64 more_Entry_Tag_Count8), (.int .i64 more_Entry_Tag_Client9), (.bool more_Entry_Fin10), (.bool more_Entry_Has11), (Slc.v more_Entry_Data12)]))] := H
  refine c_seq fun K13 hK13 => ?_
  refine c_reg ?_
  replace h := h.get
  obtain ⟨b14, w15, nb16, h⟩ := h
  refine s_box H rfl rfl (lt_ rfl) ?_
  rw [← nb16.at_]
  clear H a
  intro a H
  refine nb16.go ?_
  replace h := h.get
  obtain ⟨b17, w18, nb19, h⟩ := h
  refine s_box H rfl rfl (lt_ rfl) ?_
  rw [← nb19.at_]
  clear H a
  intro a H
  refine nb19.go ?_
  refine s_assign H rfl rfl (lt_ rfl) ?_
  clear H a
  intro a H
  refine c_nil ?_
  refine hK13 _ _ ?_
  refine c_seq fun K20 hK20 => ?_
  refine c_reg ?_
  refine s_loadN (l := [(.int .i64 x_N1), (.int .i64 x_K2), (.int .i64 x_Delta3), (.int .i64 x_Server4), (Slc.v x_Updates5)]) H rfl rfl agg_49 rfl ⟨(nb19.old (nb16.cell (i := 0) rfl)), (nb19.old (nb16.cell (i := 1) rfl)), (nb19.old (nb16.cell (i := 2) rfl)), (nb19.old (nb16.cell (i := 3) rfl)), (nb19.old (nb16.cell (i := 4) rfl)), trivial⟩ (lt_ rfl) ?_
  clear H a
  intro a H
  refine s_call H rfl body_14 (H.args (vs := [(.agg #[(.int .i64 x_N1), (.int .i64 x_K2), (.int .i64 x_Delta3), (.int .i64 x_Server4), (Slc.v x_Updates5)])]) rfl) (lt_ rfl) h ?_ (fun c w' h H => e_panic (P := PP) (fn := Tryd.f6) H h)
  clear H h a
  rintro _ w21 a ⟨writter_Config_N22, writter_Config_K23, writter_Config_Delta24, writter_Server25, writter26, writter27, writter28, writter29, rfl, h⟩ H
  refine s_move H rfl rfl (lt_ rfl) ?_
  clear H a
  intro a H
  refine s_ext H rfl rfl rfl (lt_ rfl) ?_
  clear H a
  intro a H
  refine s_ext H rfl rfl rfl (lt_ rfl) ?_
  clear H a
  intro a H
  refine s_ext H rfl rfl rfl (lt_ rfl) ?_
  clear H a
  intro a H
  refine s_ext H rfl rfl rfl (lt_ rfl) ?_
  clear H a
  intro a H
  refine s_ext H rfl rfl rfl (lt_ rfl) ?_
  clear H a
  intro a H
  replace h := h.get
  obtain ⟨b30, w31, nb32, h⟩ := h
  refine s_alloc H rfl zero_25 (lt_ rfl) ?_
  rw [← nb32.at_]
  clear H a
  intro a H
  refine nb32.go ?_
  refine s_stoN (l := [(.int .i64 writter_Config_N22), (.int .i64 writter_Config_K23), (.int .i64 writter_Config_Delta24), (.int .i64 writter_Server25)]) H rfl rfl rfl rfl agg_25 rfl rfl h ?_
  clear h H
  intro w33 h H
  refine s_assign H rfl rfl (lt_ rfl) ?_
  clear H a
  intro a H
  refine s_assign H rfl rfl (lt_ rfl) ?_
  clear H a
  intro a H
  refine s_assign H rfl rfl (lt_ rfl) ?_
  clear H a
  intro a H
  refine s_assign H rfl rfl (lt_ rfl) ?_
  clear H a
  intro a H
  refine c_nil ?_
  refine hK20 _ _ ?_
  refine c_seq fun K34 hK34 => ?_
  refine c_seq fun K35 hK35 => ?_
  refine c_reg ?_
  refine s_move H rfl rfl (lt_ rfl) ?_
  clear H a
  intro a H
  refine s_bin H rfl rfl rfl (r_eqP0 ptr_32) (lt_ rfl) ?_
  clear H a
  intro a H
  refine s_move H rfl rfl (lt_ rfl) ?_
  clear H a
  intro a H
  obtain ⟨R38, h, hx275⟩ := h
  refine g_joinW (n := 143) R38 (fun x39 => [(41, (.bool x39)), (3, (.pointer (some (blk b17)))), (5, (.pointer (some (blk b30)))), (6, (Slc.v writter26)), (7, (Slc.v writter27)), (8, (Slc.v writter28)), (9, (.pointer writter29))]) (.succ (.succ (.succ (.succ (.succ (.succ (.zero _))))))) ?_ ?_
  · intro hr37
    clear hx275
    rcases Bool.eq_false_or_eq_true writter29.isNone with hg36 | hg36
    · replace H := H.ch (t := 35) (b := true) rfl hg36
      replace h := h.2 hg36
      refine s_skip H (wantN H rfl rfl rfl) rfl (lt_ rfl) ?_
      clear H a
      intro a H
      refine s_skip H (wantN H rfl rfl rfl) rfl (lt_ rfl) ?_
      clear H a
      intro a H
      refine s_skip H (wantN H rfl rfl rfl) rfl (lt_ rfl) ?_
      clear H a
      intro a H
      refine s_skip H (wantN H rfl rfl rfl) rfl (lt_ rfl) ?_
      clear H a
      intro a H
      refine s_skip H (wantN H rfl rfl rfl) rfl (lt_ rfl) ?_
      clear H a
      intro a H
      refine s_pickT H rfl rfl rfl (lt_ rfl) ?_
      clear H a
      intro a H
      exact hr37 _ _ _ h (H.weaken ⟨rfl, rfl, rfl, rfl, rfl, rfl, rfl, trivial⟩)
    · replace H := H.ch (t := 35) (b := false) rfl hg36
      replace h := h.1 hg36
      refine s_move H (wantG H rfl rfl) rfl (lt_ rfl) ?_
      clear H a
      intro a H
      refine s_call H (wantG H rfl rfl) body_20 (H.args (vs := [(.pointer writter29)]) rfl) (lt_ rfl) h ?_ (fun c w' h H => e_panic (P := PP) (fn := Tryd.f6) H h)
      clear H h a
      rintro _ w41 a ⟨Count42, rfl, h⟩ H
      refine s_move H (wantG H rfl rfl) rfl (lt_ rfl) ?_
      clear H a
      intro a H
      refine s_blt H (wantG H rfl rfl) (H.args (vs := [(Slc.v writter28)]) rfl) (lt_ rfl) (fun cs => b_lenS (z := writter28) sl_26) ?_
      clear H a
      intro a H
      refine s_bin H (wantG H rfl rfl) rfl rfl r_neq (lt_ rfl) ?_
      clear H a
      intro a H
      refine s_pickF H rfl rfl rfl (lt_ rfl) ?_
      clear H a
      intro a H
      exact hr37 _ _ _ h (H.weaken ⟨rfl, rfl, rfl, rfl, rfl, rfl, rfl, trivial⟩)
  · clear H a h
    intro a x39 w40 h H
    replace h := hx275 x39 w40 h
    clear hx275
    refine c_nil ?_
    refine hK35 _ _ ?_
    refine c_cond H rfl (fun hb47 => ?_) (fun hb47 => ?_)
    · replace h := h.1 hb47
      refine c_seq fun K48 hK48 => ?_
      refine c_reg ?_
      refine s_assign H rfl rfl (lt_ rfl) ?_
      clear H a
      intro a H
      refine c_nil ?_
      refine hK48 _ _ ?_
      refine c_ret ?_
      exact e_ret1 H rfl rfl h
    · replace h := h.2 hb47
      refine c_skip ?_
      refine hK34 _ _ ?_
      refine c_seq fun K49 hK49 => ?_
      refine c_reg ?_
      refine s_move H rfl rfl (lt_ rfl) ?_
      clear H a
      intro a H
      refine s_call H rfl body_16 (H.args (vs := [(Slc.v writter26)]) rfl) (lt_ rfl) h ?_ (fun c w' h H => e_panic (P := PP) (fn := Tryd.f6) H h)
      clear H h a
      rintro _ w50 a ⟨Scanr_Config_N51, Scanr_Config_K52, Scanr_Config_Delta53, Scanr_Server54, Scanr55, Scanr56, Scanr57, Scanr58, Scanr59, rfl, h⟩ H
      refine s_move H rfl rfl (lt_ rfl) ?_
      clear H a
      intro a H
      refine s_ext H rfl rfl rfl (lt_ rfl) ?_
      clear H a
      intro a H
      refine s_ext H rfl rfl rfl (lt_ rfl) ?_
      clear H a
      intro a H
      refine s_ext H rfl rfl rfl (lt_ rfl) ?_
      clear H a
      intro a H
      refine s_ext H rfl rfl rfl (lt_ rfl) ?_
      clear H a
      intro a H
      refine s_ext H rfl rfl rfl (lt_ rfl) ?_
      clear H a
      intro a H
      refine s_ext H rfl rfl rfl (lt_ rfl) ?_
      clear H a
      intro a H
      replace h := h.get
      obtain ⟨b60, w61, nb62, h⟩ := h
      refine s_alloc H rfl zero_25 (lt_ rfl) ?_
      rw [← nb62.at_]
      clear H a
      intro a H
      refine nb62.go ?_
      refine s_stoN (l := [(.int .i64 Scanr_Config_N51), (.int .i64 Scanr_Config_K52), (.int .i64 Scanr_Config_Delta53), (.int .i64 Scanr_Server54)]) H rfl rfl rfl rfl agg_25 rfl rfl h ?_
      clear h H
      intro w63 h H
      refine s_assign H rfl rfl (lt_ rfl) ?_
      clear H a
      intro a H
      refine s_assign H rfl rfl (lt_ rfl) ?_
      clear H a
      intro a H
      refine s_assign H rfl rfl (lt_ rfl) ?_
      clear H a
      intro a H
      refine s_assign H rfl rfl (lt_ rfl) ?_
      clear H a
      intro a H
      refine s_assign H rfl rfl (lt_ rfl) ?_
      clear H a
      intro a H
      refine c_nil ?_
      refine hK49 _ _ ?_
      refine c_seq fun K64 hK64 => ?_
      refine c_seq fun K65 hK65 => ?_
      refine c_reg ?_
      refine s_move H rfl rfl (lt_ rfl) ?_
      clear H a
      intro a H
      refine s_bin H rfl rfl rfl r_neq (lt_ rfl) ?_
      clear H a
      intro a H
      refine s_move H rfl rfl (lt_ rfl) ?_
      clear H a
      intro a H
      refine g_join (n := 143) [(56, (.bool ((decide (Scanr59 ≠ 0)) || (decide (Scanr57 ≠ 0))))), (3, (.pointer (some (blk b17)))), (5, (.pointer (some (blk b30)))), (6, (Slc.v writter26)), (7, (Slc.v writter27)), (8, (Slc.v writter28)), (9, (.pointer writter29)), (10, (.pointer (some (blk b60)))), (11, (Slc.v Scanr55)), (12, (Slc.v Scanr56)), (14, (.pointer Scanr58))] (.succ (.succ (.succ (.zero _)))) ?_ ?_
      · intro hr67
        try clear h
        rcases Bool.eq_false_or_eq_true (decide (Scanr59 ≠ 0)) with hg66 | hg66
        · replace H := H.ch (t := 53) (b := true) rfl hg66
          refine s_skip H (wantN H rfl rfl rfl) rfl (lt_ rfl) ?_
          clear H a
          intro a H
          refine s_skip H (wantN H rfl rfl rfl) rfl (lt_ rfl) ?_
          clear H a
          intro a H
          refine s_pickT H rfl rfl rfl (lt_ rfl) ?_
          clear H a
          intro a H
          exact hr67 _ (H.weaken ⟨by rw [hg66]; rfl, rfl, rfl, rfl, rfl, rfl, rfl, rfl, rfl, rfl, rfl, trivial⟩)
        · replace H := H.ch (t := 53) (b := false) rfl hg66
          refine s_move H (wantG H rfl rfl) rfl (lt_ rfl) ?_
          clear H a
          intro a H
          refine s_bin H (wantG H rfl rfl) rfl rfl r_neq (lt_ rfl) ?_
          clear H a
          intro a H
          refine s_pickF H rfl rfl rfl (lt_ rfl) ?_
          clear H a
          intro a H
          exact hr67 _ (H.weaken ⟨by rw [hg66]; rfl, rfl, rfl, rfl, rfl, rfl, rfl, rfl, rfl, rfl, rfl, trivial⟩)
      · clear H a
        intro a H
        refine s_move H rfl rfl (lt_ rfl) ?_
        clear H a
        intro a H
        obtain ⟨x86, hy87, hn88, h⟩ := h
        refine g_join (n := 143) [(61, (.bool x86)), (3, (.pointer (some (blk b17)))), (6, (Slc.v writter26)), (7, (Slc.v writter27)), (8, (Slc.v writter28)), (9, (.pointer writter29)), (10, (.pointer (some (blk b60)))), (11, (Slc.v Scanr55)), (12, (Slc.v Scanr56)), (14, (.pointer Scanr58))] (.succ (.succ (.succ (.succ (.zero _))))) ?_ ?_
        · intro hr69
          try clear h
          rcases Bool.eq_false_or_eq_true ((decide (Scanr59 ≠ 0)) || (decide (Scanr57 ≠ 0))) with hg68 | hg68
          · replace H := H.ch (t := 57) (b := true) rfl hg68
            refine s_skip H (wantN H rfl rfl rfl) rfl (lt_ rfl) ?_
            clear H a
            intro a H
            refine s_skip H (wantN H rfl rfl rfl) rfl (lt_ rfl) ?_
            clear H a
            intro a H
            refine s_skip H (wantN H rfl rfl rfl) rfl (lt_ rfl) ?_
            clear H a
            intro a H
            refine s_pickT H rfl rfl rfl (lt_ rfl) ?_
            clear H a
            intro a H
            replace h := hn88 hg68
            subst h
            exact hr69 _ (H.weaken ⟨rfl, rfl, rfl, rfl, rfl, rfl, rfl, rfl, rfl, rfl, trivial⟩)
          · replace H := H.ch (t := 57) (b := false) rfl hg68
            replace h := hy87 hg68
            obtain ⟨l_Config_N70, hc71, h⟩ := h
            obtain ⟨l_Config_K72, hc73, h⟩ := h
            obtain ⟨l_Config_Delta74, hc75, h⟩ := h
            obtain ⟨l_Server76, hc77, h⟩ := h
            refine s_loadN (l := [(.int .i64 l_Config_N70), (.int .i64 l_Config_K72), (.int .i64 l_Config_Delta74), (.int .i64 l_Server76)]) H (wantG H rfl rfl) rfl agg_25 rfl ⟨hc71, hc73, hc75, hc77, trivial⟩ (lt_ rfl) ?_
            clear H a
            intro a H
            obtain ⟨l_Config_N78, hc79, h⟩ := h
            obtain ⟨l_Config_K80, hc81, h⟩ := h
            obtain ⟨l_Config_Delta82, hc83, h⟩ := h
            obtain ⟨l_Server84, hc85, h⟩ := h
            refine s_loadN (l := [(.int .i64 l_Config_N78), (.int .i64 l_Config_K80), (.int .i64 l_Config_Delta82), (.int .i64 l_Server84)]) H (wantG H rfl rfl) rfl agg_25 rfl ⟨hc79, hc81, hc83, hc85, trivial⟩ (lt_ rfl) ?_
            clear H a
            intro a H
            refine s_bin H (wantG H rfl rfl) rfl rfl (r_nest eqg_25 (eqst_25 0) rfl) (lt_ rfl) ?_
            clear H a
            intro a H
            refine s_pickF H rfl rfl rfl (lt_ rfl) ?_
            clear H a
            intro a H
            subst h
            exact hr69 _ (H.weaken ⟨rfl, rfl, rfl, rfl, rfl, rfl, rfl, rfl, rfl, rfl, trivial⟩)
        · clear H a
          clear hy87 hn88
          intro a H
          refine s_move H rfl rfl (lt_ rfl) ?_
          clear H a
          intro a H
          obtain ⟨R91, h, hx270⟩ := h
          refine g_joinW (n := 143) R91 (fun x92 => [(67, (.bool x92)), (3, (.pointer (some (blk b17)))), (6, (Slc.v writter26)), (7, (Slc.v writter27)), (8, (Slc.v writter28)), (9, (.pointer writter29)), (10, (.pointer (some (blk b60)))), (11, (Slc.v Scanr55)), (12, (Slc.v Scanr56)), (14, (.pointer Scanr58))]) (.succ (.succ (.succ (.succ (.succ (.zero _)))))) ?_ ?_
          · intro hr90
            clear hx270
            rcases Bool.eq_false_or_eq_true x86 with hg89 | hg89
            · replace H := H.ch (t := 62) (b := true) rfl hg89
              replace h := h.2 hg89
              refine s_skip H (wantN H rfl rfl rfl) rfl (lt_ rfl) ?_
              clear H a
              intro a H
              refine s_skip H (wantN H rfl rfl rfl) rfl (lt_ rfl) ?_
              clear H a
              intro a H
              refine s_skip H (wantN H rfl rfl rfl) rfl (lt_ rfl) ?_
              clear H a
              intro a H
              refine s_skip H (wantN H rfl rfl rfl) rfl (lt_ rfl) ?_
              clear H a
              intro a H
              refine s_pickT H rfl rfl rfl (lt_ rfl) ?_
              clear H a
              intro a H
              exact hr90 _ _ _ h (H.weaken ⟨rfl, rfl, rfl, rfl, rfl, rfl, rfl, rfl, rfl, rfl, trivial⟩)
            · replace H := H.ch (t := 62) (b := false) rfl hg89
              replace h := h.1 hg89
              refine s_move H (wantG H rfl rfl) rfl (lt_ rfl) ?_
              clear H a
              intro a H
              refine s_move H (wantG H rfl rfl) rfl (lt_ rfl) ?_
              clear H a
              intro a H
              refine s_call H (wantG H rfl rfl) body_17 (H.args (vs := [(Slc.v Scanr55), (Slc.v writter28)]) rfl) (lt_ rfl) h ?_ (fun c w' h H => e_panic (P := PP) (fn := Tryd.f6) H h)
              clear H h a
              rintro _ w94 a ⟨update95, rfl, h⟩ H
              refine s_un H (wantG H rfl rfl) rfl r_not (lt_ rfl) ?_
              clear H a
              intro a H
              refine s_pickF H rfl rfl rfl (lt_ rfl) ?_
              clear H a
              intro a H
              exact hr90 _ _ _ h (H.weaken ⟨rfl, rfl, rfl, rfl, rfl, rfl, rfl, rfl, rfl, rfl, trivial⟩)
          · clear H a h
            intro a x92 w93 h H
            replace h := hx270 x92 w93 h
            clear hx270
            refine s_move H rfl rfl (lt_ rfl) ?_
            clear H a
            intro a H
            obtain ⟨R102, h, hx269⟩ := h
            refine g_joinW (n := 143) R102 (fun x103 => [(73, (.bool x103)), (3, (.pointer (some (blk b17)))), (6, (Slc.v writter26)), (8, (Slc.v writter28)), (9, (.pointer writter29)), (10, (.pointer (some (blk b60)))), (11, (Slc.v Scanr55)), (14, (.pointer Scanr58))]) (.succ (.succ (.succ (.succ (.succ (.zero _)))))) ?_ ?_
            · intro hr101
              clear hx269
              rcases Bool.eq_false_or_eq_true x92 with hg100 | hg100
              · replace H := H.ch (t := 68) (b := true) rfl hg100
                replace h := h.2 hg100
                refine s_skip H (wantN H rfl rfl rfl) rfl (lt_ rfl) ?_
                clear H a
                intro a H
                refine s_skip H (wantN H rfl rfl rfl) rfl (lt_ rfl) ?_
                clear H a
                intro a H
                refine s_skip H (wantN H rfl rfl rfl) rfl (lt_ rfl) ?_
                clear H a
                intro a H
                refine s_skip H (wantN H rfl rfl rfl) rfl (lt_ rfl) ?_
                clear H a
                intro a H
                refine s_pickT H rfl rfl rfl (lt_ rfl) ?_
                clear H a
                intro a H
                exact hr101 _ _ _ h (H.weaken ⟨rfl, rfl, rfl, rfl, rfl, rfl, rfl, rfl, trivial⟩)
              · replace H := H.ch (t := 68) (b := false) rfl hg100
                replace h := h.1 hg100
                refine s_move H (wantG H rfl rfl) rfl (lt_ rfl) ?_
                clear H a
                intro a H
                refine s_move H (wantG H rfl rfl) rfl (lt_ rfl) ?_
                clear H a
                intro a H
                refine s_call H (wantG H rfl rfl) body_18 (H.args (vs := [(Slc.v Scanr56), (Slc.v writter27)]) rfl) (lt_ rfl) h ?_ (fun c w' h H => e_panic (P := PP) (fn := Tryd.f6) H h)
                clear H h a
                rintro _ w105 a ⟨ints106, rfl, h⟩ H
                refine s_un H (wantG H rfl rfl) rfl r_not (lt_ rfl) ?_
                clear H a
                intro a H
                refine s_pickF H rfl rfl rfl (lt_ rfl) ?_
                clear H a
                intro a H
                exact hr101 _ _ _ h (H.weaken ⟨rfl, rfl, rfl, rfl, rfl, rfl, rfl, rfl, trivial⟩)
            · clear H a h
              intro a x103 w104 h H
              replace h := hx269 x103 w104 h
              clear hx269
              refine s_move H rfl rfl (lt_ rfl) ?_
              clear H a
              intro a H
              refine g_join (n := 143) [(77, (.bool (x103 || Scanr58.isNone))), (3, (.pointer (some (blk b17)))), (6, (Slc.v writter26)), (8, (Slc.v writter28)), (9, (.pointer writter29)), (10, (.pointer (some (blk b60)))), (11, (Slc.v Scanr55)), (14, (.pointer Scanr58))] (.succ (.succ (.succ (.zero _)))) ?_ ?_
              · intro hr112
                try clear h
                rcases Bool.eq_false_or_eq_true x103 with hg111 | hg111
                · replace H := H.ch (t := 74) (b := true) rfl hg111
                  refine s_skip H (wantN H rfl rfl rfl) rfl (lt_ rfl) ?_
                  clear H a
                  intro a H
                  refine s_skip H (wantN H rfl rfl rfl) rfl (lt_ rfl) ?_
                  clear H a
                  intro a H
                  refine s_pickT H rfl rfl rfl (lt_ rfl) ?_
                  clear H a
                  intro a H
                  exact hr112 _ (H.weaken ⟨by rw [hg111]; rfl, rfl, rfl, rfl, rfl, rfl, rfl, rfl, trivial⟩)
                · replace H := H.ch (t := 74) (b := false) rfl hg111
                  refine s_move H (wantG H rfl rfl) rfl (lt_ rfl) ?_
                  clear H a
                  intro a H
                  refine s_bin H (wantG H rfl rfl) rfl rfl (r_eqP0 ptr_32) (lt_ rfl) ?_
                  clear H a
                  intro a H
                  refine s_pickF H rfl rfl rfl (lt_ rfl) ?_
                  clear H a
                  intro a H
                  exact hr112 _ (H.weaken ⟨by rw [hg111]; rfl, rfl, rfl, rfl, rfl, rfl, rfl, rfl, trivial⟩)
              · clear H a
                intro a H
                refine s_move H rfl rfl (lt_ rfl) ?_
                clear H a
                intro a H
                obtain ⟨R115, h, hx268⟩ := h
                refine g_joinW (n := 143) R115 (fun x116 => [(84, (.bool x116)), (3, (.pointer (some (blk b17)))), (6, (Slc.v writter26)), (9, (.pointer writter29)), (10, (.pointer (some (blk b60)))), (11, (Slc.v Scanr55)), (14, (.pointer Scanr58))]) (.succ (.succ (.succ (.succ (.succ (.succ (.zero _))))))) ?_ ?_
                · intro hr114
                  clear hx268
                  rcases Bool.eq_false_or_eq_true (x103 || Scanr58.isNone) with hg113 | hg113
                  · replace H := H.ch (t := 78) (b := true) rfl hg113
                    replace h := h.2 hg113
                    refine s_skip H (wantN H rfl rfl rfl) rfl (lt_ rfl) ?_
                    clear H a
                    intro a H
                    refine s_skip H (wantN H rfl rfl rfl) rfl (lt_ rfl) ?_
                    clear H a
                    intro a H
                    refine s_skip H (wantN H rfl rfl rfl) rfl (lt_ rfl) ?_
                    clear H a
                    intro a H
                    refine s_skip H (wantN H rfl rfl rfl) rfl (lt_ rfl) ?_
                    clear H a
                    intro a H
                    refine s_skip H (wantN H rfl rfl rfl) rfl (lt_ rfl) ?_
                    clear H a
                    intro a H
                    refine s_pickT H rfl rfl rfl (lt_ rfl) ?_
                    clear H a
                    intro a H
                    exact hr114 _ _ _ h (H.weaken ⟨rfl, rfl, rfl, rfl, rfl, rfl, rfl, trivial⟩)
                  · replace H := H.ch (t := 78) (b := false) rfl hg113
                    replace h := h.1 hg113
                    refine s_move H (wantG H rfl rfl) rfl (lt_ rfl) ?_
                    clear H a
                    intro a H
                    refine s_call H (wantG H rfl rfl) body_20 (H.args (vs := [(.pointer Scanr58)]) rfl) (lt_ rfl) h ?_ (fun c w' h H => e_panic (P := PP) (fn := Tryd.f6) H h)
                    clear H h a
                    rintro _ w118 a ⟨Count119, rfl, h⟩ H
                    refine s_move H (wantG H rfl rfl) rfl (lt_ rfl) ?_
                    clear H a
                    intro a H
                    refine s_blt H (wantG H rfl rfl) (H.args (vs := [(Slc.v writter28)]) rfl) (lt_ rfl) (fun cs => b_lenS (z := writter28) sl_26) ?_
                    clear H a
                    intro a H
                    refine s_bin H (wantG H rfl rfl) rfl rfl r_neq (lt_ rfl) ?_
                    clear H a
                    intro a H
                    refine s_pickF H rfl rfl rfl (lt_ rfl) ?_
                    clear H a
                    intro a H
                    exact hr114 _ _ _ h (H.weaken ⟨rfl, rfl, rfl, rfl, rfl, rfl, rfl, trivial⟩)
                · clear H a h
                  intro a x116 w117 h H
                  replace h := hx268 x116 w117 h
                  clear hx268
                  refine c_nil ?_
                  refine hK65 _ _ ?_
                  refine c_cond H rfl (fun hb124 => ?_) (fun hb124 => ?_)
                  · replace h := h.1 hb124
                    refine c_seq fun K125 hK125 => ?_
                    refine c_reg ?_
                    refine s_assign H rfl rfl (lt_ rfl) ?_
                    clear H a
                    intro a H
                    refine c_nil ?_
                    refine hK125 _ _ ?_
                    refine c_ret ?_
                    exact e_ret1 H rfl rfl h
                  · replace h := h.2 hb124
                    refine c_skip ?_
                    refine hK64 _ _ ?_
                    refine c_seq fun K126 hK126 => ?_
                    refine c_reg ?_
                    refine s_move H rfl rfl (lt_ rfl) ?_
                    clear H a
                    intro a H
                    obtain ⟨l_Kind127, hc128, h⟩ := h
                    obtain ⟨l_Key129, hc130, h⟩ := h
                    obtain ⟨l_Entry_Tag_Count131, hc132, h⟩ := h
                    obtain ⟨l_Entry_Tag_Client133, hc134, h⟩ := h
                    obtain ⟨l_Entry_Fin135, hc136, h⟩ := h
                    obtain ⟨l_Entry_Has137, hc138, h⟩ := h
                    obtain ⟨l_Entry_Data139, hc140, h⟩ := h
                    refine s_loadN (l := [(.int .i64 l_Kind127), (.string l_Key129), (.int .i64 l_Entry_Tag_Count131), (.int .i64 l_Entry_Tag_Client133), (.bool l_Entry_Fin135), (.bool l_Entry_Has137), (Slc.v l_Entry_Data139)]) H rfl rfl agg_45 rfl ⟨hc128, hc130, hc132, hc134, hc136, hc138, hc140, trivial⟩ (lt_ rfl) ?_
                    clear H a
                    intro a H
                    refine s_call H rfl body_19 (H.args (vs := [(.pointer writter29), (.agg #[(.int .i64 l_Kind127), (.string l_Key129), (.int .i64 l_Entry_Tag_Count131), (.int .i64 l_Entry_Tag_Client133), (.bool l_Entry_Fin135), (.bool l_Entry_Has137), (Slc.v l_Entry_Data139)])]) rfl) (lt_ rfl) h ?_ (fun c w' h H => e_panic (P := PP) (fn := Tryd.f6) H h)
                    clear H h a
                    rintro _ w141 a ⟨Putr142, Putr143, rfl, h⟩ H
                    refine s_move H rfl rfl (lt_ rfl) ?_
                    clear H a
                    intro a H
                    refine s_ext H rfl rfl rfl (lt_ rfl) ?_
                    clear H a
                    intro a H
                    refine s_ext H rfl rfl rfl (lt_ rfl) ?_
                    clear H a
                    intro a H
                    refine s_assign H rfl rfl (lt_ rfl) ?_
                    clear H a
                    intro a H
                    refine s_assign H rfl rfl (lt_ rfl) ?_
                    clear H a
                    intro a H
                    refine c_nil ?_
                    refine hK126 _ _ ?_
                    refine c_seq fun K144 hK144 => ?_
                    refine c_reg ?_
                    refine s_move H rfl rfl (lt_ rfl) ?_
                    clear H a
                    intro a H
                    obtain ⟨l_Kind145, hc146, h⟩ := h
                    obtain ⟨l_Key147, hc148, h⟩ := h
                    obtain ⟨l_Entry_Tag_Count149, hc150, h⟩ := h
                    obtain ⟨l_Entry_Tag_Client151, hc152, h⟩ := h
                    obtain ⟨l_Entry_Fin153, hc154, h⟩ := h
                    obtain ⟨l_Entry_Has155, hc156, h⟩ := h
                    obtain ⟨l_Entry_Data157, hc158, h⟩ := h
                    refine s_loadN (l := [(.int .i64 l_Kind145), (.string l_Key147), (.int .i64 l_Entry_Tag_Count149), (.int .i64 l_Entry_Tag_Client151), (.bool l_Entry_Fin153), (.bool l_Entry_Has155), (Slc.v l_Entry_Data157)]) H rfl rfl agg_45 rfl ⟨hc146, hc148, hc150, hc152, hc154, hc156, hc158, trivial⟩ (lt_ rfl) ?_
                    clear H a
                    intro a H
                    refine s_call H rfl body_19 (H.args (vs := [(.pointer Scanr58), (.agg #[(.int .i64 l_Kind145), (.string l_Key147), (.int .i64 l_Entry_Tag_Count149), (.int .i64 l_Entry_Tag_Client151), (.bool l_Entry_Fin153), (.bool l_Entry_Has155), (Slc.v l_Entry_Data157)])]) rfl) (lt_ rfl) h ?_ (fun c w' h H => e_panic (P := PP) (fn := Tryd.f6) H h)
                    clear H h a
                    rintro _ w159 a ⟨Putr160, Putr161, rfl, h⟩ H
                    refine s_move H rfl rfl (lt_ rfl) ?_
                    clear H a
                    intro a H
                    refine s_ext H rfl rfl rfl (lt_ rfl) ?_
                    clear H a
                    intro a H
                    refine s_ext H rfl rfl rfl (lt_ rfl) ?_
                    clear H a
                    intro a H
                    refine s_assign H rfl rfl (lt_ rfl) ?_
                    clear H a
                    intro a H
                    refine s_assign H rfl rfl (lt_ rfl) ?_
                    clear H a
                    intro a H
                    refine c_nil ?_
                    refine hK144 _ _ ?_
                    refine c_seq fun K162 hK162 => ?_
                    refine c_seq fun K163 hK163 => ?_
                    refine c_reg ?_
                    refine s_move H rfl rfl (lt_ rfl) ?_
                    clear H a
                    intro a H
                    refine s_move H rfl rfl (lt_ rfl) ?_
                    clear H a
                    intro a H
                    refine s_bin H rfl rfl rfl r_neq (lt_ rfl) ?_
                    clear H a
                    intro a H
                    refine s_move H rfl rfl (lt_ rfl) ?_
                    clear H a
                    intro a H
                    obtain ⟨R166, h, hx259⟩ := h
                    refine g_joinW (n := 143) R166 (fun x167 => [(105, (.bool x167)), (6, (Slc.v writter26)), (10, (.pointer (some (blk b60)))), (11, (Slc.v Scanr55))]) (.succ (.succ (.succ (.succ (.succ (.zero _)))))) ?_ ?_
                    · intro hr165
                      clear hx259
                      rcases Bool.eq_false_or_eq_true (decide (Putr143 ≠ Putr161)) with hg164 | hg164
                      · replace H := H.ch (t := 100) (b := true) rfl hg164
                        replace h := h.2 hg164
                        refine s_skip H (wantN H rfl rfl rfl) rfl (lt_ rfl) ?_
                        clear H a
                        intro a H
                        refine s_skip H (wantN H rfl rfl rfl) rfl (lt_ rfl) ?_
                        clear H a
                        intro a H
                        refine s_skip H (wantN H rfl rfl rfl) rfl (lt_ rfl) ?_
                        clear H a
                        intro a H
                        refine s_skip H (wantN H rfl rfl rfl) rfl (lt_ rfl) ?_
                        clear H a
                        intro a H
                        refine s_pickT H rfl rfl rfl (lt_ rfl) ?_
                        clear H a
                        intro a H
                        exact hr165 _ _ _ h (H.weaken ⟨rfl, rfl, rfl, rfl, trivial⟩)
                      · replace H := H.ch (t := 100) (b := false) rfl hg164
                        replace h := h.1 hg164
                        refine s_move H (wantG H rfl rfl) rfl (lt_ rfl) ?_
                        clear H a
                        intro a H
                        refine s_move H (wantG H rfl rfl) rfl (lt_ rfl) ?_
                        clear H a
                        intro a H
                        refine s_call H (wantG H rfl rfl) body_10 (H.args (vs := [(Slc.v Putr142), (Slc.v Putr160)]) rfl) (lt_ rfl) h ?_ (fun c w' h H => e_panic (P := PP) (fn := Tryd.f6) H h)
                        clear H h a
                        rintro _ w169 a ⟨same170, rfl, h⟩ H
                        refine s_un H (wantG H rfl rfl) rfl r_not (lt_ rfl) ?_
                        clear H a
                        intro a H
                        refine s_pickF H rfl rfl rfl (lt_ rfl) ?_
                        clear H a
                        intro a H
                        exact hr165 _ _ _ h (H.weaken ⟨rfl, rfl, rfl, rfl, trivial⟩)
                    · clear H a h
                      intro a x167 w168 h H
                      replace h := hx259 x167 w168 h
                      clear hx259
                      refine c_nil ?_
                      refine hK163 _ _ ?_
                      refine c_cond H rfl (fun hb175 => ?_) (fun hb175 => ?_)
                      · replace h := h.1 hb175
                        refine c_seq fun K176 hK176 => ?_
                        refine c_reg ?_
                        refine s_assign H rfl rfl (lt_ rfl) ?_
                        clear H a
                        intro a H
                        refine c_nil ?_
                        refine hK176 _ _ ?_
                        refine c_ret ?_
                        exact e_ret1 H rfl rfl h
                      · replace h := h.2 hb175
                        refine c_skip ?_
                        refine hK162 _ _ ?_
                        refine c_seq fun K177 hK177 => ?_
                        refine c_reg ?_
                        obtain ⟨l_Config_N178, hc179, h⟩ := h
                        obtain ⟨l_Config_K180, hc181, h⟩ := h
                        obtain ⟨l_Config_Delta182, hc183, h⟩ := h
                        obtain ⟨l_Server184, hc185, h⟩ := h
                        refine s_loadN (l := [(.int .i64 l_Config_N178), (.int .i64 l_Config_K180), (.int .i64 l_Config_Delta182), (.int .i64 l_Server184)]) H rfl rfl agg_25 rfl ⟨hc179, hc181, hc183, hc185, trivial⟩ (lt_ rfl) ?_
                        clear H a
                        intro a H
                        refine s_call H rfl body_9 (H.args (vs := [(.agg #[(.int .i64 l_Config_N178), (.int .i64 l_Config_K180), (.int .i64 l_Config_Delta182), (.int .i64 l_Server184)])]) rfl) (lt_ rfl) h ?_ (fun c w' h H => e_panic (P := PP) (fn := Tryd.f6) H h)
                        clear H h a
                        rintro _ w186 a ⟨Newr187, Newr188, Newr189, rfl, h⟩ H
                        refine s_move H rfl rfl (lt_ rfl) ?_
                        clear H a
                        intro a H
                        refine s_ext H rfl rfl rfl (lt_ rfl) ?_
                        clear H a
                        intro a H
                        refine s_ext H rfl rfl rfl (lt_ rfl) ?_
                        clear H a
                        intro a H
                        refine s_ext H rfl rfl rfl (lt_ rfl) ?_
                        clear H a
                        intro a H
                        refine s_assign H rfl rfl (lt_ rfl) ?_
                        clear H a
                        intro a H
                        refine s_assign H rfl rfl (lt_ rfl) ?_
                        clear H a
                        intro a H
                        refine s_assign H rfl rfl (lt_ rfl) ?_
                        clear H a
                        intro a H
                        refine c_nil ?_
                        refine hK177 _ _ ?_
                        refine c_seq fun K190 hK190 => ?_
                        refine c_seq fun K191 hK191 => ?_
                        refine c_reg ?_
                        refine s_move H rfl rfl (lt_ rfl) ?_
                        clear H a
                        intro a H
                        refine s_bin H rfl rfl rfl (r_eqP0 ptr_32) (lt_ rfl) ?_
                        clear H a
                        intro a H
                        refine s_move H rfl rfl (lt_ rfl) ?_
                        clear H a
                        intro a H
                        refine g_join (n := 143) [(117, (.bool (Newr187.isNone || (decide (Newr189 ≠ 0))))), (6, (Slc.v writter26)), (11, (Slc.v Scanr55)), (20, (.pointer Newr187)), (21, (Slc.v Newr188))] (.succ (.succ (.succ (.zero _)))) ?_ ?_
                        · intro hr193
                          try clear h
                          rcases Bool.eq_false_or_eq_true Newr187.isNone with hg192 | hg192
                          · replace H := H.ch (t := 114) (b := true) rfl hg192
                            refine s_skip H (wantN H rfl rfl rfl) rfl (lt_ rfl) ?_
                            clear H a
                            intro a H
                            refine s_skip H (wantN H rfl rfl rfl) rfl (lt_ rfl) ?_
                            clear H a
                            intro a H
                            refine s_pickT H rfl rfl rfl (lt_ rfl) ?_
                            clear H a
                            intro a H
                            exact hr193 _ (H.weaken ⟨by rw [hg192]; rfl, rfl, rfl, rfl, rfl, trivial⟩)
                          · replace H := H.ch (t := 114) (b := false) rfl hg192
                            refine s_move H (wantG H rfl rfl) rfl (lt_ rfl) ?_
                            clear H a
                            intro a H
                            refine s_bin H (wantG H rfl rfl) rfl rfl r_neq (lt_ rfl) ?_
                            clear H a
                            intro a H
                            refine s_pickF H rfl rfl rfl (lt_ rfl) ?_
                            clear H a
                            intro a H
                            exact hr193 _ (H.weaken ⟨by rw [hg192]; rfl, rfl, rfl, rfl, rfl, trivial⟩)
                        · clear H a
                          intro a H
                          refine c_nil ?_
                          refine hK191 _ _ ?_
                          refine c_cond H rfl (fun hb194 => ?_) (fun hb194 => ?_)
                          · replace h := h.1 hb194
                            refine c_seq fun K195 hK195 => ?_
                            refine c_reg ?_
                            refine s_assign H rfl rfl (lt_ rfl) ?_
                            clear H a
                            intro a H
                            refine c_nil ?_
                            refine hK195 _ _ ?_
                            refine c_ret ?_
                            exact e_ret1 H rfl rfl h
                          · replace h := h.2 hb194
                            refine c_skip ?_
                            refine hK190 _ _ ?_
                            refine c_seq fun K196 hK196 => ?_
                            refine c_seq fun K197 hK197 => ?_
                            refine c_reg ?_
                            refine s_assign H rfl rfl (lt_ rfl) ?_
                            clear H a
                            intro a H
                            refine c_nil ?_
                            refine hK197 _ _ ?_
                            refine c_block ?_
                            obtain ⟨I201, mu202, h0253, hl254⟩ := h
                            refine c_loop (σ := Slc × Int) (fun z w => I201 z.1 z.2 w) (fun z w => mu202 z.1 z.2 w) (fun z => [(6, (Slc.v writter26)), (11, (Slc.v Scanr55)), (20, (.pointer Newr187)), (21, (Slc.v z.1)), (22, (.int .i64 z.2))]) (Newr188, 0) h0253 (H.weaken ⟨rfl, rfl, rfl, rfl, rfl, trivial⟩) ?_
                            clear H h0253
                            rintro ⟨again198, i199⟩ a w200 h H
                            replace h := hl254 again198 i199 w200 h
                            clear hl254
                            replace H : Has 143 [] a [(6, (Slc.v writter26)), (11, (Slc.v Scanr55)), (20, (.pointer Newr187)), (21, (Slc.v again198)), (22, (.int .i64 i199))] := H
                            refine c_seq fun K203 hK203 => ?_
                            refine c_seq fun K204 hK204 => ?_
                            refine c_reg ?_
                            refine s_move H rfl rfl (lt_ rfl) ?_
                            clear H a
                            intro a H
                            refine s_move H rfl rfl (lt_ rfl) ?_
                            clear H a
                            intro a H
                            refine s_blt H rfl (H.args (vs := [(Slc.v Scanr55)]) rfl) (lt_ rfl) (fun cs => b_lenS (z := Scanr55) sl_26) ?_
                            clear H a
                            intro a H
                            refine s_bin H rfl rfl rfl r_lss (lt_ rfl) ?_
                            clear H a
                            intro a H
                            refine c_nil ?_
                            refine hK204 _ _ ?_
                            refine c_cond H rfl (fun hb205 => ?_) (fun hb205 => ?_)
                            · replace h := h.1 hb205
                              refine c_skip ?_
                              refine hK203 _ _ ?_
                              refine c_seq fun K206 hK206 => ?_
                              refine c_block ?_
                              refine c_seq fun K207 hK207 => ?_
                              refine c_reg ?_
                              refine s_move H rfl rfl (lt_ rfl) ?_
                              clear H a
                              intro a H
                              refine s_move H rfl rfl (lt_ rfl) ?_
                              clear H a
                              intro a H
                              refine s_move H rfl rfl (lt_ rfl) ?_
                              clear H a
                              intro a H
                              obtain ⟨a208, hi209, hi210, hi211, h⟩ := h
                              refine s_idxS (s := Scanr55) H rfl rfl rfl slc_26 hi209 hi210 hi211 (lt_ rfl) ?_
                              clear H a
                              intro a H
                              obtain ⟨l_Kind212, hc213, h⟩ := h
                              obtain ⟨l_Key214, hc215, h⟩ := h
                              obtain ⟨l_Entry_Tag_Count216, hc217, h⟩ := h
                              obtain ⟨l_Entry_Tag_Client218, hc219, h⟩ := h
                              obtain ⟨l_Entry_Fin220, hc221, h⟩ := h
                              obtain ⟨l_Entry_Has222, hc223, h⟩ := h
                              obtain ⟨l_Entry_Data224, hc225, h⟩ := h
                              refine s_loadN (l := [(.int .i64 l_Kind212), (.string l_Key214), (.int .i64 l_Entry_Tag_Count216), (.int .i64 l_Entry_Tag_Client218), (.bool l_Entry_Fin220), (.bool l_Entry_Has222), (Slc.v l_Entry_Data224)]) H rfl rfl agg_45 rfl ⟨hc213, hc215, hc217, hc219, hc221, hc223, hc225, trivial⟩ (lt_ rfl) ?_
                              clear H a
                              intro a H
                              refine s_call H rfl body_19 (H.args (vs := [(.pointer Newr187), (.agg #[(.int .i64 l_Kind212), (.string l_Key214), (.int .i64 l_Entry_Tag_Count216), (.int .i64 l_Entry_Tag_Client218), (.bool l_Entry_Fin220), (.bool l_Entry_Has222), (Slc.v l_Entry_Data224)])]) rfl) (lt_ rfl) h ?_ (fun c w' h H => e_panic (P := PP) (fn := Tryd.f6) H h)
                              clear H h a
                              rintro _ w226 a ⟨Putr227, Putr228, rfl, h⟩ H
                              refine s_move H rfl rfl (lt_ rfl) ?_
                              clear H a
                              intro a H
                              refine s_ext H rfl rfl rfl (lt_ rfl) ?_
                              clear H a
                              intro a H
                              refine s_ext H rfl rfl rfl (lt_ rfl) ?_
                              clear H a
                              intro a H
                              refine s_assign H rfl rfl (lt_ rfl) ?_
                              clear H a
                              intro a H
                              refine s_assign H rfl rfl (lt_ rfl) ?_
                              clear H a
                              intro a H
                              refine c_nil ?_
                              refine hK207 _ _ ?_
                              refine c_seq fun K229 hK229 => ?_
                              refine c_seq fun K230 hK230 => ?_
                              refine c_reg ?_
                              refine s_move H rfl rfl (lt_ rfl) ?_
                              clear H a
                              intro a H
                              refine s_bin H rfl rfl rfl r_neq (lt_ rfl) ?_
                              clear H a
                              intro a H
                              refine c_nil ?_
                              refine hK230 _ _ ?_
                              refine c_cond H rfl (fun hb231 => ?_) (fun hb231 => ?_)
                              · replace h := h.1 hb231
                                refine c_seq fun K232 hK232 => ?_
                                refine c_reg ?_
                                refine s_assign H rfl rfl (lt_ rfl) ?_
                                clear H a
                                intro a H
                                refine c_nil ?_
                                refine hK232 _ _ ?_
                                refine c_ret ?_
                                exact e_ret1 H rfl rfl h
                              · replace h := h.2 hb231
                                refine c_skip ?_
                                refine hK229 _ _ ?_
                                refine c_reg ?_
                                replace h := h.get
                                obtain ⟨b233, w234, nb235, h⟩ := h
                                refine s_bslc H rfl (by rw [H.parts (vs := []) rfl]; exact bs_28_0 w226) (lt_ rfl) ?_
                                rw [← nb235.at_]
                                clear H a
                                intro a H
                                refine nb235.go ?_
                                refine s_move H rfl rfl (lt_ rfl) ?_
                                clear H a
                                intro a H
                                obtain ⟨s236, w237, hq238, h⟩ := h
                                refine s_blt H rfl (H.args (vs := [(Slc.v (Slc.mk (some (blk b233)) 0 0)), (Slc.v again198)]) rfl) (lt_ rfl) (fun cs => b_app (z := s236) hq238) ?_
                                clear H a hq238
                                intro a H
                                refine s_move H rfl rfl (lt_ rfl) ?_
                                clear H a
                                intro a H
                                obtain ⟨s239, w240, hq241, h⟩ := h
                                refine s_blt H rfl (H.args (vs := [(Slc.v s236), (Slc.v Putr227)]) rfl) (lt_ rfl) (fun cs => b_app (z := s239) hq241) ?_
                                clear H a hq241
                                intro a H
                                refine s_assign H rfl rfl (lt_ rfl) ?_
                                clear H a
                                intro a H
                                refine c_nil ?_
                                refine hK206 _ _ ?_
                                refine c_reg ?_
                                refine s_move H rfl rfl (lt_ rfl) ?_
                                clear H a
                                intro a H
                                refine s_bin H rfl rfl rfl r_add (lt_ rfl) ?_
                                clear H a
                                intro a H
                                refine s_assign H rfl rfl (lt_ rfl) ?_
                                clear H a
                                intro a H
                                refine c_nil ?_
                                refine Exists.intro (s239, wr .i64 (i199 + 1)) ⟨h.1, h.2, H.weaken ⟨rfl, rfl, rfl, rfl, rfl, trivial⟩⟩
                            · replace h := h.2 hb205
                              refine c_exit ?_
                              simp only [Exit.then, Exit.inBlock, ↓reduceIte, Nat.reduceEqDiff]
                              refine hK196 _ _ ?_
                              refine c_seq fun K246 hK246 => ?_
                              refine c_reg ?_
                              refine s_move H rfl rfl (lt_ rfl) ?_
                              clear H a
                              intro a H
                              refine s_move H rfl rfl (lt_ rfl) ?_
                              clear H a
                              intro a H
                              refine s_call H rfl body_10 (H.args (vs := [(Slc.v again198), (Slc.v writter26)]) rfl) (lt_ rfl) h ?_ (fun c w' h H => e_panic (P := PP) (fn := Tryd.f6) H h)
                              clear H h a
                              rintro _ w247 a ⟨same248, rfl, h⟩ H
                              refine s_assign H rfl rfl (lt_ rfl) ?_
                              clear H a
                              intro a H
                              refine c_nil ?_
                              refine hK246 _ _ ?_
                              refine c_ret ?_
                              exact e_ret1 H rfl rfl h

set_option maxRecDepth 100000 in
set_option maxHeartbeats 4000000 in
theorem sim_sherdlaw11_RecordTorn (x_N1 : Int) (x_K2 : Int) (x_Delta3 : Int) (x_Server4 : Int) (x_Updates5 : Slc) (cut6 : Int) (b7 : Int) (w : World) (Q : Ending → World → Prop) (h : vc_sherdlaw11_RecordTorn x_N1 x_K2 x_Delta3 x_Server4 x_Updates5 cut6 b7 w Q) : Calls PP F_sherdlaw11_RecordTorn #[(.agg #[(.int .i64 x_N1), (.int .i64 x_K2), (.int .i64 x_Delta3), (.int .i64 x_Server4), (Slc.v x_Updates5)]), (.int .i64 cut6), (.int .u8 b7)] w Q := by
  unfold vc_sherdlaw11_RecordTorn at h
  refine enter (n := 172) (l := [(.agg #[(.int .i64 x_N1), (.int .i64 x_K2), (.int .i64 x_Delta3), (.int .i64 x_Server4), (Slc.v x_Updates5)]), (.int .i64 cut6), (.int .u8 b7)]) Tryd.func7 rfl rfl (Nat.le_of_ble_eq_true rfl) fun a H => ?_
  replace H : Has 172 [] a [(0, (.agg #[(.int .i64 x_N1), (.int .i64 x_K2), (.int .i64 x_Delta3), (.int .i64 x_Server4), (Slc.v x_Updates5)])), (1, (.int .i64 cut6)), (2, (.int .u8 b7))] := H
  refine c_seq fun K8 hK8 => ?_
  refine c_reg ?_
  replace h := h.get
  obtain ⟨b9, w10, nb11, h⟩ := h
  refine s_box H rfl rfl (lt_ rfl) ?_
  rw [← nb11.at_]
  clear H a
  intro a H
  refine nb11.go ?_
  refine s_assign H rfl rfl (lt_ rfl) ?_
  clear H a
  intro a H
  refine c_nil ?_
  refine hK8 _ _ ?_
  refine c_seq fun K12 hK12 => ?_
  refine c_reg ?_
  refine s_loadN (l := [(.int .i64 x_N1), (.int .i64 x_K2), (.int .i64 x_Delta3), (.int .i64 x_Server4), (Slc.v x_Updates5)]) H rfl rfl agg_49 rfl ⟨(nb11.cell (i := 0) rfl), (nb11.cell (i := 1) rfl), (nb11.cell (i := 2) rfl), (nb11.cell (i := 3) rfl), (nb11.cell (i := 4) rfl), trivial⟩ (lt_ rfl) ?_
  clear H a
  intro a H
  refine s_call H rfl body_14 (H.args (vs := [(.agg #[(.int .i64 x_N1), (.int .i64 x_K2), (.int .i64 x_Delta3), (.int .i64 x_Server4), (Slc.v x_Updates5)])]) rfl) (lt_ rfl) h ?_ (fun c w' h H => e_panic (P := PP) (fn := Tryd.f7) H h)
  clear H h a
  rintro _ w13 a ⟨writter_Config_N14, writter_Config_K15, writter_Config_Delta16, writter_Server17, writter18, writter19, writter20, writter21, rfl, h⟩ H
  refine s_move H rfl rfl (lt_ rfl) ?_
  clear H a
  intro a H
  refine s_ext H rfl rfl rfl (lt_ rfl) ?_
  clear H a
  intro a H
  refine s_ext H rfl rfl rfl (lt_ rfl) ?_
  clear H a
  intro a H
  refine s_ext H rfl rfl rfl (lt_ rfl) ?_
  clear H a
  intro a H
  refine s_ext H rfl rfl rfl (lt_ rfl) ?_
  clear H a
  intro a H
  refine s_ext H rfl rfl rfl (lt_ rfl) ?_
  clear H a
  intro a H
  replace h := h.get
  obtain ⟨b22, w23, nb24, h⟩ := h
  refine s_alloc H rfl zero_25 (lt_ rfl) ?_
  rw [← nb24.at_]
  clear H a
  intro a H
  refine nb24.go ?_
  refine s_stoN (l := [(.int .i64 writter_Config_N14), (.int .i64 writter_Config_K15), (.int .i64 writter_Config_Delta16), (.int .i64 writter_Server17)]) H rfl rfl rfl rfl agg_25 rfl rfl h ?_
  clear h H
  intro w25 h H
  refine s_assign H rfl rfl (lt_ rfl) ?_
  clear H a
  intro a H
  refine s_assign H rfl rfl (lt_ rfl) ?_
  clear H a
  intro a H
  refine s_assign H rfl rfl (lt_ rfl) ?_
  clear H a
  intro a H
  refine s_assign H rfl rfl (lt_ rfl) ?_
  clear H a
  intro a H
  refine c_nil ?_
  refine hK12 _ _ ?_
  refine c_seq fun K26 hK26 => ?_
  refine c_seq fun K27 hK27 => ?_
  refine c_reg ?_
  refine s_move H rfl rfl (lt_ rfl) ?_
  clear H a
  intro a H
  refine s_bin H rfl rfl rfl (r_eqP0 ptr_32) (lt_ rfl) ?_
  clear H a
  intro a H
  refine c_nil ?_
  refine hK27 _ _ ?_
  refine c_cond H rfl (fun hb28 => ?_) (fun hb28 => ?_)
  · replace h := h.1 hb28
    refine c_seq fun K29 hK29 => ?_
    refine c_reg ?_
    refine s_assign H rfl rfl (lt_ rfl) ?_
    clear H a
    intro a H
    refine c_nil ?_
    refine hK29 _ _ ?_
    refine c_ret ?_
    exact e_ret1 H rfl rfl h
  · replace h := h.2 hb28
    refine c_skip ?_
    refine hK26 _ _ ?_
    refine c_seq fun K30 hK30 => ?_
    refine c_reg ?_
    refine s_move H rfl rfl (lt_ rfl) ?_
    clear H a
    intro a H
    refine s_move H rfl rfl (lt_ rfl) ?_
    clear H a
    intro a H
    refine s_blt H rfl (H.args (vs := [(Slc.v writter18)]) rfl) (lt_ rfl) (fun cs => b_lenS (z := writter18) sl_28) ?_
    clear H a
    intro a H
    refine s_bin H rfl rfl rfl r_add (lt_ rfl) ?_
    clear H a
    intro a H
    refine s_call H rfl body_15 (H.args (vs := [(.int .i64 cut6), (.int .i64 (wr .i64 ((writter18.l : Int) + 1)))]) rfl) (lt_ rfl) h ?_ (fun c w' h H => e_panic (P := PP) (fn := Tryd.f7) H h)
    clear H h a
    rintro _ w31 a ⟨mod32, rfl, h⟩ H
    refine s_assign H rfl rfl (lt_ rfl) ?_
    clear H a
    intro a H
    refine c_nil ?_
    refine hK30 _ _ ?_
    refine c_seq fun K33 hK33 => ?_
    refine c_reg ?_
    replace h := h.get
    obtain ⟨b34, w35, nb36, h⟩ := h
    refine s_bslc H rfl (by rw [H.parts (vs := []) rfl]; exact bs_28_0 w31) (lt_ rfl) ?_
    rw [← nb36.at_]
    clear H a
    intro a H
    refine nb36.go ?_
    refine s_move H rfl rfl (lt_ rfl) ?_
    clear H a
    intro a H
    refine s_move H rfl rfl (lt_ rfl) ?_
    clear H a
    intro a H
    obtain ⟨hi37, hi38, hi39, h⟩ := h
    refine s_slice (v := (Slc.v (writter18.cut 1 (Int.toNat (0)) (Int.toNat (mod32))))) H rfl rfl ⟨rfl, rfl⟩ ⟨rfl, rfl⟩ ⟨rfl, rfl⟩ (r_sliceSlc (lo := none) (hi := (some (.i64, mod32))) slc_28 rfl rfl hi37 hi38 hi39) (lt_ rfl) ?_
    clear H a
    intro a H
    obtain ⟨s40, w41, hq42, h⟩ := h
    refine s_blt H rfl (H.args (vs := [(Slc.v (Slc.mk (some (blk b34)) 0 0)), (Slc.v (writter18.cut 1 (Int.toNat (0)) (Int.toNat (mod32))))]) rfl) (lt_ rfl) (fun cs => b_app (z := s40) hq42) ?_
    clear H a hq42
    intro a H
    refine s_call H rfl body_16 (H.args (vs := [(Slc.v s40)]) rfl) (lt_ rfl) h ?_ (fun c w' h H => e_panic (P := PP) (fn := Tryd.f7) H h)
    clear H h a
    rintro _ w43 a ⟨Scanr_Config_N44, Scanr_Config_K45, Scanr_Config_Delta46, Scanr_Server47, Scanr48, Scanr49, Scanr50, Scanr51, Scanr52, rfl, h⟩ H
    refine s_move H rfl rfl (lt_ rfl) ?_
    clear H a
    intro a H
    refine s_ext H rfl rfl rfl (lt_ rfl) ?_
    clear H a
    intro a H
    refine s_ext H rfl rfl rfl (lt_ rfl) ?_
    clear H a
    intro a H
    refine s_ext H rfl rfl rfl (lt_ rfl) ?_
    clear H a
    intro a H
    refine s_ext H rfl rfl rfl (lt_ rfl) ?_
    clear H a
    intro a H
    refine s_ext H rfl rfl rfl (lt_ rfl) ?_
    clear H a
    intro a H
    refine s_ext H rfl rfl rfl (lt_ rfl) ?_
    clear H a
    intro a H
    replace h := h.get
    obtain ⟨b53, w54, nb55, h⟩ := h
    refine s_alloc H rfl zero_25 (lt_ rfl) ?_
    rw [← nb55.at_]
    clear H a
    intro a H
    refine nb55.go ?_
    refine s_stoN (l := [(.int .i64 Scanr_Config_N44), (.int .i64 Scanr_Config_K45), (.int .i64 Scanr_Config_Delta46), (.int .i64 Scanr_Server47)]) H rfl rfl rfl rfl agg_25 rfl rfl h ?_
    clear h H
    intro w56 h H
    refine s_assign H rfl rfl (lt_ rfl) ?_
    clear H a
    intro a H
    refine s_assign H rfl rfl (lt_ rfl) ?_
    clear H a
    intro a H
    refine s_assign H rfl rfl (lt_ rfl) ?_
    clear H a
    intro a H
    refine s_assign H rfl rfl (lt_ rfl) ?_
    clear H a
    intro a H
    refine s_assign H rfl rfl (lt_ rfl) ?_
    clear H a
    intro a H
    refine c_nil ?_
    refine hK33 _ _ ?_
    refine c_seq fun K57 hK57 => ?_
    refine c_seq fun K58 hK58 => ?_
    refine c_reg ?_
    refine s_move H rfl rfl (lt_ rfl) ?_
    clear H a
    intro a H
    refine s_move H rfl rfl (lt_ rfl) ?_
    clear H a
    intro a H
    obtain ⟨a59, hi60, hi61, hi62, h⟩ := h
    refine s_idxS (s := writter19) H rfl rfl rfl slc_50 hi60 hi61 hi62 (lt_ rfl) ?_
    clear H a
    intro a H
    obtain ⟨l63, hc64, h⟩ := h
    refine s_load (v := (.int .i64 l63)) H rfl rfl one_3 hc64 (lt_ rfl) ?_
    clear H a
    intro a H
    refine s_bin H rfl rfl rfl r_lss (lt_ rfl) ?_
    clear H a
    intro a H
    refine c_nil ?_
    refine hK58 _ _ ?_
    refine c_cond H rfl (fun hb65 => ?_) (fun hb65 => ?_)
    · replace h := h.1 hb65
      refine c_seq fun K66 hK66 => ?_
      refine c_reg ?_
      refine s_move H rfl rfl (lt_ rfl) ?_
      clear H a
      intro a H
      refine s_bin H rfl rfl rfl r_eql (lt_ rfl) ?_
      clear H a
      intro a H
      refine s_move H rfl rfl (lt_ rfl) ?_
      clear H a
      intro a H
      refine g_join (n := 172) [(59, (.bool ((decide (Scanr52 = 63)) && (decide (Scanr50 = 0))))), (13, (.pointer (some (blk b53)))), (14, (Slc.v Scanr48)), (15, (Slc.v Scanr49)), (17, (.pointer Scanr51))] (.succ (.succ (.succ (.zero _)))) ?_ ?_
      · intro hr68
        try clear h
        rcases Bool.eq_false_or_eq_true (decide (Scanr52 = 63)) with hg67 | hg67
        · replace H := H.ch (t := 56) (b := true) rfl hg67
          refine s_move H (wantG H rfl rfl) rfl (lt_ rfl) ?_
          clear H a
          intro a H
          refine s_bin H (wantG H rfl rfl) rfl rfl r_eql (lt_ rfl) ?_
          clear H a
          intro a H
          refine s_pickT H rfl rfl rfl (lt_ rfl) ?_
          clear H a
          intro a H
          exact hr68 _ (H.weaken ⟨by rw [hg67]; rfl, rfl, rfl, rfl, rfl, trivial⟩)
        · replace H := H.ch (t := 56) (b := false) rfl hg67
          refine s_skip H (wantN H rfl rfl rfl) rfl (lt_ rfl) ?_
          clear H a
          intro a H
          refine s_skip H (wantN H rfl rfl rfl) rfl (lt_ rfl) ?_
          clear H a
          intro a H
          refine s_pickF H rfl rfl rfl (lt_ rfl) ?_
          clear H a
          intro a H
          exact hr68 _ (H.weaken ⟨by rw [hg67]; rfl, rfl, rfl, rfl, rfl, trivial⟩)
      · clear H a
        intro a H
        refine s_move H rfl rfl (lt_ rfl) ?_
        clear H a
        intro a H
        refine g_join (n := 172) [(64, (.bool (((decide (Scanr52 = 63)) && (decide (Scanr50 = 0))) && (decide ((Scanr48.l : Int) = 0))))), (13, (.pointer (some (blk b53)))), (15, (Slc.v Scanr49)), (17, (.pointer Scanr51))] (.succ (.succ (.succ (.succ (.zero _))))) ?_ ?_
        · intro hr70
          try clear h
          rcases Bool.eq_false_or_eq_true ((decide (Scanr52 = 63)) && (decide (Scanr50 = 0))) with hg69 | hg69
          · replace H := H.ch (t := 60) (b := true) rfl hg69
            refine s_move H (wantG H rfl rfl) rfl (lt_ rfl) ?_
            clear H a
            intro a H
            refine s_blt H (wantG H rfl rfl) (H.args (vs := [(Slc.v Scanr48)]) rfl) (lt_ rfl) (fun cs => b_lenS (z := Scanr48) sl_26) ?_
            clear H a
            intro a H
            refine s_bin H (wantG H rfl rfl) rfl rfl r_eql (lt_ rfl) ?_
            clear H a
            intro a H
            refine s_pickT H rfl rfl rfl (lt_ rfl) ?_
            clear H a
            intro a H
            exact hr70 _ (H.weaken ⟨by rw [hg69]; rfl, rfl, rfl, rfl, trivial⟩)
          · replace H := H.ch (t := 60) (b := false) rfl hg69
            refine s_skip H (wantN H rfl rfl rfl) rfl (lt_ rfl) ?_
            clear H a
            intro a H
            refine s_skip H (wantN H rfl rfl rfl) rfl (lt_ rfl) ?_
            clear H a
            intro a H
            refine s_skip H (wantN H rfl rfl rfl) rfl (lt_ rfl) ?_
            clear H a
            intro a H
            refine s_pickF H rfl rfl rfl (lt_ rfl) ?_
            clear H a
            intro a H
            exact hr70 _ (H.weaken ⟨by rw [hg69]; rfl, rfl, rfl, rfl, trivial⟩)
        · clear H a
          intro a H
          refine s_move H rfl rfl (lt_ rfl) ?_
          clear H a
          intro a H
          refine g_join (n := 172) [(69, (.bool ((((decide (Scanr52 = 63)) && (decide (Scanr50 = 0))) && (decide ((Scanr48.l : Int) = 0))) && (decide ((Scanr49.l : Int) = 0))))), (13, (.pointer (some (blk b53)))), (17, (.pointer Scanr51))] (.succ (.succ (.succ (.succ (.zero _))))) ?_ ?_
          · intro hr72
            try clear h
            rcases Bool.eq_false_or_eq_true (((decide (Scanr52 = 63)) && (decide (Scanr50 = 0))) && (decide ((Scanr48.l : Int) = 0))) with hg71 | hg71
            · replace H := H.ch (t := 65) (b := true) rfl hg71
              refine s_move H (wantG H rfl rfl) rfl (lt_ rfl) ?_
              clear H a
              intro a H
              refine s_blt H (wantG H rfl rfl) (H.args (vs := [(Slc.v Scanr49)]) rfl) (lt_ rfl) (fun cs => b_lenS (z := Scanr49) sl_50) ?_
              clear H a
              intro a H
              refine s_bin H (wantG H rfl rfl) rfl rfl r_eql (lt_ rfl) ?_
              clear H a
              intro a H
              refine s_pickT H rfl rfl rfl (lt_ rfl) ?_
              clear H a
              intro a H
              exact hr72 _ (H.weaken ⟨by rw [hg71]; rfl, rfl, rfl, trivial⟩)
            · replace H := H.ch (t := 65) (b := false) rfl hg71
              refine s_skip H (wantN H rfl rfl rfl) rfl (lt_ rfl) ?_
              clear H a
              intro a H
              refine s_skip H (wantN H rfl rfl rfl) rfl (lt_ rfl) ?_
              clear H a
              intro a H
              refine s_skip H (wantN H rfl rfl rfl) rfl (lt_ rfl) ?_
              clear H a
              intro a H
              refine s_pickF H rfl rfl rfl (lt_ rfl) ?_
              clear H a
              intro a H
              exact hr72 _ (H.weaken ⟨by rw [hg71]; rfl, rfl, rfl, trivial⟩)
          · clear H a
            intro a H
            refine s_move H rfl rfl (lt_ rfl) ?_
            clear H a
            intro a H
            refine g_join (n := 172) [(73, (.bool (((((decide (Scanr52 = 63)) && (decide (Scanr50 = 0))) && (decide ((Scanr48.l : Int) = 0))) && (decide ((Scanr49.l : Int) = 0))) && Scanr51.isNone))), (13, (.pointer (some (blk b53))))] (.succ (.succ (.succ (.zero _)))) ?_ ?_
            · intro hr74
              try clear h
              rcases Bool.eq_false_or_eq_true ((((decide (Scanr52 = 63)) && (decide (Scanr50 = 0))) && (decide ((Scanr48.l : Int) = 0))) && (decide ((Scanr49.l : Int) = 0))) with hg73 | hg73
              · replace H := H.ch (t := 70) (b := true) rfl hg73
                refine s_move H (wantG H rfl rfl) rfl (lt_ rfl) ?_
                clear H a
                intro a H
                refine s_bin H (wantG H rfl rfl) rfl rfl (r_eqP0 ptr_32) (lt_ rfl) ?_
                clear H a
                intro a H
                refine s_pickT H rfl rfl rfl (lt_ rfl) ?_
                clear H a
                intro a H
                exact hr74 _ (H.weaken ⟨by rw [hg73]; rfl, rfl, trivial⟩)
              · replace H := H.ch (t := 70) (b := false) rfl hg73
                refine s_skip H (wantN H rfl rfl rfl) rfl (lt_ rfl) ?_
                clear H a
                intro a H
                refine s_skip H (wantN H rfl rfl rfl) rfl (lt_ rfl) ?_
                clear H a
                intro a H
                refine s_pickF H rfl rfl rfl (lt_ rfl) ?_
                clear H a
                intro a H
                exact hr74 _ (H.weaken ⟨by rw [hg73]; rfl, rfl, trivial⟩)
            · clear H a
              intro a H
              refine s_move H rfl rfl (lt_ rfl) ?_
              clear H a
              intro a H
              obtain ⟨x85, hy86, hn87, h⟩ := h
              refine g_join (n := 172) [(78, (.bool x85))] (.succ (.succ (.succ (.succ (.zero _))))) ?_ ?_
              · intro hr76
                try clear h
                rcases Bool.eq_false_or_eq_true (((((decide (Scanr52 = 63)) && (decide (Scanr50 = 0))) && (decide ((Scanr48.l : Int) = 0))) && (decide ((Scanr49.l : Int) = 0))) && Scanr51.isNone) with hg75 | hg75
                · replace H := H.ch (t := 74) (b := true) rfl hg75
                  replace h := hy86 hg75
                  obtain ⟨l_Config_N77, hc78, h⟩ := h
                  obtain ⟨l_Config_K79, hc80, h⟩ := h
                  obtain ⟨l_Config_Delta81, hc82, h⟩ := h
                  obtain ⟨l_Server83, hc84, h⟩ := h
                  refine s_loadN (l := [(.int .i64 l_Config_N77), (.int .i64 l_Config_K79), (.int .i64 l_Config_Delta81), (.int .i64 l_Server83)]) H (wantG H rfl rfl) rfl agg_25 rfl ⟨hc78, hc80, hc82, hc84, trivial⟩ (lt_ rfl) ?_
                  clear H a
                  intro a H
                  refine s_build H (wantG H rfl rfl) (by rw [H.parts (vs := []) rfl]; exact bd_25 w56) (lt_ rfl) ?_
                  clear H a
                  intro a H
                  refine s_bin H (wantG H rfl rfl) rfl rfl (r_eqst eqg_25 (eqst_25 0) rfl) (lt_ rfl) ?_
                  clear H a
                  intro a H
                  refine s_pickT H rfl rfl rfl (lt_ rfl) ?_
                  clear H a
                  intro a H
                  subst h
                  exact hr76 _ (H.weaken ⟨rfl, trivial⟩)
                · replace H := H.ch (t := 74) (b := false) rfl hg75
                  refine s_skip H (wantN H rfl rfl rfl) rfl (lt_ rfl) ?_
                  clear H a
                  intro a H
                  refine s_skip H (wantN H rfl rfl rfl) rfl (lt_ rfl) ?_
                  clear H a
                  intro a H
                  refine s_skip H (wantN H rfl rfl rfl) rfl (lt_ rfl) ?_
                  clear H a
                  intro a H
                  refine s_pickF H rfl rfl rfl (lt_ rfl) ?_
                  clear H a
                  intro a H
                  replace h := hn87 hg75
                  subst h
                  exact hr76 _ (H.weaken ⟨rfl, trivial⟩)
              · clear H a
                clear hy86 hn87
                intro a H
                refine s_assign H rfl rfl (lt_ rfl) ?_
                clear H a
                intro a H
                refine c_nil ?_
                refine hK66 _ _ ?_
                refine c_ret ?_
                exact e_ret1 H rfl rfl h
    · replace h := h.2 hb65
      refine c_skip ?_
      refine hK57 _ _ ?_
      refine c_seq fun K88 hK88 => ?_
      refine c_reg ?_
      refine s_assign H rfl rfl (lt_ rfl) ?_
      clear H a
      intro a H
      refine c_nil ?_
      refine hK88 _ _ ?_
      refine c_seq fun K89 hK89 => ?_
      obtain ⟨R91, h, hx258⟩ := h
      have hJ237 : ∀ (a : Act) (i90 : Int) (w92 : World), R91 i90 w92 → Has 172 [] a [(2, (.int .u8 b7)), (7, (.pointer (some (blk b22)))), (8, (Slc.v writter18)), (9, (Slc.v writter19)), (10, (Slc.v writter20)), (12, (.int .i64 mod32)), (13, (.pointer (some (blk b53)))), (14, (Slc.v Scanr48)), (15, (Slc.v Scanr49)), (16, (.int .i64 Scanr50)), (17, (.pointer Scanr51)), (18, (.int .i64 Scanr52)), (19, (.int .i64 i90))] → K89 a w92 := by
        clear h
        intro a i90 w92 h H
        replace h := hx258 i90 w92 h
        refine hK89 _ _ ?_
        refine c_seq fun K93 hK93 => ?_
        refine c_reg ?_
        refine s_assign H rfl rfl (lt_ rfl) ?_
        clear H a
        intro a H
        refine c_nil ?_
        refine hK93 _ _ ?_
        refine c_seq fun K94 hK94 => ?_
        obtain ⟨R96, h, hx236⟩ := h
        have hJ227 : ∀ (a : Act) (want95 : Int) (w97 : World), R96 want95 w97 → Has 172 [] a [(2, (.int .u8 b7)), (7, (.pointer (some (blk b22)))), (8, (Slc.v writter18)), (9, (Slc.v writter19)), (10, (Slc.v writter20)), (13, (.pointer (some (blk b53)))), (14, (Slc.v Scanr48)), (15, (Slc.v Scanr49)), (16, (.int .i64 Scanr50)), (17, (.pointer Scanr51)), (18, (.int .i64 Scanr52)), (19, (.int .i64 i90)), (20, (.int .i64 want95))] → K94 a w97 := by
          clear h
          intro a want95 w97 h H
          replace h := hx236 want95 w97 h
          refine hK94 _ _ ?_
          refine c_seq fun K98 hK98 => ?_
          refine c_seq fun K99 hK99 => ?_
          refine c_reg ?_
          refine s_move H rfl rfl (lt_ rfl) ?_
          clear H a
          intro a H
          refine s_bin H rfl rfl rfl r_neq (lt_ rfl) ?_
          clear H a
          intro a H
          refine s_move H rfl rfl (lt_ rfl) ?_
          clear H a
          intro a H
          obtain ⟨x118, hy119, hn120, h⟩ := h
          refine g_join (n := 172) [(107, (.bool x118)), (2, (.int .u8 b7)), (8, (Slc.v writter18)), (9, (Slc.v writter19)), (10, (Slc.v writter20)), (14, (Slc.v Scanr48)), (15, (Slc.v Scanr49)), (16, (.int .i64 Scanr50)), (17, (.pointer Scanr51)), (19, (.int .i64 i90)), (20, (.int .i64 want95))] (.succ (.succ (.succ (.succ (.zero _))))) ?_ ?_
          · intro hr101
            try clear h
            rcases Bool.eq_false_or_eq_true (decide (Scanr52 ≠ 0)) with hg100 | hg100
            · replace H := H.ch (t := 103) (b := true) rfl hg100
              refine s_skip H (wantN H rfl rfl rfl) rfl (lt_ rfl) ?_
              clear H a
              intro a H
              refine s_skip H (wantN H rfl rfl rfl) rfl (lt_ rfl) ?_
              clear H a
              intro a H
              refine s_skip H (wantN H rfl rfl rfl) rfl (lt_ rfl) ?_
              clear H a
              intro a H
              refine s_pickT H rfl rfl rfl (lt_ rfl) ?_
              clear H a
              intro a H
              replace h := hn120 hg100
              subst h
              exact hr101 _ (H.weaken ⟨rfl, rfl, rfl, rfl, rfl, rfl, rfl, rfl, rfl, rfl, rfl, trivial⟩)
            · replace H := H.ch (t := 103) (b := false) rfl hg100
              replace h := hy119 hg100
              obtain ⟨l_Config_N102, hc103, h⟩ := h
              obtain ⟨l_Config_K104, hc105, h⟩ := h
              obtain ⟨l_Config_Delta106, hc107, h⟩ := h
              obtain ⟨l_Server108, hc109, h⟩ := h
              refine s_loadN (l := [(.int .i64 l_Config_N102), (.int .i64 l_Config_K104), (.int .i64 l_Config_Delta106), (.int .i64 l_Server108)]) H (wantG H rfl rfl) rfl agg_25 rfl ⟨hc103, hc105, hc107, hc109, trivial⟩ (lt_ rfl) ?_
              clear H a
              intro a H
              obtain ⟨l_Config_N110, hc111, h⟩ := h
              obtain ⟨l_Config_K112, hc113, h⟩ := h
              obtain ⟨l_Config_Delta114, hc115, h⟩ := h
              obtain ⟨l_Server116, hc117, h⟩ := h
              refine s_loadN (l := [(.int .i64 l_Config_N110), (.int .i64 l_Config_K112), (.int .i64 l_Config_Delta114), (.int .i64 l_Server116)]) H (wantG H rfl rfl) rfl agg_25 rfl ⟨hc111, hc113, hc115, hc117, trivial⟩ (lt_ rfl) ?_
              clear H a
              intro a H
              refine s_bin H (wantG H rfl rfl) rfl rfl (r_nest eqg_25 (eqst_25 0) rfl) (lt_ rfl) ?_
              clear H a
              intro a H
              refine s_pickF H rfl rfl rfl (lt_ rfl) ?_
              clear H a
              intro a H
              subst h
              exact hr101 _ (H.weaken ⟨rfl, rfl, rfl, rfl, rfl, rfl, rfl, rfl, rfl, rfl, rfl, trivial⟩)
          · clear H a
            clear hy119 hn120
            intro a H
            refine s_move H rfl rfl (lt_ rfl) ?_
            clear H a
            intro a H
            refine g_join (n := 172) [(112, (.bool (x118 || (decide (Scanr50 ≠ want95))))), (2, (.int .u8 b7)), (8, (Slc.v writter18)), (9, (Slc.v writter19)), (10, (Slc.v writter20)), (14, (Slc.v Scanr48)), (15, (Slc.v Scanr49)), (17, (.pointer Scanr51)), (19, (.int .i64 i90))] (.succ (.succ (.succ (.succ (.zero _))))) ?_ ?_
            · intro hr122
              try clear h
              rcases Bool.eq_false_or_eq_true x118 with hg121 | hg121
              · replace H := H.ch (t := 108) (b := true) rfl hg121
                refine s_skip H (wantN H rfl rfl rfl) rfl (lt_ rfl) ?_
                clear H a
                intro a H
                refine s_skip H (wantN H rfl rfl rfl) rfl (lt_ rfl) ?_
                clear H a
                intro a H
                refine s_skip H (wantN H rfl rfl rfl) rfl (lt_ rfl) ?_
                clear H a
                intro a H
                refine s_pickT H rfl rfl rfl (lt_ rfl) ?_
                clear H a
                intro a H
                exact hr122 _ (H.weaken ⟨by rw [hg121]; rfl, rfl, rfl, rfl, rfl, rfl, rfl, rfl, rfl, trivial⟩)
              · replace H := H.ch (t := 108) (b := false) rfl hg121
                refine s_move H (wantG H rfl rfl) rfl (lt_ rfl) ?_
                clear H a
                intro a H
                refine s_move H (wantG H rfl rfl) rfl (lt_ rfl) ?_
                clear H a
                intro a H
                refine s_bin H (wantG H rfl rfl) rfl rfl r_neq (lt_ rfl) ?_
                clear H a
                intro a H
                refine s_pickF H rfl rfl rfl (lt_ rfl) ?_
                clear H a
                intro a H
                exact hr122 _ (H.weaken ⟨by rw [hg121]; rfl, rfl, rfl, rfl, rfl, rfl, rfl, rfl, rfl, trivial⟩)
            · clear H a
              intro a H
              refine s_move H rfl rfl (lt_ rfl) ?_
              clear H a
              intro a H
              obtain ⟨R125, h, hx226⟩ := h
              refine g_joinW (n := 172) R125 (fun x126 => [(120, (.bool x126)), (2, (.int .u8 b7)), (8, (Slc.v writter18)), (9, (Slc.v writter19)), (10, (Slc.v writter20)), (15, (Slc.v Scanr49)), (17, (.pointer Scanr51)), (19, (.int .i64 i90))]) (.succ (.succ (.succ (.succ (.succ (.succ (.succ (.zero _)))))))) ?_ ?_
              · intro hr124
                clear hx226
                rcases Bool.eq_false_or_eq_true (x118 || (decide (Scanr50 ≠ want95))) with hg123 | hg123
                · replace H := H.ch (t := 113) (b := true) rfl hg123
                  replace h := h.2 hg123
                  refine s_skip H (wantN H rfl rfl rfl) rfl (lt_ rfl) ?_
                  clear H a
                  intro a H
                  refine s_skip H (wantN H rfl rfl rfl) rfl (lt_ rfl) ?_
                  clear H a
                  intro a H
                  refine s_skip H (wantN H rfl rfl rfl) rfl (lt_ rfl) ?_
                  clear H a
                  intro a H
                  refine s_skip H (wantN H rfl rfl rfl) rfl (lt_ rfl) ?_
                  clear H a
                  intro a H
                  refine s_skip H (wantN H rfl rfl rfl) rfl (lt_ rfl) ?_
                  clear H a
                  intro a H
                  refine s_skip H (wantN H rfl rfl rfl) rfl (lt_ rfl) ?_
                  clear H a
                  intro a H
                  refine s_pickT H rfl rfl rfl (lt_ rfl) ?_
                  clear H a
                  intro a H
                  exact hr124 _ _ _ h (H.weaken ⟨rfl, rfl, rfl, rfl, rfl, rfl, rfl, rfl, trivial⟩)
                · replace H := H.ch (t := 113) (b := false) rfl hg123
                  replace h := h.1 hg123
                  refine s_move H (wantG H rfl rfl) rfl (lt_ rfl) ?_
                  clear H a
                  intro a H
                  refine s_move H (wantG H rfl rfl) rfl (lt_ rfl) ?_
                  clear H a
                  intro a H
                  refine s_move H (wantG H rfl rfl) rfl (lt_ rfl) ?_
                  clear H a
                  intro a H
                  obtain ⟨hi128, hi129, hi130, h⟩ := h
                  refine s_slice (v := (Slc.v (writter20.cut 7 (Int.toNat (0)) (Int.toNat (i90))))) H (wantG H rfl rfl) rfl ⟨rfl, rfl⟩ ⟨rfl, rfl⟩ ⟨rfl, rfl⟩ (r_sliceSlc (lo := none) (hi := (some (.i64, i90))) slc_26 rfl rfl hi128 hi129 hi130) (lt_ rfl) ?_
                  clear H a
                  intro a H
                  refine s_call H (wantG H rfl rfl) body_17 (H.args (vs := [(Slc.v Scanr48), (Slc.v (writter20.cut 7 (Int.toNat (0)) (Int.toNat (i90))))]) rfl) (lt_ rfl) h ?_ (fun c w' h H => e_panic (P := PP) (fn := Tryd.f7) H h)
                  clear H h a
                  rintro _ w131 a ⟨update132, rfl, h⟩ H
                  refine s_un H (wantG H rfl rfl) rfl r_not (lt_ rfl) ?_
                  clear H a
                  intro a H
                  refine s_pickF H rfl rfl rfl (lt_ rfl) ?_
                  clear H a
                  intro a H
                  exact hr124 _ _ _ h (H.weaken ⟨rfl, rfl, rfl, rfl, rfl, rfl, rfl, rfl, trivial⟩)
              · clear H a h
                intro a x126 w127 h H
                replace h := hx226 x126 w127 h
                clear hx226
                refine s_move H rfl rfl (lt_ rfl) ?_
                clear H a
                intro a H
                obtain ⟨R139, h, hx225⟩ := h
                refine g_joinW (n := 172) R139 (fun x140 => [(129, (.bool x140)), (2, (.int .u8 b7)), (8, (Slc.v writter18)), (9, (Slc.v writter19)), (10, (Slc.v writter20)), (17, (.pointer Scanr51)), (19, (.int .i64 i90))]) (.succ (.succ (.succ (.succ (.succ (.succ (.succ (.succ (.zero _))))))))) ?_ ?_
                · intro hr138
                  clear hx225
                  rcases Bool.eq_false_or_eq_true x126 with hg137 | hg137
                  · replace H := H.ch (t := 121) (b := true) rfl hg137
                    replace h := h.2 hg137
                    refine s_skip H (wantN H rfl rfl rfl) rfl (lt_ rfl) ?_
                    clear H a
                    intro a H
                    refine s_skip H (wantN H rfl rfl rfl) rfl (lt_ rfl) ?_
                    clear H a
                    intro a H
                    refine s_skip H (wantN H rfl rfl rfl) rfl (lt_ rfl) ?_
                    clear H a
                    intro a H
                    refine s_skip H (wantN H rfl rfl rfl) rfl (lt_ rfl) ?_
                    clear H a
                    intro a H
                    refine s_skip H (wantN H rfl rfl rfl) rfl (lt_ rfl) ?_
                    clear H a
                    intro a H
                    refine s_skip H (wantN H rfl rfl rfl) rfl (lt_ rfl) ?_
                    clear H a
                    intro a H
                    refine s_skip H (wantN H rfl rfl rfl) rfl (lt_ rfl) ?_
                    clear H a
                    intro a H
                    refine s_pickT H rfl rfl rfl (lt_ rfl) ?_
                    clear H a
                    intro a H
                    exact hr138 _ _ _ h (H.weaken ⟨rfl, rfl, rfl, rfl, rfl, rfl, rfl, trivial⟩)
                  · replace H := H.ch (t := 121) (b := false) rfl hg137
                    replace h := h.1 hg137
                    refine s_move H (wantG H rfl rfl) rfl (lt_ rfl) ?_
                    clear H a
                    intro a H
                    refine s_move H (wantG H rfl rfl) rfl (lt_ rfl) ?_
                    clear H a
                    intro a H
                    refine s_move H (wantG H rfl rfl) rfl (lt_ rfl) ?_
                    clear H a
                    intro a H
                    refine s_bin H (wantG H rfl rfl) rfl rfl r_add (lt_ rfl) ?_
                    clear H a
                    intro a H
                    obtain ⟨hi142, hi143, hi144, h⟩ := h
                    refine s_slice (v := (Slc.v (writter19.cut 1 (Int.toNat (0)) (Int.toNat (wr .i64 (i90 + 1)))))) H (wantG H rfl rfl) rfl ⟨rfl, rfl⟩ ⟨rfl, rfl⟩ ⟨rfl, rfl⟩ (r_sliceSlc (lo := none) (hi := (some (.i64, wr .i64 (i90 + 1)))) slc_50 rfl rfl hi142 hi143 hi144) (lt_ rfl) ?_
                    clear H a
                    intro a H
                    refine s_call H (wantG H rfl rfl) body_18 (H.args (vs := [(Slc.v Scanr49), (Slc.v (writter19.cut 1 (Int.toNat (0)) (Int.toNat (wr .i64 (i90 + 1)))))]) rfl) (lt_ rfl) h ?_ (fun c w' h H => e_panic (P := PP) (fn := Tryd.f7) H h)
                    clear H h a
                    rintro _ w145 a ⟨ints146, rfl, h⟩ H
                    refine s_un H (wantG H rfl rfl) rfl r_not (lt_ rfl) ?_
                    clear H a
                    intro a H
                    refine s_pickF H rfl rfl rfl (lt_ rfl) ?_
                    clear H a
                    intro a H
                    exact hr138 _ _ _ h (H.weaken ⟨rfl, rfl, rfl, rfl, rfl, rfl, rfl, trivial⟩)
                · clear H a h
                  intro a x140 w141 h H
                  replace h := hx225 x140 w141 h
                  clear hx225
                  refine s_move H rfl rfl (lt_ rfl) ?_
                  clear H a
                  intro a H
                  refine g_join (n := 172) [(133, (.bool (x140 || Scanr51.isNone))), (2, (.int .u8 b7)), (8, (Slc.v writter18)), (9, (Slc.v writter19)), (10, (Slc.v writter20)), (17, (.pointer Scanr51)), (19, (.int .i64 i90))] (.succ (.succ (.succ (.zero _)))) ?_ ?_
                  · intro hr152
                    try clear h
                    rcases Bool.eq_false_or_eq_true x140 with hg151 | hg151
                    · replace H := H.ch (t := 130) (b := true) rfl hg151
                      refine s_skip H (wantN H rfl rfl rfl) rfl (lt_ rfl) ?_
                      clear H a
                      intro a H
                      refine s_skip H (wantN H rfl rfl rfl) rfl (lt_ rfl) ?_
                      clear H a
                      intro a H
                      refine s_pickT H rfl rfl rfl (lt_ rfl) ?_
                      clear H a
                      intro a H
                      exact hr152 _ (H.weaken ⟨by rw [hg151]; rfl, rfl, rfl, rfl, rfl, rfl, rfl, trivial⟩)
                    · replace H := H.ch (t := 130) (b := false) rfl hg151
                      refine s_move H (wantG H rfl rfl) rfl (lt_ rfl) ?_
                      clear H a
                      intro a H
                      refine s_bin H (wantG H rfl rfl) rfl rfl (r_eqP0 ptr_32) (lt_ rfl) ?_
                      clear H a
                      intro a H
                      refine s_pickF H rfl rfl rfl (lt_ rfl) ?_
                      clear H a
                      intro a H
                      exact hr152 _ (H.weaken ⟨by rw [hg151]; rfl, rfl, rfl, rfl, rfl, rfl, rfl, trivial⟩)
                  · clear H a
                    intro a H
                    refine s_move H rfl rfl (lt_ rfl) ?_
                    clear H a
                    intro a H
                    obtain ⟨R155, h, hx224⟩ := h
                    refine g_joinW (n := 172) R155 (fun x156 => [(139, (.bool x156)), (2, (.int .u8 b7)), (8, (Slc.v writter18)), (9, (Slc.v writter19)), (10, (Slc.v writter20))]) (.succ (.succ (.succ (.succ (.succ (.zero _)))))) ?_ ?_
                    · intro hr154
                      clear hx224
                      rcases Bool.eq_false_or_eq_true (x140 || Scanr51.isNone) with hg153 | hg153
                      · replace H := H.ch (t := 134) (b := true) rfl hg153
                        replace h := h.2 hg153
                        refine s_skip H (wantN H rfl rfl rfl) rfl (lt_ rfl) ?_
                        clear H a
                        intro a H
                        refine s_skip H (wantN H rfl rfl rfl) rfl (lt_ rfl) ?_
                        clear H a
                        intro a H
                        refine s_skip H (wantN H rfl rfl rfl) rfl (lt_ rfl) ?_
                        clear H a
                        intro a H
                        refine s_skip H (wantN H rfl rfl rfl) rfl (lt_ rfl) ?_
                        clear H a
                        intro a H
                        refine s_pickT H rfl rfl rfl (lt_ rfl) ?_
                        clear H a
                        intro a H
                        exact hr154 _ _ _ h (H.weaken ⟨rfl, rfl, rfl, rfl, rfl, trivial⟩)
                      · replace H := H.ch (t := 134) (b := false) rfl hg153
                        replace h := h.1 hg153
                        refine s_move H (wantG H rfl rfl) rfl (lt_ rfl) ?_
                        clear H a
                        intro a H
                        refine s_call H (wantG H rfl rfl) body_20 (H.args (vs := [(.pointer Scanr51)]) rfl) (lt_ rfl) h ?_ (fun c w' h H => e_panic (P := PP) (fn := Tryd.f7) H h)
                        clear H h a
                        rintro _ w158 a ⟨Count159, rfl, h⟩ H
                        refine s_move H (wantG H rfl rfl) rfl (lt_ rfl) ?_
                        clear H a
                        intro a H
                        refine s_bin H (wantG H rfl rfl) rfl rfl r_neq (lt_ rfl) ?_
                        clear H a
                        intro a H
                        refine s_pickF H rfl rfl rfl (lt_ rfl) ?_
                        clear H a
                        intro a H
                        exact hr154 _ _ _ h (H.weaken ⟨rfl, rfl, rfl, rfl, rfl, trivial⟩)
                    · clear H a h
                      intro a x156 w157 h H
                      replace h := hx224 x156 w157 h
                      clear hx224
                      refine c_nil ?_
                      refine hK99 _ _ ?_
                      refine c_cond H rfl (fun hb164 => ?_) (fun hb164 => ?_)
                      · replace h := h.1 hb164
                        refine c_seq fun K165 hK165 => ?_
                        refine c_reg ?_
                        refine s_assign H rfl rfl (lt_ rfl) ?_
                        clear H a
                        intro a H
                        refine c_nil ?_
                        refine hK165 _ _ ?_
                        refine c_ret ?_
                        exact e_ret1 H rfl rfl h
                      · replace h := h.2 hb164
                        refine c_skip ?_
                        refine hK98 _ _ ?_
                        refine c_seq fun K166 hK166 => ?_
                        refine c_seq fun K167 hK167 => ?_
                        refine c_reg ?_
                        refine s_move H rfl rfl (lt_ rfl) ?_
                        clear H a
                        intro a H
                        refine s_bin H rfl rfl rfl r_eql (lt_ rfl) ?_
                        clear H a
                        intro a H
                        refine c_nil ?_
                        refine hK167 _ _ ?_
                        refine c_cond H rfl (fun hb168 => ?_) (fun hb168 => ?_)
                        · replace h := h.1 hb168
                          refine c_seq fun K169 hK169 => ?_
                          refine c_reg ?_
                          refine s_assign H rfl rfl (lt_ rfl) ?_
                          clear H a
                          intro a H
                          refine c_nil ?_
                          refine hK169 _ _ ?_
                          refine c_ret ?_
                          exact e_ret1 H rfl rfl h
                        · replace h := h.2 hb168
                          refine c_skip ?_
                          refine hK166 _ _ ?_
                          refine c_seq fun K170 hK170 => ?_
                          refine c_reg ?_
                          replace h := h.get
                          obtain ⟨b171, w172, nb173, h⟩ := h
                          refine s_bslc H rfl (by rw [H.parts (vs := []) rfl]; exact bs_28_0 w157) (lt_ rfl) ?_
                          rw [← nb173.at_]
                          clear H a
                          intro a H
                          refine nb173.go ?_
                          refine s_move H rfl rfl (lt_ rfl) ?_
                          clear H a
                          intro a H
                          obtain ⟨s174, w175, hq176, h⟩ := h
                          refine s_blt H rfl (H.args (vs := [(Slc.v (Slc.mk (some (blk b171)) 0 0)), (Slc.v writter18)]) rfl) (lt_ rfl) (fun cs => b_app (z := s174) hq176) ?_
                          clear H a hq176
                          intro a H
                          refine s_move H rfl rfl (lt_ rfl) ?_
                          clear H a
                          intro a H
                          replace h := h.get
                          obtain ⟨b177, w178, nb179, h⟩ := h
                          refine s_bslc H rfl (by rw [H.parts (vs := [(0, (.int .u8 b7))]) rfl]; exact bs_28_1_iu80 w175 b7) (lt_ rfl) ?_
                          rw [← nb179.at_]
                          clear H a
                          intro a H
                          refine nb179.go ?_
                          obtain ⟨s180, w181, hq182, h⟩ := h
                          refine s_blt H rfl (H.args (vs := [(Slc.v s174), (Slc.v (Slc.mk (some (blk b177)) 1 1))]) rfl) (lt_ rfl) (fun cs => b_app (z := s180) hq182) ?_
                          clear H a hq182
                          intro a H
                          refine s_call H rfl body_16 (H.args (vs := [(Slc.v s180)]) rfl) (lt_ rfl) h ?_ (fun c w' h H => e_panic (P := PP) (fn := Tryd.f7) H h)
                          clear H h a
                          rintro _ w183 a ⟨Scanr_Config_N184, Scanr_Config_K185, Scanr_Config_Delta186, Scanr_Server187, Scanr188, Scanr189, Scanr190, Scanr191, Scanr192, rfl, h⟩ H
                          refine s_move H rfl rfl (lt_ rfl) ?_
                          clear H a
                          intro a H
                          refine s_ext H rfl rfl rfl (lt_ rfl) ?_
                          clear H a
                          intro a H
                          refine s_ext H rfl rfl rfl (lt_ rfl) ?_
                          clear H a
                          intro a H
                          refine s_ext H rfl rfl rfl (lt_ rfl) ?_
                          clear H a
                          intro a H
                          refine s_ext H rfl rfl rfl (lt_ rfl) ?_
                          clear H a
                          intro a H
                          refine s_ext H rfl rfl rfl (lt_ rfl) ?_
                          clear H a
                          intro a H
                          refine s_ext H rfl rfl rfl (lt_ rfl) ?_
                          clear H a
                          intro a H
                          refine s_assign H rfl rfl (lt_ rfl) ?_
                          clear H a
                          intro a H
                          refine s_assign H rfl rfl (lt_ rfl) ?_
                          clear H a
                          intro a H
                          refine s_assign H rfl rfl (lt_ rfl) ?_
                          clear H a
                          intro a H
                          refine s_assign H rfl rfl (lt_ rfl) ?_
                          clear H a
                          intro a H
                          refine c_nil ?_
                          refine hK170 _ _ ?_
                          refine c_seq fun K193 hK193 => ?_
                          refine c_reg ?_
                          refine s_move H rfl rfl (lt_ rfl) ?_
                          clear H a
                          intro a H
                          refine s_bin H rfl rfl rfl r_eql (lt_ rfl) ?_
                          clear H a
                          intro a H
                          refine s_move H rfl rfl (lt_ rfl) ?_
                          clear H a
                          intro a H
                          refine g_join (n := 172) [(161, (.bool ((decide (Scanr192 = 0)) && (decide (Scanr190 = 32))))), (9, (Slc.v writter19)), (10, (Slc.v writter20)), (14, (Slc.v Scanr188)), (15, (Slc.v Scanr189))] (.succ (.succ (.succ (.zero _)))) ?_ ?_
                          · intro hr195
                            try clear h
                            rcases Bool.eq_false_or_eq_true (decide (Scanr192 = 0)) with hg194 | hg194
                            · replace H := H.ch (t := 158) (b := true) rfl hg194
                              refine s_move H (wantG H rfl rfl) rfl (lt_ rfl) ?_
                              clear H a
                              intro a H
                              refine s_bin H (wantG H rfl rfl) rfl rfl r_eql (lt_ rfl) ?_
                              clear H a
                              intro a H
                              refine s_pickT H rfl rfl rfl (lt_ rfl) ?_
                              clear H a
                              intro a H
                              exact hr195 _ (H.weaken ⟨by rw [hg194]; rfl, rfl, rfl, rfl, rfl, trivial⟩)
                            · replace H := H.ch (t := 158) (b := false) rfl hg194
                              refine s_skip H (wantN H rfl rfl rfl) rfl (lt_ rfl) ?_
                              clear H a
                              intro a H
                              refine s_skip H (wantN H rfl rfl rfl) rfl (lt_ rfl) ?_
                              clear H a
                              intro a H
                              refine s_pickF H rfl rfl rfl (lt_ rfl) ?_
                              clear H a
                              intro a H
                              exact hr195 _ (H.weaken ⟨by rw [hg194]; rfl, rfl, rfl, rfl, rfl, trivial⟩)
                          · clear H a
                            intro a H
                            refine s_move H rfl rfl (lt_ rfl) ?_
                            clear H a
                            intro a H
                            obtain ⟨R198, h, hx219⟩ := h
                            refine g_joinW (n := 172) R198 (fun x199 => [(166, (.bool x199)), (9, (Slc.v writter19)), (15, (Slc.v Scanr189))]) (.succ (.succ (.succ (.succ (.zero _))))) ?_ ?_
                            · intro hr197
                              clear hx219
                              rcases Bool.eq_false_or_eq_true ((decide (Scanr192 = 0)) && (decide (Scanr190 = 32))) with hg196 | hg196
                              · replace H := H.ch (t := 162) (b := true) rfl hg196
                                replace h := h.1 hg196
                                refine s_move H (wantG H rfl rfl) rfl (lt_ rfl) ?_
                                clear H a
                                intro a H
                                refine s_move H (wantG H rfl rfl) rfl (lt_ rfl) ?_
                                clear H a
                                intro a H
                                refine s_call H (wantG H rfl rfl) body_17 (H.args (vs := [(Slc.v Scanr188), (Slc.v writter20)]) rfl) (lt_ rfl) h ?_ (fun c w' h H => e_panic (P := PP) (fn := Tryd.f7) H h)
                                clear H h a
                                rintro _ w201 a ⟨update202, rfl, h⟩ H
                                refine s_pickT H rfl rfl rfl (lt_ rfl) ?_
                                clear H a
                                intro a H
                                exact hr197 _ _ _ h (H.weaken ⟨rfl, rfl, rfl, trivial⟩)
                              · replace H := H.ch (t := 162) (b := false) rfl hg196
                                replace h := h.2 hg196
                                refine s_skip H (wantN H rfl rfl rfl) rfl (lt_ rfl) ?_
                                clear H a
                                intro a H
                                refine s_skip H (wantN H rfl rfl rfl) rfl (lt_ rfl) ?_
                                clear H a
                                intro a H
                                refine s_skip H (wantN H rfl rfl rfl) rfl (lt_ rfl) ?_
                                clear H a
                                intro a H
                                refine s_pickF H rfl rfl rfl (lt_ rfl) ?_
                                clear H a
                                intro a H
                                exact hr197 _ _ _ h (H.weaken ⟨rfl, rfl, rfl, trivial⟩)
                            · clear H a h
                              intro a x199 w200 h H
                              replace h := hx219 x199 w200 h
                              clear hx219
                              refine s_move H rfl rfl (lt_ rfl) ?_
                              clear H a
                              intro a H
                              obtain ⟨R209, h, hx218⟩ := h
                              refine g_joinW (n := 172) R209 (fun x210 => [(171, (.bool x210))]) (.succ (.succ (.succ (.succ (.zero _))))) ?_ ?_
                              · intro hr208
                                clear hx218
                                rcases Bool.eq_false_or_eq_true x199 with hg207 | hg207
                                · replace H := H.ch (t := 167) (b := true) rfl hg207
                                  replace h := h.1 hg207
                                  refine s_move H (wantG H rfl rfl) rfl (lt_ rfl) ?_
                                  clear H a
                                  intro a H
                                  refine s_move H (wantG H rfl rfl) rfl (lt_ rfl) ?_
                                  clear H a
                                  intro a H
                                  refine s_call H (wantG H rfl rfl) body_18 (H.args (vs := [(Slc.v Scanr189), (Slc.v writter19)]) rfl) (lt_ rfl) h ?_ (fun c w' h H => e_panic (P := PP) (fn := Tryd.f7) H h)
                                  clear H h a
                                  rintro _ w212 a ⟨ints213, rfl, h⟩ H
                                  refine s_pickT H rfl rfl rfl (lt_ rfl) ?_
                                  clear H a
                                  intro a H
                                  exact hr208 _ _ _ h (H.weaken ⟨rfl, trivial⟩)
                                · replace H := H.ch (t := 167) (b := false) rfl hg207
                                  replace h := h.2 hg207
                                  refine s_skip H (wantN H rfl rfl rfl) rfl (lt_ rfl) ?_
                                  clear H a
                                  intro a H
                                  refine s_skip H (wantN H rfl rfl rfl) rfl (lt_ rfl) ?_
                                  clear H a
                                  intro a H
                                  refine s_skip H (wantN H rfl rfl rfl) rfl (lt_ rfl) ?_
                                  clear H a
                                  intro a H
                                  refine s_pickF H rfl rfl rfl (lt_ rfl) ?_
                                  clear H a
                                  intro a H
                                  exact hr208 _ _ _ h (H.weaken ⟨rfl, trivial⟩)
                              · clear H a h
                                intro a x210 w211 h H
                                replace h := hx218 x210 w211 h
                                clear hx218
                                refine s_assign H rfl rfl (lt_ rfl) ?_
                                clear H a
                                intro a H
                                refine c_nil ?_
                                refine hK193 _ _ ?_
                                refine c_ret ?_
                                exact e_ret1 H rfl rfl h
        clear hx236
        refine c_seq fun K228 hK228 => ?_
        refine c_reg ?_
        refine s_move H rfl rfl (lt_ rfl) ?_
        clear H a
        intro a H
        refine s_move H rfl rfl (lt_ rfl) ?_
        clear H a
        intro a H
        obtain ⟨a229, hi230, hi231, hi232, h⟩ := h
        refine s_idxS (s := writter19) H rfl rfl rfl slc_50 hi230 hi231 hi232 (lt_ rfl) ?_
        clear H a
        intro a H
        obtain ⟨l233, hc234, h⟩ := h
        refine s_load (v := (.int .i64 l233)) H rfl rfl one_3 hc234 (lt_ rfl) ?_
        clear H a
        intro a H
        refine s_move H rfl rfl (lt_ rfl) ?_
        clear H a
        intro a H
        refine s_bin H rfl rfl rfl r_eql (lt_ rfl) ?_
        clear H a
        intro a H
        refine c_nil ?_
        refine hK228 _ _ ?_
        refine c_cond H rfl (fun hb235 => ?_) (fun hb235 => ?_)
        · replace h := h.1 hb235
          refine c_reg ?_
          refine s_assign H rfl rfl (lt_ rfl) ?_
          clear H a
          intro a H
          refine c_nil ?_
          exact hJ227 _ _ _ h (H.weaken ⟨rfl, rfl, rfl, rfl, rfl, rfl, rfl, rfl, rfl, rfl, rfl, rfl, rfl, trivial⟩)
        · replace h := h.2 hb235
          refine c_skip ?_
          exact hJ227 _ _ _ h (H.weaken ⟨rfl, rfl, rfl, rfl, rfl, rfl, rfl, rfl, rfl, rfl, rfl, rfl, rfl, trivial⟩)
      clear hx258
      refine c_block ?_
      obtain ⟨I240, mu241, h0256, hl257⟩ := h
      refine c_loop (σ := Int) (fun z w => I240 z w) (fun z w => mu241 z w) (fun z => [(2, (.int .u8 b7)), (7, (.pointer (some (blk b22)))), (8, (Slc.v writter18)), (9, (Slc.v writter19)), (10, (Slc.v writter20)), (12, (.int .i64 mod32)), (13, (.pointer (some (blk b53)))), (14, (Slc.v Scanr48)), (15, (Slc.v Scanr49)), (16, (.int .i64 Scanr50)), (17, (.pointer Scanr51)), (18, (.int .i64 Scanr52)), (19, (.int .i64 z))]) 0 h0256 (H.weaken ⟨rfl, rfl, rfl, rfl, rfl, rfl, rfl, rfl, rfl, rfl, rfl, rfl, rfl, trivial⟩) ?_
      clear H h0256
      rintro i238 a w239 h H
      replace h := hl257 i238 w239 h
      clear hl257
      replace H : Has 172 [] a [(2, (.int .u8 b7)), (7, (.pointer (some (blk b22)))), (8, (Slc.v writter18)), (9, (Slc.v writter19)), (10, (Slc.v writter20)), (12, (.int .i64 mod32)), (13, (.pointer (some (blk b53)))), (14, (Slc.v Scanr48)), (15, (Slc.v Scanr49)), (16, (.int .i64 Scanr50)), (17, (.pointer Scanr51)), (18, (.int .i64 Scanr52)), (19, (.int .i64 i238))] := H
      refine c_seq fun K242 hK242 => ?_
      refine c_seq fun K243 hK243 => ?_
      refine c_reg ?_
      refine s_move H rfl rfl (lt_ rfl) ?_
      clear H a
      intro a H
      refine s_bin H rfl rfl rfl r_add (lt_ rfl) ?_
      clear H a
      intro a H
      refine s_move H rfl rfl (lt_ rfl) ?_
      clear H a
      intro a H
      refine s_blt H rfl (H.args (vs := [(Slc.v writter19)]) rfl) (lt_ rfl) (fun cs => b_lenS (z := writter19) sl_50) ?_
      clear H a
      intro a H
      refine s_bin H rfl rfl rfl r_lss (lt_ rfl) ?_
      clear H a
      intro a H
      refine s_move H rfl rfl (lt_ rfl) ?_
      clear H a
      intro a H
      obtain ⟨x252, hy253, hn254, h⟩ := h
      refine g_join (n := 172) [(92, (.bool x252)), (2, (.int .u8 b7)), (7, (.pointer (some (blk b22)))), (8, (Slc.v writter18)), (9, (Slc.v writter19)), (10, (Slc.v writter20)), (12, (.int .i64 mod32)), (13, (.pointer (some (blk b53)))), (14, (Slc.v Scanr48)), (15, (Slc.v Scanr49)), (16, (.int .i64 Scanr50)), (17, (.pointer Scanr51)), (18, (.int .i64 Scanr52)), (19, (.int .i64 i238))] (.succ (.succ (.succ (.succ (.succ (.succ (.succ (.succ (.zero _))))))))) ?_ ?_
      · intro hr245
        try clear h
        rcases Bool.eq_false_or_eq_true (decide ((wr .i64 (i238 + 1)) < (writter19.l : Int))) with hg244 | hg244
        · replace H := H.ch (t := 84) (b := true) rfl hg244
          replace h := hy253 hg244
          refine s_move H (wantG H rfl rfl) rfl (lt_ rfl) ?_
          clear H a
          intro a H
          refine s_move H (wantG H rfl rfl) rfl (lt_ rfl) ?_
          clear H a
          intro a H
          refine s_bin H (wantG H rfl rfl) rfl rfl r_add (lt_ rfl) ?_
          clear H a
          intro a H
          obtain ⟨a246, hi247, hi248, hi249, h⟩ := h
          refine s_idxS (s := writter19) H (wantG H rfl rfl) rfl rfl slc_50 hi247 hi248 hi249 (lt_ rfl) ?_
          clear H a
          intro a H
          obtain ⟨l250, hc251, h⟩ := h
          refine s_load (v := (.int .i64 l250)) H (wantG H rfl rfl) rfl one_3 hc251 (lt_ rfl) ?_
          clear H a
          intro a H
          refine s_move H (wantG H rfl rfl) rfl (lt_ rfl) ?_
          clear H a
          intro a H
          refine s_bin H (wantG H rfl rfl) rfl rfl r_leq (lt_ rfl) ?_
          clear H a
          intro a H
          refine s_pickT H rfl rfl rfl (lt_ rfl) ?_
          clear H a
          intro a H
          subst h
          exact hr245 _ (H.weaken ⟨rfl, rfl, rfl, rfl, rfl, rfl, rfl, rfl, rfl, rfl, rfl, rfl, rfl, rfl, trivial⟩)
        · replace H := H.ch (t := 84) (b := false) rfl hg244
          refine s_skip H (wantN H rfl rfl rfl) rfl (lt_ rfl) ?_
          clear H a
          intro a H
          refine s_skip H (wantN H rfl rfl rfl) rfl (lt_ rfl) ?_
          clear H a
          intro a H
          refine s_skip H (wantN H rfl rfl rfl) rfl (lt_ rfl) ?_
          clear H a
          intro a H
          refine s_skip H (wantN H rfl rfl rfl) rfl (lt_ rfl) ?_
          clear H a
          intro a H
          refine s_skip H (wantN H rfl rfl rfl) rfl (lt_ rfl) ?_
          clear H a
          intro a H
          refine s_skip H (wantN H rfl rfl rfl) rfl (lt_ rfl) ?_
          clear H a
          intro a H
          refine s_skip H (wantN H rfl rfl rfl) rfl (lt_ rfl) ?_
          clear H a
          intro a H
          refine s_pickF H rfl rfl rfl (lt_ rfl) ?_
          clear H a
          intro a H
          replace h := hn254 hg244
          subst h
          exact hr245 _ (H.weaken ⟨rfl, rfl, rfl, rfl, rfl, rfl, rfl, rfl, rfl, rfl, rfl, rfl, rfl, rfl, trivial⟩)
      · clear H a
        clear hy253 hn254
        intro a H
        refine c_nil ?_
        refine hK243 _ _ ?_
        refine c_cond H rfl (fun hb255 => ?_) (fun hb255 => ?_)
        · replace h := h.1 hb255
          refine c_skip ?_
          refine hK242 _ _ ?_
          refine c_block ?_
          refine c_reg ?_
          refine s_move H rfl rfl (lt_ rfl) ?_
          clear H a
          intro a H
          refine s_bin H rfl rfl rfl r_add (lt_ rfl) ?_
          clear H a
          intro a H
          refine s_assign H rfl rfl (lt_ rfl) ?_
          clear H a
          intro a H
          refine c_nil ?_
          refine Exists.intro (wr .i64 (i238 + 1)) ⟨h.1, h.2, H.weaken ⟨rfl, rfl, rfl, rfl, rfl, rfl, rfl, rfl, rfl, rfl, rfl, rfl, rfl, trivial⟩⟩
        · replace h := h.2 hb255
          refine c_exit ?_
          simp only [Exit.then, Exit.inBlock, ↓reduceIte, Nat.reduceEqDiff]
          exact hJ237 _ _ _ h (H.weaken ⟨rfl, rfl, rfl, rfl, rfl, rfl, rfl, rfl, rfl, rfl, rfl, rfl, rfl, trivial⟩)

set_option maxRecDepth 100000 in
set_option maxHeartbeats 4000000 in
theorem sim_sherdref11_New (h_Config_N1 : Int) (h_Config_K2 : Int) (h_Config_Delta3 : Int) (h_Server4 : Int) (w : World) (Q : Ending → World → Prop) (h : vc_sherdref11_New h_Config_N1 h_Config_K2 h_Config_Delta3 h_Server4 w Q) : Calls PP F_sherdref11_New #[(.agg #[(.int .i64 h_Config_N1), (.int .i64 h_Config_K2), (.int .i64 h_Config_Delta3), (.int .i64 h_Server4)])] w Q := by
  unfold vc_sherdref11_New at h
  refine enter (n := 24) (l := [(.agg #[(.int .i64 h_Config_N1), (.int .i64 h_Config_K2), (.int .i64 h_Config_Delta3), (.int .i64 h_Server4)])]) Tryd.func8 rfl rfl (Nat.le_of_ble_eq_true rfl) fun a H => ?_
  replace H : Has 24 [] a [(0, (.agg #[(.int .i64 h_Config_N1), (.int .i64 h_Config_K2), (.int .i64 h_Config_Delta3), (.int .i64 h_Server4)]))] := H
  refine c_seq fun K5 hK5 => ?_
  refine c_reg ?_
  replace h := h.get
  obtain ⟨b6, w7, nb8, h⟩ := h
  refine s_box H rfl rfl (lt_ rfl) ?_
  rw [← nb8.at_]
  clear H a
  intro a H
  refine nb8.go ?_
  refine s_assign H rfl rfl (lt_ rfl) ?_
  clear H a
  intro a H
  refine s_assign H rfl rfl (lt_ rfl) ?_
  clear H a
  intro a H
  refine s_assign H rfl rfl (lt_ rfl) ?_
  clear H a
  intro a H
  refine c_nil ?_
  refine hK5 _ _ ?_
  refine c_seq fun K9 hK9 => ?_
  refine c_reg ?_
  refine s_loadN (l := [(.int .i64 h_Config_N1), (.int .i64 h_Config_K2), (.int .i64 h_Config_Delta3), (.int .i64 h_Server4)]) H rfl rfl agg_25 rfl ⟨(nb8.cell (i := 0) rfl), (nb8.cell (i := 1) rfl), (nb8.cell (i := 2) rfl), (nb8.cell (i := 3) rfl), trivial⟩ (lt_ rfl) ?_
  clear H a
  intro a H
  refine s_call H rfl body_21 (H.args (vs := [(.agg #[(.int .i64 h_Config_N1), (.int .i64 h_Config_K2), (.int .i64 h_Config_Delta3), (.int .i64 h_Server4)])]) rfl) (lt_ rfl) h ?_ (fun c w' h H => e_panic (P := PP) (fn := Tryd.f8) H h)
  clear H h a
  rintro _ w10 a ⟨CheckH11, rfl, h⟩ H
  refine s_assign H rfl rfl (lt_ rfl) ?_
  clear H a
  intro a H
  refine c_nil ?_
  refine hK9 _ _ ?_
  refine c_seq fun K12 hK12 => ?_
  refine c_seq fun K13 hK13 => ?_
  refine c_reg ?_
  refine s_move H rfl rfl (lt_ rfl) ?_
  clear H a
  intro a H
  refine s_bin H rfl rfl rfl r_neq (lt_ rfl) ?_
  clear H a
  intro a H
  refine c_nil ?_
  refine hK13 _ _ ?_
  refine c_cond H rfl (fun hb14 => ?_) (fun hb14 => ?_)
  · replace h := h.1 hb14
    refine c_seq fun K15 hK15 => ?_
    refine c_reg ?_
    refine s_move H rfl rfl (lt_ rfl) ?_
    clear H a
    intro a H
    refine s_assign H rfl rfl (lt_ rfl) ?_
    clear H a
    intro a H
    refine s_assign H rfl rfl (lt_ rfl) ?_
    clear H a
    intro a H
    refine s_assign H rfl rfl (lt_ rfl) ?_
    clear H a
    intro a H
    refine c_nil ?_
    refine hK15 _ _ ?_
    refine c_ret ?_
    exact e_ret3 H rfl rfl rfl rfl h
  · replace h := h.2 hb14
    refine c_skip ?_
    refine hK12 _ _ ?_
    refine c_seq fun K16 hK16 => ?_
    refine c_reg ?_
    obtain ⟨l_Config_N17, hc18, h⟩ := h
    obtain ⟨l_Config_K19, hc20, h⟩ := h
    obtain ⟨l_Config_Delta21, hc22, h⟩ := h
    obtain ⟨l_Server23, hc24, h⟩ := h
    refine s_loadN (l := [(.int .i64 l_Config_N17), (.int .i64 l_Config_K19), (.int .i64 l_Config_Delta21), (.int .i64 l_Server23)]) H rfl rfl agg_25 rfl ⟨hc18, hc20, hc22, hc24, trivial⟩ (lt_ rfl) ?_
    clear H a
    intro a H
    refine s_call H rfl body_22 (H.args (vs := [(.agg #[(.int .i64 l_Config_N17), (.int .i64 l_Config_K19), (.int .i64 l_Config_Delta21), (.int .i64 l_Server23)])]) rfl) (lt_ rfl) h ?_ (fun c w' h H => e_panic (P := PP) (fn := Tryd.f8) H h)
    clear H h a
    rintro _ w25 a ⟨headBy26, rfl, h⟩ H
    refine s_assign H rfl rfl (lt_ rfl) ?_
    clear H a
    intro a H
    refine c_nil ?_
    refine hK16 _ _ ?_
    refine c_seq fun K27 hK27 => ?_
    refine c_reg ?_
    replace h := h.get
    obtain ⟨b28, w29, nb30, h⟩ := h
    refine s_bslc H rfl (by rw [H.parts (vs := []) rfl]; exact bs_28_0 w25) (lt_ rfl) ?_
    rw [← nb30.at_]
    clear H a
    intro a H
    refine nb30.go ?_
    refine s_move H rfl rfl (lt_ rfl) ?_
    clear H a
    intro a H
    refine s_move H rfl rfl (lt_ rfl) ?_
    clear H a
    intro a H
    refine s_blt H rfl (H.args (vs := [(Slc.v headBy26)]) rfl) (lt_ rfl) (fun cs => b_lenS (z := headBy26) sl_28) ?_
    clear H a
    intro a H
    refine s_bin H rfl rfl rfl r_sub (lt_ rfl) ?_
    clear H a
    intro a H
    obtain ⟨hi31, hi32, hi33, h⟩ := h
    refine s_slice (v := (Slc.v (headBy26.cut 1 (Int.toNat (wr .i64 ((headBy26.l : Int) - 4))) (Int.toNat ((headBy26.l : Int)))))) H rfl rfl ⟨rfl, rfl⟩ ⟨rfl, rfl⟩ ⟨rfl, rfl⟩ (r_sliceSlc (lo := (some (.i64, wr .i64 ((headBy26.l : Int) - 4)))) (hi := none) slc_28 rfl rfl hi31 hi32 hi33) (lt_ rfl) ?_
    clear H a
    intro a H
    obtain ⟨s34, w35, hq36, h⟩ := h
    refine s_blt H rfl (H.args (vs := [(Slc.v (Slc.mk (some (blk b28)) 0 0)), (Slc.v (headBy26.cut 1 (Int.toNat (wr .i64 ((headBy26.l : Int) - 4))) (Int.toNat ((headBy26.l : Int)))))]) rfl) (lt_ rfl) (fun cs => b_app (z := s34) hq36) ?_
    clear H a hq36
    intro a H
    refine s_build H rfl (by rw [H.parts (vs := [(0, (Slc.v s34))]) rfl]; exact bd_68_s0 w35 s34) (lt_ rfl) ?_
    clear H a
    intro a H
    replace h := h.get
    obtain ⟨b37, w38, nb39, h⟩ := h
    refine s_box H rfl rfl (lt_ rfl) ?_
    rw [← nb39.at_]
    clear H a
    intro a H
    refine nb39.go ?_
    refine s_move H rfl rfl (lt_ rfl) ?_
    clear H a
    intro a H
    refine s_assign H rfl rfl (lt_ rfl) ?_
    clear H a
    intro a H
    refine s_assign H rfl rfl (lt_ rfl) ?_
    clear H a
    intro a H
    refine s_assign H rfl rfl (lt_ rfl) ?_
    clear H a
    intro a H
    refine c_nil ?_
    refine hK27 _ _ ?_
    refine c_ret ?_
    exact e_ret3 H rfl rfl rfl rfl h

set_option maxRecDepth 100000 in
set_option maxHeartbeats 4000000 in
theorem sim_record_New (h_Config_N1 : Int) (h_Config_K2 : Int) (h_Config_Delta3 : Int) (h_Server4 : Int) (w : World) (Q : Ending → World → Prop) (h : vc_record_New h_Config_N1 h_Config_K2 h_Config_Delta3 h_Server4 w Q) : Calls PP F_record_New #[(.agg #[(.int .i64 h_Config_N1), (.int .i64 h_Config_K2), (.int .i64 h_Config_Delta3), (.int .i64 h_Server4)])] w Q := by
  unfold vc_record_New at h
  refine enter (n := 23) (l := [(.agg #[(.int .i64 h_Config_N1), (.int .i64 h_Config_K2), (.int .i64 h_Config_Delta3), (.int .i64 h_Server4)])]) Tryd.func9 rfl rfl (Nat.le_of_ble_eq_true rfl) fun a H => ?_
  replace H : Has 23 [] a [(0, (.agg #[(.int .i64 h_Config_N1), (.int .i64 h_Config_K2), (.int .i64 h_Config_Delta3), (.int .i64 h_Server4)]))] := H
  refine c_seq fun K5 hK5 => ?_
  refine c_reg ?_
  replace h := h.get
  obtain ⟨b6, w7, nb8, h⟩ := h
  refine s_box H rfl rfl (lt_ rfl) ?_
  rw [← nb8.at_]
  clear H a
  intro a H
  refine nb8.go ?_
  refine s_assign H rfl rfl (lt_ rfl) ?_
  clear H a
  intro a H
  refine s_assign H rfl rfl (lt_ rfl) ?_
  clear H a
  intro a H
  refine s_assign H rfl rfl (lt_ rfl) ?_
  clear H a
  intro a H
  refine c_nil ?_
  refine hK5 _ _ ?_
  refine c_seq fun K9 hK9 => ?_
  refine c_seq fun K10 hK10 => ?_
  refine c_reg ?_
  refine s_loadN (l := [(.int .i64 h_Config_N1), (.int .i64 h_Config_K2), (.int .i64 h_Config_Delta3), (.int .i64 h_Server4)]) H rfl rfl agg_25 rfl ⟨(nb8.cell (i := 0) rfl), (nb8.cell (i := 1) rfl), (nb8.cell (i := 2) rfl), (nb8.cell (i := 3) rfl), trivial⟩ (lt_ rfl) ?_
  clear H a
  intro a H
  refine s_call H rfl body_23 (H.args (vs := [(.agg #[(.int .i64 h_Config_N1), (.int .i64 h_Config_K2), (.int .i64 h_Config_Delta3), (.int .i64 h_Server4)])]) rfl) (lt_ rfl) h ?_ (fun c w' h H => e_panic (P := PP) (fn := Tryd.f9) H h)
  clear H h a
  rintro _ w11 a ⟨mayHea12, rfl, h⟩ H
  refine s_assign H rfl rfl (lt_ rfl) ?_
  clear H a
  intro a H
  refine c_nil ?_
  refine hK10 _ _ ?_
  refine c_seq fun K13 hK13 => ?_
  refine c_reg ?_
  refine s_move H rfl rfl (lt_ rfl) ?_
  clear H a
  intro a H
  refine s_bin H rfl rfl rfl r_neq (lt_ rfl) ?_
  clear H a
  intro a H
  refine c_nil ?_
  refine hK13 _ _ ?_
  refine c_cond H rfl (fun hb14 => ?_) (fun hb14 => ?_)
  · replace h := h.1 hb14
    refine c_seq fun K15 hK15 => ?_
    refine c_reg ?_
    refine s_move H rfl rfl (lt_ rfl) ?_
    clear H a
    intro a H
    refine s_assign H rfl rfl (lt_ rfl) ?_
    clear H a
    intro a H
    refine s_assign H rfl rfl (lt_ rfl) ?_
    clear H a
    intro a H
    refine s_assign H rfl rfl (lt_ rfl) ?_
    clear H a
    intro a H
    refine c_nil ?_
    refine hK15 _ _ ?_
    refine c_ret ?_
    exact e_ret3 H rfl rfl rfl rfl h
  · replace h := h.2 hb14
    refine c_skip ?_
    refine hK9 _ _ ?_
    refine c_seq fun K16 hK16 => ?_
    refine c_reg ?_
    obtain ⟨l_Config_N17, hc18, h⟩ := h
    obtain ⟨l_Config_K19, hc20, h⟩ := h
    obtain ⟨l_Config_Delta21, hc22, h⟩ := h
    obtain ⟨l_Server23, hc24, h⟩ := h
    refine s_loadN (l := [(.int .i64 l_Config_N17), (.int .i64 l_Config_K19), (.int .i64 l_Config_Delta21), (.int .i64 l_Server23)]) H rfl rfl agg_25 rfl ⟨hc18, hc20, hc22, hc24, trivial⟩ (lt_ rfl) ?_
    clear H a
    intro a H
    refine s_call H rfl body_24 (H.args (vs := [(.agg #[(.int .i64 l_Config_N17), (.int .i64 l_Config_K19), (.int .i64 l_Config_Delta21), (.int .i64 l_Server23)])]) rfl) (lt_ rfl) h ?_ (fun c w' h H => e_panic (P := PP) (fn := Tryd.f9) H h)
    clear H h a
    rintro _ w25 a ⟨headOf26, rfl, h⟩ H
    refine s_assign H rfl rfl (lt_ rfl) ?_
    clear H a
    intro a H
    refine c_nil ?_
    refine hK16 _ _ ?_
    refine c_seq fun K27 hK27 => ?_
    refine c_reg ?_
    refine s_move H rfl rfl (lt_ rfl) ?_
    clear H a
    intro a H
    refine s_move H rfl rfl (lt_ rfl) ?_
    clear H a
    intro a H
    refine s_blt H rfl (H.args (vs := [(Slc.v headOf26)]) rfl) (lt_ rfl) (fun cs => b_lenS (z := headOf26) sl_28) ?_
    clear H a
    intro a H
    refine s_bin H rfl rfl rfl r_sub (lt_ rfl) ?_
    clear H a
    intro a H
    obtain ⟨hi28, hi29, hi30, h⟩ := h
    refine s_slice (v := (Slc.v (headOf26.cut 1 (Int.toNat (wr .i64 ((headOf26.l : Int) - 4))) (Int.toNat ((headOf26.l : Int)))))) H rfl rfl ⟨rfl, rfl⟩ ⟨rfl, rfl⟩ ⟨rfl, rfl⟩ (r_sliceSlc (lo := (some (.i64, wr .i64 ((headOf26.l : Int) - 4)))) (hi := none) slc_28 rfl rfl hi28 hi29 hi30) (lt_ rfl) ?_
    clear H a
    intro a H
    refine s_call H rfl body_25 (H.args (vs := [(Slc.v (headOf26.cut 1 (Int.toNat (wr .i64 ((headOf26.l : Int) - 4))) (Int.toNat ((headOf26.l : Int)))))]) rfl) (lt_ rfl) h ?_ (fun c w' h H => e_panic (P := PP) (fn := Tryd.f9) H h)
    clear H h a
    rintro _ w31 a ⟨Clone32, rfl, h⟩ H
    refine s_build H rfl (by rw [H.parts (vs := [(0, (Slc.v Clone32))]) rfl]; exact bd_71_s0 w31 Clone32) (lt_ rfl) ?_
    clear H a
    intro a H
    replace h := h.get
    obtain ⟨b33, w34, nb35, h⟩ := h
    refine s_box H rfl rfl (lt_ rfl) ?_
    rw [← nb35.at_]
    clear H a
    intro a H
    refine nb35.go ?_
    refine s_move H rfl rfl (lt_ rfl) ?_
    clear H a
    intro a H
    refine s_assign H rfl rfl (lt_ rfl) ?_
    clear H a
    intro a H
    refine s_assign H rfl rfl (lt_ rfl) ?_
    clear H a
    intro a H
    refine s_assign H rfl rfl (lt_ rfl) ?_
    clear H a
    intro a H
    refine c_nil ?_
    refine hK27 _ _ ?_
    refine c_ret ?_
    exact e_ret3 H rfl rfl rfl rfl h

set_option maxRecDepth 100000 in
set_option maxHeartbeats 4000000 in
theorem sim_sherdlaw11_same (a1 : Slc) (b2 : Slc) (w : World) (Q : Ending → World → Prop) (h : vc_sherdlaw11_same a1 b2 w Q) : Calls PP F_sherdlaw11_same #[(Slc.v a1), (Slc.v b2)] w Q := by
  unfold vc_sherdlaw11_same at h
  refine enter (n := 10) (l := [(Slc.v a1), (Slc.v b2)]) Tryd.func10 rfl rfl (Nat.le_of_ble_eq_true rfl) fun a H => ?_
  replace H : Has 10 [] a [(0, (Slc.v a1)), (1, (Slc.v b2))] := H
  refine c_seq fun K3 hK3 => ?_
  refine c_reg ?_
  refine s_assign H rfl rfl (lt_ rfl) ?_
  clear H a
  intro a H
  refine c_nil ?_
  refine hK3 _ _ ?_
  refine c_seq fun K4 hK4 => ?_
  refine c_reg ?_
  refine s_move H rfl rfl (lt_ rfl) ?_
  clear H a
  intro a H
  obtain ⟨s5, hq6, h⟩ := h
  refine s_cv H rfl rfl hq6 (lt_ rfl) ?_
  clear H a hq6
  intro a H
  refine s_move H rfl rfl (lt_ rfl) ?_
  clear H a
  intro a H
  obtain ⟨s7, hq8, h⟩ := h
  refine s_cv H rfl rfl hq8 (lt_ rfl) ?_
  clear H a hq8
  intro a H
  refine s_bin H rfl rfl rfl r_eqlS (lt_ rfl) ?_
  clear H a
  intro a H
  refine s_assign H rfl rfl (lt_ rfl) ?_
  clear H a
  intro a H
  refine c_nil ?_
  refine hK4 _ _ ?_
  refine c_ret ?_
  exact e_ret1 H rfl rfl h
end Go.Proofs.YtnhgnfflihoaiaaDoor
