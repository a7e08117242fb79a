/-
  The conditions give the machine's calls; printed by vcgen.py.
-/
import Derived.Test.YtnhgnfflihoaiaaDoorRecVc
namespace Go.Proofs.YtnhgnfflihoaiaaDoor
open Go Go.Vc
set_option maxRecDepth 100000 in
set_option maxHeartbeats 4000000 in
theorem sim_record_readBody (b1 : Slc) (w : World) (Q : Ending → World → Prop) (h : vc_record_readBody b1 w Q) : Calls PP F_record_readBody #[(Slc.v b1)] w Q := by
  unfold vc_record_readBody at h
  refine enter (n := 58) (l := [(Slc.v b1)]) Tryd.func64 rfl rfl (Nat.le_of_ble_eq_true rfl) fun a H => ?_
  replace H : Has 58 [] a [(0, (Slc.v b1))] := H
  refine c_seq fun K2 hK2 => ?_
  refine c_reg ?_
  replace h := h.get
  obtain ⟨b3, w4, nb5, h⟩ := h
  refine s_alloc H rfl zero_45 (lt_ rfl) ?_
  rw [← nb5.at_]
  clear H a
  intro a H
  refine nb5.go ?_
  refine c_nil ?_
  refine hK2 _ _ ?_
  refine c_seq fun K6 hK6 => ?_
  refine c_reg ?_
  refine s_move H rfl rfl (lt_ rfl) ?_
  clear H a
  intro a H
  refine s_call H rfl body_57 (H.args (vs := [(Slc.v b1)]) rfl) (lt_ rfl) h ?_ (fun c w' h H => e_panic (P := PP) (fn := Tryd.f64) H h)
  clear H h a
  rintro _ w7 a ⟨NewRea8, rfl, h⟩ H
  refine s_assign H rfl rfl (lt_ rfl) ?_
  clear H a
  intro a H
  refine c_nil ?_
  refine hK6 _ _ ?_
  refine c_seq fun K9 hK9 => ?_
  refine c_reg ?_
  refine s_move H rfl rfl (lt_ rfl) ?_
  clear H a
  intro a H
  refine s_call H rfl body_58 (H.args (vs := [(.pointer NewRea8)]) rfl) (lt_ rfl) h ?_ (fun c w' h H => e_panic (P := PP) (fn := Tryd.f64) H h)
  clear H h a
  rintro _ w10 a ⟨Byte11, rfl, h⟩ H
  refine s_cv H rfl rfl (r_cvI some_5 int_3) (lt_ rfl) ?_
  clear H a
  intro a H
  refine s_move H rfl rfl (lt_ rfl) ?_
  clear H a
  intro a H
  refine s_call H rfl body_84 (H.args (vs := [(.pointer NewRea8), (.int .i64 64)]) rfl) (lt_ rfl) h ?_ (fun c w' h H => e_panic (P := PP) (fn := Tryd.f64) H h)
  clear H h a
  rintro _ w12 a ⟨Text13, rfl, h⟩ H
  refine s_build H rfl (by rw [H.parts (vs := [(0, (.int .i64 (wr .i64 Byte11))), (1, (.string Text13))]) rfl]; exact bd_45_ii640_s1 w12 (wr .i64 Byte11) Text13) (lt_ rfl) ?_
  clear H a
  intro a H
  replace h := h.get
  obtain ⟨b14, w15, nb16, h⟩ := h
  refine s_alloc H rfl zero_45 (lt_ rfl) ?_
  rw [← nb16.at_]
  clear H a
  intro a H
  refine nb16.go ?_
  refine s_stoN (l := [(.int .i64 (wr .i64 Byte11)), (.string Text13), (.int .i64 0), (.int .i64 0), (.bool false), (.bool false), (Slc.v Slc.nil)]) H rfl rfl rfl rfl agg_45 rfl rfl h ?_
  clear h H
  intro w17 h H
  refine c_nil ?_
  refine hK9 _ _ ?_
  refine c_seq fun K18 hK18 => ?_
  refine c_reg ?_
  refine s_move H rfl rfl (lt_ rfl) ?_
  clear H a
  intro a H
  refine s_call H rfl body_59 (H.args (vs := [(.pointer NewRea8), (.int .i64 4611686018427387903)]) rfl) (lt_ rfl) h ?_ (fun c w' h H => e_panic (P := PP) (fn := Tryd.f64) H h)
  clear H h a
  rintro _ w19 a ⟨Uint20, rfl, h⟩ H
  refine s_fld H rfl rfl fld_45_2 (lt_ rfl) ?_
  clear H a
  intro a H
  refine s_fld H rfl rfl fld_43_0 (lt_ rfl) ?_
  clear H a
  intro a H
  refine s_fld H rfl rfl fld_41_0 (lt_ rfl) ?_
  clear H a
  intro a H
  obtain ⟨hs22, hf23, h⟩ := h
  refine s_sto (p := (((blk b14).add 2).add 0).add 0) (v := (.int .i64 Uint20)) H rfl rfl rfl rfl one_2 rfl hs22 hf23 ?_
  clear H
  intro H
  generalize hww21 : World.setCell w19 ((((blk b14).add 2).add 0).add 0) (.int .i64 Uint20) = w21 at h ⊢
  have w21S : SetAt w19 ((((blk b14).add 2).add 0).add 0) (.int .i64 Uint20) w21 := ⟨hww21.symm⟩
  clear hww21 hs22 hf23
  refine c_nil ?_
  refine hK18 _ _ ?_
  refine c_seq fun K24 hK24 => ?_
  refine c_reg ?_
  refine s_move H rfl rfl (lt_ rfl) ?_
  clear H a
  intro a H
  refine s_call H rfl body_59 (H.args (vs := [(.pointer NewRea8), (.int .i64 65535)]) rfl) (lt_ rfl) h ?_ (fun c w' h H => e_panic (P := PP) (fn := Tryd.f64) H h)
  clear H h a
  rintro _ w25 a ⟨Uint26, rfl, h⟩ H
  refine s_fld H rfl rfl fld_45_2 (lt_ rfl) ?_
  clear H a
  intro a H
  refine s_fld H rfl rfl fld_43_0 (lt_ rfl) ?_
  clear H a
  intro a H
  refine s_fld H rfl rfl fld_41_1 (lt_ rfl) ?_
  clear H a
  intro a H
  obtain ⟨hs28, hf29, h⟩ := h
  refine s_sto (p := (((blk b14).add 2).add 0).add 1) (v := (.int .i64 Uint26)) H rfl rfl rfl rfl one_3 rfl hs28 hf29 ?_
  clear H
  intro H
  generalize hww27 : World.setCell w25 ((((blk b14).add 2).add 0).add 1) (.int .i64 Uint26) = w27 at h ⊢
  have w27S : SetAt w25 ((((blk b14).add 2).add 0).add 1) (.int .i64 Uint26) w27 := ⟨hww27.symm⟩
  clear hww27 hs28 hf29
  refine c_nil ?_
  refine hK24 _ _ ?_
  refine c_seq fun K30 hK30 => ?_
  refine c_reg ?_
  refine s_fld H rfl rfl fld_45_0 (lt_ rfl) ?_
  clear H a
  intro a H
  obtain ⟨l31, hc32, h⟩ := h
  refine s_load (v := (.int .i64 l31)) H rfl rfl one_3 hc32 (lt_ rfl) ?_
  clear H a
  intro a H
  refine s_bin H rfl rfl rfl r_eql (lt_ rfl) ?_
  clear H a
  intro a H
  refine s_assign H rfl rfl (lt_ rfl) ?_
  clear H a
  intro a H
  refine c_nil ?_
  refine hK30 _ _ ?_
  refine c_seq fun K33 hK33 => ?_
  obtain ⟨R35, h, hx154⟩ := h
  have hJ127 : ∀ (a : Act) (has34 : Bool) (w36 : World), R35 has34 w36 → Has 58 [] a [(2, (.pointer (some (blk b3)))), (3, (.pointer NewRea8)), (4, (.pointer (some (blk b14)))), (5, (.bool has34))] → K33 a w36 := by
    clear h
    intro a has34 w36 h H
    replace h := hx154 has34 w36 h
    refine hK33 _ _ ?_
    refine c_seq fun K37 hK37 => ?_
    obtain ⟨R38, h, hx126⟩ := h
    have hJ114 : ∀ (a : Act) (w39 : World), R38 w39 → Has 58 [] a [(2, (.pointer (some (blk b3)))), (3, (.pointer NewRea8)), (4, (.pointer (some (blk b14))))] → K37 a w39 := by
      clear h
      intro a w39 h H
      replace h := hx126 w39 h
      refine hK37 _ _ ?_
      refine c_seq fun K40 hK40 => ?_
      refine c_reg ?_
      refine s_move H rfl rfl (lt_ rfl) ?_
      clear H a
      intro a H
      refine s_call H rfl body_87 (H.args (vs := [(.pointer NewRea8)]) rfl) (lt_ rfl) h ?_ (fun c w' h H => e_panic (P := PP) (fn := Tryd.f64) H h)
      clear H h a
      rintro _ w41 a ⟨rfl, h⟩ H
      refine c_nil ?_
      refine hK40 _ _ ?_
      refine c_seq fun K42 hK42 => ?_
      refine c_reg ?_
      refine s_move H rfl rfl (lt_ rfl) ?_
      clear H a
      intro a H
      refine s_call H rfl body_61 (H.args (vs := [(.pointer NewRea8)]) rfl) (lt_ rfl) h ?_ (fun c w' h H => e_panic (P := PP) (fn := Tryd.f64) H h)
      clear H h a
      rintro _ w43 a ⟨Err44, rfl, h⟩ H
      refine s_bin H rfl rfl rfl r_eql (lt_ rfl) ?_
      clear H a
      intro a H
      refine s_move H rfl rfl (lt_ rfl) ?_
      clear H a
      intro a H
      obtain ⟨R47, h, hx105⟩ := h
      refine g_joinW (n := 58) R47 (fun x48 => [(55, (.bool x48)), (2, (.pointer (some (blk b3)))), (4, (.pointer (some (blk b14))))]) (.succ (.succ (.succ (.succ (.zero _))))) ?_ ?_
      · intro hr46
        clear hx105
        rcases Bool.eq_false_or_eq_true (decide (Err44 = 0)) with hg45 | hg45
        · replace H := H.ch (t := 51) (b := true) rfl hg45
          replace h := h.1 hg45
          obtain ⟨l_Kind50, hc51, h⟩ := h
          obtain ⟨l_Key52, hc53, h⟩ := h
          obtain ⟨l_Entry_Tag_Count54, hc55, h⟩ := h
          obtain ⟨l_Entry_Tag_Client56, hc57, h⟩ := h
          obtain ⟨l_Entry_Fin58, hc59, h⟩ := h
          obtain ⟨l_Entry_Has60, hc61, h⟩ := h
          obtain ⟨l_Entry_Data62, hc63, h⟩ := h
          refine s_loadN (l := [(.int .i64 l_Kind50), (.string l_Key52), (.int .i64 l_Entry_Tag_Count54), (.int .i64 l_Entry_Tag_Client56), (.bool l_Entry_Fin58), (.bool l_Entry_Has60), (Slc.v l_Entry_Data62)]) H (wantG H rfl rfl) rfl agg_45 rfl ⟨hc51, hc53, hc55, hc57, hc59, hc61, hc63, trivial⟩ (lt_ rfl) ?_
          clear H a
          intro a H
          refine s_call H (wantG H rfl rfl) body_36 (H.args (vs := [(.agg #[(.int .i64 l_Kind50), (.string l_Key52), (.int .i64 l_Entry_Tag_Count54), (.int .i64 l_Entry_Tag_Client56), (.bool l_Entry_Fin58), (.bool l_Entry_Has60), (Slc.v l_Entry_Data62)])]) rfl) (lt_ rfl) h ?_ (fun c w' h H => e_panic (P := PP) (fn := Tryd.f64) H h)
          clear H h a
          rintro _ w64 a ⟨may65, rfl, h⟩ H
          refine s_bin H (wantG H rfl rfl) rfl rfl r_eql (lt_ rfl) ?_
          clear H a
          intro a H
          refine s_pickT H rfl rfl rfl (lt_ rfl) ?_
          clear H a
          intro a H
          exact hr46 _ _ _ h (H.weaken ⟨rfl, rfl, rfl, trivial⟩)
        · replace H := H.ch (t := 51) (b := false) rfl hg45
          replace h := h.2 hg45
          refine s_skip H (wantN H rfl rfl rfl) rfl (lt_ rfl) ?_
          clear H a
          intro a H
          refine s_skip H (wantN H rfl rfl rfl) rfl (lt_ rfl) ?_
          clear H a
          intro a H
          refine s_skip H (wantN H rfl rfl rfl) rfl (lt_ rfl) ?_
          clear H a
          intro a H
          refine s_pickF H rfl rfl rfl (lt_ rfl) ?_
          clear H a
          intro a H
          exact hr46 _ _ _ h (H.weaken ⟨rfl, rfl, rfl, trivial⟩)
      · clear H a h
        intro a x48 w49 h H
        replace h := hx105 x48 w49 h
        clear hx105
        refine s_call H rfl body_60 (H.args (vs := [(.bool x48), (.int .i64 31)]) rfl) (lt_ rfl) h ?_ (fun c w' h H => e_panic (P := PP) (fn := Tryd.f64) H h)
        clear H h a
        rintro _ w70 a ⟨rfl, h⟩ H
        refine c_nil ?_
        refine hK42 _ _ ?_
        refine c_seq fun K71 hK71 => ?_
        refine c_reg ?_
        obtain ⟨l_Kind72, hc73, h⟩ := h
        obtain ⟨l_Key74, hc75, h⟩ := h
        obtain ⟨l_Entry_Tag_Count76, hc77, h⟩ := h
        obtain ⟨l_Entry_Tag_Client78, hc79, h⟩ := h
        obtain ⟨l_Entry_Fin80, hc81, h⟩ := h
        obtain ⟨l_Entry_Has82, hc83, h⟩ := h
        obtain ⟨l_Entry_Data84, hc85, h⟩ := h
        refine s_loadN (l := [(.int .i64 l_Kind72), (.string l_Key74), (.int .i64 l_Entry_Tag_Count76), (.int .i64 l_Entry_Tag_Client78), (.bool l_Entry_Fin80), (.bool l_Entry_Has82), (Slc.v l_Entry_Data84)]) H rfl rfl agg_45 rfl ⟨hc73, hc75, hc77, hc79, hc81, hc83, hc85, trivial⟩ (lt_ rfl) ?_
        clear H a
        intro a H
        refine s_stoN (l := [(.int .i64 l_Kind72), (.string l_Key74), (.int .i64 l_Entry_Tag_Count76), (.int .i64 l_Entry_Tag_Client78), (.bool l_Entry_Fin80), (.bool l_Entry_Has82), (Slc.v l_Entry_Data84)]) H rfl rfl rfl rfl agg_45 rfl rfl h ?_
        clear h H
        intro w86 h H
        refine c_nil ?_
        refine hK71 _ _ ?_
        refine c_ret ?_
        obtain ⟨res_Kind87, hc88, h⟩ := h
        obtain ⟨res_Key89, hc90, h⟩ := h
        obtain ⟨res_Entry_Tag_Count91, hc92, h⟩ := h
        obtain ⟨res_Entry_Tag_Client93, hc94, h⟩ := h
        obtain ⟨res_Entry_Fin95, hc96, h⟩ := h
        obtain ⟨res_Entry_Has97, hc98, h⟩ := h
        obtain ⟨res_Entry_Data99, hc100, h⟩ := h
        exact e_ret1 H rfl ⟨_, rfl, run_loadN (l := [(.int .i64 res_Kind87), (.string res_Key89), (.int .i64 res_Entry_Tag_Count91), (.int .i64 res_Entry_Tag_Client93), (.bool res_Entry_Fin95), (.bool res_Entry_Has97), (Slc.v res_Entry_Data99)]) agg_45 rfl ⟨hc88, hc90, hc92, hc94, hc96, hc98, hc100, trivial⟩⟩ h
    clear hx126
    refine c_seq fun K115 hK115 => ?_
    refine c_reg ?_
    refine s_move H rfl rfl (lt_ rfl) ?_
    clear H a
    intro a H
    refine c_nil ?_
    refine hK115 _ _ ?_
    refine c_cond H rfl (fun hb116 => ?_) (fun hb116 => ?_)
    · replace h := h.1 hb116
      refine c_reg ?_
      refine s_move H rfl rfl (lt_ rfl) ?_
      clear H a
      intro a H
      refine s_call H rfl body_86 (H.args (vs := [(.pointer NewRea8), (.int .i64 65540)]) rfl) (lt_ rfl) h ?_ (fun c w' h H => e_panic (P := PP) (fn := Tryd.f64) H h)
      clear H h a
      rintro _ w117 a ⟨Bytes118, rfl, h⟩ H
      refine s_fld H rfl rfl fld_45_2 (lt_ rfl) ?_
      clear H a
      intro a H
      refine s_fld H rfl rfl fld_43_3 (lt_ rfl) ?_
      clear H a
      intro a H
      obtain ⟨hs120, hf121, h⟩ := h
      refine s_sto (p := ((blk b14).add 2).add 4) (v := (Slc.v Bytes118)) H rfl rfl rfl rfl one_28 rfl hs120 hf121 ?_
      clear H
      intro H
      generalize hww119 : World.setCell w117 (((blk b14).add 2).add 4) (Slc.v Bytes118) = w119 at h ⊢
      have w119S : SetAt w117 (((blk b14).add 2).add 4) (Slc.v Bytes118) w119 := ⟨hww119.symm⟩
      clear hww119 hs120 hf121
      refine c_nil ?_
      exact hJ114 _ _ h (H.weaken ⟨rfl, rfl, rfl, trivial⟩)
    · replace h := h.2 hb116
      refine c_skip ?_
      exact hJ114 _ _ h (H.weaken ⟨rfl, rfl, rfl, trivial⟩)
  clear hx154
  refine c_seq fun K128 hK128 => ?_
  refine c_reg ?_
  refine s_fld H rfl rfl fld_45_0 (lt_ rfl) ?_
  clear H a
  intro a H
  obtain ⟨l129, hc130, h⟩ := h
  refine s_load (v := (.int .i64 l129)) H rfl rfl one_3 hc130 (lt_ rfl) ?_
  clear H a
  intro a H
  refine s_bin H rfl rfl rfl r_eql (lt_ rfl) ?_
  clear H a
  intro a H
  refine c_nil ?_
  refine hK128 _ _ ?_
  refine c_cond H rfl (fun hb131 => ?_) (fun hb131 => ?_)
  · replace h := h.1 hb131
    refine c_seq fun K132 hK132 => ?_
    refine c_reg ?_
    refine s_move H rfl rfl (lt_ rfl) ?_
    clear H a
    intro a H
    refine s_call H rfl body_85 (H.args (vs := [(.pointer NewRea8)]) rfl) (lt_ rfl) h ?_ (fun c w' h H => e_panic (P := PP) (fn := Tryd.f64) H h)
    clear H h a
    rintro _ w133 a ⟨Bool134, rfl, h⟩ H
    refine s_fld H rfl rfl fld_45_2 (lt_ rfl) ?_
    clear H a
    intro a H
    refine s_fld H rfl rfl fld_43_1 (lt_ rfl) ?_
    clear H a
    intro a H
    obtain ⟨hs136, hf137, h⟩ := h
    refine s_sto (p := ((blk b14).add 2).add 2) (v := (.bool Bool134)) H rfl rfl rfl rfl one_4 rfl hs136 hf137 ?_
    clear H
    intro H
    generalize hww135 : World.setCell w133 (((blk b14).add 2).add 2) (.bool Bool134) = w135 at h ⊢
    have w135S : SetAt w133 (((blk b14).add 2).add 2) (.bool Bool134) w135 := ⟨hww135.symm⟩
    clear hww135 hs136 hf137
    refine c_nil ?_
    refine hK132 _ _ ?_
    refine c_seq fun K138 hK138 => ?_
    refine c_reg ?_
    refine s_move H rfl rfl (lt_ rfl) ?_
    clear H a
    intro a H
    refine s_call H rfl body_85 (H.args (vs := [(.pointer NewRea8)]) rfl) (lt_ rfl) h ?_ (fun c w' h H => e_panic (P := PP) (fn := Tryd.f64) H h)
    clear H h a
    rintro _ w139 a ⟨Bool140, rfl, h⟩ H
    refine s_fld H rfl rfl fld_45_2 (lt_ rfl) ?_
    clear H a
    intro a H
    refine s_fld H rfl rfl fld_43_2 (lt_ rfl) ?_
    clear H a
    intro a H
    obtain ⟨hs142, hf143, h⟩ := h
    refine s_sto (p := ((blk b14).add 2).add 3) (v := (.bool Bool140)) H rfl rfl rfl rfl one_4 rfl hs142 hf143 ?_
    clear H
    intro H
    generalize hww141 : World.setCell w139 (((blk b14).add 2).add 3) (.bool Bool140) = w141 at h ⊢
    have w141S : SetAt w139 (((blk b14).add 2).add 3) (.bool Bool140) w141 := ⟨hww141.symm⟩
    clear hww141 hs142 hf143
    refine c_nil ?_
    refine hK138 _ _ ?_
    refine c_reg ?_
    refine s_fld H rfl rfl fld_45_2 (lt_ rfl) ?_
    clear H a
    intro a H
    refine s_fld H rfl rfl fld_43_2 (lt_ rfl) ?_
    clear H a
    intro a H
    obtain ⟨l144, hc145, h⟩ := h
    refine s_load (v := (.bool l144)) H rfl rfl one_4 hc145 (lt_ rfl) ?_
    clear H a
    intro a H
    refine s_assign H rfl rfl (lt_ rfl) ?_
    clear H a
    intro a H
    refine c_nil ?_
    exact hJ127 _ _ _ h (H.weaken ⟨rfl, rfl, rfl, rfl, trivial⟩)
  · replace h := h.2 hb131
    refine c_skip ?_
    exact hJ127 _ _ _ h (H.weaken ⟨rfl, rfl, rfl, rfl, trivial⟩)

set_option maxRecDepth 100000 in
set_option maxHeartbeats 4000000 in
theorem sim_tag_Zero (t_Count1 : Int) (t_Client2 : Int) (w : World) (Q : Ending → World → Prop) (h : vc_tag_Zero t_Count1 t_Client2 w Q) : Calls PP F_tag_Zero #[(.agg #[(.int .i64 t_Count1), (.int .i64 t_Client2)])] w Q := by
  unfold vc_tag_Zero at h
  refine enter (n := 6) (l := [(.agg #[(.int .i64 t_Count1), (.int .i64 t_Client2)])]) Tryd.func65 rfl rfl (Nat.le_of_ble_eq_true rfl) fun a H => ?_
  replace H : Has 6 [] a [(0, (.agg #[(.int .i64 t_Count1), (.int .i64 t_Client2)]))] := H
  refine c_seq fun K3 hK3 => ?_
  refine c_reg ?_
  replace h := h.get
  obtain ⟨b4, w5, nb6, h⟩ := h
  refine s_box H rfl rfl (lt_ rfl) ?_
  rw [← nb6.at_]
  clear H a
  intro a H
  refine nb6.go ?_
  refine s_assign H rfl rfl (lt_ rfl) ?_
  clear H a
  intro a H
  refine c_nil ?_
  refine hK3 _ _ ?_
  refine c_seq fun K7 hK7 => ?_
  refine c_reg ?_
  refine s_loadN (l := [(.int .i64 t_Count1), (.int .i64 t_Client2)]) H rfl rfl agg_41 rfl ⟨(nb6.cell (i := 0) rfl), (nb6.cell (i := 1) rfl), trivial⟩ (lt_ rfl) ?_
  clear H a
  intro a H
  refine s_build H rfl (by rw [H.parts (vs := []) rfl]; exact bd_41 w5) (lt_ rfl) ?_
  clear H a
  intro a H
  refine s_bin H rfl rfl rfl (r_eqst eqg_41 (eqst_41 0) rfl) (lt_ rfl) ?_
  clear H a
  intro a H
  refine s_assign H rfl rfl (lt_ rfl) ?_
  clear H a
  intro a H
  refine c_nil ?_
  refine hK7 _ _ ?_
  refine c_ret ?_
  exact e_ret1 H rfl rfl h

set_option maxRecDepth 100000 in
set_option maxHeartbeats 4000000 in
theorem sim_tag_Valid (t_Count1 : Int) (t_Client2 : Int) (w : World) (Q : Ending → World → Prop) (h : vc_tag_Valid t_Count1 t_Client2 w Q) : Calls PP F_tag_Valid #[(.agg #[(.int .i64 t_Count1), (.int .i64 t_Client2)])] w Q := by
  unfold vc_tag_Valid at h
  refine enter (n := 9) (l := [(.agg #[(.int .i64 t_Count1), (.int .i64 t_Client2)])]) Tryd.func66 rfl rfl (Nat.le_of_ble_eq_true rfl) fun a H => ?_
  replace H : Has 9 [] a [(0, (.agg #[(.int .i64 t_Count1), (.int .i64 t_Client2)]))] := H
  refine c_seq fun K3 hK3 => ?_
  refine c_reg ?_
  replace h := h.get
  obtain ⟨b4, w5, nb6, h⟩ := h
  refine s_box H rfl rfl (lt_ rfl) ?_
  rw [← nb6.at_]
  clear H a
  intro a H
  refine nb6.go ?_
  refine s_assign H rfl rfl (lt_ rfl) ?_
  clear H a
  intro a H
  refine c_nil ?_
  refine hK3 _ _ ?_
  refine c_seq fun K7 hK7 => ?_
  refine c_reg ?_
  refine s_loadN (l := [(.int .i64 t_Count1), (.int .i64 t_Client2)]) H rfl rfl agg_41 rfl ⟨(nb6.cell (i := 0) rfl), (nb6.cell (i := 1) rfl), trivial⟩ (lt_ rfl) ?_
  clear H a
  intro a H
  refine s_call H rfl body_65 (H.args (vs := [(.agg #[(.int .i64 t_Count1), (.int .i64 t_Client2)])]) rfl) (lt_ rfl) h ?_ (fun c w' h H => e_panic (P := PP) (fn := Tryd.f66) H h)
  clear H h a
  rintro _ w8 a ⟨Zero9, rfl, h⟩ H
  refine s_move H rfl rfl (lt_ rfl) ?_
  clear H a
  intro a H
  obtain ⟨R12, h, hx25⟩ := h
  refine g_joinW (n := 9) R12 (fun x13 => [(8, (.bool x13))]) (.succ (.succ (.succ (.zero _)))) ?_ ?_
  · intro hr11
    clear hx25
    rcases Bool.eq_false_or_eq_true Zero9 with hg10 | hg10
    · replace H := H.ch (t := 5) (b := true) rfl hg10
      replace h := h.2 hg10
      refine s_skip H (wantN H rfl rfl rfl) rfl (lt_ rfl) ?_
      clear H a
      intro a H
      refine s_skip H (wantN H rfl rfl rfl) rfl (lt_ rfl) ?_
      clear H a
      intro a H
      refine s_pickT H rfl rfl rfl (lt_ rfl) ?_
      clear H a
      intro a H
      exact hr11 _ _ _ h (H.weaken ⟨rfl, trivial⟩)
    · replace H := H.ch (t := 5) (b := false) rfl hg10
      replace h := h.1 hg10
      obtain ⟨l_Count15, hc16, h⟩ := h
      obtain ⟨l_Client17, hc18, h⟩ := h
      refine s_loadN (l := [(.int .i64 l_Count15), (.int .i64 l_Client17)]) H (wantG H rfl rfl) rfl agg_41 rfl ⟨hc16, hc18, trivial⟩ (lt_ rfl) ?_
      clear H a
      intro a H
      refine s_call H (wantG H rfl rfl) body_88 (H.args (vs := [(.agg #[(.int .i64 l_Count15), (.int .i64 l_Client17)])]) rfl) (lt_ rfl) h ?_ (fun c w' h H => e_panic (P := PP) (fn := Tryd.f66) H h)
      clear H h a
      rintro _ w19 a ⟨proper20, rfl, h⟩ H
      refine s_pickF H rfl rfl rfl (lt_ rfl) ?_
      clear H a
      intro a H
      exact hr11 _ _ _ h (H.weaken ⟨rfl, trivial⟩)
  · clear H a h
    intro a x13 w14 h H
    replace h := hx25 x13 w14 h
    clear hx25
    refine s_assign H rfl rfl (lt_ rfl) ?_
    clear H a
    intro a H
    refine c_nil ?_
    refine hK7 _ _ ?_
    refine c_ret ?_
    exact e_ret1 H rfl rfl h

set_option maxRecDepth 100000 in
set_option maxHeartbeats 4000000 in
theorem sim_pack_Writer_put (w1 : Option Addr) (b2 : Slc) (w : World) (Q : Ending → World → Prop) (h : vc_pack_Writer_put w1 b2 w Q) : Calls PP F_pack_Writer_put #[(.pointer w1), (Slc.v b2)] w Q := by
  unfold vc_pack_Writer_put at h
  refine enter (n := 23) (l := [(.pointer w1), (Slc.v b2)]) Tryd.func67 rfl rfl (Nat.le_of_ble_eq_true rfl) fun a H => ?_
  replace H : Has 23 [] a [(0, (.pointer w1)), (1, (Slc.v b2))] := H
  refine c_seq fun K3 hK3 => ?_
  refine c_reg ?_
  refine s_move H rfl rfl (lt_ rfl) ?_
  clear H a
  intro a H
  refine s_bin H rfl rfl rfl (r_neP0 ptr_81) (lt_ rfl) ?_
  clear H a
  intro a H
  refine s_move H rfl rfl (lt_ rfl) ?_
  clear H a
  intro a H
  obtain ⟨x10, hy11, hn12, h⟩ := h
  refine g_join (n := 23) [(13, (.bool x10)), (0, (.pointer w1)), (1, (Slc.v b2))] (.succ (.succ (.succ (.succ (.succ (.succ (.succ (.zero _)))))))) ?_ ?_
  · intro hr5
    try clear h
    rcases Bool.eq_false_or_eq_true w1.isSome with hg4 | hg4
    · replace H := H.ch (t := 6) (b := true) rfl hg4
      replace h := hy11 hg4
      refine s_move H (wantG H rfl rfl) rfl (lt_ rfl) ?_
      clear H a
      intro a H
      obtain ⟨a6, hq9, h⟩ := h
      subst hq9
      refine s_nil H (wantG H rfl rfl) rfl (lt_ rfl) ?_
      clear H a
      intro a H
      refine s_fld H (wantG H rfl rfl) rfl fld_109_0 (lt_ rfl) ?_
      clear H a
      intro a H
      refine s_fld H (wantG H rfl rfl) rfl fld_107_0 (lt_ rfl) ?_
      clear H a
      intro a H
      obtain ⟨l7, hc8, h⟩ := h
      refine s_load (v := (.int .i64 l7)) H (wantG H rfl rfl) rfl one_29 hc8 (lt_ rfl) ?_
      clear H a
      intro a H
      refine s_bin H (wantG H rfl rfl) rfl rfl r_eql (lt_ rfl) ?_
      clear H a
      intro a H
      refine s_pickT H rfl rfl rfl (lt_ rfl) ?_
      clear H a
      intro a H
      subst h
      exact hr5 _ (H.weaken ⟨rfl, rfl, rfl, trivial⟩)
    · replace H := H.ch (t := 6) (b := false) rfl hg4
      refine s_skip H (wantN H rfl rfl rfl) rfl (lt_ rfl) ?_
      clear H a
      intro a H
      refine s_skip H (wantN H rfl rfl rfl) rfl (lt_ rfl) ?_
      clear H a
      intro a H
      refine s_skip H (wantN H rfl rfl rfl) rfl (lt_ rfl) ?_
      clear H a
      intro a H
      refine s_skip H (wantN H rfl rfl rfl) rfl (lt_ rfl) ?_
      clear H a
      intro a H
      refine s_skip H (wantN H rfl rfl rfl) rfl (lt_ rfl) ?_
      clear H a
      intro a H
      refine s_skip H (wantN H rfl rfl rfl) rfl (lt_ rfl) ?_
      clear H a
      intro a H
      refine s_pickF H rfl rfl rfl (lt_ rfl) ?_
      clear H a
      intro a H
      replace h := hn12 hg4
      subst h
      exact hr5 _ (H.weaken ⟨rfl, rfl, rfl, trivial⟩)
  · clear H a
    clear hy11 hn12
    intro a H
    refine c_nil ?_
    refine hK3 _ _ ?_
    refine c_cond H rfl (fun hb13 => ?_) (fun hb13 => ?_)
    · replace h := h.1 hb13
      refine c_reg ?_
      refine s_move H rfl rfl (lt_ rfl) ?_
      clear H a
      intro a H
      refine s_move H rfl rfl (lt_ rfl) ?_
      clear H a
      intro a H
      obtain ⟨a14, hq23, h⟩ := h
      subst hq23
      refine s_nil H rfl rfl (lt_ rfl) ?_
      clear H a
      intro a H
      refine s_fld H rfl rfl fld_109_1 (lt_ rfl) ?_
      clear H a
      intro a H
      obtain ⟨l15, hc16, h⟩ := h
      refine s_load (v := (Slc.v l15)) H rfl rfl one_28 hc16 (lt_ rfl) ?_
      clear H a
      intro a H
      refine s_move H rfl rfl (lt_ rfl) ?_
      clear H a
      intro a H
      obtain ⟨s17, w18, hq19, h⟩ := h
      refine s_blt H rfl (H.args (vs := [(Slc.v l15), (Slc.v b2)]) rfl) (lt_ rfl) (fun cs => b_app (z := s17) hq19) ?_
      clear H a hq19
      intro a H
      refine s_nil H rfl rfl (lt_ rfl) ?_
      clear H a
      intro a H
      refine s_fld H rfl rfl fld_109_1 (lt_ rfl) ?_
      clear H a
      intro a H
      obtain ⟨hs21, hf22, h⟩ := h
      refine s_sto (p := a14.add 1) (v := (Slc.v s17)) H rfl rfl rfl rfl one_28 rfl hs21 hf22 ?_
      clear H
      intro H
      generalize hww20 : World.setCell w18 (a14.add 1) (Slc.v s17) = w20 at h ⊢
      have w20S : SetAt w18 (a14.add 1) (Slc.v s17) w20 := ⟨hww20.symm⟩
      clear hww20 hs21 hf22
      refine c_nil ?_
      exact e_ret0 H rfl h
    · replace h := h.2 hb13
      refine c_skip ?_
      exact e_ret0 H rfl h

set_option maxRecDepth 100000 in
set_option maxHeartbeats 4000000 in
theorem sim_pack_Writer_Text (w1 : Option Addr) (s2 : ByteArray) (w : World) (Q : Ending → World → Prop) (h : vc_pack_Writer_Text w1 s2 w Q) : Calls PP F_pack_Writer_Text #[(.pointer w1), (.string s2)] w Q := by
  unfold vc_pack_Writer_Text at h
  refine enter (n := 8) (l := [(.pointer w1), (.string s2)]) Tryd.func68 rfl rfl (Nat.le_of_ble_eq_true rfl) fun a H => ?_
  replace H : Has 8 [] a [(0, (.pointer w1)), (1, (.string s2))] := H
  refine c_reg ?_
  refine s_move H rfl rfl (lt_ rfl) ?_
  clear H a
  intro a H
  refine s_move H rfl rfl (lt_ rfl) ?_
  clear H a
  intro a H
  obtain ⟨s3, w5, hq4, h⟩ := h
  refine s_cv H rfl rfl hq4 (lt_ rfl) ?_
  clear H a hq4
  intro a H
  refine s_call H rfl body_39 (H.args (vs := [(.pointer w1), (Slc.v s3)]) rfl) (lt_ rfl) h ?_ (fun c w' h H => e_panic (P := PP) (fn := Tryd.f68) H h)
  clear H h a
  rintro _ w6 a ⟨rfl, h⟩ H
  refine c_nil ?_
  exact e_ret0 H rfl h

set_option maxRecDepth 100000 in
set_option maxHeartbeats 4000000 in
theorem sim_pack_Writer_Bool (w1 : Option Addr) (b2 : Bool) (w : World) (Q : Ending → World → Prop) (h : vc_pack_Writer_Bool w1 b2 w Q) : Calls PP F_pack_Writer_Bool #[(.pointer w1), (.bool b2)] w Q := by
  unfold vc_pack_Writer_Bool at h
  refine enter (n := 11) (l := [(.pointer w1), (.bool b2)]) Tryd.func69 rfl rfl (Nat.le_of_ble_eq_true rfl) fun a H => ?_
  replace H : Has 11 [] a [(0, (.pointer w1)), (1, (.bool b2))] := H
  refine c_seq fun K3 hK3 => ?_
  refine c_reg ?_
  refine s_move H rfl rfl (lt_ rfl) ?_
  clear H a
  intro a H
  refine c_nil ?_
  refine hK3 _ _ ?_
  refine c_cond H rfl (fun hb4 => ?_) (fun hb4 => ?_)
  · replace h := h.1 hb4
    refine c_reg ?_
    refine s_move H rfl rfl (lt_ rfl) ?_
    clear H a
    intro a H
    replace h := h.get
    obtain ⟨b5, w6, nb7, h⟩ := h
    refine s_bslc H rfl (by rw [H.parts (vs := [(0, (.int .u8 1))]) rfl]; exact bs_28_1_iu80 w 1) (lt_ rfl) ?_
    rw [← nb7.at_]
    clear H a
    intro a H
    refine nb7.go ?_
    refine s_call H rfl body_67 (H.args (vs := [(.pointer w1), (Slc.v (Slc.mk (some (blk b5)) 1 1))]) rfl) (lt_ rfl) h ?_ (fun c w' h H => e_panic (P := PP) (fn := Tryd.f69) H h)
    clear H h a
    rintro _ w8 a ⟨rfl, h⟩ H
    refine c_nil ?_
    exact e_ret0 H rfl h
  · replace h := h.2 hb4
    refine c_reg ?_
    refine s_move H rfl rfl (lt_ rfl) ?_
    clear H a
    intro a H
    replace h := h.get
    obtain ⟨b13, w14, nb15, h⟩ := h
    refine s_bslc H rfl (by rw [H.parts (vs := [(0, (.int .u8 0))]) rfl]; exact bs_28_1_iu80 w 0) (lt_ rfl) ?_
    rw [← nb15.at_]
    clear H a
    intro a H
    refine nb15.go ?_
    refine s_call H rfl body_67 (H.args (vs := [(.pointer w1), (Slc.v (Slc.mk (some (blk b13)) 1 1))]) rfl) (lt_ rfl) h ?_ (fun c w' h H => e_panic (P := PP) (fn := Tryd.f69) H h)
    clear H h a
    rintro _ w16 a ⟨rfl, h⟩ H
    refine c_nil ?_
    exact e_ret0 H rfl h

set_option maxRecDepth 100000 in
set_option maxHeartbeats 4000000 in
theorem sim_sum_step (x1 : Int) (b2 : Int) (w : World) (Q : Ending → World → Prop) (h : vc_sum_step x1 b2 w Q) : Calls PP F_sum_step #[(.int .u32 x1), (.int .u8 b2)] w Q := by
  unfold vc_sum_step at h
  refine enter (n := 23) (l := [(.int .u32 x1), (.int .u8 b2)]) Tryd.func70 rfl rfl (Nat.le_of_ble_eq_true rfl) fun a H => ?_
  replace H : Has 23 [] a [(0, (.int .u32 x1)), (1, (.int .u8 b2))] := H
  refine c_seq fun K3 hK3 => ?_
  refine c_reg ?_
  refine s_assign H rfl rfl (lt_ rfl) ?_
  clear H a
  intro a H
  refine c_nil ?_
  refine hK3 _ _ ?_
  refine c_seq fun K4 hK4 => ?_
  refine c_reg ?_
  refine s_move H rfl rfl (lt_ rfl) ?_
  clear H a
  intro a H
  refine s_move H rfl rfl (lt_ rfl) ?_
  clear H a
  intro a H
  refine s_cv H rfl rfl (r_cvI some_5 int_88) (lt_ rfl) ?_
  clear H a
  intro a H
  refine s_bin H rfl rfl rfl r_xor (lt_ rfl) ?_
  clear H a
  intro a H
  refine s_assign H rfl rfl (lt_ rfl) ?_
  clear H a
  intro a H
  refine c_nil ?_
  refine hK4 _ _ ?_
  refine c_seq fun K5 hK5 => ?_
  refine c_reg ?_
  refine s_move H rfl rfl (lt_ rfl) ?_
  clear H a
  intro a H
  refine s_bin H rfl rfl rfl r_and (lt_ rfl) ?_
  clear H a
  intro a H
  obtain ⟨hi6, hi7, h⟩ := h
  refine s_idxA H rfl rfl rfl arr_126 hi6 hi7 (lt_ rfl) ?_
  clear H a
  intro a H
  obtain ⟨l8, hc9, h⟩ := h
  refine s_load (v := (.int .u32 l8)) H rfl rfl one_88 hc9 (lt_ rfl) ?_
  clear H a
  intro a H
  refine s_move H rfl rfl (lt_ rfl) ?_
  clear H a
  intro a H
  refine s_bin H rfl rfl rfl (r_shr (by decide)) (lt_ rfl) ?_
  clear H a
  intro a H
  refine s_bin H rfl rfl rfl r_xor (lt_ rfl) ?_
  clear H a
  intro a H
  refine s_assign H rfl rfl (lt_ rfl) ?_
  clear H a
  intro a H
  refine c_nil ?_
  refine hK5 _ _ ?_
  refine c_seq fun K10 hK10 => ?_
  refine c_reg ?_
  refine s_move H rfl rfl (lt_ rfl) ?_
  clear H a
  intro a H
  refine s_bin H rfl rfl rfl r_and (lt_ rfl) ?_
  clear H a
  intro a H
  obtain ⟨hi11, hi12, h⟩ := h
  refine s_idxA H rfl rfl rfl arr_126 hi11 hi12 (lt_ rfl) ?_
  clear H a
  intro a H
  obtain ⟨l13, hc14, h⟩ := h
  refine s_load (v := (.int .u32 l13)) H rfl rfl one_88 hc14 (lt_ rfl) ?_
  clear H a
  intro a H
  refine s_move H rfl rfl (lt_ rfl) ?_
  clear H a
  intro a H
  refine s_bin H rfl rfl rfl (r_shr (by decide)) (lt_ rfl) ?_
  clear H a
  intro a H
  refine s_bin H rfl rfl rfl r_xor (lt_ rfl) ?_
  clear H a
  intro a H
  refine s_assign H rfl rfl (lt_ rfl) ?_
  clear H a
  intro a H
  refine c_nil ?_
  refine hK10 _ _ ?_
  refine c_ret ?_
  exact e_ret1 H rfl rfl h

set_option maxRecDepth 100000 in
set_option maxHeartbeats 4000000 in
theorem sim_slices_Grow (s1 : Slc) (n2 : Int) (w : World) (Q : Ending → World → Prop) (h : vc_slices_Grow s1 n2 w Q) : Calls PP F_slices_Grow #[(Slc.v s1), (.int .i64 n2)] w Q := by
  unfold vc_slices_Grow at h
  refine enter (n := 27) (l := [(Slc.v s1), (.int .i64 n2)]) Tryd.func71 rfl rfl (Nat.le_of_ble_eq_true rfl) fun a H => ?_
  replace H : Has 27 [] a [(0, (Slc.v s1)), (1, (.int .i64 n2))] := H
  refine c_seq fun K3 hK3 => ?_
  refine c_reg ?_
  refine s_assign H rfl rfl (lt_ rfl) ?_
  clear H a
  intro a H
  refine c_nil ?_
  refine hK3 _ _ ?_
  refine c_seq fun K4 hK4 => ?_
  obtain ⟨R5, h, hx29⟩ := h
  have hJ26 : ∀ (a : Act) (w6 : World), R5 w6 → Has 27 [] a [(0, (Slc.v s1)), (1, (.int .i64 n2))] → K4 a w6 := by
    clear h
    intro a w6 h H
    replace h := hx29 w6 h
    refine hK4 _ _ ?_
    refine c_seq fun K7 hK7 => ?_
    obtain ⟨R9, h, hx25⟩ := h
    have hJ12 : ∀ (a : Act) (s8 : Slc) (w10 : World), R9 s8 w10 → Has 27 [] a [(0, (Slc.v s8))] → K7 a w10 := by
      clear h
      intro a s8 w10 h H
      replace h := hx25 s8 w10 h
      refine hK7 _ _ ?_
      refine c_seq fun K11 hK11 => ?_
      refine c_reg ?_
      refine s_move H rfl rfl (lt_ rfl) ?_
      clear H a
      intro a H
      refine s_assign H rfl rfl (lt_ rfl) ?_
      clear H a
      intro a H
      refine c_nil ?_
      refine hK11 _ _ ?_
      refine c_ret ?_
      exact e_ret1 H rfl rfl h
    clear hx25
    refine c_seq fun K13 hK13 => ?_
    refine c_reg ?_
    refine s_move H rfl rfl (lt_ rfl) ?_
    clear H a
    intro a H
    refine s_move H rfl rfl (lt_ rfl) ?_
    clear H a
    intro a H
    refine s_blt H rfl (H.args (vs := [(Slc.v s1)]) rfl) (lt_ rfl) (fun cs => b_capS (z := s1) sl_28) ?_
    clear H a
    intro a H
    refine s_move H rfl rfl (lt_ rfl) ?_
    clear H a
    intro a H
    refine s_blt H rfl (H.args (vs := [(Slc.v s1)]) rfl) (lt_ rfl) (fun cs => b_lenS (z := s1) sl_28) ?_
    clear H a
    intro a H
    refine s_bin H rfl rfl rfl r_sub (lt_ rfl) ?_
    clear H a
    intro a H
    refine s_bin H rfl rfl rfl r_sub (lt_ rfl) ?_
    clear H a
    intro a H
    refine s_assign H rfl rfl (lt_ rfl) ?_
    clear H a
    intro a H
    refine c_nil ?_
    refine hK13 _ _ ?_
    refine c_seq fun K14 hK14 => ?_
    refine c_reg ?_
    refine s_move H rfl rfl (lt_ rfl) ?_
    clear H a
    intro a H
    refine s_bin H rfl rfl rfl r_gtr (lt_ rfl) ?_
    clear H a
    intro a H
    refine c_nil ?_
    refine hK14 _ _ ?_
    refine c_cond H rfl (fun hb15 => ?_) (fun hb15 => ?_)
    · replace h := h.1 hb15
      refine c_reg ?_
      refine s_move H rfl rfl (lt_ rfl) ?_
      clear H a
      intro a H
      refine s_move H rfl rfl (lt_ rfl) ?_
      clear H a
      intro a H
      refine s_blt H rfl (H.args (vs := [(Slc.v s1)]) rfl) (lt_ rfl) (fun cs => b_capS (z := s1) sl_28) ?_
      clear H a
      intro a H
      obtain ⟨hi16, hi17, hi18, h⟩ := h
      refine s_slice (v := (Slc.v (s1.cut 1 (Int.toNat (0)) (Int.toNat ((s1.c : Int)))))) H rfl rfl ⟨rfl, rfl⟩ ⟨rfl, rfl⟩ ⟨rfl, rfl⟩ (r_sliceSlc (lo := none) (hi := (some (.i64, (s1.c : Int)))) slc_28 rfl rfl hi16 hi17 hi18) (lt_ rfl) ?_
      clear H a
      intro a H
      refine s_move H rfl rfl (lt_ rfl) ?_
      clear H a
      intro a H
      obtain ⟨s19, w20, hq21, h⟩ := h
      refine s_blt H rfl (H.args (vs := [(Slc.v (s1.cut 1 (Int.toNat (0)) (Int.toNat ((s1.c : Int))))), (.int .i64 (wr .i64 (n2 - (wr .i64 ((s1.c : Int) - (s1.l : Int))))))]) rfl) (lt_ rfl) (fun cs => b_app (z := s19) hq21) ?_
      clear H a hq21
      intro a H
      refine s_move H rfl rfl (lt_ rfl) ?_
      clear H a
      intro a H
      refine s_blt H rfl (H.args (vs := [(Slc.v s1)]) rfl) (lt_ rfl) (fun cs => b_lenS (z := s1) sl_28) ?_
      clear H a
      intro a H
      obtain ⟨hi22, hi23, hi24, h⟩ := h
      refine s_slice (v := (Slc.v (s19.cut 1 (Int.toNat (0)) (Int.toNat ((s1.l : Int)))))) H rfl rfl ⟨rfl, rfl⟩ ⟨rfl, rfl⟩ ⟨rfl, rfl⟩ (r_sliceSlc (lo := none) (hi := (some (.i64, (s1.l : Int)))) slc_28 rfl rfl hi22 hi23 hi24) (lt_ rfl) ?_
      clear H a
      intro a H
      refine s_assign H rfl rfl (lt_ rfl) ?_
      clear H a
      intro a H
      refine c_nil ?_
      exact hJ12 _ _ _ h (H.weaken ⟨rfl, trivial⟩)
    · replace h := h.2 hb15
      refine c_skip ?_
      exact hJ12 _ _ _ h (H.weaken ⟨rfl, trivial⟩)
  clear hx29
  refine c_seq fun K27 hK27 => ?_
  refine c_reg ?_
  refine s_move H rfl rfl (lt_ rfl) ?_
  clear H a
  intro a H
  refine s_bin H rfl rfl rfl r_lss (lt_ rfl) ?_
  clear H a
  intro a H
  refine c_nil ?_
  refine hK27 _ _ ?_
  refine c_cond H rfl (fun hb28 => ?_) (fun hb28 => ?_)
  · replace h := h.1 hb28
    refine c_reg ?_
    refine s_iface H rfl rfl ni_9 (lt_ rfl) ?_
    clear H a
    intro a H
    exact s_panic H rfl rfl (fun H => e_panic (P := PP) (fn := Tryd.f71) H h)
  · replace h := h.2 hb28
    refine c_skip ?_
    exact hJ26 _ _ h (H.weaken ⟨rfl, rfl, trivial⟩)

set_option maxRecDepth 100000 in
set_option maxHeartbeats 4000000 in
theorem sim_sherdref07_Writer_put (w1 : Option Addr) (b2 : Slc) (w : World) (Q : Ending → World → Prop) (h : vc_sherdref07_Writer_put w1 b2 w Q) : Calls PP F_sherdref07_Writer_put #[(.pointer w1), (Slc.v b2)] w Q := by
  unfold vc_sherdref07_Writer_put at h
  refine enter (n := 18) (l := [(.pointer w1), (Slc.v b2)]) Tryd.func72 rfl rfl (Nat.le_of_ble_eq_true rfl) fun a H => ?_
  replace H : Has 18 [] a [(0, (.pointer w1)), (1, (Slc.v b2))] := H
  refine c_seq fun K3 hK3 => ?_
  refine c_reg ?_
  refine s_move H rfl rfl (lt_ rfl) ?_
  clear H a
  intro a H
  obtain ⟨a4, hq16, h⟩ := h
  subst hq16
  refine s_nil H rfl rfl (lt_ rfl) ?_
  clear H a
  intro a H
  refine s_fld H rfl rfl fld_117_1 (lt_ rfl) ?_
  clear H a
  intro a H
  obtain ⟨l5, hc6, h⟩ := h
  refine s_load (v := (.int .i64 l5)) H rfl rfl one_29 hc6 (lt_ rfl) ?_
  clear H a
  intro a H
  refine s_bin H rfl rfl rfl r_eql (lt_ rfl) ?_
  clear H a
  intro a H
  refine c_nil ?_
  refine hK3 _ _ ?_
  refine c_cond H rfl (fun hb7 => ?_) (fun hb7 => ?_)
  · replace h := h.1 hb7
    refine c_reg ?_
    refine s_move H rfl rfl (lt_ rfl) ?_
    clear H a
    intro a H
    refine s_move H rfl rfl (lt_ rfl) ?_
    clear H a
    intro a H
    refine s_nil H rfl rfl (lt_ rfl) ?_
    clear H a
    intro a H
    refine s_fld H rfl rfl fld_117_0 (lt_ rfl) ?_
    clear H a
    intro a H
    obtain ⟨l8, hc9, h⟩ := h
    refine s_load (v := (Slc.v l8)) H rfl rfl one_28 hc9 (lt_ rfl) ?_
    clear H a
    intro a H
    refine s_move H rfl rfl (lt_ rfl) ?_
    clear H a
    intro a H
    obtain ⟨s10, w11, hq12, h⟩ := h
    refine s_blt H rfl (H.args (vs := [(Slc.v l8), (Slc.v b2)]) rfl) (lt_ rfl) (fun cs => b_app (z := s10) hq12) ?_
    clear H a hq12
    intro a H
    refine s_nil H rfl rfl (lt_ rfl) ?_
    clear H a
    intro a H
    refine s_fld H rfl rfl fld_117_0 (lt_ rfl) ?_
    clear H a
    intro a H
    obtain ⟨hs14, hf15, h⟩ := h
    refine s_sto (p := a4.add 0) (v := (Slc.v s10)) H rfl rfl rfl rfl one_28 rfl hs14 hf15 ?_
    clear H
    intro H
    generalize hww13 : World.setCell w11 (a4.add 0) (Slc.v s10) = w13 at h ⊢
    have w13S : SetAt w11 (a4.add 0) (Slc.v s10) w13 := ⟨hww13.symm⟩
    clear hww13 hs14 hf15
    refine c_nil ?_
    exact e_ret0 H rfl h
  · replace h := h.2 hb7
    refine c_skip ?_
    exact e_ret0 H rfl h

set_option maxRecDepth 100000 in
set_option maxHeartbeats 4000000 in
theorem sim_sherdref07_Form (n1 : Int) (w : World) (Q : Ending → World → Prop) (h : vc_sherdref07_Form n1 w Q) : Calls PP F_sherdref07_Form #[(.int .i64 n1)] w Q := by
  unfold vc_sherdref07_Form at h
  refine enter (n := 21) (l := [(.int .i64 n1)]) Tryd.func73 rfl rfl (Nat.le_of_ble_eq_true rfl) fun a H => ?_
  replace H : Has 21 [] a [(0, (.int .i64 n1))] := H
  refine c_seq fun K2 hK2 => ?_
  refine c_reg ?_
  refine s_assign H rfl rfl (lt_ rfl) ?_
  clear H a
  intro a H
  refine c_nil ?_
  refine hK2 _ _ ?_
  refine c_seq fun K3 hK3 => ?_
  refine c_reg ?_
  refine s_assign H rfl rfl (lt_ rfl) ?_
  clear H a
  intro a H
  refine c_nil ?_
  refine hK3 _ _ ?_
  refine c_block ?_
  obtain ⟨I7, mu8, h027, hl28⟩ := h
  refine c_loop (σ := Int × Slc) (fun z w => I7 z.1 z.2 w) (fun z w => mu8 z.1 z.2 w) (fun z => [(0, (.int .i64 z.1)), (3, (Slc.v z.2))]) (n1, Slc.nil) h027 (H.weaken ⟨rfl, rfl, trivial⟩) ?_
  clear H h027
  rintro ⟨n4, out5⟩ a w6 h H
  replace h := hl28 n4 out5 w6 h
  clear hl28
  replace H : Has 21 [] a [(0, (.int .i64 n4)), (3, (Slc.v out5))] := H
  refine c_block ?_
  refine c_seq fun K9 hK9 => ?_
  refine c_reg ?_
  refine s_move H rfl rfl (lt_ rfl) ?_
  clear H a
  intro a H
  refine s_bin H rfl rfl rfl (r_rem (by decide)) (lt_ rfl) ?_
  clear H a
  intro a H
  refine s_cv H rfl rfl (r_cvI some_2 int_5) (lt_ rfl) ?_
  clear H a
  intro a H
  refine s_assign H rfl rfl (lt_ rfl) ?_
  clear H a
  intro a H
  refine c_nil ?_
  refine hK9 _ _ ?_
  refine c_seq fun K10 hK10 => ?_
  refine c_reg ?_
  refine s_move H rfl rfl (lt_ rfl) ?_
  clear H a
  intro a H
  refine s_bin H rfl rfl rfl (r_quo (by decide)) (lt_ rfl) ?_
  clear H a
  intro a H
  refine s_assign H rfl rfl (lt_ rfl) ?_
  clear H a
  intro a H
  refine c_nil ?_
  refine hK10 _ _ ?_
  refine c_seq fun K11 hK11 => ?_
  refine c_seq fun K12 hK12 => ?_
  refine c_reg ?_
  refine s_move H rfl rfl (lt_ rfl) ?_
  clear H a
  intro a H
  refine s_bin H rfl rfl rfl r_eql (lt_ rfl) ?_
  clear H a
  intro a H
  refine c_nil ?_
  refine hK12 _ _ ?_
  refine c_cond H rfl (fun hb13 => ?_) (fun hb13 => ?_)
  · replace h := h.1 hb13
    refine c_seq fun K14 hK14 => ?_
    refine c_reg ?_
    refine s_move H rfl rfl (lt_ rfl) ?_
    clear H a
    intro a H
    refine s_move H rfl rfl (lt_ rfl) ?_
    clear H a
    intro a H
    replace h := h.get
    obtain ⟨b15, w16, nb17, h⟩ := h
    refine s_bslc H rfl (by rw [H.parts (vs := [(0, (.int .u8 (wr .u8 (n4.tmod 128))))]) rfl]; exact bs_28_1_iu80 w6 (wr .u8 (n4.tmod 128))) (lt_ rfl) ?_
    rw [← nb17.at_]
    clear H a
    intro a H
    refine nb17.go ?_
    obtain ⟨s18, w19, hq20, h⟩ := h
    refine s_blt H rfl (H.args (vs := [(Slc.v out5), (Slc.v (Slc.mk (some (blk b15)) 1 1))]) rfl) (lt_ rfl) (fun cs => b_app (z := s18) hq20) ?_
    clear H a hq20
    intro a H
    refine s_assign H rfl rfl (lt_ rfl) ?_
    clear H a
    intro a H
    refine c_nil ?_
    refine hK14 _ _ ?_
    refine c_ret ?_
    exact e_ret1 H rfl rfl h
  · replace h := h.2 hb13
    refine c_skip ?_
    refine hK11 _ _ ?_
    refine c_reg ?_
    refine s_move H rfl rfl (lt_ rfl) ?_
    clear H a
    intro a H
    refine s_move H rfl rfl (lt_ rfl) ?_
    clear H a
    intro a H
    refine s_bin H rfl rfl rfl r_add (lt_ rfl) ?_
    clear H a
    intro a H
    replace h := h.get
    obtain ⟨b21, w22, nb23, h⟩ := h
    refine s_bslc H rfl (by rw [H.parts (vs := [(0, (.int .u8 (wr .u8 ((wr .u8 (n4.tmod 128)) + 128))))]) rfl]; exact bs_28_1_iu80 w6 (wr .u8 ((wr .u8 (n4.tmod 128)) + 128))) (lt_ rfl) ?_
    rw [← nb23.at_]
    clear H a
    intro a H
    refine nb23.go ?_
    obtain ⟨s24, w25, hq26, h⟩ := h
    refine s_blt H rfl (H.args (vs := [(Slc.v out5), (Slc.v (Slc.mk (some (blk b21)) 1 1))]) rfl) (lt_ rfl) (fun cs => b_app (z := s24) hq26) ?_
    clear H a hq26
    intro a H
    refine s_assign H rfl rfl (lt_ rfl) ?_
    clear H a
    intro a H
    refine c_nil ?_
    refine Exists.intro (wr .i64 (n4.tdiv 128), s24) ⟨h.1, h.2, H.weaken ⟨rfl, rfl, trivial⟩⟩

set_option maxRecDepth 100000 in
set_option maxHeartbeats 4000000 in
theorem sim_sherdref11_four (n1 : Int) (w : World) (Q : Ending → World → Prop) (h : vc_sherdref11_four n1 w Q) : Calls PP F_sherdref11_four #[(.int .u32 n1)] w Q := by
  unfold vc_sherdref11_four at h
  refine enter (n := 18) (l := [(.int .u32 n1)]) Tryd.func74 rfl rfl (Nat.le_of_ble_eq_true rfl) fun a H => ?_
  replace H : Has 18 [] a [(0, (.int .u32 n1))] := H
  refine c_seq fun K2 hK2 => ?_
  refine c_reg ?_
  refine s_assign H rfl rfl (lt_ rfl) ?_
  clear H a
  intro a H
  refine c_nil ?_
  refine hK2 _ _ ?_
  refine c_seq fun K3 hK3 => ?_
  refine c_reg ?_
  refine s_assign H rfl rfl (lt_ rfl) ?_
  clear H a
  intro a H
  refine c_nil ?_
  refine hK3 _ _ ?_
  refine c_seq fun K4 hK4 => ?_
  refine c_seq fun K5 hK5 => ?_
  refine c_reg ?_
  refine s_assign H rfl rfl (lt_ rfl) ?_
  clear H a
  intro a H
  refine c_nil ?_
  refine hK5 _ _ ?_
  refine c_block ?_
  obtain ⟨I10, mu11, h024, hl25⟩ := h
  refine c_loop (σ := Int × Slc × Int) (fun z w => I10 z.1 z.2.1 z.2.2 w) (fun z w => mu11 z.1 z.2.1 z.2.2 w) (fun z => [(0, (.int .u32 z.1)), (3, (Slc.v z.2.1)), (4, (.int .i64 z.2.2))]) (n1, Slc.nil, 0) h024 (H.weaken ⟨rfl, rfl, rfl, trivial⟩) ?_
  clear H h024
  rintro ⟨n6, out7, i8⟩ a w9 h H
  replace h := hl25 n6 out7 i8 w9 h
  clear hl25
  replace H : Has 18 [] a [(0, (.int .u32 n6)), (3, (Slc.v out7)), (4, (.int .i64 i8))] := H
  refine c_seq fun K12 hK12 => ?_
  refine c_seq fun K13 hK13 => ?_
  refine c_reg ?_
  refine s_move H rfl rfl (lt_ rfl) ?_
  clear H a
  intro a H
  refine s_bin H rfl rfl rfl r_lss (lt_ rfl) ?_
  clear H a
  intro a H
  refine c_nil ?_
  refine hK13 _ _ ?_
  refine c_cond H rfl (fun hb14 => ?_) (fun hb14 => ?_)
  · replace h := h.1 hb14
    refine c_skip ?_
    refine hK12 _ _ ?_
    refine c_seq fun K15 hK15 => ?_
    refine c_block ?_
    refine c_seq fun K16 hK16 => ?_
    refine c_reg ?_
    refine s_move H rfl rfl (lt_ rfl) ?_
    clear H a
    intro a H
    refine s_move H rfl rfl (lt_ rfl) ?_
    clear H a
    intro a H
    refine s_bin H rfl rfl rfl (r_rem (by decide)) (lt_ rfl) ?_
    clear H a
    intro a H
    refine s_cv H rfl rfl (r_cvI some_88 int_5) (lt_ rfl) ?_
    clear H a
    intro a H
    replace h := h.get
    obtain ⟨b17, w18, nb19, h⟩ := h
    refine s_bslc H rfl (by rw [H.parts (vs := [(0, (.int .u8 (wr .u8 (n6.tmod 256))))]) rfl]; exact bs_28_1_iu80 w9 (wr .u8 (n6.tmod 256))) (lt_ rfl) ?_
    rw [← nb19.at_]
    clear H a
    intro a H
    refine nb19.go ?_
    obtain ⟨s20, w21, hq22, h⟩ := h
    refine s_blt H rfl (H.args (vs := [(Slc.v out7), (Slc.v (Slc.mk (some (blk b17)) 1 1))]) rfl) (lt_ rfl) (fun cs => b_app (z := s20) hq22) ?_
    clear H a hq22
    intro a H
    refine s_assign H rfl rfl (lt_ rfl) ?_
    clear H a
    intro a H
    refine c_nil ?_
    refine hK16 _ _ ?_
    refine c_reg ?_
    refine s_move H rfl rfl (lt_ rfl) ?_
    clear H a
    intro a H
    refine s_bin H rfl rfl rfl (r_quo (by decide)) (lt_ rfl) ?_
    clear H a
    intro a H
    refine s_assign H rfl rfl (lt_ rfl) ?_
    clear H a
    intro a H
    refine c_nil ?_
    refine hK15 _ _ ?_
    refine c_reg ?_
    refine s_move H rfl rfl (lt_ rfl) ?_
    clear H a
    intro a H
    refine s_bin H rfl rfl rfl r_add (lt_ rfl) ?_
    clear H a
    intro a H
    refine s_assign H rfl rfl (lt_ rfl) ?_
    clear H a
    intro a H
    refine c_nil ?_
    refine Exists.intro (wr .u32 (n6.tdiv 256), s20, wr .i64 (i8 + 1)) ⟨h.1, h.2, H.weaken ⟨rfl, rfl, rfl, trivial⟩⟩
  · replace h := h.2 hb14
    refine c_exit ?_
    simp only [Exit.then, Exit.inBlock, ↓reduceIte, Nat.reduceEqDiff]
    refine hK4 _ _ ?_
    refine c_seq fun K23 hK23 => ?_
    refine c_reg ?_
    refine s_move H rfl rfl (lt_ rfl) ?_
    clear H a
    intro a H
    refine s_assign H rfl rfl (lt_ rfl) ?_
    clear H a
    intro a H
    refine c_nil ?_
    refine hK23 _ _ ?_
    refine c_ret ?_
    exact e_ret1 H rfl rfl h

set_option maxRecDepth 100000 in
set_option maxHeartbeats 4000000 in
theorem sim_sherdref06_Of (parts1 : Slc) (w : World) (Q : Ending → World → Prop) (h : vc_sherdref06_Of parts1 w Q) : Calls PP F_sherdref06_Of #[(Slc.v parts1)] w Q := by
  unfold vc_sherdref06_Of at h
  refine enter (n := 34) (l := [(Slc.v parts1)]) Tryd.func75 rfl rfl (Nat.le_of_ble_eq_true rfl) fun a H => ?_
  replace H : Has 34 [] a [(0, (Slc.v parts1))] := H
  refine c_seq fun K2 hK2 => ?_
  refine c_reg ?_
  refine s_assign H rfl rfl (lt_ rfl) ?_
  clear H a
  intro a H
  refine c_nil ?_
  refine hK2 _ _ ?_
  refine c_seq fun K3 hK3 => ?_
  refine c_reg ?_
  refine s_assign H rfl rfl (lt_ rfl) ?_
  clear H a
  intro a H
  refine c_nil ?_
  refine hK3 _ _ ?_
  refine c_seq fun K4 hK4 => ?_
  refine c_seq fun K5 hK5 => ?_
  refine c_reg ?_
  refine s_assign H rfl rfl (lt_ rfl) ?_
  clear H a
  intro a H
  refine c_nil ?_
  refine hK5 _ _ ?_
  refine c_block ?_
  obtain ⟨I9, mu10, h057, hl58⟩ := h
  refine c_loop (σ := Int × Int) (fun z w => I9 z.1 z.2 w) (fun z w => mu10 z.1 z.2 w) (fun z => [(0, (Slc.v parts1)), (3, (.int .u32 z.1)), (4, (.int .i64 z.2))]) (4294967295, 0) h057 (H.weaken ⟨rfl, rfl, rfl, trivial⟩) ?_
  clear H h057
  rintro ⟨n6, i7⟩ a w8 h H
  replace h := hl58 n6 i7 w8 h
  clear hl58
  replace H : Has 34 [] a [(0, (Slc.v parts1)), (3, (.int .u32 n6)), (4, (.int .i64 i7))] := H
  refine c_seq fun K11 hK11 => ?_
  refine c_seq fun K12 hK12 => ?_
  refine c_reg ?_
  refine s_move H rfl rfl (lt_ rfl) ?_
  clear H a
  intro a H
  refine s_move H rfl rfl (lt_ rfl) ?_
  clear H a
  intro a H
  refine s_blt H rfl (H.args (vs := [(Slc.v parts1)]) rfl) (lt_ rfl) (fun cs => b_lenS (z := parts1) sl_37) ?_
  clear H a
  intro a H
  refine s_bin H rfl rfl rfl r_lss (lt_ rfl) ?_
  clear H a
  intro a H
  refine c_nil ?_
  refine hK12 _ _ ?_
  refine c_cond H rfl (fun hb13 => ?_) (fun hb13 => ?_)
  · replace h := h.1 hb13
    refine c_skip ?_
    refine hK11 _ _ ?_
    refine c_seq fun K14 hK14 => ?_
    obtain ⟨R16, h, hx55⟩ := h
    have hJ18 : ∀ (a : Act) (n15 : Int) (w17 : World), R16 n15 w17 → Has 34 [] a [(0, (Slc.v parts1)), (3, (.int .u32 n15)), (4, (.int .i64 i7))] → K14 a w17 := by
      clear h
      intro a n15 w17 h H
      replace h := hx55 n15 w17 h
      refine hK14 _ _ ?_
      refine c_reg ?_
      refine s_move H rfl rfl (lt_ rfl) ?_
      clear H a
      intro a H
      refine s_bin H rfl rfl rfl r_add (lt_ rfl) ?_
      clear H a
      intro a H
      refine s_assign H rfl rfl (lt_ rfl) ?_
      clear H a
      intro a H
      refine c_nil ?_
      refine Exists.intro (n15, wr .i64 (i7 + 1)) ⟨h.1, h.2, H.weaken ⟨rfl, rfl, rfl, trivial⟩⟩
    clear hx55
    refine c_block ?_
    refine c_seq fun K19 hK19 => ?_
    refine c_reg ?_
    refine s_assign H rfl rfl (lt_ rfl) ?_
    clear H a
    intro a H
    refine c_nil ?_
    refine hK19 _ _ ?_
    refine c_block ?_
    obtain ⟨I23, mu24, h053, hl54⟩ := h
    refine c_loop (σ := Int × Int) (fun z w => I23 z.1 z.2 w) (fun z w => mu24 z.1 z.2 w) (fun z => [(0, (Slc.v parts1)), (3, (.int .u32 z.1)), (4, (.int .i64 i7)), (5, (.int .i64 z.2))]) (n6, 0) h053 (H.weaken ⟨rfl, rfl, rfl, rfl, trivial⟩) ?_
    clear H h053
    rintro ⟨n20, j21⟩ a w22 h H
    replace h := hl54 n20 j21 w22 h
    clear hl54
    replace H : Has 34 [] a [(0, (Slc.v parts1)), (3, (.int .u32 n20)), (4, (.int .i64 i7)), (5, (.int .i64 j21))] := H
    refine c_seq fun K25 hK25 => ?_
    refine c_seq fun K26 hK26 => ?_
    refine c_reg ?_
    refine s_move H rfl rfl (lt_ rfl) ?_
    clear H a
    intro a H
    refine s_move H rfl rfl (lt_ rfl) ?_
    clear H a
    intro a H
    refine s_move H rfl rfl (lt_ rfl) ?_
    clear H a
    intro a H
    obtain ⟨a27, hi28, hi29, hi30, h⟩ := h
    refine s_idxS (s := parts1) H rfl rfl rfl slc_37 hi28 hi29 hi30 (lt_ rfl) ?_
    clear H a
    intro a H
    obtain ⟨l31, hc32, h⟩ := h
    refine s_load (v := (Slc.v l31)) H rfl rfl one_28 hc32 (lt_ rfl) ?_
    clear H a
    intro a H
    refine s_blt H rfl (H.args (vs := [(Slc.v l31)]) rfl) (lt_ rfl) (fun cs => b_lenS (z := l31) sl_28) ?_
    clear H a
    intro a H
    refine s_bin H rfl rfl rfl r_lss (lt_ rfl) ?_
    clear H a
    intro a H
    refine c_nil ?_
    refine hK26 _ _ ?_
    refine c_cond H rfl (fun hb33 => ?_) (fun hb33 => ?_)
    · replace h := h.1 hb33
      refine c_skip ?_
      refine hK25 _ _ ?_
      refine c_seq fun K34 hK34 => ?_
      refine c_block ?_
      refine c_reg ?_
      refine s_move H rfl rfl (lt_ rfl) ?_
      clear H a
      intro a H
      refine s_move H rfl rfl (lt_ rfl) ?_
      clear H a
      intro a H
      refine s_move H rfl rfl (lt_ rfl) ?_
      clear H a
      intro a H
      obtain ⟨a35, hi36, hi37, hi38, h⟩ := h
      refine s_idxS (s := parts1) H rfl rfl rfl slc_37 hi36 hi37 hi38 (lt_ rfl) ?_
      clear H a
      intro a H
      obtain ⟨l39, hc40, h⟩ := h
      refine s_load (v := (Slc.v l39)) H rfl rfl one_28 hc40 (lt_ rfl) ?_
      clear H a
      intro a H
      refine s_move H rfl rfl (lt_ rfl) ?_
      clear H a
      intro a H
      obtain ⟨a41, hi42, hi43, hi44, h⟩ := h
      refine s_idxS (s := l39) H rfl rfl rfl slc_28 hi42 hi43 hi44 (lt_ rfl) ?_
      clear H a
      intro a H
      obtain ⟨l45, hc46, h⟩ := h
      refine s_load (v := (.int .u8 l45)) H rfl rfl one_5 hc46 (lt_ rfl) ?_
      clear H a
      intro a H
      refine s_cv H rfl rfl (r_cvI some_5 int_88) (lt_ rfl) ?_
      clear H a
      intro a H
      refine s_bin H rfl rfl rfl r_xor (lt_ rfl) ?_
      clear H a
      intro a H
      refine s_call H rfl body_89 (H.args (vs := [(.int .u32 (xorI .u32 n20 (wr .u32 l45)))]) rfl) (lt_ rfl) h ?_ (fun c w' h H => e_panic (P := PP) (fn := Tryd.f75) H h)
      clear H h a
      rintro _ w47 a ⟨bitwis48, rfl, h⟩ H
      refine s_assign H rfl rfl (lt_ rfl) ?_
      clear H a
      intro a H
      refine c_nil ?_
      refine hK34 _ _ ?_
      refine c_reg ?_
      refine s_move H rfl rfl (lt_ rfl) ?_
      clear H a
      intro a H
      refine s_bin H rfl rfl rfl r_add (lt_ rfl) ?_
      clear H a
      intro a H
      refine s_assign H rfl rfl (lt_ rfl) ?_
      clear H a
      intro a H
      refine c_nil ?_
      refine Exists.intro (bitwis48, wr .i64 (j21 + 1)) ⟨h.1, h.2, H.weaken ⟨rfl, rfl, rfl, rfl, trivial⟩⟩
    · replace h := h.2 hb33
      refine c_exit ?_
      simp only [Exit.then, Exit.inBlock, ↓reduceIte, Nat.reduceEqDiff]
      exact hJ18 _ _ _ h (H.weaken ⟨rfl, rfl, rfl, trivial⟩)
  · replace h := h.2 hb13
    refine c_exit ?_
    simp only [Exit.then, Exit.inBlock, ↓reduceIte, Nat.reduceEqDiff]
    refine hK4 _ _ ?_
    refine c_seq fun K56 hK56 => ?_
    refine c_reg ?_
    refine s_move H rfl rfl (lt_ rfl) ?_
    clear H a
    intro a H
    refine s_bin H rfl rfl rfl r_xor (lt_ rfl) ?_
    clear H a
    intro a H
    refine s_assign H rfl rfl (lt_ rfl) ?_
    clear H a
    intro a H
    refine c_nil ?_
    refine hK56 _ _ ?_
    refine c_ret ?_
    exact e_ret1 H rfl rfl h

set_option maxRecDepth 100000 in
set_option maxHeartbeats 4000000 in
theorem sim_pack_first_fail (f1 : Option Addr) (e2 : Int) (w : World) (Q : Ending → World → Prop) (h : vc_pack_first_fail f1 e2 w Q) : Calls PP F_pack_first_fail #[(.pointer f1), (.int .i64 e2)] w Q := by
  unfold vc_pack_first_fail at h
  refine enter (n := 13) (l := [(.pointer f1), (.int .i64 e2)]) Tryd.func76 rfl rfl (Nat.le_of_ble_eq_true rfl) fun a H => ?_
  replace H : Has 13 [] a [(0, (.pointer f1)), (1, (.int .i64 e2))] := H
  refine c_seq fun K3 hK3 => ?_
  refine c_reg ?_
  refine s_move H rfl rfl (lt_ rfl) ?_
  clear H a
  intro a H
  obtain ⟨a4, hq11, h⟩ := h
  subst hq11
  refine s_nil H rfl rfl (lt_ rfl) ?_
  clear H a
  intro a H
  refine s_fld H rfl rfl fld_107_0 (lt_ rfl) ?_
  clear H a
  intro a H
  obtain ⟨l5, hc6, h⟩ := h
  refine s_load (v := (.int .i64 l5)) H rfl rfl one_29 hc6 (lt_ rfl) ?_
  clear H a
  intro a H
  refine s_bin H rfl rfl rfl r_eql (lt_ rfl) ?_
  clear H a
  intro a H
  refine c_nil ?_
  refine hK3 _ _ ?_
  refine c_cond H rfl (fun hb7 => ?_) (fun hb7 => ?_)
  · replace h := h.1 hb7
    refine c_reg ?_
    refine s_move H rfl rfl (lt_ rfl) ?_
    clear H a
    intro a H
    refine s_move H rfl rfl (lt_ rfl) ?_
    clear H a
    intro a H
    refine s_nil H rfl rfl (lt_ rfl) ?_
    clear H a
    intro a H
    refine s_fld H rfl rfl fld_107_0 (lt_ rfl) ?_
    clear H a
    intro a H
    obtain ⟨hs9, hf10, h⟩ := h
    refine s_sto (p := a4.add 0) (v := (.int .i64 e2)) H rfl rfl rfl rfl one_29 rfl hs9 hf10 ?_
    clear H
    intro H
    generalize hww8 : World.setCell w (a4.add 0) (.int .i64 e2) = w8 at h ⊢
    have w8S : SetAt w (a4.add 0) (.int .i64 e2) w8 := ⟨hww8.symm⟩
    clear hww8 hs9 hf10
    refine c_nil ?_
    exact e_ret0 H rfl h
  · replace h := h.2 hb7
    refine c_skip ?_
    exact e_ret0 H rfl h

set_option maxRecDepth 100000 in
set_option maxHeartbeats 4000000 in
theorem sim_pack_form (n1 : Int) (w : World) (Q : Ending → World → Prop) (h : vc_pack_form n1 w Q) : Calls PP F_pack_form #[(.int .i64 n1)] w Q := by
  unfold vc_pack_form at h
  refine enter (n := 19) (l := [(.int .i64 n1)]) Tryd.func77 rfl rfl (Nat.le_of_ble_eq_true rfl) fun a H => ?_
  replace H : Has 19 [] a [(0, (.int .i64 n1))] := H
  refine c_seq fun K2 hK2 => ?_
  refine c_reg ?_
  refine s_assign H rfl rfl (lt_ rfl) ?_
  clear H a
  intro a H
  refine c_nil ?_
  refine hK2 _ _ ?_
  refine c_seq fun K3 hK3 => ?_
  refine c_reg ?_
  refine s_assign H rfl rfl (lt_ rfl) ?_
  clear H a
  intro a H
  refine c_nil ?_
  refine hK3 _ _ ?_
  refine c_seq fun K4 hK4 => ?_
  obtain ⟨R7, h, hx34⟩ := h
  have hJ16 : ∀ (a : Act) (n5 : Int) (b6 : Slc) (w8 : World), R7 n5 b6 w8 → Has 19 [] a [(0, (.int .i64 n5)), (3, (Slc.v b6))] → K4 a w8 := by
    clear h
    intro a n5 b6 w8 h H
    replace h := hx34 n5 b6 w8 h
    refine hK4 _ _ ?_
    refine c_seq fun K9 hK9 => ?_
    refine c_reg ?_
    refine s_move H rfl rfl (lt_ rfl) ?_
    clear H a
    intro a H
    refine s_move H rfl rfl (lt_ rfl) ?_
    clear H a
    intro a H
    refine s_cv H rfl rfl (r_cvI some_2 int_5) (lt_ rfl) ?_
    clear H a
    intro a H
    replace h := h.get
    obtain ⟨b10, w11, nb12, h⟩ := h
    refine s_bslc H rfl (by rw [H.parts (vs := [(0, (.int .u8 (wr .u8 n5)))]) rfl]; exact bs_28_1_iu80 w8 (wr .u8 n5)) (lt_ rfl) ?_
    rw [← nb12.at_]
    clear H a
    intro a H
    refine nb12.go ?_
    obtain ⟨s13, w14, hq15, h⟩ := h
    refine s_blt H rfl (H.args (vs := [(Slc.v b6), (Slc.v (Slc.mk (some (blk b10)) 1 1))]) rfl) (lt_ rfl) (fun cs => b_app (z := s13) hq15) ?_
    clear H a hq15
    intro a H
    refine s_assign H rfl rfl (lt_ rfl) ?_
    clear H a
    intro a H
    refine c_nil ?_
    refine hK9 _ _ ?_
    refine c_ret ?_
    exact e_ret1 H rfl rfl h
  clear hx34
  refine c_block ?_
  obtain ⟨I20, mu21, h032, hl33⟩ := h
  refine c_loop (σ := Int × Slc) (fun z w => I20 z.1 z.2 w) (fun z w => mu21 z.1 z.2 w) (fun z => [(0, (.int .i64 z.1)), (3, (Slc.v z.2))]) (n1, Slc.nil) h032 (H.weaken ⟨rfl, rfl, trivial⟩) ?_
  clear H h032
  rintro ⟨n17, b18⟩ a w19 h H
  replace h := hl33 n17 b18 w19 h
  clear hl33
  replace H : Has 19 [] a [(0, (.int .i64 n17)), (3, (Slc.v b18))] := H
  refine c_seq fun K22 hK22 => ?_
  refine c_seq fun K23 hK23 => ?_
  refine c_reg ?_
  refine s_move H rfl rfl (lt_ rfl) ?_
  clear H a
  intro a H
  refine s_bin H rfl rfl rfl r_geq (lt_ rfl) ?_
  clear H a
  intro a H
  refine c_nil ?_
  refine hK23 _ _ ?_
  refine c_cond H rfl (fun hb24 => ?_) (fun hb24 => ?_)
  · replace h := h.1 hb24
    refine c_skip ?_
    refine hK22 _ _ ?_
    refine c_block ?_
    refine c_seq fun K25 hK25 => ?_
    refine c_reg ?_
    refine s_move H rfl rfl (lt_ rfl) ?_
    clear H a
    intro a H
    refine s_move H rfl rfl (lt_ rfl) ?_
    clear H a
    intro a H
    refine s_cv H rfl rfl (r_cvI some_2 int_5) (lt_ rfl) ?_
    clear H a
    intro a H
    refine s_bin H rfl rfl rfl r_or (lt_ rfl) ?_
    clear H a
    intro a H
    replace h := h.get
    obtain ⟨b26, w27, nb28, h⟩ := h
    refine s_bslc H rfl (by rw [H.parts (vs := [(0, (.int .u8 (orI .u8 (wr .u8 n17) 128)))]) rfl]; exact bs_28_1_iu80 w19 (orI .u8 (wr .u8 n17) 128)) (lt_ rfl) ?_
    rw [← nb28.at_]
    clear H a
    intro a H
    refine nb28.go ?_
    obtain ⟨s29, w30, hq31, h⟩ := h
    refine s_blt H rfl (H.args (vs := [(Slc.v b18), (Slc.v (Slc.mk (some (blk b26)) 1 1))]) rfl) (lt_ rfl) (fun cs => b_app (z := s29) hq31) ?_
    clear H a hq31
    intro a H
    refine s_assign H rfl rfl (lt_ rfl) ?_
    clear H a
    intro a H
    refine c_nil ?_
    refine hK25 _ _ ?_
    refine c_reg ?_
    refine s_move H rfl rfl (lt_ rfl) ?_
    clear H a
    intro a H
    refine s_bin H rfl rfl rfl (r_shr (by decide)) (lt_ rfl) ?_
    clear H a
    intro a H
    refine s_assign H rfl rfl (lt_ rfl) ?_
    clear H a
    intro a H
    refine c_nil ?_
    refine Exists.intro (shrI .i64 n17 7, s29) ⟨h.1, h.2, H.weaken ⟨rfl, rfl, trivial⟩⟩
  · replace h := h.2 hb24
    refine c_exit ?_
    simp only [Exit.then, Exit.inBlock, ↓reduceIte, Nat.reduceEqDiff]
    exact hJ16 _ _ _ _ h (H.weaken ⟨rfl, rfl, trivial⟩)

set_option maxRecDepth 100000 in
set_option maxHeartbeats 4000000 in
theorem sim_sherdref08_Valid (t_Count1 : Int) (t_Client2 : Int) (w : World) (Q : Ending → World → Prop) (h : vc_sherdref08_Valid t_Count1 t_Client2 w Q) : Calls PP F_sherdref08_Valid #[(.agg #[(.int .i64 t_Count1), (.int .i64 t_Client2)])] w Q := by
  unfold vc_sherdref08_Valid at h
  refine enter (n := 9) (l := [(.agg #[(.int .i64 t_Count1), (.int .i64 t_Client2)])]) Tryd.func78 rfl rfl (Nat.le_of_ble_eq_true rfl) fun a H => ?_
  replace H : Has 9 [] a [(0, (.agg #[(.int .i64 t_Count1), (.int .i64 t_Client2)]))] := H
  refine c_seq fun K3 hK3 => ?_
  refine c_reg ?_
  replace h := h.get
  obtain ⟨b4, w5, nb6, h⟩ := h
  refine s_box H rfl rfl (lt_ rfl) ?_
  rw [← nb6.at_]
  clear H a
  intro a H
  refine nb6.go ?_
  refine s_assign H rfl rfl (lt_ rfl) ?_
  clear H a
  intro a H
  refine c_nil ?_
  refine hK3 _ _ ?_
  refine c_seq fun K7 hK7 => ?_
  refine c_reg ?_
  refine s_loadN (l := [(.int .i64 t_Count1), (.int .i64 t_Client2)]) H rfl rfl agg_41 rfl ⟨(nb6.cell (i := 0) rfl), (nb6.cell (i := 1) rfl), trivial⟩ (lt_ rfl) ?_
  clear H a
  intro a H
  refine s_call H rfl body_90 (H.args (vs := [(.agg #[(.int .i64 t_Count1), (.int .i64 t_Client2)])]) rfl) (lt_ rfl) h ?_ (fun c w' h H => e_panic (P := PP) (fn := Tryd.f78) H h)
  clear H h a
  rintro _ w8 a ⟨Zero9, rfl, h⟩ H
  refine s_move H rfl rfl (lt_ rfl) ?_
  clear H a
  intro a H
  obtain ⟨R12, h, hx25⟩ := h
  refine g_joinW (n := 9) R12 (fun x13 => [(8, (.bool x13))]) (.succ (.succ (.succ (.zero _)))) ?_ ?_
  · intro hr11
    clear hx25
    rcases Bool.eq_false_or_eq_true Zero9 with hg10 | hg10
    · replace H := H.ch (t := 5) (b := true) rfl hg10
      replace h := h.2 hg10
      refine s_skip H (wantN H rfl rfl rfl) rfl (lt_ rfl) ?_
      clear H a
      intro a H
      refine s_skip H (wantN H rfl rfl rfl) rfl (lt_ rfl) ?_
      clear H a
      intro a H
      refine s_pickT H rfl rfl rfl (lt_ rfl) ?_
      clear H a
      intro a H
      exact hr11 _ _ _ h (H.weaken ⟨rfl, trivial⟩)
    · replace H := H.ch (t := 5) (b := false) rfl hg10
      replace h := h.1 hg10
      obtain ⟨l_Count15, hc16, h⟩ := h
      obtain ⟨l_Client17, hc18, h⟩ := h
      refine s_loadN (l := [(.int .i64 l_Count15), (.int .i64 l_Client17)]) H (wantG H rfl rfl) rfl agg_41 rfl ⟨hc16, hc18, trivial⟩ (lt_ rfl) ?_
      clear H a
      intro a H
      refine s_call H (wantG H rfl rfl) body_91 (H.args (vs := [(.agg #[(.int .i64 l_Count15), (.int .i64 l_Client17)])]) rfl) (lt_ rfl) h ?_ (fun c w' h H => e_panic (P := PP) (fn := Tryd.f78) H h)
      clear H h a
      rintro _ w19 a ⟨proper20, rfl, h⟩ H
      refine s_pickF H rfl rfl rfl (lt_ rfl) ?_
      clear H a
      intro a H
      exact hr11 _ _ _ h (H.weaken ⟨rfl, trivial⟩)
  · clear H a h
    intro a x13 w14 h H
    replace h := hx25 x13 w14 h
    clear hx25
    refine s_assign H rfl rfl (lt_ rfl) ?_
    clear H a
    intro a H
    refine c_nil ?_
    refine hK7 _ _ ?_
    refine c_ret ?_
    exact e_ret1 H rfl rfl h

set_option maxRecDepth 100000 in
set_option maxHeartbeats 4000000 in
theorem sim_sherdref07_Writer_Text (w1 : Option Addr) (s2 : ByteArray) (w : World) (Q : Ending → World → Prop) (h : vc_sherdref07_Writer_Text w1 s2 w Q) : Calls PP F_sherdref07_Writer_Text #[(.pointer w1), (.string s2)] w Q := by
  unfold vc_sherdref07_Writer_Text at h
  refine enter (n := 8) (l := [(.pointer w1), (.string s2)]) Tryd.func79 rfl rfl (Nat.le_of_ble_eq_true rfl) fun a H => ?_
  replace H : Has 8 [] a [(0, (.pointer w1)), (1, (.string s2))] := H
  refine c_reg ?_
  refine s_move H rfl rfl (lt_ rfl) ?_
  clear H a
  intro a H
  refine s_move H rfl rfl (lt_ rfl) ?_
  clear H a
  intro a H
  obtain ⟨s3, w5, hq4, h⟩ := h
  refine s_cv H rfl rfl hq4 (lt_ rfl) ?_
  clear H a hq4
  intro a H
  refine s_call H rfl body_54 (H.args (vs := [(.pointer w1), (Slc.v s3)]) rfl) (lt_ rfl) h ?_ (fun c w' h H => e_panic (P := PP) (fn := Tryd.f79) H h)
  clear H h a
  rintro _ w6 a ⟨rfl, h⟩ H
  refine c_nil ?_
  exact e_ret0 H rfl h

set_option maxRecDepth 100000 in
set_option maxHeartbeats 4000000 in
theorem sim_sherdref07_Writer_Bool (w1 : Option Addr) (b2 : Bool) (w : World) (Q : Ending → World → Prop) (h : vc_sherdref07_Writer_Bool w1 b2 w Q) : Calls PP F_sherdref07_Writer_Bool #[(.pointer w1), (.bool b2)] w Q := by
  unfold vc_sherdref07_Writer_Bool at h
  refine enter (n := 11) (l := [(.pointer w1), (.bool b2)]) Tryd.func80 rfl rfl (Nat.le_of_ble_eq_true rfl) fun a H => ?_
  replace H : Has 11 [] a [(0, (.pointer w1)), (1, (.bool b2))] := H
  refine c_seq fun K3 hK3 => ?_
  refine c_reg ?_
  refine s_move H rfl rfl (lt_ rfl) ?_
  clear H a
  intro a H
  refine c_nil ?_
  refine hK3 _ _ ?_
  refine c_cond H rfl (fun hb4 => ?_) (fun hb4 => ?_)
  · replace h := h.1 hb4
    refine c_reg ?_
    refine s_move H rfl rfl (lt_ rfl) ?_
    clear H a
    intro a H
    replace h := h.get
    obtain ⟨b5, w6, nb7, h⟩ := h
    refine s_bslc H rfl (by rw [H.parts (vs := [(0, (.int .u8 1))]) rfl]; exact bs_28_1_iu80 w 1) (lt_ rfl) ?_
    rw [← nb7.at_]
    clear H a
    intro a H
    refine nb7.go ?_
    refine s_call H rfl body_72 (H.args (vs := [(.pointer w1), (Slc.v (Slc.mk (some (blk b5)) 1 1))]) rfl) (lt_ rfl) h ?_ (fun c w' h H => e_panic (P := PP) (fn := Tryd.f80) H h)
    clear H h a
    rintro _ w8 a ⟨rfl, h⟩ H
    refine c_nil ?_
    exact e_ret0 H rfl h
  · replace h := h.2 hb4
    refine c_reg ?_
    refine s_move H rfl rfl (lt_ rfl) ?_
    clear H a
    intro a H
    replace h := h.get
    obtain ⟨b13, w14, nb15, h⟩ := h
    refine s_bslc H rfl (by rw [H.parts (vs := [(0, (.int .u8 0))]) rfl]; exact bs_28_1_iu80 w 0) (lt_ rfl) ?_
    rw [← nb15.at_]
    clear H a
    intro a H
    refine nb15.go ?_
    refine s_call H rfl body_72 (H.args (vs := [(.pointer w1), (Slc.v (Slc.mk (some (blk b13)) 1 1))]) rfl) (lt_ rfl) h ?_ (fun c w' h H => e_panic (P := PP) (fn := Tryd.f80) H h)
    clear H h a
    rintro _ w16 a ⟨rfl, h⟩ H
    refine c_nil ?_
    exact e_ret0 H rfl h

set_option maxRecDepth 100000 in
set_option maxHeartbeats 4000000 in
theorem sim_pack_Reader_stopped (r1 : Option Addr) (w : World) (Q : Ending → World → Prop) (h : vc_pack_Reader_stopped r1 w Q) : Calls PP F_pack_Reader_stopped #[(.pointer r1)] w Q := by
  unfold vc_pack_Reader_stopped at h
  refine enter (n := 13) (l := [(.pointer r1)]) Tryd.func81 rfl rfl (Nat.le_of_ble_eq_true rfl) fun a H => ?_
  replace H : Has 13 [] a [(0, (.pointer r1))] := H
  refine c_seq fun K2 hK2 => ?_
  refine c_reg ?_
  refine s_assign H rfl rfl (lt_ rfl) ?_
  clear H a
  intro a H
  refine c_nil ?_
  refine hK2 _ _ ?_
  refine c_seq fun K3 hK3 => ?_
  refine c_reg ?_
  refine s_move H rfl rfl (lt_ rfl) ?_
  clear H a
  intro a H
  refine s_bin H rfl rfl rfl (r_eqP0 ptr_97) (lt_ rfl) ?_
  clear H a
  intro a H
  refine s_move H rfl rfl (lt_ rfl) ?_
  clear H a
  intro a H
  obtain ⟨x10, hy11, hn12, h⟩ := h
  refine g_join (n := 13) [(12, (.bool x10))] (.succ (.succ (.succ (.succ (.succ (.succ (.succ (.zero _)))))))) ?_ ?_
  · intro hr5
    try clear h
    rcases Bool.eq_false_or_eq_true r1.isNone with hg4 | hg4
    · replace H := H.ch (t := 5) (b := true) rfl hg4
      refine s_skip H (wantN H rfl rfl rfl) rfl (lt_ rfl) ?_
      clear H a
      intro a H
      refine s_skip H (wantN H rfl rfl rfl) rfl (lt_ rfl) ?_
      clear H a
      intro a H
      refine s_skip H (wantN H rfl rfl rfl) rfl (lt_ rfl) ?_
      clear H a
      intro a H
      refine s_skip H (wantN H rfl rfl rfl) rfl (lt_ rfl) ?_
      clear H a
      intro a H
      refine s_skip H (wantN H rfl rfl rfl) rfl (lt_ rfl) ?_
      clear H a
      intro a H
      refine s_skip H (wantN H rfl rfl rfl) rfl (lt_ rfl) ?_
      clear H a
      intro a H
      refine s_pickT H rfl rfl rfl (lt_ rfl) ?_
      clear H a
      intro a H
      replace h := hn12 hg4
      subst h
      exact hr5 _ (H.weaken ⟨rfl, trivial⟩)
    · replace H := H.ch (t := 5) (b := false) rfl hg4
      replace h := hy11 hg4
      refine s_move H (wantG H rfl rfl) rfl (lt_ rfl) ?_
      clear H a
      intro a H
      obtain ⟨a6, hq9, h⟩ := h
      subst hq9
      refine s_nil H (wantG H rfl rfl) rfl (lt_ rfl) ?_
      clear H a
      intro a H
      refine s_fld H (wantG H rfl rfl) rfl fld_121_0 (lt_ rfl) ?_
      clear H a
      intro a H
      refine s_fld H (wantG H rfl rfl) rfl fld_107_0 (lt_ rfl) ?_
      clear H a
      intro a H
      obtain ⟨l7, hc8, h⟩ := h
      refine s_load (v := (.int .i64 l7)) H (wantG H rfl rfl) rfl one_29 hc8 (lt_ rfl) ?_
      clear H a
      intro a H
      refine s_bin H (wantG H rfl rfl) rfl rfl r_neq (lt_ rfl) ?_
      clear H a
      intro a H
      refine s_pickF H rfl rfl rfl (lt_ rfl) ?_
      clear H a
      intro a H
      subst h
      exact hr5 _ (H.weaken ⟨rfl, trivial⟩)
  · clear H a
    clear hy11 hn12
    intro a H
    refine s_assign H rfl rfl (lt_ rfl) ?_
    clear H a
    intro a H
    refine c_nil ?_
    refine hK3 _ _ ?_
    refine c_ret ?_
    exact e_ret1 H rfl rfl h

set_option maxRecDepth 100000 in
set_option maxHeartbeats 4000000 in
theorem sim_pack_Reader_number (r1 : Option Addr) (max2 : Int) (w : World) (Q : Ending → World → Prop) (h : vc_pack_Reader_number r1 max2 w Q) : Calls PP F_pack_Reader_number #[(.pointer r1), (.int .i64 max2)] w Q := by
  unfold vc_pack_Reader_number at h
  refine enter (n := 56) (l := [(.pointer r1), (.int .i64 max2)]) Tryd.func82 rfl rfl (Nat.le_of_ble_eq_true rfl) fun a H => ?_
  replace H : Has 56 [] a [(0, (.pointer r1)), (1, (.int .i64 max2))] := H
  refine c_seq fun K3 hK3 => ?_
  refine c_reg ?_
  refine s_assign H rfl rfl (lt_ rfl) ?_
  clear H a
  intro a H
  refine s_assign H rfl rfl (lt_ rfl) ?_
  clear H a
  intro a H
  refine s_assign H rfl rfl (lt_ rfl) ?_
  clear H a
  intro a H
  refine c_nil ?_
  refine hK3 _ _ ?_
  refine c_seq fun K4 hK4 => ?_
  refine c_regD mixed (by kernel_rfl) ?_
  refine z_move H rfl rfl (lt_ rfl) ?_
  clear H a
  intro a H
  obtain ⟨a6, hq55, h⟩ := h
  subst hq55
  refine z_nil H rfl rfl (lt_ rfl) ?_
  clear H a
  intro a H
  refine z_fld H rfl rfl fld_121_1 (lt_ rfl) ?_
  clear H a
  intro a H
  obtain ⟨l7, hc8, h⟩ := h
  refine z_load (v := (Slc.v l7)) H rfl rfl one_28 hc8 (lt_ rfl) ?_
  clear H a
  intro a H
  refine z_move H rfl rfl (lt_ rfl) ?_
  clear H a
  intro a H
  refine z_nil H rfl rfl (lt_ rfl) ?_
  clear H a
  intro a H
  refine z_fld H rfl rfl fld_121_2 (lt_ rfl) ?_
  clear H a
  intro a H
  obtain ⟨l9, hc10, h⟩ := h
  refine z_load (v := (.int .i64 l9)) H rfl rfl one_3 hc10 (lt_ rfl) ?_
  clear H a
  intro a H
  obtain ⟨hi11, hi12, hi13, h⟩ := h
  refine z_slice (v := (Slc.v (l7.cut 1 (Int.toNat (l9)) (Int.toNat ((l7.l : Int)))))) H rfl rfl ⟨rfl, rfl⟩ ⟨rfl, rfl⟩ ⟨rfl, rfl⟩ (fun w => r_sliceSlc (lo := (some (.i64, l9))) (hi := none) slc_28 rfl rfl hi11 hi12 hi13) (lt_ rfl) ?_
  clear H a
  intro a H
  refine z_assign H rfl rfl (lt_ rfl) ?_
  clear H a
  intro a H
  refine wpQuiet_nil ?_
  rintro _ ⟨k5, rfl⟩
  replace h := h k5
  refine hK4 _ _ ?_
  refine c_seq fun K14 hK14 => ?_
  refine c_reg ?_
  refine s_assign H rfl rfl (lt_ rfl) ?_
  clear H a
  intro a H
  refine c_nil ?_
  refine hK14 _ _ ?_
  refine c_seq fun K15 hK15 => ?_
  refine c_seq fun K16 hK16 => ?_
  refine c_reg ?_
  refine s_move H rfl rfl (lt_ rfl) ?_
  clear H a
  intro a H
  refine c_nil ?_
  refine hK16 _ _ ?_
  refine c_block ?_
  obtain ⟨I20, mu21, h053, hl54⟩ := h
  refine c_loop (σ := Int × Int) (fun z w => I20 z.1 z.2 w) (fun z w => mu21 z.1 z.2 w) (fun z => [(1, (.int .i64 max2)), (7, (Slc.v (l7.cut 1 (Int.toNat (l9)) (Int.toNat ((l7.l : Int)))))), (8, (.int .i64 z.1)), (20, (.int .i64 z.2))]) (0, 0) h053 (H.weaken ⟨rfl, rfl, rfl, rfl, trivial⟩) ?_
  clear H h053
  rintro ⟨n17, s18⟩ a w19 h H
  replace h := hl54 n17 s18 w19 h
  clear hl54
  replace H : Has 56 [] a [(1, (.int .i64 max2)), (7, (Slc.v (l7.cut 1 (Int.toNat (l9)) (Int.toNat ((l7.l : Int)))))), (8, (.int .i64 n17)), (20, (.int .i64 s18))] := H
  refine c_seq fun K22 hK22 => ?_
  refine c_reg ?_
  refine s_bin H rfl rfl rfl r_lss (lt_ rfl) ?_
  clear H a
  intro a H
  refine c_nil ?_
  refine hK22 _ _ ?_
  refine c_seq fun K23 hK23 => ?_
  refine c_cond H rfl (fun hb24 => ?_) (fun hb24 => ?_)
  · replace h := h.1 hb24
    refine c_skip ?_
    refine hK23 _ _ ?_
    refine c_seq fun K25 hK25 => ?_
    refine c_block ?_
    refine c_seq fun K26 hK26 => ?_
    refine c_reg ?_
    refine s_move H rfl rfl (lt_ rfl) ?_
    clear H a
    intro a H
    refine s_assign H rfl rfl (lt_ rfl) ?_
    clear H a
    intro a H
    refine c_nil ?_
    refine hK26 _ _ ?_
    refine c_seq fun K27 hK27 => ?_
    refine c_seq fun K28 hK28 => ?_
    refine c_reg ?_
    refine s_move H rfl rfl (lt_ rfl) ?_
    clear H a
    intro a H
    refine s_move H rfl rfl (lt_ rfl) ?_
    clear H a
    intro a H
    refine s_blt H rfl (H.args (vs := [(Slc.v (l7.cut 1 (Int.toNat (l9)) (Int.toNat ((l7.l : Int)))))]) rfl) (lt_ rfl) (fun cs => b_lenS (z := l7.cut 1 (Int.toNat (l9)) (Int.toNat ((l7.l : Int)))) sl_28) ?_
    clear H a
    intro a H
    refine s_bin H rfl rfl rfl r_geq (lt_ rfl) ?_
    clear H a
    intro a H
    refine c_nil ?_
    refine hK28 _ _ ?_
    refine c_cond H rfl (fun hb29 => ?_) (fun hb29 => ?_)
    · replace h := h.1 hb29
      refine c_seq fun K30 hK30 => ?_
      refine c_reg ?_
      refine s_assign H rfl rfl (lt_ rfl) ?_
      clear H a
      intro a H
      refine s_assign H rfl rfl (lt_ rfl) ?_
      clear H a
      intro a H
      refine s_assign H rfl rfl (lt_ rfl) ?_
      clear H a
      intro a H
      refine c_nil ?_
      refine hK30 _ _ ?_
      refine c_ret ?_
      exact e_ret3 H rfl rfl rfl rfl h
    · replace h := h.2 hb29
      refine c_skip ?_
      refine hK27 _ _ ?_
      refine c_seq fun K31 hK31 => ?_
      refine c_reg ?_
      refine s_move H rfl rfl (lt_ rfl) ?_
      clear H a
      intro a H
      refine s_move H rfl rfl (lt_ rfl) ?_
      clear H a
      intro a H
      obtain ⟨a32, hi33, hi34, hi35, h⟩ := h
      refine s_idxS (s := l7.cut 1 (Int.toNat (l9)) (Int.toNat ((l7.l : Int)))) H rfl rfl rfl slc_28 hi33 hi34 hi35 (lt_ rfl) ?_
      clear H a
      intro a H
      obtain ⟨l36, hc37, h⟩ := h
      refine s_load (v := (.int .u8 l36)) H rfl rfl one_5 hc37 (lt_ rfl) ?_
      clear H a
      intro a H
      refine s_assign H rfl rfl (lt_ rfl) ?_
      clear H a
      intro a H
      refine c_nil ?_
      refine hK31 _ _ ?_
      refine c_seq fun K38 hK38 => ?_
      refine c_reg ?_
      refine s_move H rfl rfl (lt_ rfl) ?_
      clear H a
      intro a H
      refine s_move H rfl rfl (lt_ rfl) ?_
      clear H a
      intro a H
      refine s_bin H rfl rfl rfl r_and (lt_ rfl) ?_
      clear H a
      intro a H
      refine s_cv H rfl rfl (r_cvI some_5 int_2) (lt_ rfl) ?_
      clear H a
      intro a H
      refine s_move H rfl rfl (lt_ rfl) ?_
      clear H a
      intro a H
      refine s_bin H rfl rfl rfl r_mul (lt_ rfl) ?_
      clear H a
      intro a H
      obtain ⟨hz39, h⟩ := h
      refine s_bin H rfl rfl rfl (r_shl hz39) (lt_ rfl) ?_
      clear H a
      intro a H
      refine s_bin H rfl rfl rfl r_or (lt_ rfl) ?_
      clear H a
      intro a H
      refine s_assign H rfl rfl (lt_ rfl) ?_
      clear H a
      intro a H
      refine c_nil ?_
      refine hK38 _ _ ?_
      refine c_seq fun K40 hK40 => ?_
      refine c_reg ?_
      refine s_move H rfl rfl (lt_ rfl) ?_
      clear H a
      intro a H
      refine s_bin H rfl rfl rfl r_lss (lt_ rfl) ?_
      clear H a
      intro a H
      refine c_nil ?_
      refine hK40 _ _ ?_
      refine c_cond H rfl (fun hb41 => ?_) (fun hb41 => ?_)
      · replace h := h.1 hb41
        refine c_seq fun K42 hK42 => ?_
        refine c_block ?_
        refine c_seq fun K43 hK43 => ?_
        refine c_reg ?_
        refine s_move H rfl rfl (lt_ rfl) ?_
        clear H a
        intro a H
        refine s_bin H rfl rfl rfl r_eql (lt_ rfl) ?_
        clear H a
        intro a H
        refine s_move H rfl rfl (lt_ rfl) ?_
        clear H a
        intro a H
        refine g_join (n := 56) [(47, (.bool ((decide (l36 = 0)) && (decide (0 < s18))))), (1, (.int .i64 max2)), (8, (.int .i64 (orI .i64 n17 (shlI .i64 (wr .i64 (andI .u8 l36 127)) (wr .i64 (7 * s18)))))), (9, (.int .i64 s18))] (.succ (.succ (.succ (.zero _)))) ?_ ?_
        · intro hr45
          try clear h
          rcases Bool.eq_false_or_eq_true (decide (l36 = 0)) with hg44 | hg44
          · replace H := H.ch (t := 44) (b := true) rfl hg44
            refine s_move H (wantG H rfl rfl) rfl (lt_ rfl) ?_
            clear H a
            intro a H
            refine s_bin H (wantG H rfl rfl) rfl rfl r_gtr (lt_ rfl) ?_
            clear H a
            intro a H
            refine s_pickT H rfl rfl rfl (lt_ rfl) ?_
            clear H a
            intro a H
            exact hr45 _ (H.weaken ⟨by rw [hg44]; rfl, rfl, rfl, rfl, trivial⟩)
          · replace H := H.ch (t := 44) (b := false) rfl hg44
            refine s_skip H (wantN H rfl rfl rfl) rfl (lt_ rfl) ?_
            clear H a
            intro a H
            refine s_skip H (wantN H rfl rfl rfl) rfl (lt_ rfl) ?_
            clear H a
            intro a H
            refine s_pickF H rfl rfl rfl (lt_ rfl) ?_
            clear H a
            intro a H
            exact hr45 _ (H.weaken ⟨by rw [hg44]; rfl, rfl, rfl, rfl, trivial⟩)
        · clear H a
          intro a H
          refine s_assign H rfl rfl (lt_ rfl) ?_
          clear H a
          intro a H
          refine c_nil ?_
          refine hK43 _ _ ?_
          refine c_cond H rfl (fun hb46 => ?_) (fun hb46 => ?_)
          · replace h := h.1 hb46
            refine c_seq fun K47 hK47 => ?_
            refine c_reg ?_
            refine s_assign H rfl rfl (lt_ rfl) ?_
            clear H a
            intro a H
            refine s_assign H rfl rfl (lt_ rfl) ?_
            clear H a
            intro a H
            refine s_assign H rfl rfl (lt_ rfl) ?_
            clear H a
            intro a H
            refine c_nil ?_
            refine hK47 _ _ ?_
            refine c_ret ?_
            exact e_ret3 H rfl rfl rfl rfl h
          · replace h := h.2 hb46
            refine c_seq fun K48 hK48 => ?_
            refine c_reg ?_
            refine s_move H rfl rfl (lt_ rfl) ?_
            clear H a
            intro a H
            refine s_move H rfl rfl (lt_ rfl) ?_
            clear H a
            intro a H
            refine s_bin H rfl rfl rfl r_gtr (lt_ rfl) ?_
            clear H a
            intro a H
            refine s_assign H rfl rfl (lt_ rfl) ?_
            clear H a
            intro a H
            refine c_nil ?_
            refine hK48 _ _ ?_
            refine c_cond H rfl (fun hb49 => ?_) (fun hb49 => ?_)
            · replace h := h.1 hb49
              refine c_seq fun K50 hK50 => ?_
              refine c_reg ?_
              refine s_assign H rfl rfl (lt_ rfl) ?_
              clear H a
              intro a H
              refine s_assign H rfl rfl (lt_ rfl) ?_
              clear H a
              intro a H
              refine s_assign H rfl rfl (lt_ rfl) ?_
              clear H a
              intro a H
              refine c_nil ?_
              refine hK50 _ _ ?_
              refine c_ret ?_
              exact e_ret3 H rfl rfl rfl rfl h
            · replace h := h.2 hb49
              refine c_skip ?_
              refine hK42 _ _ ?_
              refine c_seq fun K51 hK51 => ?_
              refine c_reg ?_
              refine s_move H rfl rfl (lt_ rfl) ?_
              clear H a
              intro a H
              refine s_move H rfl rfl (lt_ rfl) ?_
              clear H a
              intro a H
              refine s_bin H rfl rfl rfl r_add (lt_ rfl) ?_
              clear H a
              intro a H
              refine s_assign H rfl rfl (lt_ rfl) ?_
              clear H a
              intro a H
              refine s_assign H rfl rfl (lt_ rfl) ?_
              clear H a
              intro a H
              refine s_assign H rfl rfl (lt_ rfl) ?_
              clear H a
              intro a H
              refine c_nil ?_
              refine hK51 _ _ ?_
              refine c_ret ?_
              exact e_ret3 H rfl rfl rfl rfl h
      · replace h := h.2 hb41
        refine c_skip ?_
        refine hK25 _ _ ?_
        refine c_reg ?_
        refine s_bin H rfl rfl rfl r_add (lt_ rfl) ?_
        clear H a
        intro a H
        refine s_move H rfl rfl (lt_ rfl) ?_
        clear H a
        intro a H
        refine c_nil ?_
        refine Exists.intro (orI .i64 n17 (shlI .i64 (wr .i64 (andI .u8 l36 127)) (wr .i64 (7 * s18))), wr .i64 (s18 + 1)) ⟨h.1, h.2, H.weaken ⟨rfl, rfl, rfl, rfl, trivial⟩⟩
  · replace h := h.2 hb24
    refine c_exit ?_
    simp only [Exit.then, Exit.inBlock, ↓reduceIte, Nat.reduceEqDiff]
    refine hK15 _ _ ?_
    refine c_seq fun K52 hK52 => ?_
    refine c_reg ?_
    refine s_assign H rfl rfl (lt_ rfl) ?_
    clear H a
    intro a H
    refine s_assign H rfl rfl (lt_ rfl) ?_
    clear H a
    intro a H
    refine s_assign H rfl rfl (lt_ rfl) ?_
    clear H a
    intro a H
    refine c_nil ?_
    refine hK52 _ _ ?_
    refine c_ret ?_
    exact e_ret3 H rfl rfl rfl rfl h

set_option maxRecDepth 100000 in
set_option maxHeartbeats 4000000 in
theorem sim_pack_first_Err (f1 : Option Addr) (w : World) (Q : Ending → World → Prop) (h : vc_pack_first_Err f1 w Q) : Calls PP F_pack_first_Err #[(.pointer f1)] w Q := by
  unfold vc_pack_first_Err at h
  refine enter (n := 7) (l := [(.pointer f1)]) Tryd.func83 rfl rfl (Nat.le_of_ble_eq_true rfl) fun a H => ?_
  replace H : Has 7 [] a [(0, (.pointer f1))] := H
  refine c_seq fun K2 hK2 => ?_
  refine c_reg ?_
  refine s_assign H rfl rfl (lt_ rfl) ?_
  clear H a
  intro a H
  refine c_nil ?_
  refine hK2 _ _ ?_
  refine c_seq fun K3 hK3 => ?_
  refine c_reg ?_
  refine s_move H rfl rfl (lt_ rfl) ?_
  clear H a
  intro a H
  obtain ⟨a4, hq7, h⟩ := h
  subst hq7
  refine s_nil H rfl rfl (lt_ rfl) ?_
  clear H a
  intro a H
  refine s_fld H rfl rfl fld_107_0 (lt_ rfl) ?_
  clear H a
  intro a H
  obtain ⟨l5, hc6, h⟩ := h
  refine s_load (v := (.int .i64 l5)) H rfl rfl one_29 hc6 (lt_ rfl) ?_
  clear H a
  intro a H
  refine s_assign H rfl rfl (lt_ rfl) ?_
  clear H a
  intro a H
  refine c_nil ?_
  refine hK3 _ _ ?_
  refine c_ret ?_
  exact e_ret1 H rfl rfl h

set_option maxRecDepth 100000 in
set_option maxHeartbeats 4000000 in
theorem sim_pack_Reader_Text (r1 : Option Addr) (max2 : Int) (w : World) (Q : Ending → World → Prop) (h : vc_pack_Reader_Text r1 max2 w Q) : Calls PP F_pack_Reader_Text #[(.pointer r1), (.int .i64 max2)] w Q := by
  unfold vc_pack_Reader_Text at h
  refine enter (n := 9) (l := [(.pointer r1), (.int .i64 max2)]) Tryd.func84 rfl rfl (Nat.le_of_ble_eq_true rfl) fun a H => ?_
  replace H : Has 9 [] a [(0, (.pointer r1)), (1, (.int .i64 max2))] := H
  refine c_seq fun K3 hK3 => ?_
  refine c_reg ?_
  refine s_assign H rfl rfl (lt_ rfl) ?_
  clear H a
  intro a H
  refine c_nil ?_
  refine hK3 _ _ ?_
  refine c_seq fun K4 hK4 => ?_
  refine c_reg ?_
  refine s_move H rfl rfl (lt_ rfl) ?_
  clear H a
  intro a H
  refine s_move H rfl rfl (lt_ rfl) ?_
  clear H a
  intro a H
  refine s_call H rfl body_86 (H.args (vs := [(.pointer r1), (.int .i64 max2)]) rfl) (lt_ rfl) h ?_ (fun c w' h H => e_panic (P := PP) (fn := Tryd.f84) H h)
  clear H h a
  rintro _ w5 a ⟨Bytes6, rfl, h⟩ H
  obtain ⟨s7, hq8, h⟩ := h
  refine s_cv H rfl rfl hq8 (lt_ rfl) ?_
  clear H a hq8
  intro a H
  refine s_assign H rfl rfl (lt_ rfl) ?_
  clear H a
  intro a H
  refine c_nil ?_
  refine hK4 _ _ ?_
  refine c_ret ?_
  exact e_ret1 H rfl rfl h

set_option maxRecDepth 100000 in
set_option maxHeartbeats 4000000 in
theorem sim_pack_Reader_Bool (r1 : Option Addr) (w : World) (Q : Ending → World → Prop) (h : vc_pack_Reader_Bool r1 w Q) : Calls PP F_pack_Reader_Bool #[(.pointer r1)] w Q := by
  unfold vc_pack_Reader_Bool at h
  refine enter (n := 35) (l := [(.pointer r1)]) Tryd.func85 rfl rfl (Nat.le_of_ble_eq_true rfl) fun a H => ?_
  replace H : Has 35 [] a [(0, (.pointer r1))] := H
  refine c_seq fun K2 hK2 => ?_
  refine c_reg ?_
  refine s_assign H rfl rfl (lt_ rfl) ?_
  clear H a
  intro a H
  refine c_nil ?_
  refine hK2 _ _ ?_
  refine c_seq fun K3 hK3 => ?_
  refine c_seq fun K4 hK4 => ?_
  refine c_reg ?_
  refine s_move H rfl rfl (lt_ rfl) ?_
  clear H a
  intro a H
  refine s_call H rfl body_81 (H.args (vs := [(.pointer r1)]) rfl) (lt_ rfl) h ?_ (fun c w' h H => e_panic (P := PP) (fn := Tryd.f85) H h)
  clear H h a
  rintro _ w5 a ⟨stoppe6, rfl, h⟩ H
  refine c_nil ?_
  refine hK4 _ _ ?_
  refine c_cond H rfl (fun hb7 => ?_) (fun hb7 => ?_)
  · replace h := h.1 hb7
    refine c_seq fun K8 hK8 => ?_
    refine c_reg ?_
    refine s_assign H rfl rfl (lt_ rfl) ?_
    clear H a
    intro a H
    refine c_nil ?_
    refine hK8 _ _ ?_
    refine c_ret ?_
    exact e_ret1 H rfl rfl h
  · replace h := h.2 hb7
    refine c_skip ?_
    refine hK3 _ _ ?_
    refine c_seq fun K9 hK9 => ?_
    refine c_seq fun K10 hK10 => ?_
    refine c_regD mixed (by kernel_rfl) ?_
    refine z_move H rfl rfl (lt_ rfl) ?_
    clear H a
    intro a H
    obtain ⟨a12, hq47, h⟩ := h
    subst hq47
    refine z_nil H rfl rfl (lt_ rfl) ?_
    clear H a
    intro a H
    refine z_fld H rfl rfl fld_121_2 (lt_ rfl) ?_
    clear H a
    intro a H
    obtain ⟨l13, hc14, h⟩ := h
    refine z_load (v := (.int .i64 l13)) H rfl rfl one_3 hc14 (lt_ rfl) ?_
    clear H a
    intro a H
    refine z_move H rfl rfl (lt_ rfl) ?_
    clear H a
    intro a H
    refine z_nil H rfl rfl (lt_ rfl) ?_
    clear H a
    intro a H
    refine z_fld H rfl rfl fld_121_1 (lt_ rfl) ?_
    clear H a
    intro a H
    obtain ⟨l15, hc16, h⟩ := h
    refine z_load (v := (Slc.v l15)) H rfl rfl one_28 hc16 (lt_ rfl) ?_
    clear H a
    intro a H
    refine z_blt H rfl (H.args (vs := [(Slc.v l15)]) rfl) (lt_ rfl) (fun cs w => b_lenS (z := l15) sl_28) ?_
    clear H a
    intro a H
    refine z_bin H rfl rfl rfl r_lss (lt_ rfl) ?_
    clear H a
    intro a H
    refine z_move H rfl rfl (lt_ rfl) ?_
    clear H a
    intro a H
    obtain ⟨x29, hy30, hn31, h⟩ := h
    refine zg_join (n := 35) [(27, (.bool x29)), (0, (.pointer (some a12)))] (.succ (.succ (.succ (.succ (.succ (.succ (.succ (.succ (.succ (.succ (.succ (.succ (.zero _))))))))))))) ?_ ?_
    · intro hr18
      try clear h
      rcases Bool.eq_false_or_eq_true (decide (l13 < (l15.l : Int))) with hg17 | hg17
      · replace H := H.ch (t := 15) (b := true) rfl hg17
        replace h := hy30 hg17
        refine z_move H (wantG H rfl rfl) rfl (lt_ rfl) ?_
        clear H a
        intro a H
        refine z_nil H (wantG H rfl rfl) rfl (lt_ rfl) ?_
        clear H a
        intro a H
        refine z_fld H (wantG H rfl rfl) rfl fld_121_1 (lt_ rfl) ?_
        clear H a
        intro a H
        obtain ⟨l19, hc20, h⟩ := h
        refine z_load (v := (Slc.v l19)) H (wantG H rfl rfl) rfl one_28 hc20 (lt_ rfl) ?_
        clear H a
        intro a H
        refine z_move H (wantG H rfl rfl) rfl (lt_ rfl) ?_
        clear H a
        intro a H
        refine z_nil H (wantG H rfl rfl) rfl (lt_ rfl) ?_
        clear H a
        intro a H
        refine z_fld H (wantG H rfl rfl) rfl fld_121_2 (lt_ rfl) ?_
        clear H a
        intro a H
        obtain ⟨l21, hc22, h⟩ := h
        refine z_load (v := (.int .i64 l21)) H (wantG H rfl rfl) rfl one_3 hc22 (lt_ rfl) ?_
        clear H a
        intro a H
        obtain ⟨a23, hi24, hi25, hi26, h⟩ := h
        refine z_idxS (s := l19) H (wantG H rfl rfl) rfl rfl slc_28 hi24 hi25 hi26 (lt_ rfl) ?_
        clear H a
        intro a H
        obtain ⟨l27, hc28, h⟩ := h
        refine z_load (v := (.int .u8 l27)) H (wantG H rfl rfl) rfl one_5 hc28 (lt_ rfl) ?_
        clear H a
        intro a H
        refine z_bin H (wantG H rfl rfl) rfl rfl r_gtr (lt_ rfl) ?_
        clear H a
        intro a H
        refine z_pickT H rfl rfl rfl (lt_ rfl) ?_
        clear H a
        intro a H
        subst h
        exact hr18 _ (H.weaken ⟨rfl, rfl, trivial⟩)
      · replace H := H.ch (t := 15) (b := false) rfl hg17
        refine z_skip H (wantN H rfl rfl rfl) rfl (lt_ rfl) ?_
        clear H a
        intro a H
        refine z_skip H (wantN H rfl rfl rfl) rfl (lt_ rfl) ?_
        clear H a
        intro a H
        refine z_skip H (wantN H rfl rfl rfl) rfl (lt_ rfl) ?_
        clear H a
        intro a H
        refine z_skip H (wantN H rfl rfl rfl) rfl (lt_ rfl) ?_
        clear H a
        intro a H
        refine z_skip H (wantN H rfl rfl rfl) rfl (lt_ rfl) ?_
        clear H a
        intro a H
        refine z_skip H (wantN H rfl rfl rfl) rfl (lt_ rfl) ?_
        clear H a
        intro a H
        refine z_skip H (wantN H rfl rfl rfl) rfl (lt_ rfl) ?_
        clear H a
        intro a H
        refine z_skip H (wantN H rfl rfl rfl) rfl (lt_ rfl) ?_
        clear H a
        intro a H
        refine z_skip H (wantN H rfl rfl rfl) rfl (lt_ rfl) ?_
        clear H a
        intro a H
        refine z_skip H (wantN H rfl rfl rfl) rfl (lt_ rfl) ?_
        clear H a
        intro a H
        refine z_skip H (wantN H rfl rfl rfl) rfl (lt_ rfl) ?_
        clear H a
        intro a H
        refine z_pickF H rfl rfl rfl (lt_ rfl) ?_
        clear H a
        intro a H
        replace h := hn31 hg17
        subst h
        exact hr18 _ (H.weaken ⟨rfl, rfl, trivial⟩)
    · clear H a
      clear hy30 hn31
      intro a H
      refine wpQuiet_nil ?_
      rintro _ ⟨k11, rfl⟩
      replace h := h k11
      refine hK10 _ _ ?_
      refine c_cond H rfl (fun hb32 => ?_) (fun hb32 => ?_)
      · replace h := h.1 hb32
        refine c_seq fun K33 hK33 => ?_
        refine c_reg ?_
        refine s_move H rfl rfl (lt_ rfl) ?_
        clear H a
        intro a H
        refine s_nil H rfl rfl (lt_ rfl) ?_
        clear H a
        intro a H
        refine s_fld H rfl rfl fld_121_0 (lt_ rfl) ?_
        clear H a
        intro a H
        refine s_call H rfl body_76 (H.args (vs := [(.pointer (some (a12.add 0))), (.int .i64 31)]) rfl) (lt_ rfl) h ?_ (fun c w' h H => e_panic (P := PP) (fn := Tryd.f85) H h)
        clear H h a
        rintro _ w34 a ⟨rfl, h⟩ H
        refine c_nil ?_
        refine hK33 _ _ ?_
        refine c_seq fun K35 hK35 => ?_
        refine c_reg ?_
        refine s_assign H rfl rfl (lt_ rfl) ?_
        clear H a
        intro a H
        refine c_nil ?_
        refine hK35 _ _ ?_
        refine c_ret ?_
        exact e_ret1 H rfl rfl h
      · replace h := h.2 hb32
        refine c_skip ?_
        refine hK9 _ _ ?_
        refine c_seq fun K40 hK40 => ?_
        refine c_reg ?_
        refine s_move H rfl rfl (lt_ rfl) ?_
        clear H a
        intro a H
        refine s_call H rfl body_58 (H.args (vs := [(.pointer (some a12))]) rfl) (lt_ rfl) h ?_ (fun c w' h H => e_panic (P := PP) (fn := Tryd.f85) H h)
        clear H h a
        rintro _ w41 a ⟨Byte42, rfl, h⟩ H
        refine s_bin H rfl rfl rfl r_eql (lt_ rfl) ?_
        clear H a
        intro a H
        refine s_assign H rfl rfl (lt_ rfl) ?_
        clear H a
        intro a H
        refine c_nil ?_
        refine hK40 _ _ ?_
        refine c_ret ?_
        exact e_ret1 H rfl rfl h

set_option maxRecDepth 100000 in
set_option maxHeartbeats 4000000 in
theorem sim_tag_proper (t_Count1 : Int) (t_Client2 : Int) (w : World) (Q : Ending → World → Prop) (h : vc_tag_proper t_Count1 t_Client2 w Q) : Calls PP F_tag_proper #[(.agg #[(.int .i64 t_Count1), (.int .i64 t_Client2)])] w Q := by
  unfold vc_tag_proper at h
  refine enter (n := 21) (l := [(.agg #[(.int .i64 t_Count1), (.int .i64 t_Client2)])]) Tryd.func88 rfl rfl (Nat.le_of_ble_eq_true rfl) fun a H => ?_
  replace H : Has 21 [] a [(0, (.agg #[(.int .i64 t_Count1), (.int .i64 t_Client2)]))] := H
  refine c_seq fun K3 hK3 => ?_
  refine c_reg ?_
  replace h := h.get
  obtain ⟨b4, w5, nb6, h⟩ := h
  refine s_box H rfl rfl (lt_ rfl) ?_
  rw [← nb6.at_]
  clear H a
  intro a H
  refine nb6.go ?_
  refine s_assign H rfl rfl (lt_ rfl) ?_
  clear H a
  intro a H
  refine c_nil ?_
  refine hK3 _ _ ?_
  refine c_seq fun K7 hK7 => ?_
  refine c_reg ?_
  refine s_fld H rfl rfl fld_41_0 (lt_ rfl) ?_
  clear H a
  intro a H
  refine s_load (v := (.int .i64 t_Count1)) H rfl rfl one_2 (nb6.cell (i := 0) rfl) (lt_ rfl) ?_
  clear H a
  intro a H
  refine s_bin H rfl rfl rfl r_geq (lt_ rfl) ?_
  clear H a
  intro a H
  refine s_move H rfl rfl (lt_ rfl) ?_
  clear H a
  intro a H
  refine g_join (n := 21) [(10, (.bool ((decide (1 ≤ t_Count1)) && (decide (t_Count1 ≤ 4611686018427387903))))), (1, (.pointer (some (blk b4))))] (.succ (.succ (.succ (.succ (.zero _))))) ?_ ?_
  · intro hr9
    try clear h
    rcases Bool.eq_false_or_eq_true (decide (1 ≤ t_Count1)) with hg8 | hg8
    · replace H := H.ch (t := 6) (b := true) rfl hg8
      refine s_fld H (wantG H rfl rfl) rfl fld_41_0 (lt_ rfl) ?_
      clear H a
      intro a H
      refine s_load (v := (.int .i64 t_Count1)) H (wantG H rfl rfl) rfl one_2 (nb6.cell (i := 0) rfl) (lt_ rfl) ?_
      clear H a
      intro a H
      refine s_bin H (wantG H rfl rfl) rfl rfl r_leq (lt_ rfl) ?_
      clear H a
      intro a H
      refine s_pickT H rfl rfl rfl (lt_ rfl) ?_
      clear H a
      intro a H
      exact hr9 _ (H.weaken ⟨by rw [hg8]; rfl, rfl, trivial⟩)
    · replace H := H.ch (t := 6) (b := false) rfl hg8
      refine s_skip H (wantN H rfl rfl rfl) rfl (lt_ rfl) ?_
      clear H a
      intro a H
      refine s_skip H (wantN H rfl rfl rfl) rfl (lt_ rfl) ?_
      clear H a
      intro a H
      refine s_skip H (wantN H rfl rfl rfl) rfl (lt_ rfl) ?_
      clear H a
      intro a H
      refine s_pickF H rfl rfl rfl (lt_ rfl) ?_
      clear H a
      intro a H
      exact hr9 _ (H.weaken ⟨by rw [hg8]; rfl, rfl, trivial⟩)
  · clear H a
    intro a H
    refine s_move H rfl rfl (lt_ rfl) ?_
    clear H a
    intro a H
    refine g_join (n := 21) [(15, (.bool (((decide (1 ≤ t_Count1)) && (decide (t_Count1 ≤ 4611686018427387903))) && (decide (1 ≤ t_Client2))))), (1, (.pointer (some (blk b4))))] (.succ (.succ (.succ (.succ (.zero _))))) ?_ ?_
    · intro hr11
      try clear h
      rcases Bool.eq_false_or_eq_true ((decide (1 ≤ t_Count1)) && (decide (t_Count1 ≤ 4611686018427387903))) with hg10 | hg10
      · replace H := H.ch (t := 11) (b := true) rfl hg10
        refine s_fld H (wantG H rfl rfl) rfl fld_41_1 (lt_ rfl) ?_
        clear H a
        intro a H
        refine s_load (v := (.int .i64 t_Client2)) H (wantG H rfl rfl) rfl one_3 (nb6.cell (i := 1) rfl) (lt_ rfl) ?_
        clear H a
        intro a H
        refine s_bin H (wantG H rfl rfl) rfl rfl r_geq (lt_ rfl) ?_
        clear H a
        intro a H
        refine s_pickT H rfl rfl rfl (lt_ rfl) ?_
        clear H a
        intro a H
        exact hr11 _ (H.weaken ⟨by rw [hg10]; rfl, rfl, trivial⟩)
      · replace H := H.ch (t := 11) (b := false) rfl hg10
        refine s_skip H (wantN H rfl rfl rfl) rfl (lt_ rfl) ?_
        clear H a
        intro a H
        refine s_skip H (wantN H rfl rfl rfl) rfl (lt_ rfl) ?_
        clear H a
        intro a H
        refine s_skip H (wantN H rfl rfl rfl) rfl (lt_ rfl) ?_
        clear H a
        intro a H
        refine s_pickF H rfl rfl rfl (lt_ rfl) ?_
        clear H a
        intro a H
        exact hr11 _ (H.weaken ⟨by rw [hg10]; rfl, rfl, trivial⟩)
    · clear H a
      intro a H
      refine s_move H rfl rfl (lt_ rfl) ?_
      clear H a
      intro a H
      refine g_join (n := 21) [(20, (.bool ((((decide (1 ≤ t_Count1)) && (decide (t_Count1 ≤ 4611686018427387903))) && (decide (1 ≤ t_Client2))) && (decide (t_Client2 ≤ 65535)))))] (.succ (.succ (.succ (.succ (.zero _))))) ?_ ?_
      · intro hr13
        try clear h
        rcases Bool.eq_false_or_eq_true (((decide (1 ≤ t_Count1)) && (decide (t_Count1 ≤ 4611686018427387903))) && (decide (1 ≤ t_Client2))) with hg12 | hg12
        · replace H := H.ch (t := 16) (b := true) rfl hg12
          refine s_fld H (wantG H rfl rfl) rfl fld_41_1 (lt_ rfl) ?_
          clear H a
          intro a H
          refine s_load (v := (.int .i64 t_Client2)) H (wantG H rfl rfl) rfl one_3 (nb6.cell (i := 1) rfl) (lt_ rfl) ?_
          clear H a
          intro a H
          refine s_bin H (wantG H rfl rfl) rfl rfl r_leq (lt_ rfl) ?_
          clear H a
          intro a H
          refine s_pickT H rfl rfl rfl (lt_ rfl) ?_
          clear H a
          intro a H
          exact hr13 _ (H.weaken ⟨by rw [hg12]; rfl, trivial⟩)
        · replace H := H.ch (t := 16) (b := false) rfl hg12
          refine s_skip H (wantN H rfl rfl rfl) rfl (lt_ rfl) ?_
          clear H a
          intro a H
          refine s_skip H (wantN H rfl rfl rfl) rfl (lt_ rfl) ?_
          clear H a
          intro a H
          refine s_skip H (wantN H rfl rfl rfl) rfl (lt_ rfl) ?_
          clear H a
          intro a H
          refine s_pickF H rfl rfl rfl (lt_ rfl) ?_
          clear H a
          intro a H
          exact hr13 _ (H.weaken ⟨by rw [hg12]; rfl, trivial⟩)
      · clear H a
        intro a H
        refine s_assign H rfl rfl (lt_ rfl) ?_
        clear H a
        intro a H
        refine c_nil ?_
        refine hK7 _ _ ?_
        refine c_ret ?_
        exact e_ret1 H rfl rfl h

set_option maxRecDepth 100000 in
set_option maxHeartbeats 4000000 in
theorem sim_sherdref06_bitwise (n1 : Int) (w : World) (Q : Ending → World → Prop) (h : vc_sherdref06_bitwise n1 w Q) : Calls PP F_sherdref06_bitwise #[(.int .u32 n1)] w Q := by
  unfold vc_sherdref06_bitwise at h
  refine enter (n := 17) (l := [(.int .u32 n1)]) Tryd.func89 rfl rfl (Nat.le_of_ble_eq_true rfl) fun a H => ?_
  replace H : Has 17 [] a [(0, (.int .u32 n1))] := H
  refine c_seq fun K2 hK2 => ?_
  refine c_reg ?_
  refine s_assign H rfl rfl (lt_ rfl) ?_
  clear H a
  intro a H
  refine c_nil ?_
  refine hK2 _ _ ?_
  refine c_seq fun K3 hK3 => ?_
  refine c_seq fun K4 hK4 => ?_
  refine c_reg ?_
  refine s_assign H rfl rfl (lt_ rfl) ?_
  clear H a
  intro a H
  refine c_nil ?_
  refine hK4 _ _ ?_
  refine c_block ?_
  obtain ⟨I8, mu9, h022, hl23⟩ := h
  refine c_loop (σ := Int × Int) (fun z w => I8 z.1 z.2 w) (fun z w => mu9 z.1 z.2 w) (fun z => [(0, (.int .u32 z.1)), (3, (.int .i64 z.2))]) (n1, 0) h022 (H.weaken ⟨rfl, rfl, trivial⟩) ?_
  clear H h022
  rintro ⟨n5, i6⟩ a w7 h H
  replace h := hl23 n5 i6 w7 h
  clear hl23
  replace H : Has 17 [] a [(0, (.int .u32 n5)), (3, (.int .i64 i6))] := H
  refine c_seq fun K10 hK10 => ?_
  refine c_seq fun K11 hK11 => ?_
  refine c_reg ?_
  refine s_move H rfl rfl (lt_ rfl) ?_
  clear H a
  intro a H
  refine s_bin H rfl rfl rfl r_lss (lt_ rfl) ?_
  clear H a
  intro a H
  refine c_nil ?_
  refine hK11 _ _ ?_
  refine c_cond H rfl (fun hb12 => ?_) (fun hb12 => ?_)
  · replace h := h.1 hb12
    refine c_skip ?_
    refine hK10 _ _ ?_
    refine c_seq fun K13 hK13 => ?_
    obtain ⟨R15, h, hx20⟩ := h
    have hJ17 : ∀ (a : Act) (n14 : Int) (w16 : World), R15 n14 w16 → Has 17 [] a [(0, (.int .u32 n14)), (3, (.int .i64 i6))] → K13 a w16 := by
      clear h
      intro a n14 w16 h H
      replace h := hx20 n14 w16 h
      refine hK13 _ _ ?_
      refine c_reg ?_
      refine s_move H rfl rfl (lt_ rfl) ?_
      clear H a
      intro a H
      refine s_bin H rfl rfl rfl r_add (lt_ rfl) ?_
      clear H a
      intro a H
      refine s_assign H rfl rfl (lt_ rfl) ?_
      clear H a
      intro a H
      refine c_nil ?_
      refine Exists.intro (n14, wr .i64 (i6 + 1)) ⟨h.1, h.2, H.weaken ⟨rfl, rfl, trivial⟩⟩
    clear hx20
    refine c_block ?_
    refine c_seq fun K18 hK18 => ?_
    refine c_reg ?_
    refine s_move H rfl rfl (lt_ rfl) ?_
    clear H a
    intro a H
    refine s_bin H rfl rfl rfl r_and (lt_ rfl) ?_
    clear H a
    intro a H
    refine s_bin H rfl rfl rfl r_eql (lt_ rfl) ?_
    clear H a
    intro a H
    refine c_nil ?_
    refine hK18 _ _ ?_
    refine c_cond H rfl (fun hb19 => ?_) (fun hb19 => ?_)
    · replace h := h.1 hb19
      refine c_reg ?_
      refine s_move H rfl rfl (lt_ rfl) ?_
      clear H a
      intro a H
      refine s_bin H rfl rfl rfl (r_shr (by decide)) (lt_ rfl) ?_
      clear H a
      intro a H
      refine s_bin H rfl rfl rfl r_xor (lt_ rfl) ?_
      clear H a
      intro a H
      refine s_assign H rfl rfl (lt_ rfl) ?_
      clear H a
      intro a H
      refine c_nil ?_
      exact hJ17 _ _ _ h (H.weaken ⟨rfl, rfl, trivial⟩)
    · replace h := h.2 hb19
      refine c_reg ?_
      refine s_move H rfl rfl (lt_ rfl) ?_
      clear H a
      intro a H
      refine s_bin H rfl rfl rfl (r_shr (by decide)) (lt_ rfl) ?_
      clear H a
      intro a H
      refine s_assign H rfl rfl (lt_ rfl) ?_
      clear H a
      intro a H
      refine c_nil ?_
      exact hJ17 _ _ _ h (H.weaken ⟨rfl, rfl, trivial⟩)
  · replace h := h.2 hb12
    refine c_exit ?_
    simp only [Exit.then, Exit.inBlock, ↓reduceIte, Nat.reduceEqDiff]
    refine hK3 _ _ ?_
    refine c_seq fun K21 hK21 => ?_
    refine c_reg ?_
    refine s_move H rfl rfl (lt_ rfl) ?_
    clear H a
    intro a H
    refine s_assign H rfl rfl (lt_ rfl) ?_
    clear H a
    intro a H
    refine c_nil ?_
    refine hK21 _ _ ?_
    refine c_ret ?_
    exact e_ret1 H rfl rfl h

set_option maxRecDepth 100000 in
set_option maxHeartbeats 4000000 in
theorem sim_sherdref08_Zero (t_Count1 : Int) (t_Client2 : Int) (w : World) (Q : Ending → World → Prop) (h : vc_sherdref08_Zero t_Count1 t_Client2 w Q) : Calls PP F_sherdref08_Zero #[(.agg #[(.int .i64 t_Count1), (.int .i64 t_Client2)])] w Q := by
  unfold vc_sherdref08_Zero at h
  refine enter (n := 6) (l := [(.agg #[(.int .i64 t_Count1), (.int .i64 t_Client2)])]) Tryd.func90 rfl rfl (Nat.le_of_ble_eq_true rfl) fun a H => ?_
  replace H : Has 6 [] a [(0, (.agg #[(.int .i64 t_Count1), (.int .i64 t_Client2)]))] := H
  refine c_seq fun K3 hK3 => ?_
  refine c_reg ?_
  replace h := h.get
  obtain ⟨b4, w5, nb6, h⟩ := h
  refine s_box H rfl rfl (lt_ rfl) ?_
  rw [← nb6.at_]
  clear H a
  intro a H
  refine nb6.go ?_
  refine s_assign H rfl rfl (lt_ rfl) ?_
  clear H a
  intro a H
  refine c_nil ?_
  refine hK3 _ _ ?_
  refine c_seq fun K7 hK7 => ?_
  refine c_reg ?_
  refine s_loadN (l := [(.int .i64 t_Count1), (.int .i64 t_Client2)]) H rfl rfl agg_41 rfl ⟨(nb6.cell (i := 0) rfl), (nb6.cell (i := 1) rfl), trivial⟩ (lt_ rfl) ?_
  clear H a
  intro a H
  refine s_build H rfl (by rw [H.parts (vs := []) rfl]; exact bd_41 w5) (lt_ rfl) ?_
  clear H a
  intro a H
  refine s_bin H rfl rfl rfl (r_eqst eqg_41 (eqst_41 0) rfl) (lt_ rfl) ?_
  clear H a
  intro a H
  refine s_assign H rfl rfl (lt_ rfl) ?_
  clear H a
  intro a H
  refine c_nil ?_
  refine hK7 _ _ ?_
  refine c_ret ?_
  exact e_ret1 H rfl rfl h

set_option maxRecDepth 100000 in
set_option maxHeartbeats 4000000 in
theorem sim_sherdref08_proper (t_Count1 : Int) (t_Client2 : Int) (w : World) (Q : Ending → World → Prop) (h : vc_sherdref08_proper t_Count1 t_Client2 w Q) : Calls PP F_sherdref08_proper #[(.agg #[(.int .i64 t_Count1), (.int .i64 t_Client2)])] w Q := by
  unfold vc_sherdref08_proper at h
  refine enter (n := 21) (l := [(.agg #[(.int .i64 t_Count1), (.int .i64 t_Client2)])]) Tryd.func91 rfl rfl (Nat.le_of_ble_eq_true rfl) fun a H => ?_
  replace H : Has 21 [] a [(0, (.agg #[(.int .i64 t_Count1), (.int .i64 t_Client2)]))] := H
  refine c_seq fun K3 hK3 => ?_
  refine c_reg ?_
  replace h := h.get
  obtain ⟨b4, w5, nb6, h⟩ := h
  refine s_box H rfl rfl (lt_ rfl) ?_
  rw [← nb6.at_]
  clear H a
  intro a H
  refine nb6.go ?_
  refine s_assign H rfl rfl (lt_ rfl) ?_
  clear H a
  intro a H
  refine c_nil ?_
  refine hK3 _ _ ?_
  refine c_seq fun K7 hK7 => ?_
  refine c_reg ?_
  refine s_fld H rfl rfl fld_41_0 (lt_ rfl) ?_
  clear H a
  intro a H
  refine s_load (v := (.int .i64 t_Count1)) H rfl rfl one_2 (nb6.cell (i := 0) rfl) (lt_ rfl) ?_
  clear H a
  intro a H
  refine s_bin H rfl rfl rfl r_geq (lt_ rfl) ?_
  clear H a
  intro a H
  refine s_move H rfl rfl (lt_ rfl) ?_
  clear H a
  intro a H
  refine g_join (n := 21) [(10, (.bool ((decide (1 ≤ t_Count1)) && (decide (t_Count1 ≤ 4611686018427387903))))), (1, (.pointer (some (blk b4))))] (.succ (.succ (.succ (.succ (.zero _))))) ?_ ?_
  · intro hr9
    try clear h
    rcases Bool.eq_false_or_eq_true (decide (1 ≤ t_Count1)) with hg8 | hg8
    · replace H := H.ch (t := 6) (b := true) rfl hg8
      refine s_fld H (wantG H rfl rfl) rfl fld_41_0 (lt_ rfl) ?_
      clear H a
      intro a H
      refine s_load (v := (.int .i64 t_Count1)) H (wantG H rfl rfl) rfl one_2 (nb6.cell (i := 0) rfl) (lt_ rfl) ?_
      clear H a
      intro a H
      refine s_bin H (wantG H rfl rfl) rfl rfl r_leq (lt_ rfl) ?_
      clear H a
      intro a H
      refine s_pickT H rfl rfl rfl (lt_ rfl) ?_
      clear H a
      intro a H
      exact hr9 _ (H.weaken ⟨by rw [hg8]; rfl, rfl, trivial⟩)
    · replace H := H.ch (t := 6) (b := false) rfl hg8
      refine s_skip H (wantN H rfl rfl rfl) rfl (lt_ rfl) ?_
      clear H a
      intro a H
      refine s_skip H (wantN H rfl rfl rfl) rfl (lt_ rfl) ?_
      clear H a
      intro a H
      refine s_skip H (wantN H rfl rfl rfl) rfl (lt_ rfl) ?_
      clear H a
      intro a H
      refine s_pickF H rfl rfl rfl (lt_ rfl) ?_
      clear H a
      intro a H
      exact hr9 _ (H.weaken ⟨by rw [hg8]; rfl, rfl, trivial⟩)
  · clear H a
    intro a H
    refine s_move H rfl rfl (lt_ rfl) ?_
    clear H a
    intro a H
    refine g_join (n := 21) [(15, (.bool (((decide (1 ≤ t_Count1)) && (decide (t_Count1 ≤ 4611686018427387903))) && (decide (1 ≤ t_Client2))))), (1, (.pointer (some (blk b4))))] (.succ (.succ (.succ (.succ (.zero _))))) ?_ ?_
    · intro hr11
      try clear h
      rcases Bool.eq_false_or_eq_true ((decide (1 ≤ t_Count1)) && (decide (t_Count1 ≤ 4611686018427387903))) with hg10 | hg10
      · replace H := H.ch (t := 11) (b := true) rfl hg10
        refine s_fld H (wantG H rfl rfl) rfl fld_41_1 (lt_ rfl) ?_
        clear H a
        intro a H
        refine s_load (v := (.int .i64 t_Client2)) H (wantG H rfl rfl) rfl one_3 (nb6.cell (i := 1) rfl) (lt_ rfl) ?_
        clear H a
        intro a H
        refine s_bin H (wantG H rfl rfl) rfl rfl r_geq (lt_ rfl) ?_
        clear H a
        intro a H
        refine s_pickT H rfl rfl rfl (lt_ rfl) ?_
        clear H a
        intro a H
        exact hr11 _ (H.weaken ⟨by rw [hg10]; rfl, rfl, trivial⟩)
      · replace H := H.ch (t := 11) (b := false) rfl hg10
        refine s_skip H (wantN H rfl rfl rfl) rfl (lt_ rfl) ?_
        clear H a
        intro a H
        refine s_skip H (wantN H rfl rfl rfl) rfl (lt_ rfl) ?_
        clear H a
        intro a H
        refine s_skip H (wantN H rfl rfl rfl) rfl (lt_ rfl) ?_
        clear H a
        intro a H
        refine s_pickF H rfl rfl rfl (lt_ rfl) ?_
        clear H a
        intro a H
        exact hr11 _ (H.weaken ⟨by rw [hg10]; rfl, rfl, trivial⟩)
    · clear H a
      intro a H
      refine s_move H rfl rfl (lt_ rfl) ?_
      clear H a
      intro a H
      refine g_join (n := 21) [(20, (.bool ((((decide (1 ≤ t_Count1)) && (decide (t_Count1 ≤ 4611686018427387903))) && (decide (1 ≤ t_Client2))) && (decide (t_Client2 ≤ 65535)))))] (.succ (.succ (.succ (.succ (.zero _))))) ?_ ?_
      · intro hr13
        try clear h
        rcases Bool.eq_false_or_eq_true (((decide (1 ≤ t_Count1)) && (decide (t_Count1 ≤ 4611686018427387903))) && (decide (1 ≤ t_Client2))) with hg12 | hg12
        · replace H := H.ch (t := 16) (b := true) rfl hg12
          refine s_fld H (wantG H rfl rfl) rfl fld_41_1 (lt_ rfl) ?_
          clear H a
          intro a H
          refine s_load (v := (.int .i64 t_Client2)) H (wantG H rfl rfl) rfl one_3 (nb6.cell (i := 1) rfl) (lt_ rfl) ?_
          clear H a
          intro a H
          refine s_bin H (wantG H rfl rfl) rfl rfl r_leq (lt_ rfl) ?_
          clear H a
          intro a H
          refine s_pickT H rfl rfl rfl (lt_ rfl) ?_
          clear H a
          intro a H
          exact hr13 _ (H.weaken ⟨by rw [hg12]; rfl, trivial⟩)
        · replace H := H.ch (t := 16) (b := false) rfl hg12
          refine s_skip H (wantN H rfl rfl rfl) rfl (lt_ rfl) ?_
          clear H a
          intro a H
          refine s_skip H (wantN H rfl rfl rfl) rfl (lt_ rfl) ?_
          clear H a
          intro a H
          refine s_skip H (wantN H rfl rfl rfl) rfl (lt_ rfl) ?_
          clear H a
          intro a H
          refine s_pickF H rfl rfl rfl (lt_ rfl) ?_
          clear H a
          intro a H
          exact hr13 _ (H.weaken ⟨by rw [hg12]; rfl, trivial⟩)
      · clear H a
        intro a H
        refine s_assign H rfl rfl (lt_ rfl) ?_
        clear H a
        intro a H
        refine c_nil ?_
        refine hK7 _ _ ?_
        refine c_ret ?_
        exact e_ret1 H rfl rfl h
end Go.Proofs.YtnhgnfflihoaiaaDoor
