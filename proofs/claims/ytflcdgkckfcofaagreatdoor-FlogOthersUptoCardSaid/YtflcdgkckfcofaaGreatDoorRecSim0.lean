/-
  The conditions give the machine's calls; printed by vcgen.py.
-/
import Derived.Test.YtflcdgkckfcofaaGreatDoorRecVc
namespace Go.Proofs.YtflcdgkckfcofaaGreatDoor
open Go Go.Vc
set_option maxRecDepth 100000
set_option maxHeartbeats 4000000
theorem sim_sherdlaw14_FlogOthers (N1 K2 S3 : Int) (S4 : Slc) (K5 : Int) (U6 : Slc) (N7 : Int) (Y8 : Bool) (L9 : Slc) (N10 K11 D12 S13 A14 : Int) (Y15 : Bool) (L16 : Slc) (A17 : Int) (L18 : Slc) (w19 : Int) (w : World) (Q : Ending → World → Prop) (h : vc_sherdlaw14_FlogOthers N1 K2 S3 S4 K5 U6 N7 Y8 L9 N10 K11 D12 S13 A14 Y15 L16 A17 L18 w19 w Q) : Calls PP F_sherdlaw14_FlogOthers #[(.agg #[(.i N1), (.i K2), (.i S3), S4.v, (.i K5), U6.v, (.i N7), (.bool Y8), L9.v, (.i N10), (.i K11), (.i D12), (.i S13), (.i A14), (.bool Y15), L16.v, (.i A17), L18.v]), (.i w19)] w Q := by
 unfold vc_sherdlaw14_FlogOthers at h
 refine enter (n := 111) Tryz.func3 rfl rfl (Nat.le_of_ble_eq_true rfl) fun a H => c_seq fun K20 hK20 => c_reg ?_
 replace h := h.get
 obtain ⟨b21, w22, n23, h⟩ := h
 refine s_box H rfl rfl (lt_ rfl) ?_
 rw [← n23.at_]
 clear H a
 intro a H
 refine n23.go <| s_assign H rfl rfl (lt_ rfl) fun a H => c_nil <| hK20 _ _ <| c_seq fun K24 hK24 => c_reg ?_
 refine s_loadN (l := [(.i N1), (.i K2), (.i S3), S4.v, (.i K5), U6.v, (.i N7), (.bool Y8), L9.v, (.i N10), (.i K11), (.i D12), (.i S13), (.i A14), (.bool Y15), L16.v, (.i A17), L18.v]) H rfl rfl agg_32 rfl ⟨(n23.cell (i := 0) rfl), (n23.cell (i := 1) rfl), (n23.cell (i := 2) rfl), (n23.cell (i := 3) rfl), (n23.cell (i := 4) rfl), (n23.cell (i := 5) rfl), (n23.cell (i := 6) rfl), (n23.cell (i := 7) rfl), (n23.cell (i := 8) rfl), (n23.cell (i := 9) rfl), (n23.cell (i := 10) rfl), (n23.cell (i := 11) rfl), (n23.cell (i := 12) rfl), (n23.cell (i := 13) rfl), (n23.cell (i := 14) rfl), (n23.cell (i := 15) rfl), (n23.cell (i := 16) rfl), (n23.cell (i := 17) rfl), trivial⟩ (lt_ rfl) fun a H => ?_
 refine s_call H rfl body_8 (H.args (vs := [(.agg #[(.i N1), (.i K2), (.i S3), S4.v, (.i K5), U6.v, (.i N7), (.bool Y8), L9.v, (.i N10), (.i K11), (.i D12), (.i S13), (.i A14), (.bool Y15), L16.v, (.i A17), L18.v])]) rfl) (lt_ rfl) h ?_ (fun c w' h H => e_panic (P := PP) (fn := Tryz.f3) H h)
 clear H h a
 rintro _ w25 a ⟨p26, p27, p28, p29, rfl, h⟩ H
 refine s_move H rfl rfl (lt_ rfl) fun a H => ?_
 iterate 4 refine s_ext H rfl rfl rfl (lt_ rfl) fun a H => ?_
 iterate 4 refine s_assign H rfl rfl (lt_ rfl) fun a H => ?_
 refine c_nil <| hK24 _ _ <| c_seq fun K30 hK30 => c_seq fun K31 hK31 => c_reg <| s_move H rfl rfl (lt_ rfl) fun a H => s_un H rfl rfl r_not (lt_ rfl) fun a H => c_nil <| hK31 _ _ <| c_cond H rfl (fun h32 => ?_) (fun h32 => ?_)
 ·replace h := h.1 h32
  refine c_seq fun K33 hK33 => c_reg <| s_assign H rfl rfl (lt_ rfl) fun a H => c_nil <| hK33 _ _ <| c_ret ?_
  exact e_ret1 H rfl rfl h
 ·replace h := h.2 h32
  refine c_skip <| hK30 _ _ <| c_seq fun K34 hK34 => c_reg ?_
  obtain ⟨N35, hc36, K37, hc38, S39, hc40, S41, hc42, K43, hc44, U45, hc46, N47, hc48, Y49, hc50, L51, hc52, N53, hc54, K55, hc56, D57, hc58, S59, hc60, A61, hc62, Y63, hc64, L65, hc66, A67, hc68, L69, hc70, h⟩ := h
  refine s_loadN (l := [(.i N35), (.i K37), (.i S39), S41.v, (.i K43), U45.v, (.i N47), (.bool Y49), L51.v, (.i N53), (.i K55), (.i D57), (.i S59), (.i A61), (.bool Y63), L65.v, (.i A67), L69.v]) H rfl rfl agg_32 rfl ⟨hc36, hc38, hc40, hc42, hc44, hc46, hc48, hc50, hc52, hc54, hc56, hc58, hc60, hc62, hc64, hc66, hc68, hc70, trivial⟩ (lt_ rfl) fun a H => ?_
  refine s_call H rfl body_9 (H.args (vs := [(.agg #[(.i N35), (.i K37), (.i S39), S41.v, (.i K43), U45.v, (.i N47), (.bool Y49), L51.v, (.i N53), (.i K55), (.i D57), (.i S59), (.i A61), (.bool Y63), L65.v, (.i A67), L69.v])]) rfl) (lt_ rfl) h ?_ (fun c w' h H => e_panic (P := PP) (fn := Tryz.f3) H h)
  clear H h a
  rintro _ w71 a ⟨N72, K73, D74, S75, rfl, h⟩ H
  replace h := h.get
  obtain ⟨b76, w77, n78, h⟩ := h
  refine s_alloc H rfl zero_28 (lt_ rfl) ?_
  rw [← n78.at_]
  clear H a
  intro a H
  refine n78.go <| s_stoN (l := [(.i N72), (.i K73), (.i D74), (.i S75)]) H rfl rfl rfl rfl agg_28 rfl rfl h ?_
  clear h H
  intro w79 h H
  refine c_nil <| hK34 _ _ <| c_seq fun K80 hK80 => ?_
  obtain ⟨R81, h, h242⟩ := h
  have h196 : ∀ (a : Act) (w82 : World), R81 w82 → Has 111 [] a [(2, (.pointer (some (blk b21)))), (5, (.pointer p26)), (7, p28.v), (9, (.pointer (some (blk b76))))] → K80 a w82 := by
   clear h
   intro a w82 h H
   replace h := h242 w82 h
   refine hK80 _ _ <| c_seq fun K83 hK83 => c_reg <| s_move H rfl rfl (lt_ rfl) fun a H => s_call H rfl body_11 (H.args (vs := [(.pointer p26)]) rfl) (lt_ rfl) h ?_ (fun c w' h H => e_panic (P := PP) (fn := Tryz.f3) H h)
   clear H h a
   rintro _ w84 a ⟨A85, rfl, h⟩ H
   refine s_assign H rfl rfl (lt_ rfl) fun a H => c_nil <| hK83 _ _ <| c_seq fun K86 hK86 => c_reg <| s_move H rfl rfl (lt_ rfl) fun a H => ?_
   obtain ⟨N87, hc88, K89, hc90, D91, hc92, S93, hc94, h⟩ := h
   refine s_loadN (l := [(.i N87), (.i K89), (.i D91), (.i S93)]) H rfl rfl agg_28 rfl ⟨hc88, hc90, hc92, hc94, trivial⟩ (lt_ rfl) fun a H => s_call H rfl body_12 (H.args (vs := [(.pointer p26), (.agg #[(.i N87), (.i K89), (.i D91), (.i S93)])]) rfl) (lt_ rfl) h ?_ (fun c w' h H => e_panic (P := PP) (fn := Tryz.f3) H h)
   clear H h a
   rintro _ w95 a ⟨O96, O97, O98, rfl, h⟩ H
   refine s_move H rfl rfl (lt_ rfl) fun a H => ?_
   iterate 3 refine s_ext H rfl rfl rfl (lt_ rfl) fun a H => ?_
   iterate 3 refine s_assign H rfl rfl (lt_ rfl) fun a H => ?_
   refine c_nil <| hK86 _ _ <| c_seq fun K99 hK99 => c_seq fun K100 hK100 => c_reg <| s_move H rfl rfl (lt_ rfl) fun a H => s_bin H rfl rfl rfl (r_neP0 ptr_34) (lt_ rfl) fun a H => s_move H rfl rfl (lt_ rfl) fun a H => g_join (n := 111) [(82, (.bool (O96.isSome || (decide ((O97.l : Int) ≠ 0))))), (2, (.pointer (some (blk b21)))), (5, (.pointer p26)), (7, p28.v), (10, (.i A85)), (13, (.i O98))] (.succ (.succ (.succ (.succ (.zero _))))) ?_ ?_
   ·intro h102
    try clear h
    rcases Bool.eq_false_or_eq_true O96.isSome with h101 | h101
    ·replace H := H.ch (t := 78) (b := true) rfl h101
     iterate 3 refine s_skip H (wantN H rfl rfl rfl) rfl (lt_ rfl) fun a H => ?_
     refine s_pickT H rfl rfl rfl (lt_ rfl) fun a H => ?_
     exact h102 _ (H.weaken ⟨by rw [h101]; rfl, rfl, rfl, rfl, rfl, rfl, trivial⟩)
    ·replace H := H.ch (t := 78) (b := false) rfl h101
     refine s_move H (wantG H rfl rfl) rfl (lt_ rfl) fun a H => s_blt H (wantG H rfl rfl) (H.args (vs := [O97.v]) rfl) (lt_ rfl) (fun cs => b_lenS (z := O97) sl_23) fun a H => s_bin H (wantG H rfl rfl) rfl rfl r_neq (lt_ rfl) fun a H => s_pickF H rfl rfl rfl (lt_ rfl) fun a H => ?_
     exact h102 _ (H.weaken ⟨by rw [h101]; rfl, rfl, rfl, rfl, rfl, rfl, trivial⟩)
   ·clear H a
    intro a H
    refine s_move H rfl rfl (lt_ rfl) fun a H => g_join (n := 111) [(86, (.bool ((O96.isSome || (decide ((O97.l : Int) ≠ 0))) || (decide (O98 ≠ 62))))), (2, (.pointer (some (blk b21)))), (5, (.pointer p26)), (7, p28.v), (10, (.i A85))] (.succ (.succ (.succ (.zero _)))) ?_ ?_
    ·intro h104
     try clear h
     rcases Bool.eq_false_or_eq_true (O96.isSome || (decide ((O97.l : Int) ≠ 0))) with h103 | h103
     ·replace H := H.ch (t := 83) (b := true) rfl h103
      refine s_skip H (wantN H rfl rfl rfl) rfl (lt_ rfl) fun a H => s_skip H (wantN H rfl rfl rfl) rfl (lt_ rfl) fun a H => s_pickT H rfl rfl rfl (lt_ rfl) fun a H => ?_
      exact h104 _ (H.weaken ⟨by rw [h103]; rfl, rfl, rfl, rfl, rfl, trivial⟩)
     ·replace H := H.ch (t := 83) (b := false) rfl h103
      refine s_move H (wantG H rfl rfl) rfl (lt_ rfl) fun a H => s_bin H (wantG H rfl rfl) rfl rfl r_neq (lt_ rfl) fun a H => s_pickF H rfl rfl rfl (lt_ rfl) fun a H => ?_
      exact h104 _ (H.weaken ⟨by rw [h103]; rfl, rfl, rfl, rfl, rfl, trivial⟩)
    ·clear H a
     intro a H
     refine s_move H rfl rfl (lt_ rfl) fun a H => ?_
     obtain ⟨R107, h, h187⟩ := h
     refine g_joinW (n := 111) R107 (fun x108 => [(92, (.bool x108)), (2, (.pointer (some (blk b21)))), (5, (.pointer p26)), (7, p28.v), (10, (.i A85))]) (.succ (.succ (.succ (.succ (.succ (.zero _)))))) ?_ ?_
     ·intro h106
      clear h187
      rcases Bool.eq_false_or_eq_true ((O96.isSome || (decide ((O97.l : Int) ≠ 0))) || (decide (O98 ≠ 62))) with h105 | h105
      ·replace H := H.ch (t := 87) (b := true) rfl h105
       replace h := h.2 h105
       iterate 4 refine s_skip H (wantN H rfl rfl rfl) rfl (lt_ rfl) fun a H => ?_
       refine s_pickT H rfl rfl rfl (lt_ rfl) fun a H => ?_
       exact h106 _ _ _ h (H.weaken ⟨rfl, rfl, rfl, rfl, rfl, trivial⟩)
      ·replace H := H.ch (t := 87) (b := false) rfl h105
       replace h := h.1 h105
       refine s_move H (wantG H rfl rfl) rfl (lt_ rfl) fun a H => s_call H (wantG H rfl rfl) body_11 (H.args (vs := [(.pointer p26)]) rfl) (lt_ rfl) h ?_ (fun c w' h H => e_panic (P := PP) (fn := Tryz.f3) H h)
       clear H h a
       rintro _ w110 a ⟨A111, rfl, h⟩ H
       refine s_move H (wantG H rfl rfl) rfl (lt_ rfl) fun a H => s_bin H (wantG H rfl rfl) rfl rfl r_neq (lt_ rfl) fun a H => s_pickF H rfl rfl rfl (lt_ rfl) fun a H => ?_
       exact h106 _ _ _ h (H.weaken ⟨rfl, rfl, rfl, rfl, rfl, trivial⟩)
     ·clear H a h
      intro a x108 w109 h H
      replace h := h187 x108 w109 h
      clear h187
      refine c_nil <| hK100 _ _ <| c_cond H rfl (fun h116 => ?_) (fun h116 => ?_)
      ·replace h := h.1 h116
       refine c_seq fun K117 hK117 => c_reg <| s_assign H rfl rfl (lt_ rfl) fun a H => c_nil <| hK117 _ _ <| c_ret ?_
       exact e_ret1 H rfl rfl h
      ·replace h := h.2 h116
       refine c_skip <| hK99 _ _ <| c_seq fun K118 hK118 => c_reg ?_
       obtain ⟨N119, hc120, K121, hc122, S123, hc124, S125, hc126, K127, hc128, U129, hc130, N131, hc132, Y133, hc134, L135, hc136, N137, hc138, K139, hc140, D141, hc142, S143, hc144, A145, hc146, Y147, hc148, L149, hc150, A151, hc152, L153, hc154, h⟩ := h
       refine s_loadN (l := [(.i N119), (.i K121), (.i S123), S125.v, (.i K127), U129.v, (.i N131), (.bool Y133), L135.v, (.i N137), (.i K139), (.i D141), (.i S143), (.i A145), (.bool Y147), L149.v, (.i A151), L153.v]) H rfl rfl agg_32 rfl ⟨hc120, hc122, hc124, hc126, hc128, hc130, hc132, hc134, hc136, hc138, hc140, hc142, hc144, hc146, hc148, hc150, hc152, hc154, trivial⟩ (lt_ rfl) fun a H => s_move H rfl rfl (lt_ rfl) fun a H => ?_
       refine s_call H rfl body_13 (H.args (vs := [(.agg #[(.i N119), (.i K121), (.i S123), S125.v, (.i K127), U129.v, (.i N131), (.bool Y133), L135.v, (.i N137), (.i K139), (.i D141), (.i S143), (.i A145), (.bool Y147), L149.v, (.i A151), L153.v]), (.pointer p26)]) rfl) (lt_ rfl) h ?_ (fun c w' h H => e_panic (P := PP) (fn := Tryz.f3) H h)
       clear H h a
       rintro _ w155 a ⟨f156, f157, rfl, h⟩ H
       refine s_move H rfl rfl (lt_ rfl) fun a H => s_ext H rfl rfl rfl (lt_ rfl) fun a H => s_ext H rfl rfl rfl (lt_ rfl) fun a H => s_assign H rfl rfl (lt_ rfl) fun a H => s_assign H rfl rfl (lt_ rfl) fun a H => c_nil <| hK118 _ _ <| c_seq fun K158 hK158 => c_reg <| s_move H rfl rfl (lt_ rfl) fun a H => s_move H rfl rfl (lt_ rfl) fun a H => ?_
       obtain ⟨R161, h, h182⟩ := h
       refine g_joinW (n := 111) R161 (fun x162 => [(104, (.bool x162)), (5, (.pointer p26)), (10, (.i A85))]) (.succ (.succ (.succ (.succ (.zero _))))) ?_ ?_
       ·intro h160
        clear h182
        rcases Bool.eq_false_or_eq_true f157 with h159 | h159
        ·replace H := H.ch (t := 100) (b := true) rfl h159
         replace h := h.1 h159
         refine s_move H (wantG H rfl rfl) rfl (lt_ rfl) fun a H => s_move H (wantG H rfl rfl) rfl (lt_ rfl) fun a H => s_call H (wantG H rfl rfl) body_14 (H.args (vs := [f156.v, p28.v]) rfl) (lt_ rfl) h ?_ (fun c w' h H => e_panic (P := PP) (fn := Tryz.f3) H h)
         clear H h a
         rintro _ w164 a ⟨u165, rfl, h⟩ H
         refine s_pickT H rfl rfl rfl (lt_ rfl) fun a H => ?_
         exact h160 _ _ _ h (H.weaken ⟨rfl, rfl, rfl, trivial⟩)
        ·replace H := H.ch (t := 100) (b := false) rfl h159
         replace h := h.2 h159
         iterate 3 refine s_skip H (wantN H rfl rfl rfl) rfl (lt_ rfl) fun a H => ?_
         refine s_pickF H rfl rfl rfl (lt_ rfl) fun a H => ?_
         exact h160 _ _ _ h (H.weaken ⟨rfl, rfl, rfl, trivial⟩)
       ·clear H a h
        intro a x162 w163 h H
        replace h := h182 x162 w163 h
        clear h182
        refine s_move H rfl rfl (lt_ rfl) fun a H => ?_
        obtain ⟨R172, h, h181⟩ := h
        refine g_joinW (n := 111) R172 (fun x173 => [(110, (.bool x173))]) (.succ (.succ (.succ (.succ (.succ (.zero _)))))) ?_ ?_
        ·intro h171
         clear h181
         rcases Bool.eq_false_or_eq_true x162 with h170 | h170
         ·replace H := H.ch (t := 105) (b := true) rfl h170
          replace h := h.1 h170
          refine s_move H (wantG H rfl rfl) rfl (lt_ rfl) fun a H => s_call H (wantG H rfl rfl) body_11 (H.args (vs := [(.pointer p26)]) rfl) (lt_ rfl) h ?_ (fun c w' h H => e_panic (P := PP) (fn := Tryz.f3) H h)
          clear H h a
          rintro _ w175 a ⟨A176, rfl, h⟩ H
          refine s_move H (wantG H rfl rfl) rfl (lt_ rfl) fun a H => s_bin H (wantG H rfl rfl) rfl rfl r_eql (lt_ rfl) fun a H => s_pickT H rfl rfl rfl (lt_ rfl) fun a H => ?_
          exact h171 _ _ _ h (H.weaken ⟨rfl, trivial⟩)
         ·replace H := H.ch (t := 105) (b := false) rfl h170
          replace h := h.2 h170
          iterate 4 refine s_skip H (wantN H rfl rfl rfl) rfl (lt_ rfl) fun a H => ?_
          refine s_pickF H rfl rfl rfl (lt_ rfl) fun a H => ?_
          exact h171 _ _ _ h (H.weaken ⟨rfl, trivial⟩)
        ·clear H a h
         intro a x173 w174 h H
         replace h := h181 x173 w174 h
         clear h181
         refine s_assign H rfl rfl (lt_ rfl) fun a H => c_nil <| hK158 _ _ <| c_ret ?_
         exact e_ret1 H rfl rfl h
  clear h242
  refine c_seq fun K197 hK197 => c_reg <| s_move H rfl rfl (lt_ rfl) fun a H => s_call H rfl body_10 (H.args (vs := [(.i w19), (.i 4)]) rfl) (lt_ rfl) h ?_ (fun c w' h H => e_panic (P := PP) (fn := Tryz.f3) H h)
  clear H h a
  rintro _ w198 a ⟨m199, rfl, h⟩ H
  refine c_nil <| hK197 _ _ <| c_block <| c_seq fun K200 hK200 => c_reg <| s_bin H rfl rfl rfl r_eql (lt_ rfl) fun a H => s_assign H rfl rfl (lt_ rfl) fun a H => c_nil <| hK200 _ _ <| c_cond H rfl (fun h201 => ?_) (fun h201 => ?_)
  ·replace h := h.1 h201
   refine c_reg <| s_fld H rfl rfl fld_28_0 (lt_ rfl) fun a H => s_fld H rfl rfl fld_26_0 (lt_ rfl) fun a H => ?_
   obtain ⟨l202, hc203, h⟩ := h
   refine s_load (v := (.i l202)) H rfl rfl one_3 hc203 (lt_ rfl) fun a H => s_bin H rfl rfl rfl r_add (lt_ rfl) fun a H => s_fld H rfl rfl fld_28_0 (lt_ rfl) fun a H => s_fld H rfl rfl fld_26_0 (lt_ rfl) fun a H => ?_
   obtain ⟨h205, h206, h⟩ := h
   refine s_sto (p := ((blk b76).add 0).add 0) (v := (.i (wr .i64 (l202 + 1)))) H rfl rfl rfl rfl one_3 rfl h205 h206 ?_
   clear H
   intro H
   generalize hww204 : World.setCell w198 (((blk b76).add 0).add 0) (.i (wr .i64 (l202 + 1))) = w204 at h ⊢
   have w204S : SetAt w198 (((blk b76).add 0).add 0) (.i (wr .i64 (l202 + 1))) w204 := ⟨hww204.symm⟩
   clear hww204 h205 h206
   refine c_nil ?_
   exact h196 _ _ h (H.weaken ⟨rfl, rfl, rfl, rfl, trivial⟩)
  ·replace h := h.2 h201
   refine c_seq fun K207 hK207 => c_reg <| s_bin H rfl rfl rfl r_eql (lt_ rfl) fun a H => s_assign H rfl rfl (lt_ rfl) fun a H => c_nil <| hK207 _ _ <| c_cond H rfl (fun h208 => ?_) (fun h208 => ?_)
   ·replace h := h.1 h208
    refine c_reg <| s_fld H rfl rfl fld_28_0 (lt_ rfl) fun a H => s_fld H rfl rfl fld_26_2 (lt_ rfl) fun a H => ?_
    obtain ⟨h210, h211, h⟩ := h
    refine s_sto (p := ((blk b76).add 0).add 2) (v := (.i 1)) H rfl rfl rfl rfl one_3 rfl h210 h211 ?_
    clear H
    intro H
    generalize hww209 : World.setCell w198 (((blk b76).add 0).add 2) (.i 1) = w209 at h ⊢
    have w209S : SetAt w198 (((blk b76).add 0).add 2) (.i 1) w209 := ⟨hww209.symm⟩
    clear hww209 h210 h211
    refine c_nil ?_
    exact h196 _ _ h (H.weaken ⟨rfl, rfl, rfl, rfl, trivial⟩)
   ·replace h := h.2 h208
    refine c_seq fun K212 hK212 => c_reg <| s_bin H rfl rfl rfl r_eql (lt_ rfl) fun a H => s_assign H rfl rfl (lt_ rfl) fun a H => c_nil <| hK212 _ _ <| c_cond H rfl (fun h213 => ?_) (fun h213 => ?_)
    ·replace h := h.1 h213
     refine c_seq fun K214 hK214 => c_reg <| s_fld H rfl rfl fld_28_0 (lt_ rfl) fun a H => s_fld H rfl rfl fld_26_0 (lt_ rfl) fun a H => ?_
     obtain ⟨l215, hc216, h⟩ := h
     refine s_load (v := (.i l215)) H rfl rfl one_3 hc216 (lt_ rfl) fun a H => s_bin H rfl rfl rfl r_add (lt_ rfl) fun a H => s_fld H rfl rfl fld_28_0 (lt_ rfl) fun a H => s_fld H rfl rfl fld_26_0 (lt_ rfl) fun a H => ?_
     obtain ⟨h218, h219, h⟩ := h
     refine s_sto (p := ((blk b76).add 0).add 0) (v := (.i (wr .i64 (l215 + 1)))) H rfl rfl rfl rfl one_3 rfl h218 h219 ?_
     clear H
     intro H
     generalize hww217 : World.setCell w198 (((blk b76).add 0).add 0) (.i (wr .i64 (l215 + 1))) = w217 at h ⊢
     have w217S : SetAt w198 (((blk b76).add 0).add 0) (.i (wr .i64 (l215 + 1))) w217 := ⟨hww217.symm⟩
     clear hww217 h218 h219
     refine c_nil <| hK214 _ _ <| c_reg <| s_fld H rfl rfl fld_28_0 (lt_ rfl) fun a H => s_fld H rfl rfl fld_26_0 (lt_ rfl) fun a H => ?_
     obtain ⟨l220, hc221, h⟩ := h
     refine s_load (v := (.i l220)) H rfl rfl one_3 hc221 (lt_ rfl) fun a H => s_bin H rfl rfl rfl r_sub (lt_ rfl) fun a H => s_fld H rfl rfl fld_28_1 (lt_ rfl) fun a H => ?_
     obtain ⟨h223, h224, h⟩ := h
     refine s_sto (p := (blk b76).add 3) (v := (.i (wr .i64 (l220 - 1)))) H rfl rfl rfl rfl one_3 rfl h223 h224 ?_
     clear H
     intro H
     generalize hww222 : World.setCell w217 ((blk b76).add 3) (.i (wr .i64 (l220 - 1))) = w222 at h ⊢
     have w222S : SetAt w217 ((blk b76).add 3) (.i (wr .i64 (l220 - 1))) w222 := ⟨hww222.symm⟩
     clear hww222 h223 h224
     refine c_nil ?_
     exact h196 _ _ h (H.weaken ⟨rfl, rfl, rfl, rfl, trivial⟩)
    ·replace h := h.2 h213
     refine c_seq fun K225 hK225 => c_reg <| s_bin H rfl rfl rfl r_eql (lt_ rfl) fun a H => s_assign H rfl rfl (lt_ rfl) fun a H => c_nil <| hK225 _ _ <| c_cond H rfl (fun h226 => ?_) (fun h226 => ?_)
     ·replace h := h.1 h226
      refine c_seq fun K227 hK227 => c_reg <| s_fld H rfl rfl fld_28_0 (lt_ rfl) fun a H => s_fld H rfl rfl fld_26_0 (lt_ rfl) fun a H => ?_
      obtain ⟨l228, hc229, h⟩ := h
      refine s_load (v := (.i l228)) H rfl rfl one_3 hc229 (lt_ rfl) fun a H => s_bin H rfl rfl rfl r_add (lt_ rfl) fun a H => s_fld H rfl rfl fld_28_0 (lt_ rfl) fun a H => s_fld H rfl rfl fld_26_0 (lt_ rfl) fun a H => ?_
      obtain ⟨h231, h232, h⟩ := h
      refine s_sto (p := ((blk b76).add 0).add 0) (v := (.i (wr .i64 (l228 + 1)))) H rfl rfl rfl rfl one_3 rfl h231 h232 ?_
      clear H
      intro H
      generalize hww230 : World.setCell w198 (((blk b76).add 0).add 0) (.i (wr .i64 (l228 + 1))) = w230 at h ⊢
      have w230S : SetAt w198 (((blk b76).add 0).add 0) (.i (wr .i64 (l228 + 1))) w230 := ⟨hww230.symm⟩
      clear hww230 h231 h232
      refine c_nil <| hK227 _ _ <| c_reg <| s_fld H rfl rfl fld_28_0 (lt_ rfl) fun a H => s_fld H rfl rfl fld_26_1 (lt_ rfl) fun a H => ?_
      obtain ⟨l233, hc234, h⟩ := h
      refine s_load (v := (.i l233)) H rfl rfl one_3 hc234 (lt_ rfl) fun a H => s_bin H rfl rfl rfl r_add (lt_ rfl) fun a H => s_fld H rfl rfl fld_28_0 (lt_ rfl) fun a H => s_fld H rfl rfl fld_26_1 (lt_ rfl) fun a H => ?_
      obtain ⟨h236, h237, h⟩ := h
      refine s_sto (p := ((blk b76).add 0).add 1) (v := (.i (wr .i64 (l233 + 1)))) H rfl rfl rfl rfl one_3 rfl h236 h237 ?_
      clear H
      intro H
      generalize hww235 : World.setCell w230 (((blk b76).add 0).add 1) (.i (wr .i64 (l233 + 1))) = w235 at h ⊢
      have w235S : SetAt w230 (((blk b76).add 0).add 1) (.i (wr .i64 (l233 + 1))) w235 := ⟨hww235.symm⟩
      clear hww235 h236 h237
      refine c_nil ?_
      exact h196 _ _ h (H.weaken ⟨rfl, rfl, rfl, rfl, trivial⟩)
     ·replace h := h.2 h226
      refine c_skip ?_
      exact h196 _ _ h (H.weaken ⟨rfl, rfl, rfl, rfl, trivial⟩)

end Go.Proofs.YtflcdgkckfcofaaGreatDoor
