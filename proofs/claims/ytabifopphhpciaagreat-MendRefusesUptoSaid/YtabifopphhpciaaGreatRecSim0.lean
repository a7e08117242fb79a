/-
  The conditions give the machine's calls; printed by vcgen.py.
-/
import Derived.Test.YtabifopphhpciaaGreatRecVc
namespace Go.Proofs.YtabifopphhpciaaGreat
open Go Go.Vc
set_option maxRecDepth 100000
set_option maxHeartbeats 4000000
theorem sim_sherdlaw04_MendRefuses (N1 K2 : Int) (B3 O4 : Slc) (T5 : Int) (S6 H7 : Slc) (w8 a9 : Int) (w : World) (Q : Ending → World → Prop) (h : vc_sherdlaw04_MendRefuses N1 K2 B3 O4 T5 S6 H7 w8 a9 w Q) : Calls PP F_sherdlaw04_MendRefuses #[(.agg #[(.i N1), (.i K2), B3.v, O4.v, (.i T5), S6.v, H7.v]), (.i w8), (.i a9)] w Q := by
 unfold vc_sherdlaw04_MendRefuses at h
 have eP {L : List (Nat × Value)} (c : List PanicEntry) (w' : World) (a : Act) (h : Q (.panicked c) w') (H : Has 121 [] a L) : bodyPost PP Tryz.f3 Q (.panic c) a w' := e_panic H h
 refine enter (n := 121) Tryz.func3 rfl rfl (le_ rfl) fun a H => sr fun K10 hK10 => ww H <| bx h rfl rfl rfl rfl fun b11 w12 n13 h => ag rfl rfl <| fun a H => nk hK10 <| sr fun K14 hK14 => ww H <| lN (l := [(.i N1), (.i K2), B3.v, O4.v, (.i T5), S6.v, H7.v]) rfl agg_25 rfl ⟨(n13.cell (i := 0) rfl), (n13.cell (i := 1) rfl), (n13.cell (i := 2) rfl), (n13.cell (i := 3) rfl), (n13.cell (i := 4) rfl), (n13.cell (i := 5) rfl), (n13.cell (i := 6) rfl), trivial⟩ rfl <| cl4 h body_4 rfl rfl eP fun m16 m17 m18 m19 w15 h => mv rfl rfl <| ex rfl rfl rfl <| ex rfl rfl rfl <| ex rfl rfl rfl <| ex rfl rfl rfl <| ag rfl rfl <| ag rfl rfl <| ag rfl rfl <| ag rfl rfl <| fun a H => nk hK14 <| c_seq fun K20 hK20 => sr fun K21 hK21 => ww H <| mv rfl rfl <| fun a H => s_un H rfl rfl r_not (lt_ rfl) fun a H => nk hK21 <| cd H rfl h (fun h22 h => ?_) (fun h22 h => ?_)
 ·exact sr fun K23 hK23 => ww H <| ag rfl rfl <| fun a H => nk hK23 <| c_ret <| e_ret1 H rfl rfl h
 ·refine c_skip <| hK20 _ _ <| sr fun K24 hK24 => ww H <| mv rfl rfl <| mv rfl rfl <| bl (vs := [m18.v]) rfl rfl (fun cs => b_lenS (z := m18) sl_28) <| cl1 h body_5 rfl rfl eP fun m26 w25 h => ag rfl rfl <| fun a H => nk hK24 <| sr fun K27 hK27 => ww H <| ag rfl rfl <| fun a H => nk hK27 <| c_seq fun K28 hK28 => ?_
  obtain ⟨R31, h, h163⟩ := h
  have h70 : ∀ (a : Act) (p29 : Slc) (w30 : Int) (w32 : World), R31 p29 w30 w32 → Has 121 [] a [(7, (.pointer m16)), (9, p29.v), (12, (.i w30))] → K28 a w32 := by
   clear h
   intro a p29 w30 w32 h H
   replace h := h163 p29 w30 w32 h
   refine hK28 _ _ <| sr fun K33 hK33 => ww H <| mv rfl rfl <| mv rfl rfl <| cl3 h body_8 rfl rfl eP fun D35 D36 D37 w34 h => mv rfl rfl <| ex rfl rfl rfl <| ex rfl rfl rfl <| ex rfl rfl rfl <| ag rfl rfl <| ag rfl rfl <| ag rfl rfl <| fun a H => nk hK33 <| sr fun K38 hK38 => ww H <| mv rfl rfl <| cl3 h body_8 rfl rfl eP fun D40 D41 D42 w39 h => mv rfl rfl <| ex rfl rfl rfl <| ex rfl rfl rfl <| ex rfl rfl rfl <| ag rfl rfl <| ag rfl rfl <| ag rfl rfl <| fun a H => nk hK38 <| sr fun K43 hK43 => ww H <| mv rfl rfl <| mv rfl rfl <| bn rfl rfl r_eql rfl <| mv rfl rfl <| fun a H => g_join (n := 121) [(105, (.bool ((decide (D37 = w30)) && (decide ((D35.l : Int) = 0))))), (9, p29.v), (14, D36.v), (18, (.i D42))] (.succ (.succ (.succ (.succ (.zero _))))) ?_ ?_
   ·intro h45
    try clear h
    rcases Bool.eq_false_or_eq_true (decide (D37 = w30)) with h44 | h44
    ·replace H := H.ch (t := 101) (b := true) rfl h44
     exact ww H <| gmv rfl rfl rfl rfl <| fun a H => s_blt H (wantG H rfl rfl) (H.args (vs := [D35.v]) rfl) (lt_ rfl) (fun cs => b_lenS (z := D35) sl_27) fun a H => ww H <| gbn rfl rfl rfl rfl r_eql rfl <| pT rfl rfl rfl <| fun a H => h45 _ (H.weaken ⟨by rw [h44]; rfl, rfl, rfl, rfl, trivial⟩)
    ·replace H := H.ch (t := 101) (b := false) rfl h44
     exact ww H <| sk rfl rfl rfl rfl <| sk rfl rfl rfl rfl <| sk rfl rfl rfl rfl <| pF rfl rfl rfl <| fun a H => h45 _ (H.weaken ⟨by rw [h44]; rfl, rfl, rfl, rfl, trivial⟩)
   ·clear H a
    intro a H
    refine ww H <| mv rfl rfl <| fun a H => g_join (n := 121) [(110, (.bool (((decide (D37 = w30)) && (decide ((D35.l : Int) = 0))) && (decide ((D36.l : Int) = 0))))), (9, p29.v), (18, (.i D42))] (.succ (.succ (.succ (.succ (.zero _))))) ?_ ?_
    ·intro h47
     try clear h
     rcases Bool.eq_false_or_eq_true ((decide (D37 = w30)) && (decide ((D35.l : Int) = 0))) with h46 | h46
     ·replace H := H.ch (t := 106) (b := true) rfl h46
      exact ww H <| gmv rfl rfl rfl rfl <| fun a H => s_blt H (wantG H rfl rfl) (H.args (vs := [D36.v]) rfl) (lt_ rfl) (fun cs => b_lenS (z := D36) sl_23) fun a H => ww H <| gbn rfl rfl rfl rfl r_eql rfl <| pT rfl rfl rfl <| fun a H => h47 _ (H.weaken ⟨by rw [h46]; rfl, rfl, rfl, trivial⟩)
     ·replace H := H.ch (t := 106) (b := false) rfl h46
      exact ww H <| sk rfl rfl rfl rfl <| sk rfl rfl rfl rfl <| sk rfl rfl rfl rfl <| pF rfl rfl rfl <| fun a H => h47 _ (H.weaken ⟨by rw [h46]; rfl, rfl, rfl, trivial⟩)
    ·clear H a
     intro a H
     refine ww H <| mv rfl rfl <| fun a H => g_join (n := 121) [(114, (.bool ((((decide (D37 = w30)) && (decide ((D35.l : Int) = 0))) && (decide ((D36.l : Int) = 0))) && (decide (D42 = 1))))), (9, p29.v)] (.succ (.succ (.succ (.zero _)))) ?_ ?_
     ·intro h49
      try clear h
      rcases Bool.eq_false_or_eq_true (((decide (D37 = w30)) && (decide ((D35.l : Int) = 0))) && (decide ((D36.l : Int) = 0))) with h48 | h48
      ·replace H := H.ch (t := 111) (b := true) rfl h48
       exact ww H <| gmv rfl rfl rfl rfl <| gbn rfl rfl rfl rfl r_eql rfl <| pT rfl rfl rfl <| fun a H => h49 _ (H.weaken ⟨by rw [h48]; rfl, rfl, trivial⟩)
      ·replace H := H.ch (t := 111) (b := false) rfl h48
       exact ww H <| sk rfl rfl rfl rfl <| sk rfl rfl rfl rfl <| pF rfl rfl rfl <| fun a H => h49 _ (H.weaken ⟨by rw [h48]; rfl, rfl, trivial⟩)
     ·clear H a
      intro a H
      refine ww H <| mv rfl rfl <| fun a H => ?_
      obtain ⟨R52, h, h61⟩ := h
      refine g_joinW (n := 121) R52 (fun x53 => [(120, (.bool x53))]) (.succ (.succ (.succ (.succ (.succ (.zero _)))))) ?_ ?_
      ·intro h51
       clear h61
       rcases Bool.eq_false_or_eq_true ((((decide (D37 = w30)) && (decide ((D35.l : Int) = 0))) && (decide ((D36.l : Int) = 0))) && (decide (D42 = 1))) with h50 | h50
       ·replace H := H.ch (t := 115) (b := true) rfl h50
        replace h := h.1 h50
        refine ww H <| gmv rfl rfl rfl rfl <| fun a H => s_blt H (wantG H rfl rfl) (H.args (vs := [p29.v]) rfl) (lt_ rfl) (fun cs => b_lenS (z := p29) sl_28) fun a H => s_call H (wantG H rfl rfl) body_9 (H.args (vs := [(.pointer none), (.i (p29.l : Int))]) rfl) (lt_ rfl) h ?_ (fun c w' => eP c w' _)
        clear H h a
        rintro _ w55 a ⟨M56, rfl, h⟩ H
        exact ww H <| gbn rfl rfl rfl rfl r_eql rfl <| pT rfl rfl rfl <| fun a H => h51 _ _ _ h (H.weaken ⟨rfl, trivial⟩)
       ·replace H := H.ch (t := 115) (b := false) rfl h50
        replace h := h.2 h50
        exact ww H <| sk rfl rfl rfl rfl <| sk rfl rfl rfl rfl <| sk rfl rfl rfl rfl <| sk rfl rfl rfl rfl <| pF rfl rfl rfl <| fun a H => h51 _ _ _ h (H.weaken ⟨rfl, trivial⟩)
      ·clear H a h
       intro a x53 w54 h H
       replace h := h61 x53 w54 h
       clear h61
       exact ww H <| ag rfl rfl <| fun a H => nk hK43 <| c_ret <| e_ret1 H rfl rfl h
  clear h163
  refine sr fun K71 hK71 => ww H <| mv rfl rfl <| cl1 h body_5 rfl rfl eP fun m73 w72 h => fun a H => nk hK71 <| c_block <| sr fun K74 hK74 => ww H <| bn rfl rfl r_eql rfl <| ag rfl rfl <| fun a H => nk hK74 <| cd H rfl h (fun h75 h => ?_) (fun h75 h => ?_)
  ·obtain ⟨a76, h77, h78, h79, h⟩ := h
   exact c_reg <| ww H <| mv rfl rfl <| mv rfl rfl <| mv rfl rfl <| bn rfl rfl r_sub rfl <| fun a H => s_idxS (s := m18) H rfl rfl rfl slc_28 h77 h78 h79 (lt_ rfl) fun a H => ww H <| fd rfl fld_34_0 rfl <| st h rfl rfl one_3 rfl fun w80 w80S h => fun a H => c_nil <| h70 _ _ _ _ h (H.weaken ⟨rfl, rfl, rfl, trivial⟩)
  ·refine sr fun K83 hK83 => ww H <| bn rfl rfl r_eql rfl <| ag rfl rfl <| fun a H => nk hK83 <| cd H rfl h (fun h84 h => ?_) (fun h84 h => ?_)
   ·refine c_reg <| ww H <| mv rfl rfl <| mv rfl rfl <| mv rfl rfl <| cl1 h body_6 rfl rfl eP fun N86 w85 h => mv rfl rfl <| cl1 h body_5 rfl rfl eP fun m88 w87 h => fun a H => ?_
    obtain ⟨a89, h90, h91, h92, h⟩ := h
    exact ww H <| bn rfl rfl r_add rfl <| fun a H => s_idxS (s := m18) H rfl rfl rfl slc_28 h90 h91 h92 (lt_ rfl) fun a H => ww H <| fd rfl fld_34_0 rfl <| st h rfl rfl one_3 rfl fun w93 w93S h => fun a H => c_nil <| h70 _ _ _ _ h (H.weaken ⟨rfl, rfl, rfl, trivial⟩)
   ·refine sr fun K104 hK104 => ww H <| bn rfl rfl r_eql rfl <| ag rfl rfl <| fun a H => nk hK104 <| cd H rfl h (fun h105 h => ?_) (fun h105 h => ?_)
    ·obtain ⟨a107, h108, h109, h110, h⟩ := h
     refine sr fun K106 hK106 => ww H <| mv rfl rfl <| mv rfl rfl <| mv rfl rfl <| fun a H => s_idxS (s := m18) H rfl rfl rfl slc_28 h108 h109 h110 (lt_ rfl) fun a H => ?_
     obtain ⟨I111, hc112, D113, hc114, h⟩ := h
     refine ww H <| lN (l := [(.i I111), D113.v]) rfl agg_34 rfl ⟨hc112, hc114, trivial⟩ rfl <| fun a H => ?_
     replace h := h.get
     obtain ⟨b115, w116, n117, h⟩ := h
     refine s_bslc H rfl (by rw [H.parts (vs := [(0, (.agg #[(.i I111), D113.v]))]) rfl]; exact bs_28_1_ii64s0 w72 I111 D113) (lt_ rfl) ?_
     rw [← n117.at_]
     clear H a
     intro a H
     refine n117.go ?_
     obtain ⟨s118, w119, h120, h⟩ := h
     refine s_blt H rfl (H.args (vs := [m18.v, (Slc.v (Slc.mk (some (blk b115)) 1 1))]) rfl) (lt_ rfl) (fun cs => b_app (z := s118) h120) ?_
     clear H a h120
     intro a H
     exact ww H <| ag rfl rfl <| fun a H => nk hK106 <| c_reg <| ww H <| ag rfl rfl <| fun a H => c_nil <| h70 _ _ _ _ h (H.weaken ⟨rfl, rfl, rfl, trivial⟩)
    ·refine sr fun K121 hK121 => ww H <| bn rfl rfl r_eql rfl <| ag rfl rfl <| fun a H => nk hK121 <| cd H rfl h (fun h122 h => ?_) (fun h122 h => ?_)
     ·refine sr fun K123 hK123 => ww H <| mv rfl rfl <| mv rfl rfl <| cl1 h body_7 rfl rfl eP fun K125 w124 h => fun a H => ?_
      obtain ⟨h126, h127, h128, h⟩ := h
      exact ww H <| bn rfl rfl r_sub rfl <| fun a H => s_slice (v := (Slc.v (m18.cut 2 (Int.toNat (0)) (Int.toNat (wr .i64 (K125 - 1)))))) H rfl rfl ⟨rfl, rfl⟩ ⟨rfl, rfl⟩ ⟨rfl, rfl⟩ (r_sliceSlc (lo := none) (hi := (some (.i64, wr .i64 (K125 - 1)))) slc_28 rfl rfl h126 h127 h128) (lt_ rfl) fun a H => ww H <| ag rfl rfl <| fun a H => nk hK123 <| c_reg <| ww H <| ag rfl rfl <| fun a H => c_nil <| h70 _ _ _ _ h (H.weaken ⟨rfl, rfl, rfl, trivial⟩)
     ·refine sr fun K133 hK133 => ww H <| bn rfl rfl r_eql rfl <| ag rfl rfl <| fun a H => nk hK133 <| cd H rfl h (fun h134 h => ?_) (fun h134 h => ?_)
      ·refine c_seq fun K135 hK135 => sr fun K136 hK136 => ww H <| mv rfl rfl <| bl (vs := [m18.v]) rfl rfl (fun cs => b_lenS (z := m18) sl_28) <| bn rfl rfl r_lss rfl <| fun a H => nk hK136 <| cd H rfl h (fun h137 h => ?_) (fun h137 h => ?_)
       ·exact sr fun K138 hK138 => ww H <| ag rfl rfl <| fun a H => nk hK138 <| c_ret <| e_ret1 H rfl rfl h
       ·obtain ⟨a140, h141, h142, h143, h⟩ := h
        refine c_skip <| hK135 _ _ <| sr fun K139 hK139 => ww H <| mv rfl rfl <| mv rfl rfl <| mv rfl rfl <| mv rfl rfl <| fun a H => s_idxS (s := m18) H rfl rfl rfl slc_28 h141 h142 h143 (lt_ rfl) fun a H => ?_
        obtain ⟨l144, hc145, h⟩ := h
        refine ww H <| fd rfl fld_34_1 rfl <| ld rfl one_22 hc145 rfl <| fun a H => ?_
        replace h := h.get
        obtain ⟨b146, w147, n148, h⟩ := h
        refine s_bslc H rfl (by rw [H.parts (vs := [(0, (.int .u8 1))]) rfl]; exact bs_22_1_iu80 w72 1) (lt_ rfl) ?_
        rw [← n148.at_]
        clear H a
        intro a H
        refine n148.go ?_
        obtain ⟨s149, w150, h151, h⟩ := h
        refine s_blt H rfl (H.args (vs := [l144.v, (Slc.v (Slc.mk (some (blk b146)) 1 1))]) rfl) (lt_ rfl) (fun cs => b_app (z := s149) h151) ?_
        clear H a h151
        intro a H
        obtain ⟨a152, h153, h154, h155, h⟩ := h
        exact s_idxS (s := m18) H rfl rfl rfl slc_28 h153 h154 h155 (lt_ rfl) fun a H => ww H <| fd rfl fld_34_1 rfl <| st h rfl rfl one_22 rfl fun w156 w156S h => fun a H => nk hK139 <| c_reg <| ww H <| ag rfl rfl <| fun a H => c_nil <| h70 _ _ _ _ h (H.weaken ⟨rfl, rfl, rfl, trivial⟩)
      ·exact c_skip <| h70 _ _ _ _ h (H.weaken ⟨rfl, rfl, rfl, trivial⟩)

theorem sim_sherdlaw04_made (N1 K2 : Int) (B3 O4 : Slc) (T5 : Int) (S6 H7 : Slc) (w : World) (Q : Ending → World → Prop) (h : vc_sherdlaw04_made N1 K2 B3 O4 T5 S6 H7 w Q) : Calls PP F_sherdlaw04_made #[(.agg #[(.i N1), (.i K2), B3.v, O4.v, (.i T5), S6.v, H7.v])] w Q := by
 unfold vc_sherdlaw04_made at h
 have eP {L : List (Nat × Value)} (c : List PanicEntry) (w' : World) (a : Act) (h : Q (.panicked c) w') (H : Has 143 [] a L) : bodyPost PP Tryz.f4 Q (.panic c) a w' := e_panic H h
 refine enter (n := 143) Tryz.func4 rfl rfl (le_ rfl) fun a H => sr fun K8 hK8 => ww H <| bx h rfl rfl rfl rfl fun b9 w10 n11 h => ag rfl rfl <| ag rfl rfl <| ag rfl rfl <| ag rfl rfl <| fun a H => nk hK8 <| sr fun K12 hK12 => ww H <| fd rfl fld_25_0 rfl <| fun a H => s_load (v := (.i N1)) H rfl rfl one_3 (n11.cell (i := 0) rfl) (lt_ rfl) fun a H => ww H <| cl1 h body_5 rfl rfl eP fun m14 w13 h => fun a H => ?_
 obtain ⟨l16, hc17, h⟩ := h
 refine ww H <| bn rfl rfl r_add rfl <| ag rfl rfl <| fun a H => nk hK12 <| sr fun K15 hK15 => ww H <| fd rfl fld_25_1 rfl <| ld rfl one_3 hc17 rfl <| mv rfl rfl <| cl1 h body_5 rfl rfl eP fun m19 w18 h => bn rfl rfl r_add rfl <| ag rfl rfl <| fun a H => nk hK15 <| sr fun K20 hK20 => ww H <| mv rfl rfl <| mv rfl rfl <| cl2 h body_10 rfl rfl eP fun N22 N23 w21 h => mv rfl rfl <| ex rfl rfl rfl <| ex rfl rfl rfl <| ag rfl rfl <| ag rfl rfl <| fun a H => nk hK20 <| c_seq fun K24 hK24 => sr fun K25 hK25 => ww H <| mv rfl rfl <| bn rfl rfl r_neq rfl <| mv rfl rfl <| fun a H => g_join (n := 143) [(39, (.bool ((decide (N23 ≠ 0)) || N22.isNone))), (1, (.pointer (some (blk b9)))), (6, (.i (wr .i64 (m14 + 1)))), (7, (.i (wr .i64 (m19 + 1)))), (8, (.pointer N22))] (.succ (.succ (.succ (.zero _)))) ?_ ?_
 ·intro h27
  try clear h
  rcases Bool.eq_false_or_eq_true (decide (N23 ≠ 0)) with h26 | h26
  ·replace H := H.ch (t := 36) (b := true) rfl h26
   exact ww H <| sk rfl rfl rfl rfl <| sk rfl rfl rfl rfl <| pT rfl rfl rfl <| fun a H => h27 _ (H.weaken ⟨by rw [h26]; rfl, rfl, rfl, rfl, rfl, trivial⟩)
  ·replace H := H.ch (t := 36) (b := false) rfl h26
   exact ww H <| gmv rfl rfl rfl rfl <| gbn rfl rfl rfl rfl (r_eqP0 ptr_26) rfl <| pF rfl rfl rfl <| fun a H => h27 _ (H.weaken ⟨by rw [h26]; rfl, rfl, rfl, rfl, rfl, trivial⟩)
 ·clear H a
  intro a H
  refine nk hK25 <| cd H rfl h (fun h28 h => ?_) (fun h28 h => ?_)
  ·exact sr fun K29 hK29 => ww H <| ag rfl rfl <| ag rfl rfl <| ag rfl rfl <| ag rfl rfl <| fun a H => nk hK29 <| c_ret <| e_ret4 H rfl rfl rfl rfl rfl h
  ·obtain ⟨l31, hc32, h33, h⟩ := h
   refine c_skip <| hK24 _ _ <| sr fun K30 hK30 => ww H <| fd rfl fld_25_2 rfl <| ld rfl one_22 hc32 rfl <| bl (vs := [l31.v]) rfl rfl (fun cs => b_lenS (z := l31) sl_22) <| mv rfl rfl <| bn rfl rfl (r_quo h33) rfl <| ag rfl rfl <| fun a H => nk hK30 <| sr fun K34 hK34 => ww H <| ag rfl rfl <| fun a H => nk hK34 <| c_seq fun K35 hK35 => sr fun K36 hK36 => ww H <| ag rfl rfl <| fun a H => nk hK36 <| c_block ?_
   obtain ⟨I40, m41, h191, h192⟩ := h
   refine c_loop (σ := Slc × Int) (fun z w => I40 z.1 z.2 w) (fun z w => m41 z.1 z.2 w) (fun z => [(1, (.pointer (some (blk b9)))), (6, (.i (wr .i64 (m14 + 1)))), (7, (.i (wr .i64 (m19 + 1)))), (8, (.pointer N22)), (10, (.i (wr .i64 ((l31.l : Int).tdiv (wr .i64 (m19 + 1)))))), (11, z.1.v), (12, (.i z.2))]) (Slc.nil, 0) h191 (H.weaken ⟨rfl, rfl, rfl, rfl, rfl, rfl, rfl, trivial⟩) ?_
   clear H h191
   rintro ⟨d37, i38⟩ a w39 h H
   replace h := h192 d37 i38 w39 h
   clear h192
   replace H : Has 143 [] a [(1, (.pointer (some (blk b9)))), (6, (.i (wr .i64 (m14 + 1)))), (7, (.i (wr .i64 (m19 + 1)))), (8, (.pointer N22)), (10, (.i (wr .i64 ((l31.l : Int).tdiv (wr .i64 (m19 + 1)))))), (11, d37.v), (12, (.i i38))] := H
   refine c_seq fun K42 hK42 => sr fun K43 hK43 => ww H <| mv rfl rfl <| mv rfl rfl <| bn rfl rfl r_lss rfl <| fun a H => nk hK43 <| cd H rfl h (fun h44 h => ?_) (fun h44 h => ?_)
   ·refine c_skip <| hK42 _ _ <| c_seq fun K45 hK45 => c_block <| c_reg <| ww H <| mv rfl rfl <| fun a H => ?_
    replace h := h.get
    obtain ⟨b46, w47, n48, h⟩ := h
    refine s_bslc H rfl (by rw [H.parts (vs := []) rfl]; exact bs_22_0 w39) (lt_ rfl) ?_
    rw [← n48.at_]
    clear H a
    intro a H
    refine n48.go ?_
    obtain ⟨l49, hc50, h51, h52, h53, h⟩ := h
    refine ww H <| fd rfl fld_25_2 rfl <| ld rfl one_22 hc50 rfl <| mv rfl rfl <| mv rfl rfl <| bn rfl rfl r_mul rfl <| mv rfl rfl <| mv rfl rfl <| bn rfl rfl r_mul rfl <| mv rfl rfl <| bn rfl rfl r_add rfl <| fun a H => s_slice (v := (Slc.v (l49.cut 1 (Int.toNat (wr .i64 (i38 * (wr .i64 ((l31.l : Int).tdiv (wr .i64 (m19 + 1))))))) (Int.toNat (wr .i64 ((wr .i64 (i38 * (wr .i64 ((l31.l : Int).tdiv (wr .i64 (m19 + 1)))))) + (wr .i64 ((l31.l : Int).tdiv (wr .i64 (m19 + 1)))))))))) H rfl rfl ⟨rfl, rfl⟩ ⟨rfl, rfl⟩ ⟨rfl, rfl⟩ (r_sliceSlc (lo := (some (.i64, wr .i64 (i38 * (wr .i64 ((l31.l : Int).tdiv (wr .i64 (m19 + 1)))))))) (hi := (some (.i64, wr .i64 ((wr .i64 (i38 * (wr .i64 ((l31.l : Int).tdiv (wr .i64 (m19 + 1)))))) + (wr .i64 ((l31.l : Int).tdiv (wr .i64 (m19 + 1)))))))) slc_22 rfl rfl h51 h52 h53) (lt_ rfl) fun a H => ?_
    obtain ⟨s54, w55, h56, h⟩ := h
    refine s_blt H rfl (H.args (vs := [(Slc.v (Slc.mk (some (blk b46)) 0 0)), (Slc.v (l49.cut 1 (Int.toNat (wr .i64 (i38 * (wr .i64 ((l31.l : Int).tdiv (wr .i64 (m19 + 1))))))) (Int.toNat (wr .i64 ((wr .i64 (i38 * (wr .i64 ((l31.l : Int).tdiv (wr .i64 (m19 + 1)))))) + (wr .i64 ((l31.l : Int).tdiv (wr .i64 (m19 + 1)))))))))]) rfl) (lt_ rfl) (fun cs => b_app (z := s54) h56) ?_
    clear H a h56
    intro a H
    replace h := h.get
    obtain ⟨b57, w58, n59, h⟩ := h
    refine s_bslc H rfl (by rw [H.parts (vs := [(0, s54.v)]) rfl]; exact bs_27_1_s0 w55 s54) (lt_ rfl) ?_
    rw [← n59.at_]
    clear H a
    intro a H
    refine n59.go ?_
    obtain ⟨s60, w61, h62, h⟩ := h
    refine s_blt H rfl (H.args (vs := [d37.v, (Slc.v (Slc.mk (some (blk b57)) 1 1))]) rfl) (lt_ rfl) (fun cs => b_app (z := s60) h62) ?_
    clear H a h62
    intro a H
    refine ww H <| ag rfl rfl <| fun a H => nk hK45 <| c_reg <| ww H <| mv rfl rfl <| bn rfl rfl r_add rfl <| ag rfl rfl <| fun a H => c_nil <| Exists.intro (s60, wr .i64 (i38 + 1)) ⟨h.1, h.2, H.weaken ⟨rfl, rfl, rfl, rfl, rfl, rfl, rfl, trivial⟩⟩
   ·refine c_exit ?_
    first | (simp only [Exit.then, Exit.inBlock, ↓reduceIte]; fail_if_success simp only [Nat.reduceEqDiff]) | simp only [Exit.then, Exit.inBlock, ↓reduceIte, Nat.reduceEqDiff]
    refine hK35 _ _ <| sr fun K63 hK63 => ww H <| mv rfl rfl <| mv rfl rfl <| cl2 h body_11 rfl rfl eP fun E65 E66 w64 h => mv rfl rfl <| ex rfl rfl rfl <| ex rfl rfl rfl <| ag rfl rfl <| ag rfl rfl <| fun a H => nk hK63 <| c_seq fun K67 hK67 => sr fun K68 hK68 => ww H <| mv rfl rfl <| bn rfl rfl r_neq rfl <| mv rfl rfl <| fun a H => g_join (n := 143) [(79, (.bool ((decide (E66 ≠ 0)) || (decide ((E65.l : Int) ≠ (wr .i64 (m14 + 1))))))), (1, (.pointer (some (blk b9)))), (6, (.i (wr .i64 (m14 + 1)))), (7, (.i (wr .i64 (m19 + 1)))), (8, (.pointer N22)), (11, d37.v), (13, E65.v)] (.succ (.succ (.succ (.succ (.succ (.zero _)))))) ?_ ?_
    ·intro h70
     try clear h
     rcases Bool.eq_false_or_eq_true (decide (E66 ≠ 0)) with h69 | h69
     ·replace H := H.ch (t := 74) (b := true) rfl h69
      exact ww H <| sk rfl rfl rfl rfl <| sk rfl rfl rfl rfl <| sk rfl rfl rfl rfl <| sk rfl rfl rfl rfl <| pT rfl rfl rfl <| fun a H => h70 _ (H.weaken ⟨by rw [h69]; rfl, rfl, rfl, rfl, rfl, rfl, rfl, trivial⟩)
     ·replace H := H.ch (t := 74) (b := false) rfl h69
      exact ww H <| gmv rfl rfl rfl rfl <| fun a H => s_blt H (wantG H rfl rfl) (H.args (vs := [E65.v]) rfl) (lt_ rfl) (fun cs => b_lenS (z := E65) sl_27) fun a H => ww H <| gmv rfl rfl rfl rfl <| gbn rfl rfl rfl rfl r_neq rfl <| pF rfl rfl rfl <| fun a H => h70 _ (H.weaken ⟨by rw [h69]; rfl, rfl, rfl, rfl, rfl, rfl, rfl, trivial⟩)
    ·clear H a
     intro a H
     refine nk hK68 <| cd H rfl h (fun h71 h => ?_) (fun h71 h => ?_)
     ·exact sr fun K72 hK72 => ww H <| ag rfl rfl <| ag rfl rfl <| ag rfl rfl <| ag rfl rfl <| fun a H => nk hK72 <| c_ret <| e_ret4 H rfl rfl rfl rfl rfl h
     ·refine c_skip <| hK67 _ _ <| sr fun K73 hK73 => ww H <| ag rfl rfl <| fun a H => nk hK73 <| c_seq fun K74 hK74 => sr fun K75 hK75 => ww H <| ag rfl rfl <| fun a H => nk hK75 <| c_block ?_
      obtain ⟨I79, m80, h185, h186⟩ := h
      refine c_loop (σ := Slc × Int) (fun z w => I79 z.1 z.2 w) (fun z w => m80 z.1 z.2 w) (fun z => [(1, (.pointer (some (blk b9)))), (6, (.i (wr .i64 (m14 + 1)))), (7, (.i (wr .i64 (m19 + 1)))), (8, (.pointer N22)), (11, d37.v), (13, E65.v), (14, z.1.v), (15, (.i z.2))]) (Slc.nil, 0) h185 (H.weaken ⟨rfl, rfl, rfl, rfl, rfl, rfl, rfl, rfl, trivial⟩) ?_
      clear H h185
      rintro ⟨p76, i77⟩ a w78 h H
      replace h := h186 p76 i77 w78 h
      clear h186
      replace H : Has 143 [] a [(1, (.pointer (some (blk b9)))), (6, (.i (wr .i64 (m14 + 1)))), (7, (.i (wr .i64 (m19 + 1)))), (8, (.pointer N22)), (11, d37.v), (13, E65.v), (14, p76.v), (15, (.i i77))] := H
      refine c_seq fun K81 hK81 => sr fun K82 hK82 => ww H <| mv rfl rfl <| mv rfl rfl <| bn rfl rfl r_lss rfl <| fun a H => nk hK82 <| cd H rfl h (fun h83 h => ?_) (fun h83 h => ?_)
      ·refine c_skip <| hK81 _ _ <| c_seq fun K84 hK84 => c_block <| c_reg <| ww H <| mv rfl rfl <| mv rfl rfl <| fun a H => ?_
       replace h := h.get
       obtain ⟨b85, w86, n87, h⟩ := h
       refine s_bslc H rfl (by rw [H.parts (vs := []) rfl]; exact bs_22_0 w78) (lt_ rfl) ?_
       rw [← n87.at_]
       clear H a
       intro a H
       refine n87.go ?_
       obtain ⟨a88, h89, h90, h91, h⟩ := h
       refine ww H <| mv rfl rfl <| mv rfl rfl <| fun a H => s_idxS (s := E65) H rfl rfl rfl slc_27 h89 h90 h91 (lt_ rfl) fun a H => ?_
       obtain ⟨l92, hc93, s94, w95, h96, h⟩ := h
       refine ww H <| ld rfl one_22 hc93 rfl <| fun a H => s_blt H rfl (H.args (vs := [(Slc.v (Slc.mk (some (blk b85)) 0 0)), l92.v]) rfl) (lt_ rfl) (fun cs => b_app (z := s94) h96) ?_
       clear H a h96
       intro a H
       refine s_build H rfl (by rw [H.parts (vs := [(0, (.i i77)), (1, s94.v)]) rfl]; exact bd_34_ii640_s1 w95 i77 s94) (lt_ rfl) fun a H => ?_
       replace h := h.get
       obtain ⟨b97, w98, n99, h⟩ := h
       refine s_bslc H rfl (by rw [H.parts (vs := [(0, (.agg #[(.i i77), s94.v]))]) rfl]; exact bs_28_1_ii64s0 w95 i77 s94) (lt_ rfl) ?_
       rw [← n99.at_]
       clear H a
       intro a H
       refine n99.go ?_
       obtain ⟨s100, w101, h102, h⟩ := h
       refine s_blt H rfl (H.args (vs := [p76.v, (Slc.v (Slc.mk (some (blk b97)) 1 1))]) rfl) (lt_ rfl) (fun cs => b_app (z := s100) h102) ?_
       clear H a h102
       intro a H
       refine ww H <| ag rfl rfl <| fun a H => nk hK84 <| c_reg <| ww H <| mv rfl rfl <| bn rfl rfl r_add rfl <| ag rfl rfl <| fun a H => c_nil <| Exists.intro (s100, wr .i64 (i77 + 1)) ⟨h.1, h.2, H.weaken ⟨rfl, rfl, rfl, rfl, rfl, rfl, rfl, rfl, trivial⟩⟩
      ·refine c_exit ?_
       first | (simp only [Exit.then, Exit.inBlock, ↓reduceIte]; fail_if_success simp only [Nat.reduceEqDiff]) | simp only [Exit.then, Exit.inBlock, ↓reduceIte, Nat.reduceEqDiff]
       refine hK74 _ _ <| c_seq fun K103 hK103 => sr fun K104 hK104 => ww H <| ag rfl rfl <| fun a H => nk hK104 <| c_block ?_
       obtain ⟨I107, m108, h183, h184⟩ := h
       refine c_loop (σ := Int) (fun z w => I107 z w) (fun z w => m108 z w) (fun z => [(1, (.pointer (some (blk b9)))), (6, (.i (wr .i64 (m14 + 1)))), (7, (.i (wr .i64 (m19 + 1)))), (8, (.pointer N22)), (11, d37.v), (14, p76.v), (16, (.i z))]) 0 h183 (H.weaken ⟨rfl, rfl, rfl, rfl, rfl, rfl, rfl, trivial⟩) ?_
       clear H h183
       rintro i105 a w106 h H
       replace h := h184 i105 w106 h
       clear h184
       replace H : Has 143 [] a [(1, (.pointer (some (blk b9)))), (6, (.i (wr .i64 (m14 + 1)))), (7, (.i (wr .i64 (m19 + 1)))), (8, (.pointer N22)), (11, d37.v), (14, p76.v), (16, (.i i105))] := H
       obtain ⟨x115, h116, h117, h⟩ := h
       refine c_seq fun K109 hK109 => sr fun K110 hK110 => ww H <| mv rfl rfl <| mv rfl rfl <| bn rfl rfl r_lss rfl <| mv rfl rfl <| fun a H => g_join (n := 143) [(105, (.bool x115)), (1, (.pointer (some (blk b9)))), (6, (.i (wr .i64 (m14 + 1)))), (7, (.i (wr .i64 (m19 + 1)))), (8, (.pointer N22)), (11, d37.v), (14, p76.v), (16, (.i i105))] (.succ (.succ (.succ (.succ (.succ (.succ (.zero _))))))) ?_ ?_
       ·intro h112
        try clear h
        rcases Bool.eq_false_or_eq_true (decide (i105 < (wr .i64 (m14 + 1)))) with h111 | h111
        ·replace H := H.ch (t := 99) (b := true) rfl h111
         replace h := h116 h111
         obtain ⟨l113, hc114, h⟩ := h
         refine ww H <| gmv rfl rfl rfl rfl <| gfd rfl rfl rfl fld_25_3 rfl <| gld rfl rfl rfl one_23 hc114 rfl <| fun a H => s_blt H (wantG H rfl rfl) (H.args (vs := [l113.v]) rfl) (lt_ rfl) (fun cs => b_lenS (z := l113) sl_23) fun a H => ww H <| gbn rfl rfl rfl rfl r_lss rfl <| pT rfl rfl rfl <| fun a H => ?_
         subst h
         exact h112 _ (H.weaken ⟨rfl, rfl, rfl, rfl, rfl, rfl, rfl, rfl, trivial⟩)
        ·replace H := H.ch (t := 99) (b := false) rfl h111
         refine ww H <| sk rfl rfl rfl rfl <| sk rfl rfl rfl rfl <| sk rfl rfl rfl rfl <| sk rfl rfl rfl rfl <| sk rfl rfl rfl rfl <| pF rfl rfl rfl <| fun a H => ?_
         replace h := h117 h111
         subst h
         exact h112 _ (H.weaken ⟨rfl, rfl, rfl, rfl, rfl, rfl, rfl, rfl, trivial⟩)
       ·clear H a
        clear h116 h117
        intro a H
        refine nk hK110 <| cd H rfl h (fun h118 h => ?_) (fun h118 h => ?_)
        ·obtain ⟨l121, hc122, a123, h124, h125, h126, h⟩ := h
         refine c_skip <| hK109 _ _ <| c_seq fun K119 hK119 => c_block <| sr fun K120 hK120 => ww H <| fd rfl fld_25_3 rfl <| ld rfl one_23 hc122 rfl <| mv rfl rfl <| fun a H => s_idxS (s := l121) H rfl rfl rfl slc_23 h124 h125 h126 (lt_ rfl) fun a H => ?_
         obtain ⟨l127, hc128, h⟩ := h
         refine ww H <| ld rfl one_3 hc128 rfl <| mv rfl rfl <| cl1 h body_5 rfl rfl eP fun m130 w129 h => fun a H => ?_
         obtain ⟨a132, h133, h134, h135, h⟩ := h
         refine ww H <| ag rfl rfl <| fun a H => nk hK120 <| sr fun K131 hK131 => ww H <| mv rfl rfl <| mv rfl rfl <| fun a H => s_idxS (s := p76) H rfl rfl rfl slc_28 h133 h134 h135 (lt_ rfl) fun a H => ?_
         obtain ⟨I136, hc137, D138, hc139, h⟩ := h
         refine ww H <| lN (l := [(.i I136), D138.v]) rfl agg_34 rfl ⟨hc137, hc139, trivial⟩ rfl <| al h zero_34 rfl rfl rfl fun b140 w141 n142 h => sN h rfl rfl agg_34 rfl rfl fun w143 h => fun a H => ?_
         obtain ⟨a145, h146, h147, h148, h⟩ := h
         refine nk hK131 <| sr fun K144 hK144 => ww H <| mv rfl rfl <| mv rfl rfl <| mv rfl rfl <| mv rfl rfl <| fun a H => s_idxS (s := p76) H rfl rfl rfl slc_28 h146 h147 h148 (lt_ rfl) fun a H => ?_
         obtain ⟨I149, hc150, D151, hc152, a153, h154, h155, h156, h⟩ := h
         refine ww H <| lN (l := [(.i I149), D151.v]) rfl agg_34 rfl ⟨hc150, hc152, trivial⟩ rfl <| fun a H => s_idxS (s := p76) H rfl rfl rfl slc_28 h154 h155 h156 (lt_ rfl) fun a H => ww H <| sN h rfl rfl agg_34 rfl rfl fun w157 h => fun a H => ?_
         obtain ⟨I158, hc159, D160, hc161, a162, h163, h164, h165, h⟩ := h
         refine nk hK144 <| c_reg <| ww H <| mv rfl rfl <| mv rfl rfl <| lN (l := [(.i I158), D160.v]) rfl agg_34 rfl ⟨hc159, hc161, trivial⟩ rfl <| fun a H => s_idxS (s := p76) H rfl rfl rfl slc_28 h163 h164 h165 (lt_ rfl) fun a H => ww H <| sN h rfl rfl agg_34 rfl rfl fun w166 h => fun a H => nk hK119 <| c_reg <| ww H <| mv rfl rfl <| bn rfl rfl r_add rfl <| ag rfl rfl <| fun a H => c_nil <| Exists.intro (wr .i64 (i105 + 1)) ⟨h.1, h.2, H.weaken ⟨rfl, rfl, rfl, rfl, rfl, rfl, rfl, trivial⟩⟩
        ·refine c_exit ?_
         first | (simp only [Exit.then, Exit.inBlock, ↓reduceIte]; fail_if_success simp only [Nat.reduceEqDiff]) | simp only [Exit.then, Exit.inBlock, ↓reduceIte, Nat.reduceEqDiff]
         refine hK103 _ _ <| c_seq fun K171 hK171 => ?_
         replace H := H.weaken (L' := [(1, (.pointer (some (blk b9)))), (6, (.i (wr .i64 (m14 + 1)))), (7, (.i (wr .i64 (m19 + 1)))), (8, (.pointer N22)), (11, d37.v), (14, p76.v)]) ⟨rfl, rfl, rfl, rfl, rfl, rfl, trivial⟩
         obtain ⟨l172, hc173, h⟩ := h
         refine c_any (V := [(0, (.pointer N22)), (1, d37.v), (2, p76.v), (3, (.i (wr .i64 (m19 + 1)))), (4, (.pointer (some ((blk b9).add 4)))), (5, (.i l172)), (6, (.i (wr .i64 (m14 + 1)))), (7, (.i (wr .i64 (m19 + 1)))), (8, (.i (wr .i64 ((wr .i64 (m14 + 1)) - (wr .i64 (m19 + 1)))))), (9, (.i (wr .i64 ((wr .i64 ((wr .i64 (m14 + 1)) - (wr .i64 (m19 + 1)))) + 1))))]) (⟨[[], [], [], [], [], [4], [], [], [6, 7], [8], [5, 9], [3, 10], [2, 11], [0, 10], [0, 1, 13], [0, 1, 2, 3, 4, 5, 6, 7, 8, 9, 10, 11, 12, 13, 14], [0, 1, 2, 3, 4, 5, 6, 7, 8, 9, 10, 11, 12, 13, 14, 15]], [some 130, some 131, some 132, some 133, some 134, some 135, some 136, some 137, some 138, some 139, some 140, some 141, some 142, some 2, some 3, some 4, some 5], [10], [0, 0, 0, 0, 0, 0, 0, 0, 0, 0, 0, 1, 1, 1, 1, 1, 1], [1, 1, 1, 1, 0, 0, 0, 0, 0, 0, 1, 1, 1, 1, 1, 1, 1]⟩ : Rg) [(1, (.pointer (some (blk b9)))), (6, (.i (wr .i64 (m14 + 1)))), (7, (.i (wr .i64 (m19 + 1)))), (8, (.pointer N22)), (11, d37.v), (14, p76.v)] mixed (by kernel_rfl) H ?_
         refine Stg.eff [0, 1, 2, 3, 4, 5, 6, 7, 8, 9] (by kernel_rfl) rfl (.cons ?_ (.cons ?_ (.cons ?_ (.cons ?_ (.cons ?_ (.cons ?_ (.cons ?_ (.cons ?_ (.cons ?_ (.cons ?_ .nil)))))))))) ?_
         ·exact Aw rfl rfl <| mv rfl rfl <| An rfl
         ·exact Aw rfl rfl <| mv rfl rfl <| An rfl
         ·exact Aw rfl rfl <| mv rfl rfl <| An rfl
         ·exact Aw rfl rfl <| mv rfl rfl <| An rfl
         ·exact Aw rfl rfl <| fd rfl fld_25_4 rfl <| An rfl
         ·exact Aw rfl rfl <| ld rfl one_3 hc173 rfl <| An rfl
         ·exact Aw rfl rfl <| mv rfl rfl <| An rfl
         ·exact Aw rfl rfl <| mv rfl rfl <| An rfl
         ·exact Aw rfl rfl <| bn rfl rfl r_sub rfl <| An rfl
         ·exact Aw rfl rfl <| bn rfl rfl r_add rfl <| An rfl
         ·refine cl1 h body_5 rfl rfl eP fun m175 w174 h => fun a H => ?_
          obtain ⟨h176, h177, h178, h⟩ := h
          refine c_nil <| effQ.go [(11, (.i (wr .i64 ((wr .i64 (m19 + 1)) + m175)))), (12, (Slc.v (p76.cut 2 (Int.toNat (0)) (Int.toNat (wr .i64 ((wr .i64 (m19 + 1)) + m175)))))), (13, (.pointer N22)), (14, d37.v), (15, (Slc.v (p76.cut 2 (Int.toNat (0)) (Int.toNat (wr .i64 ((wr .i64 (m19 + 1)) + m175)))))), (16, (.bool true))] H rfl rfl <| Stg.fin [0, 1, 2, 3, 11, 12, 13, 14, 15, 16] (by kernel_rfl) (.cons ?_ (.cons ?_ (.cons ?_ (.cons ?_ (.cons ?_ (.cons ?_ (.cons ?_ (.cons ?_ (.cons ?_ (.cons ?_ .nil)))))))))) ?_
          ·exact Aw rfl rfl <| mv rfl rfl <| An rfl
          ·exact Aw rfl rfl <| mv rfl rfl <| An rfl
          ·exact Aw rfl rfl <| mv rfl rfl <| An rfl
          ·exact Aw rfl rfl <| mv rfl rfl <| An rfl
          ·exact Aw rfl rfl <| bn rfl rfl r_add rfl <| An rfl
          ·exact Ans.mk rfl rfl fun a H => s_slice (v := (Slc.v (p76.cut 2 (Int.toNat (0)) (Int.toNat (wr .i64 ((wr .i64 (m19 + 1)) + m175)))))) H rfl rfl ⟨rfl, rfl⟩ ⟨rfl, rfl⟩ ⟨rfl, rfl⟩ (r_sliceSlc (lo := none) (hi := (some (.i64, wr .i64 ((wr .i64 (m19 + 1)) + m175)))) slc_28 rfl rfl h176 h177 h178) (lt_ rfl) fun a H => Ans.fin H rfl
          ·exact Aw rfl rfl <| ag rfl rfl <| An rfl
          ·exact Aw rfl rfl <| ag rfl rfl <| An rfl
          ·exact Aw rfl rfl <| ag rfl rfl <| An rfl
          ·exact Aw rfl rfl <| ag rfl rfl <| An rfl
          ·intro a H
           replace H := H.weaken (L' := [(2, (.pointer N22)), (3, d37.v), (4, (Slc.v (p76.cut 2 (Int.toNat (0)) (Int.toNat (wr .i64 ((wr .i64 (m19 + 1)) + m175)))))), (5, (.bool true))]) ⟨rfl, rfl, rfl, rfl, trivial⟩
           exact hK171 _ _ <| c_ret <| e_ret4 H rfl rfl rfl rfl rfl h

theorem sim_sherdlaw04_mod (k1 n2 : Int) (w : World) (Q : Ending → World → Prop) (h : vc_sherdlaw04_mod k1 n2 w Q) : Calls PP F_sherdlaw04_mod #[(.i k1), (.i n2)] w Q := by
 unfold vc_sherdlaw04_mod at h
 refine enter (n := 15) Tryz.func5 rfl rfl (le_ rfl) fun a H => ?_
 obtain ⟨h5, h⟩ := h
 refine sr fun K3 hK3 => ww H <| ag rfl rfl <| fun a H => nk hK3 <| sr fun K4 hK4 => ww H <| mv rfl rfl <| mv rfl rfl <| bn rfl rfl (r_rem h5) rfl <| ag rfl rfl <| fun a H => nk hK4 <| c_seq fun K6 hK6 => ?_
 obtain ⟨R8, h, h14⟩ := h
 have h11 : ∀ (a : Act) (r7 : Int) (w9 : World), R8 r7 w9 → Has 15 [] a [(5, (.i r7))] → K6 a w9 := by
  clear h
  intro a r7 w9 h H
  replace h := h14 r7 w9 h
  exact hK6 _ _ <| sr fun K10 hK10 => ww H <| mv rfl rfl <| ag rfl rfl <| fun a H => nk hK10 <| c_ret <| e_ret1 H rfl rfl h
 clear h14
 refine sr fun K12 hK12 => ww H <| mv rfl rfl <| bn rfl rfl r_lss rfl <| fun a H => nk hK12 <| cd H rfl h (fun h13 h => ?_) (fun h13 h => ?_)
 ·exact c_reg <| ww H <| mv rfl rfl <| mv rfl rfl <| bn rfl rfl r_add rfl <| ag rfl rfl <| fun a H => c_nil <| h11 _ _ _ h (H.weaken ⟨rfl, trivial⟩)
 ·exact c_skip <| h11 _ _ _ h (H.weaken ⟨rfl, trivial⟩)

theorem sim_code_Code_N (c1 : Option Addr) (w : World) (Q : Ending → World → Prop) (h : vc_code_Code_N c1 w Q) : Calls PP F_code_Code_N #[(.pointer c1)] w Q := by
 unfold vc_code_Code_N at h
 refine enter (n := 9) Tryz.func6 rfl rfl (le_ rfl) fun a H => sr fun K2 hK2 => ww H <| ag rfl rfl <| fun a H => nk hK2 <| c_seq fun K3 hK3 => sr fun K4 hK4 => ww H <| mv rfl rfl <| bn rfl rfl (r_eqP0 ptr_26) rfl <| fun a H => nk hK4 <| cd H rfl h (fun h5 h => ?_) (fun h5 h => ?_)
 ·exact sr fun K6 hK6 => ww H <| ag rfl rfl <| fun a H => nk hK6 <| c_ret <| e_ret1 H rfl rfl h
 ·obtain ⟨a8, h11, h⟩ := h
  refine c_skip <| hK3 _ _ <| sr fun K7 hK7 => ww H <| mv rfl rfl <| fun a H => ?_
  revert H
  revert h
  subst h11
  intro h H
  obtain ⟨l9, hc10, h⟩ := h
  exact ww H <| nl rfl rfl <| fd rfl fld_46_1 rfl <| ld rfl one_3 hc10 rfl <| ag rfl rfl <| fun a H => nk hK7 <| c_ret <| e_ret1 H rfl rfl h

theorem sim_code_Code_K (c1 : Option Addr) (w : World) (Q : Ending → World → Prop) (h : vc_code_Code_K c1 w Q) : Calls PP F_code_Code_K #[(.pointer c1)] w Q := by
 unfold vc_code_Code_K at h
 refine enter (n := 9) Tryz.func7 rfl rfl (le_ rfl) fun a H => sr fun K2 hK2 => ww H <| ag rfl rfl <| fun a H => nk hK2 <| c_seq fun K3 hK3 => sr fun K4 hK4 => ww H <| mv rfl rfl <| bn rfl rfl (r_eqP0 ptr_26) rfl <| fun a H => nk hK4 <| cd H rfl h (fun h5 h => ?_) (fun h5 h => ?_)
 ·exact sr fun K6 hK6 => ww H <| ag rfl rfl <| fun a H => nk hK6 <| c_ret <| e_ret1 H rfl rfl h
 ·obtain ⟨a8, h11, h⟩ := h
  refine c_skip <| hK3 _ _ <| sr fun K7 hK7 => ww H <| mv rfl rfl <| fun a H => ?_
  revert H
  revert h
  subst h11
  intro h H
  obtain ⟨l9, hc10, h⟩ := h
  exact ww H <| nl rfl rfl <| fd rfl fld_46_2 rfl <| ld rfl one_3 hc10 rfl <| ag rfl rfl <| fun a H => nk hK7 <| c_ret <| e_ret1 H rfl rfl h

theorem sim_mend_Decode (c1 : Option Addr) (p2 : Slc) (w : World) (Q : Ending → World → Prop) (h : vc_mend_Decode c1 p2 w Q) : Calls PP F_mend_Decode #[(.pointer c1), p2.v] w Q := by
 unfold vc_mend_Decode at h
 have eP {L : List (Nat × Value)} (c : List PanicEntry) (w' : World) (a : Act) (h : Q (.panicked c) w') (H : Has 109 [] a L) : bodyPost PP Tryz.f8 Q (.panic c) a w' := e_panic H h
 refine enter (n := 109) Tryz.func8 rfl rfl (le_ rfl) fun a H => sr fun K3 hK3 => ww H <| ag rfl rfl <| ag rfl rfl <| ag rfl rfl <| fun a H => nk hK3 <| c_seq fun K4 hK4 => sr fun K5 hK5 => ww H <| mv rfl rfl <| mv rfl rfl <| cl1 h body_12 rfl rfl eP fun r7 w6 h => ag rfl rfl <| fun a H => nk hK5 <| sr fun K8 hK8 => ww H <| mv rfl rfl <| bn rfl rfl r_neq rfl <| fun a H => nk hK8 <| cd H rfl h (fun h9 h => ?_) (fun h9 h => ?_)
 ·exact sr fun K10 hK10 => ww H <| mv rfl rfl <| ag rfl rfl <| ag rfl rfl <| ag rfl rfl <| fun a H => nk hK10 <| c_ret <| e_ret3 H rfl rfl rfl rfl h
 ·refine c_skip <| hK4 _ _ <| sr fun K11 hK11 => ww H <| mv rfl rfl <| mv rfl rfl <| bl (vs := [p2.v]) rfl rfl (fun cs => b_lenS (z := p2) sl_28) <| cl1 h body_9 rfl rfl eP fun M13 w12 h => ag rfl rfl <| fun a H => nk hK11 <| sr fun K14 hK14 => ww H <| mv rfl rfl <| mv rfl rfl <| mv rfl rfl <| cl2 h body_13 rfl rfl eP fun c16 c17 w15 h => mv rfl rfl <| ex rfl rfl rfl <| ex rfl rfl rfl <| ag rfl rfl <| ag rfl rfl <| fun a H => nk hK14 <| c_seq fun K18 hK18 => sr fun K19 hK19 => ww H <| mv rfl rfl <| fun a H => s_un H rfl rfl r_not (lt_ rfl) fun a H => nk hK19 <| cd H rfl h (fun h20 h => ?_) (fun h20 h => ?_)
  ·exact sr fun K21 hK21 => ww H <| ag rfl rfl <| ag rfl rfl <| ag rfl rfl <| fun a H => nk hK21 <| c_ret <| e_ret3 H rfl rfl rfl rfl h
  ·refine c_skip <| hK18 _ _ <| sr fun K22 hK22 => ww H <| mv rfl rfl <| cl1 h body_7 rfl rfl eP fun K24 w23 h => fun a H => ?_
   obtain ⟨s25, w26, h27, h⟩ := h
   refine s_mk H rfl rfl rfl h27 (lt_ rfl) ?_
   clear H a h27
   intro a H
   refine ww H <| ag rfl rfl <| fun a H => nk hK22 <| c_seq fun K28 hK28 => sr fun K29 hK29 => ww H <| mv rfl rfl <| bl (vs := [s25.v]) rfl rfl (fun cs => b_lenS (z := s25) sl_27) <| mv rfl rfl <| fun a H => nk hK29 <| c_block ?_
   obtain ⟨I32, m33, h175, h176⟩ := h
   refine c_loop (σ := Int) (fun z w => I32 z w) (fun z w => m33 z w) (fun z => [(0, (.pointer c1)), (1, p2.v), (8, (.i M13)), (9, c16.v), (11, s25.v), (43, (.i (s25.l : Int))), (44, (.i z))]) 0 h175 (H.weaken ⟨rfl, rfl, rfl, rfl, rfl, rfl, rfl, trivial⟩) ?_
   clear H h175
   rintro s30 a w31 h H
   replace h := h176 s30 w31 h
   clear h176
   replace H : Has 109 [] a [(0, (.pointer c1)), (1, p2.v), (8, (.i M13)), (9, c16.v), (11, s25.v), (43, (.i (s25.l : Int))), (44, (.i s30))] := H
   refine sr fun K34 hK34 => ww H <| bn rfl rfl r_lss rfl <| fun a H => nk hK34 <| c_seq fun K35 hK35 => cd H rfl h (fun h36 h => ?_) (fun h36 h => ?_)
   ·refine c_skip <| hK35 _ _ <| c_seq fun K37 hK37 => ?_
    obtain ⟨R38, h, h97⟩ := h
    have h40 : ∀ (a : Act) (w39 : World), R38 w39 → Has 109 [] a [(0, (.pointer c1)), (1, p2.v), (8, (.i M13)), (9, c16.v), (11, s25.v), (43, (.i (s25.l : Int))), (44, (.i s30))] → K37 a w39 := by
     clear h
     intro a w39 h H
     replace h := h97 w39 h
     refine hK37 _ _ <| c_reg <| ww H <| bn rfl rfl r_add rfl <| mv rfl rfl <| fun a H => c_nil <| Exists.intro (wr .i64 (s30 + 1)) ⟨h.1, h.2, H.weaken ⟨rfl, rfl, rfl, rfl, rfl, rfl, rfl, trivial⟩⟩
    clear h97
    obtain ⟨s43, w44, h45, h⟩ := h
    refine c_block <| sr fun K41 hK41 => ww H <| mv rfl rfl <| ag rfl rfl <| fun a H => nk hK41 <| sr fun K42 hK42 => ww H <| mv rfl rfl <| mv rfl rfl <| mv rfl rfl <| bl (vs := [c16.v]) rfl rfl (fun cs => b_lenS (z := c16) sl_27) <| fun a H => s_mk H rfl rfl rfl h45 (lt_ rfl) ?_
    clear H a h45
    intro a H
    obtain ⟨a46, h47, h48, h49, h⟩ := h
    refine s_idxS (s := s25) H rfl rfl rfl slc_27 h47 h48 h49 (lt_ rfl) fun a H => ww H <| st h rfl rfl one_22 rfl fun w50 w50S h => fun a H => nk hK42 <| sr fun K53 hK53 => ww H <| mv rfl rfl <| bl (vs := [c16.v]) rfl rfl (fun cs => b_lenS (z := c16) sl_27) <| mv rfl rfl <| fun a H => nk hK53 <| c_block ?_
    obtain ⟨I56, m57, h95, h96⟩ := h
    refine c_loop (σ := Int) (fun z w => I56 z w) (fun z w => m57 z w) (fun z => [(0, (.pointer c1)), (1, p2.v), (8, (.i M13)), (9, c16.v), (11, s25.v), (12, (.i s30)), (43, (.i (s25.l : Int))), (44, (.i s30)), (53, c16.v), (54, (.i (c16.l : Int))), (55, (.i z))]) 0 h95 (H.weaken ⟨rfl, rfl, rfl, rfl, rfl, rfl, rfl, rfl, rfl, rfl, rfl, trivial⟩) ?_
    clear H h95
    rintro s54 a w55 h H
    replace h := h96 s54 w55 h
    clear h96
    replace H : Has 109 [] a [(0, (.pointer c1)), (1, p2.v), (8, (.i M13)), (9, c16.v), (11, s25.v), (12, (.i s30)), (43, (.i (s25.l : Int))), (44, (.i s30)), (53, c16.v), (54, (.i (c16.l : Int))), (55, (.i s54))] := H
    refine sr fun K58 hK58 => ww H <| bn rfl rfl r_lss rfl <| fun a H => nk hK58 <| c_seq fun K59 hK59 => cd H rfl h (fun h60 h => ?_) (fun h60 h => ?_)
    ·obtain ⟨a63, h64, h65, h66, h⟩ := h
     refine c_skip <| hK59 _ _ <| c_seq fun K61 hK61 => c_block <| sr fun K62 hK62 => s_idxS (s := c16) H rfl rfl rfl slc_27 h64 h65 h66 (lt_ rfl) fun a H => ?_
     obtain ⟨l67, hc68, h⟩ := h
     refine ww H <| ld rfl one_22 hc68 rfl <| ag rfl rfl <| fun a H => nk hK62 <| ?_
     replace H := H.weaken (L' := [(0, (.pointer c1)), (1, p2.v), (8, (.i M13)), (9, c16.v), (11, s25.v), (12, (.i s30)), (14, l67.v), (43, (.i (s25.l : Int))), (44, (.i s30)), (53, c16.v), (54, (.i (c16.l : Int))), (55, (.i s54))]) ⟨rfl, rfl, rfl, rfl, rfl, rfl, rfl, rfl, rfl, rfl, rfl, rfl, trivial⟩
     obtain ⟨a69, h70, h71, h72, l73, hc74, a75, h76, h77, h78, l79, hc80, h⟩ := h
     refine c_any (V := [(0, s25.v), (1, (.i s30)), (2, s25.v), (3, (.i s30)), (4, (.pointer (some (a69.add (Int.toNat (s30) * 1))))), (5, l73.v), (6, l67.v), (7, (.i s30)), (8, (.pointer (some (a75.add (Int.toNat (s30) * 1))))), (9, (.int .u8 l79))]) (⟨[[], [], [], [], [2, 3], [4], [], [], [6, 7], [8], [9], [5, 10], [0, 1, 2, 3, 4, 5, 6, 7, 8, 9, 10, 11], [0, 1, 2, 3, 4, 5, 6, 7, 8, 9, 10, 11, 12]], [some 59, some 60, some 61, some 62, some 63, some 64, some 65, some 66, some 67, some 68, some 69, some 70, some 71, none], [10, 11, 13], [0, 0, 0, 0, 0, 0, 0, 0, 0, 0, 0, 1, 2, 2], [2, 2, 1, 1, 1, 1, 0, 0, 0, 0, 1, 2, 2, 3]⟩ : Rg) [(0, (.pointer c1)), (1, p2.v), (8, (.i M13)), (9, c16.v), (11, s25.v), (12, (.i s30)), (14, l67.v), (43, (.i (s25.l : Int))), (44, (.i s30)), (53, c16.v), (54, (.i (c16.l : Int))), (55, (.i s54))] mixed (by kernel_rfl) H <| Stg.eff [0, 1, 2, 3, 4, 5, 6, 7, 8, 9] (by kernel_rfl) rfl (.cons ?_ (.cons ?_ (.cons ?_ (.cons ?_ (.cons ?_ (.cons ?_ (.cons ?_ (.cons ?_ (.cons ?_ (.cons ?_ .nil)))))))))) ?_
     ·exact Aw rfl rfl <| mv rfl rfl <| An rfl
     ·exact Aw rfl rfl <| mv rfl rfl <| An rfl
     ·exact Aw rfl rfl <| mv rfl rfl <| An rfl
     ·exact Aw rfl rfl <| mv rfl rfl <| An rfl
     ·exact Ans.mk rfl rfl fun a H => s_idxS (s := s25) H rfl rfl rfl slc_27 h70 h71 h72 (lt_ rfl) fun a H => Ans.fin H rfl
     ·exact Aw rfl rfl <| ld rfl one_22 hc74 rfl <| An rfl
     ·exact Aw rfl rfl <| mv rfl rfl <| An rfl
     ·exact Aw rfl rfl <| mv rfl rfl <| An rfl
     ·exact Ans.mk rfl rfl fun a H => s_idxS (s := l67) H rfl rfl rfl slc_22 h76 h77 h78 (lt_ rfl) fun a H => Ans.fin H rfl
     ·exact Aw rfl rfl <| ld rfl one_5 hc80 rfl <| An rfl
     ·intro a H
      replace H := H.weaken (L' := [(68, (.int .u8 l79))]) ⟨rfl, trivial⟩
      replace h := h.get
      obtain ⟨b81, w82, n83, h⟩ := h
      refine s_bslc H rfl (by rw [H.parts (vs := [(0, (.int .u8 l79))]) rfl]; exact bs_22_1_iu80 (w55.drewN 1) l79) (lt_ rfl) ?_
      rw [← n83.at_]
      clear H a
      intro a H
      refine n83.go ?_
      obtain ⟨hc84, h⟩ := h
      refine c_nil <| effQ.go [] H rfl rfl <| Stg.eff [0, 1, 2, 3, 4, 5] (by kernel_rfl) rfl (.cons ?_ (.cons ?_ (.cons ?_ (.cons ?_ (.cons ?_ (.cons ?_ .nil)))))) ?_
      ·exact Aw rfl rfl <| mv rfl rfl <| An rfl
      ·exact Aw rfl rfl <| mv rfl rfl <| An rfl
      ·exact Aw rfl rfl <| mv rfl rfl <| An rfl
      ·exact Aw rfl rfl <| mv rfl rfl <| An rfl
      ·exact Ans.mk rfl rfl fun a H => s_idxS (s := s25) H rfl rfl rfl slc_27 h70 h71 h72 (lt_ rfl) fun a H => Ans.fin H rfl
      ·exact Aw rfl rfl <| ld rfl one_22 hc84 rfl <| An rfl
      ·intro a H
       replace H := H.weaken (L' := [(64, l73.v), (69, (Slc.v (Slc.mk (some (blk b81)) 1 1)))]) ⟨rfl, rfl, trivial⟩
       obtain ⟨s85, w86, h87, h⟩ := h
       refine s_blt H rfl (H.args (vs := [l73.v, (Slc.v (Slc.mk (some (blk b81)) 1 1))]) rfl) (lt_ rfl) (fun cs => b_app (z := s85) h87) ?_
       clear H a h87
       intro a H
       obtain ⟨a88, h89, h90, h91, h⟩ := h
       refine c_nil <| effQ.go [(12, (.pointer (some (a88.add (Int.toNat (s30) * 1)))))] H rfl rfl <| Stg.eff [0, 1, 12] (by kernel_rfl) rfl (.cons ?_ (.cons ?_ (.cons ?_ .nil))) ?_
       ·exact Aw rfl rfl <| mv rfl rfl <| An rfl
       ·exact Aw rfl rfl <| mv rfl rfl <| An rfl
       ·exact Ans.mk rfl rfl fun a H => s_idxS (s := s25) H rfl rfl rfl slc_27 h89 h90 h91 (lt_ rfl) fun a H => Ans.fin H rfl
       ·refine st h rfl rfl one_22 rfl fun w92 w92S h => fun a H => c_nil <| effQ.go0 [] H rfl rfl <| Stg.fin [] (by kernel_rfl) .nil ?_
        ·intro a H
         replace H := H.weaken (L' := [(0, (.pointer c1)), (1, p2.v), (8, (.i M13)), (9, c16.v), (11, s25.v), (12, (.i s30)), (43, (.i (s25.l : Int))), (44, (.i s30)), (53, c16.v), (54, (.i (c16.l : Int))), (55, (.i s54))]) ⟨rfl, rfl, rfl, rfl, rfl, rfl, rfl, rfl, rfl, rfl, rfl, trivial⟩
         refine hK61 _ _ <| c_reg <| ww H <| bn rfl rfl r_add rfl <| mv rfl rfl <| fun a H => c_nil <| Exists.intro (wr .i64 (s54 + 1)) ⟨h.1, h.2, H.weaken ⟨rfl, rfl, rfl, rfl, rfl, rfl, rfl, rfl, rfl, rfl, rfl, trivial⟩⟩
    ·refine c_exit ?_
     first | (simp only [Exit.then, Exit.inBlock, ↓reduceIte]; fail_if_success simp only [Nat.reduceEqDiff]) | simp only [Exit.then, Exit.inBlock, ↓reduceIte, Nat.reduceEqDiff]
     exact h40 _ _ h (H.weaken ⟨rfl, rfl, rfl, rfl, rfl, rfl, rfl, trivial⟩)
   ·refine c_exit ?_
    first | (simp only [Exit.then, Exit.inBlock, ↓reduceIte]; fail_if_success simp only [Nat.reduceEqDiff]) | simp only [Exit.then, Exit.inBlock, ↓reduceIte, Nat.reduceEqDiff]
    refine hK28 _ _ <| sr fun K98 hK98 => ww H <| mv rfl rfl <| mv rfl rfl <| cl2 h body_11 rfl rfl eP fun E100 E101 w99 h => mv rfl rfl <| ex rfl rfl rfl <| ex rfl rfl rfl <| ag rfl rfl <| ag rfl rfl <| fun a H => nk hK98 <| sr fun K102 hK102 => ww H <| ag rfl rfl <| fun a H => nk hK102 <| c_seq fun K103 hK103 => sr fun K104 hK104 => ww H <| mv rfl rfl <| bl (vs := [p2.v]) rfl rfl (fun cs => b_lenS (z := p2) sl_28) <| mv rfl rfl <| fun a H => nk hK104 <| c_block ?_
    obtain ⟨I108, m109, h169, h170⟩ := h
    refine c_loop (σ := Slc × Int) (fun z w => I108 z.1 z.2 w) (fun z w => m109 z.1 z.2 w) (fun z => [(8, (.i M13)), (11, s25.v), (15, E100.v), (17, z.1.v), (80, p2.v), (81, (.i (p2.l : Int))), (82, (.i z.2))]) (Slc.nil, 0) h169 (H.weaken ⟨rfl, rfl, rfl, rfl, rfl, rfl, rfl, trivial⟩) ?_
    clear H h169
    rintro ⟨w105, s106⟩ a w107 h H
    replace h := h170 w105 s106 w107 h
    clear h170
    replace H : Has 109 [] a [(8, (.i M13)), (11, s25.v), (15, E100.v), (17, w105.v), (80, p2.v), (81, (.i (p2.l : Int))), (82, (.i s106))] := H
    refine sr fun K110 hK110 => ww H <| bn rfl rfl r_lss rfl <| fun a H => nk hK110 <| c_seq fun K111 hK111 => cd H rfl h (fun h112 h => ?_) (fun h112 h => ?_)
    ·refine c_skip <| hK111 _ _ <| c_seq fun K113 hK113 => ?_
     obtain ⟨R115, h, h157⟩ := h
     have h117 : ∀ (a : Act) (w114 : Slc) (w116 : World), R115 w114 w116 → Has 109 [] a [(8, (.i M13)), (11, s25.v), (15, E100.v), (17, w114.v), (80, p2.v), (81, (.i (p2.l : Int))), (82, (.i s106))] → K113 a w116 := by
      clear h
      intro a w114 w116 h H
      replace h := h157 w114 w116 h
      refine hK113 _ _ <| c_reg <| ww H <| bn rfl rfl r_add rfl <| mv rfl rfl <| fun a H => c_nil <| Exists.intro (w114, wr .i64 (s106 + 1)) ⟨h.1, h.2, H.weaken ⟨rfl, rfl, rfl, rfl, rfl, rfl, rfl, trivial⟩⟩
     clear h157
     obtain ⟨a119, h120, h121, h122, h⟩ := h
     refine c_block <| sr fun K118 hK118 => s_idxS (s := p2) H rfl rfl rfl slc_28 h120 h121 h122 (lt_ rfl) fun a H => ?_
     obtain ⟨I123, hc124, D125, hc126, h⟩ := h
     refine ww H <| lN (l := [(.i I123), D125.v]) rfl agg_34 rfl ⟨hc124, hc126, trivial⟩ rfl <| al h zero_34 rfl rfl rfl fun b127 w128 n129 h => sN h rfl rfl agg_34 rfl rfl fun w130 h => fun a H => nk hK118 <| c_seq fun K131 hK131 => ?_
     replace H := H.weaken (L' := [(8, (.i M13)), (11, s25.v), (15, E100.v), (17, w105.v), (19, (.pointer (some (blk b127)))), (80, p2.v), (81, (.i (p2.l : Int))), (82, (.i s106))]) ⟨rfl, rfl, rfl, rfl, rfl, rfl, rfl, rfl, trivial⟩
     obtain ⟨l132, hc133, a134, h135, h136, h137, l138, hc139, l140, hc141, h⟩ := h
     refine c_any (V := [(0, E100.v), (1, (.pointer (some ((blk b127).add 0)))), (2, (.i l132)), (3, (.pointer (some (a134.add (Int.toNat (l132) * 1))))), (4, l138.v), (5, (.pointer (some ((blk b127).add 1)))), (6, l140.v)]) (⟨[[], [], [1], [0, 2], [3], [], [5], [4, 6], [7]], [some 86, some 87, some 88, some 89, some 90, some 91, some 92, some 93, some 94], [7], [0, 0, 0, 0, 0, 0, 0, 0, 1], [0, 0, 0, 0, 0, 0, 0, 1, 1]⟩ : Rg) [(8, (.i M13)), (11, s25.v), (15, E100.v), (17, w105.v), (19, (.pointer (some (blk b127)))), (80, p2.v), (81, (.i (p2.l : Int))), (82, (.i s106))] mixed (by kernel_rfl) H <| Stg.eff [0, 1, 2, 3, 4, 5, 6] (by kernel_rfl) rfl (.cons ?_ (.cons ?_ (.cons ?_ (.cons ?_ (.cons ?_ (.cons ?_ (.cons ?_ .nil))))))) ?_
     ·exact Aw rfl rfl <| mv rfl rfl <| An rfl
     ·exact Aw rfl rfl <| fd rfl fld_34_0 rfl <| An rfl
     ·exact Aw rfl rfl <| ld rfl one_3 hc133 rfl <| An rfl
     ·exact Ans.mk rfl rfl fun a H => s_idxS (s := E100) H rfl rfl rfl slc_27 h135 h136 h137 (lt_ rfl) fun a H => Ans.fin H rfl
     ·exact Aw rfl rfl <| ld rfl one_22 hc139 rfl <| An rfl
     ·exact Aw rfl rfl <| fd rfl fld_34_1 rfl <| An rfl
     ·exact Aw rfl rfl <| ld rfl one_22 hc141 rfl <| An rfl
     ·refine cl1 h body_14 rfl rfl eP fun E143 w142 h => fun a H => c_nil <| effQ.go [(8, (.bool (!E143)))] H rfl rfl <| Stg.fin [8] (by kernel_rfl) (.cons ?_ .nil) ?_
      ·exact Ans.mk rfl rfl fun a H => s_un H rfl rfl r_not (lt_ rfl) fun a H => Ans.fin H rfl
      ·intro a H
       replace H := H.weaken (L' := [(8, (.i M13)), (11, s25.v), (15, E100.v), (17, w105.v), (19, (.pointer (some (blk b127)))), (80, p2.v), (81, (.i (p2.l : Int))), (82, (.i s106)), (94, (.bool (!E143)))]) ⟨rfl, rfl, rfl, rfl, rfl, rfl, rfl, rfl, rfl, trivial⟩
       refine hK131 _ _ <| cd H rfl h (fun h144 h => ?_) (fun h144 h => ?_)
       ·obtain ⟨l145, hc146, h⟩ := h
        refine c_reg <| ww H <| mv rfl rfl <| fd rfl fld_34_0 rfl <| ld rfl one_3 hc146 rfl <| fun a H => ?_
        replace h := h.get
        obtain ⟨b147, w148, n149, h⟩ := h
        refine s_bslc H rfl (by rw [H.parts (vs := [(0, (.i l145))]) rfl]; exact bs_23_1_ii640 w142 l145) (lt_ rfl) ?_
        rw [← n149.at_]
        clear H a
        intro a H
        refine n149.go ?_
        obtain ⟨s150, w151, h152, h⟩ := h
        refine s_blt H rfl (H.args (vs := [w105.v, (Slc.v (Slc.mk (some (blk b147)) 1 1))]) rfl) (lt_ rfl) (fun cs => b_app (z := s150) h152) ?_
        clear H a h152
        intro a H
        exact ww H <| ag rfl rfl <| fun a H => c_nil <| h117 _ _ _ h (H.weaken ⟨rfl, rfl, rfl, rfl, rfl, rfl, rfl, trivial⟩)
       ·exact c_skip <| h117 _ _ _ h (H.weaken ⟨rfl, rfl, rfl, rfl, rfl, rfl, rfl, trivial⟩)
    ·refine c_exit ?_
     first | (simp only [Exit.then, Exit.inBlock, ↓reduceIte]; fail_if_success simp only [Nat.reduceEqDiff]) | simp only [Exit.then, Exit.inBlock, ↓reduceIte, Nat.reduceEqDiff]
     refine hK103 _ _ <| c_seq fun K158 hK158 => sr fun K159 hK159 => ww H <| mv rfl rfl <| bl (vs := [w105.v]) rfl rfl (fun cs => b_lenS (z := w105) sl_23) <| mv rfl rfl <| bn rfl rfl r_gtr rfl <| fun a H => nk hK159 <| cd H rfl h (fun h160 h => ?_) (fun h160 h => ?_)
     ·exact sr fun K161 hK161 => ww H <| ag rfl rfl <| ag rfl rfl <| ag rfl rfl <| fun a H => nk hK161 <| c_ret <| e_ret3 H rfl rfl rfl rfl h
     ·refine c_skip <| hK158 _ _ <| sr fun K162 hK162 => ww H <| mv rfl rfl <| fun a H => s_call H rfl body_15 (H.args (vs := [w105.v]) rfl) (lt_ rfl) h ?_ (fun c w' => eP c w' _)
      clear H h a
      rintro _ w163 a ⟨rfl, h⟩ H
      exact nk hK162 <| sr fun K164 hK164 => ww H <| mv rfl rfl <| mv rfl rfl <| ag rfl rfl <| ag rfl rfl <| ag rfl rfl <| fun a H => nk hK164 <| c_ret <| e_ret3 H rfl rfl rfl rfl h

theorem sim_mend_Most (c1 : Option Addr) (m2 : Int) (w : World) (Q : Ending → World → Prop) (h : vc_mend_Most c1 m2 w Q) : Calls PP F_mend_Most #[(.pointer c1), (.i m2)] w Q := by
 unfold vc_mend_Most at h
 have eP {L : List (Nat × Value)} (c : List PanicEntry) (w' : World) (a : Act) (h : Q (.panicked c) w') (H : Has 24 [] a L) : bodyPost PP Tryz.f9 Q (.panic c) a w' := e_panic H h
 refine enter (n := 24) Tryz.func9 rfl rfl (le_ rfl) fun a H => sr fun K3 hK3 => ww H <| ag rfl rfl <| fun a H => nk hK3 <| c_seq fun K4 hK4 => sr fun K5 hK5 => ww H <| mv rfl rfl <| bn rfl rfl (r_eqP0 ptr_26) rfl <| mv rfl rfl <| fun a H => ?_
 obtain ⟨R8, h, h38⟩ := h
 refine g_joinW (n := 24) R8 (fun x9 => [(12, (.bool x9)), (0, (.pointer c1)), (1, (.i m2))]) (.succ (.succ (.succ (.succ (.succ (.zero _)))))) ?_ ?_
 ·intro h7
  clear h38
  rcases Bool.eq_false_or_eq_true c1.isNone with h6 | h6
  ·replace H := H.ch (t := 7) (b := true) rfl h6
   replace h := h.2 h6
   exact ww H <| sk rfl rfl rfl rfl <| sk rfl rfl rfl rfl <| sk rfl rfl rfl rfl <| sk rfl rfl rfl rfl <| pT rfl rfl rfl <| fun a H => h7 _ _ _ h (H.weaken ⟨rfl, rfl, rfl, trivial⟩)
  ·replace H := H.ch (t := 7) (b := false) rfl h6
   replace h := h.1 h6
   refine ww H <| gmv rfl rfl rfl rfl <| gmv rfl rfl rfl rfl <| fun a H => s_call H (wantG H rfl rfl) body_7 (H.args (vs := [(.pointer c1)]) rfl) (lt_ rfl) h ?_ (fun c w' => eP c w' _)
   clear H h a
   rintro _ w11 a ⟨K12, rfl, h⟩ H
   exact ww H <| gbn rfl rfl rfl rfl r_lss rfl <| pF rfl rfl rfl <| fun a H => h7 _ _ _ h (H.weaken ⟨rfl, rfl, rfl, trivial⟩)
 ·clear H a h
  intro a x9 w10 h H
  replace h := h38 x9 w10 h
  clear h38
  refine ww H <| mv rfl rfl <| fun a H => ?_
  obtain ⟨R19, h, h37⟩ := h
  refine g_joinW (n := 24) R19 (fun x20 => [(18, (.bool x20)), (0, (.pointer c1)), (1, (.i m2))]) (.succ (.succ (.succ (.succ (.succ (.zero _)))))) ?_ ?_
  ·intro h18
   clear h37
   rcases Bool.eq_false_or_eq_true x9 with h17 | h17
   ·replace H := H.ch (t := 13) (b := true) rfl h17
    replace h := h.2 h17
    exact ww H <| sk rfl rfl rfl rfl <| sk rfl rfl rfl rfl <| sk rfl rfl rfl rfl <| sk rfl rfl rfl rfl <| pT rfl rfl rfl <| fun a H => h18 _ _ _ h (H.weaken ⟨rfl, rfl, rfl, trivial⟩)
   ·replace H := H.ch (t := 13) (b := false) rfl h17
    replace h := h.1 h17
    refine ww H <| gmv rfl rfl rfl rfl <| gmv rfl rfl rfl rfl <| fun a H => s_call H (wantG H rfl rfl) body_6 (H.args (vs := [(.pointer c1)]) rfl) (lt_ rfl) h ?_ (fun c w' => eP c w' _)
    clear H h a
    rintro _ w22 a ⟨N23, rfl, h⟩ H
    exact ww H <| gbn rfl rfl rfl rfl r_gtr rfl <| pF rfl rfl rfl <| fun a H => h18 _ _ _ h (H.weaken ⟨rfl, rfl, rfl, trivial⟩)
  ·clear H a h
   intro a x20 w21 h H
   replace h := h37 x20 w21 h
   clear h37
   refine nk hK5 <| cd H rfl h (fun h28 h => ?_) (fun h28 h => ?_)
   ·exact sr fun K29 hK29 => ww H <| ag rfl rfl <| fun a H => nk hK29 <| c_ret <| e_ret1 H rfl rfl h
   ·exact c_skip <| hK4 _ _ <| sr fun K30 hK30 => ww H <| mv rfl rfl <| mv rfl rfl <| cl1 h body_7 rfl rfl eP fun K32 w31 h => bn rfl rfl r_sub rfl <| bn rfl rfl (r_quo (by decide)) rfl <| ag rfl rfl <| fun a H => nk hK30 <| c_ret <| e_ret1 H rfl rfl h

theorem sim_code_New (n1 k2 : Int) (w : World) (Q : Ending → World → Prop) (h : vc_code_New n1 k2 w Q) : Calls PP F_code_New #[(.i n1), (.i k2)] w Q := by
 unfold vc_code_New at h
 have eP {L : List (Nat × Value)} (c : List PanicEntry) (w' : World) (a : Act) (h : Q (.panicked c) w') (H : Has 28 [] a L) : bodyPost PP Tryz.f10 Q (.panic c) a w' := e_panic H h
 refine enter (n := 28) Tryz.func10 rfl rfl (le_ rfl) fun a H => sr fun K3 hK3 => ww H <| ag rfl rfl <| ag rfl rfl <| fun a H => nk hK3 <| c_seq fun K4 hK4 => sr fun K5 hK5 => ww H <| mv rfl rfl <| bn rfl rfl r_lss rfl <| mv rfl rfl <| fun a H => g_join (n := 28) [(13, (.bool ((decide (k2 < 1)) || (decide (n1 < k2))))), (0, (.i n1)), (1, (.i k2))] (.succ (.succ (.succ (.succ (.zero _))))) ?_ ?_
 ·intro h7
  try clear h
  rcases Bool.eq_false_or_eq_true (decide (k2 < 1)) with h6 | h6
  ·replace H := H.ch (t := 9) (b := true) rfl h6
   exact ww H <| sk rfl rfl rfl rfl <| sk rfl rfl rfl rfl <| sk rfl rfl rfl rfl <| pT rfl rfl rfl <| fun a H => h7 _ (H.weaken ⟨by rw [h6]; rfl, rfl, rfl, trivial⟩)
  ·replace H := H.ch (t := 9) (b := false) rfl h6
   exact ww H <| gmv rfl rfl rfl rfl <| gmv rfl rfl rfl rfl <| gbn rfl rfl rfl rfl r_lss rfl <| pF rfl rfl rfl <| fun a H => h7 _ (H.weaken ⟨by rw [h6]; rfl, rfl, rfl, trivial⟩)
 ·clear H a
  intro a H
  refine ww H <| mv rfl rfl <| fun a H => g_join (n := 28) [(17, (.bool (((decide (k2 < 1)) || (decide (n1 < k2))) || (decide (255 < n1))))), (0, (.i n1)), (1, (.i k2))] (.succ (.succ (.succ (.zero _)))) ?_ ?_
  ·intro h9
   try clear h
   rcases Bool.eq_false_or_eq_true ((decide (k2 < 1)) || (decide (n1 < k2))) with h8 | h8
   ·replace H := H.ch (t := 14) (b := true) rfl h8
    exact ww H <| sk rfl rfl rfl rfl <| sk rfl rfl rfl rfl <| pT rfl rfl rfl <| fun a H => h9 _ (H.weaken ⟨by rw [h8]; rfl, rfl, rfl, trivial⟩)
   ·replace H := H.ch (t := 14) (b := false) rfl h8
    exact ww H <| gmv rfl rfl rfl rfl <| gbn rfl rfl rfl rfl r_gtr rfl <| pF rfl rfl rfl <| fun a H => h9 _ (H.weaken ⟨by rw [h8]; rfl, rfl, rfl, trivial⟩)
  ·clear H a
   intro a H
   refine nk hK5 <| cd H rfl h (fun h10 h => ?_) (fun h10 h => ?_)
   ·exact sr fun K11 hK11 => ww H <| ag rfl rfl <| ag rfl rfl <| fun a H => nk hK11 <| c_ret <| e_ret2 H rfl rfl rfl h
   ·exact c_skip <| hK4 _ _ <| sr fun K12 hK12 => ww H <| cl1 h body_16 rfl rfl eP fun S14 w13 h => ag rfl rfl <| fun a H => nk hK12 <| sr fun K15 hK15 => ww H <| mv rfl rfl <| mv rfl rfl <| mv rfl rfl <| mv rfl rfl <| mv rfl rfl <| mv rfl rfl <| cl1 h body_17 rfl rfl eP fun g17 w16 h => fun a H => s_build H rfl (by rw [H.parts (vs := [(0, (.pointer S14)), (1, (.i n1)), (2, (.i k2)), (3, g17.v)]) rfl]; exact bd_46_p0_ii641_ii642_s3 w16 S14 n1 k2 g17) (lt_ rfl) fun a H => ww H <| bx h rfl rfl rfl rfl fun b18 w19 n20 h => ag rfl rfl <| ag rfl rfl <| fun a H => nk hK15 <| c_ret <| e_ret2 H rfl rfl rfl h

theorem sim_code_Code_Encode (c1 : Option Addr) (d2 : Slc) (w : World) (Q : Ending → World → Prop) (h : vc_code_Code_Encode c1 d2 w Q) : Calls PP F_code_Code_Encode #[(.pointer c1), d2.v] w Q := by
 unfold vc_code_Code_Encode at h
 have eP {L : List (Nat × Value)} (c : List PanicEntry) (w' : World) (a : Act) (h : Q (.panicked c) w') (H : Has 33 [] a L) : bodyPost PP Tryz.f11 Q (.panic c) a w' := e_panic H h
 refine enter (n := 33) Tryz.func11 rfl rfl (le_ rfl) fun a H => sr fun K3 hK3 => ww H <| ag rfl rfl <| ag rfl rfl <| fun a H => nk hK3 <| c_seq fun K4 hK4 => sr fun K5 hK5 => ww H <| mv rfl rfl <| bn rfl rfl (r_eqP0 ptr_26) rfl <| fun a H => nk hK5 <| cd H rfl h (fun h6 h => ?_) (fun h6 h => ?_)
 ·exact sr fun K7 hK7 => ww H <| ag rfl rfl <| ag rfl rfl <| fun a H => nk hK7 <| c_ret <| e_ret2 H rfl rfl rfl h
 ·refine c_skip <| hK4 _ _ <| c_seq fun K8 hK8 => sr fun K9 hK9 => ww H <| mv rfl rfl <| mv rfl rfl <| cl1 h body_18 rfl rfl eP fun s11 w10 h => fun a H => s_un H rfl rfl r_not (lt_ rfl) fun a H => nk hK9 <| cd H rfl h (fun h12 h => ?_) (fun h12 h => ?_)
  ·exact sr fun K13 hK13 => ww H <| ag rfl rfl <| ag rfl rfl <| fun a H => nk hK13 <| c_ret <| e_ret2 H rfl rfl rfl h
  ·obtain ⟨a17, h51, h⟩ := h
   refine c_skip <| hK8 _ _ <| sr fun K14 hK14 => ww H <| ag rfl rfl <| fun a H => nk hK14 <| c_seq fun K15 hK15 => sr fun K16 hK16 => ww H <| mv rfl rfl <| fun a H => ?_
   revert H
   revert h
   subst h51
   intro h H
   obtain ⟨l18, hc19, h⟩ := h
   refine ww H <| nl rfl rfl <| fd rfl fld_46_3 rfl <| ld rfl one_27 hc19 rfl <| bl (vs := [l18.v]) rfl rfl (fun cs => b_lenS (z := l18) sl_27) <| mv rfl rfl <| fun a H => nk hK16 <| c_block ?_
   obtain ⟨I23, m24, h49, h50⟩ := h
   refine c_loop (σ := Slc × Int) (fun z w => I23 z.1 z.2 w) (fun z w => m24 z.1 z.2 w) (fun z => [(0, (.pointer (some a17))), (1, d2.v), (6, z.1.v), (18, l18.v), (19, (.i (l18.l : Int))), (20, (.i z.2))]) (Slc.nil, 0) h49 (H.weaken ⟨rfl, rfl, rfl, rfl, rfl, rfl, trivial⟩) ?_
   clear H h49
   rintro ⟨o20, s21⟩ a w22 h H
   replace h := h50 o20 s21 w22 h
   clear h50
   replace H : Has 33 [] a [(0, (.pointer (some a17))), (1, d2.v), (6, o20.v), (18, l18.v), (19, (.i (l18.l : Int))), (20, (.i s21))] := H
   refine sr fun K25 hK25 => ww H <| bn rfl rfl r_lss rfl <| fun a H => nk hK25 <| c_seq fun K26 hK26 => cd H rfl h (fun h27 h => ?_) (fun h27 h => ?_)
   ·obtain ⟨a30, h31, h32, h33, h⟩ := h
    refine c_skip <| hK26 _ _ <| c_seq fun K28 hK28 => c_block <| sr fun K29 hK29 => s_idxS (s := l18) H rfl rfl rfl slc_27 h31 h32 h33 (lt_ rfl) fun a H => ?_
    obtain ⟨l34, hc35, h⟩ := h
    refine ww H <| ld rfl one_22 hc35 rfl <| ag rfl rfl <| fun a H => nk hK29 <| c_reg <| ww H <| mv rfl rfl <| mv rfl rfl <| mv rfl rfl <| mv rfl rfl <| cl1 h body_19 rfl rfl eP fun s37 w36 h => fun a H => ?_
    replace h := h.get
    obtain ⟨b38, w39, n40, h⟩ := h
    refine s_bslc H rfl (by rw [H.parts (vs := [(0, s37.v)]) rfl]; exact bs_27_1_s0 w36 s37) (lt_ rfl) ?_
    rw [← n40.at_]
    clear H a
    intro a H
    refine n40.go ?_
    obtain ⟨s41, w42, h43, h⟩ := h
    refine s_blt H rfl (H.args (vs := [o20.v, (Slc.v (Slc.mk (some (blk b38)) 1 1))]) rfl) (lt_ rfl) (fun cs => b_app (z := s41) h43) ?_
    clear H a h43
    intro a H
    refine ww H <| ag rfl rfl <| fun a H => nk hK28 <| c_reg <| ww H <| bn rfl rfl r_add rfl <| mv rfl rfl <| fun a H => c_nil <| Exists.intro (s41, wr .i64 (s21 + 1)) ⟨h.1, h.2, H.weaken ⟨rfl, rfl, rfl, rfl, rfl, rfl, trivial⟩⟩
   ·refine c_exit ?_
    first | (simp only [Exit.then, Exit.inBlock, ↓reduceIte]; fail_if_success simp only [Nat.reduceEqDiff]) | simp only [Exit.then, Exit.inBlock, ↓reduceIte, Nat.reduceEqDiff]
    exact hK15 _ _ <| sr fun K48 hK48 => ww H <| mv rfl rfl <| ag rfl rfl <| ag rfl rfl <| fun a H => nk hK48 <| c_ret <| e_ret2 H rfl rfl rfl h

theorem sim_mend_refused (c1 : Option Addr) (p2 : Slc) (w : World) (Q : Ending → World → Prop) (h : vc_mend_refused c1 p2 w Q) : Calls PP F_mend_refused #[(.pointer c1), p2.v] w Q := by
 unfold vc_mend_refused at h
 have eP {L : List (Nat × Value)} (c : List PanicEntry) (w' : World) (a : Act) (h : Q (.panicked c) w') (H : Has 71 [] a L) : bodyPost PP Tryz.f12 Q (.panic c) a w' := e_panic H h
 refine enter (n := 71) Tryz.func12 rfl rfl (le_ rfl) fun a H => sr fun K3 hK3 => ww H <| ag rfl rfl <| fun a H => nk hK3 <| c_seq fun K4 hK4 => sr fun K5 hK5 => ww H <| mv rfl rfl <| bn rfl rfl (r_eqP0 ptr_26) rfl <| fun a H => nk hK5 <| cd H rfl h (fun h6 h => ?_) (fun h6 h => ?_)
 ·exact sr fun K7 hK7 => ww H <| ag rfl rfl <| fun a H => nk hK7 <| c_ret <| e_ret1 H rfl rfl h
 ·refine c_skip <| hK4 _ _ <| c_seq fun K8 hK8 => sr fun K9 hK9 => ww H <| mv rfl rfl <| bl (vs := [p2.v]) rfl rfl (fun cs => b_lenS (z := p2) sl_28) <| mv rfl rfl <| fun a H => nk hK9 <| c_block ?_
  obtain ⟨I12, m13, h155, h156⟩ := h
  refine c_loop (σ := Int) (fun z w => I12 z w) (fun z w => m13 z w) (fun z => [(0, (.pointer c1)), (1, p2.v), (14, p2.v), (15, (.i (p2.l : Int))), (16, (.i z))]) 0 h155 (H.weaken ⟨rfl, rfl, rfl, rfl, rfl, trivial⟩) ?_
  clear H h155
  rintro s10 a w11 h H
  replace h := h156 s10 w11 h
  clear h156
  replace H : Has 71 [] a [(0, (.pointer c1)), (1, p2.v), (14, p2.v), (15, (.i (p2.l : Int))), (16, (.i s10))] := H
  refine sr fun K14 hK14 => ww H <| bn rfl rfl r_lss rfl <| fun a H => nk hK14 <| c_seq fun K15 hK15 => cd H rfl h (fun h16 h => ?_) (fun h16 h => ?_)
  ·obtain ⟨a19, h20, h21, h22, h⟩ := h
   refine c_skip <| hK15 _ _ <| c_seq fun K17 hK17 => c_block <| sr fun K18 hK18 => s_idxS (s := p2) H rfl rfl rfl slc_28 h20 h21 h22 (lt_ rfl) fun a H => ?_
   obtain ⟨I23, hc24, D25, hc26, h⟩ := h
   refine ww H <| lN (l := [(.i I23), D25.v]) rfl agg_34 rfl ⟨hc24, hc26, trivial⟩ rfl <| al h zero_34 rfl rfl rfl fun b27 w28 n29 h => sN h rfl rfl agg_34 rfl rfl fun w30 h => fun a H => nk hK18 <| c_seq fun K31 hK31 => ?_
   obtain ⟨R33, h, h50⟩ := h
   have h37 : ∀ (a : Act) (s32 : Bool) (w34 : World), R33 s32 w34 → Has 71 [] a [(0, (.pointer c1)), (1, p2.v), (14, p2.v), (15, (.i (p2.l : Int))), (16, (.i s10)), (29, (.bool s32))] → K31 a w34 := by
    clear h
    intro a s32 w34 h H
    replace h := h50 s32 w34 h
    refine hK31 _ _ <| cd H rfl h (fun h35 h => ?_) (fun h35 h => ?_)
    ·exact sr fun K36 hK36 => ww H <| ag rfl rfl <| fun a H => nk hK36 <| c_ret <| e_ret1 H rfl rfl h
    ·refine c_skip <| hK17 _ _ <| c_reg <| ww H <| bn rfl rfl r_add rfl <| mv rfl rfl <| fun a H => c_nil <| Exists.intro (wr .i64 (s10 + 1)) ⟨h.1, h.2, H.weaken ⟨rfl, rfl, rfl, rfl, rfl, trivial⟩⟩
   clear h50
   replace H := H.weaken (L' := [(0, (.pointer c1)), (1, p2.v), (6, (.pointer (some (blk b27)))), (14, p2.v), (15, (.i (p2.l : Int))), (16, (.i s10))]) ⟨rfl, rfl, rfl, rfl, rfl, rfl, trivial⟩
   obtain ⟨l38, hc39, h⟩ := h
   rcases Bool.eq_false_or_eq_true (decide (l38 < 0)) with h40 | h40
   ·replace h := h.1 h40
    refine c_any (V := [(0, (.pointer (some ((blk b27).add 0)))), (1, (.i l38)), (2, (.bool (decide (l38 < 0)))), (3, (.bool (decide (l38 < 0)))), (4, undef), (5, undef), (6, undef)]) (⟨[[], [0], [1], [2], [3], [3, 4], [3], [3, 6], [3, 5, 7], [3, 8]], [some 20, some 21, some 22, some 23, some 24, some 25, some 26, some 27, some 28, some 29], [7], [0, 0, 0, 0, 0, 0, 0, 0, 1, 1], [0, 0, 0, 0, 1, 1, 0, 1, 1, 1]⟩ : Rg) [(0, (.pointer c1)), (1, p2.v), (6, (.pointer (some (blk b27)))), (14, p2.v), (15, (.i (p2.l : Int))), (16, (.i s10))] mixed (by kernel_rfl) H <| Stg.eff [0, 1, 2, 3, 4, 5, 6] (by kernel_rfl) rfl (.cons ?_ (.cons ?_ (.cons ?_ (.cons ?_ (.cons ?_ (.cons ?_ (.cons ?_ .nil))))))) ?_
    ·exact Aw rfl rfl <| fd rfl fld_34_0 rfl <| An rfl
    ·exact Aw rfl rfl <| ld rfl one_3 hc39 rfl <| An rfl
    ·exact Aw rfl rfl <| bn rfl rfl r_lss rfl <| An rfl
    ·exact Aw rfl rfl <| mv rfl rfl <| An rfl
    ·exact .skip rfl rfl rfl rfl rfl rfl h40 rfl
    ·exact .skip rfl rfl rfl rfl rfl rfl h40 rfl
    ·exact .skip rfl rfl rfl rfl rfl rfl h40 rfl
    ·intro a H
     replace H := H.weaken (L' := [(23, (.bool (decide (l38 < 0)))), (26, undef)]) ⟨rfl, rfl, trivial⟩
     replace H := H.ch (t := 23) (b := true) rfl h40
     refine ww H <| sk rfl rfl rfl rfl <| fun a H => c_nil <| effQ.go [(8, undef), (9, (.bool true))] H rfl rfl <| Stg.fin [4, 5, 8, 9] (by kernel_rfl) (.cons ?_ (.cons ?_ (.cons ?_ (.cons ?_ .nil)))) ?_
     ·exact .skip rfl rfl rfl rfl rfl rfl h40 rfl
     ·exact .skip rfl rfl rfl rfl rfl rfl h40 rfl
     ·exact .skip rfl rfl rfl rfl rfl rfl h40 rfl
     ·refine Ans.mk rfl rfl fun a H => ?_
      replace H := H.ch (t := 23) (b := true) rfl h40
      exact ww H <| pT rfl rfl rfl <| fun a H => Ans.fin H rfl
     ·intro a H
      replace H := H.weaken (L' := [(0, (.pointer c1)), (1, p2.v), (14, p2.v), (15, (.i (p2.l : Int))), (16, (.i s10)), (29, (.bool true))]) ⟨rfl, rfl, rfl, rfl, rfl, rfl, trivial⟩
      exact h37 _ _ _ h (H.weaken ⟨rfl, rfl, rfl, rfl, rfl, rfl, trivial⟩)
   ·replace h := h.2 h40
    obtain ⟨l41, hc42, h⟩ := h
    refine c_any (V := [(0, (.pointer (some ((blk b27).add 0)))), (1, (.i l38)), (2, (.bool (decide (l38 < 0)))), (3, (.bool (decide (l38 < 0)))), (4, (.pointer (some ((blk b27).add 0)))), (5, (.i l41)), (6, (.pointer c1))]) (⟨[[], [0], [1], [2], [3], [3, 4], [3], [3, 6], [3, 5, 7], [3, 8]], [some 20, some 21, some 22, some 23, some 24, some 25, some 26, some 27, some 28, some 29], [7], [0, 0, 0, 0, 0, 0, 0, 0, 1, 1], [0, 0, 0, 0, 1, 1, 0, 1, 1, 1]⟩ : Rg) [(0, (.pointer c1)), (1, p2.v), (6, (.pointer (some (blk b27)))), (14, p2.v), (15, (.i (p2.l : Int))), (16, (.i s10))] mixed (by kernel_rfl) H <| Stg.eff [0, 1, 2, 3, 4, 5, 6] (by kernel_rfl) rfl (.cons ?_ (.cons ?_ (.cons ?_ (.cons ?_ (.cons ?_ (.cons ?_ (.cons ?_ .nil))))))) ?_
    ·exact Aw rfl rfl <| fd rfl fld_34_0 rfl <| An rfl
    ·exact Aw rfl rfl <| ld rfl one_3 hc39 rfl <| An rfl
    ·exact Aw rfl rfl <| bn rfl rfl r_lss rfl <| An rfl
    ·exact Aw rfl rfl <| mv rfl rfl <| An rfl
    ·refine Ans.mk rfl rfl fun a H => ?_
     replace H := H.ch (t := 23) (b := false) rfl h40
     exact ww H <| gfd rfl rfl rfl fld_34_0 rfl <| fun a H => Ans.fin H rfl
    ·refine Ans.mk rfl rfl fun a H => ?_
     replace H := H.ch (t := 23) (b := false) rfl h40
     exact ww H <| gld rfl rfl rfl one_3 hc42 rfl <| fun a H => Ans.fin H rfl
    ·refine Ans.mk rfl rfl fun a H => ?_
     replace H := H.ch (t := 23) (b := false) rfl h40
     exact ww H <| gmv rfl rfl rfl rfl <| fun a H => Ans.fin H rfl
    ·intro a H
     replace H := H.weaken (L' := [(23, (.bool (decide (l38 < 0)))), (26, (.pointer c1))]) ⟨rfl, rfl, trivial⟩
     replace H := H.ch (t := 23) (b := false) rfl h40
     refine s_call H (wantG H rfl rfl) body_6 (H.args (vs := [(.pointer c1)]) rfl) (lt_ rfl) h ?_ (fun c w' => eP c w' _)
     clear H h a
     rintro _ w43 a ⟨N44, rfl, h⟩ H
     obtain ⟨hc45, h⟩ := h
     refine c_nil <| effQ.go [(8, (.bool (decide (N44 ≤ l41)))), (9, (.bool (decide (N44 ≤ l41))))] H rfl rfl <| Stg.fin [4, 5, 8, 9] (by kernel_rfl) (.cons ?_ (.cons ?_ (.cons ?_ (.cons ?_ .nil)))) ?_
     ·refine Ans.mk rfl rfl fun a H => ?_
      replace H := H.ch (t := 23) (b := false) rfl h40
      exact ww H <| gfd rfl rfl rfl fld_34_0 rfl <| fun a H => Ans.fin H rfl
     ·refine Ans.mk rfl rfl fun a H => ?_
      replace H := H.ch (t := 23) (b := false) rfl h40
      exact ww H <| gld rfl rfl rfl one_3 hc45 rfl <| fun a H => Ans.fin H rfl
     ·refine Ans.mk rfl rfl fun a H => ?_
      replace H := H.ch (t := 23) (b := false) rfl h40
      exact ww H <| gbn rfl rfl rfl rfl r_geq rfl <| fun a H => Ans.fin H rfl
     ·refine Ans.mk rfl rfl fun a H => ?_
      replace H := H.ch (t := 23) (b := false) rfl h40
      exact ww H <| pF rfl rfl rfl <| fun a H => Ans.fin H rfl
     ·intro a H
      replace H := H.weaken (L' := [(0, (.pointer c1)), (1, p2.v), (14, p2.v), (15, (.i (p2.l : Int))), (16, (.i s10)), (29, (.bool (decide (N44 ≤ l41))))]) ⟨rfl, rfl, rfl, rfl, rfl, rfl, trivial⟩
      exact h37 _ _ _ h (H.weaken ⟨rfl, rfl, rfl, rfl, rfl, rfl, trivial⟩)
  ·refine c_exit ?_
   first | (simp only [Exit.then, Exit.inBlock, ↓reduceIte]; fail_if_success simp only [Nat.reduceEqDiff]) | simp only [Exit.then, Exit.inBlock, ↓reduceIte, Nat.reduceEqDiff]
   refine hK8 _ _ <| sr fun K51 hK51 => ww H <| mv rfl rfl <| cl1 h body_6 rfl rfl eP fun N53 w52 h => fun a H => ?_
   obtain ⟨s54, w55, h56, h⟩ := h
   refine s_mk H rfl rfl rfl h56 (lt_ rfl) ?_
   clear H a h56
   intro a H
   refine ww H <| ag rfl rfl <| fun a H => nk hK51 <| c_seq fun K57 hK57 => sr fun K58 hK58 => ww H <| mv rfl rfl <| bl (vs := [p2.v]) rfl rfl (fun cs => b_lenS (z := p2) sl_28) <| mv rfl rfl <| fun a H => nk hK58 <| c_block ?_
   obtain ⟨I61, m62, h149, h150⟩ := h
   refine c_loop (σ := Int) (fun z w => I61 z w) (fun z w => m62 z w) (fun z => [(0, (.pointer c1)), (1, p2.v), (7, s54.v), (34, p2.v), (35, (.i (p2.l : Int))), (36, (.i z))]) 0 h149 (H.weaken ⟨rfl, rfl, rfl, rfl, rfl, rfl, trivial⟩) ?_
   clear H h149
   rintro s59 a w60 h H
   replace h := h150 s59 w60 h
   clear h150
   replace H : Has 71 [] a [(0, (.pointer c1)), (1, p2.v), (7, s54.v), (34, p2.v), (35, (.i (p2.l : Int))), (36, (.i s59))] := H
   refine sr fun K63 hK63 => ww H <| bn rfl rfl r_lss rfl <| fun a H => nk hK63 <| c_seq fun K64 hK64 => cd H rfl h (fun h65 h => ?_) (fun h65 h => ?_)
   ·obtain ⟨a68, h69, h70, h71, h⟩ := h
    refine c_skip <| hK64 _ _ <| c_seq fun K66 hK66 => c_block <| sr fun K67 hK67 => s_idxS (s := p2) H rfl rfl rfl slc_28 h69 h70 h71 (lt_ rfl) fun a H => ?_
    obtain ⟨I72, hc73, D74, hc75, h⟩ := h
    refine ww H <| lN (l := [(.i I72), D74.v]) rfl agg_34 rfl ⟨hc73, hc75, trivial⟩ rfl <| al h zero_34 rfl rfl rfl fun b76 w77 n78 h => sN h rfl rfl agg_34 rfl rfl fun w79 h => fun a H => ?_
    obtain ⟨l82, hc83, a84, h85, h86, h87, h⟩ := h
    refine nk hK67 <| c_seq fun K80 hK80 => sr fun K81 hK81 => ww H <| mv rfl rfl <| fd rfl fld_34_0 rfl <| ld rfl one_3 hc83 rfl <| fun a H => s_idxS (s := s54) H rfl rfl rfl slc_56 h85 h86 h87 (lt_ rfl) fun a H => ?_
    obtain ⟨l88, hc89, h⟩ := h
    refine ww H <| ld rfl one_4 hc89 rfl <| fun a H => nk hK81 <| cd H rfl h (fun h90 h => ?_) (fun h90 h => ?_)
    ·exact sr fun K91 hK91 => ww H <| ag rfl rfl <| fun a H => nk hK91 <| c_ret <| e_ret1 H rfl rfl h
    ·obtain ⟨l92, hc93, a94, h95, h96, h97, h⟩ := h
     refine c_skip <| hK80 _ _ <| c_reg <| ww H <| mv rfl rfl <| fd rfl fld_34_0 rfl <| ld rfl one_3 hc93 rfl <| fun a H => s_idxS (s := s54) H rfl rfl rfl slc_56 h95 h96 h97 (lt_ rfl) fun a H => ww H <| st h rfl rfl one_4 rfl fun w98 w98S h => fun a H => nk hK66 <| c_reg <| ww H <| bn rfl rfl r_add rfl <| mv rfl rfl <| fun a H => c_nil <| Exists.intro (wr .i64 (s59 + 1)) ⟨h.1, h.2, H.weaken ⟨rfl, rfl, rfl, rfl, rfl, rfl, trivial⟩⟩
   ·refine c_exit ?_
    first | (simp only [Exit.then, Exit.inBlock, ↓reduceIte]; fail_if_success simp only [Nat.reduceEqDiff]) | simp only [Exit.then, Exit.inBlock, ↓reduceIte, Nat.reduceEqDiff]
    refine hK57 _ _ <| c_seq fun K101 hK101 => sr fun K102 hK102 => ww H <| mv rfl rfl <| bl (vs := [p2.v]) rfl rfl (fun cs => b_lenS (z := p2) sl_28) <| mv rfl rfl <| fun a H => nk hK102 <| c_block ?_
    obtain ⟨I105, m106, h147, h148⟩ := h
    refine c_loop (σ := Int) (fun z w => I105 z w) (fun z w => m106 z w) (fun z => [(0, (.pointer c1)), (1, p2.v), (50, p2.v), (51, (.i (p2.l : Int))), (52, (.i z))]) 0 h147 (H.weaken ⟨rfl, rfl, rfl, rfl, rfl, trivial⟩) ?_
    clear H h147
    rintro s103 a w104 h H
    replace h := h148 s103 w104 h
    clear h148
    replace H : Has 71 [] a [(0, (.pointer c1)), (1, p2.v), (50, p2.v), (51, (.i (p2.l : Int))), (52, (.i s103))] := H
    refine sr fun K107 hK107 => ww H <| bn rfl rfl r_lss rfl <| fun a H => nk hK107 <| c_seq fun K108 hK108 => cd H rfl h (fun h109 h => ?_) (fun h109 h => ?_)
    ·obtain ⟨a112, h113, h114, h115, h⟩ := h
     refine c_skip <| hK108 _ _ <| c_seq fun K110 hK110 => c_block <| sr fun K111 hK111 => s_idxS (s := p2) H rfl rfl rfl slc_28 h113 h114 h115 (lt_ rfl) fun a H => ?_
     obtain ⟨I116, hc117, D118, hc119, h⟩ := h
     refine ww H <| lN (l := [(.i I116), D118.v]) rfl agg_34 rfl ⟨hc117, hc119, trivial⟩ rfl <| al h zero_34 rfl rfl rfl fun b120 w121 n122 h => sN h rfl rfl agg_34 rfl rfl fun w123 h => fun a H => nk hK111 <| c_seq fun K124 hK124 => c_regD mixed (by kernel_rfl) <| z_fld H rfl rfl fld_34_1 (lt_ rfl) fun a H => ?_
     obtain ⟨l126, hc127, h⟩ := h
     refine z_load (v := l126.v) H rfl rfl one_22 hc127 (lt_ rfl) fun a H => z_blt H rfl (H.args (vs := [l126.v]) rfl) (lt_ rfl) (fun cs w => b_lenS (z := l126) sl_22) fun a H => z_move H rfl rfl (lt_ rfl) fun a H => ?_
     obtain ⟨a128, h129, h130, h131, h⟩ := h
     refine z_idxS (s := p2) H rfl rfl rfl slc_28 h129 h130 h131 (lt_ rfl) fun a H => z_fld H rfl rfl fld_34_1 (lt_ rfl) fun a H => ?_
     obtain ⟨l132, hc133, h⟩ := h
     refine z_load (v := l132.v) H rfl rfl one_22 hc133 (lt_ rfl) fun a H => z_blt H rfl (H.args (vs := [l132.v]) rfl) (lt_ rfl) (fun cs w => b_lenS (z := l132) sl_22) fun a H => z_bin H rfl rfl rfl r_neq (lt_ rfl) fun a H => wpQuiet_nil ?_
     rintro _ ⟨k125, rfl⟩
     replace h := h k125
     refine hK124 _ _ <| cd H rfl h (fun h134 h => ?_) (fun h134 h => ?_)
     ·exact sr fun K135 hK135 => ww H <| ag rfl rfl <| fun a H => nk hK135 <| c_ret <| e_ret1 H rfl rfl h
     ·refine c_skip <| hK110 _ _ <| c_reg <| ww H <| bn rfl rfl r_add rfl <| mv rfl rfl <| fun a H => c_nil <| Exists.intro (wr .i64 (s103 + 1)) ⟨h.1, h.2, H.weaken ⟨rfl, rfl, rfl, rfl, rfl, trivial⟩⟩
    ·refine c_exit ?_
     first | (simp only [Exit.then, Exit.inBlock, ↓reduceIte]; fail_if_success simp only [Nat.reduceEqDiff]) | simp only [Exit.then, Exit.inBlock, ↓reduceIte, Nat.reduceEqDiff]
     refine hK101 _ _ <| c_seq fun K136 hK136 => sr fun K137 hK137 => ww H <| mv rfl rfl <| bl (vs := [p2.v]) rfl rfl (fun cs => b_lenS (z := p2) sl_28) <| mv rfl rfl <| cl1 h body_7 rfl rfl eP fun K139 w138 h => bn rfl rfl r_lss rfl <| fun a H => nk hK137 <| cd H rfl h (fun h140 h => ?_) (fun h140 h => ?_)
     ·exact sr fun K141 hK141 => ww H <| ag rfl rfl <| fun a H => nk hK141 <| c_ret <| e_ret1 H rfl rfl h
     ·exact c_skip <| hK136 _ _ <| sr fun K142 hK142 => ww H <| ag rfl rfl <| fun a H => nk hK142 <| c_ret <| e_ret1 H rfl rfl h

theorem sim_bytes_Equal (a1 b2 : Slc) (w : World) (Q : Ending → World → Prop) (h : vc_bytes_Equal a1 b2 w Q) : Calls PP F_bytes_Equal #[a1.v, b2.v] w Q := by
 unfold vc_bytes_Equal at h
 refine enter (n := 10) Tryz.func14 rfl rfl (le_ rfl) fun a H => ?_
 obtain ⟨s5, h6, h⟩ := h
 refine sr fun K3 hK3 => ww H <| ag rfl rfl <| fun a H => nk hK3 <| sr fun K4 hK4 => ww H <| mv rfl rfl <| fun a H => s_cv H rfl rfl h6 (lt_ rfl) ?_
 clear H a h6
 intro a H
 obtain ⟨s7, h8, h⟩ := h
 refine ww H <| mv rfl rfl <| fun a H => s_cv H rfl rfl h8 (lt_ rfl) ?_
 clear H a h8
 intro a H
 exact ww H <| bn rfl rfl r_eqlS rfl <| ag rfl rfl <| fun a H => nk hK4 <| c_ret <| e_ret1 H rfl rfl h

theorem sim_gf_Std (w : World) (Q : Ending → World → Prop) (h : vc_gf_Std w Q) : Calls PP F_gf_Std #[] w Q := by
 unfold vc_gf_Std at h
 have eP {L : List (Nat × Value)} (c : List PanicEntry) (w' : World) (a : Act) (h : Q (.panicked c) w') (H : Has 8 [] a L) : bodyPost PP Tryz.f16 Q (.panic c) a w' := e_panic H h
 exact enter (n := 8) Tryz.func16 rfl rfl (le_ rfl) fun a H => sr fun K1 hK1 => ww H <| ag rfl rfl <| fun a H => nk hK1 <| sr fun K2 hK2 => ww H <| cl2 h body_29 rfl rfl eP fun N4 N5 w3 h => mv rfl rfl <| ex rfl rfl rfl <| ex rfl rfl rfl <| ag rfl rfl <| ag rfl rfl <| fun a H => nk hK2 <| sr fun K6 hK6 => ww H <| mv rfl rfl <| ag rfl rfl <| fun a H => nk hK6 <| c_ret <| e_ret1 H rfl rfl h

theorem sim_code_generator (f1 : Option Addr) (n2 k3 : Int) (w : World) (Q : Ending → World → Prop) (h : vc_code_generator f1 n2 k3 w Q) : Calls PP F_code_generator #[(.pointer f1), (.i n2), (.i k3)] w Q := by
 unfold vc_code_generator at h
 have eP {L : List (Nat × Value)} (c : List PanicEntry) (w' : World) (a : Act) (h : Q (.panicked c) w') (H : Has 59 [] a L) : bodyPost PP Tryz.f17 Q (.panic c) a w' := e_panic H h
 refine enter (n := 59) Tryz.func17 rfl rfl (le_ rfl) fun a H => ?_
 obtain ⟨s6, w7, h8, h⟩ := h
 refine sr fun K4 hK4 => ww H <| ag rfl rfl <| fun a H => nk hK4 <| sr fun K5 hK5 => ww H <| mv rfl rfl <| fun a H => s_mk H rfl rfl rfl h8 (lt_ rfl) ?_
 clear H a h8
 intro a H
 refine ww H <| ag rfl rfl <| fun a H => nk hK5 <| c_seq fun K9 hK9 => sr fun K10 hK10 => ww H <| mv rfl rfl <| bl (vs := [s6.v]) rfl rfl (fun cs => b_lenS (z := s6) sl_22) <| mv rfl rfl <| fun a H => nk hK10 <| c_block ?_
 obtain ⟨I13, m14, h69, h70⟩ := h
 refine c_loop (σ := Int) (fun z w => I13 z w) (fun z w => m14 z w) (fun z => [(0, (.pointer f1)), (2, (.i k3)), (7, s6.v), (20, (.i (s6.l : Int))), (21, (.i z))]) 0 h69 (H.weaken ⟨rfl, rfl, rfl, rfl, rfl, trivial⟩) ?_
 clear H h69
 rintro s11 a w12 h H
 replace h := h70 s11 w12 h
 clear h70
 replace H : Has 59 [] a [(0, (.pointer f1)), (2, (.i k3)), (7, s6.v), (20, (.i (s6.l : Int))), (21, (.i s11))] := H
 refine sr fun K15 hK15 => ww H <| bn rfl rfl r_lss rfl <| fun a H => nk hK15 <| c_seq fun K16 hK16 => cd H rfl h (fun h17 h => ?_) (fun h17 h => ?_)
 ·refine c_skip <| hK16 _ _ <| c_seq fun K18 hK18 => c_block <| sr fun K19 hK19 => ww H <| mv rfl rfl <| ag rfl rfl <| fun a H => nk hK19 <| c_reg <| ww H <| mv rfl rfl <| mv rfl rfl <| mv rfl rfl <| fun a H => s_cv H rfl rfl (r_cvI some_3 int_5) (lt_ rfl) fun a H => ?_
  obtain ⟨a20, h21, h22, h23, h⟩ := h
  refine s_idxS (s := s6) H rfl rfl rfl slc_22 h21 h22 h23 (lt_ rfl) fun a H => ww H <| st h rfl rfl one_5 rfl fun w24 w24S h => fun a H => nk hK18 <| c_reg <| ww H <| bn rfl rfl r_add rfl <| mv rfl rfl <| fun a H => c_nil <| Exists.intro (wr .i64 (s11 + 1)) ⟨h.1, h.2, H.weaken ⟨rfl, rfl, rfl, rfl, rfl, trivial⟩⟩
 ·refine c_exit ?_
  first | (simp only [Exit.then, Exit.inBlock, ↓reduceIte]; fail_if_success simp only [Nat.reduceEqDiff]) | simp only [Exit.then, Exit.inBlock, ↓reduceIte, Nat.reduceEqDiff]
  refine hK9 _ _ <| sr fun K27 hK27 => ww H <| mv rfl rfl <| mv rfl rfl <| mv rfl rfl <| cl2 h body_30 rfl rfl eP fun V29 V30 w28 h => fun a H => ?_
  obtain ⟨h32, h33, h34, h⟩ := h
  refine ww H <| mv rfl rfl <| ex rfl rfl rfl <| ex rfl rfl rfl <| ag rfl rfl <| ag rfl rfl <| fun a H => nk hK27 <| sr fun K31 hK31 => ww H <| mv rfl rfl <| mv rfl rfl <| mv rfl rfl <| fun a H => s_slice (v := (Slc.v (s6.cut 1 (Int.toNat (0)) (Int.toNat (k3))))) H rfl rfl ⟨rfl, rfl⟩ ⟨rfl, rfl⟩ ⟨rfl, rfl⟩ (r_sliceSlc (lo := none) (hi := (some (.i64, k3))) slc_22 rfl rfl h32 h33 h34) (lt_ rfl) fun a H => ww H <| mv rfl rfl <| cl2 h body_30 rfl rfl eP fun V36 V37 w35 h => mv rfl rfl <| ex rfl rfl rfl <| ex rfl rfl rfl <| ag rfl rfl <| ag rfl rfl <| fun a H => nk hK31 <| sr fun K38 hK38 => ww H <| mv rfl rfl <| cl2 h body_31 rfl rfl eP fun I40 I41 w39 h => mv rfl rfl <| ex rfl rfl rfl <| ex rfl rfl rfl <| ag rfl rfl <| ag rfl rfl <| fun a H => nk hK38 <| sr fun K42 hK42 => ww H <| mv rfl rfl <| mv rfl rfl <| cl2 h body_32 rfl rfl eP fun M44 M45 w43 h => mv rfl rfl <| ex rfl rfl rfl <| ex rfl rfl rfl <| ag rfl rfl <| ag rfl rfl <| fun a H => nk hK42 <| sr fun K46 hK46 => ww H <| mv rfl rfl <| cl1 h body_33 rfl rfl eP fun R48 w47 h => ag rfl rfl <| fun a H => nk hK46 <| c_ret ?_
  exact e_ret1 H rfl rfl h

theorem sim_code_Code_shaped (c1 : Option Addr) (d2 : Slc) (w : World) (Q : Ending → World → Prop) (h : vc_code_Code_shaped c1 d2 w Q) : Calls PP F_code_Code_shaped #[(.pointer c1), d2.v] w Q := by
 unfold vc_code_Code_shaped at h
 have eP {L : List (Nat × Value)} (c : List PanicEntry) (w' : World) (a : Act) (h : Q (.panicked c) w') (H : Has 18 [] a L) : bodyPost PP Tryz.f18 Q (.panic c) a w' := e_panic H h
 refine enter (n := 18) Tryz.func18 rfl rfl (le_ rfl) fun a H => sr fun K3 hK3 => ww H <| bx h rfl rfl rfl rfl fun b4 w5 n6 h => ag rfl rfl <| fun a H => nk hK3 <| c_seq fun K7 hK7 => ?_
 obtain ⟨R9, h, h27⟩ := h
 have h11 : ∀ (a : Act) (s8 : Bool) (w10 : World), R9 s8 w10 → Has 18 [] a [(4, (.bool s8))] → K7 a w10 := by
  clear h
  intro a s8 w10 h H
  replace h := h27 s8 w10 h
  exact hK7 _ _ <| c_ret <| e_ret1 H rfl rfl h
 clear h27
 replace H := H.weaken (L' := [(0, (.pointer c1)), (3, (.pointer (some (blk b4)))), (4, (.bool false))]) ⟨rfl, rfl, rfl, trivial⟩
 obtain ⟨l12, hc13, a14, h15, h⟩ := h
 revert H
 revert h
 subst h15
 intro h H
 obtain ⟨l16, hc17, h⟩ := h
 rcases Bool.eq_false_or_eq_true (decide ((l12.l : Int) = l16)) with h18 | h18
 ·replace h := h.1 h18
  obtain ⟨l19, hc20, h⟩ := h
  refine c_any (V := [(0, l12.v), (1, (.i (l12.l : Int))), (2, (.pointer (some a14))), (3, (.pointer (some a14))), (4, (.pointer (some (a14.add 2)))), (5, (.i l16)), (6, (.bool (decide ((l12.l : Int) = l16)))), (7, (.bool (decide ((l12.l : Int) = l16)))), (8, l19.v), (9, (.func (.func F_code_Code_shaped_c1) #[] #[(.pointer (some (blk b4)))]))]) (⟨[[], [0], [], [2], [3], [4], [1, 5], [6], [7], [7], [7, 8, 9], [7, 10], [7, 11], [0, 1, 2, 3, 4, 5, 6, 7, 8, 9, 10, 11, 12]], [some 5, some 6, some 7, some 8, some 9, some 10, some 11, some 12, some 13, some 14, some 15, some 16, some 17, some 4], [10], [0, 0, 0, 0, 0, 0, 0, 0, 0, 0, 0, 1, 1, 1], [0, 0, 0, 0, 0, 0, 0, 0, 0, 0, 1, 1, 1, 1]⟩ : Rg) [(0, (.pointer (some a14))), (3, (.pointer (some (blk b4)))), (4, (.bool false))] mixed (by kernel_rfl) H <| Stg.eff [0, 1, 2, 3, 4, 5, 6, 7, 8, 9] (by kernel_rfl) rfl (.cons ?_ (.cons ?_ (.cons ?_ (.cons ?_ (.cons ?_ (.cons ?_ (.cons ?_ (.cons ?_ (.cons ?_ (.cons ?_ .nil)))))))))) ?_
  ·exact Aw rfl rfl <| ld rfl one_27 hc13 rfl <| An rfl
  ·exact Aw rfl rfl <| bl (vs := [l12.v]) rfl rfl (fun cs => b_lenS (z := l12) sl_27) <| An rfl
  ·exact Aw rfl rfl <| mv rfl rfl <| An rfl
  ·exact Aw rfl rfl <| nl rfl rfl <| An rfl
  ·exact Aw rfl rfl <| fd rfl fld_46_2 rfl <| An rfl
  ·exact Aw rfl rfl <| ld rfl one_3 hc17 rfl <| An rfl
  ·exact Aw rfl rfl <| bn rfl rfl r_eql rfl <| An rfl
  ·exact Aw rfl rfl <| mv rfl rfl <| An rfl
  ·refine Ans.mk rfl rfl fun a H => ?_
   replace H := H.ch (t := 12) (b := true) rfl h18
   exact ww H <| gld rfl rfl rfl one_27 hc20 rfl <| fun a H => Ans.fin H rfl
  ·refine Ans.mk rfl rfl fun a H => ?_
   replace H := H.ch (t := 12) (b := true) rfl h18
   exact s_mkf H (wantG H rfl rfl) (H.args (vs := [(.pointer (some (blk b4)))]) rfl) (lt_ rfl) fun a H => Ans.fin H rfl
  ·intro a H
   replace H := H.weaken (L' := [(12, (.bool (decide ((l12.l : Int) = l16)))), (13, l19.v), (14, (.func (.func F_code_Code_shaped_c1) #[] #[(.pointer (some (blk b4)))]))]) ⟨rfl, rfl, rfl, trivial⟩
   replace H := H.ch (t := 12) (b := true) rfl h18
   refine s_call H (wantG H rfl rfl) body_34 (H.args (vs := [l19.v, (.func (.func F_code_Code_shaped_c1) #[] #[(.pointer (some (blk b4)))])]) rfl) (lt_ rfl) h ?_ (fun c w' => eP c w' _)
   clear H h a
   rintro _ w21 a ⟨r22, rfl, h⟩ H
   refine c_nil <| effQ.go [(11, (.bool (!r22))), (12, (.bool (!r22))), (13, (.bool (!r22)))] H rfl rfl <| Stg.fin [11, 12, 13] (by kernel_rfl) (.cons ?_ (.cons ?_ (.cons ?_ .nil))) ?_
   ·refine Ans.mk rfl rfl fun a H => ?_
    replace H := H.ch (t := 12) (b := true) rfl h18
    exact s_un H (wantG H rfl rfl) rfl r_not (lt_ rfl) fun a H => Ans.fin H rfl
   ·refine Ans.mk rfl rfl fun a H => ?_
    replace H := H.ch (t := 12) (b := true) rfl h18
    exact ww H <| pT rfl rfl rfl <| fun a H => Ans.fin H rfl
   ·exact Aw rfl rfl <| ag rfl rfl <| An rfl
   ·intro a H
    replace H := H.weaken (L' := [(4, (.bool (!r22)))]) ⟨rfl, trivial⟩
    exact h11 _ _ _ h (H.weaken ⟨rfl, trivial⟩)
 ·replace h := h.2 h18
  refine c_any (V := [(0, l12.v), (1, (.i (l12.l : Int))), (2, (.pointer (some a14))), (3, (.pointer (some a14))), (4, (.pointer (some (a14.add 2)))), (5, (.i l16)), (6, (.bool (decide ((l12.l : Int) = l16)))), (7, (.bool (decide ((l12.l : Int) = l16)))), (8, undef), (9, undef)]) (⟨[[], [0], [], [2], [3], [4], [1, 5], [6], [7], [7], [7, 8, 9], [7, 10], [7, 11], [0, 1, 2, 3, 4, 5, 6, 7, 8, 9, 10, 11, 12]], [some 5, some 6, some 7, some 8, some 9, some 10, some 11, some 12, some 13, some 14, some 15, some 16, some 17, some 4], [10], [0, 0, 0, 0, 0, 0, 0, 0, 0, 0, 0, 1, 1, 1], [0, 0, 0, 0, 0, 0, 0, 0, 0, 0, 1, 1, 1, 1]⟩ : Rg) [(0, (.pointer (some a14))), (3, (.pointer (some (blk b4)))), (4, (.bool false))] mixed (by kernel_rfl) H <| Stg.eff [0, 1, 2, 3, 4, 5, 6, 7, 8, 9] (by kernel_rfl) rfl (.cons ?_ (.cons ?_ (.cons ?_ (.cons ?_ (.cons ?_ (.cons ?_ (.cons ?_ (.cons ?_ (.cons ?_ (.cons ?_ .nil)))))))))) ?_
  ·exact Aw rfl rfl <| ld rfl one_27 hc13 rfl <| An rfl
  ·exact Aw rfl rfl <| bl (vs := [l12.v]) rfl rfl (fun cs => b_lenS (z := l12) sl_27) <| An rfl
  ·exact Aw rfl rfl <| mv rfl rfl <| An rfl
  ·exact Aw rfl rfl <| nl rfl rfl <| An rfl
  ·exact Aw rfl rfl <| fd rfl fld_46_2 rfl <| An rfl
  ·exact Aw rfl rfl <| ld rfl one_3 hc17 rfl <| An rfl
  ·exact Aw rfl rfl <| bn rfl rfl r_eql rfl <| An rfl
  ·exact Aw rfl rfl <| mv rfl rfl <| An rfl
  ·exact .skip rfl rfl rfl rfl rfl rfl h18 rfl
  ·exact .skip rfl rfl rfl rfl rfl rfl h18 rfl
  ·intro a H
   replace H := H.weaken (L' := [(12, (.bool (decide ((l12.l : Int) = l16)))), (13, undef), (14, undef)]) ⟨rfl, rfl, rfl, trivial⟩
   replace H := H.ch (t := 12) (b := false) rfl h18
   refine ww H <| sk rfl rfl rfl rfl <| fun a H => c_nil <| effQ.go [(11, undef), (12, (.bool false)), (13, (.bool false))] H rfl rfl <| Stg.fin [11, 12, 13] (by kernel_rfl) (.cons ?_ (.cons ?_ (.cons ?_ .nil))) ?_
   ·exact .skip rfl rfl rfl rfl rfl rfl h18 rfl
   ·refine Ans.mk rfl rfl fun a H => ?_
    replace H := H.ch (t := 12) (b := false) rfl h18
    exact ww H <| pF rfl rfl rfl <| fun a H => Ans.fin H rfl
   ·exact Aw rfl rfl <| ag rfl rfl <| An rfl
   ·intro a H
    replace H := H.weaken (L' := [(4, (.bool false))]) ⟨rfl, trivial⟩
    exact h11 _ _ _ h (H.weaken ⟨rfl, trivial⟩)

theorem sim_code_Code_sum (c1 : Option Addr) (f2 r3 : Slc) (w : World) (Q : Ending → World → Prop) (h : vc_code_Code_sum c1 f2 r3 w Q) : Calls PP F_code_Code_sum #[(.pointer c1), f2.v, r3.v] w Q := by
 unfold vc_code_Code_sum at h
 have eP {L : List (Nat × Value)} (c : List PanicEntry) (w' : World) (a : Act) (h : Q (.panicked c) w') (H : Has 35 [] a L) : bodyPost PP Tryz.f19 Q (.panic c) a w' := e_panic H h
 refine enter (n := 35) Tryz.func19 rfl rfl (le_ rfl) fun a H => ?_
 obtain ⟨a6, h7, h8, h9, h⟩ := h
 refine sr fun K4 hK4 => ww H <| ag rfl rfl <| fun a H => nk hK4 <| sr fun K5 hK5 => ww H <| mv rfl rfl <| fun a H => s_idxS (s := r3) H rfl rfl rfl slc_27 h7 h8 h9 (lt_ rfl) fun a H => ?_
 obtain ⟨l10, hc11, s12, w13, h14, h⟩ := h
 refine ww H <| ld rfl one_22 hc11 rfl <| bl (vs := [l10.v]) rfl rfl (fun cs => b_lenS (z := l10) sl_22) <| fun a H => s_mk H rfl rfl rfl h14 (lt_ rfl) ?_
 clear H a h14
 intro a H
 refine ww H <| ag rfl rfl <| fun a H => nk hK5 <| c_seq fun K15 hK15 => sr fun K16 hK16 => ww H <| mv rfl rfl <| bl (vs := [r3.v]) rfl rfl (fun cs => b_lenS (z := r3) sl_27) <| mv rfl rfl <| fun a H => nk hK16 <| c_block ?_
 obtain ⟨I19, m20, h49, h50⟩ := h
 refine c_loop (σ := Int) (fun z w => I19 z w) (fun z w => m20 z w) (fun z => [(0, (.pointer c1)), (1, f2.v), (7, s12.v), (15, r3.v), (16, (.i (r3.l : Int))), (17, (.i z))]) 0 h49 (H.weaken ⟨rfl, rfl, rfl, rfl, rfl, rfl, trivial⟩) ?_
 clear H h49
 rintro s17 a w18 h H
 replace h := h50 s17 w18 h
 clear h50
 replace H : Has 35 [] a [(0, (.pointer c1)), (1, f2.v), (7, s12.v), (15, r3.v), (16, (.i (r3.l : Int))), (17, (.i s17))] := H
 refine sr fun K21 hK21 => ww H <| bn rfl rfl r_lss rfl <| fun a H => nk hK21 <| c_seq fun K22 hK22 => cd H rfl h (fun h23 h => ?_) (fun h23 h => ?_)
 ·obtain ⟨a26, h27, h28, h29, h⟩ := h
  refine c_skip <| hK22 _ _ <| c_seq fun K24 hK24 => c_block <| sr fun K25 hK25 => ww H <| mv rfl rfl <| fun a H => s_idxS (s := r3) H rfl rfl rfl slc_27 h27 h28 h29 (lt_ rfl) fun a H => ?_
  obtain ⟨l30, hc31, h⟩ := h
  refine ww H <| ld rfl one_22 hc31 rfl <| ag rfl rfl <| ag rfl rfl <| fun a H => nk hK25 <| ?_
  replace H := H.weaken (L' := [(0, (.pointer c1)), (1, f2.v), (7, s12.v), (8, (.i s17)), (9, l30.v), (15, r3.v), (16, (.i (r3.l : Int))), (17, (.i s17))]) ⟨rfl, rfl, rfl, rfl, rfl, rfl, rfl, rfl, trivial⟩
  obtain ⟨a32, h33, h⟩ := h
  revert H
  revert h
  subst h33
  intro h H
  obtain ⟨l34, hc35, a36, h37, h38, h39, l40, hc41, h⟩ := h
  refine c_any (V := [(0, (.pointer (some a32))), (1, (.pointer (some a32))), (2, (.pointer (some (a32.add 0)))), (3, (.pointer l34)), (4, s12.v), (5, f2.v), (6, (.i s17)), (7, (.pointer (some (a36.add (Int.toNat (s17) * 1))))), (8, (.int .u8 l40)), (9, l30.v)]) (⟨[[], [0], [1], [2], [], [], [], [5, 6], [7], [], [3, 4, 8, 9]], [some 22, some 23, some 24, some 25, some 26, some 27, some 28, some 29, some 30, some 31, some 32], [10], [0, 0, 0, 0, 0, 0, 0, 0, 0, 0, 0], [0, 0, 0, 0, 0, 0, 0, 0, 0, 0, 1]⟩ : Rg) [(0, (.pointer (some a32))), (1, f2.v), (7, s12.v), (8, (.i s17)), (9, l30.v), (15, r3.v), (16, (.i (r3.l : Int))), (17, (.i s17))] mixed (by kernel_rfl) H <| Stg.eff [0, 1, 2, 3, 4, 5, 6, 7, 8, 9] (by kernel_rfl) rfl (.cons ?_ (.cons ?_ (.cons ?_ (.cons ?_ (.cons ?_ (.cons ?_ (.cons ?_ (.cons ?_ (.cons ?_ (.cons ?_ .nil)))))))))) ?_
  ·exact Aw rfl rfl <| mv rfl rfl <| An rfl
  ·exact Aw rfl rfl <| nl rfl rfl <| An rfl
  ·exact Aw rfl rfl <| fd rfl fld_46_0 rfl <| An rfl
  ·exact Aw rfl rfl <| ld rfl one_44 hc35 rfl <| An rfl
  ·exact Aw rfl rfl <| mv rfl rfl <| An rfl
  ·exact Aw rfl rfl <| mv rfl rfl <| An rfl
  ·exact Aw rfl rfl <| mv rfl rfl <| An rfl
  ·exact Ans.mk rfl rfl fun a H => s_idxS (s := f2) H rfl rfl rfl slc_22 h37 h38 h39 (lt_ rfl) fun a H => Ans.fin H rfl
  ·exact Aw rfl rfl <| ld rfl one_5 hc41 rfl <| An rfl
  ·exact Aw rfl rfl <| mv rfl rfl <| An rfl
  ·refine cl1 h body_36 rfl rfl eP fun A43 w42 h => fun a H => c_nil <| effQ.go [] H rfl rfl <| Stg.fin [] (by kernel_rfl) .nil ?_
   ·intro a H
    replace H := H.weaken (L' := [(0, (.pointer (some a32))), (1, f2.v), (7, s12.v), (15, r3.v), (16, (.i (r3.l : Int))), (17, (.i s17))]) ⟨rfl, rfl, rfl, rfl, rfl, rfl, trivial⟩
    refine hK24 _ _ <| c_reg <| ww H <| bn rfl rfl r_add rfl <| mv rfl rfl <| fun a H => c_nil <| Exists.intro (wr .i64 (s17 + 1)) ⟨h.1, h.2, H.weaken ⟨rfl, rfl, rfl, rfl, rfl, rfl, trivial⟩⟩
 ·refine c_exit ?_
  first | (simp only [Exit.then, Exit.inBlock, ↓reduceIte]; fail_if_success simp only [Nat.reduceEqDiff]) | simp only [Exit.then, Exit.inBlock, ↓reduceIte, Nat.reduceEqDiff]
  exact hK15 _ _ <| sr fun K48 hK48 => ww H <| mv rfl rfl <| ag rfl rfl <| fun a H => nk hK48 <| c_ret <| e_ret1 H rfl rfl h

theorem sim_mend_place_easy (c1 : Option Addr) (p2 v3 : Slc) (w : World) (Q : Ending → World → Prop) (h : vc_mend_place_easy c1 p2 v3 w Q) : Calls PP F_mend_place_easy #[(.agg #[(.pointer c1), p2.v, v3.v])] w Q := by
 unfold vc_mend_place_easy at h
 have eP {L : List (Nat × Value)} (c : List PanicEntry) (w' : World) (a : Act) (h : Q (.panicked c) w') (H : Has 41 [] a L) : bodyPost PP Tryz.f23 Q (.panic c) a w' := e_panic H h
 refine enter (n := 41) Tryz.func23 rfl rfl (le_ rfl) fun a H => sr fun K4 hK4 => ww H <| bx h rfl rfl rfl rfl fun b5 w6 n7 h => ag rfl rfl <| ag rfl rfl <| fun a H => nk hK4 <| sr fun K8 hK8 => ww H <| ag rfl rfl <| fun a H => nk hK8 <| c_seq fun K9 hK9 => sr fun K10 hK10 => ww H <| fd rfl fld_68_1 rfl <| fun a H => s_load (v := p2.v) H rfl rfl one_22 (n7.cell (i := 1) rfl) (lt_ rfl) fun a H => ww H <| bl (vs := [p2.v]) rfl rfl (fun cs => b_lenS (z := p2) sl_22) <| mv rfl rfl <| fun a H => nk hK10 <| c_block ?_
 obtain ⟨I14, m15, h59, h60⟩ := h
 refine c_loop (σ := Slc × Int) (fun z w => I14 z.1 z.2 w) (fun z w => m15 z.1 z.2 w) (fun z => [(1, (.pointer (some (blk b5)))), (4, z.1.v), (10, p2.v), (11, (.i (p2.l : Int))), (12, (.i z.2))]) (Slc.nil, 0) h59 (H.weaken ⟨rfl, rfl, rfl, rfl, rfl, trivial⟩) ?_
 clear H h59
 rintro ⟨p11, s12⟩ a w13 h H
 replace h := h60 p11 s12 w13 h
 clear h60
 replace H : Has 41 [] a [(1, (.pointer (some (blk b5)))), (4, p11.v), (10, p2.v), (11, (.i (p2.l : Int))), (12, (.i s12))] := H
 refine sr fun K16 hK16 => ww H <| bn rfl rfl r_lss rfl <| fun a H => nk hK16 <| c_seq fun K17 hK17 => cd H rfl h (fun h18 h => ?_) (fun h18 h => ?_)
 ·obtain ⟨a21, h22, h23, h24, h⟩ := h
  refine c_skip <| hK17 _ _ <| c_seq fun K19 hK19 => c_block <| sr fun K20 hK20 => ww H <| mv rfl rfl <| fun a H => s_idxS (s := p2) H rfl rfl rfl slc_22 h22 h23 h24 (lt_ rfl) fun a H => ?_
  obtain ⟨l25, hc26, h⟩ := h
  refine ww H <| ld rfl one_5 hc26 rfl <| ag rfl rfl <| ag rfl rfl <| fun a H => nk hK20 <| c_reg <| ww H <| mv rfl rfl <| mv rfl rfl <| fun a H => s_cv H rfl rfl (r_cvI some_5 int_3) (lt_ rfl) fun a H => ?_
  obtain ⟨l27, hc28, h29, h30, h31, h⟩ := h
  refine ww H <| fd rfl fld_68_2 rfl <| ld rfl one_22 hc28 rfl <| mv rfl rfl <| mv rfl rfl <| bn rfl rfl r_add rfl <| fun a H => s_slice (v := (Slc.v (l27.cut 1 (Int.toNat (s12)) (Int.toNat (wr .i64 (s12 + 1)))))) H rfl rfl ⟨rfl, rfl⟩ ⟨rfl, rfl⟩ ⟨rfl, rfl⟩ (r_sliceSlc (lo := (some (.i64, s12))) (hi := (some (.i64, wr .i64 (s12 + 1)))) slc_22 rfl rfl h29 h30 h31) (lt_ rfl) fun a H => s_build H rfl (by rw [H.parts (vs := [(0, (.i (wr .i64 l25))), (1, (Slc.v (l27.cut 1 (Int.toNat (s12)) (Int.toNat (wr .i64 (s12 + 1))))))]) rfl]; exact bd_34_ii640_s1 w13 (wr .i64 l25) (l27.cut 1 (Int.toNat (s12)) (Int.toNat (wr .i64 (s12 + 1))))) (lt_ rfl) fun a H => ?_
  replace h := h.get
  obtain ⟨b32, w33, n34, h⟩ := h
  refine s_bslc H rfl (by rw [H.parts (vs := [(0, (.agg #[(.i (wr .i64 l25)), (Slc.v (l27.cut 1 (Int.toNat (s12)) (Int.toNat (wr .i64 (s12 + 1)))))]))]) rfl]; exact bs_28_1_ii64s0 w13 (wr .i64 l25) (l27.cut 1 (Int.toNat (s12)) (Int.toNat (wr .i64 (s12 + 1))))) (lt_ rfl) ?_
  rw [← n34.at_]
  clear H a
  intro a H
  refine n34.go ?_
  obtain ⟨s35, w36, h37, h⟩ := h
  refine s_blt H rfl (H.args (vs := [p11.v, (Slc.v (Slc.mk (some (blk b32)) 1 1))]) rfl) (lt_ rfl) (fun cs => b_app (z := s35) h37) ?_
  clear H a h37
  intro a H
  refine ww H <| ag rfl rfl <| fun a H => nk hK19 <| c_reg <| ww H <| bn rfl rfl r_add rfl <| mv rfl rfl <| fun a H => c_nil <| Exists.intro (s35, wr .i64 (s12 + 1)) ⟨h.1, h.2, H.weaken ⟨rfl, rfl, rfl, rfl, rfl, trivial⟩⟩
 ·refine c_exit ?_
  first | (simp only [Exit.then, Exit.inBlock, ↓reduceIte]; fail_if_success simp only [Nat.reduceEqDiff]) | simp only [Exit.then, Exit.inBlock, ↓reduceIte, Nat.reduceEqDiff]
  obtain ⟨l39, hc40, h⟩ := h
  refine hK9 _ _ <| sr fun K38 hK38 => ww H <| fd rfl fld_68_0 rfl <| ld rfl one_26 hc40 rfl <| mv rfl rfl <| cl2 h body_50 rfl rfl eP fun D42 D43 w41 h => mv rfl rfl <| ex rfl rfl rfl <| ex rfl rfl rfl <| ag rfl rfl <| ag rfl rfl <| fun a H => nk hK38 <| c_seq fun K44 hK44 => sr fun K45 hK45 => ww H <| mv rfl rfl <| bn rfl rfl r_neq rfl <| fun a H => nk hK45 <| cd H rfl h (fun h46 h => ?_) (fun h46 h => ?_)
  ·exact sr fun K47 hK47 => ww H <| ag rfl rfl <| ag rfl rfl <| fun a H => nk hK47 <| c_ret <| e_ret2 H rfl rfl rfl h
  ·exact c_skip <| hK44 _ _ <| sr fun K48 hK48 => ww H <| mv rfl rfl <| cl1 h body_51 rfl rfl eP fun J50 w49 h => ag rfl rfl <| ag rfl rfl <| fun a H => nk hK48 <| c_ret <| e_ret2 H rfl rfl rfl h

theorem sim_slices_Contains (s1 : Slc) (v2 : Bool) (w : World) (Q : Ending → World → Prop) (h : vc_slices_Contains s1 v2 w Q) : Calls PP F_slices_Contains #[s1.v, (.bool v2)] w Q := by
 unfold vc_slices_Contains at h
 have eP {L : List (Nat × Value)} (c : List PanicEntry) (w' : World) (a : Act) (h : Q (.panicked c) w') (H : Has 9 [] a L) : bodyPost PP Tryz.f26 Q (.panic c) a w' := e_panic H h
 exact enter (n := 9) Tryz.func26 rfl rfl (le_ rfl) fun a H => sr fun K3 hK3 => ww H <| ag rfl rfl <| fun a H => nk hK3 <| sr fun K4 hK4 => ww H <| mv rfl rfl <| mv rfl rfl <| cl1 h body_63 rfl rfl eP fun I6 w5 h => bn rfl rfl r_geq rfl <| ag rfl rfl <| fun a H => nk hK4 <| c_ret <| e_ret1 H rfl rfl h

theorem sim_gf_New (p1 : Int) (w : World) (Q : Ending → World → Prop) (h : vc_gf_New p1 w Q) : Calls PP F_gf_New #[(.i p1)] w Q := by
 unfold vc_gf_New at h
 refine enter (n := 61) Tryz.func29 rfl rfl (le_ rfl) fun a H => sr fun K2 hK2 => ww H <| ag rfl rfl <| ag rfl rfl <| fun a H => nk hK2 <| c_seq fun K3 hK3 => sr fun K4 hK4 => ww H <| mv rfl rfl <| bn rfl rfl r_lss rfl <| mv rfl rfl <| fun a H => g_join (n := 61) [(12, (.bool ((decide (p1 < 256)) || (decide (511 < p1))))), (0, (.i p1))] (.succ (.succ (.succ (.zero _)))) ?_ ?_
 ·intro h6
  try clear h
  rcases Bool.eq_false_or_eq_true (decide (p1 < 256)) with h5 | h5
  ·replace H := H.ch (t := 9) (b := true) rfl h5
   exact ww H <| sk rfl rfl rfl rfl <| sk rfl rfl rfl rfl <| pT rfl rfl rfl <| fun a H => h6 _ (H.weaken ⟨by rw [h5]; rfl, rfl, trivial⟩)
  ·replace H := H.ch (t := 9) (b := false) rfl h5
   exact ww H <| gmv rfl rfl rfl rfl <| gbn rfl rfl rfl rfl r_gtr rfl <| pF rfl rfl rfl <| fun a H => h6 _ (H.weaken ⟨by rw [h5]; rfl, rfl, trivial⟩)
 ·clear H a
  intro a H
  refine nk hK4 <| cd H rfl h (fun h7 h => ?_) (fun h7 h => ?_)
  ·exact sr fun K8 hK8 => ww H <| ag rfl rfl <| ag rfl rfl <| fun a H => nk hK8 <| c_ret <| e_ret2 H rfl rfl rfl h
  ·refine c_skip <| hK3 _ _ <| sr fun K9 hK9 => ww H <| mv rfl rfl <| fun a H => s_build H rfl (by rw [H.parts (vs := [(0, (.i p1))]) rfl]; exact bd_129_ii640 w p1) (lt_ rfl) fun a H => ww H <| bx h rfl rfl rfl rfl fun b10 w11 n12 h => ag rfl rfl <| fun a H => nk hK9 <| sr fun K13 hK13 => ww H <| ag rfl rfl <| fun a H => nk hK13 <| c_seq fun K14 hK14 => sr fun K15 hK15 => ww H <| mv rfl rfl <| fun a H => nk hK15 <| c_block ?_
   obtain ⟨I19, m20, h65, h66⟩ := h
   refine c_loop (σ := Int × Int) (fun z w => I19 z.1 z.2 w) (fun z w => m20 z.1 z.2 w) (fun z => [(0, (.i p1)), (4, (.pointer (some (blk b10)))), (5, (.i z.1)), (16, (.i z.2))]) (1, 0) h65 (H.weaken ⟨rfl, rfl, rfl, rfl, trivial⟩) ?_
   clear H h65
   rintro ⟨x16, s17⟩ a w18 h H
   replace h := h66 x16 s17 w18 h
   clear h66
   replace H : Has 61 [] a [(0, (.i p1)), (4, (.pointer (some (blk b10)))), (5, (.i x16)), (16, (.i s17))] := H
   refine sr fun K21 hK21 => ww H <| bn rfl rfl r_lss rfl <| fun a H => nk hK21 <| c_seq fun K22 hK22 => cd H rfl h (fun h23 h => ?_) (fun h23 h => ?_)
   ·refine c_skip <| hK22 _ _ <| c_seq fun K24 hK24 => ?_
    obtain ⟨R26, h, h59⟩ := h
    have h28 : ∀ (a : Act) (x25 : Int) (w27 : World), R26 x25 w27 → Has 61 [] a [(0, (.i p1)), (4, (.pointer (some (blk b10)))), (5, (.i x25)), (16, (.i s17))] → K24 a w27 := by
     clear h
     intro a x25 w27 h H
     replace h := h59 x25 w27 h
     refine hK24 _ _ <| c_reg <| ww H <| bn rfl rfl r_add rfl <| mv rfl rfl <| fun a H => c_nil <| Exists.intro (x25, wr .i64 (s17 + 1)) ⟨h.1, h.2, H.weaken ⟨rfl, rfl, rfl, rfl, trivial⟩⟩
    clear h59
    refine c_block <| sr fun K29 hK29 => ww H <| mv rfl rfl <| ag rfl rfl <| fun a H => nk hK29 <| c_seq fun K30 hK30 => sr fun K31 hK31 => ww H <| mv rfl rfl <| bn rfl rfl r_eql rfl <| mv rfl rfl <| fun a H => g_join (n := 61) [(28, (.bool ((decide (x16 = 0)) || ((decide (0 < s17)) && (decide (x16 = 1)))))), (0, (.i p1)), (4, (.pointer (some (blk b10)))), (5, (.i x16)), (6, (.i s17)), (16, (.i s17))] (.succ (.succ (.succ (.succ (.succ (.succ (.succ (.zero _)))))))) ?_ ?_
    ·intro h33
     try clear h
     rcases Bool.eq_false_or_eq_true (decide (x16 = 0)) with h32 | h32
     ·replace H := H.ch (t := 21) (b := true) rfl h32
      exact ww H <| sk rfl rfl rfl rfl <| sk rfl rfl rfl rfl <| sk rfl rfl rfl rfl <| fun a H => s_skip H (wantU H rfl rfl) rfl (lt_ rfl) fun a H => s_skip H (wantU H rfl rfl) rfl (lt_ rfl) fun a H => ww H <| sk rfl rfl rfl rfl <| pT rfl rfl rfl <| fun a H => h33 _ (H.weaken ⟨by rw [h32]; rfl, rfl, rfl, rfl, rfl, rfl, trivial⟩)
     ·replace H := H.ch (t := 21) (b := false) rfl h32
      refine ww H <| gmv rfl rfl rfl rfl <| gbn rfl rfl rfl rfl r_gtr rfl <| gmv rfl rfl rfl rfl <| fun a H => g_join (n := 61) [(27, (.bool ((decide (0 < s17)) && (decide (x16 = 1))))), (0, (.i p1)), (4, (.pointer (some (blk b10)))), (5, (.i x16)), (6, (.i s17)), (16, (.i s17)), (21, (.bool false))] (.succ (.succ (.succ (.zero _)))) ?_ ?_
      ·intro h35
       try clear h
       rcases Bool.eq_false_or_eq_true (decide (0 < s17)) with h34 | h34
       ·replace H := H.ch (t := 24) (b := true) rfl h34
        exact ww H <| gmv rfl rfl rfl rfl <| gbn rfl rfl rfl rfl r_eql rfl <| fun a H => s_pickT H (wantG H rfl rfl) rfl rfl (lt_ rfl) fun a H => h35 _ (H.weaken ⟨by rw [h34]; rfl, rfl, rfl, rfl, rfl, rfl, rfl, trivial⟩)
       ·replace H := H.ch (t := 24) (b := false) rfl h34
        exact ww H <| sk rfl rfl rfl rfl <| sk rfl rfl rfl rfl <| fun a H => s_pickF H (wantG H rfl rfl) rfl rfl (lt_ rfl) fun a H => h35 _ (H.weaken ⟨by rw [h34]; rfl, rfl, rfl, rfl, rfl, rfl, rfl, trivial⟩)
      ·clear H a
       intro a H
       exact ww H <| pF rfl rfl rfl <| fun a H => h33 _ (H.weaken ⟨by rw [h32]; rfl, rfl, rfl, rfl, rfl, rfl, trivial⟩)
    ·clear H a
     intro a H
     refine nk hK31 <| cd H rfl h (fun h36 h => ?_) (fun h36 h => ?_)
     ·exact sr fun K37 hK37 => ww H <| ag rfl rfl <| ag rfl rfl <| fun a H => nk hK37 <| c_ret <| e_ret2 H rfl rfl rfl h
     ·refine c_skip <| hK30 _ _ <| sr fun K38 hK38 => ww H <| mv rfl rfl <| mv rfl rfl <| mv rfl rfl <| fun a H => s_cv H rfl rfl (r_cvI some_3 int_5) (lt_ rfl) fun a H => ?_
      obtain ⟨h39, h40, h⟩ := h
      refine ww H <| nl rfl rfl <| fd rfl fld_129_1 rfl <| fun a H => s_idxA H rfl rfl rfl arr_126 h39 h40 (lt_ rfl) fun a H => ww H <| st h rfl rfl one_5 rfl fun w41 w41S h => fun a H => nk hK38 <| sr fun K44 hK44 => ww H <| mv rfl rfl <| mv rfl rfl <| bn rfl rfl r_add rfl <| mv rfl rfl <| fun a H => s_cv H rfl rfl (r_cvI some_3 int_5) (lt_ rfl) fun a H => ?_
      obtain ⟨h45, h46, h⟩ := h
      refine ww H <| nl rfl rfl <| fd rfl fld_129_1 rfl <| fun a H => s_idxA H rfl rfl rfl arr_126 h45 h46 (lt_ rfl) fun a H => ww H <| st h rfl rfl one_5 rfl fun w47 w47S h => fun a H => ?_
      obtain ⟨h51, h52, h⟩ := h
      refine nk hK44 <| sr fun K50 hK50 => ww H <| mv rfl rfl <| mv rfl rfl <| mv rfl rfl <| nl rfl rfl <| fd rfl fld_129_2 rfl <| fun a H => s_idxA H rfl rfl rfl arr_127 h51 h52 (lt_ rfl) fun a H => ww H <| st h rfl rfl one_3 rfl fun w53 w53S h => fun a H => nk hK50 <| sr fun K56 hK56 => ww H <| mv rfl rfl <| bn rfl rfl (r_shl (by decide)) rfl <| ag rfl rfl <| fun a H => nk hK56 <| sr fun K57 hK57 => ww H <| mv rfl rfl <| bn rfl rfl r_gtr rfl <| fun a H => nk hK57 <| cd H rfl h (fun h58 h => ?_) (fun h58 h => ?_)
      ·exact c_reg <| ww H <| mv rfl rfl <| mv rfl rfl <| bn rfl rfl r_xor rfl <| ag rfl rfl <| fun a H => c_nil <| h28 _ _ _ h (H.weaken ⟨rfl, rfl, rfl, rfl, trivial⟩)
      ·exact c_skip <| h28 _ _ _ h (H.weaken ⟨rfl, rfl, rfl, rfl, trivial⟩)
   ·refine c_exit ?_
    first | (simp only [Exit.then, Exit.inBlock, ↓reduceIte]; fail_if_success simp only [Nat.reduceEqDiff]) | simp only [Exit.then, Exit.inBlock, ↓reduceIte, Nat.reduceEqDiff]
    refine hK14 _ _ <| c_seq fun K60 hK60 => sr fun K61 hK61 => ww H <| mv rfl rfl <| bn rfl rfl r_neq rfl <| fun a H => nk hK61 <| cd H rfl h (fun h62 h => ?_) (fun h62 h => ?_)
    ·exact sr fun K63 hK63 => ww H <| ag rfl rfl <| ag rfl rfl <| fun a H => nk hK63 <| c_ret <| e_ret2 H rfl rfl rfl h
    ·exact c_skip <| hK60 _ _ <| sr fun K64 hK64 => ww H <| mv rfl rfl <| ag rfl rfl <| ag rfl rfl <| fun a H => nk hK64 <| c_ret <| e_ret2 H rfl rfl rfl h

theorem sim_matrix_Vandermonde (f1 : Option Addr) (p2 : Slc) (c3 : Int) (w : World) (Q : Ending → World → Prop) (h : vc_matrix_Vandermonde f1 p2 c3 w Q) : Calls PP F_matrix_Vandermonde #[(.pointer f1), p2.v, (.i c3)] w Q := by
 unfold vc_matrix_Vandermonde at h
 have eP {L : List (Nat × Value)} (c : List PanicEntry) (w' : World) (a : Act) (h : Q (.panicked c) w') (H : Has 71 [] a L) : bodyPost PP Tryz.f30 Q (.panic c) a w' := e_panic H h
 refine enter (n := 71) Tryz.func30 rfl rfl (le_ rfl) fun a H => sr fun K4 hK4 => ww H <| ag rfl rfl <| ag rfl rfl <| fun a H => nk hK4 <| c_seq fun K5 hK5 => sr fun K6 hK6 => ww H <| mv rfl rfl <| mv rfl rfl <| bl (vs := [p2.v]) rfl rfl (fun cs => b_lenS (z := p2) sl_22) <| mv rfl rfl <| cl1 h body_75 rfl rfl eP fun s8 w7 h => ag rfl rfl <| fun a H => nk hK6 <| sr fun K9 hK9 => ww H <| mv rfl rfl <| bn rfl rfl r_neq rfl <| fun a H => nk hK9 <| cd H rfl h (fun h10 h => ?_) (fun h10 h => ?_)
 ·exact sr fun K11 hK11 => ww H <| mv rfl rfl <| ag rfl rfl <| ag rfl rfl <| fun a H => nk hK11 <| c_ret <| e_ret2 H rfl rfl rfl h
 ·refine c_skip <| hK5 _ _ <| sr fun K12 hK12 => ww H <| mv rfl rfl <| mv rfl rfl <| bl (vs := [p2.v]) rfl rfl (fun cs => b_lenS (z := p2) sl_22) <| mv rfl rfl <| cl1 h body_76 rfl rfl eP fun b14 w13 h => ag rfl rfl <| fun a H => nk hK12 <| c_seq fun K15 hK15 => sr fun K16 hK16 => ww H <| mv rfl rfl <| bl (vs := [p2.v]) rfl rfl (fun cs => b_lenS (z := p2) sl_22) <| mv rfl rfl <| fun a H => nk hK16 <| c_block ?_
  obtain ⟨I19, m20, h103, h104⟩ := h
  refine c_loop (σ := Int) (fun z w => I19 z w) (fun z w => m20 z w) (fun z => [(0, (.pointer f1)), (2, (.i c3)), (9, (.pointer b14)), (26, p2.v), (27, (.i (p2.l : Int))), (28, (.i z))]) 0 h103 (H.weaken ⟨rfl, rfl, rfl, rfl, rfl, rfl, trivial⟩) ?_
  clear H h103
  rintro s17 a w18 h H
  replace h := h104 s17 w18 h
  clear h104
  replace H : Has 71 [] a [(0, (.pointer f1)), (2, (.i c3)), (9, (.pointer b14)), (26, p2.v), (27, (.i (p2.l : Int))), (28, (.i s17))] := H
  refine sr fun K21 hK21 => ww H <| bn rfl rfl r_lss rfl <| fun a H => nk hK21 <| c_seq fun K22 hK22 => cd H rfl h (fun h23 h => ?_) (fun h23 h => ?_)
  ·refine c_skip <| hK22 _ _ <| c_seq fun K24 hK24 => ?_
   obtain ⟨R25, h, h101⟩ := h
   have h27 : ∀ (a : Act) (w26 : World), R25 w26 → Has 71 [] a [(0, (.pointer f1)), (2, (.i c3)), (9, (.pointer b14)), (26, p2.v), (27, (.i (p2.l : Int))), (28, (.i s17))] → K24 a w26 := by
    clear h
    intro a w26 h H
    replace h := h101 w26 h
    refine hK24 _ _ <| c_reg <| ww H <| bn rfl rfl r_add rfl <| mv rfl rfl <| fun a H => c_nil <| Exists.intro (wr .i64 (s17 + 1)) ⟨h.1, h.2, H.weaken ⟨rfl, rfl, rfl, rfl, rfl, rfl, trivial⟩⟩
   clear h101
   obtain ⟨a29, h30, h31, h32, h⟩ := h
   refine c_block <| sr fun K28 hK28 => ww H <| mv rfl rfl <| fun a H => s_idxS (s := p2) H rfl rfl rfl slc_22 h30 h31 h32 (lt_ rfl) fun a H => ?_
   obtain ⟨l33, hc34, a36, h100, h⟩ := h
   refine ww H <| ld rfl one_5 hc34 rfl <| ag rfl rfl <| ag rfl rfl <| fun a H => nk hK28 <| sr fun K35 hK35 => ww H <| mv rfl rfl <| fun a H => ?_
   revert H
   revert h
   subst h100
   intro h H
   obtain ⟨l37, hc38, a39, h40, h41, h42, h⟩ := h
   refine ww H <| nl rfl rfl <| fd rfl fld_133_1 rfl <| ld rfl one_27 hc38 rfl <| mv rfl rfl <| fun a H => s_idxS (s := l37) H rfl rfl rfl slc_27 h40 h41 h42 (lt_ rfl) fun a H => ?_
   obtain ⟨l43, hc44, a45, h46, h47, h48, h⟩ := h
   refine ww H <| ld rfl one_22 hc44 rfl <| fun a H => s_idxS (s := l43) H rfl rfl rfl slc_22 h46 h47 h48 (lt_ rfl) fun a H => ww H <| st h rfl rfl one_5 rfl fun w49 w49S h => fun a H => nk hK35 <| sr fun K52 hK52 => ww H <| ag rfl rfl <| fun a H => nk hK52 <| c_block ?_
   obtain ⟨I55, m56, h98, h99⟩ := h
   refine c_loop (σ := Int) (fun z w => I55 z w) (fun z w => m56 z w) (fun z => [(0, (.pointer f1)), (2, (.i c3)), (9, (.pointer (some a36))), (10, (.i s17)), (11, (.int .u8 l33)), (12, (.i z)), (26, p2.v), (27, (.i (p2.l : Int))), (28, (.i s17))]) 1 h98 (H.weaken ⟨rfl, rfl, rfl, rfl, rfl, rfl, rfl, rfl, rfl, trivial⟩) ?_
   clear H h98
   rintro j53 a w54 h H
   replace h := h99 j53 w54 h
   clear h99
   replace H : Has 71 [] a [(0, (.pointer f1)), (2, (.i c3)), (9, (.pointer (some a36))), (10, (.i s17)), (11, (.int .u8 l33)), (12, (.i j53)), (26, p2.v), (27, (.i (p2.l : Int))), (28, (.i s17))] := H
   refine c_seq fun K57 hK57 => sr fun K58 hK58 => ww H <| mv rfl rfl <| mv rfl rfl <| bn rfl rfl r_lss rfl <| fun a H => nk hK58 <| cd H rfl h (fun h59 h => ?_) (fun h59 h => ?_)
   ·refine c_skip <| hK57 _ _ <| c_seq fun K60 hK60 => c_block ?_
    replace H := H.weaken (L' := [(0, (.pointer f1)), (2, (.i c3)), (9, (.pointer (some a36))), (10, (.i s17)), (11, (.int .u8 l33)), (12, (.i j53)), (26, p2.v), (27, (.i (p2.l : Int))), (28, (.i s17))]) ⟨rfl, rfl, rfl, rfl, rfl, rfl, rfl, rfl, rfl, trivial⟩
    obtain ⟨l61, hc62, a63, h64, h65, h66, l67, hc68, l69, hc70, a71, h72, h73, h74, l75, hc76, a77, h78, h79, h80, l81, hc82, h⟩ := h
    refine c_any (V := [(0, (.pointer (some a36))), (1, (.pointer (some a36))), (2, (.pointer (some (a36.add 1)))), (3, l61.v), (4, (.i s17)), (5, (.pointer (some (a63.add (Int.toNat (s17) * 1))))), (6, l67.v), (7, (.i j53)), (8, (.pointer f1)), (9, (.pointer (some a36))), (10, (.pointer (some a36))), (11, (.pointer (some (a36.add 1)))), (12, l69.v), (13, (.i s17)), (14, (.pointer (some (a71.add (Int.toNat (s17) * 1))))), (15, l75.v), (16, (.i j53)), (17, (.i (wr .i64 (j53 - 1)))), (18, (.pointer (some (a77.add (Int.toNat (wr .i64 (j53 - 1)) * 1))))), (19, (.int .u8 l81)), (20, (.int .u8 l33))]) (⟨[[], [0], [1], [2], [], [3, 4], [5], [], [], [], [9], [10], [11], [], [12, 13], [14], [], [16], [15, 17], [18], [], [8, 19, 20], [0, 1, 2, 3, 4, 5, 6, 7, 8, 9, 10, 11, 12, 13, 14, 15, 16, 17, 18, 19, 20, 21], [0, 1, 2, 3, 4, 5, 6, 7, 8, 9, 10, 11, 12, 13, 14, 15, 16, 17, 18, 19, 20, 21, 22]], [some 46, some 47, some 48, some 49, some 50, some 51, some 52, some 53, some 54, some 55, some 56, some 57, some 58, some 59, some 60, some 61, some 62, some 63, some 64, some 65, some 66, some 67, some 68, none], [21, 23], [0, 0, 0, 0, 0, 0, 0, 0, 0, 0, 0, 0, 0, 0, 0, 0, 0, 0, 0, 0, 0, 0, 1, 1], [1, 1, 1, 1, 1, 1, 1, 1, 0, 0, 0, 0, 0, 0, 0, 0, 0, 0, 0, 0, 0, 1, 1, 2]⟩ : Rg) [(0, (.pointer f1)), (2, (.i c3)), (9, (.pointer (some a36))), (10, (.i s17)), (11, (.int .u8 l33)), (12, (.i j53)), (26, p2.v), (27, (.i (p2.l : Int))), (28, (.i s17))] mixed (by kernel_rfl) H ?_
    refine Stg.eff [0, 1, 2, 3, 4, 5, 6, 7, 8, 9, 10, 11, 12, 13, 14, 15, 16, 17, 18, 19, 20] (by kernel_rfl) rfl (.cons ?_ (.cons ?_ (.cons ?_ (.cons ?_ (.cons ?_ (.cons ?_ (.cons ?_ (.cons ?_ (.cons ?_ (.cons ?_ (.cons ?_ (.cons ?_ (.cons ?_ (.cons ?_ (.cons ?_ (.cons ?_ (.cons ?_ (.cons ?_ (.cons ?_ (.cons ?_ (.cons ?_ .nil))))))))))))))))))))) ?_
    ·exact Aw rfl rfl <| mv rfl rfl <| An rfl
    ·exact Aw rfl rfl <| nl rfl rfl <| An rfl
    ·exact Aw rfl rfl <| fd rfl fld_133_1 rfl <| An rfl
    ·exact Aw rfl rfl <| ld rfl one_27 hc62 rfl <| An rfl
    ·exact Aw rfl rfl <| mv rfl rfl <| An rfl
    ·exact Ans.mk rfl rfl fun a H => s_idxS (s := l61) H rfl rfl rfl slc_27 h64 h65 h66 (lt_ rfl) fun a H => Ans.fin H rfl
    ·exact Aw rfl rfl <| ld rfl one_22 hc68 rfl <| An rfl
    ·exact Aw rfl rfl <| mv rfl rfl <| An rfl
    ·exact Aw rfl rfl <| mv rfl rfl <| An rfl
    ·exact Aw rfl rfl <| mv rfl rfl <| An rfl
    ·exact Aw rfl rfl <| nl rfl rfl <| An rfl
    ·exact Aw rfl rfl <| fd rfl fld_133_1 rfl <| An rfl
    ·exact Aw rfl rfl <| ld rfl one_27 hc70 rfl <| An rfl
    ·exact Aw rfl rfl <| mv rfl rfl <| An rfl
    ·exact Ans.mk rfl rfl fun a H => s_idxS (s := l69) H rfl rfl rfl slc_27 h72 h73 h74 (lt_ rfl) fun a H => Ans.fin H rfl
    ·exact Aw rfl rfl <| ld rfl one_22 hc76 rfl <| An rfl
    ·exact Aw rfl rfl <| mv rfl rfl <| An rfl
    ·exact Aw rfl rfl <| bn rfl rfl r_sub rfl <| An rfl
    ·exact Ans.mk rfl rfl fun a H => s_idxS (s := l75) H rfl rfl rfl slc_22 h78 h79 h80 (lt_ rfl) fun a H => Ans.fin H rfl
    ·exact Aw rfl rfl <| ld rfl one_5 hc82 rfl <| An rfl
    ·exact Aw rfl rfl <| mv rfl rfl <| An rfl
    ·refine cl1 h body_52 rfl rfl eP fun M84 w83 h => fun a H => ?_
     obtain ⟨hc85, hc86, a87, h88, h89, h90, h⟩ := h
     refine c_nil <| effQ.go [(22, (.pointer (some (a87.add (Int.toNat (j53) * 1)))))] H rfl rfl <| Stg.eff [0, 1, 2, 3, 4, 5, 6, 7, 22] (by kernel_rfl) rfl (.cons ?_ (.cons ?_ (.cons ?_ (.cons ?_ (.cons ?_ (.cons ?_ (.cons ?_ (.cons ?_ (.cons ?_ .nil))))))))) ?_
     ·exact Aw rfl rfl <| mv rfl rfl <| An rfl
     ·exact Aw rfl rfl <| nl rfl rfl <| An rfl
     ·exact Aw rfl rfl <| fd rfl fld_133_1 rfl <| An rfl
     ·exact Aw rfl rfl <| ld rfl one_27 hc85 rfl <| An rfl
     ·exact Aw rfl rfl <| mv rfl rfl <| An rfl
     ·exact Ans.mk rfl rfl fun a H => s_idxS (s := l61) H rfl rfl rfl slc_27 h64 h65 h66 (lt_ rfl) fun a H => Ans.fin H rfl
     ·exact Aw rfl rfl <| ld rfl one_22 hc86 rfl <| An rfl
     ·exact Aw rfl rfl <| mv rfl rfl <| An rfl
     ·exact Ans.mk rfl rfl fun a H => s_idxS (s := l67) H rfl rfl rfl slc_22 h88 h89 h90 (lt_ rfl) fun a H => Ans.fin H rfl
     ·refine st h rfl rfl one_5 rfl fun w91 w91S h => fun a H => c_nil <| effQ.go0 [] H rfl rfl <| Stg.fin [] (by kernel_rfl) .nil ?_
      ·intro a H
       replace H := H.weaken (L' := [(0, (.pointer f1)), (2, (.i c3)), (9, (.pointer (some a36))), (10, (.i s17)), (11, (.int .u8 l33)), (12, (.i j53)), (26, p2.v), (27, (.i (p2.l : Int))), (28, (.i s17))]) ⟨rfl, rfl, rfl, rfl, rfl, rfl, rfl, rfl, rfl, trivial⟩
       refine hK60 _ _ <| c_reg <| ww H <| mv rfl rfl <| bn rfl rfl r_add rfl <| ag rfl rfl <| fun a H => c_nil <| Exists.intro (wr .i64 (j53 + 1)) ⟨h.1, h.2, H.weaken ⟨rfl, rfl, rfl, rfl, rfl, rfl, rfl, rfl, rfl, trivial⟩⟩
   ·refine c_exit ?_
    first | (simp only [Exit.then, Exit.inBlock, ↓reduceIte]; fail_if_success simp only [Nat.reduceEqDiff]) | simp only [Exit.then, Exit.inBlock, ↓reduceIte, Nat.reduceEqDiff]
    exact h27 _ _ h (H.weaken ⟨rfl, rfl, rfl, rfl, rfl, rfl, trivial⟩)
  ·refine c_exit ?_
   first | (simp only [Exit.then, Exit.inBlock, ↓reduceIte]; fail_if_success simp only [Nat.reduceEqDiff]) | simp only [Exit.then, Exit.inBlock, ↓reduceIte, Nat.reduceEqDiff]
   exact hK15 _ _ <| sr fun K102 hK102 => ww H <| mv rfl rfl <| ag rfl rfl <| ag rfl rfl <| fun a H => nk hK102 <| c_ret <| e_ret2 H rfl rfl rfl h
end Go.Proofs.YtabifopphhpciaaGreat
