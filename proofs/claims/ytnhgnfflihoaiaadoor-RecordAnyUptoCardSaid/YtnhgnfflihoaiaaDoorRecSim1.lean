/-
  The conditions give the machine's calls; printed by vcgen.py.
-/
import Derived.Test.YtnhgnfflihoaiaaDoorRecVc
namespace Go.Proofs.YtnhgnfflihoaiaaDoor
open Go Go.Vc
set_option maxRecDepth 100000 in
set_option maxHeartbeats 4000000 in
theorem sim_sherdlaw11_RecordTorn (N1 : Int) (K2 : Int) (Delta3 : Int) (Serve4 : Int) (Updat5 : Slc) (cut6 : Int) (b7 : Int) (w : World) (Q : Ending → World → Prop) (h : vc_sherdlaw11_RecordTorn N1 K2 Delta3 Serve4 Updat5 cut6 b7 w Q) : Calls PP F_sherdlaw11_RecordTorn #[(.agg #[(.int .i64 N1), (.int .i64 K2), (.int .i64 Delta3), (.int .i64 Serve4), (Slc.v Updat5)]), (.int .i64 cut6), (.int .u8 b7)] w Q := by
 unfold vc_sherdlaw11_RecordTorn at h
 refine enter (n := 172) (l := [(.agg #[(.int .i64 N1), (.int .i64 K2), (.int .i64 Delta3), (.int .i64 Serve4), (Slc.v Updat5)]), (.int .i64 cut6), (.int .u8 b7)]) Tryd.func7 rfl rfl (Nat.le_of_ble_eq_true rfl) fun a H => ?_
 replace H : Has 172 [] a [(0, (.agg #[(.int .i64 N1), (.int .i64 K2), (.int .i64 Delta3), (.int .i64 Serve4), (Slc.v Updat5)])), (1, (.int .i64 cut6)), (2, (.int .u8 b7))] := H
 refine c_seq fun K8 hK8 => c_reg ?_
 replace h := h.get
 obtain ⟨b9, w10, nb11, h⟩ := h
 refine s_box H rfl rfl (lt_ rfl) ?_
 rw [← nb11.at_]
 clear H a
 intro a H
 refine nb11.go <| s_assign H rfl rfl (lt_ rfl) fun a H => c_nil <| hK8 _ _ <| c_seq fun K12 hK12 => c_reg <| s_loadN (l := [(.int .i64 N1), (.int .i64 K2), (.int .i64 Delta3), (.int .i64 Serve4), (Slc.v Updat5)]) H rfl rfl agg_49 rfl ⟨(nb11.cell (i := 0) rfl), (nb11.cell (i := 1) rfl), (nb11.cell (i := 2) rfl), (nb11.cell (i := 3) rfl), (nb11.cell (i := 4) rfl), trivial⟩ (lt_ rfl) fun a H => ?_
 refine s_call H rfl body_14 (H.args (vs := [(.agg #[(.int .i64 N1), (.int .i64 K2), (.int .i64 Delta3), (.int .i64 Serve4), (Slc.v Updat5)])]) rfl) (lt_ rfl) h ?_ (fun c w' h H => e_panic (P := PP) (fn := Tryd.f7) H h)
 clear H h a
 rintro _ w13 a ⟨N14, K15, Delta16, Serve17, writt18, writt19, writt20, writt21, rfl, h⟩ H
 refine s_move H rfl rfl (lt_ rfl) fun a H => ?_
 iterate 5 refine s_ext H rfl rfl rfl (lt_ rfl) fun a H => ?_
 replace h := h.get
 obtain ⟨b22, w23, nb24, h⟩ := h
 refine s_alloc H rfl zero_25 (lt_ rfl) ?_
 rw [← nb24.at_]
 clear H a
 intro a H
 refine nb24.go <| s_stoN (l := [(.int .i64 N14), (.int .i64 K15), (.int .i64 Delta16), (.int .i64 Serve17)]) H rfl rfl rfl rfl agg_25 rfl rfl h ?_
 clear h H
 intro w25 h H
 iterate 4 refine s_assign H rfl rfl (lt_ rfl) fun a H => ?_
 refine c_nil <| hK12 _ _ <| c_seq fun K26 hK26 => c_seq fun K27 hK27 => c_reg <| s_move H rfl rfl (lt_ rfl) fun a H => s_bin H rfl rfl rfl (r_eqP0 ptr_32) (lt_ rfl) fun a H => c_nil <| hK27 _ _ <| c_cond H rfl (fun hb28 => ?_) (fun hb28 => ?_)
 ·replace h := h.1 hb28
  refine c_seq fun K29 hK29 => c_reg <| s_assign H rfl rfl (lt_ rfl) fun a H => c_nil <| hK29 _ _ <| c_ret ?_
  exact e_ret1 H rfl rfl h
 ·replace h := h.2 hb28
  refine c_skip <| hK26 _ _ <| c_seq fun K30 hK30 => c_reg <| s_move H rfl rfl (lt_ rfl) fun a H => s_move H rfl rfl (lt_ rfl) fun a H => s_blt H rfl (H.args (vs := [(Slc.v writt18)]) rfl) (lt_ rfl) (fun cs => b_lenS (z := writt18) sl_28) fun a H => s_bin H rfl rfl rfl r_add (lt_ rfl) fun a H => s_call H rfl body_15 (H.args (vs := [(.int .i64 cut6), (.int .i64 (wr .i64 ((writt18.l : Int) + 1)))]) rfl) (lt_ rfl) h ?_ (fun c w' h H => e_panic (P := PP) (fn := Tryd.f7) H h)
  clear H h a
  rintro _ w31 a ⟨mod32, rfl, h⟩ H
  refine s_assign H rfl rfl (lt_ rfl) fun a H => c_nil <| hK30 _ _ <| c_seq fun K33 hK33 => c_reg ?_
  replace h := h.get
  obtain ⟨b34, w35, nb36, h⟩ := h
  refine s_bslc H rfl (by rw [H.parts (vs := []) rfl]; exact bs_28_0 w31) (lt_ rfl) ?_
  rw [← nb36.at_]
  clear H a
  intro a H
  refine nb36.go <| s_move H rfl rfl (lt_ rfl) fun a H => s_move H rfl rfl (lt_ rfl) fun a H => ?_
  obtain ⟨hi37, hi38, hi39, h⟩ := h
  refine s_slice (v := (Slc.v (writt18.cut 1 (Int.toNat (0)) (Int.toNat (mod32))))) H rfl rfl ⟨rfl, rfl⟩ ⟨rfl, rfl⟩ ⟨rfl, rfl⟩ (r_sliceSlc (lo := none) (hi := (some (.i64, mod32))) slc_28 rfl rfl hi37 hi38 hi39) (lt_ rfl) fun a H => ?_
  obtain ⟨s40, w41, hq42, h⟩ := h
  refine s_blt H rfl (H.args (vs := [(Slc.v (Slc.mk (some (blk b34)) 0 0)), (Slc.v (writt18.cut 1 (Int.toNat (0)) (Int.toNat (mod32))))]) rfl) (lt_ rfl) (fun cs => b_app (z := s40) hq42) ?_
  clear H a hq42
  intro a H
  refine s_call H rfl body_16 (H.args (vs := [(Slc.v s40)]) rfl) (lt_ rfl) h ?_ (fun c w' h H => e_panic (P := PP) (fn := Tryd.f7) H h)
  clear H h a
  rintro _ w43 a ⟨N44, K45, Delta46, Serve47, Scanr48, Scanr49, Scanr50, Scanr51, Scanr52, rfl, h⟩ H
  refine s_move H rfl rfl (lt_ rfl) fun a H => ?_
  iterate 6 refine s_ext H rfl rfl rfl (lt_ rfl) fun a H => ?_
  replace h := h.get
  obtain ⟨b53, w54, nb55, h⟩ := h
  refine s_alloc H rfl zero_25 (lt_ rfl) ?_
  rw [← nb55.at_]
  clear H a
  intro a H
  refine nb55.go <| s_stoN (l := [(.int .i64 N44), (.int .i64 K45), (.int .i64 Delta46), (.int .i64 Serve47)]) H rfl rfl rfl rfl agg_25 rfl rfl h ?_
  clear h H
  intro w56 h H
  iterate 5 refine s_assign H rfl rfl (lt_ rfl) fun a H => ?_
  refine c_nil <| hK33 _ _ <| c_seq fun K57 hK57 => c_seq fun K58 hK58 => c_reg <| s_move H rfl rfl (lt_ rfl) fun a H => s_move H rfl rfl (lt_ rfl) fun a H => ?_
  obtain ⟨a59, hi60, hi61, hi62, h⟩ := h
  refine s_idxS (s := writt19) H rfl rfl rfl slc_50 hi60 hi61 hi62 (lt_ rfl) fun a H => ?_
  obtain ⟨l63, hc64, h⟩ := h
  refine s_load (v := (.int .i64 l63)) H rfl rfl one_3 hc64 (lt_ rfl) fun a H => s_bin H rfl rfl rfl r_lss (lt_ rfl) fun a H => c_nil <| hK58 _ _ <| c_cond H rfl (fun hb65 => ?_) (fun hb65 => ?_)
  ·replace h := h.1 hb65
   refine c_seq fun K66 hK66 => c_reg <| s_move H rfl rfl (lt_ rfl) fun a H => s_bin H rfl rfl rfl r_eql (lt_ rfl) fun a H => s_move H rfl rfl (lt_ rfl) fun a H => g_join (n := 172) [(59, (.bool ((decide (Scanr52 = 63)) && (decide (Scanr50 = 0))))), (13, (.pointer (some (blk b53)))), (14, (Slc.v Scanr48)), (15, (Slc.v Scanr49)), (17, (.pointer Scanr51))] (.succ (.succ (.succ (.zero _)))) ?_ ?_
   ·intro hr68
    try clear h
    rcases Bool.eq_false_or_eq_true (decide (Scanr52 = 63)) with hg67 | hg67
    ·replace H := H.ch (t := 56) (b := true) rfl hg67
     refine s_move H (wantG H rfl rfl) rfl (lt_ rfl) fun a H => s_bin H (wantG H rfl rfl) rfl rfl r_eql (lt_ rfl) fun a H => s_pickT H rfl rfl rfl (lt_ rfl) fun a H => ?_
     exact hr68 _ (H.weaken ⟨by rw [hg67]; rfl, rfl, rfl, rfl, rfl, trivial⟩)
    ·replace H := H.ch (t := 56) (b := false) rfl hg67
     refine s_skip H (wantN H rfl rfl rfl) rfl (lt_ rfl) fun a H => s_skip H (wantN H rfl rfl rfl) rfl (lt_ rfl) fun a H => s_pickF H rfl rfl rfl (lt_ rfl) fun a H => ?_
     exact hr68 _ (H.weaken ⟨by rw [hg67]; rfl, rfl, rfl, rfl, rfl, trivial⟩)
   ·clear H a
    intro a H
    refine s_move H rfl rfl (lt_ rfl) fun a H => g_join (n := 172) [(64, (.bool (((decide (Scanr52 = 63)) && (decide (Scanr50 = 0))) && (decide ((Scanr48.l : Int) = 0))))), (13, (.pointer (some (blk b53)))), (15, (Slc.v Scanr49)), (17, (.pointer Scanr51))] (.succ (.succ (.succ (.succ (.zero _))))) ?_ ?_
    ·intro hr70
     try clear h
     rcases Bool.eq_false_or_eq_true ((decide (Scanr52 = 63)) && (decide (Scanr50 = 0))) with hg69 | hg69
     ·replace H := H.ch (t := 60) (b := true) rfl hg69
      refine s_move H (wantG H rfl rfl) rfl (lt_ rfl) fun a H => s_blt H (wantG H rfl rfl) (H.args (vs := [(Slc.v Scanr48)]) rfl) (lt_ rfl) (fun cs => b_lenS (z := Scanr48) sl_26) fun a H => s_bin H (wantG H rfl rfl) rfl rfl r_eql (lt_ rfl) fun a H => s_pickT H rfl rfl rfl (lt_ rfl) fun a H => ?_
      exact hr70 _ (H.weaken ⟨by rw [hg69]; rfl, rfl, rfl, rfl, trivial⟩)
     ·replace H := H.ch (t := 60) (b := false) rfl hg69
      iterate 3 refine s_skip H (wantN H rfl rfl rfl) rfl (lt_ rfl) fun a H => ?_
      refine s_pickF H rfl rfl rfl (lt_ rfl) fun a H => ?_
      exact hr70 _ (H.weaken ⟨by rw [hg69]; rfl, rfl, rfl, rfl, trivial⟩)
    ·clear H a
     intro a H
     refine s_move H rfl rfl (lt_ rfl) fun a H => g_join (n := 172) [(69, (.bool ((((decide (Scanr52 = 63)) && (decide (Scanr50 = 0))) && (decide ((Scanr48.l : Int) = 0))) && (decide ((Scanr49.l : Int) = 0))))), (13, (.pointer (some (blk b53)))), (17, (.pointer Scanr51))] (.succ (.succ (.succ (.succ (.zero _))))) ?_ ?_
     ·intro hr72
      try clear h
      rcases Bool.eq_false_or_eq_true (((decide (Scanr52 = 63)) && (decide (Scanr50 = 0))) && (decide ((Scanr48.l : Int) = 0))) with hg71 | hg71
      ·replace H := H.ch (t := 65) (b := true) rfl hg71
       refine s_move H (wantG H rfl rfl) rfl (lt_ rfl) fun a H => s_blt H (wantG H rfl rfl) (H.args (vs := [(Slc.v Scanr49)]) rfl) (lt_ rfl) (fun cs => b_lenS (z := Scanr49) sl_50) fun a H => s_bin H (wantG H rfl rfl) rfl rfl r_eql (lt_ rfl) fun a H => s_pickT H rfl rfl rfl (lt_ rfl) fun a H => ?_
       exact hr72 _ (H.weaken ⟨by rw [hg71]; rfl, rfl, rfl, trivial⟩)
      ·replace H := H.ch (t := 65) (b := false) rfl hg71
       iterate 3 refine s_skip H (wantN H rfl rfl rfl) rfl (lt_ rfl) fun a H => ?_
       refine s_pickF H rfl rfl rfl (lt_ rfl) fun a H => ?_
       exact hr72 _ (H.weaken ⟨by rw [hg71]; rfl, rfl, rfl, trivial⟩)
     ·clear H a
      intro a H
      refine s_move H rfl rfl (lt_ rfl) fun a H => g_join (n := 172) [(73, (.bool (((((decide (Scanr52 = 63)) && (decide (Scanr50 = 0))) && (decide ((Scanr48.l : Int) = 0))) && (decide ((Scanr49.l : Int) = 0))) && Scanr51.isNone))), (13, (.pointer (some (blk b53))))] (.succ (.succ (.succ (.zero _)))) ?_ ?_
      ·intro hr74
       try clear h
       rcases Bool.eq_false_or_eq_true ((((decide (Scanr52 = 63)) && (decide (Scanr50 = 0))) && (decide ((Scanr48.l : Int) = 0))) && (decide ((Scanr49.l : Int) = 0))) with hg73 | hg73
       ·replace H := H.ch (t := 70) (b := true) rfl hg73
        refine s_move H (wantG H rfl rfl) rfl (lt_ rfl) fun a H => s_bin H (wantG H rfl rfl) rfl rfl (r_eqP0 ptr_32) (lt_ rfl) fun a H => s_pickT H rfl rfl rfl (lt_ rfl) fun a H => ?_
        exact hr74 _ (H.weaken ⟨by rw [hg73]; rfl, rfl, trivial⟩)
       ·replace H := H.ch (t := 70) (b := false) rfl hg73
        refine s_skip H (wantN H rfl rfl rfl) rfl (lt_ rfl) fun a H => s_skip H (wantN H rfl rfl rfl) rfl (lt_ rfl) fun a H => s_pickF H rfl rfl rfl (lt_ rfl) fun a H => ?_
        exact hr74 _ (H.weaken ⟨by rw [hg73]; rfl, rfl, trivial⟩)
      ·clear H a
       intro a H
       refine s_move H rfl rfl (lt_ rfl) fun a H => ?_
       obtain ⟨x85, hy86, hn87, h⟩ := h
       refine g_join (n := 172) [(78, (.bool x85))] (.succ (.succ (.succ (.succ (.zero _))))) ?_ ?_
       ·intro hr76
        try clear h
        rcases Bool.eq_false_or_eq_true (((((decide (Scanr52 = 63)) && (decide (Scanr50 = 0))) && (decide ((Scanr48.l : Int) = 0))) && (decide ((Scanr49.l : Int) = 0))) && Scanr51.isNone) with hg75 | hg75
        ·replace H := H.ch (t := 74) (b := true) rfl hg75
         replace h := hy86 hg75
         obtain ⟨N77, hc78, h⟩ := h
         obtain ⟨K79, hc80, h⟩ := h
         obtain ⟨Delta81, hc82, h⟩ := h
         obtain ⟨Serve83, hc84, h⟩ := h
         refine s_loadN (l := [(.int .i64 N77), (.int .i64 K79), (.int .i64 Delta81), (.int .i64 Serve83)]) H (wantG H rfl rfl) rfl agg_25 rfl ⟨hc78, hc80, hc82, hc84, trivial⟩ (lt_ rfl) fun a H => s_build H (wantG H rfl rfl) (by rw [H.parts (vs := []) rfl]; exact bd_25 w56) (lt_ rfl) fun a H => s_bin H (wantG H rfl rfl) rfl rfl (r_eqst eqg_25 (eqst_25 0) rfl) (lt_ rfl) fun a H => s_pickT H rfl rfl rfl (lt_ rfl) fun a H => ?_
         subst h
         exact hr76 _ (H.weaken ⟨rfl, trivial⟩)
        ·replace H := H.ch (t := 74) (b := false) rfl hg75
         iterate 3 refine s_skip H (wantN H rfl rfl rfl) rfl (lt_ rfl) fun a H => ?_
         refine s_pickF H rfl rfl rfl (lt_ rfl) fun a H => ?_
         replace h := hn87 hg75
         subst h
         exact hr76 _ (H.weaken ⟨rfl, trivial⟩)
       ·clear H a
        clear hy86 hn87
        intro a H
        refine s_assign H rfl rfl (lt_ rfl) fun a H => c_nil <| hK66 _ _ <| c_ret ?_
        exact e_ret1 H rfl rfl h
  ·replace h := h.2 hb65
   refine c_skip <| hK57 _ _ <| c_seq fun K88 hK88 => c_reg <| s_assign H rfl rfl (lt_ rfl) fun a H => c_nil <| hK88 _ _ <| c_seq fun K89 hK89 => ?_
   obtain ⟨R91, h, hx258⟩ := h
   have hJ237 : ∀ (a : Act) (i90 : Int) (w92 : World), R91 i90 w92 → Has 172 [] a [(2, (.int .u8 b7)), (7, (.pointer (some (blk b22)))), (8, (Slc.v writt18)), (9, (Slc.v writt19)), (10, (Slc.v writt20)), (12, (.int .i64 mod32)), (13, (.pointer (some (blk b53)))), (14, (Slc.v Scanr48)), (15, (Slc.v Scanr49)), (16, (.int .i64 Scanr50)), (17, (.pointer Scanr51)), (18, (.int .i64 Scanr52)), (19, (.int .i64 i90))] → K89 a w92 := by
    clear h
    intro a i90 w92 h H
    replace h := hx258 i90 w92 h
    refine hK89 _ _ <| c_seq fun K93 hK93 => c_reg <| s_assign H rfl rfl (lt_ rfl) fun a H => c_nil <| hK93 _ _ <| c_seq fun K94 hK94 => ?_
    obtain ⟨R96, h, hx236⟩ := h
    have hJ227 : ∀ (a : Act) (want95 : Int) (w97 : World), R96 want95 w97 → Has 172 [] a [(2, (.int .u8 b7)), (7, (.pointer (some (blk b22)))), (8, (Slc.v writt18)), (9, (Slc.v writt19)), (10, (Slc.v writt20)), (13, (.pointer (some (blk b53)))), (14, (Slc.v Scanr48)), (15, (Slc.v Scanr49)), (16, (.int .i64 Scanr50)), (17, (.pointer Scanr51)), (18, (.int .i64 Scanr52)), (19, (.int .i64 i90)), (20, (.int .i64 want95))] → K94 a w97 := by
     clear h
     intro a want95 w97 h H
     replace h := hx236 want95 w97 h
     refine hK94 _ _ <| c_seq fun K98 hK98 => c_seq fun K99 hK99 => c_reg <| s_move H rfl rfl (lt_ rfl) fun a H => s_bin H rfl rfl rfl r_neq (lt_ rfl) fun a H => s_move H rfl rfl (lt_ rfl) fun a H => ?_
     obtain ⟨x118, hy119, hn120, h⟩ := h
     refine g_join (n := 172) [(107, (.bool x118)), (2, (.int .u8 b7)), (8, (Slc.v writt18)), (9, (Slc.v writt19)), (10, (Slc.v writt20)), (14, (Slc.v Scanr48)), (15, (Slc.v Scanr49)), (16, (.int .i64 Scanr50)), (17, (.pointer Scanr51)), (19, (.int .i64 i90)), (20, (.int .i64 want95))] (.succ (.succ (.succ (.succ (.zero _))))) ?_ ?_
     ·intro hr101
      try clear h
      rcases Bool.eq_false_or_eq_true (decide (Scanr52 ≠ 0)) with hg100 | hg100
      ·replace H := H.ch (t := 103) (b := true) rfl hg100
       iterate 3 refine s_skip H (wantN H rfl rfl rfl) rfl (lt_ rfl) fun a H => ?_
       refine s_pickT H rfl rfl rfl (lt_ rfl) fun a H => ?_
       replace h := hn120 hg100
       subst h
       exact hr101 _ (H.weaken ⟨rfl, rfl, rfl, rfl, rfl, rfl, rfl, rfl, rfl, rfl, rfl, trivial⟩)
      ·replace H := H.ch (t := 103) (b := false) rfl hg100
       replace h := hy119 hg100
       obtain ⟨N102, hc103, h⟩ := h
       obtain ⟨K104, hc105, h⟩ := h
       obtain ⟨Delta106, hc107, h⟩ := h
       obtain ⟨Serve108, hc109, h⟩ := h
       refine s_loadN (l := [(.int .i64 N102), (.int .i64 K104), (.int .i64 Delta106), (.int .i64 Serve108)]) H (wantG H rfl rfl) rfl agg_25 rfl ⟨hc103, hc105, hc107, hc109, trivial⟩ (lt_ rfl) fun a H => ?_
       obtain ⟨N110, hc111, h⟩ := h
       obtain ⟨K112, hc113, h⟩ := h
       obtain ⟨Delta114, hc115, h⟩ := h
       obtain ⟨Serve116, hc117, h⟩ := h
       refine s_loadN (l := [(.int .i64 N110), (.int .i64 K112), (.int .i64 Delta114), (.int .i64 Serve116)]) H (wantG H rfl rfl) rfl agg_25 rfl ⟨hc111, hc113, hc115, hc117, trivial⟩ (lt_ rfl) fun a H => s_bin H (wantG H rfl rfl) rfl rfl (r_nest eqg_25 (eqst_25 0) rfl) (lt_ rfl) fun a H => s_pickF H rfl rfl rfl (lt_ rfl) fun a H => ?_
       subst h
       exact hr101 _ (H.weaken ⟨rfl, rfl, rfl, rfl, rfl, rfl, rfl, rfl, rfl, rfl, rfl, trivial⟩)
     ·clear H a
      clear hy119 hn120
      intro a H
      refine s_move H rfl rfl (lt_ rfl) fun a H => g_join (n := 172) [(112, (.bool (x118 || (decide (Scanr50 ≠ want95))))), (2, (.int .u8 b7)), (8, (Slc.v writt18)), (9, (Slc.v writt19)), (10, (Slc.v writt20)), (14, (Slc.v Scanr48)), (15, (Slc.v Scanr49)), (17, (.pointer Scanr51)), (19, (.int .i64 i90))] (.succ (.succ (.succ (.succ (.zero _))))) ?_ ?_
      ·intro hr122
       try clear h
       rcases Bool.eq_false_or_eq_true x118 with hg121 | hg121
       ·replace H := H.ch (t := 108) (b := true) rfl hg121
        iterate 3 refine s_skip H (wantN H rfl rfl rfl) rfl (lt_ rfl) fun a H => ?_
        refine s_pickT H rfl rfl rfl (lt_ rfl) fun a H => ?_
        exact hr122 _ (H.weaken ⟨by rw [hg121]; rfl, rfl, rfl, rfl, rfl, rfl, rfl, rfl, rfl, trivial⟩)
       ·replace H := H.ch (t := 108) (b := false) rfl hg121
        refine s_move H (wantG H rfl rfl) rfl (lt_ rfl) fun a H => s_move H (wantG H rfl rfl) rfl (lt_ rfl) fun a H => s_bin H (wantG H rfl rfl) rfl rfl r_neq (lt_ rfl) fun a H => s_pickF H rfl rfl rfl (lt_ rfl) fun a H => ?_
        exact hr122 _ (H.weaken ⟨by rw [hg121]; rfl, rfl, rfl, rfl, rfl, rfl, rfl, rfl, rfl, trivial⟩)
      ·clear H a
       intro a H
       refine s_move H rfl rfl (lt_ rfl) fun a H => ?_
       obtain ⟨R125, h, hx226⟩ := h
       refine g_joinW (n := 172) R125 (fun x126 => [(120, (.bool x126)), (2, (.int .u8 b7)), (8, (Slc.v writt18)), (9, (Slc.v writt19)), (10, (Slc.v writt20)), (15, (Slc.v Scanr49)), (17, (.pointer Scanr51)), (19, (.int .i64 i90))]) (.succ (.succ (.succ (.succ (.succ (.succ (.succ (.zero _)))))))) ?_ ?_
       ·intro hr124
        clear hx226
        rcases Bool.eq_false_or_eq_true (x118 || (decide (Scanr50 ≠ want95))) with hg123 | hg123
        ·replace H := H.ch (t := 113) (b := true) rfl hg123
         replace h := h.2 hg123
         iterate 6 refine s_skip H (wantN H rfl rfl rfl) rfl (lt_ rfl) fun a H => ?_
         refine s_pickT H rfl rfl rfl (lt_ rfl) fun a H => ?_
         exact hr124 _ _ _ h (H.weaken ⟨rfl, rfl, rfl, rfl, rfl, rfl, rfl, rfl, trivial⟩)
        ·replace H := H.ch (t := 113) (b := false) rfl hg123
         replace h := h.1 hg123
         iterate 3 refine s_move H (wantG H rfl rfl) rfl (lt_ rfl) fun a H => ?_
         obtain ⟨hi128, hi129, hi130, h⟩ := h
         refine s_slice (v := (Slc.v (writt20.cut 7 (Int.toNat (0)) (Int.toNat (i90))))) H (wantG H rfl rfl) rfl ⟨rfl, rfl⟩ ⟨rfl, rfl⟩ ⟨rfl, rfl⟩ (r_sliceSlc (lo := none) (hi := (some (.i64, i90))) slc_26 rfl rfl hi128 hi129 hi130) (lt_ rfl) fun a H => s_call H (wantG H rfl rfl) body_17 (H.args (vs := [(Slc.v Scanr48), (Slc.v (writt20.cut 7 (Int.toNat (0)) (Int.toNat (i90))))]) rfl) (lt_ rfl) h ?_ (fun c w' h H => e_panic (P := PP) (fn := Tryd.f7) H h)
         clear H h a
         rintro _ w131 a ⟨updat132, rfl, h⟩ H
         refine s_un H (wantG H rfl rfl) rfl r_not (lt_ rfl) fun a H => s_pickF H rfl rfl rfl (lt_ rfl) fun a H => ?_
         exact hr124 _ _ _ h (H.weaken ⟨rfl, rfl, rfl, rfl, rfl, rfl, rfl, rfl, trivial⟩)
       ·clear H a h
        intro a x126 w127 h H
        replace h := hx226 x126 w127 h
        clear hx226
        refine s_move H rfl rfl (lt_ rfl) fun a H => ?_
        obtain ⟨R139, h, hx225⟩ := h
        refine g_joinW (n := 172) R139 (fun x140 => [(129, (.bool x140)), (2, (.int .u8 b7)), (8, (Slc.v writt18)), (9, (Slc.v writt19)), (10, (Slc.v writt20)), (17, (.pointer Scanr51)), (19, (.int .i64 i90))]) (.succ (.succ (.succ (.succ (.succ (.succ (.succ (.succ (.zero _))))))))) ?_ ?_
        ·intro hr138
         clear hx225
         rcases Bool.eq_false_or_eq_true x126 with hg137 | hg137
         ·replace H := H.ch (t := 121) (b := true) rfl hg137
          replace h := h.2 hg137
          iterate 7 refine s_skip H (wantN H rfl rfl rfl) rfl (lt_ rfl) fun a H => ?_
          refine s_pickT H rfl rfl rfl (lt_ rfl) fun a H => ?_
          exact hr138 _ _ _ h (H.weaken ⟨rfl, rfl, rfl, rfl, rfl, rfl, rfl, trivial⟩)
         ·replace H := H.ch (t := 121) (b := false) rfl hg137
          replace h := h.1 hg137
          iterate 3 refine s_move H (wantG H rfl rfl) rfl (lt_ rfl) fun a H => ?_
          refine s_bin H (wantG H rfl rfl) rfl rfl r_add (lt_ rfl) fun a H => ?_
          obtain ⟨hi142, hi143, hi144, h⟩ := h
          refine s_slice (v := (Slc.v (writt19.cut 1 (Int.toNat (0)) (Int.toNat (wr .i64 (i90 + 1)))))) H (wantG H rfl rfl) rfl ⟨rfl, rfl⟩ ⟨rfl, rfl⟩ ⟨rfl, rfl⟩ (r_sliceSlc (lo := none) (hi := (some (.i64, wr .i64 (i90 + 1)))) slc_50 rfl rfl hi142 hi143 hi144) (lt_ rfl) fun a H => s_call H (wantG H rfl rfl) body_18 (H.args (vs := [(Slc.v Scanr49), (Slc.v (writt19.cut 1 (Int.toNat (0)) (Int.toNat (wr .i64 (i90 + 1)))))]) rfl) (lt_ rfl) h ?_ (fun c w' h H => e_panic (P := PP) (fn := Tryd.f7) H h)
          clear H h a
          rintro _ w145 a ⟨ints146, rfl, h⟩ H
          refine s_un H (wantG H rfl rfl) rfl r_not (lt_ rfl) fun a H => s_pickF H rfl rfl rfl (lt_ rfl) fun a H => ?_
          exact hr138 _ _ _ h (H.weaken ⟨rfl, rfl, rfl, rfl, rfl, rfl, rfl, trivial⟩)
        ·clear H a h
         intro a x140 w141 h H
         replace h := hx225 x140 w141 h
         clear hx225
         refine s_move H rfl rfl (lt_ rfl) fun a H => g_join (n := 172) [(133, (.bool (x140 || Scanr51.isNone))), (2, (.int .u8 b7)), (8, (Slc.v writt18)), (9, (Slc.v writt19)), (10, (Slc.v writt20)), (17, (.pointer Scanr51)), (19, (.int .i64 i90))] (.succ (.succ (.succ (.zero _)))) ?_ ?_
         ·intro hr152
          try clear h
          rcases Bool.eq_false_or_eq_true x140 with hg151 | hg151
          ·replace H := H.ch (t := 130) (b := true) rfl hg151
           refine s_skip H (wantN H rfl rfl rfl) rfl (lt_ rfl) fun a H => s_skip H (wantN H rfl rfl rfl) rfl (lt_ rfl) fun a H => s_pickT H rfl rfl rfl (lt_ rfl) fun a H => ?_
           exact hr152 _ (H.weaken ⟨by rw [hg151]; rfl, rfl, rfl, rfl, rfl, rfl, rfl, trivial⟩)
          ·replace H := H.ch (t := 130) (b := false) rfl hg151
           refine s_move H (wantG H rfl rfl) rfl (lt_ rfl) fun a H => s_bin H (wantG H rfl rfl) rfl rfl (r_eqP0 ptr_32) (lt_ rfl) fun a H => s_pickF H rfl rfl rfl (lt_ rfl) fun a H => ?_
           exact hr152 _ (H.weaken ⟨by rw [hg151]; rfl, rfl, rfl, rfl, rfl, rfl, rfl, trivial⟩)
         ·clear H a
          intro a H
          refine s_move H rfl rfl (lt_ rfl) fun a H => ?_
          obtain ⟨R155, h, hx224⟩ := h
          refine g_joinW (n := 172) R155 (fun x156 => [(139, (.bool x156)), (2, (.int .u8 b7)), (8, (Slc.v writt18)), (9, (Slc.v writt19)), (10, (Slc.v writt20))]) (.succ (.succ (.succ (.succ (.succ (.zero _)))))) ?_ ?_
          ·intro hr154
           clear hx224
           rcases Bool.eq_false_or_eq_true (x140 || Scanr51.isNone) with hg153 | hg153
           ·replace H := H.ch (t := 134) (b := true) rfl hg153
            replace h := h.2 hg153
            iterate 4 refine s_skip H (wantN H rfl rfl rfl) rfl (lt_ rfl) fun a H => ?_
            refine s_pickT H rfl rfl rfl (lt_ rfl) fun a H => ?_
            exact hr154 _ _ _ h (H.weaken ⟨rfl, rfl, rfl, rfl, rfl, trivial⟩)
           ·replace H := H.ch (t := 134) (b := false) rfl hg153
            replace h := h.1 hg153
            refine s_move H (wantG H rfl rfl) rfl (lt_ rfl) fun a H => s_call H (wantG H rfl rfl) body_20 (H.args (vs := [(.pointer Scanr51)]) rfl) (lt_ rfl) h ?_ (fun c w' h H => e_panic (P := PP) (fn := Tryd.f7) H h)
            clear H h a
            rintro _ w158 a ⟨Count159, rfl, h⟩ H
            refine s_move H (wantG H rfl rfl) rfl (lt_ rfl) fun a H => s_bin H (wantG H rfl rfl) rfl rfl r_neq (lt_ rfl) fun a H => s_pickF H rfl rfl rfl (lt_ rfl) fun a H => ?_
            exact hr154 _ _ _ h (H.weaken ⟨rfl, rfl, rfl, rfl, rfl, trivial⟩)
          ·clear H a h
           intro a x156 w157 h H
           replace h := hx224 x156 w157 h
           clear hx224
           refine c_nil <| hK99 _ _ <| c_cond H rfl (fun hb164 => ?_) (fun hb164 => ?_)
           ·replace h := h.1 hb164
            refine c_seq fun K165 hK165 => c_reg <| s_assign H rfl rfl (lt_ rfl) fun a H => c_nil <| hK165 _ _ <| c_ret ?_
            exact e_ret1 H rfl rfl h
           ·replace h := h.2 hb164
            refine c_skip <| hK98 _ _ <| c_seq fun K166 hK166 => c_seq fun K167 hK167 => c_reg <| s_move H rfl rfl (lt_ rfl) fun a H => s_bin H rfl rfl rfl r_eql (lt_ rfl) fun a H => c_nil <| hK167 _ _ <| c_cond H rfl (fun hb168 => ?_) (fun hb168 => ?_)
            ·replace h := h.1 hb168
             refine c_seq fun K169 hK169 => c_reg <| s_assign H rfl rfl (lt_ rfl) fun a H => c_nil <| hK169 _ _ <| c_ret ?_
             exact e_ret1 H rfl rfl h
            ·replace h := h.2 hb168
             refine c_skip <| hK166 _ _ <| c_seq fun K170 hK170 => c_reg ?_
             replace h := h.get
             obtain ⟨b171, w172, nb173, h⟩ := h
             refine s_bslc H rfl (by rw [H.parts (vs := []) rfl]; exact bs_28_0 w157) (lt_ rfl) ?_
             rw [← nb173.at_]
             clear H a
             intro a H
             refine nb173.go <| s_move H rfl rfl (lt_ rfl) fun a H => ?_
             obtain ⟨s174, w175, hq176, h⟩ := h
             refine s_blt H rfl (H.args (vs := [(Slc.v (Slc.mk (some (blk b171)) 0 0)), (Slc.v writt18)]) rfl) (lt_ rfl) (fun cs => b_app (z := s174) hq176) ?_
             clear H a hq176
             intro a H
             refine s_move H rfl rfl (lt_ rfl) fun a H => ?_
             replace h := h.get
             obtain ⟨b177, w178, nb179, h⟩ := h
             refine s_bslc H rfl (by rw [H.parts (vs := [(0, (.int .u8 b7))]) rfl]; exact bs_28_1_iu80 w175 b7) (lt_ rfl) ?_
             rw [← nb179.at_]
             clear H a
             intro a H
             refine nb179.go ?_
             obtain ⟨s180, w181, hq182, h⟩ := h
             refine s_blt H rfl (H.args (vs := [(Slc.v s174), (Slc.v (Slc.mk (some (blk b177)) 1 1))]) rfl) (lt_ rfl) (fun cs => b_app (z := s180) hq182) ?_
             clear H a hq182
             intro a H
             refine s_call H rfl body_16 (H.args (vs := [(Slc.v s180)]) rfl) (lt_ rfl) h ?_ (fun c w' h H => e_panic (P := PP) (fn := Tryd.f7) H h)
             clear H h a
             rintro _ w183 a ⟨N184, K185, Delta186, Serve187, Scanr188, Scanr189, Scanr190, Scanr191, Scanr192, rfl, h⟩ H
             refine s_move H rfl rfl (lt_ rfl) fun a H => ?_
             iterate 6 refine s_ext H rfl rfl rfl (lt_ rfl) fun a H => ?_
             iterate 4 refine s_assign H rfl rfl (lt_ rfl) fun a H => ?_
             refine c_nil <| hK170 _ _ <| c_seq fun K193 hK193 => c_reg <| s_move H rfl rfl (lt_ rfl) fun a H => s_bin H rfl rfl rfl r_eql (lt_ rfl) fun a H => s_move H rfl rfl (lt_ rfl) fun a H => g_join (n := 172) [(161, (.bool ((decide (Scanr192 = 0)) && (decide (Scanr190 = 32))))), (9, (Slc.v writt19)), (10, (Slc.v writt20)), (14, (Slc.v Scanr188)), (15, (Slc.v Scanr189))] (.succ (.succ (.succ (.zero _)))) ?_ ?_
             ·intro hr195
              try clear h
              rcases Bool.eq_false_or_eq_true (decide (Scanr192 = 0)) with hg194 | hg194
              ·replace H := H.ch (t := 158) (b := true) rfl hg194
               refine s_move H (wantG H rfl rfl) rfl (lt_ rfl) fun a H => s_bin H (wantG H rfl rfl) rfl rfl r_eql (lt_ rfl) fun a H => s_pickT H rfl rfl rfl (lt_ rfl) fun a H => ?_
               exact hr195 _ (H.weaken ⟨by rw [hg194]; rfl, rfl, rfl, rfl, rfl, trivial⟩)
              ·replace H := H.ch (t := 158) (b := false) rfl hg194
               refine s_skip H (wantN H rfl rfl rfl) rfl (lt_ rfl) fun a H => s_skip H (wantN H rfl rfl rfl) rfl (lt_ rfl) fun a H => s_pickF H rfl rfl rfl (lt_ rfl) fun a H => ?_
               exact hr195 _ (H.weaken ⟨by rw [hg194]; rfl, rfl, rfl, rfl, rfl, trivial⟩)
             ·clear H a
              intro a H
              refine s_move H rfl rfl (lt_ rfl) fun a H => ?_
              obtain ⟨R198, h, hx219⟩ := h
              refine g_joinW (n := 172) R198 (fun x199 => [(166, (.bool x199)), (9, (Slc.v writt19)), (15, (Slc.v Scanr189))]) (.succ (.succ (.succ (.succ (.zero _))))) ?_ ?_
              ·intro hr197
               clear hx219
               rcases Bool.eq_false_or_eq_true ((decide (Scanr192 = 0)) && (decide (Scanr190 = 32))) with hg196 | hg196
               ·replace H := H.ch (t := 162) (b := true) rfl hg196
                replace h := h.1 hg196
                refine s_move H (wantG H rfl rfl) rfl (lt_ rfl) fun a H => s_move H (wantG H rfl rfl) rfl (lt_ rfl) fun a H => s_call H (wantG H rfl rfl) body_17 (H.args (vs := [(Slc.v Scanr188), (Slc.v writt20)]) rfl) (lt_ rfl) h ?_ (fun c w' h H => e_panic (P := PP) (fn := Tryd.f7) H h)
                clear H h a
                rintro _ w201 a ⟨updat202, rfl, h⟩ H
                refine s_pickT H rfl rfl rfl (lt_ rfl) fun a H => ?_
                exact hr197 _ _ _ h (H.weaken ⟨rfl, rfl, rfl, trivial⟩)
               ·replace H := H.ch (t := 162) (b := false) rfl hg196
                replace h := h.2 hg196
                iterate 3 refine s_skip H (wantN H rfl rfl rfl) rfl (lt_ rfl) fun a H => ?_
                refine s_pickF H rfl rfl rfl (lt_ rfl) fun a H => ?_
                exact hr197 _ _ _ h (H.weaken ⟨rfl, rfl, rfl, trivial⟩)
              ·clear H a h
               intro a x199 w200 h H
               replace h := hx219 x199 w200 h
               clear hx219
               refine s_move H rfl rfl (lt_ rfl) fun a H => ?_
               obtain ⟨R209, h, hx218⟩ := h
               refine g_joinW (n := 172) R209 (fun x210 => [(171, (.bool x210))]) (.succ (.succ (.succ (.succ (.zero _))))) ?_ ?_
               ·intro hr208
                clear hx218
                rcases Bool.eq_false_or_eq_true x199 with hg207 | hg207
                ·replace H := H.ch (t := 167) (b := true) rfl hg207
                 replace h := h.1 hg207
                 refine s_move H (wantG H rfl rfl) rfl (lt_ rfl) fun a H => s_move H (wantG H rfl rfl) rfl (lt_ rfl) fun a H => s_call H (wantG H rfl rfl) body_18 (H.args (vs := [(Slc.v Scanr189), (Slc.v writt19)]) rfl) (lt_ rfl) h ?_ (fun c w' h H => e_panic (P := PP) (fn := Tryd.f7) H h)
                 clear H h a
                 rintro _ w212 a ⟨ints213, rfl, h⟩ H
                 refine s_pickT H rfl rfl rfl (lt_ rfl) fun a H => ?_
                 exact hr208 _ _ _ h (H.weaken ⟨rfl, trivial⟩)
                ·replace H := H.ch (t := 167) (b := false) rfl hg207
                 replace h := h.2 hg207
                 iterate 3 refine s_skip H (wantN H rfl rfl rfl) rfl (lt_ rfl) fun a H => ?_
                 refine s_pickF H rfl rfl rfl (lt_ rfl) fun a H => ?_
                 exact hr208 _ _ _ h (H.weaken ⟨rfl, trivial⟩)
               ·clear H a h
                intro a x210 w211 h H
                replace h := hx218 x210 w211 h
                clear hx218
                refine s_assign H rfl rfl (lt_ rfl) fun a H => c_nil <| hK193 _ _ <| c_ret ?_
                exact e_ret1 H rfl rfl h
    clear hx236
    refine c_seq fun K228 hK228 => c_reg <| s_move H rfl rfl (lt_ rfl) fun a H => s_move H rfl rfl (lt_ rfl) fun a H => ?_
    obtain ⟨a229, hi230, hi231, hi232, h⟩ := h
    refine s_idxS (s := writt19) H rfl rfl rfl slc_50 hi230 hi231 hi232 (lt_ rfl) fun a H => ?_
    obtain ⟨l233, hc234, h⟩ := h
    refine s_load (v := (.int .i64 l233)) H rfl rfl one_3 hc234 (lt_ rfl) fun a H => s_move H rfl rfl (lt_ rfl) fun a H => s_bin H rfl rfl rfl r_eql (lt_ rfl) fun a H => c_nil <| hK228 _ _ <| c_cond H rfl (fun hb235 => ?_) (fun hb235 => ?_)
    ·replace h := h.1 hb235
     refine c_reg <| s_assign H rfl rfl (lt_ rfl) fun a H => c_nil ?_
     exact hJ227 _ _ _ h (H.weaken ⟨rfl, rfl, rfl, rfl, rfl, rfl, rfl, rfl, rfl, rfl, rfl, rfl, rfl, trivial⟩)
    ·replace h := h.2 hb235
     refine c_skip ?_
     exact hJ227 _ _ _ h (H.weaken ⟨rfl, rfl, rfl, rfl, rfl, rfl, rfl, rfl, rfl, rfl, rfl, rfl, rfl, trivial⟩)
   clear hx258
   refine c_block ?_
   obtain ⟨I240, mu241, h0256, hl257⟩ := h
   refine c_loop (σ := Int) (fun z w => I240 z w) (fun z w => mu241 z w) (fun z => [(2, (.int .u8 b7)), (7, (.pointer (some (blk b22)))), (8, (Slc.v writt18)), (9, (Slc.v writt19)), (10, (Slc.v writt20)), (12, (.int .i64 mod32)), (13, (.pointer (some (blk b53)))), (14, (Slc.v Scanr48)), (15, (Slc.v Scanr49)), (16, (.int .i64 Scanr50)), (17, (.pointer Scanr51)), (18, (.int .i64 Scanr52)), (19, (.int .i64 z))]) 0 h0256 (H.weaken ⟨rfl, rfl, rfl, rfl, rfl, rfl, rfl, rfl, rfl, rfl, rfl, rfl, rfl, trivial⟩) ?_
   clear H h0256
   rintro i238 a w239 h H
   replace h := hl257 i238 w239 h
   clear hl257
   replace H : Has 172 [] a [(2, (.int .u8 b7)), (7, (.pointer (some (blk b22)))), (8, (Slc.v writt18)), (9, (Slc.v writt19)), (10, (Slc.v writt20)), (12, (.int .i64 mod32)), (13, (.pointer (some (blk b53)))), (14, (Slc.v Scanr48)), (15, (Slc.v Scanr49)), (16, (.int .i64 Scanr50)), (17, (.pointer Scanr51)), (18, (.int .i64 Scanr52)), (19, (.int .i64 i238))] := H
   refine c_seq fun K242 hK242 => c_seq fun K243 hK243 => c_reg <| s_move H rfl rfl (lt_ rfl) fun a H => s_bin H rfl rfl rfl r_add (lt_ rfl) fun a H => s_move H rfl rfl (lt_ rfl) fun a H => s_blt H rfl (H.args (vs := [(Slc.v writt19)]) rfl) (lt_ rfl) (fun cs => b_lenS (z := writt19) sl_50) fun a H => s_bin H rfl rfl rfl r_lss (lt_ rfl) fun a H => s_move H rfl rfl (lt_ rfl) fun a H => ?_
   obtain ⟨x252, hy253, hn254, h⟩ := h
   refine g_join (n := 172) [(92, (.bool x252)), (2, (.int .u8 b7)), (7, (.pointer (some (blk b22)))), (8, (Slc.v writt18)), (9, (Slc.v writt19)), (10, (Slc.v writt20)), (12, (.int .i64 mod32)), (13, (.pointer (some (blk b53)))), (14, (Slc.v Scanr48)), (15, (Slc.v Scanr49)), (16, (.int .i64 Scanr50)), (17, (.pointer Scanr51)), (18, (.int .i64 Scanr52)), (19, (.int .i64 i238))] (.succ (.succ (.succ (.succ (.succ (.succ (.succ (.succ (.zero _))))))))) ?_ ?_
   ·intro hr245
    try clear h
    rcases Bool.eq_false_or_eq_true (decide ((wr .i64 (i238 + 1)) < (writt19.l : Int))) with hg244 | hg244
    ·replace H := H.ch (t := 84) (b := true) rfl hg244
     replace h := hy253 hg244
     refine s_move H (wantG H rfl rfl) rfl (lt_ rfl) fun a H => s_move H (wantG H rfl rfl) rfl (lt_ rfl) fun a H => s_bin H (wantG H rfl rfl) rfl rfl r_add (lt_ rfl) fun a H => ?_
     obtain ⟨a246, hi247, hi248, hi249, h⟩ := h
     refine s_idxS (s := writt19) H (wantG H rfl rfl) rfl rfl slc_50 hi247 hi248 hi249 (lt_ rfl) fun a H => ?_
     obtain ⟨l250, hc251, h⟩ := h
     refine s_load (v := (.int .i64 l250)) H (wantG H rfl rfl) rfl one_3 hc251 (lt_ rfl) fun a H => s_move H (wantG H rfl rfl) rfl (lt_ rfl) fun a H => s_bin H (wantG H rfl rfl) rfl rfl r_leq (lt_ rfl) fun a H => s_pickT H rfl rfl rfl (lt_ rfl) fun a H => ?_
     subst h
     exact hr245 _ (H.weaken ⟨rfl, rfl, rfl, rfl, rfl, rfl, rfl, rfl, rfl, rfl, rfl, rfl, rfl, rfl, trivial⟩)
    ·replace H := H.ch (t := 84) (b := false) rfl hg244
     iterate 7 refine s_skip H (wantN H rfl rfl rfl) rfl (lt_ rfl) fun a H => ?_
     refine s_pickF H rfl rfl rfl (lt_ rfl) fun a H => ?_
     replace h := hn254 hg244
     subst h
     exact hr245 _ (H.weaken ⟨rfl, rfl, rfl, rfl, rfl, rfl, rfl, rfl, rfl, rfl, rfl, rfl, rfl, rfl, trivial⟩)
   ·clear H a
    clear hy253 hn254
    intro a H
    refine c_nil <| hK243 _ _ <| c_cond H rfl (fun hb255 => ?_) (fun hb255 => ?_)
    ·replace h := h.1 hb255
     refine c_skip <| hK242 _ _ <| c_block <| c_reg <| s_move H rfl rfl (lt_ rfl) fun a H => s_bin H rfl rfl rfl r_add (lt_ rfl) fun a H => s_assign H rfl rfl (lt_ rfl) fun a H => c_nil <| Exists.intro (wr .i64 (i238 + 1)) ⟨h.1, h.2, H.weaken ⟨rfl, rfl, rfl, rfl, rfl, rfl, rfl, rfl, rfl, rfl, rfl, rfl, rfl, trivial⟩⟩
    ·replace h := h.2 hb255
     refine c_exit ?_
     first | (simp only [Exit.then, Exit.inBlock, ↓reduceIte]; fail_if_success simp only [Nat.reduceEqDiff]) | simp only [Exit.then, Exit.inBlock, ↓reduceIte, Nat.reduceEqDiff]
     exact hJ237 _ _ _ h (H.weaken ⟨rfl, rfl, rfl, rfl, rfl, rfl, rfl, rfl, rfl, rfl, rfl, rfl, rfl, trivial⟩)

set_option maxRecDepth 100000 in
set_option maxHeartbeats 4000000 in
theorem sim_sherdref11_New (N1 : Int) (K2 : Int) (Delta3 : Int) (Serve4 : Int) (w : World) (Q : Ending → World → Prop) (h : vc_sherdref11_New N1 K2 Delta3 Serve4 w Q) : Calls PP F_sherdref11_New #[(.agg #[(.int .i64 N1), (.int .i64 K2), (.int .i64 Delta3), (.int .i64 Serve4)])] w Q := by
 unfold vc_sherdref11_New at h
 refine enter (n := 24) (l := [(.agg #[(.int .i64 N1), (.int .i64 K2), (.int .i64 Delta3), (.int .i64 Serve4)])]) Tryd.func8 rfl rfl (Nat.le_of_ble_eq_true rfl) fun a H => ?_
 replace H : Has 24 [] a [(0, (.agg #[(.int .i64 N1), (.int .i64 K2), (.int .i64 Delta3), (.int .i64 Serve4)]))] := H
 refine c_seq fun K5 hK5 => c_reg ?_
 replace h := h.get
 obtain ⟨b6, w7, nb8, h⟩ := h
 refine s_box H rfl rfl (lt_ rfl) ?_
 rw [← nb8.at_]
 clear H a
 intro a H
 refine nb8.go ?_
 iterate 3 refine s_assign H rfl rfl (lt_ rfl) fun a H => ?_
 refine c_nil <| hK5 _ _ <| c_seq fun K9 hK9 => c_reg <| s_loadN (l := [(.int .i64 N1), (.int .i64 K2), (.int .i64 Delta3), (.int .i64 Serve4)]) H rfl rfl agg_25 rfl ⟨(nb8.cell (i := 0) rfl), (nb8.cell (i := 1) rfl), (nb8.cell (i := 2) rfl), (nb8.cell (i := 3) rfl), trivial⟩ (lt_ rfl) fun a H => ?_
 refine s_call H rfl body_21 (H.args (vs := [(.agg #[(.int .i64 N1), (.int .i64 K2), (.int .i64 Delta3), (.int .i64 Serve4)])]) rfl) (lt_ rfl) h ?_ (fun c w' h H => e_panic (P := PP) (fn := Tryd.f8) H h)
 clear H h a
 rintro _ w10 a ⟨Check11, rfl, h⟩ H
 refine s_assign H rfl rfl (lt_ rfl) fun a H => c_nil <| hK9 _ _ <| c_seq fun K12 hK12 => c_seq fun K13 hK13 => c_reg <| s_move H rfl rfl (lt_ rfl) fun a H => s_bin H rfl rfl rfl r_neq (lt_ rfl) fun a H => c_nil <| hK13 _ _ <| c_cond H rfl (fun hb14 => ?_) (fun hb14 => ?_)
 ·replace h := h.1 hb14
  refine c_seq fun K15 hK15 => c_reg <| s_move H rfl rfl (lt_ rfl) fun a H => ?_
  iterate 3 refine s_assign H rfl rfl (lt_ rfl) fun a H => ?_
  refine c_nil <| hK15 _ _ <| c_ret ?_
  exact e_ret3 H rfl rfl rfl rfl h
 ·replace h := h.2 hb14
  refine c_skip <| hK12 _ _ <| c_seq fun K16 hK16 => c_reg ?_
  obtain ⟨N17, hc18, h⟩ := h
  obtain ⟨K19, hc20, h⟩ := h
  obtain ⟨Delta21, hc22, h⟩ := h
  obtain ⟨Serve23, hc24, h⟩ := h
  refine s_loadN (l := [(.int .i64 N17), (.int .i64 K19), (.int .i64 Delta21), (.int .i64 Serve23)]) H rfl rfl agg_25 rfl ⟨hc18, hc20, hc22, hc24, trivial⟩ (lt_ rfl) fun a H => s_call H rfl body_22 (H.args (vs := [(.agg #[(.int .i64 N17), (.int .i64 K19), (.int .i64 Delta21), (.int .i64 Serve23)])]) rfl) (lt_ rfl) h ?_ (fun c w' h H => e_panic (P := PP) (fn := Tryd.f8) H h)
  clear H h a
  rintro _ w25 a ⟨headB26, rfl, h⟩ H
  refine s_assign H rfl rfl (lt_ rfl) fun a H => c_nil <| hK16 _ _ <| c_seq fun K27 hK27 => c_reg ?_
  replace h := h.get
  obtain ⟨b28, w29, nb30, h⟩ := h
  refine s_bslc H rfl (by rw [H.parts (vs := []) rfl]; exact bs_28_0 w25) (lt_ rfl) ?_
  rw [← nb30.at_]
  clear H a
  intro a H
  refine nb30.go <| s_move H rfl rfl (lt_ rfl) fun a H => s_move H rfl rfl (lt_ rfl) fun a H => s_blt H rfl (H.args (vs := [(Slc.v headB26)]) rfl) (lt_ rfl) (fun cs => b_lenS (z := headB26) sl_28) fun a H => s_bin H rfl rfl rfl r_sub (lt_ rfl) fun a H => ?_
  obtain ⟨hi31, hi32, hi33, h⟩ := h
  refine s_slice (v := (Slc.v (headB26.cut 1 (Int.toNat (wr .i64 ((headB26.l : Int) - 4))) (Int.toNat ((headB26.l : Int)))))) H rfl rfl ⟨rfl, rfl⟩ ⟨rfl, rfl⟩ ⟨rfl, rfl⟩ (r_sliceSlc (lo := (some (.i64, wr .i64 ((headB26.l : Int) - 4)))) (hi := none) slc_28 rfl rfl hi31 hi32 hi33) (lt_ rfl) fun a H => ?_
  obtain ⟨s34, w35, hq36, h⟩ := h
  refine s_blt H rfl (H.args (vs := [(Slc.v (Slc.mk (some (blk b28)) 0 0)), (Slc.v (headB26.cut 1 (Int.toNat (wr .i64 ((headB26.l : Int) - 4))) (Int.toNat ((headB26.l : Int)))))]) rfl) (lt_ rfl) (fun cs => b_app (z := s34) hq36) ?_
  clear H a hq36
  intro a H
  refine s_build H rfl (by rw [H.parts (vs := [(0, (Slc.v s34))]) rfl]; exact bd_68_s0 w35 s34) (lt_ rfl) fun a H => ?_
  replace h := h.get
  obtain ⟨b37, w38, nb39, h⟩ := h
  refine s_box H rfl rfl (lt_ rfl) ?_
  rw [← nb39.at_]
  clear H a
  intro a H
  refine nb39.go <| s_move H rfl rfl (lt_ rfl) fun a H => ?_
  iterate 3 refine s_assign H rfl rfl (lt_ rfl) fun a H => ?_
  refine c_nil <| hK27 _ _ <| c_ret ?_
  exact e_ret3 H rfl rfl rfl rfl h

set_option maxRecDepth 100000 in
set_option maxHeartbeats 4000000 in
theorem sim_record_New (N1 : Int) (K2 : Int) (Delta3 : Int) (Serve4 : Int) (w : World) (Q : Ending → World → Prop) (h : vc_record_New N1 K2 Delta3 Serve4 w Q) : Calls PP F_record_New #[(.agg #[(.int .i64 N1), (.int .i64 K2), (.int .i64 Delta3), (.int .i64 Serve4)])] w Q := by
 unfold vc_record_New at h
 refine enter (n := 23) (l := [(.agg #[(.int .i64 N1), (.int .i64 K2), (.int .i64 Delta3), (.int .i64 Serve4)])]) Tryd.func9 rfl rfl (Nat.le_of_ble_eq_true rfl) fun a H => ?_
 replace H : Has 23 [] a [(0, (.agg #[(.int .i64 N1), (.int .i64 K2), (.int .i64 Delta3), (.int .i64 Serve4)]))] := H
 refine c_seq fun K5 hK5 => c_reg ?_
 replace h := h.get
 obtain ⟨b6, w7, nb8, h⟩ := h
 refine s_box H rfl rfl (lt_ rfl) ?_
 rw [← nb8.at_]
 clear H a
 intro a H
 refine nb8.go ?_
 iterate 3 refine s_assign H rfl rfl (lt_ rfl) fun a H => ?_
 refine c_nil <| hK5 _ _ <| c_seq fun K9 hK9 => c_seq fun K10 hK10 => c_reg <| s_loadN (l := [(.int .i64 N1), (.int .i64 K2), (.int .i64 Delta3), (.int .i64 Serve4)]) H rfl rfl agg_25 rfl ⟨(nb8.cell (i := 0) rfl), (nb8.cell (i := 1) rfl), (nb8.cell (i := 2) rfl), (nb8.cell (i := 3) rfl), trivial⟩ (lt_ rfl) fun a H => ?_
 refine s_call H rfl body_23 (H.args (vs := [(.agg #[(.int .i64 N1), (.int .i64 K2), (.int .i64 Delta3), (.int .i64 Serve4)])]) rfl) (lt_ rfl) h ?_ (fun c w' h H => e_panic (P := PP) (fn := Tryd.f9) H h)
 clear H h a
 rintro _ w11 a ⟨mayHe12, rfl, h⟩ H
 refine s_assign H rfl rfl (lt_ rfl) fun a H => c_nil <| hK10 _ _ <| c_seq fun K13 hK13 => c_reg <| s_move H rfl rfl (lt_ rfl) fun a H => s_bin H rfl rfl rfl r_neq (lt_ rfl) fun a H => c_nil <| hK13 _ _ <| c_cond H rfl (fun hb14 => ?_) (fun hb14 => ?_)
 ·replace h := h.1 hb14
  refine c_seq fun K15 hK15 => c_reg <| s_move H rfl rfl (lt_ rfl) fun a H => ?_
  iterate 3 refine s_assign H rfl rfl (lt_ rfl) fun a H => ?_
  refine c_nil <| hK15 _ _ <| c_ret ?_
  exact e_ret3 H rfl rfl rfl rfl h
 ·replace h := h.2 hb14
  refine c_skip <| hK9 _ _ <| c_seq fun K16 hK16 => c_reg ?_
  obtain ⟨N17, hc18, h⟩ := h
  obtain ⟨K19, hc20, h⟩ := h
  obtain ⟨Delta21, hc22, h⟩ := h
  obtain ⟨Serve23, hc24, h⟩ := h
  refine s_loadN (l := [(.int .i64 N17), (.int .i64 K19), (.int .i64 Delta21), (.int .i64 Serve23)]) H rfl rfl agg_25 rfl ⟨hc18, hc20, hc22, hc24, trivial⟩ (lt_ rfl) fun a H => s_call H rfl body_24 (H.args (vs := [(.agg #[(.int .i64 N17), (.int .i64 K19), (.int .i64 Delta21), (.int .i64 Serve23)])]) rfl) (lt_ rfl) h ?_ (fun c w' h H => e_panic (P := PP) (fn := Tryd.f9) H h)
  clear H h a
  rintro _ w25 a ⟨headO26, rfl, h⟩ H
  refine s_assign H rfl rfl (lt_ rfl) fun a H => c_nil <| hK16 _ _ <| c_seq fun K27 hK27 => c_reg <| s_move H rfl rfl (lt_ rfl) fun a H => s_move H rfl rfl (lt_ rfl) fun a H => s_blt H rfl (H.args (vs := [(Slc.v headO26)]) rfl) (lt_ rfl) (fun cs => b_lenS (z := headO26) sl_28) fun a H => s_bin H rfl rfl rfl r_sub (lt_ rfl) fun a H => ?_
  obtain ⟨hi28, hi29, hi30, h⟩ := h
  refine s_slice (v := (Slc.v (headO26.cut 1 (Int.toNat (wr .i64 ((headO26.l : Int) - 4))) (Int.toNat ((headO26.l : Int)))))) H rfl rfl ⟨rfl, rfl⟩ ⟨rfl, rfl⟩ ⟨rfl, rfl⟩ (r_sliceSlc (lo := (some (.i64, wr .i64 ((headO26.l : Int) - 4)))) (hi := none) slc_28 rfl rfl hi28 hi29 hi30) (lt_ rfl) fun a H => ?_
  refine s_call H rfl body_25 (H.args (vs := [(Slc.v (headO26.cut 1 (Int.toNat (wr .i64 ((headO26.l : Int) - 4))) (Int.toNat ((headO26.l : Int)))))]) rfl) (lt_ rfl) h ?_ (fun c w' h H => e_panic (P := PP) (fn := Tryd.f9) H h)
  clear H h a
  rintro _ w31 a ⟨Clone32, rfl, h⟩ H
  refine s_build H rfl (by rw [H.parts (vs := [(0, (Slc.v Clone32))]) rfl]; exact bd_71_s0 w31 Clone32) (lt_ rfl) fun a H => ?_
  replace h := h.get
  obtain ⟨b33, w34, nb35, h⟩ := h
  refine s_box H rfl rfl (lt_ rfl) ?_
  rw [← nb35.at_]
  clear H a
  intro a H
  refine nb35.go <| s_move H rfl rfl (lt_ rfl) fun a H => ?_
  iterate 3 refine s_assign H rfl rfl (lt_ rfl) fun a H => ?_
  refine c_nil <| hK27 _ _ <| c_ret ?_
  exact e_ret3 H rfl rfl rfl rfl h

set_option maxRecDepth 100000 in
set_option maxHeartbeats 4000000 in
theorem sim_sherdlaw11_same (a1 : Slc) (b2 : Slc) (w : World) (Q : Ending → World → Prop) (h : vc_sherdlaw11_same a1 b2 w Q) : Calls PP F_sherdlaw11_same #[(Slc.v a1), (Slc.v b2)] w Q := by
 unfold vc_sherdlaw11_same at h
 refine enter (n := 10) (l := [(Slc.v a1), (Slc.v b2)]) Tryd.func10 rfl rfl (Nat.le_of_ble_eq_true rfl) fun a H => ?_
 replace H : Has 10 [] a [(0, (Slc.v a1)), (1, (Slc.v b2))] := H
 refine c_seq fun K3 hK3 => c_reg <| s_assign H rfl rfl (lt_ rfl) fun a H => c_nil <| hK3 _ _ <| c_seq fun K4 hK4 => c_reg <| s_move H rfl rfl (lt_ rfl) fun a H => ?_
 obtain ⟨s5, hq6, h⟩ := h
 refine s_cv H rfl rfl hq6 (lt_ rfl) ?_
 clear H a hq6
 intro a H
 refine s_move H rfl rfl (lt_ rfl) fun a H => ?_
 obtain ⟨s7, hq8, h⟩ := h
 refine s_cv H rfl rfl hq8 (lt_ rfl) ?_
 clear H a hq8
 intro a H
 refine s_bin H rfl rfl rfl r_eqlS (lt_ rfl) fun a H => s_assign H rfl rfl (lt_ rfl) fun a H => c_nil <| hK4 _ _ <| c_ret ?_
 exact e_ret1 H rfl rfl h

set_option maxRecDepth 100000 in
set_option maxHeartbeats 4000000 in
theorem sim_sherdlaw11_silent (w : World) (Q : Ending → World → Prop) (h : vc_sherdlaw11_silent w Q) : Calls PP F_sherdlaw11_silent #[] w Q := by
 unfold vc_sherdlaw11_silent at h
 refine enter (n := 22) (l := []) Tryd.func11 rfl rfl (Nat.le_of_ble_eq_true rfl) fun a H => ?_
 replace H : Has 22 [] a [] := H
 refine c_seq fun K1 hK1 => c_reg <| s_assign H rfl rfl (lt_ rfl) fun a H => c_nil <| hK1 _ _ <| c_seq fun K2 hK2 => c_reg <| s_assign H rfl rfl (lt_ rfl) fun a H => c_nil <| hK2 _ _ <| c_seq fun K3 hK3 => c_reg <| s_move H rfl rfl (lt_ rfl) fun a H => s_build H rfl (by rw [H.parts (vs := [(0, (.int .i64 9))]) rfl]; exact bd_45_ii640 w 9) (lt_ rfl) fun a H => ?_
 refine s_call H rfl body_19 (H.args (vs := [(.pointer none), (.agg #[(.int .i64 9), (.string ⟨#[]⟩), (.int .i64 0), (.int .i64 0), (.bool false), (.bool false), (Slc.v Slc.nil)])]) rfl) (lt_ rfl) h ?_ (fun c w' h H => e_panic (P := PP) (fn := Tryd.f11) H h)
 clear H h a
 rintro _ w4 a ⟨Putr5, Putr6, rfl, h⟩ H
 refine s_move H rfl rfl (lt_ rfl) fun a H => s_ext H rfl rfl rfl (lt_ rfl) fun a H => s_ext H rfl rfl rfl (lt_ rfl) fun a H => s_assign H rfl rfl (lt_ rfl) fun a H => s_assign H rfl rfl (lt_ rfl) fun a H => c_nil <| hK3 _ _ <| c_seq fun K7 hK7 => c_reg <| s_move H rfl rfl (lt_ rfl) fun a H => s_blt H rfl (H.args (vs := [(Slc.v Putr5)]) rfl) (lt_ rfl) (fun cs => b_lenS (z := Putr5) sl_28) fun a H => s_bin H rfl rfl rfl r_eql (lt_ rfl) fun a H => s_move H rfl rfl (lt_ rfl) fun a H => ?_
 refine g_join (n := 22) [(16, (.bool ((decide ((Putr5.l : Int) = 0)) && (decide (Putr6 = 0))))), (1, (.pointer none))] (.succ (.succ (.succ (.zero _)))) ?_ ?_
 ·intro hr9
  try clear h
  rcases Bool.eq_false_or_eq_true (decide ((Putr5.l : Int) = 0)) with hg8 | hg8
  ·replace H := H.ch (t := 13) (b := true) rfl hg8
   refine s_move H (wantG H rfl rfl) rfl (lt_ rfl) fun a H => s_bin H (wantG H rfl rfl) rfl rfl r_eql (lt_ rfl) fun a H => s_pickT H rfl rfl rfl (lt_ rfl) fun a H => ?_
   exact hr9 _ (H.weaken ⟨by rw [hg8]; rfl, rfl, trivial⟩)
  ·replace H := H.ch (t := 13) (b := false) rfl hg8
   refine s_skip H (wantN H rfl rfl rfl) rfl (lt_ rfl) fun a H => s_skip H (wantN H rfl rfl rfl) rfl (lt_ rfl) fun a H => s_pickF H rfl rfl rfl (lt_ rfl) fun a H => ?_
   exact hr9 _ (H.weaken ⟨by rw [hg8]; rfl, rfl, trivial⟩)
 ·clear H a
  intro a H
  refine s_move H rfl rfl (lt_ rfl) fun a H => ?_
  obtain ⟨R12, h, hx21⟩ := h
  refine g_joinW (n := 22) R12 (fun x13 => [(21, (.bool x13))]) (.succ (.succ (.succ (.succ (.zero _))))) ?_ ?_
  ·intro hr11
   clear hx21
   rcases Bool.eq_false_or_eq_true ((decide ((Putr5.l : Int) = 0)) && (decide (Putr6 = 0))) with hg10 | hg10
   ·replace H := H.ch (t := 17) (b := true) rfl hg10
    replace h := h.1 hg10
    refine s_move H (wantG H rfl rfl) rfl (lt_ rfl) fun a H => s_call H (wantG H rfl rfl) body_20 (H.args (vs := [(.pointer none)]) rfl) (lt_ rfl) h ?_ (fun c w' h H => e_panic (P := PP) (fn := Tryd.f11) H h)
    clear H h a
    rintro _ w15 a ⟨Count16, rfl, h⟩ H
    refine s_bin H (wantG H rfl rfl) rfl rfl r_eql (lt_ rfl) fun a H => s_pickT H rfl rfl rfl (lt_ rfl) fun a H => ?_
    exact hr11 _ _ _ h (H.weaken ⟨rfl, trivial⟩)
   ·replace H := H.ch (t := 17) (b := false) rfl hg10
    replace h := h.2 hg10
    iterate 3 refine s_skip H (wantN H rfl rfl rfl) rfl (lt_ rfl) fun a H => ?_
    refine s_pickF H rfl rfl rfl (lt_ rfl) fun a H => ?_
    exact hr11 _ _ _ h (H.weaken ⟨rfl, trivial⟩)
  ·clear H a h
   intro a x13 w14 h H
   replace h := hx21 x13 w14 h
   clear hx21
   refine s_assign H rfl rfl (lt_ rfl) fun a H => c_nil <| hK7 _ _ <| c_ret ?_
   exact e_ret1 H rfl rfl h

set_option maxRecDepth 100000 in
set_option maxHeartbeats 4000000 in
theorem sim_sherdlaw11_putting (w1 : Option Addr) (v2 : Option Addr) (Kind3 : Int) (Key4 : ByteArray) (Count5 : Int) (Clien6 : Int) (Fin7 : Bool) (Has8 : Bool) (Data9 : Slc) (w : World) (Q : Ending → World → Prop) (h : vc_sherdlaw11_putting w1 v2 Kind3 Key4 Count5 Clien6 Fin7 Has8 Data9 w Q) : Calls PP F_sherdlaw11_putting #[(.pointer w1), (.pointer v2), (.agg #[(.int .i64 Kind3), (.string Key4), (.int .i64 Count5), (.int .i64 Clien6), (.bool Fin7), (.bool Has8), (Slc.v Data9)])] w Q := by
 unfold vc_sherdlaw11_putting at h
 refine enter (n := 63) (l := [(.pointer w1), (.pointer v2), (.agg #[(.int .i64 Kind3), (.string Key4), (.int .i64 Count5), (.int .i64 Clien6), (.bool Fin7), (.bool Has8), (Slc.v Data9)])]) Tryd.func12 rfl rfl (Nat.le_of_ble_eq_true rfl) fun a H => ?_
 replace H : Has 63 [] a [(0, (.pointer w1)), (1, (.pointer v2)), (2, (.agg #[(.int .i64 Kind3), (.string Key4), (.int .i64 Count5), (.int .i64 Clien6), (.bool Fin7), (.bool Has8), (Slc.v Data9)]))] := H
 refine c_seq fun K10 hK10 => c_reg ?_
 replace h := h.get
 obtain ⟨b11, w12, nb13, h⟩ := h
 refine s_box H rfl rfl (lt_ rfl) ?_
 rw [← nb13.at_]
 clear H a
 intro a H
 refine nb13.go <| s_assign H rfl rfl (lt_ rfl) fun a H => s_assign H rfl rfl (lt_ rfl) fun a H => c_nil <| hK10 _ _ <| c_seq fun K14 hK14 => c_reg <| s_fld H rfl rfl fld_45_2 (lt_ rfl) fun a H => s_fld H rfl rfl fld_43_3 (lt_ rfl) fun a H => s_load (v := (Slc.v Data9)) H rfl rfl one_28 (nb13.cell (i := 6) rfl) (lt_ rfl) fun a H => s_call H rfl body_26 (H.args (vs := [(Slc.v Data9)]) rfl) (lt_ rfl) h ?_ (fun c w' h H => e_panic (P := PP) (fn := Tryd.f12) H h)
 clear H h a
 rintro _ w15 a ⟨lent16, rfl, h⟩ H
 refine s_assign H rfl rfl (lt_ rfl) fun a H => c_nil <| hK14 _ _ <| c_seq fun K17 hK17 => c_reg ?_
 obtain ⟨Kind18, hc19, h⟩ := h
 obtain ⟨Key20, hc21, h⟩ := h
 obtain ⟨Count22, hc23, h⟩ := h
 obtain ⟨Clien24, hc25, h⟩ := h
 obtain ⟨Fin26, hc27, h⟩ := h
 obtain ⟨Has28, hc29, h⟩ := h
 obtain ⟨Data30, hc31, h⟩ := h
 refine s_loadN (l := [(.int .i64 Kind18), (.string Key20), (.int .i64 Count22), (.int .i64 Clien24), (.bool Fin26), (.bool Has28), (Slc.v Data30)]) H rfl rfl agg_45 rfl ⟨hc19, hc21, hc23, hc25, hc27, hc29, hc31, trivial⟩ (lt_ rfl) fun a H => ?_
 replace h := h.get
 obtain ⟨b32, w33, nb34, h⟩ := h
 refine s_alloc H rfl zero_45 (lt_ rfl) ?_
 rw [← nb34.at_]
 clear H a
 intro a H
 refine nb34.go <| s_stoN (l := [(.int .i64 Kind18), (.string Key20), (.int .i64 Count22), (.int .i64 Clien24), (.bool Fin26), (.bool Has28), (Slc.v Data30)]) H rfl rfl rfl rfl agg_45 rfl rfl h ?_
 clear h H
 intro w35 h H
 refine c_nil <| hK17 _ _ <| c_seq fun K36 hK36 => c_reg <| s_move H rfl rfl (lt_ rfl) fun a H => s_fld H rfl rfl fld_45_2 (lt_ rfl) fun a H => s_fld H rfl rfl fld_43_3 (lt_ rfl) fun a H => ?_
 obtain ⟨l37, hc38, h⟩ := h
 refine s_load (v := (Slc.v l37)) H rfl rfl one_28 hc38 (lt_ rfl) fun a H => s_blt H rfl (H.args (vs := [(Slc.v l37)]) rfl) (lt_ rfl) (fun cs => b_lenS (z := l37) sl_28) fun a H => ?_
 obtain ⟨hi39, hi40, hi41, h⟩ := h
 refine s_slice (v := (Slc.v (lent16.cut 1 (Int.toNat (0)) (Int.toNat ((l37.l : Int)))))) H rfl rfl ⟨rfl, rfl⟩ ⟨rfl, rfl⟩ ⟨rfl, rfl⟩ (r_sliceSlc (lo := none) (hi := (some (.i64, (l37.l : Int)))) slc_28 rfl rfl hi39 hi40 hi41) (lt_ rfl) fun a H => s_fld H rfl rfl fld_45_2 (lt_ rfl) fun a H => s_fld H rfl rfl fld_43_3 (lt_ rfl) fun a H => ?_
 obtain ⟨hs43, hf44, h⟩ := h
 refine s_sto (p := ((blk b32).add 2).add 4) (v := (Slc.v (lent16.cut 1 (Int.toNat (0)) (Int.toNat ((l37.l : Int)))))) H rfl rfl rfl rfl one_28 rfl hs43 hf44 ?_
 clear H
 intro H
 generalize hww42 : World.setCell w35 (((blk b32).add 2).add 4) (Slc.v (lent16.cut 1 (Int.toNat (0)) (Int.toNat ((l37.l : Int))))) = w42 at h ⊢
 have w42S : SetAt w35 (((blk b32).add 2).add 4) (Slc.v (lent16.cut 1 (Int.toNat (0)) (Int.toNat ((l37.l : Int))))) w42 := ⟨hww42.symm⟩
 clear hww42 hs43 hf44
 refine c_nil <| hK36 _ _ <| c_seq fun K45 hK45 => c_reg <| s_move H rfl rfl (lt_ rfl) fun a H => ?_
 obtain ⟨Kind46, hc47, h⟩ := h
 obtain ⟨Key48, hc49, h⟩ := h
 obtain ⟨Count50, hc51, h⟩ := h
 obtain ⟨Clien52, hc53, h⟩ := h
 obtain ⟨Fin54, hc55, h⟩ := h
 obtain ⟨Has56, hc57, h⟩ := h
 obtain ⟨Data58, hc59, h⟩ := h
 refine s_loadN (l := [(.int .i64 Kind46), (.string Key48), (.int .i64 Count50), (.int .i64 Clien52), (.bool Fin54), (.bool Has56), (Slc.v Data58)]) H rfl rfl agg_45 rfl ⟨hc47, hc49, hc51, hc53, hc55, hc57, hc59, trivial⟩ (lt_ rfl) fun a H => ?_
 refine s_call H rfl body_27 (H.args (vs := [(.pointer v2), (.agg #[(.int .i64 Kind46), (.string Key48), (.int .i64 Count50), (.int .i64 Clien52), (.bool Fin54), (.bool Has56), (Slc.v Data58)])]) rfl) (lt_ rfl) h ?_ (fun c w' h H => e_panic (P := PP) (fn := Tryd.f12) H h)
 clear H h a
 rintro _ w60 a ⟨Putr61, Putr62, rfl, h⟩ H
 refine s_move H rfl rfl (lt_ rfl) fun a H => s_ext H rfl rfl rfl (lt_ rfl) fun a H => s_ext H rfl rfl rfl (lt_ rfl) fun a H => s_assign H rfl rfl (lt_ rfl) fun a H => s_assign H rfl rfl (lt_ rfl) fun a H => c_nil <| hK45 _ _ <| c_seq fun K63 hK63 => c_reg <| s_move H rfl rfl (lt_ rfl) fun a H => ?_
 obtain ⟨Kind64, hc65, h⟩ := h
 obtain ⟨Key66, hc67, h⟩ := h
 obtain ⟨Count68, hc69, h⟩ := h
 obtain ⟨Clien70, hc71, h⟩ := h
 obtain ⟨Fin72, hc73, h⟩ := h
 obtain ⟨Has74, hc75, h⟩ := h
 obtain ⟨Data76, hc77, h⟩ := h
 refine s_loadN (l := [(.int .i64 Kind64), (.string Key66), (.int .i64 Count68), (.int .i64 Clien70), (.bool Fin72), (.bool Has74), (Slc.v Data76)]) H rfl rfl agg_45 rfl ⟨hc65, hc67, hc69, hc71, hc73, hc75, hc77, trivial⟩ (lt_ rfl) fun a H => ?_
 refine s_call H rfl body_19 (H.args (vs := [(.pointer w1), (.agg #[(.int .i64 Kind64), (.string Key66), (.int .i64 Count68), (.int .i64 Clien70), (.bool Fin72), (.bool Has74), (Slc.v Data76)])]) rfl) (lt_ rfl) h ?_ (fun c w' h H => e_panic (P := PP) (fn := Tryd.f12) H h)
 clear H h a
 rintro _ w78 a ⟨Putr79, Putr80, rfl, h⟩ H
 refine s_move H rfl rfl (lt_ rfl) fun a H => s_ext H rfl rfl rfl (lt_ rfl) fun a H => s_ext H rfl rfl rfl (lt_ rfl) fun a H => s_assign H rfl rfl (lt_ rfl) fun a H => s_assign H rfl rfl (lt_ rfl) fun a H => c_nil <| hK63 _ _ <| c_seq fun K81 hK81 => c_reg ?_
 iterate 3 refine s_move H rfl rfl (lt_ rfl) fun a H => ?_
 refine s_bin H rfl rfl rfl r_eql (lt_ rfl) fun a H => s_move H rfl rfl (lt_ rfl) fun a H => ?_
 obtain ⟨R84, h, hx131⟩ := h
 refine g_joinW (n := 63) R84 (fun x85 => [(47, (.bool x85)), (0, (.pointer w1)), (1, (.pointer v2)), (5, (.pointer (some (blk b11)))), (8, (Slc.v lent16)), (39, (Slc.v Putr79))]) (.succ (.succ (.succ (.succ (.zero _))))) ?_ ?_
 ·intro hr83
  clear hx131
  rcases Bool.eq_false_or_eq_true (decide (Putr80 = Putr62)) with hg82 | hg82
  ·replace H := H.ch (t := 43) (b := true) rfl hg82
   replace h := h.1 hg82
   refine s_move H (wantG H rfl rfl) rfl (lt_ rfl) fun a H => s_move H (wantG H rfl rfl) rfl (lt_ rfl) fun a H => s_call H (wantG H rfl rfl) body_10 (H.args (vs := [(Slc.v Putr79), (Slc.v Putr61)]) rfl) (lt_ rfl) h ?_ (fun c w' h H => e_panic (P := PP) (fn := Tryd.f12) H h)
   clear H h a
   rintro _ w87 a ⟨same88, rfl, h⟩ H
   refine s_pickT H rfl rfl rfl (lt_ rfl) fun a H => ?_
   exact hr83 _ _ _ h (H.weaken ⟨rfl, rfl, rfl, rfl, rfl, rfl, trivial⟩)
  ·replace H := H.ch (t := 43) (b := false) rfl hg82
   replace h := h.2 hg82
   iterate 3 refine s_skip H (wantN H rfl rfl rfl) rfl (lt_ rfl) fun a H => ?_
   refine s_pickF H rfl rfl rfl (lt_ rfl) fun a H => ?_
   exact hr83 _ _ _ h (H.weaken ⟨rfl, rfl, rfl, rfl, rfl, rfl, trivial⟩)
 ·clear H a h
  intro a x85 w86 h H
  replace h := hx131 x85 w86 h
  clear hx131
  refine s_move H rfl rfl (lt_ rfl) fun a H => ?_
  obtain ⟨R95, h, hx130⟩ := h
  refine g_joinW (n := 63) R95 (fun x96 => [(54, (.bool x96)), (5, (.pointer (some (blk b11)))), (8, (Slc.v lent16)), (39, (Slc.v Putr79))]) (.succ (.succ (.succ (.succ (.succ (.succ (.zero _))))))) ?_ ?_
  ·intro hr94
   clear hx130
   rcases Bool.eq_false_or_eq_true x85 with hg93 | hg93
   ·replace H := H.ch (t := 48) (b := true) rfl hg93
    replace h := h.1 hg93
    refine s_move H (wantG H rfl rfl) rfl (lt_ rfl) fun a H => s_call H (wantG H rfl rfl) body_20 (H.args (vs := [(.pointer w1)]) rfl) (lt_ rfl) h ?_ (fun c w' h H => e_panic (P := PP) (fn := Tryd.f12) H h)
    clear H h a
    rintro _ w98 a ⟨Count99, rfl, h⟩ H
    refine s_move H (wantG H rfl rfl) rfl (lt_ rfl) fun a H => s_call H (wantG H rfl rfl) body_28 (H.args (vs := [(.pointer v2)]) rfl) (lt_ rfl) h ?_ (fun c w' h H => e_panic (P := PP) (fn := Tryd.f12) H h)
    clear H h a
    rintro _ w100 a ⟨Count101, rfl, h⟩ H
    refine s_bin H (wantG H rfl rfl) rfl rfl r_eql (lt_ rfl) fun a H => s_pickT H rfl rfl rfl (lt_ rfl) fun a H => ?_
    exact hr94 _ _ _ h (H.weaken ⟨rfl, rfl, rfl, rfl, trivial⟩)
   ·replace H := H.ch (t := 48) (b := false) rfl hg93
    replace h := h.2 hg93
    iterate 5 refine s_skip H (wantN H rfl rfl rfl) rfl (lt_ rfl) fun a H => ?_
    refine s_pickF H rfl rfl rfl (lt_ rfl) fun a H => ?_
    exact hr94 _ _ _ h (H.weaken ⟨rfl, rfl, rfl, rfl, trivial⟩)
  ·clear H a h
   intro a x96 w97 h H
   replace h := hx130 x96 w97 h
   clear hx130
   refine s_move H rfl rfl (lt_ rfl) fun a H => ?_
   obtain ⟨R112, h, hx129⟩ := h
   refine g_joinW (n := 63) R112 (fun x113 => [(62, (.bool x113)), (39, (Slc.v Putr79))]) (.succ (.succ (.succ (.succ (.succ (.succ (.succ (.zero _)))))))) ?_ ?_
   ·intro hr111
    clear hx129
    rcases Bool.eq_false_or_eq_true x96 with hg110 | hg110
    ·replace H := H.ch (t := 55) (b := true) rfl hg110
     replace h := h.1 hg110
     refine s_move H (wantG H rfl rfl) rfl (lt_ rfl) fun a H => s_fld H (wantG H rfl rfl) rfl fld_45_2 (lt_ rfl) fun a H => s_fld H (wantG H rfl rfl) rfl fld_43_3 (lt_ rfl) fun a H => ?_
     obtain ⟨l115, hc116, h⟩ := h
     refine s_load (v := (Slc.v l115)) H (wantG H rfl rfl) rfl one_28 hc116 (lt_ rfl) fun a H => s_call H (wantG H rfl rfl) body_26 (H.args (vs := [(Slc.v l115)]) rfl) (lt_ rfl) h ?_ (fun c w' h H => e_panic (P := PP) (fn := Tryd.f12) H h)
     clear H h a
     rintro _ w117 a ⟨lent118, rfl, h⟩ H
     refine s_call H (wantG H rfl rfl) body_10 (H.args (vs := [(Slc.v lent16), (Slc.v lent118)]) rfl) (lt_ rfl) h ?_ (fun c w' h H => e_panic (P := PP) (fn := Tryd.f12) H h)
     clear H h a
     rintro _ w119 a ⟨same120, rfl, h⟩ H
     refine s_pickT H rfl rfl rfl (lt_ rfl) fun a H => ?_
     exact hr111 _ _ _ h (H.weaken ⟨rfl, rfl, trivial⟩)
    ·replace H := H.ch (t := 55) (b := false) rfl hg110
     replace h := h.2 hg110
     iterate 6 refine s_skip H (wantN H rfl rfl rfl) rfl (lt_ rfl) fun a H => ?_
     refine s_pickF H rfl rfl rfl (lt_ rfl) fun a H => ?_
     exact hr111 _ _ _ h (H.weaken ⟨rfl, rfl, trivial⟩)
   ·clear H a h
    intro a x113 w114 h H
    replace h := hx129 x113 w114 h
    clear hx129
    refine s_assign H rfl rfl (lt_ rfl) fun a H => s_assign H rfl rfl (lt_ rfl) fun a H => c_nil <| hK81 _ _ <| c_ret ?_
    exact e_ret2 H rfl rfl rfl h

set_option maxRecDepth 100000 in
set_option maxHeartbeats 4000000 in
theorem sim_sherdlaw11_apart (l1 : Slc) (w : World) (Q : Ending → World → Prop) (h : vc_sherdlaw11_apart l1 w Q) : Calls PP F_sherdlaw11_apart #[(Slc.v l1)] w Q := by
 unfold vc_sherdlaw11_apart at h
 refine enter (n := 111) (l := [(Slc.v l1)]) Tryd.func13 rfl rfl (Nat.le_of_ble_eq_true rfl) fun a H => ?_
 replace H : Has 111 [] a [(0, (Slc.v l1))] := H
 refine c_seq fun K2 hK2 => c_reg <| s_assign H rfl rfl (lt_ rfl) fun a H => c_nil <| hK2 _ _ <| c_seq fun K3 hK3 => c_seq fun K4 hK4 => c_reg <| s_assign H rfl rfl (lt_ rfl) fun a H => c_nil <| hK4 _ _ <| c_block ?_
 obtain ⟨I7, mu8, h0175, hl176⟩ := h
 refine c_loop (σ := Int) (fun z w => I7 z w) (fun z w => mu8 z w) (fun z => [(0, (Slc.v l1)), (3, (.int .i64 z))]) 0 h0175 (H.weaken ⟨rfl, rfl, trivial⟩) ?_
 clear H h0175
 rintro i5 a w6 h H
 replace h := hl176 i5 w6 h
 clear hl176
 replace H : Has 111 [] a [(0, (Slc.v l1)), (3, (.int .i64 i5))] := H
 refine c_seq fun K9 hK9 => c_seq fun K10 hK10 => c_reg <| s_move H rfl rfl (lt_ rfl) fun a H => s_move H rfl rfl (lt_ rfl) fun a H => s_blt H rfl (H.args (vs := [(Slc.v l1)]) rfl) (lt_ rfl) (fun cs => b_lenS (z := l1) sl_37) fun a H => s_bin H rfl rfl rfl r_lss (lt_ rfl) fun a H => c_nil <| hK10 _ _ <| c_cond H rfl (fun hb11 => ?_) (fun hb11 => ?_)
 ·replace h := h.1 hb11
  refine c_skip <| hK9 _ _ <| c_seq fun K12 hK12 => ?_
  obtain ⟨R13, h, hx46⟩ := h
  have hJ15 : ∀ (a : Act) (w14 : World), R13 w14 → Has 111 [] a [(0, (Slc.v l1)), (3, (.int .i64 i5))] → K12 a w14 := by
   clear h
   intro a w14 h H
   replace h := hx46 w14 h
   refine hK12 _ _ <| c_reg <| s_move H rfl rfl (lt_ rfl) fun a H => s_bin H rfl rfl rfl r_add (lt_ rfl) fun a H => s_assign H rfl rfl (lt_ rfl) fun a H => c_nil <| Exists.intro (wr .i64 (i5 + 1)) ⟨h.1, h.2, H.weaken ⟨rfl, rfl, trivial⟩⟩
  clear hx46
  refine c_block <| c_seq fun K16 hK16 => c_reg <| s_assign H rfl rfl (lt_ rfl) fun a H => c_nil <| hK16 _ _ <| c_block ?_
  obtain ⟨I19, mu20, h044, hl45⟩ := h
  refine c_loop (σ := Int) (fun z w => I19 z w) (fun z w => mu20 z w) (fun z => [(0, (Slc.v l1)), (3, (.int .i64 i5)), (4, (.int .i64 z))]) 0 h044 (H.weaken ⟨rfl, rfl, rfl, trivial⟩) ?_
  clear H h044
  rintro j17 a w18 h H
  replace h := hl45 j17 w18 h
  clear hl45
  replace H : Has 111 [] a [(0, (Slc.v l1)), (3, (.int .i64 i5)), (4, (.int .i64 j17))] := H
  refine c_seq fun K21 hK21 => c_seq fun K22 hK22 => c_reg ?_
  iterate 3 refine s_move H rfl rfl (lt_ rfl) fun a H => ?_
  obtain ⟨a23, hi24, hi25, hi26, h⟩ := h
  refine s_idxS (s := l1) H rfl rfl rfl slc_37 hi24 hi25 hi26 (lt_ rfl) fun a H => ?_
  obtain ⟨l27, hc28, h⟩ := h
  refine s_load (v := (Slc.v l27)) H rfl rfl one_28 hc28 (lt_ rfl) fun a H => s_blt H rfl (H.args (vs := [(Slc.v l27)]) rfl) (lt_ rfl) (fun cs => b_lenS (z := l27) sl_28) fun a H => s_bin H rfl rfl rfl r_lss (lt_ rfl) fun a H => c_nil <| hK22 _ _ <| c_cond H rfl (fun hb29 => ?_) (fun hb29 => ?_)
  ·replace h := h.1 hb29
   refine c_skip <| hK21 _ _ <| c_seq fun K30 hK30 => c_block <| c_reg <| s_move H rfl rfl (lt_ rfl) fun a H => s_move H rfl rfl (lt_ rfl) fun a H => ?_
   obtain ⟨a31, hi32, hi33, hi34, h⟩ := h
   refine s_idxS (s := l1) H rfl rfl rfl slc_37 hi32 hi33 hi34 (lt_ rfl) fun a H => ?_
   obtain ⟨l35, hc36, h⟩ := h
   refine s_load (v := (Slc.v l35)) H rfl rfl one_28 hc36 (lt_ rfl) fun a H => s_move H rfl rfl (lt_ rfl) fun a H => s_move H rfl rfl (lt_ rfl) fun a H => s_bin H rfl rfl rfl r_mul (lt_ rfl) fun a H => s_bin H rfl rfl rfl r_add (lt_ rfl) fun a H => s_cv H rfl rfl (r_cvI some_3 int_5) (lt_ rfl) fun a H => ?_
   obtain ⟨a37, hi38, hi39, hi40, h⟩ := h
   refine s_idxS (s := l35) H rfl rfl rfl slc_28 hi38 hi39 hi40 (lt_ rfl) fun a H => ?_
   obtain ⟨hs42, hf43, h⟩ := h
   refine s_sto (p := a37.add (Int.toNat (j17) * 1)) (v := (.int .u8 (wr .u8 (wr .i64 ((wr .i64 (i5 * 3)) + 1))))) H rfl rfl rfl rfl one_5 rfl hs42 hf43 ?_
   clear H
   intro H
   generalize hww41 : World.setCell w18 (a37.add (Int.toNat (j17) * 1)) (.int .u8 (wr .u8 (wr .i64 ((wr .i64 (i5 * 3)) + 1)))) = w41 at h ⊢
   have w41S : SetAt w18 (a37.add (Int.toNat (j17) * 1)) (.int .u8 (wr .u8 (wr .i64 ((wr .i64 (i5 * 3)) + 1)))) w41 := ⟨hww41.symm⟩
   clear hww41 hs42 hf43
   refine c_nil <| hK30 _ _ <| c_reg <| s_move H rfl rfl (lt_ rfl) fun a H => s_bin H rfl rfl rfl r_add (lt_ rfl) fun a H => s_assign H rfl rfl (lt_ rfl) fun a H => c_nil <| Exists.intro (wr .i64 (j17 + 1)) ⟨h.1, h.2, H.weaken ⟨rfl, rfl, rfl, trivial⟩⟩
  ·replace h := h.2 hb29
   refine c_exit ?_
   first | (simp only [Exit.then, Exit.inBlock, ↓reduceIte]; fail_if_success simp only [Nat.reduceEqDiff]) | simp only [Exit.then, Exit.inBlock, ↓reduceIte, Nat.reduceEqDiff]
   exact hJ15 _ _ h (H.weaken ⟨rfl, rfl, trivial⟩)
 ·replace h := h.2 hb11
  refine c_exit ?_
  first | (simp only [Exit.then, Exit.inBlock, ↓reduceIte]; fail_if_success simp only [Nat.reduceEqDiff]) | simp only [Exit.then, Exit.inBlock, ↓reduceIte, Nat.reduceEqDiff]
  refine hK3 _ _ <| c_seq fun K47 hK47 => c_reg <| s_assign H rfl rfl (lt_ rfl) fun a H => c_nil <| hK47 _ _ <| c_seq fun K48 hK48 => c_seq fun K49 hK49 => c_reg <| s_assign H rfl rfl (lt_ rfl) fun a H => c_nil <| hK49 _ _ <| c_block ?_
  obtain ⟨I53, mu54, h0173, hl174⟩ := h
  refine c_loop (σ := Slc × Int) (fun z w => I53 z.1 z.2 w) (fun z w => mu54 z.1 z.2 w) (fun z => [(0, (Slc.v l1)), (5, (Slc.v z.1)), (6, (.int .i64 z.2))]) (Slc.nil, 0) h0173 (H.weaken ⟨rfl, rfl, rfl, trivial⟩) ?_
  clear H h0173
  rintro ⟨more50, i51⟩ a w52 h H
  replace h := hl174 more50 i51 w52 h
  clear hl174
  replace H : Has 111 [] a [(0, (Slc.v l1)), (5, (Slc.v more50)), (6, (.int .i64 i51))] := H
  refine c_seq fun K55 hK55 => c_seq fun K56 hK56 => c_reg <| s_move H rfl rfl (lt_ rfl) fun a H => s_move H rfl rfl (lt_ rfl) fun a H => s_blt H rfl (H.args (vs := [(Slc.v l1)]) rfl) (lt_ rfl) (fun cs => b_lenS (z := l1) sl_37) fun a H => s_bin H rfl rfl rfl r_lss (lt_ rfl) fun a H => c_nil <| hK56 _ _ <| c_cond H rfl (fun hb57 => ?_) (fun hb57 => ?_)
  ·replace h := h.1 hb57
   refine c_skip <| hK55 _ _ <| c_seq fun K58 hK58 => ?_
   obtain ⟨R60, h, hx95⟩ := h
   have hJ62 : ∀ (a : Act) (more59 : Slc) (w61 : World), R60 more59 w61 → Has 111 [] a [(0, (Slc.v l1)), (5, (Slc.v more59)), (6, (.int .i64 i51))] → K58 a w61 := by
    clear h
    intro a more59 w61 h H
    replace h := hx95 more59 w61 h
    refine hK58 _ _ <| c_reg <| s_move H rfl rfl (lt_ rfl) fun a H => s_bin H rfl rfl rfl r_add (lt_ rfl) fun a H => s_assign H rfl rfl (lt_ rfl) fun a H => c_nil <| Exists.intro (more59, wr .i64 (i51 + 1)) ⟨h.1, h.2, H.weaken ⟨rfl, rfl, rfl, trivial⟩⟩
   clear hx95
   refine c_block <| c_seq fun K63 hK63 => c_reg <| s_move H rfl rfl (lt_ rfl) fun a H => s_move H rfl rfl (lt_ rfl) fun a H => ?_
   obtain ⟨a64, hi65, hi66, hi67, h⟩ := h
   refine s_idxS (s := l1) H rfl rfl rfl slc_37 hi65 hi66 hi67 (lt_ rfl) fun a H => ?_
   obtain ⟨l68, hc69, h⟩ := h
   refine s_load (v := (Slc.v l68)) H rfl rfl one_28 hc69 (lt_ rfl) fun a H => s_assign H rfl rfl (lt_ rfl) fun a H => c_nil <| hK63 _ _ <| c_seq fun K70 hK70 => c_seq fun K71 hK71 => c_reg <| s_assign H rfl rfl (lt_ rfl) fun a H => c_nil <| hK71 _ _ <| c_block ?_
   obtain ⟨I75, mu76, h093, hl94⟩ := h
   refine c_loop (σ := Slc × Int) (fun z w => I75 z.1 z.2 w) (fun z w => mu76 z.1 z.2 w) (fun z => [(0, (Slc.v l1)), (5, (Slc.v more50)), (6, (.int .i64 i51)), (7, (Slc.v z.1)), (8, (.int .i64 z.2))]) (l68, 0) h093 (H.weaken ⟨rfl, rfl, rfl, rfl, rfl, trivial⟩) ?_
   clear H h093
   rintro ⟨x72, k73⟩ a w74 h H
   replace h := hl94 x72 k73 w74 h
   clear hl94
   replace H : Has 111 [] a [(0, (Slc.v l1)), (5, (Slc.v more50)), (6, (.int .i64 i51)), (7, (Slc.v x72)), (8, (.int .i64 k73))] := H
   refine c_seq fun K77 hK77 => c_seq fun K78 hK78 => c_reg <| s_move H rfl rfl (lt_ rfl) fun a H => s_bin H rfl rfl rfl r_lss (lt_ rfl) fun a H => c_nil <| hK78 _ _ <| c_cond H rfl (fun hb79 => ?_) (fun hb79 => ?_)
   ·replace h := h.1 hb79
    refine c_skip <| hK77 _ _ <| c_seq fun K80 hK80 => c_block <| c_reg <| s_move H rfl rfl (lt_ rfl) fun a H => s_move H rfl rfl (lt_ rfl) fun a H => s_bin H rfl rfl rfl r_mul (lt_ rfl) fun a H => s_bin H rfl rfl rfl r_add (lt_ rfl) fun a H => s_cv H rfl rfl (r_cvI some_3 int_5) (lt_ rfl) fun a H => ?_
    replace h := h.get
    obtain ⟨b81, w82, nb83, h⟩ := h
    refine s_bslc H rfl (by rw [H.parts (vs := [(0, (.int .u8 (wr .u8 (wr .i64 ((wr .i64 (i51 * 3)) + 1)))))]) rfl]; exact bs_28_1_iu80 w74 (wr .u8 (wr .i64 ((wr .i64 (i51 * 3)) + 1)))) (lt_ rfl) ?_
    rw [← nb83.at_]
    clear H a
    intro a H
    refine nb83.go ?_
    obtain ⟨s84, w85, hq86, h⟩ := h
    refine s_blt H rfl (H.args (vs := [(Slc.v x72), (Slc.v (Slc.mk (some (blk b81)) 1 1))]) rfl) (lt_ rfl) (fun cs => b_app (z := s84) hq86) ?_
    clear H a hq86
    intro a H
    refine s_assign H rfl rfl (lt_ rfl) fun a H => c_nil <| hK80 _ _ <| c_reg <| s_move H rfl rfl (lt_ rfl) fun a H => s_bin H rfl rfl rfl r_add (lt_ rfl) fun a H => s_assign H rfl rfl (lt_ rfl) fun a H => c_nil <| Exists.intro (s84, wr .i64 (k73 + 1)) ⟨h.1, h.2, H.weaken ⟨rfl, rfl, rfl, rfl, rfl, trivial⟩⟩
   ·replace h := h.2 hb79
    refine c_exit ?_
    first | (simp only [Exit.then, Exit.inBlock, ↓reduceIte]; fail_if_success simp only [Nat.reduceEqDiff]) | simp only [Exit.then, Exit.inBlock, ↓reduceIte, Nat.reduceEqDiff]
    refine hK70 _ _ <| c_reg <| s_move H rfl rfl (lt_ rfl) fun a H => s_move H rfl rfl (lt_ rfl) fun a H => ?_
    replace h := h.get
    obtain ⟨b87, w88, nb89, h⟩ := h
    refine s_bslc H rfl (by rw [H.parts (vs := [(0, (Slc.v x72))]) rfl]; exact bs_37_1_s0 w74 x72) (lt_ rfl) ?_
    rw [← nb89.at_]
    clear H a
    intro a H
    refine nb89.go ?_
    obtain ⟨s90, w91, hq92, h⟩ := h
    refine s_blt H rfl (H.args (vs := [(Slc.v more50), (Slc.v (Slc.mk (some (blk b87)) 1 1))]) rfl) (lt_ rfl) (fun cs => b_app (z := s90) hq92) ?_
    clear H a hq92
    intro a H
    refine s_assign H rfl rfl (lt_ rfl) fun a H => c_nil ?_
    exact hJ62 _ _ _ h (H.weaken ⟨rfl, rfl, rfl, trivial⟩)
  ·replace h := h.2 hb57
   refine c_exit ?_
   first | (simp only [Exit.then, Exit.inBlock, ↓reduceIte]; fail_if_success simp only [Nat.reduceEqDiff]) | simp only [Exit.then, Exit.inBlock, ↓reduceIte, Nat.reduceEqDiff]
   refine hK48 _ _ <| c_seq fun K96 hK96 => c_seq fun K97 hK97 => c_reg <| s_assign H rfl rfl (lt_ rfl) fun a H => c_nil <| hK97 _ _ <| c_block ?_
   obtain ⟨I100, mu101, h0171, hl172⟩ := h
   refine c_loop (σ := Int) (fun z w => I100 z w) (fun z w => mu101 z w) (fun z => [(0, (Slc.v l1)), (5, (Slc.v more50)), (9, (.int .i64 z))]) 0 h0171 (H.weaken ⟨rfl, rfl, rfl, trivial⟩) ?_
   clear H h0171
   rintro i98 a w99 h H
   replace h := hl172 i98 w99 h
   clear hl172
   replace H : Has 111 [] a [(0, (Slc.v l1)), (5, (Slc.v more50)), (9, (.int .i64 i98))] := H
   refine c_seq fun K102 hK102 => c_seq fun K103 hK103 => c_reg <| s_move H rfl rfl (lt_ rfl) fun a H => s_move H rfl rfl (lt_ rfl) fun a H => s_blt H rfl (H.args (vs := [(Slc.v l1)]) rfl) (lt_ rfl) (fun cs => b_lenS (z := l1) sl_37) fun a H => s_bin H rfl rfl rfl r_lss (lt_ rfl) fun a H => c_nil <| hK103 _ _ <| c_cond H rfl (fun hb104 => ?_) (fun hb104 => ?_)
   ·replace h := h.1 hb104
    refine c_skip <| hK102 _ _ <| c_seq fun K105 hK105 => ?_
    obtain ⟨R106, h, hx169⟩ := h
    have hJ108 : ∀ (a : Act) (w107 : World), R106 w107 → Has 111 [] a [(0, (Slc.v l1)), (5, (Slc.v more50)), (9, (.int .i64 i98))] → K105 a w107 := by
     clear h
     intro a w107 h H
     replace h := hx169 w107 h
     refine hK105 _ _ <| c_reg <| s_move H rfl rfl (lt_ rfl) fun a H => s_bin H rfl rfl rfl r_add (lt_ rfl) fun a H => s_assign H rfl rfl (lt_ rfl) fun a H => c_nil <| Exists.intro (wr .i64 (i98 + 1)) ⟨h.1, h.2, H.weaken ⟨rfl, rfl, rfl, trivial⟩⟩
    clear hx169
    refine c_block <| c_seq fun K109 hK109 => c_reg <| s_assign H rfl rfl (lt_ rfl) fun a H => c_nil <| hK109 _ _ <| c_block ?_
    obtain ⟨I112, mu113, h0167, hl168⟩ := h
    refine c_loop (σ := Int) (fun z w => I112 z w) (fun z w => mu113 z w) (fun z => [(0, (Slc.v l1)), (5, (Slc.v more50)), (9, (.int .i64 i98)), (10, (.int .i64 z))]) 0 h0167 (H.weaken ⟨rfl, rfl, rfl, rfl, trivial⟩) ?_
    clear H h0167
    rintro j110 a w111 h H
    replace h := hl168 j110 w111 h
    clear hl168
    replace H : Has 111 [] a [(0, (Slc.v l1)), (5, (Slc.v more50)), (9, (.int .i64 i98)), (10, (.int .i64 j110))] := H
    refine c_seq fun K114 hK114 => c_seq fun K115 hK115 => c_reg ?_
    iterate 3 refine s_move H rfl rfl (lt_ rfl) fun a H => ?_
    obtain ⟨a116, hi117, hi118, hi119, h⟩ := h
    refine s_idxS (s := more50) H rfl rfl rfl slc_37 hi117 hi118 hi119 (lt_ rfl) fun a H => ?_
    obtain ⟨l120, hc121, h⟩ := h
    refine s_load (v := (Slc.v l120)) H rfl rfl one_28 hc121 (lt_ rfl) fun a H => s_blt H rfl (H.args (vs := [(Slc.v l120)]) rfl) (lt_ rfl) (fun cs => b_lenS (z := l120) sl_28) fun a H => s_bin H rfl rfl rfl r_lss (lt_ rfl) fun a H => c_nil <| hK115 _ _ <| c_cond H rfl (fun hb122 => ?_) (fun hb122 => ?_)
    ·replace h := h.1 hb122
     refine c_skip <| hK114 _ _ <| c_seq fun K123 hK123 => c_block <| c_seq fun K124 hK124 => c_reg <| s_move H rfl rfl (lt_ rfl) fun a H => s_move H rfl rfl (lt_ rfl) fun a H => ?_
     obtain ⟨a125, hi126, hi127, hi128, h⟩ := h
     refine s_idxS (s := more50) H rfl rfl rfl slc_37 hi126 hi127 hi128 (lt_ rfl) fun a H => ?_
     obtain ⟨l129, hc130, h⟩ := h
     refine s_load (v := (Slc.v l129)) H rfl rfl one_28 hc130 (lt_ rfl) fun a H => s_move H rfl rfl (lt_ rfl) fun a H => ?_
     obtain ⟨a131, hi132, hi133, hi134, h⟩ := h
     refine s_idxS (s := l129) H rfl rfl rfl slc_28 hi132 hi133 hi134 (lt_ rfl) fun a H => ?_
     obtain ⟨l135, hc136, h⟩ := h
     refine s_load (v := (.int .u8 l135)) H rfl rfl one_5 hc136 (lt_ rfl) fun a H => s_move H rfl rfl (lt_ rfl) fun a H => s_bin H rfl rfl rfl r_mul (lt_ rfl) fun a H => s_bin H rfl rfl rfl r_add (lt_ rfl) fun a H => s_cv H rfl rfl (r_cvI some_3 int_5) (lt_ rfl) fun a H => s_bin H rfl rfl rfl r_neq (lt_ rfl) fun a H => s_move H rfl rfl (lt_ rfl) fun a H => ?_
     obtain ⟨x162, hy163, hn164, h⟩ := h
     refine g_join (n := 111) [(110, (.bool x162)), (0, (Slc.v l1)), (5, (Slc.v more50)), (9, (.int .i64 i98)), (10, (.int .i64 j110))] (.succ (.succ (.succ (.succ (.succ (.succ (.succ (.succ (.succ (.succ (.succ (.succ (.succ (.succ (.succ (.succ (.succ (.succ (.succ (.succ (.succ (.succ (.zero _))))))))))))))))))))))) ?_ ?_
     ·intro hr138
      try clear h
      rcases Bool.eq_false_or_eq_true (decide (l135 ≠ (wr .u8 (wr .i64 ((wr .i64 (i98 * 3)) + 1))))) with hg137 | hg137
      ·replace H := H.ch (t := 88) (b := true) rfl hg137
       iterate 8 refine s_skip H (wantN H rfl rfl rfl) rfl (lt_ rfl) fun a H => ?_
       iterate 12 refine s_skip H (wantU H rfl rfl) rfl (lt_ rfl) fun a H => ?_
       refine s_skip H (wantN H rfl rfl rfl) rfl (lt_ rfl) fun a H => s_pickT H rfl rfl rfl (lt_ rfl) fun a H => ?_
       replace h := hn164 hg137
       subst h
       exact hr138 _ (H.weaken ⟨rfl, rfl, rfl, rfl, rfl, trivial⟩)
      ·replace H := H.ch (t := 88) (b := false) rfl hg137
       replace h := hy163 hg137
       iterate 3 refine s_move H (wantG H rfl rfl) rfl (lt_ rfl) fun a H => ?_
       obtain ⟨a139, hi140, hi141, hi142, h⟩ := h
       refine s_idxS (s := l1) H (wantG H rfl rfl) rfl rfl slc_37 hi140 hi141 hi142 (lt_ rfl) fun a H => ?_
       obtain ⟨l143, hc144, h⟩ := h
       refine s_load (v := (Slc.v l143)) H (wantG H rfl rfl) rfl one_28 hc144 (lt_ rfl) fun a H => s_blt H (wantG H rfl rfl) (H.args (vs := [(Slc.v l143)]) rfl) (lt_ rfl) (fun cs => b_lenS (z := l143) sl_28) fun a H => s_bin H (wantG H rfl rfl) rfl rfl r_lss (lt_ rfl) fun a H => s_move H (wantG H rfl rfl) rfl (lt_ rfl) fun a H => ?_
       obtain ⟨x159, hy160, hn161, h⟩ := h
       refine g_join (n := 111) [(109, (.bool x159)), (0, (Slc.v l1)), (5, (Slc.v more50)), (9, (.int .i64 i98)), (10, (.int .i64 j110)), (88, (.bool false))] (.succ (.succ (.succ (.succ (.succ (.succ (.succ (.succ (.succ (.succ (.succ (.succ (.succ (.zero _)))))))))))))) ?_ ?_
       ·intro hr146
        try clear h
        rcases Bool.eq_false_or_eq_true (decide (j110 < (l143.l : Int))) with hg145 | hg145
        ·replace H := H.ch (t := 96) (b := true) rfl hg145
         replace h := hy160 hg145
         refine s_move H (wantG H rfl rfl) rfl (lt_ rfl) fun a H => s_move H (wantG H rfl rfl) rfl (lt_ rfl) fun a H => ?_
         obtain ⟨a147, hi148, hi149, hi150, h⟩ := h
         refine s_idxS (s := l1) H (wantG H rfl rfl) rfl rfl slc_37 hi148 hi149 hi150 (lt_ rfl) fun a H => ?_
         obtain ⟨l151, hc152, h⟩ := h
         refine s_load (v := (Slc.v l151)) H (wantG H rfl rfl) rfl one_28 hc152 (lt_ rfl) fun a H => s_move H (wantG H rfl rfl) rfl (lt_ rfl) fun a H => ?_
         obtain ⟨a153, hi154, hi155, hi156, h⟩ := h
         refine s_idxS (s := l151) H (wantG H rfl rfl) rfl rfl slc_28 hi154 hi155 hi156 (lt_ rfl) fun a H => ?_
         obtain ⟨l157, hc158, h⟩ := h
         refine s_load (v := (.int .u8 l157)) H (wantG H rfl rfl) rfl one_5 hc158 (lt_ rfl) fun a H => s_move H (wantG H rfl rfl) rfl (lt_ rfl) fun a H => s_bin H (wantG H rfl rfl) rfl rfl r_mul (lt_ rfl) fun a H => s_bin H (wantG H rfl rfl) rfl rfl r_add (lt_ rfl) fun a H => s_cv H (wantG H rfl rfl) rfl (r_cvI some_3 int_5) (lt_ rfl) fun a H => s_bin H (wantG H rfl rfl) rfl rfl r_neq (lt_ rfl) fun a H => s_pickT H (wantG H rfl rfl) rfl rfl (lt_ rfl) fun a H => ?_
         subst h
         exact hr146 _ (H.weaken ⟨rfl, rfl, rfl, rfl, rfl, rfl, trivial⟩)
        ·replace H := H.ch (t := 96) (b := false) rfl hg145
         iterate 12 refine s_skip H (wantN H rfl rfl rfl) rfl (lt_ rfl) fun a H => ?_
         refine s_pickF H (wantG H rfl rfl) rfl rfl (lt_ rfl) fun a H => ?_
         replace h := hn161 hg145
         subst h
         exact hr146 _ (H.weaken ⟨rfl, rfl, rfl, rfl, rfl, rfl, trivial⟩)
       ·clear H a
        clear hy160 hn161
        intro a H
        refine s_pickF H rfl rfl rfl (lt_ rfl) fun a H => ?_
        subst h
        exact hr138 _ (H.weaken ⟨rfl, rfl, rfl, rfl, rfl, trivial⟩)
     ·clear H a
      clear hy163 hn164
      intro a H
      refine c_nil <| hK124 _ _ <| c_cond H rfl (fun hb165 => ?_) (fun hb165 => ?_)
      ·replace h := h.1 hb165
       refine c_seq fun K166 hK166 => c_reg <| s_assign H rfl rfl (lt_ rfl) fun a H => c_nil <| hK166 _ _ <| c_ret ?_
       exact e_ret1 H rfl rfl h
      ·replace h := h.2 hb165
       refine c_skip <| hK123 _ _ <| c_reg <| s_move H rfl rfl (lt_ rfl) fun a H => s_bin H rfl rfl rfl r_add (lt_ rfl) fun a H => s_assign H rfl rfl (lt_ rfl) fun a H => c_nil <| Exists.intro (wr .i64 (j110 + 1)) ⟨h.1, h.2, H.weaken ⟨rfl, rfl, rfl, rfl, trivial⟩⟩
    ·replace h := h.2 hb122
     refine c_exit ?_
     first | (simp only [Exit.then, Exit.inBlock, ↓reduceIte]; fail_if_success simp only [Nat.reduceEqDiff]) | simp only [Exit.then, Exit.inBlock, ↓reduceIte, Nat.reduceEqDiff]
     exact hJ108 _ _ h (H.weaken ⟨rfl, rfl, rfl, trivial⟩)
   ·replace h := h.2 hb104
    refine c_exit ?_
    first | (simp only [Exit.then, Exit.inBlock, ↓reduceIte]; fail_if_success simp only [Nat.reduceEqDiff]) | simp only [Exit.then, Exit.inBlock, ↓reduceIte, Nat.reduceEqDiff]
    refine hK96 _ _ <| c_seq fun K170 hK170 => c_reg <| s_assign H rfl rfl (lt_ rfl) fun a H => c_nil <| hK170 _ _ <| c_ret ?_
    exact e_ret1 H rfl rfl h

set_option maxRecDepth 100000 in
set_option maxHeartbeats 4000000 in
theorem sim_sherdlaw11_written (N1 : Int) (K2 : Int) (Delta3 : Int) (Serve4 : Int) (Updat5 : Slc) (w : World) (Q : Ending → World → Prop) (h : vc_sherdlaw11_written N1 K2 Delta3 Serve4 Updat5 w Q) : Calls PP F_sherdlaw11_written #[(.agg #[(.int .i64 N1), (.int .i64 K2), (.int .i64 Delta3), (.int .i64 Serve4), (Slc.v Updat5)])] w Q := by
 unfold vc_sherdlaw11_written at h
 refine enter (n := 109) (l := [(.agg #[(.int .i64 N1), (.int .i64 K2), (.int .i64 Delta3), (.int .i64 Serve4), (Slc.v Updat5)])]) Tryd.func14 rfl rfl (Nat.le_of_ble_eq_true rfl) fun a H => ?_
 replace H : Has 109 [] a [(0, (.agg #[(.int .i64 N1), (.int .i64 K2), (.int .i64 Delta3), (.int .i64 Serve4), (Slc.v Updat5)]))] := H
 refine c_seq fun K6 hK6 => c_reg ?_
 replace h := h.get
 obtain ⟨b7, w8, nb9, h⟩ := h
 refine s_box H rfl rfl (lt_ rfl) ?_
 rw [← nb9.at_]
 clear H a
 intro a H
 refine nb9.go ?_
 replace h := h.get
 obtain ⟨b10, w11, nb12, h⟩ := h
 refine s_alloc H rfl zero_25 (lt_ rfl) ?_
 rw [← nb12.at_]
 clear H a
 intro a H
 refine nb12.go ?_
 iterate 4 refine s_assign H rfl rfl (lt_ rfl) fun a H => ?_
 refine c_nil <| hK6 _ _ <| c_seq fun K13 hK13 => c_reg <| s_build H rfl (by rw [H.parts (vs := []) rfl]; exact bd_25 w11) (lt_ rfl) fun a H => ?_
 replace h := h.get
 obtain ⟨b14, w15, nb16, h⟩ := h
 refine s_alloc H rfl zero_25 (lt_ rfl) ?_
 rw [← nb16.at_]
 clear H a
 intro a H
 refine nb16.go <| s_stoN (l := [(.int .i64 0), (.int .i64 0), (.int .i64 0), (.int .i64 0)]) H rfl rfl rfl rfl agg_25 rfl rfl h ?_
 clear h H
 intro w17 h H
 refine c_nil <| hK13 _ _ <| c_seq fun K18 hK18 => c_reg <| s_fld H rfl rfl fld_49_0 (lt_ rfl) fun a H => ?_
 obtain ⟨l19, hc20, h⟩ := h
 refine s_load (v := (.int .i64 l19)) H rfl rfl one_3 hc20 (lt_ rfl) fun a H => s_call H rfl body_15 (H.args (vs := [(.int .i64 l19), (.int .i64 255)]) rfl) (lt_ rfl) h ?_ (fun c w' h H => e_panic (P := PP) (fn := Tryd.f14) H h)
 clear H h a
 rintro _ w21 a ⟨mod22, rfl, h⟩ H
 refine s_bin H rfl rfl rfl r_add (lt_ rfl) fun a H => s_fld H rfl rfl fld_25_0 (lt_ rfl) fun a H => s_fld H rfl rfl fld_23_0 (lt_ rfl) fun a H => ?_
 obtain ⟨hs24, hf25, h⟩ := h
 refine s_sto (p := ((blk b14).add 0).add 0) (v := (.int .i64 (wr .i64 (mod22 + 1)))) H rfl rfl rfl rfl one_3 rfl hs24 hf25 ?_
 clear H
 intro H
 generalize hww23 : World.setCell w21 (((blk b14).add 0).add 0) (.int .i64 (wr .i64 (mod22 + 1))) = w23 at h ⊢
 have w23S : SetAt w21 (((blk b14).add 0).add 0) (.int .i64 (wr .i64 (mod22 + 1))) w23 := ⟨hww23.symm⟩
 clear hww23 hs24 hf25
 refine c_nil <| hK18 _ _ <| c_seq fun K26 hK26 => c_reg <| s_fld H rfl rfl fld_49_1 (lt_ rfl) fun a H => ?_
 obtain ⟨l27, hc28, h⟩ := h
 refine s_load (v := (.int .i64 l27)) H rfl rfl one_3 hc28 (lt_ rfl) fun a H => s_fld H rfl rfl fld_25_0 (lt_ rfl) fun a H => s_fld H rfl rfl fld_23_0 (lt_ rfl) fun a H => ?_
 obtain ⟨l29, hc30, h⟩ := h
 refine s_load (v := (.int .i64 l29)) H rfl rfl one_3 hc30 (lt_ rfl) fun a H => s_call H rfl body_15 (H.args (vs := [(.int .i64 l27), (.int .i64 l29)]) rfl) (lt_ rfl) h ?_ (fun c w' h H => e_panic (P := PP) (fn := Tryd.f14) H h)
 clear H h a
 rintro _ w31 a ⟨mod32, rfl, h⟩ H
 refine s_bin H rfl rfl rfl r_add (lt_ rfl) fun a H => s_fld H rfl rfl fld_25_0 (lt_ rfl) fun a H => s_fld H rfl rfl fld_23_1 (lt_ rfl) fun a H => ?_
 obtain ⟨hs34, hf35, h⟩ := h
 refine s_sto (p := ((blk b14).add 0).add 1) (v := (.int .i64 (wr .i64 (mod32 + 1)))) H rfl rfl rfl rfl one_3 rfl hs34 hf35 ?_
 clear H
 intro H
 generalize hww33 : World.setCell w31 (((blk b14).add 0).add 1) (.int .i64 (wr .i64 (mod32 + 1))) = w33 at h ⊢
 have w33S : SetAt w31 (((blk b14).add 0).add 1) (.int .i64 (wr .i64 (mod32 + 1))) w33 := ⟨hww33.symm⟩
 clear hww33 hs34 hf35
 refine c_nil <| hK26 _ _ <| c_seq fun K36 hK36 => c_reg <| s_fld H rfl rfl fld_49_2 (lt_ rfl) fun a H => ?_
 obtain ⟨l37, hc38, h⟩ := h
 refine s_load (v := (.int .i64 l37)) H rfl rfl one_3 hc38 (lt_ rfl) fun a H => s_blt H rfl (H.args (vs := [(.int .i64 0), (.int .i64 l37)]) rfl) (lt_ rfl) (fun cs => b_max) fun a H => s_bin H rfl rfl rfl (r_rem (by decide)) (lt_ rfl) fun a H => s_fld H rfl rfl fld_25_0 (lt_ rfl) fun a H => s_fld H rfl rfl fld_23_2 (lt_ rfl) fun a H => ?_
 obtain ⟨hs40, hf41, h⟩ := h
 refine s_sto (p := ((blk b14).add 0).add 2) (v := (.int .i64 ((maxI 0 l37).tmod 4611686018427387904))) H rfl rfl rfl rfl one_3 rfl hs40 hf41 ?_
 clear H
 intro H
 generalize hww39 : World.setCell w33 (((blk b14).add 0).add 2) (.int .i64 ((maxI 0 l37).tmod 4611686018427387904)) = w39 at h ⊢
 have w39S : SetAt w33 (((blk b14).add 0).add 2) (.int .i64 ((maxI 0 l37).tmod 4611686018427387904)) w39 := ⟨hww39.symm⟩
 clear hww39 hs40 hf41
 refine c_nil <| hK36 _ _ <| c_seq fun K42 hK42 => c_reg <| s_fld H rfl rfl fld_49_3 (lt_ rfl) fun a H => ?_
 obtain ⟨l43, hc44, h⟩ := h
 refine s_load (v := (.int .i64 l43)) H rfl rfl one_3 hc44 (lt_ rfl) fun a H => s_fld H rfl rfl fld_25_0 (lt_ rfl) fun a H => s_fld H rfl rfl fld_23_0 (lt_ rfl) fun a H => ?_
 obtain ⟨l45, hc46, h⟩ := h
 refine s_load (v := (.int .i64 l45)) H rfl rfl one_3 hc46 (lt_ rfl) fun a H => s_call H rfl body_15 (H.args (vs := [(.int .i64 l43), (.int .i64 l45)]) rfl) (lt_ rfl) h ?_ (fun c w' h H => e_panic (P := PP) (fn := Tryd.f14) H h)
 clear H h a
 rintro _ w47 a ⟨mod48, rfl, h⟩ H
 refine s_fld H rfl rfl fld_25_1 (lt_ rfl) fun a H => ?_
 obtain ⟨hs50, hf51, h⟩ := h
 refine s_sto (p := (blk b14).add 3) (v := (.int .i64 mod48)) H rfl rfl rfl rfl one_3 rfl hs50 hf51 ?_
 clear H
 intro H
 generalize hww49 : World.setCell w47 ((blk b14).add 3) (.int .i64 mod48) = w49 at h ⊢
 have w49S : SetAt w47 ((blk b14).add 3) (.int .i64 mod48) w49 := ⟨hww49.symm⟩
 clear hww49 hs50 hf51
 refine c_nil <| hK42 _ _ <| c_seq fun K52 hK52 => c_reg ?_
 obtain ⟨N53, hc54, h⟩ := h
 obtain ⟨K55, hc56, h⟩ := h
 obtain ⟨Delta57, hc58, h⟩ := h
 obtain ⟨Serve59, hc60, h⟩ := h
 refine s_loadN (l := [(.int .i64 N53), (.int .i64 K55), (.int .i64 Delta57), (.int .i64 Serve59)]) H rfl rfl agg_25 rfl ⟨hc54, hc56, hc58, hc60, trivial⟩ (lt_ rfl) fun a H => s_call H rfl body_9 (H.args (vs := [(.agg #[(.int .i64 N53), (.int .i64 K55), (.int .i64 Delta57), (.int .i64 Serve59)])]) rfl) (lt_ rfl) h ?_ (fun c w' h H => e_panic (P := PP) (fn := Tryd.f14) H h)
 clear H h a
 rintro _ w61 a ⟨Newr62, Newr63, Newr64, rfl, h⟩ H
 refine s_move H rfl rfl (lt_ rfl) fun a H => ?_
 iterate 3 refine s_ext H rfl rfl rfl (lt_ rfl) fun a H => ?_
 iterate 3 refine s_assign H rfl rfl (lt_ rfl) fun a H => ?_
 refine c_nil <| hK52 _ _ <| c_seq fun K65 hK65 => c_seq fun K66 hK66 => c_reg <| s_move H rfl rfl (lt_ rfl) fun a H => s_bin H rfl rfl rfl (r_eqP0 ptr_32) (lt_ rfl) fun a H => s_move H rfl rfl (lt_ rfl) fun a H => g_join (n := 109) [(56, (.bool (Newr62.isNone || (decide (Newr64 ≠ 0))))), (1, (.pointer (some (blk b7)))), (2, (.pointer (some (blk b10)))), (7, (.pointer (some (blk b14)))), (8, (.pointer Newr62)), (9, (Slc.v Newr63))] (.succ (.succ (.succ (.zero _)))) ?_ ?_
 ·intro hr68
  try clear h
  rcases Bool.eq_false_or_eq_true Newr62.isNone with hg67 | hg67
  ·replace H := H.ch (t := 53) (b := true) rfl hg67
   refine s_skip H (wantN H rfl rfl rfl) rfl (lt_ rfl) fun a H => s_skip H (wantN H rfl rfl rfl) rfl (lt_ rfl) fun a H => s_pickT H rfl rfl rfl (lt_ rfl) fun a H => ?_
   exact hr68 _ (H.weaken ⟨by rw [hg67]; rfl, rfl, rfl, rfl, rfl, rfl, trivial⟩)
  ·replace H := H.ch (t := 53) (b := false) rfl hg67
   refine s_move H (wantG H rfl rfl) rfl (lt_ rfl) fun a H => s_bin H (wantG H rfl rfl) rfl rfl r_neq (lt_ rfl) fun a H => s_pickF H rfl rfl rfl (lt_ rfl) fun a H => ?_
   exact hr68 _ (H.weaken ⟨by rw [hg67]; rfl, rfl, rfl, rfl, rfl, rfl, trivial⟩)
 ·clear H a
  intro a H
  refine s_move H rfl rfl (lt_ rfl) fun a H => g_join (n := 109) [(61, (.bool ((Newr62.isNone || (decide (Newr64 ≠ 0))) || (decide ((Newr63.l : Int) < 9))))), (1, (.pointer (some (blk b7)))), (2, (.pointer (some (blk b10)))), (7, (.pointer (some (blk b14)))), (8, (.pointer Newr62)), (9, (Slc.v Newr63))] (.succ (.succ (.succ (.succ (.zero _))))) ?_ ?_
  ·intro hr70
   try clear h
   rcases Bool.eq_false_or_eq_true (Newr62.isNone || (decide (Newr64 ≠ 0))) with hg69 | hg69
   ·replace H := H.ch (t := 57) (b := true) rfl hg69
    iterate 3 refine s_skip H (wantN H rfl rfl rfl) rfl (lt_ rfl) fun a H => ?_
    refine s_pickT H rfl rfl rfl (lt_ rfl) fun a H => ?_
    exact hr70 _ (H.weaken ⟨by rw [hg69]; rfl, rfl, rfl, rfl, rfl, rfl, trivial⟩)
   ·replace H := H.ch (t := 57) (b := false) rfl hg69
    refine s_move H (wantG H rfl rfl) rfl (lt_ rfl) fun a H => s_blt H (wantG H rfl rfl) (H.args (vs := [(Slc.v Newr63)]) rfl) (lt_ rfl) (fun cs => b_lenS (z := Newr63) sl_28) fun a H => s_bin H (wantG H rfl rfl) rfl rfl r_lss (lt_ rfl) fun a H => s_pickF H rfl rfl rfl (lt_ rfl) fun a H => ?_
    exact hr70 _ (H.weaken ⟨by rw [hg69]; rfl, rfl, rfl, rfl, rfl, rfl, trivial⟩)
  ·clear H a
   intro a H
   refine c_nil <| hK66 _ _ <| c_cond H rfl (fun hb71 => ?_) (fun hb71 => ?_)
   ·replace h := h.1 hb71
    refine c_seq fun K72 hK72 => c_reg ?_
    obtain ⟨N73, hc74, h⟩ := h
    obtain ⟨K75, hc76, h⟩ := h
    obtain ⟨Delta77, hc78, h⟩ := h
    obtain ⟨Serve79, hc80, h⟩ := h
    refine s_loadN (l := [(.int .i64 N73), (.int .i64 K75), (.int .i64 Delta77), (.int .i64 Serve79)]) H rfl rfl agg_25 rfl ⟨hc74, hc76, hc78, hc80, trivial⟩ (lt_ rfl) fun a H => s_stoN (l := [(.int .i64 N73), (.int .i64 K75), (.int .i64 Delta77), (.int .i64 Serve79)]) H rfl rfl rfl rfl agg_25 rfl rfl h ?_
    clear h H
    intro w81 h H
    iterate 4 refine s_assign H rfl rfl (lt_ rfl) fun a H => ?_
    refine c_nil <| hK72 _ _ <| c_ret ?_
    obtain ⟨N82, hc83, h⟩ := h
    obtain ⟨K84, hc85, h⟩ := h
    obtain ⟨Delta86, hc87, h⟩ := h
    obtain ⟨Serve88, hc89, h⟩ := h
    exact e_ret5 H rfl ⟨_, rfl, run_loadN (l := [(.int .i64 N82), (.int .i64 K84), (.int .i64 Delta86), (.int .i64 Serve88)]) agg_25 rfl ⟨hc83, hc85, hc87, hc89, trivial⟩⟩ rfl rfl rfl rfl h
   ·replace h := h.2 hb71
    refine c_skip <| hK65 _ _ <| c_seq fun K90 hK90 => c_reg <| s_move H rfl rfl (lt_ rfl) fun a H => s_blt H rfl (H.args (vs := [(Slc.v Newr63)]) rfl) (lt_ rfl) (fun cs => b_lenS (z := Newr63) sl_28) fun a H => ?_
    replace h := h.get
    obtain ⟨b91, w92, nb93, h⟩ := h
    refine s_bslc H rfl (by rw [H.parts (vs := [(0, (.int .i64 (Newr63.l : Int)))]) rfl]; exact bs_50_1_ii640 w61 (Newr63.l : Int)) (lt_ rfl) ?_
    rw [← nb93.at_]
    clear H a
    intro a H
    refine nb93.go <| s_assign H rfl rfl (lt_ rfl) fun a H => c_nil <| hK90 _ _ <| c_seq fun K94 hK94 => c_reg <| s_assign H rfl rfl (lt_ rfl) fun a H => c_nil <| hK94 _ _ <| c_seq fun K95 hK95 => c_seq fun K96 hK96 => c_reg <| s_assign H rfl rfl (lt_ rfl) fun a H => c_nil <| hK96 _ _ <| c_block ?_
    obtain ⟨I102, mu103, h0220, hl221⟩ := h
    refine c_loop (σ := Slc × Slc × Slc × Int) (fun z w => I102 z.1 z.2.1 z.2.2.1 z.2.2.2 w) (fun z w => mu103 z.1 z.2.1 z.2.2.1 z.2.2.2 w) (fun z => [(1, (.pointer (some (blk b7)))), (2, (.pointer (some (blk b10)))), (7, (.pointer (some (blk b14)))), (8, (.pointer Newr62)), (9, (Slc.v z.1)), (11, (Slc.v z.2.1)), (12, (Slc.v z.2.2.1)), (13, (.int .i64 z.2.2.2))]) (Newr63, Slc.mk (some (blk b91)) 1 1, Slc.nil, 0) h0220 (H.weaken ⟨rfl, rfl, rfl, rfl, rfl, rfl, rfl, rfl, trivial⟩) ?_
    clear H h0220
    rintro ⟨all97, marks98, us99, i100⟩ a w101 h H
    replace h := hl221 all97 marks98 us99 i100 w101 h
    clear hl221
    replace H : Has 109 [] a [(1, (.pointer (some (blk b7)))), (2, (.pointer (some (blk b10)))), (7, (.pointer (some (blk b14)))), (8, (.pointer Newr62)), (9, (Slc.v all97)), (11, (Slc.v marks98)), (12, (Slc.v us99)), (13, (.int .i64 i100))] := H
    refine c_seq fun K104 hK104 => c_seq fun K105 hK105 => c_reg <| s_move H rfl rfl (lt_ rfl) fun a H => s_fld H rfl rfl fld_49_4 (lt_ rfl) fun a H => ?_
    obtain ⟨l106, hc107, h⟩ := h
    refine s_load (v := (Slc.v l106)) H rfl rfl one_26 hc107 (lt_ rfl) fun a H => s_blt H rfl (H.args (vs := [(Slc.v l106)]) rfl) (lt_ rfl) (fun cs => b_lenS (z := l106) sl_26) fun a H => s_bin H rfl rfl rfl r_lss (lt_ rfl) fun a H => c_nil <| hK105 _ _ <| c_cond H rfl (fun hb108 => ?_) (fun hb108 => ?_)
    ·replace h := h.1 hb108
     refine c_skip <| hK104 _ _ <| c_seq fun K109 hK109 => ?_
     obtain ⟨R113, h, hx201⟩ := h
     have hJ115 : ∀ (a : Act) (all110 : Slc) (marks111 : Slc) (us112 : Slc) (w114 : World), R113 all110 marks111 us112 w114 → Has 109 [] a [(1, (.pointer (some (blk b7)))), (2, (.pointer (some (blk b10)))), (7, (.pointer (some (blk b14)))), (8, (.pointer Newr62)), (9, (Slc.v all110)), (11, (Slc.v marks111)), (12, (Slc.v us112)), (13, (.int .i64 i100))] → K109 a w114 := by
      clear h
      intro a all110 marks111 us112 w114 h H
      replace h := hx201 all110 marks111 us112 w114 h
      refine hK109 _ _ <| c_reg <| s_move H rfl rfl (lt_ rfl) fun a H => s_bin H rfl rfl rfl r_add (lt_ rfl) fun a H => s_assign H rfl rfl (lt_ rfl) fun a H => c_nil <| Exists.intro (all110, marks111, us112, wr .i64 (i100 + 1)) ⟨h.1, h.2, H.weaken ⟨rfl, rfl, rfl, rfl, rfl, rfl, rfl, rfl, trivial⟩⟩
     clear hx201
     refine c_block <| c_seq fun K116 hK116 => c_reg <| s_move H rfl rfl (lt_ rfl) fun a H => s_fld H rfl rfl fld_49_4 (lt_ rfl) fun a H => ?_
     obtain ⟨l117, hc118, h⟩ := h
     refine s_load (v := (Slc.v l117)) H rfl rfl one_26 hc118 (lt_ rfl) fun a H => s_move H rfl rfl (lt_ rfl) fun a H => ?_
     obtain ⟨a119, hi120, hi121, hi122, h⟩ := h
     refine s_idxS (s := l117) H rfl rfl rfl slc_26 hi120 hi121 hi122 (lt_ rfl) fun a H => ?_
     obtain ⟨Kind123, hc124, h⟩ := h
     obtain ⟨Key125, hc126, h⟩ := h
     obtain ⟨Count127, hc128, h⟩ := h
     obtain ⟨Clien129, hc130, h⟩ := h
     obtain ⟨Fin131, hc132, h⟩ := h
     obtain ⟨Has133, hc134, h⟩ := h
     obtain ⟨Data135, hc136, h⟩ := h
     refine s_loadN (l := [(.int .i64 Kind123), (.string Key125), (.int .i64 Count127), (.int .i64 Clien129), (.bool Fin131), (.bool Has133), (Slc.v Data135)]) H rfl rfl agg_45 rfl ⟨hc124, hc126, hc128, hc130, hc132, hc134, hc136, trivial⟩ (lt_ rfl) fun a H => ?_
     refine s_call H rfl body_19 (H.args (vs := [(.pointer Newr62), (.agg #[(.int .i64 Kind123), (.string Key125), (.int .i64 Count127), (.int .i64 Clien129), (.bool Fin131), (.bool Has133), (Slc.v Data135)])]) rfl) (lt_ rfl) h ?_ (fun c w' h H => e_panic (P := PP) (fn := Tryd.f14) H h)
     clear H h a
     rintro _ w137 a ⟨Putr138, Putr139, rfl, h⟩ H
     refine s_move H rfl rfl (lt_ rfl) fun a H => s_ext H rfl rfl rfl (lt_ rfl) fun a H => s_ext H rfl rfl rfl (lt_ rfl) fun a H => s_assign H rfl rfl (lt_ rfl) fun a H => s_assign H rfl rfl (lt_ rfl) fun a H => c_nil <| hK116 _ _ <| c_seq fun K140 hK140 => c_reg <| s_move H rfl rfl (lt_ rfl) fun a H => s_bin H rfl rfl rfl r_eql (lt_ rfl) fun a H => c_nil <| hK140 _ _ <| c_cond H rfl (fun hb141 => ?_) (fun hb141 => ?_)
     ·replace h := h.1 hb141
      refine c_seq fun K142 hK142 => c_reg ?_
      replace h := h.get
      obtain ⟨b143, w144, nb145, h⟩ := h
      refine s_bslc H rfl (by rw [H.parts (vs := []) rfl]; exact bs_28_0 w137) (lt_ rfl) ?_
      rw [← nb145.at_]
      clear H a
      intro a H
      refine nb145.go <| s_move H rfl rfl (lt_ rfl) fun a H => ?_
      obtain ⟨s146, w147, hq148, h⟩ := h
      refine s_blt H rfl (H.args (vs := [(Slc.v (Slc.mk (some (blk b143)) 0 0)), (Slc.v all97)]) rfl) (lt_ rfl) (fun cs => b_app (z := s146) hq148) ?_
      clear H a hq148
      intro a H
      refine s_move H rfl rfl (lt_ rfl) fun a H => ?_
      obtain ⟨s149, w150, hq151, h⟩ := h
      refine s_blt H rfl (H.args (vs := [(Slc.v s146), (Slc.v Putr138)]) rfl) (lt_ rfl) (fun cs => b_app (z := s149) hq151) ?_
      clear H a hq151
      intro a H
      refine s_assign H rfl rfl (lt_ rfl) fun a H => c_nil <| hK142 _ _ <| c_seq fun K152 hK152 => c_reg <| s_move H rfl rfl (lt_ rfl) fun a H => s_move H rfl rfl (lt_ rfl) fun a H => s_blt H rfl (H.args (vs := [(Slc.v s149)]) rfl) (lt_ rfl) (fun cs => b_lenS (z := s149) sl_28) fun a H => ?_
      replace h := h.get
      obtain ⟨b153, w154, nb155, h⟩ := h
      refine s_bslc H rfl (by rw [H.parts (vs := [(0, (.int .i64 (s149.l : Int)))]) rfl]; exact bs_50_1_ii640 w150 (s149.l : Int)) (lt_ rfl) ?_
      rw [← nb155.at_]
      clear H a
      intro a H
      refine nb155.go ?_
      obtain ⟨s156, w157, hq158, h⟩ := h
      refine s_blt H rfl (H.args (vs := [(Slc.v marks98), (Slc.v (Slc.mk (some (blk b153)) 1 1))]) rfl) (lt_ rfl) (fun cs => b_app (z := s156) hq158) ?_
      clear H a hq158
      intro a H
      refine s_assign H rfl rfl (lt_ rfl) fun a H => c_nil <| hK152 _ _ <| c_reg <| s_move H rfl rfl (lt_ rfl) fun a H => s_fld H rfl rfl fld_49_4 (lt_ rfl) fun a H => ?_
      obtain ⟨l159, hc160, h⟩ := h
      refine s_load (v := (Slc.v l159)) H rfl rfl one_26 hc160 (lt_ rfl) fun a H => s_move H rfl rfl (lt_ rfl) fun a H => ?_
      obtain ⟨a161, hi162, hi163, hi164, h⟩ := h
      refine s_idxS (s := l159) H rfl rfl rfl slc_26 hi162 hi163 hi164 (lt_ rfl) fun a H => ?_
      obtain ⟨Kind165, hc166, h⟩ := h
      obtain ⟨Key167, hc168, h⟩ := h
      obtain ⟨Count169, hc170, h⟩ := h
      obtain ⟨Clien171, hc172, h⟩ := h
      obtain ⟨Fin173, hc174, h⟩ := h
      obtain ⟨Has175, hc176, h⟩ := h
      obtain ⟨Data177, hc178, h⟩ := h
      refine s_loadN (l := [(.int .i64 Kind165), (.string Key167), (.int .i64 Count169), (.int .i64 Clien171), (.bool Fin173), (.bool Has175), (Slc.v Data177)]) H rfl rfl agg_45 rfl ⟨hc166, hc168, hc170, hc172, hc174, hc176, hc178, trivial⟩ (lt_ rfl) fun a H => ?_
      refine s_call H rfl body_29 (H.args (vs := [(.agg #[(.int .i64 Kind165), (.string Key167), (.int .i64 Count169), (.int .i64 Clien171), (.bool Fin173), (.bool Has175), (Slc.v Data177)])]) rfl) (lt_ rfl) h ?_ (fun c w' h H => e_panic (P := PP) (fn := Tryd.f14) H h)
      clear H h a
      rintro _ w179 a ⟨Kind180, Key181, Count182, Clien183, Fin184, Has185, Data186, rfl, h⟩ H
      replace h := h.get
      obtain ⟨b187, w188, nb189, h⟩ := h
      refine s_bslc H rfl (by rw [H.parts (vs := [(0, (.agg #[(.int .i64 Kind180), (.string Key181), (.int .i64 Count182), (.int .i64 Clien183), (.bool Fin184), (.bool Has185), (Slc.v Data186)]))]) rfl]; exact bs_26_1_ii64sii64ii64bbs0 w179 Kind180 Key181 Count182 Clien183 Fin184 Has185 Data186) (lt_ rfl) ?_
      rw [← nb189.at_]
      clear H a
      intro a H
      refine nb189.go ?_
      obtain ⟨s190, w191, hq192, h⟩ := h
      refine s_blt H rfl (H.args (vs := [(Slc.v us99), (Slc.v (Slc.mk (some (blk b187)) 1 1))]) rfl) (lt_ rfl) (fun cs => b_app (z := s190) hq192) ?_
      clear H a hq192
      intro a H
      refine s_assign H rfl rfl (lt_ rfl) fun a H => c_nil ?_
      exact hJ115 _ _ _ _ _ h (H.weaken ⟨rfl, rfl, rfl, rfl, rfl, rfl, rfl, rfl, trivial⟩)
     ·replace h := h.2 hb141
      refine c_skip ?_
      exact hJ115 _ _ _ _ _ h (H.weaken ⟨rfl, rfl, rfl, rfl, rfl, rfl, rfl, rfl, trivial⟩)
    ·replace h := h.2 hb108
     refine c_exit ?_
     first | (simp only [Exit.then, Exit.inBlock, ↓reduceIte]; fail_if_success simp only [Nat.reduceEqDiff]) | simp only [Exit.then, Exit.inBlock, ↓reduceIte, Nat.reduceEqDiff]
     refine hK95 _ _ <| c_seq fun K202 hK202 => c_reg ?_
     obtain ⟨N203, hc204, h⟩ := h
     obtain ⟨K205, hc206, h⟩ := h
     obtain ⟨Delta207, hc208, h⟩ := h
     obtain ⟨Serve209, hc210, h⟩ := h
     refine s_loadN (l := [(.int .i64 N203), (.int .i64 K205), (.int .i64 Delta207), (.int .i64 Serve209)]) H rfl rfl agg_25 rfl ⟨hc204, hc206, hc208, hc210, trivial⟩ (lt_ rfl) fun a H => ?_
     iterate 4 refine s_move H rfl rfl (lt_ rfl) fun a H => ?_
     refine s_stoN (l := [(.int .i64 N203), (.int .i64 K205), (.int .i64 Delta207), (.int .i64 Serve209)]) H rfl rfl rfl rfl agg_25 rfl rfl h ?_
     clear h H
     intro w211 h H
     iterate 4 refine s_assign H rfl rfl (lt_ rfl) fun a H => ?_
     refine c_nil <| hK202 _ _ <| c_ret ?_
     obtain ⟨N212, hc213, h⟩ := h
     obtain ⟨K214, hc215, h⟩ := h
     obtain ⟨Delta216, hc217, h⟩ := h
     obtain ⟨Serve218, hc219, h⟩ := h
     exact e_ret5 H rfl ⟨_, rfl, run_loadN (l := [(.int .i64 N212), (.int .i64 K214), (.int .i64 Delta216), (.int .i64 Serve218)]) agg_25 rfl ⟨hc213, hc215, hc217, hc219, trivial⟩⟩ rfl rfl rfl rfl h

set_option maxRecDepth 100000 in
set_option maxHeartbeats 4000000 in
theorem sim_sherdlaw11_mod (k1 : Int) (n2 : Int) (w : World) (Q : Ending → World → Prop) (h : vc_sherdlaw11_mod k1 n2 w Q) : Calls PP F_sherdlaw11_mod #[(.int .i64 k1), (.int .i64 n2)] w Q := by
 unfold vc_sherdlaw11_mod at h
 refine enter (n := 15) (l := [(.int .i64 k1), (.int .i64 n2)]) Tryd.func15 rfl rfl (Nat.le_of_ble_eq_true rfl) fun a H => ?_
 replace H : Has 15 [] a [(0, (.int .i64 k1)), (1, (.int .i64 n2))] := H
 refine c_seq fun K3 hK3 => c_reg <| s_assign H rfl rfl (lt_ rfl) fun a H => c_nil <| hK3 _ _ <| c_seq fun K4 hK4 => c_reg <| s_move H rfl rfl (lt_ rfl) fun a H => s_move H rfl rfl (lt_ rfl) fun a H => ?_
 obtain ⟨hz5, h⟩ := h
 refine s_bin H rfl rfl rfl (r_rem hz5) (lt_ rfl) fun a H => s_assign H rfl rfl (lt_ rfl) fun a H => c_nil <| hK4 _ _ <| c_seq fun K6 hK6 => ?_
 obtain ⟨R8, h, hx14⟩ := h
 have hJ11 : ∀ (a : Act) (r7 : Int) (w9 : World), R8 r7 w9 → Has 15 [] a [(5, (.int .i64 r7))] → K6 a w9 := by
  clear h
  intro a r7 w9 h H
  replace h := hx14 r7 w9 h
  refine hK6 _ _ <| c_seq fun K10 hK10 => c_reg <| s_move H rfl rfl (lt_ rfl) fun a H => s_assign H rfl rfl (lt_ rfl) fun a H => c_nil <| hK10 _ _ <| c_ret ?_
  exact e_ret1 H rfl rfl h
 clear hx14
 refine c_seq fun K12 hK12 => c_reg <| s_move H rfl rfl (lt_ rfl) fun a H => s_bin H rfl rfl rfl r_lss (lt_ rfl) fun a H => c_nil <| hK12 _ _ <| c_cond H rfl (fun hb13 => ?_) (fun hb13 => ?_)
 ·replace h := h.1 hb13
  refine c_reg <| s_move H rfl rfl (lt_ rfl) fun a H => s_move H rfl rfl (lt_ rfl) fun a H => s_bin H rfl rfl rfl r_add (lt_ rfl) fun a H => s_assign H rfl rfl (lt_ rfl) fun a H => c_nil ?_
  exact hJ11 _ _ _ h (H.weaken ⟨rfl, trivial⟩)
 ·replace h := h.2 hb13
  refine c_skip ?_
  exact hJ11 _ _ _ h (H.weaken ⟨rfl, trivial⟩)
end Go.Proofs.YtnhgnfflihoaiaaDoor
