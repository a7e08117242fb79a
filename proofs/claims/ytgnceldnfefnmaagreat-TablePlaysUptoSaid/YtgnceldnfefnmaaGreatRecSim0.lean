/-
  The conditions give the machine's calls; printed by vcgen.py.
-/
import Derived.Test.YtgnceldnfefnmaaGreatRecVc
namespace Go.Proofs.YtgnceldnfefnmaaGreat
open Go Go.Vc
set_option maxRecDepth 100000
set_option maxHeartbeats 4000000
theorem sim_sherdlaw15_TablePlays (d1 : Int) (s2 : Slc) (w : World) (Q : Ending → World → Prop) (h : vc_sherdlaw15_TablePlays d1 s2 w Q) : Calls PP F_sherdlaw15_TablePlays #[(.i d1), s2.v] w Q := by
 unfold vc_sherdlaw15_TablePlays at h
 refine enter (n := 140) Tryz.func3 rfl rfl (Nat.le_of_ble_eq_true rfl) fun a H => c_seq fun K3 hK3 => c_reg <| s_assign H rfl rfl (lt_ rfl) fun a H => c_nil <| hK3 _ _ <| c_seq fun K4 hK4 => c_reg ?_
 replace h := h.get
 obtain ⟨b5, w6, n7, h⟩ := h
 refine s_alloc H rfl zero_24 (lt_ rfl) ?_
 rw [← n7.at_]
 clear H a
 intro a H
 refine n7.go <| c_nil <| hK4 _ _ <| c_seq fun K8 hK8 => c_reg ?_
 replace h := h.get
 obtain ⟨b9, w10, n11, h⟩ := h
 refine s_alloc H rfl zero_26 (lt_ rfl) ?_
 rw [← n11.at_]
 clear H a
 intro a H
 refine n11.go <| c_nil <| hK8 _ _ <| c_seq fun K12 hK12 => c_seq fun K13 hK13 => c_reg <| s_move H rfl rfl (lt_ rfl) fun a H => c_nil <| hK13 _ _ <| c_block ?_
 obtain ⟨I16, m17, h305, h306⟩ := h
 refine c_loop (σ := Int) (fun z w => I16 z w) (fun z w => m17 z w) (fun z => [(0, (.i d1)), (1, s2.v), (5, (.pointer (some (blk b5)))), (6, (.pointer (some (blk b9)))), (19, (.i z))]) 0 h305 (H.weaken ⟨rfl, rfl, rfl, rfl, rfl, trivial⟩) ?_
 clear H h305
 rintro s14 a w15 h H
 replace h := h306 s14 w15 h
 clear h306
 replace H : Has 140 [] a [(0, (.i d1)), (1, s2.v), (5, (.pointer (some (blk b5)))), (6, (.pointer (some (blk b9)))), (19, (.i s14))] := H
 refine c_seq fun K18 hK18 => c_reg <| s_bin H rfl rfl rfl r_lss (lt_ rfl) fun a H => c_nil <| hK18 _ _ <| c_seq fun K19 hK19 => c_cond H rfl (fun h20 => ?_) (fun h20 => ?_)
 ·replace h := h.1 h20
  refine c_skip <| hK19 _ _ <| c_seq fun K21 hK21 => c_block <| c_seq fun K22 hK22 => c_reg <| s_move H rfl rfl (lt_ rfl) fun a H => s_assign H rfl rfl (lt_ rfl) fun a H => c_nil <| hK22 _ _ <| c_seq fun K23 hK23 => c_reg <| s_move H rfl rfl (lt_ rfl) fun a H => s_call H rfl body_4 (H.args (vs := [(.i d1)]) rfl) (lt_ rfl) h ?_ (fun c w' h H => e_panic (P := PP) (fn := Tryz.f3) H h)
  clear H h a
  rintro _ w24 a ⟨N25, N26, rfl, h⟩ H
  refine s_move H rfl rfl (lt_ rfl) fun a H => s_ext H rfl rfl rfl (lt_ rfl) fun a H => s_ext H rfl rfl rfl (lt_ rfl) fun a H => s_assign H rfl rfl (lt_ rfl) fun a H => s_assign H rfl rfl (lt_ rfl) fun a H => c_nil <| hK23 _ _ <| c_seq fun K27 hK27 => c_reg <| s_move H rfl rfl (lt_ rfl) fun a H => s_call H rfl body_5 (H.args (vs := [(.i d1)]) rfl) (lt_ rfl) h ?_ (fun c w' h H => e_panic (P := PP) (fn := Tryz.f3) H h)
  clear H h a
  rintro _ w28 a ⟨N29, N30, rfl, h⟩ H
  refine s_move H rfl rfl (lt_ rfl) fun a H => s_ext H rfl rfl rfl (lt_ rfl) fun a H => s_ext H rfl rfl rfl (lt_ rfl) fun a H => s_assign H rfl rfl (lt_ rfl) fun a H => s_assign H rfl rfl (lt_ rfl) fun a H => c_nil <| hK27 _ _ <| c_seq fun K31 hK31 => c_seq fun K32 hK32 => c_reg <| s_move H rfl rfl (lt_ rfl) fun a H => s_move H rfl rfl (lt_ rfl) fun a H => s_bin H rfl rfl rfl r_neq (lt_ rfl) fun a H => s_move H rfl rfl (lt_ rfl) fun a H => ?_
  refine g_join (n := 140) [(41, (.bool ((decide (N30 ≠ N26)) || (decide (N29.isNone ≠ N25.isNone))))), (0, (.i d1)), (1, s2.v), (5, (.pointer (some (blk b5)))), (6, (.pointer (some (blk b9)))), (7, (.i s14)), (8, (.pointer N25)), (10, (.pointer N29)), (19, (.i s14))] (.succ (.succ (.succ (.succ (.succ (.succ (.zero _))))))) ?_ ?_
  ·intro h34
   try clear h
   rcases Bool.eq_false_or_eq_true (decide (N30 ≠ N26)) with h33 | h33
   ·replace H := H.ch (t := 35) (b := true) rfl h33
    iterate 5 refine s_skip H (wantN H rfl rfl rfl) rfl (lt_ rfl) fun a H => ?_
    refine s_pickT H rfl rfl rfl (lt_ rfl) fun a H => ?_
    exact h34 _ (H.weaken ⟨by rw [h33]; rfl, rfl, rfl, rfl, rfl, rfl, rfl, rfl, rfl, trivial⟩)
   ·replace H := H.ch (t := 35) (b := false) rfl h33
    refine s_move H (wantG H rfl rfl) rfl (lt_ rfl) fun a H => s_bin H (wantG H rfl rfl) rfl rfl (r_eqP0 ptr_23) (lt_ rfl) fun a H => s_move H (wantG H rfl rfl) rfl (lt_ rfl) fun a H => s_bin H (wantG H rfl rfl) rfl rfl (r_eqP0 ptr_25) (lt_ rfl) fun a H => s_bin H (wantG H rfl rfl) rfl rfl (r_neB bool_4) (lt_ rfl) fun a H => s_pickF H rfl rfl rfl (lt_ rfl) fun a H => ?_
    exact h34 _ (H.weaken ⟨by rw [h33]; rfl, rfl, rfl, rfl, rfl, rfl, rfl, rfl, rfl, trivial⟩)
  ·clear H a
   intro a H
   refine c_nil <| hK32 _ _ <| c_cond H rfl (fun h35 => ?_) (fun h35 => ?_)
   ·replace h := h.1 h35
    refine c_seq fun K36 hK36 => c_reg <| s_assign H rfl rfl (lt_ rfl) fun a H => c_nil <| hK36 _ _ <| c_ret ?_
    exact e_ret1 H rfl rfl h
   ·replace h := h.2 h35
    refine c_skip <| hK31 _ _ <| c_seq fun K37 hK37 => c_reg <| s_move H rfl rfl (lt_ rfl) fun a H => s_move H rfl rfl (lt_ rfl) fun a H => ?_
    obtain ⟨h38, h39, h⟩ := h
    refine s_idxA H rfl rfl rfl arr_24 h38 h39 (lt_ rfl) fun a H => ?_
    obtain ⟨h41, h42, h⟩ := h
    refine s_sto (p := (blk b5).add (Int.toNat (s14) * 1)) (v := (.pointer N29)) H rfl rfl rfl rfl one_23 rfl h41 h42 ?_
    clear H
    intro H
    generalize hww40 : World.setCell w28 ((blk b5).add (Int.toNat (s14) * 1)) (.pointer N29) = w40 at h ⊢
    have w40S : SetAt w28 ((blk b5).add (Int.toNat (s14) * 1)) (.pointer N29) w40 := ⟨hww40.symm⟩
    clear hww40 h41 h42
    refine c_nil <| hK37 _ _ <| c_reg <| s_move H rfl rfl (lt_ rfl) fun a H => s_move H rfl rfl (lt_ rfl) fun a H => ?_
    obtain ⟨h43, h44, h⟩ := h
    refine s_idxA H rfl rfl rfl arr_26 h43 h44 (lt_ rfl) fun a H => ?_
    obtain ⟨h46, h47, h⟩ := h
    refine s_sto (p := (blk b9).add (Int.toNat (s14) * 1)) (v := (.pointer N25)) H rfl rfl rfl rfl one_25 rfl h46 h47 ?_
    clear H
    intro H
    generalize hww45 : World.setCell w40 ((blk b9).add (Int.toNat (s14) * 1)) (.pointer N25) = w45 at h ⊢
    have w45S : SetAt w40 ((blk b9).add (Int.toNat (s14) * 1)) (.pointer N25) w45 := ⟨hww45.symm⟩
    clear hww45 h46 h47
    refine c_nil <| hK21 _ _ <| c_reg <| s_bin H rfl rfl rfl r_add (lt_ rfl) fun a H => s_move H rfl rfl (lt_ rfl) fun a H => c_nil <| Exists.intro (wr .i64 (s14 + 1)) ⟨h.1, h.2, H.weaken ⟨rfl, rfl, rfl, rfl, rfl, trivial⟩⟩
 ·replace h := h.2 h20
  refine c_exit ?_
  first | (simp only [Exit.then, Exit.inBlock, ↓reduceIte]; fail_if_success simp only [Nat.reduceEqDiff]) | simp only [Exit.then, Exit.inBlock, ↓reduceIte, Nat.reduceEqDiff]
  refine hK12 _ _ <| c_seq fun K56 hK56 => c_seq fun K57 hK57 => c_reg <| s_move H rfl rfl (lt_ rfl) fun a H => s_blt H rfl (H.args (vs := [s2.v]) rfl) (lt_ rfl) (fun cs => b_lenS (z := s2) sl_22) fun a H => s_move H rfl rfl (lt_ rfl) fun a H => c_nil <| hK57 _ _ <| c_block ?_
  obtain ⟨I60, m61, h303, h304⟩ := h
  refine c_loop (σ := Int) (fun z w => I60 z w) (fun z w => m61 z w) (fun z => [(5, (.pointer (some (blk b5)))), (6, (.pointer (some (blk b9)))), (49, s2.v), (50, (.i (s2.l : Int))), (51, (.i z))]) 0 h303 (H.weaken ⟨rfl, rfl, rfl, rfl, rfl, trivial⟩) ?_
  clear H h303
  rintro s58 a w59 h H
  replace h := h304 s58 w59 h
  clear h304
  replace H : Has 140 [] a [(5, (.pointer (some (blk b5)))), (6, (.pointer (some (blk b9)))), (49, s2.v), (50, (.i (s2.l : Int))), (51, (.i s58))] := H
  refine c_seq fun K62 hK62 => c_reg <| s_bin H rfl rfl rfl r_lss (lt_ rfl) fun a H => c_nil <| hK62 _ _ <| c_seq fun K63 hK63 => c_cond H rfl (fun h64 => ?_) (fun h64 => ?_)
  ·replace h := h.1 h64
   refine c_skip <| hK63 _ _ <| c_seq fun K65 hK65 => ?_
   obtain ⟨R66, h, h263⟩ := h
   have h68 : ∀ (a : Act) (w67 : World), R66 w67 → Has 140 [] a [(5, (.pointer (some (blk b5)))), (6, (.pointer (some (blk b9)))), (49, s2.v), (50, (.i (s2.l : Int))), (51, (.i s58))] → K65 a w67 := by
    clear h
    intro a w67 h H
    replace h := h263 w67 h
    refine hK65 _ _ <| c_reg <| s_bin H rfl rfl rfl r_add (lt_ rfl) fun a H => s_move H rfl rfl (lt_ rfl) fun a H => c_nil <| Exists.intro (wr .i64 (s58 + 1)) ⟨h.1, h.2, H.weaken ⟨rfl, rfl, rfl, rfl, rfl, trivial⟩⟩
   clear h263
   refine c_block <| c_seq fun K69 hK69 => c_reg ?_
   obtain ⟨a70, h71, h72, h73, h⟩ := h
   refine s_idxS (s := s2) H rfl rfl rfl slc_22 h71 h72 h73 (lt_ rfl) fun a H => ?_
   obtain ⟨K74, hc75, T76, hc77, K78, hc79, K80, hc81, C82, hc83, C84, hc85, F86, hc87, H88, hc89, D90, hc91, K92, hc93, C94, hc95, C96, hc97, N98, hc99, h⟩ := h
   refine s_loadN (l := [(.i K74), (.i T76), (.i K78), (.string K80), (.i C82), (.i C84), (.bool F86), (.bool H88), D90.v, (.string K92), (.i C94), (.i C96), (.i N98)]) H rfl rfl agg_40 rfl ⟨hc75, hc77, hc79, hc81, hc83, hc85, hc87, hc89, hc91, hc93, hc95, hc97, hc99, trivial⟩ (lt_ rfl) fun a H => ?_
   replace h := h.get
   obtain ⟨b100, w101, n102, h⟩ := h
   refine s_alloc H rfl zero_40 (lt_ rfl) ?_
   rw [← n102.at_]
   clear H a
   intro a H
   refine n102.go <| s_stoN (l := [(.i K74), (.i T76), (.i K78), (.string K80), (.i C82), (.i C84), (.bool F86), (.bool H88), D90.v, (.string K92), (.i C94), (.i C96), (.i N98)]) H rfl rfl rfl rfl agg_40 rfl rfl h ?_
   clear h H
   intro w103 h H
   refine c_nil <| hK69 _ _ <| c_seq fun K104 hK104 => c_reg <| s_fld H rfl rfl fld_40_1 (lt_ rfl) fun a H => ?_
   obtain ⟨l105, hc106, h⟩ := h
   refine s_load (v := (.i l105)) H rfl rfl one_3 hc106 (lt_ rfl) fun a H => s_bin H rfl rfl rfl (r_rem (by decide)) (lt_ rfl) fun a H => s_bin H rfl rfl rfl r_add (lt_ rfl) fun a H => s_bin H rfl rfl rfl (r_rem (by decide)) (lt_ rfl) fun a H => s_assign H rfl rfl (lt_ rfl) fun a H => c_nil <| hK104 _ _ <| c_seq fun K107 hK107 => c_reg <| s_fld H rfl rfl fld_40_0 (lt_ rfl) fun a H => ?_
   obtain ⟨l108, hc109, h⟩ := h
   refine s_load (v := (.i l108)) H rfl rfl one_3 hc109 (lt_ rfl) fun a H => c_nil <| hK107 _ _ <| c_block <| c_seq fun K110 hK110 => c_reg <| s_bin H rfl rfl rfl r_eql (lt_ rfl) fun a H => s_assign H rfl rfl (lt_ rfl) fun a H => c_nil <| hK110 _ _ <| c_cond H rfl (fun h111 => ?_) (fun h111 => ?_)
   ·replace h := h.1 h111
    refine c_seq fun K112 hK112 => c_reg <| s_move H rfl rfl (lt_ rfl) fun a H => s_bin H rfl rfl rfl r_sub (lt_ rfl) fun a H => s_move H rfl rfl (lt_ rfl) fun a H => ?_
    obtain ⟨h113, h114, h⟩ := h
    refine s_idxA H rfl rfl rfl arr_24 h113 h114 (lt_ rfl) fun a H => ?_
    obtain ⟨l115, hc116, h⟩ := h
    refine s_load (v := (.pointer l115)) H rfl rfl one_23 hc116 (lt_ rfl) fun a H => s_call H rfl body_6 (H.args (vs := [(.pointer l115)]) rfl) (lt_ rfl) h ?_ (fun c w' h H => e_panic (P := PP) (fn := Tryz.f3) H h)
    clear H h a
    rintro _ w117 a ⟨C118, rfl, h⟩ H
    obtain ⟨h119, h120, h⟩ := h
    refine s_idxA H rfl rfl rfl arr_24 h119 h120 (lt_ rfl) fun a H => ?_
    obtain ⟨h122, h123, h⟩ := h
    refine s_sto (p := (blk b5).add (Int.toNat (wr .i64 (1 - ((wr .i64 ((l105.tmod 2) + 2)).tmod 2))) * 1)) (v := (.pointer C118)) H rfl rfl rfl rfl one_23 rfl h122 h123 ?_
    clear H
    intro H
    generalize hww121 : World.setCell w117 ((blk b5).add (Int.toNat (wr .i64 (1 - ((wr .i64 ((l105.tmod 2) + 2)).tmod 2))) * 1)) (.pointer C118) = w121 at h ⊢
    have w121S : SetAt w117 ((blk b5).add (Int.toNat (wr .i64 (1 - ((wr .i64 ((l105.tmod 2) + 2)).tmod 2))) * 1)) (.pointer C118) w121 := ⟨hww121.symm⟩
    clear hww121 h122 h123
    refine c_nil <| hK112 _ _ <| c_reg <| s_move H rfl rfl (lt_ rfl) fun a H => s_bin H rfl rfl rfl r_sub (lt_ rfl) fun a H => s_move H rfl rfl (lt_ rfl) fun a H => ?_
    obtain ⟨h124, h125, h⟩ := h
    refine s_idxA H rfl rfl rfl arr_26 h124 h125 (lt_ rfl) fun a H => ?_
    obtain ⟨l126, hc127, h⟩ := h
    refine s_load (v := (.pointer l126)) H rfl rfl one_25 hc127 (lt_ rfl) fun a H => s_call H rfl body_7 (H.args (vs := [(.pointer l126)]) rfl) (lt_ rfl) h ?_ (fun c w' h H => e_panic (P := PP) (fn := Tryz.f3) H h)
    clear H h a
    rintro _ w128 a ⟨C129, rfl, h⟩ H
    obtain ⟨h130, h131, h⟩ := h
    refine s_idxA H rfl rfl rfl arr_26 h130 h131 (lt_ rfl) fun a H => ?_
    obtain ⟨h133, h134, h⟩ := h
    refine s_sto (p := (blk b9).add (Int.toNat (wr .i64 (1 - ((wr .i64 ((l105.tmod 2) + 2)).tmod 2))) * 1)) (v := (.pointer C129)) H rfl rfl rfl rfl one_25 rfl h133 h134 ?_
    clear H
    intro H
    generalize hww132 : World.setCell w128 ((blk b9).add (Int.toNat (wr .i64 (1 - ((wr .i64 ((l105.tmod 2) + 2)).tmod 2))) * 1)) (.pointer C129) = w132 at h ⊢
    have w132S : SetAt w128 ((blk b9).add (Int.toNat (wr .i64 (1 - ((wr .i64 ((l105.tmod 2) + 2)).tmod 2))) * 1)) (.pointer C129) w132 := ⟨hww132.symm⟩
    clear hww132 h133 h134
    refine c_nil ?_
    exact h68 _ _ h (H.weaken ⟨rfl, rfl, rfl, rfl, rfl, trivial⟩)
   ·replace h := h.2 h111
    refine c_seq fun K143 hK143 => c_reg <| s_bin H rfl rfl rfl r_eql (lt_ rfl) fun a H => s_assign H rfl rfl (lt_ rfl) fun a H => c_nil <| hK143 _ _ <| c_cond H rfl (fun h144 => ?_) (fun h144 => ?_)
    ·replace h := h.1 h144
     refine c_seq fun K145 hK145 => c_reg <| s_fld H rfl rfl fld_40_5 (lt_ rfl) fun a H => ?_
     obtain ⟨l146, hc147, h⟩ := h
     refine s_load (v := (.i l146)) H rfl rfl one_3 hc147 (lt_ rfl) fun a H => s_call H rfl body_4 (H.args (vs := [(.i l146)]) rfl) (lt_ rfl) h ?_ (fun c w' h H => e_panic (P := PP) (fn := Tryz.f3) H h)
     clear H h a
     rintro _ w148 a ⟨N149, N150, rfl, h⟩ H
     refine s_move H rfl rfl (lt_ rfl) fun a H => s_ext H rfl rfl rfl (lt_ rfl) fun a H => s_ext H rfl rfl rfl (lt_ rfl) fun a H => s_assign H rfl rfl (lt_ rfl) fun a H => s_assign H rfl rfl (lt_ rfl) fun a H => c_nil <| hK145 _ _ <| c_seq fun K151 hK151 => c_reg <| s_fld H rfl rfl fld_40_5 (lt_ rfl) fun a H => ?_
     obtain ⟨l152, hc153, h⟩ := h
     refine s_load (v := (.i l152)) H rfl rfl one_3 hc153 (lt_ rfl) fun a H => s_call H rfl body_5 (H.args (vs := [(.i l152)]) rfl) (lt_ rfl) h ?_ (fun c w' h H => e_panic (P := PP) (fn := Tryz.f3) H h)
     clear H h a
     rintro _ w154 a ⟨N155, N156, rfl, h⟩ H
     refine s_move H rfl rfl (lt_ rfl) fun a H => s_ext H rfl rfl rfl (lt_ rfl) fun a H => s_ext H rfl rfl rfl (lt_ rfl) fun a H => s_assign H rfl rfl (lt_ rfl) fun a H => s_assign H rfl rfl (lt_ rfl) fun a H => c_nil <| hK151 _ _ <| c_seq fun K157 hK157 => c_seq fun K158 hK158 => c_reg <| s_move H rfl rfl (lt_ rfl) fun a H => s_move H rfl rfl (lt_ rfl) fun a H => s_bin H rfl rfl rfl r_neq (lt_ rfl) fun a H => s_move H rfl rfl (lt_ rfl) fun a H => ?_
     refine g_join (n := 140) [(115, (.bool ((decide (N156 ≠ N150)) || (decide (N155.isNone ≠ N149.isNone))))), (5, (.pointer (some (blk b5)))), (6, (.pointer (some (blk b9)))), (14, (.i ((wr .i64 ((l105.tmod 2) + 2)).tmod 2))), (15, (.pointer N149)), (17, (.pointer N155)), (49, s2.v), (50, (.i (s2.l : Int))), (51, (.i s58))] (.succ (.succ (.succ (.succ (.succ (.succ (.zero _))))))) ?_ ?_
     ·intro h160
      try clear h
      rcases Bool.eq_false_or_eq_true (decide (N156 ≠ N150)) with h159 | h159
      ·replace H := H.ch (t := 109) (b := true) rfl h159
       iterate 5 refine s_skip H (wantN H rfl rfl rfl) rfl (lt_ rfl) fun a H => ?_
       refine s_pickT H rfl rfl rfl (lt_ rfl) fun a H => ?_
       exact h160 _ (H.weaken ⟨by rw [h159]; rfl, rfl, rfl, rfl, rfl, rfl, rfl, rfl, rfl, trivial⟩)
      ·replace H := H.ch (t := 109) (b := false) rfl h159
       refine s_move H (wantG H rfl rfl) rfl (lt_ rfl) fun a H => s_bin H (wantG H rfl rfl) rfl rfl (r_eqP0 ptr_23) (lt_ rfl) fun a H => s_move H (wantG H rfl rfl) rfl (lt_ rfl) fun a H => s_bin H (wantG H rfl rfl) rfl rfl (r_eqP0 ptr_25) (lt_ rfl) fun a H => s_bin H (wantG H rfl rfl) rfl rfl (r_neB bool_4) (lt_ rfl) fun a H => s_pickF H rfl rfl rfl (lt_ rfl) fun a H => ?_
       exact h160 _ (H.weaken ⟨by rw [h159]; rfl, rfl, rfl, rfl, rfl, rfl, rfl, rfl, rfl, trivial⟩)
     ·clear H a
      intro a H
      refine c_nil <| hK158 _ _ <| c_cond H rfl (fun h161 => ?_) (fun h161 => ?_)
      ·replace h := h.1 h161
       refine c_seq fun K162 hK162 => c_reg <| s_assign H rfl rfl (lt_ rfl) fun a H => c_nil <| hK162 _ _ <| c_ret ?_
       exact e_ret1 H rfl rfl h
      ·replace h := h.2 h161
       refine c_skip <| hK157 _ _ <| c_seq fun K163 hK163 => c_reg <| s_move H rfl rfl (lt_ rfl) fun a H => s_bin H rfl rfl rfl r_sub (lt_ rfl) fun a H => s_move H rfl rfl (lt_ rfl) fun a H => ?_
       obtain ⟨h164, h165, h⟩ := h
       refine s_idxA H rfl rfl rfl arr_24 h164 h165 (lt_ rfl) fun a H => ?_
       obtain ⟨h167, h168, h⟩ := h
       refine s_sto (p := (blk b5).add (Int.toNat (wr .i64 (1 - ((wr .i64 ((l105.tmod 2) + 2)).tmod 2))) * 1)) (v := (.pointer N155)) H rfl rfl rfl rfl one_23 rfl h167 h168 ?_
       clear H
       intro H
       generalize hww166 : World.setCell w154 ((blk b5).add (Int.toNat (wr .i64 (1 - ((wr .i64 ((l105.tmod 2) + 2)).tmod 2))) * 1)) (.pointer N155) = w166 at h ⊢
       have w166S : SetAt w154 ((blk b5).add (Int.toNat (wr .i64 (1 - ((wr .i64 ((l105.tmod 2) + 2)).tmod 2))) * 1)) (.pointer N155) w166 := ⟨hww166.symm⟩
       clear hww166 h167 h168
       refine c_nil <| hK163 _ _ <| c_reg <| s_move H rfl rfl (lt_ rfl) fun a H => s_bin H rfl rfl rfl r_sub (lt_ rfl) fun a H => s_move H rfl rfl (lt_ rfl) fun a H => ?_
       obtain ⟨h169, h170, h⟩ := h
       refine s_idxA H rfl rfl rfl arr_26 h169 h170 (lt_ rfl) fun a H => ?_
       obtain ⟨h172, h173, h⟩ := h
       refine s_sto (p := (blk b9).add (Int.toNat (wr .i64 (1 - ((wr .i64 ((l105.tmod 2) + 2)).tmod 2))) * 1)) (v := (.pointer N149)) H rfl rfl rfl rfl one_25 rfl h172 h173 ?_
       clear H
       intro H
       generalize hww171 : World.setCell w166 ((blk b9).add (Int.toNat (wr .i64 (1 - ((wr .i64 ((l105.tmod 2) + 2)).tmod 2))) * 1)) (.pointer N149) = w171 at h ⊢
       have w171S : SetAt w166 ((blk b9).add (Int.toNat (wr .i64 (1 - ((wr .i64 ((l105.tmod 2) + 2)).tmod 2))) * 1)) (.pointer N149) w171 := ⟨hww171.symm⟩
       clear hww171 h172 h173
       refine c_nil ?_
       exact h68 _ _ h (H.weaken ⟨rfl, rfl, rfl, rfl, rfl, trivial⟩)
    ·replace h := h.2 h144
     refine c_seq fun K182 hK182 => ?_
     obtain ⟨R184, h, h262⟩ := h
     have h188 : ∀ (a : Act) (s183 : Bool) (w185 : World), R184 s183 w185 → Has 140 [] a [(5, (.pointer (some (blk b5)))), (6, (.pointer (some (blk b9)))), (49, s2.v), (50, (.i (s2.l : Int))), (51, (.i s58)), (75, (.bool s183))] → K182 a w185 := by
      clear h
      intro a s183 w185 h H
      replace h := h262 s183 w185 h
      refine hK182 _ _ <| c_cond H rfl (fun h186 => ?_) (fun h186 => ?_)
      ·replace h := h.1 h186
       refine c_seq fun K187 hK187 => c_reg <| s_assign H rfl rfl (lt_ rfl) fun a H => c_nil <| hK187 _ _ <| c_ret ?_
       exact e_ret1 H rfl rfl h
      ·replace h := h.2 h186
       refine c_skip ?_
       exact h68 _ _ h (H.weaken ⟨rfl, rfl, rfl, rfl, rfl, trivial⟩)
     clear h262
     replace H := H.weaken (L' := [(5, (.pointer (some (blk b5)))), (6, (.pointer (some (blk b9)))), (13, (.pointer (some (blk b100)))), (14, (.i ((wr .i64 ((l105.tmod 2) + 2)).tmod 2))), (49, s2.v), (50, (.i (s2.l : Int))), (51, (.i s58))]) ⟨rfl, rfl, rfl, rfl, rfl, rfl, rfl, trivial⟩
     obtain ⟨h189, h190, l191, hc192, h193, h194, l195, hc196, K197, hc198, T199, hc200, K201, hc202, K203, hc204, C205, hc206, C207, hc208, F209, hc210, H211, hc212, D213, hc214, K215, hc216, C217, hc218, C219, hc220, N221, hc222, h⟩ := h
     refine c_any (V := [(0, (.i ((wr .i64 ((l105.tmod 2) + 2)).tmod 2))), (1, (.pointer (some ((blk b5).add (Int.toNat ((wr .i64 ((l105.tmod 2) + 2)).tmod 2) * 1))))), (2, (.pointer l191)), (3, (.i ((wr .i64 ((l105.tmod 2) + 2)).tmod 2))), (4, (.pointer (some ((blk b9).add (Int.toNat ((wr .i64 ((l105.tmod 2) + 2)).tmod 2) * 1))))), (5, (.pointer l195)), (6, (.agg #[(.i K197), (.i T199), (.i K201), (.string K203), (.i C205), (.i C207), (.bool F209), (.bool H211), D213.v, (.string K215), (.i C217), (.i C219), (.i N221)]))]) (⟨[[], [0], [1], [], [3], [4], [], [2, 5, 6], [7], [7, 8], [9], [9, 10], [9, 11], [9, 12]], [some 62, some 63, some 64, some 65, some 66, some 67, some 68, some 69, some 70, some 71, some 72, some 73, some 74, some 75], [7, 11], [0, 0, 0, 0, 0, 0, 0, 0, 1, 1, 1, 1, 2, 2], [0, 0, 0, 0, 0, 0, 0, 1, 1, 1, 1, 2, 2, 2]⟩ : Rg) [(5, (.pointer (some (blk b5)))), (6, (.pointer (some (blk b9)))), (13, (.pointer (some (blk b100)))), (14, (.i ((wr .i64 ((l105.tmod 2) + 2)).tmod 2))), (49, s2.v), (50, (.i (s2.l : Int))), (51, (.i s58))] mixed (by kernel_rfl) H ?_
     refine Stg.eff [0, 1, 2, 3, 4, 5, 6] (by kernel_rfl) rfl (.cons ?_ (.cons ?_ (.cons ?_ (.cons ?_ (.cons ?_ (.cons ?_ (.cons ?_ .nil))))))) ?_
     ·refine Ans.mk rfl rfl fun a H => s_move H rfl rfl (lt_ rfl) fun a H => ?_
      exact Ans.fin H rfl
     ·refine Ans.mk rfl rfl fun a H => s_idxA H rfl rfl rfl arr_24 h189 h190 (lt_ rfl) fun a H => ?_
      exact Ans.fin H rfl
     ·refine Ans.mk rfl rfl fun a H => s_load (v := (.pointer l191)) H rfl rfl one_23 hc192 (lt_ rfl) fun a H => ?_
      exact Ans.fin H rfl
     ·refine Ans.mk rfl rfl fun a H => s_move H rfl rfl (lt_ rfl) fun a H => ?_
      exact Ans.fin H rfl
     ·refine Ans.mk rfl rfl fun a H => s_idxA H rfl rfl rfl arr_26 h193 h194 (lt_ rfl) fun a H => ?_
      exact Ans.fin H rfl
     ·refine Ans.mk rfl rfl fun a H => s_load (v := (.pointer l195)) H rfl rfl one_25 hc196 (lt_ rfl) fun a H => ?_
      exact Ans.fin H rfl
     ·refine Ans.mk rfl rfl fun a H => s_loadN (l := [(.i K197), (.i T199), (.i K201), (.string K203), (.i C205), (.i C207), (.bool F209), (.bool H211), D213.v, (.string K215), (.i C217), (.i C219), (.i N221)]) H rfl rfl agg_40 rfl ⟨hc198, hc200, hc202, hc204, hc206, hc208, hc210, hc212, hc214, hc216, hc218, hc220, hc222, trivial⟩ (lt_ rfl) fun a H => ?_
      exact Ans.fin H rfl
     ·intro a H
      replace H := H.weaken (L' := [(64, (.pointer l191)), (67, (.pointer l195)), (68, (.agg #[(.i K197), (.i T199), (.i K201), (.string K203), (.i C205), (.i C207), (.bool F209), (.bool H211), D213.v, (.string K215), (.i C217), (.i C219), (.i N221)]))]) ⟨rfl, rfl, rfl, trivial⟩
      refine s_call H rfl body_8 (H.args (vs := [(.pointer l191), (.pointer l195), (.agg #[(.i K197), (.i T199), (.i K201), (.string K203), (.i C205), (.i C207), (.bool F209), (.bool H211), D213.v, (.string K215), (.i C217), (.i C219), (.i N221)])]) rfl) (lt_ rfl) h ?_ (fun c w' h H => e_panic (P := PP) (fn := Tryz.f3) H h)
      clear H h a
      rintro _ w223 a ⟨p224, rfl, h⟩ H
      refine c_nil ?_
      rcases Bool.eq_false_or_eq_true (!p224) with h225 | h225
      ·replace h := h.1 h225
       refine effQ.go [(8, (.bool (!p224))), (9, (.bool (!p224))), (10, undef)] H rfl rfl <| Stg.eff [8, 9, 10] (by kernel_rfl) rfl (.cons ?_ (.cons ?_ (.cons ?_ .nil))) ?_
       ·refine Ans.mk rfl rfl fun a H => s_un H rfl rfl r_not (lt_ rfl) fun a H => ?_
        exact Ans.fin H rfl
       ·refine Ans.mk rfl rfl fun a H => s_move H rfl rfl (lt_ rfl) fun a H => ?_
        exact Ans.fin H rfl
       ·exact .skip rfl rfl rfl rfl rfl rfl h225 rfl
       ·intro a H
        replace H := H.weaken (L' := [(71, (.bool (!p224))), (72, undef)]) ⟨rfl, rfl, trivial⟩
        replace H := H.ch (t := 71) (b := true) rfl h225
        refine s_skip H (wantN H rfl rfl rfl) rfl (lt_ rfl) fun a H => c_nil <| effQ.go [(12, undef), (13, (.bool true))] H rfl rfl <| Stg.fin [12, 13] (by kernel_rfl) (.cons ?_ (.cons ?_ .nil)) ?_
        ·exact .skip rfl rfl rfl rfl rfl rfl h225 rfl
        ·refine Ans.mk rfl rfl fun a H => ?_
         replace H := H.ch (t := 71) (b := true) rfl h225
         refine s_pickT H rfl rfl rfl (lt_ rfl) fun a H => ?_
         exact Ans.fin H rfl
        ·intro a H
         replace H := H.weaken (L' := [(5, (.pointer (some (blk b5)))), (6, (.pointer (some (blk b9)))), (49, s2.v), (50, (.i (s2.l : Int))), (51, (.i s58)), (75, (.bool true))]) ⟨rfl, rfl, rfl, rfl, rfl, rfl, trivial⟩
         exact h188 _ _ _ h (H.weaken ⟨rfl, rfl, rfl, rfl, rfl, rfl, trivial⟩)
      ·replace h := h.2 h225
       obtain ⟨K226, hc227, T228, hc229, K230, hc231, K232, hc233, C234, hc235, C236, hc237, F238, hc239, H240, hc241, D242, hc243, K244, hc245, C246, hc247, C248, hc249, N250, hc251, h⟩ := h
       refine effQ.go [(8, (.bool (!p224))), (9, (.bool (!p224))), (10, (.agg #[(.i K226), (.i T228), (.i K230), (.string K232), (.i C234), (.i C236), (.bool F238), (.bool H240), D242.v, (.string K244), (.i C246), (.i C248), (.i N250)]))] H rfl rfl <| Stg.eff [8, 9, 10] (by kernel_rfl) rfl (.cons ?_ (.cons ?_ (.cons ?_ .nil))) ?_
       ·refine Ans.mk rfl rfl fun a H => s_un H rfl rfl r_not (lt_ rfl) fun a H => ?_
        exact Ans.fin H rfl
       ·refine Ans.mk rfl rfl fun a H => s_move H rfl rfl (lt_ rfl) fun a H => ?_
        exact Ans.fin H rfl
       ·refine Ans.mk rfl rfl fun a H => ?_
        replace H := H.ch (t := 71) (b := false) rfl h225
        refine s_loadN (l := [(.i K226), (.i T228), (.i K230), (.string K232), (.i C234), (.i C236), (.bool F238), (.bool H240), D242.v, (.string K244), (.i C246), (.i C248), (.i N250)]) H (wantG H rfl rfl) rfl agg_40 rfl ⟨hc227, hc229, hc231, hc233, hc235, hc237, hc239, hc241, hc243, hc245, hc247, hc249, hc251, trivial⟩ (lt_ rfl) fun a H => ?_
        exact Ans.fin H rfl
       ·intro a H
        replace H := H.weaken (L' := [(71, (.bool (!p224))), (72, (.agg #[(.i K226), (.i T228), (.i K230), (.string K232), (.i C234), (.i C236), (.bool F238), (.bool H240), D242.v, (.string K244), (.i C246), (.i C248), (.i N250)]))]) ⟨rfl, rfl, trivial⟩
        replace H := H.ch (t := 71) (b := false) rfl h225
        refine s_call H (wantG H rfl rfl) body_8 (H.args (vs := [(.pointer none), (.pointer none), (.agg #[(.i K226), (.i T228), (.i K230), (.string K232), (.i C234), (.i C236), (.bool F238), (.bool H240), D242.v, (.string K244), (.i C246), (.i C248), (.i N250)])]) rfl) (lt_ rfl) h ?_ (fun c w' h H => e_panic (P := PP) (fn := Tryz.f3) H h)
        clear H h a
        rintro _ w252 a ⟨p253, rfl, h⟩ H
        refine c_nil <| effQ.go [(12, (.bool (!p253))), (13, (.bool (!p253)))] H rfl rfl <| Stg.fin [12, 13] (by kernel_rfl) (.cons ?_ (.cons ?_ .nil)) ?_
        ·refine Ans.mk rfl rfl fun a H => ?_
         replace H := H.ch (t := 71) (b := false) rfl h225
         refine s_un H (wantG H rfl rfl) rfl r_not (lt_ rfl) fun a H => ?_
         exact Ans.fin H rfl
        ·refine Ans.mk rfl rfl fun a H => ?_
         replace H := H.ch (t := 71) (b := false) rfl h225
         refine s_pickF H rfl rfl rfl (lt_ rfl) fun a H => ?_
         exact Ans.fin H rfl
        ·intro a H
         replace H := H.weaken (L' := [(5, (.pointer (some (blk b5)))), (6, (.pointer (some (blk b9)))), (49, s2.v), (50, (.i (s2.l : Int))), (51, (.i s58)), (75, (.bool (!p253)))]) ⟨rfl, rfl, rfl, rfl, rfl, rfl, trivial⟩
         exact h188 _ _ _ h (H.weaken ⟨rfl, rfl, rfl, rfl, rfl, rfl, trivial⟩)
  ·replace h := h.2 h64
   refine c_exit ?_
   first | (simp only [Exit.then, Exit.inBlock, ↓reduceIte]; fail_if_success simp only [Nat.reduceEqDiff]) | simp only [Exit.then, Exit.inBlock, ↓reduceIte, Nat.reduceEqDiff]
   refine hK56 _ _ <| c_seq fun K264 hK264 => c_reg <| s_idxA (i := 0) (len := 2) (size := 1) H rfl rfl rfl arr_24 (by decide) (by decide) (lt_ rfl) fun a H => ?_
   obtain ⟨l265, hc266, h⟩ := h
   refine s_load (v := (.pointer l265)) H rfl rfl one_23 hc266 (lt_ rfl) fun a H => s_idxA (i := 0) (len := 2) (size := 1) H rfl rfl rfl arr_26 (by decide) (by decide) (lt_ rfl) fun a H => ?_
   obtain ⟨l267, hc268, h⟩ := h
   refine s_load (v := (.pointer l267)) H rfl rfl one_25 hc268 (lt_ rfl) fun a H => s_call H rfl body_9 (H.args (vs := [(.pointer l265), (.pointer l267)]) rfl) (lt_ rfl) h ?_ (fun c w' h H => e_panic (P := PP) (fn := Tryz.f3) H h)
   clear H h a
   rintro _ w269 a ⟨t270, rfl, h⟩ H
   refine s_move H rfl rfl (lt_ rfl) fun a H => ?_
   obtain ⟨R273, h, h298⟩ := h
   refine g_joinW (n := 140) R273 (fun x274 => [(136, (.bool x274))]) (.succ (.succ (.succ (.succ (.succ (.succ (.zero _))))))) ?_ ?_
   ·intro h272
    clear h298
    rcases Bool.eq_false_or_eq_true t270 with h271 | h271
    ·replace H := H.ch (t := 130) (b := true) rfl h271
     replace h := h.1 h271
     refine s_idxA (i := 1) (len := 2) (size := 1) H (wantG H rfl rfl) rfl rfl arr_24 (by decide) (by decide) (lt_ rfl) fun a H => ?_
     obtain ⟨l276, hc277, h⟩ := h
     refine s_load (v := (.pointer l276)) H (wantG H rfl rfl) rfl one_23 hc277 (lt_ rfl) fun a H => s_idxA (i := 1) (len := 2) (size := 1) H (wantG H rfl rfl) rfl rfl arr_26 (by decide) (by decide) (lt_ rfl) fun a H => ?_
     obtain ⟨l278, hc279, h⟩ := h
     refine s_load (v := (.pointer l278)) H (wantG H rfl rfl) rfl one_25 hc279 (lt_ rfl) fun a H => s_call H (wantG H rfl rfl) body_9 (H.args (vs := [(.pointer l276), (.pointer l278)]) rfl) (lt_ rfl) h ?_ (fun c w' h H => e_panic (P := PP) (fn := Tryz.f3) H h)
     clear H h a
     rintro _ w280 a ⟨t281, rfl, h⟩ H
     refine s_pickT H rfl rfl rfl (lt_ rfl) fun a H => ?_
     exact h272 _ _ _ h (H.weaken ⟨rfl, trivial⟩)
    ·replace H := H.ch (t := 130) (b := false) rfl h271
     replace h := h.2 h271
     iterate 5 refine s_skip H (wantN H rfl rfl rfl) rfl (lt_ rfl) fun a H => ?_
     refine s_pickF H rfl rfl rfl (lt_ rfl) fun a H => ?_
     exact h272 _ _ _ h (H.weaken ⟨rfl, trivial⟩)
   ·clear H a h
    intro a x274 w275 h H
    replace h := h298 x274 w275 h
    clear h298
    refine s_move H rfl rfl (lt_ rfl) fun a H => ?_
    obtain ⟨R288, h, h297⟩ := h
    refine g_joinW (n := 140) R288 (fun x289 => [(139, (.bool x289))]) (.succ (.succ (.zero _))) ?_ ?_
    ·intro h287
     clear h297
     rcases Bool.eq_false_or_eq_true x274 with h286 | h286
     ·replace H := H.ch (t := 137) (b := true) rfl h286
      replace h := h.1 h286
      refine s_call H (wantG H rfl rfl) body_10 (H.args (vs := []) rfl) (lt_ rfl) h ?_ (fun c w' h H => e_panic (P := PP) (fn := Tryz.f3) H h)
      clear H h a
      rintro _ w291 a ⟨t292, rfl, h⟩ H
      refine s_pickT H rfl rfl rfl (lt_ rfl) fun a H => ?_
      exact h287 _ _ _ h (H.weaken ⟨rfl, trivial⟩)
     ·replace H := H.ch (t := 137) (b := false) rfl h286
      replace h := h.2 h286
      refine s_skip H (wantN H rfl rfl rfl) rfl (lt_ rfl) fun a H => s_pickF H rfl rfl rfl (lt_ rfl) fun a H => ?_
      exact h287 _ _ _ h (H.weaken ⟨rfl, trivial⟩)
    ·clear H a h
     intro a x289 w290 h H
     replace h := h297 x289 w290 h
     clear h297
     refine s_assign H rfl rfl (lt_ rfl) fun a H => c_nil <| hK264 _ _ <| c_ret ?_
     exact e_ret1 H rfl rfl h

theorem sim_sherdref15_New (d1 : Int) (w : World) (Q : Ending → World → Prop) (h : vc_sherdref15_New d1 w Q) : Calls PP F_sherdref15_New #[(.i d1)] w Q := by
 unfold vc_sherdref15_New at h
 refine enter (n := 13) Tryz.func4 rfl rfl (Nat.le_of_ble_eq_true rfl) fun a H => c_seq fun K2 hK2 => c_reg <| s_assign H rfl rfl (lt_ rfl) fun a H => s_assign H rfl rfl (lt_ rfl) fun a H => c_nil <| hK2 _ _ <| c_seq fun K3 hK3 => c_seq fun K4 hK4 => c_reg <| s_move H rfl rfl (lt_ rfl) fun a H => s_bin H rfl rfl rfl r_lss (lt_ rfl) fun a H => s_move H rfl rfl (lt_ rfl) fun a H => ?_
 refine g_join (n := 13) [(9, (.bool ((decide (d1 < 0)) || (decide (4611686018427387903 < d1))))), (0, (.i d1))] (.succ (.succ (.succ (.zero _)))) ?_ ?_
 ·intro h6
  try clear h
  rcases Bool.eq_false_or_eq_true (decide (d1 < 0)) with h5 | h5
  ·replace H := H.ch (t := 6) (b := true) rfl h5
   refine s_skip H (wantN H rfl rfl rfl) rfl (lt_ rfl) fun a H => s_skip H (wantN H rfl rfl rfl) rfl (lt_ rfl) fun a H => s_pickT H rfl rfl rfl (lt_ rfl) fun a H => ?_
   exact h6 _ (H.weaken ⟨by rw [h5]; rfl, rfl, trivial⟩)
  ·replace H := H.ch (t := 6) (b := false) rfl h5
   refine s_move H (wantG H rfl rfl) rfl (lt_ rfl) fun a H => s_bin H (wantG H rfl rfl) rfl rfl r_gtr (lt_ rfl) fun a H => s_pickF H rfl rfl rfl (lt_ rfl) fun a H => ?_
   exact h6 _ (H.weaken ⟨by rw [h5]; rfl, rfl, trivial⟩)
 ·clear H a
  intro a H
  refine c_nil <| hK4 _ _ <| c_cond H rfl (fun h7 => ?_) (fun h7 => ?_)
  ·replace h := h.1 h7
   refine c_seq fun K8 hK8 => c_reg <| s_assign H rfl rfl (lt_ rfl) fun a H => s_assign H rfl rfl (lt_ rfl) fun a H => c_nil <| hK8 _ _ <| c_ret ?_
   exact e_ret2 H rfl rfl rfl h
  ·replace h := h.2 h7
   refine c_skip <| hK3 _ _ <| c_seq fun K9 hK9 => c_reg <| s_move H rfl rfl (lt_ rfl) fun a H => s_build H rfl (by rw [H.parts (vs := [(0, (.i d1))]) rfl]; exact bd_49_ii640 w d1) (lt_ rfl) fun a H => ?_
   replace h := h.get
   obtain ⟨b10, w11, n12, h⟩ := h
   refine s_box H rfl rfl (lt_ rfl) ?_
   rw [← n12.at_]
   clear H a
   intro a H
   refine n12.go <| s_assign H rfl rfl (lt_ rfl) fun a H => s_assign H rfl rfl (lt_ rfl) fun a H => c_nil <| hK9 _ _ <| c_ret ?_
   exact e_ret2 H rfl rfl rfl h

theorem sim_table_New (d1 : Int) (w : World) (Q : Ending → World → Prop) (h : vc_table_New d1 w Q) : Calls PP F_table_New #[(.i d1)] w Q := by
 unfold vc_table_New at h
 refine enter (n := 14) Tryz.func5 rfl rfl (Nat.le_of_ble_eq_true rfl) fun a H => c_seq fun K2 hK2 => c_reg <| s_assign H rfl rfl (lt_ rfl) fun a H => s_assign H rfl rfl (lt_ rfl) fun a H => c_nil <| hK2 _ _ <| c_seq fun K3 hK3 => c_seq fun K4 hK4 => c_reg <| s_move H rfl rfl (lt_ rfl) fun a H => s_bin H rfl rfl rfl r_lss (lt_ rfl) fun a H => s_move H rfl rfl (lt_ rfl) fun a H => ?_
 refine g_join (n := 14) [(9, (.bool ((decide (d1 < 0)) || (decide (4611686018427387903 < d1))))), (0, (.i d1))] (.succ (.succ (.succ (.zero _)))) ?_ ?_
 ·intro h6
  try clear h
  rcases Bool.eq_false_or_eq_true (decide (d1 < 0)) with h5 | h5
  ·replace H := H.ch (t := 6) (b := true) rfl h5
   refine s_skip H (wantN H rfl rfl rfl) rfl (lt_ rfl) fun a H => s_skip H (wantN H rfl rfl rfl) rfl (lt_ rfl) fun a H => s_pickT H rfl rfl rfl (lt_ rfl) fun a H => ?_
   exact h6 _ (H.weaken ⟨by rw [h5]; rfl, rfl, trivial⟩)
  ·replace H := H.ch (t := 6) (b := false) rfl h5
   refine s_move H (wantG H rfl rfl) rfl (lt_ rfl) fun a H => s_bin H (wantG H rfl rfl) rfl rfl r_gtr (lt_ rfl) fun a H => s_pickF H rfl rfl rfl (lt_ rfl) fun a H => ?_
   exact h6 _ (H.weaken ⟨by rw [h5]; rfl, rfl, trivial⟩)
 ·clear H a
  intro a H
  refine c_nil <| hK4 _ _ <| c_cond H rfl (fun h7 => ?_) (fun h7 => ?_)
  ·replace h := h.1 h7
   refine c_seq fun K8 hK8 => c_reg <| s_assign H rfl rfl (lt_ rfl) fun a H => s_assign H rfl rfl (lt_ rfl) fun a H => c_nil <| hK8 _ _ <| c_ret ?_
   exact e_ret2 H rfl rfl rfl h
  ·replace h := h.2 h7
   refine c_skip <| hK3 _ _ <| c_seq fun K9 hK9 => c_reg <| s_move H rfl rfl (lt_ rfl) fun a H => ?_
   obtain ⟨g10, w11, h12, h⟩ := h
   refine s_mkm H rfl h12 (lt_ rfl) ?_
   clear H a h12
   intro a H
   refine s_build H rfl (by rw [H.parts (vs := [(0, (.i d1)), (1, (.map (some g10)))]) rfl]; exact bd_52_ii640_m1 w11 d1 (some g10)) (lt_ rfl) fun a H => ?_
   replace h := h.get
   obtain ⟨b13, w14, n15, h⟩ := h
   refine s_box H rfl rfl (lt_ rfl) ?_
   rw [← n15.at_]
   clear H a
   intro a H
   refine n15.go <| s_assign H rfl rfl (lt_ rfl) fun a H => s_assign H rfl rfl (lt_ rfl) fun a H => c_nil <| hK9 _ _ <| c_ret ?_
   exact e_ret2 H rfl rfl rfl h

theorem sim_table_Table_Copy (t1 : Option Addr) (w : World) (Q : Ending → World → Prop) (h : vc_table_Table_Copy t1 w Q) : Calls PP F_table_Table_Copy #[(.pointer t1)] w Q := by
 unfold vc_table_Table_Copy at h
 refine enter (n := 50) Tryz.func6 rfl rfl (Nat.le_of_ble_eq_true rfl) fun a H => c_seq fun K2 hK2 => c_reg <| s_assign H rfl rfl (lt_ rfl) fun a H => c_nil <| hK2 _ _ <| c_seq fun K3 hK3 => c_seq fun K4 hK4 => c_reg <| s_move H rfl rfl (lt_ rfl) fun a H => s_bin H rfl rfl rfl (r_eqP0 ptr_23) (lt_ rfl) fun a H => c_nil <| hK4 _ _ <| c_cond H rfl (fun h5 => ?_) (fun h5 => ?_)
 ·replace h := h.1 h5
  refine c_seq fun K6 hK6 => c_reg <| s_assign H rfl rfl (lt_ rfl) fun a H => c_nil <| hK6 _ _ <| c_ret ?_
  exact e_ret1 H rfl rfl h
 ·replace h := h.2 h5
  refine c_skip <| hK3 _ _ <| c_seq fun K7 hK7 => c_reg <| s_move H rfl rfl (lt_ rfl) fun a H => ?_
  obtain ⟨a8, h130, h⟩ := h
  revert H
  subst h130
  intro H
  refine s_nil H rfl rfl (lt_ rfl) fun a H => s_fld H rfl rfl fld_52_0 (lt_ rfl) fun a H => ?_
  obtain ⟨l9, hc10, h⟩ := h
  refine s_load (v := (.i l9)) H rfl rfl one_3 hc10 (lt_ rfl) fun a H => ?_
  obtain ⟨g11, w12, h13, h⟩ := h
  refine s_mkm H rfl h13 (lt_ rfl) ?_
  clear H a h13
  intro a H
  refine s_build H rfl (by rw [H.parts (vs := [(0, (.i l9)), (1, (.map (some g11)))]) rfl]; exact bd_52_ii640_m1 w12 l9 (some g11)) (lt_ rfl) fun a H => ?_
  replace h := h.get
  obtain ⟨b14, w15, n16, h⟩ := h
  refine s_box H rfl rfl (lt_ rfl) ?_
  rw [← n16.at_]
  clear H a
  intro a H
  refine n16.go <| s_assign H rfl rfl (lt_ rfl) fun a H => c_nil <| hK7 _ _ <| c_seq fun K17 hK17 => c_seq fun K18 hK18 => c_reg <| s_move H rfl rfl (lt_ rfl) fun a H => s_nil H rfl rfl (lt_ rfl) fun a H => s_fld H rfl rfl fld_52_1 (lt_ rfl) fun a H => ?_
  obtain ⟨l19, hc20, h⟩ := h
  refine s_load (v := (.map l19)) H rfl rfl one_50 hc20 (lt_ rfl) fun a H => ?_
  obtain ⟨i21, w22, h23, h⟩ := h
  refine s_rng H rfl rfl h23 (lt_ rfl) ?_
  clear H a h23
  intro a H
  refine c_nil <| hK18 _ _ <| c_block ?_
  obtain ⟨I25, m26, h128, h129⟩ := h
  refine c_loop (σ := Unit) (fun z w => I25 w) (fun z w => m26 w) (fun z => [(3, (.pointer (some (blk b14)))), (21, (.pointer (some (blk i21))))]) () h128 (H.weaken ⟨rfl, rfl, trivial⟩) ?_
  clear H h128
  rintro _ a w24 h H
  replace h := h129 w24 h
  clear h129
  replace H : Has 50 [] a [(3, (.pointer (some (blk b14)))), (21, (.pointer (some (blk i21))))] := H
  refine c_seq fun K27 hK27 => c_reg ?_
  obtain ⟨b28, r29, w30, h31, h⟩ := h
  refine s_nxt H rfl rfl h31 (lt_ rfl) ?_
  clear H a h31
  intro a H
  refine s_ext H rfl rfl rfl (lt_ rfl) fun a H => c_nil <| hK27 _ _ <| c_seq fun K32 hK32 => c_cond H rfl (fun h33 => ?_) (fun h33 => ?_)
  ·replace h := h.1 h33
   refine c_skip <| hK32 _ _ <| c_block <| c_seq fun K34 hK34 => c_reg ?_
   obtain ⟨_, h38, k35, e36, rfl, h⟩ := h
   refine s_etr H rfl rfl h38 (lt_ rfl) ?_
   clear H a h38
   intro a H
   refine s_ext H rfl rfl rfl (lt_ rfl) fun a H => s_ext H rfl rfl rfl (lt_ rfl) fun a H => s_assign H rfl rfl (lt_ rfl) fun a H => s_assign H rfl rfl (lt_ rfl) fun a H => c_nil <| hK34 _ _ <| c_seq fun K39 hK39 => c_reg <| s_move H rfl rfl (lt_ rfl) fun a H => s_nil H rfl rfl (lt_ rfl) fun a H => s_fld H rfl rfl fld_52_1 (lt_ rfl) fun a H => ?_
   obtain ⟨l40, hc41, h⟩ := h
   refine s_load (v := (.map l40)) H rfl rfl one_50 hc41 (lt_ rfl) fun a H => s_move H rfl rfl (lt_ rfl) fun a H => ?_
   obtain ⟨g42, w43, h44, h⟩ := h
   refine s_mkm H rfl h44 (lt_ rfl) ?_
   clear H a h44
   intro a H
   obtain ⟨w45, h46, h⟩ := h
   refine s_mup H rfl rfl rfl rfl h46 ?_
   clear H h46
   intro H
   refine c_nil <| hK39 _ _ <| c_seq fun K47 hK47 => c_reg <| s_move H rfl rfl (lt_ rfl) fun a H => ?_
   obtain ⟨i48, w49, h50, h⟩ := h
   refine s_rng H rfl rfl h50 (lt_ rfl) ?_
   clear H a h50
   intro a H
   refine c_nil <| hK47 _ _ <| c_block ?_
   obtain ⟨I52, m53, h125, h126⟩ := h
   refine c_loop (σ := Unit) (fun z w => I52 w) (fun z w => m53 w) (fun z => [(3, (.pointer (some (blk b14)))), (4, (.string k35)), (21, (.pointer (some (blk i21)))), (34, (.pointer (some (blk i48))))]) () h125 (H.weaken ⟨rfl, rfl, rfl, rfl, trivial⟩) ?_
   clear H h125
   rintro _ a w51 h H
   replace h := h126 w51 h
   clear h126
   replace H : Has 50 [] a [(3, (.pointer (some (blk b14)))), (4, (.string k35)), (21, (.pointer (some (blk i21)))), (34, (.pointer (some (blk i48))))] := H
   refine c_seq fun K54 hK54 => c_reg ?_
   obtain ⟨b55, r56, w57, h58, h⟩ := h
   refine s_nxt H rfl rfl h58 (lt_ rfl) ?_
   clear H a h58
   intro a H
   refine s_ext H rfl rfl rfl (lt_ rfl) fun a H => c_nil <| hK54 _ _ <| c_seq fun K59 hK59 => c_cond H rfl (fun h60 => ?_) (fun h60 => ?_)
   ·replace h := h.1 h60
    refine c_skip <| hK59 _ _ <| c_block <| c_seq fun K61 hK61 => c_reg ?_
    obtain ⟨_, h70, C62, C63, C64, C65, F66, H67, D68, rfl, h⟩ := h
    refine s_etr H rfl rfl h70 (lt_ rfl) ?_
    clear H a h70
    intro a H
    refine s_ext H rfl rfl rfl (lt_ rfl) fun a H => s_ext H rfl rfl rfl (lt_ rfl) fun a H => ?_
    replace h := h.get
    obtain ⟨b71, w72, n73, h⟩ := h
    refine s_alloc H rfl zero_33 (lt_ rfl) ?_
    rw [← n73.at_]
    clear H a
    intro a H
    refine n73.go ?_
    replace h := h.get
    obtain ⟨b74, w75, n76, h⟩ := h
    refine s_alloc H rfl zero_36 (lt_ rfl) ?_
    rw [← n76.at_]
    clear H a
    intro a H
    refine n76.go <| s_stoN (l := [(.i C62), (.i C63)]) H rfl rfl rfl rfl agg_33 rfl rfl h ?_
    clear h H
    intro w77 h H
    refine s_stoN (l := [(.i C64), (.i C65), (.bool F66), (.bool H67), D68.v]) H rfl rfl rfl rfl agg_36 rfl rfl h ?_
    clear h H
    intro w78 h H
    refine c_nil <| hK61 _ _ ?_
    replace H := H.weaken (L' := [(3, (.pointer (some (blk b14)))), (4, (.string k35)), (6, (.pointer (some (blk b71)))), (7, (.pointer (some (blk b74)))), (21, (.pointer (some (blk i21)))), (34, (.pointer (some (blk i48))))]) ⟨rfl, rfl, rfl, rfl, rfl, rfl, trivial⟩
    obtain ⟨l81, C84, C86, C89, C91, F93, H95, D97, h⟩ := h
    obtain ⟨R79, h123, h83, h88, h99, h118, h119, h120, h121⟩ := h
    refine c_anyF (V := [(0, (.pointer (some (blk b14)))), (1, (.pointer (some (blk b14)))), (2, (.pointer (some ((blk b14).add 1)))), (3, (.map l81)), (4, (.string k35)), (6, (.agg #[(.i C84), (.i C86)])), (7, (.agg #[(.i C89), (.i C91), (.bool F93), (.bool H95), D97.v]))]) 3 (⟨⟨[[], [0], [1], [2], [], [3, 4], [], [], [7], [0, 1, 2, 3, 4, 5, 6, 7, 8]], [some 40, some 41, some 42, some 43, some 44, some 45, some 46, some 47, some 48, none], [5, 8, 9], [], []⟩, [[], [], [], [], [], [], [], [], [], [5, 8]], [[5, 9], [5, 9], [5, 9], [5, 9], [5, 9], [9], [9], [8, 9], [9], []]⟩ : Rh) [(3, (.pointer (some (blk b14)))), (4, (.string k35)), (6, (.pointer (some (blk b71)))), (7, (.pointer (some (blk b74)))), (21, (.pointer (some (blk i21)))), (34, (.pointer (some (blk i48))))] mixed (by kernel_rfl) H fun F124 h122 => ?_
    clear H a
    have st_5_8_9 : ∀ (m100 : Option Nat) (C104 : Int) (C105 : Int) (F106 : Bool) (H107 : Bool) (D108 : Slc) (w80 : World), R79 (some m100) (some (C104, C105, F106, H107, D108)) (some ()) w80 → F124 0 [5, 8, 9] [(0, (.pointer (some (blk b14)))), (1, (.pointer (some (blk b14)))), (2, (.pointer (some ((blk b14).add 1)))), (3, (.map l81)), (4, (.string k35)), (5, (.map m100)), (6, (.agg #[(.i C84), (.i C86)])), (7, (.agg #[(.i C89), (.i C91), (.bool F93), (.bool H95), D97.v])), (8, (.agg #[(.i C104), (.i C105), (.bool F106), (.bool H107), D108.v])), (9, undef)] w80 := by
     intro m100 C104 C105 F106 H107 D108 w80 hr
     rw [h122]
     refine StT.last [] (by kernel_rfl) (by kernel_rfl) .nil ?_
     ·intro a H
      have h := h121 m100 C104 C105 F106 H107 D108 w80 hr
      replace H := H.weaken (L' := [(3, (.pointer (some (blk b14)))), (4, (.string k35)), (21, (.pointer (some (blk i21)))), (34, (.pointer (some (blk i48))))]) ⟨rfl, rfl, rfl, rfl, trivial⟩
      refine Exists.intro () ⟨h.1, h.2, H.weaken ⟨rfl, rfl, rfl, rfl, trivial⟩⟩
    have st_5_8 : ∀ (m100 : Option Nat) (C104 : Int) (C105 : Int) (F106 : Bool) (H107 : Bool) (D108 : Slc) (w80 : World), R79 (some m100) (some (C104, C105, F106, H107, D108)) none w80 → F124 1 [5, 8] [(0, (.pointer (some (blk b14)))), (1, (.pointer (some (blk b14)))), (2, (.pointer (some ((blk b14).add 1)))), (3, (.map l81)), (4, (.string k35)), (5, (.map m100)), (6, (.agg #[(.i C84), (.i C86)])), (7, (.agg #[(.i C89), (.i C91), (.bool F93), (.bool H95), D97.v])), (8, (.agg #[(.i C104), (.i C105), (.bool F106), (.bool H107), D108.v]))] w80 := by
     intro m100 C104 C105 F106 H107 D108 w80 hr
     rw [h122]
     refine StT.more [6] [9] (by kernel_rfl) (by kernel_rfl) (by kernel_rfl) (.cons ?_ .nil) (.cons ?_ .nil)
     ·refine Ans.mk rfl rfl fun a H => ?_
      replace H := H.weaken (L' := [(6, (.pointer (some (blk b71))))]) ⟨rfl, trivial⟩
      obtain ⟨hc85, hc87⟩ := h88 (some m100) (some (C104, C105, F106, H107, D108)) w80 hr
      refine s_loadN (l := [(.i C84), (.i C86)]) H rfl rfl agg_33 rfl ⟨hc85, hc87, trivial⟩ (lt_ rfl) fun a H => c_nil ⟨rfl, rfl, H.weaken (L' := [(46, (.agg #[(.i C84), (.i C86)]))]) ⟨rfl, trivial⟩⟩
     ·refine ⟨_, rfl, fun a H => ?_⟩
      replace H := H.weaken (L' := [(45, (.map m100)), (46, (.agg #[(.i C84), (.i C86)])), (48, (.agg #[(.i C104), (.i C105), (.bool F106), (.bool H107), D108.v]))]) ⟨rfl, rfl, rfl, trivial⟩
      have h := h120 m100 C104 C105 F106 H107 D108 w80 hr
      obtain ⟨w113, h114, h⟩ := h
      refine s_mup H rfl rfl rfl rfl h114 ?_
      clear H h114
      intro H
      refine c_nil <| effQ.ok (v := undef) (H.weaken (L' := []) trivial) ⟨[(0, (.pointer (some (blk b14)))), (1, (.pointer (some (blk b14)))), (2, (.pointer (some ((blk b14).add 1)))), (3, (.map l81)), (4, (.string k35)), (5, (.map m100)), (6, (.agg #[(.i C84), (.i C86)])), (7, (.agg #[(.i C89), (.i C91), (.bool F93), (.bool H95), D97.v])), (8, (.agg #[(.i C104), (.i C105), (.bool F106), (.bool H107), D108.v])), (9, undef)], ⟨rfl, rfl, rfl, rfl, rfl, rfl, rfl, rfl, rfl, rfl, trivial⟩, ?_⟩
      have hx := st_5_8_9 m100 C104 C105 F106 H107 D108 w113 h
      rw [h122] at hx
      exact hx
    have st_5 : ∀ (m100 : Option Nat) (w80 : World), R79 (some m100) none none w80 → F124 2 [5] [(0, (.pointer (some (blk b14)))), (1, (.pointer (some (blk b14)))), (2, (.pointer (some ((blk b14).add 1)))), (3, (.map l81)), (4, (.string k35)), (5, (.map m100)), (6, (.agg #[(.i C84), (.i C86)])), (7, (.agg #[(.i C89), (.i C91), (.bool F93), (.bool H95), D97.v]))] w80 := by
     intro m100 w80 hr
     rw [h122]
     refine StT.more [6, 7] [8] (by kernel_rfl) (by kernel_rfl) (by kernel_rfl) (.cons ?_ (.cons ?_ .nil)) (.cons ?_ .nil)
     ·refine Ans.mk rfl rfl fun a H => ?_
      replace H := H.weaken (L' := [(6, (.pointer (some (blk b71))))]) ⟨rfl, trivial⟩
      obtain ⟨hc85, hc87⟩ := h88 (some m100) none w80 hr
      refine s_loadN (l := [(.i C84), (.i C86)]) H rfl rfl agg_33 rfl ⟨hc85, hc87, trivial⟩ (lt_ rfl) fun a H => c_nil ⟨rfl, rfl, H.weaken (L' := [(46, (.agg #[(.i C84), (.i C86)]))]) ⟨rfl, trivial⟩⟩
     ·refine Ans.mk rfl rfl fun a H => ?_
      replace H := H.weaken (L' := [(7, (.pointer (some (blk b74))))]) ⟨rfl, trivial⟩
      obtain ⟨hc90, hc92, hc94, hc96, hc98⟩ := h99 (some m100) w80 hr
      refine s_loadN (l := [(.i C89), (.i C91), (.bool F93), (.bool H95), D97.v]) H rfl rfl agg_36 rfl ⟨hc90, hc92, hc94, hc96, hc98, trivial⟩ (lt_ rfl) fun a H => c_nil ⟨rfl, rfl, H.weaken (L' := [(47, (.agg #[(.i C89), (.i C91), (.bool F93), (.bool H95), D97.v]))]) ⟨rfl, trivial⟩⟩
     ·refine ⟨_, rfl, fun a H => ?_⟩
      replace H := H.weaken (L' := [(47, (.agg #[(.i C89), (.i C91), (.bool F93), (.bool H95), D97.v]))]) ⟨rfl, trivial⟩
      have h := h119 (some m100) w80 hr
      refine s_call H rfl body_11 (H.args (vs := [(.agg #[(.i C89), (.i C91), (.bool F93), (.bool H95), D97.v])]) rfl) (lt_ rfl) h ?_ (fun c w' h H => e_panic (P := PP) (fn := Tryz.f6) H h)
      clear H h a
      rintro _ w103 a ⟨C104, C105, F106, H107, D108, rfl, h⟩ H
      refine c_nil ?_
      refine effQ.ok (v := (.agg #[(.i C104), (.i C105), (.bool F106), (.bool H107), D108.v])) (H.weaken (L' := [(48, (.agg #[(.i C104), (.i C105), (.bool F106), (.bool H107), D108.v]))]) ⟨rfl, trivial⟩) ⟨[(0, (.pointer (some (blk b14)))), (1, (.pointer (some (blk b14)))), (2, (.pointer (some ((blk b14).add 1)))), (3, (.map l81)), (4, (.string k35)), (5, (.map m100)), (6, (.agg #[(.i C84), (.i C86)])), (7, (.agg #[(.i C89), (.i C91), (.bool F93), (.bool H95), D97.v])), (8, (.agg #[(.i C104), (.i C105), (.bool F106), (.bool H107), D108.v]))], ⟨rfl, rfl, rfl, rfl, rfl, rfl, rfl, rfl, rfl, trivial⟩, ?_⟩
      have hx := st_5_8 m100 C104 C105 F106 H107 D108 w103 h
      rw [h122] at hx
      exact hx
    have st_8 : ∀ (C104 : Int) (C105 : Int) (F106 : Bool) (H107 : Bool) (D108 : Slc) (w80 : World), R79 none (some (C104, C105, F106, H107, D108)) none w80 → F124 2 [8] [(0, (.pointer (some (blk b14)))), (1, (.pointer (some (blk b14)))), (2, (.pointer (some ((blk b14).add 1)))), (3, (.map l81)), (4, (.string k35)), (6, (.agg #[(.i C84), (.i C86)])), (7, (.agg #[(.i C89), (.i C91), (.bool F93), (.bool H95), D97.v])), (8, (.agg #[(.i C104), (.i C105), (.bool F106), (.bool H107), D108.v]))] w80 := by
     intro C104 C105 F106 H107 D108 w80 hr
     rw [h122]
     refine StT.more [0, 1, 2, 3, 4, 6] [5] (by kernel_rfl) (by kernel_rfl) (by kernel_rfl) (.cons ?_ (.cons ?_ (.cons ?_ (.cons ?_ (.cons ?_ (.cons ?_ .nil)))))) (.cons ?_ .nil)
     ·refine Ans.mk rfl rfl fun a H => ?_
      replace H := H.weaken (L' := [(3, (.pointer (some (blk b14))))]) ⟨rfl, trivial⟩
      refine s_move H rfl rfl (lt_ rfl) fun a H => c_nil ⟨rfl, rfl, H.weaken (L' := [(40, (.pointer (some (blk b14))))]) ⟨rfl, trivial⟩⟩
     ·refine Ans.mk rfl rfl fun a H => ?_
      replace H := H.weaken (L' := [(40, (.pointer (some (blk b14))))]) ⟨rfl, trivial⟩
      refine s_nil H rfl rfl (lt_ rfl) fun a H => c_nil ⟨rfl, rfl, H.weaken (L' := [(41, (.pointer (some (blk b14))))]) ⟨rfl, trivial⟩⟩
     ·refine Ans.mk rfl rfl fun a H => ?_
      replace H := H.weaken (L' := [(41, (.pointer (some (blk b14))))]) ⟨rfl, trivial⟩
      refine s_fld H rfl rfl fld_52_1 (lt_ rfl) fun a H => c_nil ⟨rfl, rfl, H.weaken (L' := [(42, (.pointer (some ((blk b14).add 1))))]) ⟨rfl, trivial⟩⟩
     ·refine Ans.mk rfl rfl fun a H => ?_
      replace H := H.weaken (L' := [(42, (.pointer (some ((blk b14).add 1))))]) ⟨rfl, trivial⟩
      obtain hc82 := h83 (some (C104, C105, F106, H107, D108)) w80 hr
      refine s_load (v := (.map l81)) H rfl rfl one_50 hc82 (lt_ rfl) fun a H => c_nil ⟨rfl, rfl, H.weaken (L' := [(43, (.map l81))]) ⟨rfl, trivial⟩⟩
     ·refine Ans.mk rfl rfl fun a H => ?_
      replace H := H.weaken (L' := [(4, (.string k35))]) ⟨rfl, trivial⟩
      refine s_move H rfl rfl (lt_ rfl) fun a H => c_nil ⟨rfl, rfl, H.weaken (L' := [(44, (.string k35))]) ⟨rfl, trivial⟩⟩
     ·refine Ans.mk rfl rfl fun a H => ?_
      replace H := H.weaken (L' := [(6, (.pointer (some (blk b71))))]) ⟨rfl, trivial⟩
      obtain ⟨hc85, hc87⟩ := h88 none (some (C104, C105, F106, H107, D108)) w80 hr
      refine s_loadN (l := [(.i C84), (.i C86)]) H rfl rfl agg_33 rfl ⟨hc85, hc87, trivial⟩ (lt_ rfl) fun a H => c_nil ⟨rfl, rfl, H.weaken (L' := [(46, (.agg #[(.i C84), (.i C86)]))]) ⟨rfl, trivial⟩⟩
     ·refine ⟨_, rfl, fun a H => ?_⟩
      replace H := H.weaken (L' := [(43, (.map l81)), (44, (.string k35))]) ⟨rfl, rfl, trivial⟩
      have h := h118 (some (C104, C105, F106, H107, D108)) w80 hr
      obtain ⟨_, h102, m100, rfl, h⟩ := h
      refine s_lkp H rfl rfl rfl h102 (lt_ rfl) ?_
      clear H a h102
      intro a H
      refine c_nil ?_
      refine effQ.ok (v := (.map m100)) (H.weaken (L' := [(45, (.map m100))]) ⟨rfl, trivial⟩) ⟨[(0, (.pointer (some (blk b14)))), (1, (.pointer (some (blk b14)))), (2, (.pointer (some ((blk b14).add 1)))), (3, (.map l81)), (4, (.string k35)), (5, (.map m100)), (6, (.agg #[(.i C84), (.i C86)])), (7, (.agg #[(.i C89), (.i C91), (.bool F93), (.bool H95), D97.v])), (8, (.agg #[(.i C104), (.i C105), (.bool F106), (.bool H107), D108.v]))], ⟨rfl, rfl, rfl, rfl, rfl, rfl, rfl, rfl, rfl, trivial⟩, ?_⟩
      have hx := st_5_8 m100 C104 C105 F106 H107 D108 w80 h
      rw [h122] at hx
      exact hx
    have st_ : ∀ (w80 : World), R79 none none none w80 → F124 3 [] [(0, (.pointer (some (blk b14)))), (1, (.pointer (some (blk b14)))), (2, (.pointer (some ((blk b14).add 1)))), (3, (.map l81)), (4, (.string k35)), (6, (.agg #[(.i C84), (.i C86)])), (7, (.agg #[(.i C89), (.i C91), (.bool F93), (.bool H95), D97.v]))] w80 := by
     intro w80 hr
     rw [h122]
     refine StT.more [0, 1, 2, 3, 4, 6, 7] [5, 8] (by kernel_rfl) (by kernel_rfl) (by kernel_rfl) (.cons ?_ (.cons ?_ (.cons ?_ (.cons ?_ (.cons ?_ (.cons ?_ (.cons ?_ .nil))))))) (.cons ?_ (.cons ?_ .nil))
     ·refine Ans.mk rfl rfl fun a H => ?_
      replace H := H.weaken (L' := [(3, (.pointer (some (blk b14))))]) ⟨rfl, trivial⟩
      refine s_move H rfl rfl (lt_ rfl) fun a H => c_nil ⟨rfl, rfl, H.weaken (L' := [(40, (.pointer (some (blk b14))))]) ⟨rfl, trivial⟩⟩
     ·refine Ans.mk rfl rfl fun a H => ?_
      replace H := H.weaken (L' := [(40, (.pointer (some (blk b14))))]) ⟨rfl, trivial⟩
      refine s_nil H rfl rfl (lt_ rfl) fun a H => c_nil ⟨rfl, rfl, H.weaken (L' := [(41, (.pointer (some (blk b14))))]) ⟨rfl, trivial⟩⟩
     ·refine Ans.mk rfl rfl fun a H => ?_
      replace H := H.weaken (L' := [(41, (.pointer (some (blk b14))))]) ⟨rfl, trivial⟩
      refine s_fld H rfl rfl fld_52_1 (lt_ rfl) fun a H => c_nil ⟨rfl, rfl, H.weaken (L' := [(42, (.pointer (some ((blk b14).add 1))))]) ⟨rfl, trivial⟩⟩
     ·refine Ans.mk rfl rfl fun a H => ?_
      replace H := H.weaken (L' := [(42, (.pointer (some ((blk b14).add 1))))]) ⟨rfl, trivial⟩
      obtain hc82 := h83 none w80 hr
      refine s_load (v := (.map l81)) H rfl rfl one_50 hc82 (lt_ rfl) fun a H => c_nil ⟨rfl, rfl, H.weaken (L' := [(43, (.map l81))]) ⟨rfl, trivial⟩⟩
     ·refine Ans.mk rfl rfl fun a H => ?_
      replace H := H.weaken (L' := [(4, (.string k35))]) ⟨rfl, trivial⟩
      refine s_move H rfl rfl (lt_ rfl) fun a H => c_nil ⟨rfl, rfl, H.weaken (L' := [(44, (.string k35))]) ⟨rfl, trivial⟩⟩
     ·refine Ans.mk rfl rfl fun a H => ?_
      replace H := H.weaken (L' := [(6, (.pointer (some (blk b71))))]) ⟨rfl, trivial⟩
      obtain ⟨hc85, hc87⟩ := h88 none none w80 hr
      refine s_loadN (l := [(.i C84), (.i C86)]) H rfl rfl agg_33 rfl ⟨hc85, hc87, trivial⟩ (lt_ rfl) fun a H => c_nil ⟨rfl, rfl, H.weaken (L' := [(46, (.agg #[(.i C84), (.i C86)]))]) ⟨rfl, trivial⟩⟩
     ·refine Ans.mk rfl rfl fun a H => ?_
      replace H := H.weaken (L' := [(7, (.pointer (some (blk b74))))]) ⟨rfl, trivial⟩
      obtain ⟨hc90, hc92, hc94, hc96, hc98⟩ := h99 none w80 hr
      refine s_loadN (l := [(.i C89), (.i C91), (.bool F93), (.bool H95), D97.v]) H rfl rfl agg_36 rfl ⟨hc90, hc92, hc94, hc96, hc98, trivial⟩ (lt_ rfl) fun a H => c_nil ⟨rfl, rfl, H.weaken (L' := [(47, (.agg #[(.i C89), (.i C91), (.bool F93), (.bool H95), D97.v]))]) ⟨rfl, trivial⟩⟩
     ·refine ⟨_, rfl, fun a H => ?_⟩
      replace H := H.weaken (L' := [(43, (.map l81)), (44, (.string k35))]) ⟨rfl, rfl, trivial⟩
      have h := h118 none w80 hr
      obtain ⟨_, h102, m100, rfl, h⟩ := h
      refine s_lkp H rfl rfl rfl h102 (lt_ rfl) ?_
      clear H a h102
      intro a H
      refine c_nil <| effQ.ok (v := (.map m100)) (H.weaken (L' := [(45, (.map m100))]) ⟨rfl, trivial⟩) ⟨[(0, (.pointer (some (blk b14)))), (1, (.pointer (some (blk b14)))), (2, (.pointer (some ((blk b14).add 1)))), (3, (.map l81)), (4, (.string k35)), (5, (.map m100)), (6, (.agg #[(.i C84), (.i C86)])), (7, (.agg #[(.i C89), (.i C91), (.bool F93), (.bool H95), D97.v]))], ⟨rfl, rfl, rfl, rfl, rfl, rfl, rfl, rfl, trivial⟩, ?_⟩
      have hx := st_5 m100 w80 h
      rw [h122] at hx
      exact hx
     ·refine ⟨_, rfl, fun a H => ?_⟩
      replace H := H.weaken (L' := [(47, (.agg #[(.i C89), (.i C91), (.bool F93), (.bool H95), D97.v]))]) ⟨rfl, trivial⟩
      have h := h119 none w80 hr
      refine s_call H rfl body_11 (H.args (vs := [(.agg #[(.i C89), (.i C91), (.bool F93), (.bool H95), D97.v])]) rfl) (lt_ rfl) h ?_ (fun c w' h H => e_panic (P := PP) (fn := Tryz.f6) H h)
      clear H h a
      rintro _ w103 a ⟨C104, C105, F106, H107, D108, rfl, h⟩ H
      refine c_nil ?_
      refine effQ.ok (v := (.agg #[(.i C104), (.i C105), (.bool F106), (.bool H107), D108.v])) (H.weaken (L' := [(48, (.agg #[(.i C104), (.i C105), (.bool F106), (.bool H107), D108.v]))]) ⟨rfl, trivial⟩) ⟨[(0, (.pointer (some (blk b14)))), (1, (.pointer (some (blk b14)))), (2, (.pointer (some ((blk b14).add 1)))), (3, (.map l81)), (4, (.string k35)), (6, (.agg #[(.i C84), (.i C86)])), (7, (.agg #[(.i C89), (.i C91), (.bool F93), (.bool H95), D97.v])), (8, (.agg #[(.i C104), (.i C105), (.bool F106), (.bool H107), D108.v]))], ⟨rfl, rfl, rfl, rfl, rfl, rfl, rfl, rfl, trivial⟩, ?_⟩
      have hx := st_8 C104 C105 F106 H107 D108 w103 h
      rw [h122] at hx
      exact hx
    exact st_ _ h123
   ·replace h := h.2 h60
    refine c_exit ?_
    first | (simp only [Exit.then, Exit.inBlock, ↓reduceIte]; fail_if_success simp only [Nat.reduceEqDiff]) | simp only [Exit.then, Exit.inBlock, ↓reduceIte, Nat.reduceEqDiff]
    refine Exists.intro () ⟨h.1, h.2, H.weaken ⟨rfl, rfl, trivial⟩⟩
  ·replace h := h.2 h33
   refine c_exit ?_
   first | (simp only [Exit.then, Exit.inBlock, ↓reduceIte]; fail_if_success simp only [Nat.reduceEqDiff]) | simp only [Exit.then, Exit.inBlock, ↓reduceIte, Nat.reduceEqDiff]
   refine hK17 _ _ <| c_seq fun K127 hK127 => c_reg <| s_move H rfl rfl (lt_ rfl) fun a H => s_assign H rfl rfl (lt_ rfl) fun a H => c_nil <| hK127 _ _ <| c_ret ?_
   exact e_ret1 H rfl rfl h

theorem sim_sherdref15_Table_Copy (t1 : Option Addr) (w : World) (Q : Ending → World → Prop) (h : vc_sherdref15_Table_Copy t1 w Q) : Calls PP F_sherdref15_Table_Copy #[(.pointer t1)] w Q := by
 unfold vc_sherdref15_Table_Copy at h
 refine enter (n := 40) Tryz.func7 rfl rfl (Nat.le_of_ble_eq_true rfl) fun a H => c_seq fun K2 hK2 => c_reg <| s_assign H rfl rfl (lt_ rfl) fun a H => c_nil <| hK2 _ _ <| c_seq fun K3 hK3 => c_seq fun K4 hK4 => c_reg <| s_move H rfl rfl (lt_ rfl) fun a H => s_bin H rfl rfl rfl (r_eqP0 ptr_25) (lt_ rfl) fun a H => c_nil <| hK4 _ _ <| c_cond H rfl (fun h5 => ?_) (fun h5 => ?_)
 ·replace h := h.1 h5
  refine c_seq fun K6 hK6 => c_reg <| s_assign H rfl rfl (lt_ rfl) fun a H => c_nil <| hK6 _ _ <| c_ret ?_
  exact e_ret1 H rfl rfl h
 ·replace h := h.2 h5
  refine c_skip <| hK3 _ _ <| c_seq fun K7 hK7 => c_reg <| s_move H rfl rfl (lt_ rfl) fun a H => ?_
  obtain ⟨a8, h86, h⟩ := h
  revert H
  subst h86
  intro H
  refine s_nil H rfl rfl (lt_ rfl) fun a H => s_fld H rfl rfl fld_49_0 (lt_ rfl) fun a H => ?_
  obtain ⟨l9, hc10, h⟩ := h
  refine s_load (v := (.i l9)) H rfl rfl one_3 hc10 (lt_ rfl) fun a H => s_build H rfl (by rw [H.parts (vs := [(0, (.i l9))]) rfl]; exact bd_49_ii640 w l9) (lt_ rfl) fun a H => ?_
  replace h := h.get
  obtain ⟨b11, w12, n13, h⟩ := h
  refine s_box H rfl rfl (lt_ rfl) ?_
  rw [← n13.at_]
  clear H a
  intro a H
  refine n13.go <| s_assign H rfl rfl (lt_ rfl) fun a H => c_nil <| hK7 _ _ <| c_seq fun K14 hK14 => c_seq fun K15 hK15 => c_reg <| s_move H rfl rfl (lt_ rfl) fun a H => s_nil H rfl rfl (lt_ rfl) fun a H => s_fld H rfl rfl fld_49_1 (lt_ rfl) fun a H => ?_
  obtain ⟨l16, hc17, h⟩ := h
  refine s_load (v := l16.v) H rfl rfl one_47 hc17 (lt_ rfl) fun a H => s_blt H rfl (H.args (vs := [l16.v]) rfl) (lt_ rfl) (fun cs => b_lenS (z := l16) sl_47) fun a H => s_move H rfl rfl (lt_ rfl) fun a H => c_nil <| hK15 _ _ <| c_block ?_
  obtain ⟨I20, m21, h84, h85⟩ := h
  refine c_loop (σ := Int) (fun z w => I20 z w) (fun z w => m21 z w) (fun z => [(3, (.pointer (some (blk b11)))), (17, l16.v), (18, (.i (l16.l : Int))), (19, (.i z))]) 0 h84 (H.weaken ⟨rfl, rfl, rfl, rfl, trivial⟩) ?_
  clear H h84
  rintro s18 a w19 h H
  replace h := h85 s18 w19 h
  clear h85
  replace H : Has 40 [] a [(3, (.pointer (some (blk b11)))), (17, l16.v), (18, (.i (l16.l : Int))), (19, (.i s18))] := H
  refine c_seq fun K22 hK22 => c_reg <| s_bin H rfl rfl rfl r_lss (lt_ rfl) fun a H => c_nil <| hK22 _ _ <| c_seq fun K23 hK23 => c_cond H rfl (fun h24 => ?_) (fun h24 => ?_)
  ·replace h := h.1 h24
   refine c_skip <| hK23 _ _ <| c_seq fun K25 hK25 => c_block <| c_seq fun K26 hK26 => c_reg ?_
   obtain ⟨a27, h28, h29, h30, h⟩ := h
   refine s_idxS (s := l16) H rfl rfl rfl slc_47 h28 h29 h30 (lt_ rfl) fun a H => ?_
   obtain ⟨K31, hc32, C33, hc34, C35, hc36, F37, hc38, H39, hc40, D41, hc42, h⟩ := h
   refine s_loadN (l := [(.string K31), (.i C33), (.i C35), (.bool F37), (.bool H39), D41.v]) H rfl rfl agg_57 rfl ⟨hc32, hc34, hc36, hc38, hc40, hc42, trivial⟩ (lt_ rfl) fun a H => ?_
   replace h := h.get
   obtain ⟨b43, w44, n45, h⟩ := h
   refine s_alloc H rfl zero_57 (lt_ rfl) ?_
   rw [← n45.at_]
   clear H a
   intro a H
   refine n45.go <| s_stoN (l := [(.string K31), (.i C33), (.i C35), (.bool F37), (.bool H39), D41.v]) H rfl rfl rfl rfl agg_57 rfl rfl h ?_
   clear h H
   intro w46 h H
   refine c_nil <| hK26 _ _ ?_
   replace H := H.weaken (L' := [(3, (.pointer (some (blk b11)))), (5, (.pointer (some (blk b43)))), (17, l16.v), (18, (.i (l16.l : Int))), (19, (.i s18))]) ⟨rfl, rfl, rfl, rfl, rfl, trivial⟩
   obtain ⟨l47, hc48, l49, hc50, C51, hc52, C53, hc54, F55, hc56, H57, hc58, D59, hc60, h⟩ := h
   refine c_any (V := [(0, (.pointer (some (blk b11)))), (1, (.pointer (some (blk b11)))), (2, (.pointer (some (blk b11)))), (3, (.pointer (some ((blk b11).add 1)))), (4, l47.v), (5, (.pointer (some ((blk b43).add 0)))), (6, (.string l49)), (7, (.pointer (some ((blk b43).add 1)))), (8, (.agg #[(.i C51), (.i C53), (.bool F55), (.bool H57), D59.v]))]) (⟨[[], [], [1], [2], [3], [], [5], [], [7], [8], [6, 9], [10], [4, 9, 11], [0, 1, 2, 3, 4, 5, 6, 7, 8, 9, 10, 11, 12], [0, 1, 2, 3, 4, 5, 6, 7, 8, 9, 10, 11, 12, 13], [0, 1, 2, 3, 4, 5, 6, 7, 8, 9, 10, 11, 12, 14]], [some 23, some 24, some 25, some 26, some 27, some 28, some 29, some 30, some 31, some 32, some 33, some 34, some 35, some 36, some 37, none], [9, 11, 12, 15], [0, 0, 0, 0, 0, 0, 0, 0, 0, 0, 1, 1, 2, 3, 3, 3], [3, 2, 2, 2, 2, 1, 1, 0, 0, 1, 1, 2, 3, 3, 3, 4]⟩ : Rg) [(3, (.pointer (some (blk b11)))), (5, (.pointer (some (blk b43)))), (17, l16.v), (18, (.i (l16.l : Int))), (19, (.i s18))] mixed (by kernel_rfl) H ?_
   refine Stg.eff [0, 1, 2, 3, 4, 5, 6, 7, 8] (by kernel_rfl) rfl (.cons ?_ (.cons ?_ (.cons ?_ (.cons ?_ (.cons ?_ (.cons ?_ (.cons ?_ (.cons ?_ (.cons ?_ .nil))))))))) ?_
   ·refine Ans.mk rfl rfl fun a H => s_move H rfl rfl (lt_ rfl) fun a H => ?_
    exact Ans.fin H rfl
   ·refine Ans.mk rfl rfl fun a H => s_move H rfl rfl (lt_ rfl) fun a H => ?_
    exact Ans.fin H rfl
   ·refine Ans.mk rfl rfl fun a H => s_nil H rfl rfl (lt_ rfl) fun a H => ?_
    exact Ans.fin H rfl
   ·refine Ans.mk rfl rfl fun a H => s_fld H rfl rfl fld_49_1 (lt_ rfl) fun a H => ?_
    exact Ans.fin H rfl
   ·refine Ans.mk rfl rfl fun a H => s_load (v := l47.v) H rfl rfl one_47 hc48 (lt_ rfl) fun a H => ?_
    exact Ans.fin H rfl
   ·refine Ans.mk rfl rfl fun a H => s_fld H rfl rfl fld_57_0 (lt_ rfl) fun a H => ?_
    exact Ans.fin H rfl
   ·refine Ans.mk rfl rfl fun a H => s_load (v := (.string l49)) H rfl rfl one_9 hc50 (lt_ rfl) fun a H => ?_
    exact Ans.fin H rfl
   ·refine Ans.mk rfl rfl fun a H => s_fld H rfl rfl fld_57_1 (lt_ rfl) fun a H => ?_
    exact Ans.fin H rfl
   ·refine Ans.mk rfl rfl fun a H => s_loadN (l := [(.i C51), (.i C53), (.bool F55), (.bool H57), D59.v]) H rfl rfl agg_36 rfl ⟨hc52, hc54, hc56, hc58, hc60, trivial⟩ (lt_ rfl) fun a H => ?_
    exact Ans.fin H rfl
   ·intro a H
    replace H := H.weaken (L' := [(31, (.agg #[(.i C51), (.i C53), (.bool F55), (.bool H57), D59.v]))]) ⟨rfl, trivial⟩
    refine s_call H rfl body_12 (H.args (vs := [(.agg #[(.i C51), (.i C53), (.bool F55), (.bool H57), D59.v])]) rfl) (lt_ rfl) h ?_ (fun c w' h H => e_panic (P := PP) (fn := Tryz.f7) H h)
    clear H h a
    rintro _ w61 a ⟨C62, C63, F64, H65, D66, rfl, h⟩ H
    refine c_nil ?_
    obtain ⟨hc67, hc68, h⟩ := h
    refine effQ.go [(10, (.agg #[(.string l49), (.i C62), (.i C63), (.bool F64), (.bool H65), D66.v]))] H rfl rfl <| Stg.eff [0, 1, 2, 3, 4, 5, 6, 10] (by kernel_rfl) rfl (.cons ?_ (.cons ?_ (.cons ?_ (.cons ?_ (.cons ?_ (.cons ?_ (.cons ?_ (.cons ?_ .nil)))))))) ?_
    ·refine Ans.mk rfl rfl fun a H => s_move H rfl rfl (lt_ rfl) fun a H => ?_
     exact Ans.fin H rfl
    ·refine Ans.mk rfl rfl fun a H => s_move H rfl rfl (lt_ rfl) fun a H => ?_
     exact Ans.fin H rfl
    ·refine Ans.mk rfl rfl fun a H => s_nil H rfl rfl (lt_ rfl) fun a H => ?_
     exact Ans.fin H rfl
    ·refine Ans.mk rfl rfl fun a H => s_fld H rfl rfl fld_49_1 (lt_ rfl) fun a H => ?_
     exact Ans.fin H rfl
    ·refine Ans.mk rfl rfl fun a H => s_load (v := l47.v) H rfl rfl one_47 hc67 (lt_ rfl) fun a H => ?_
     exact Ans.fin H rfl
    ·refine Ans.mk rfl rfl fun a H => s_fld H rfl rfl fld_57_0 (lt_ rfl) fun a H => ?_
     exact Ans.fin H rfl
    ·refine Ans.mk rfl rfl fun a H => s_load (v := (.string l49)) H rfl rfl one_9 hc68 (lt_ rfl) fun a H => ?_
     exact Ans.fin H rfl
    ·refine Ans.mk rfl rfl fun a H => s_build H rfl (by rw [H.parts (vs := [(0, (.string l49)), (1, (.agg #[(.i C62), (.i C63), (.bool F64), (.bool H65), D66.v]))]) rfl]; exact bd_57_s0_ii64ii64bbs1 w61 l49 C62 C63 F64 H65 D66) (lt_ rfl) fun a H => ?_
     exact Ans.fin H rfl
    ·intro a H
     replace H := H.weaken (L' := [(33, (.agg #[(.string l49), (.i C62), (.i C63), (.bool F64), (.bool H65), D66.v]))]) ⟨rfl, trivial⟩
     replace h := h.get
     obtain ⟨b69, w70, n71, h⟩ := h
     refine s_bslc H rfl (by rw [H.parts (vs := [(0, (.agg #[(.string l49), (.i C62), (.i C63), (.bool F64), (.bool H65), D66.v]))]) rfl]; exact bs_47_1_sii64ii64bbs0 w61 l49 C62 C63 F64 H65 D66) (lt_ rfl) ?_
     rw [← n71.at_]
     clear H a
     intro a H
     refine n71.go <| c_nil ?_
     obtain ⟨hc72, h⟩ := h
     refine effQ.go [] H rfl rfl <| Stg.eff [0, 1, 2, 3, 4] (by kernel_rfl) rfl (.cons ?_ (.cons ?_ (.cons ?_ (.cons ?_ (.cons ?_ .nil))))) ?_
     ·refine Ans.mk rfl rfl fun a H => s_move H rfl rfl (lt_ rfl) fun a H => ?_
      exact Ans.fin H rfl
     ·refine Ans.mk rfl rfl fun a H => s_move H rfl rfl (lt_ rfl) fun a H => ?_
      exact Ans.fin H rfl
     ·refine Ans.mk rfl rfl fun a H => s_nil H rfl rfl (lt_ rfl) fun a H => ?_
      exact Ans.fin H rfl
     ·refine Ans.mk rfl rfl fun a H => s_fld H rfl rfl fld_49_1 (lt_ rfl) fun a H => ?_
      exact Ans.fin H rfl
     ·refine Ans.mk rfl rfl fun a H => s_load (v := l47.v) H rfl rfl one_47 hc72 (lt_ rfl) fun a H => ?_
      exact Ans.fin H rfl
     ·intro a H
      replace H := H.weaken (L' := [(27, l47.v), (34, (Slc.v (Slc.mk (some (blk b69)) 1 1)))]) ⟨rfl, rfl, trivial⟩
      obtain ⟨s73, w74, h75, h⟩ := h
      refine s_blt H rfl (H.args (vs := [l47.v, (Slc.v (Slc.mk (some (blk b69)) 1 1))]) rfl) (lt_ rfl) (fun cs => b_app (z := s73) h75) ?_
      clear H a h75
      intro a H
      refine c_nil <| effQ.go [(13, (.pointer (some (blk b11)))), (14, (.pointer (some ((blk b11).add 1))))] H rfl rfl <| Stg.eff [0, 13, 14] (by kernel_rfl) rfl (.cons ?_ (.cons ?_ (.cons ?_ .nil))) ?_
      ·refine Ans.mk rfl rfl fun a H => s_move H rfl rfl (lt_ rfl) fun a H => ?_
       exact Ans.fin H rfl
      ·refine Ans.mk rfl rfl fun a H => s_nil H rfl rfl (lt_ rfl) fun a H => ?_
       exact Ans.fin H rfl
      ·refine Ans.mk rfl rfl fun a H => s_fld H rfl rfl fld_49_1 (lt_ rfl) fun a H => ?_
       exact Ans.fin H rfl
      ·intro a H
       replace H := H.weaken (L' := [(35, s73.v), (37, (.pointer (some ((blk b11).add 1))))]) ⟨rfl, rfl, trivial⟩
       obtain ⟨h77, h78, h⟩ := h
       refine s_sto (p := (blk b11).add 1) (v := s73.v) H rfl rfl rfl rfl one_47 rfl h77 h78 ?_
       clear H
       intro H
       generalize hww76 : World.setCell w74 ((blk b11).add 1) s73.v = w76 at h ⊢
       have w76S : SetAt w74 ((blk b11).add 1) s73.v w76 := ⟨hww76.symm⟩
       clear hww76 h77 h78
       refine c_nil <| effQ.go0 [] H rfl rfl <| Stg.fin [] (by kernel_rfl) .nil ?_
       ·intro a H
        replace H := H.weaken (L' := [(3, (.pointer (some (blk b11)))), (17, l16.v), (18, (.i (l16.l : Int))), (19, (.i s18))]) ⟨rfl, rfl, rfl, rfl, trivial⟩
        refine hK25 _ _ <| c_reg <| s_bin H rfl rfl rfl r_add (lt_ rfl) fun a H => s_move H rfl rfl (lt_ rfl) fun a H => c_nil <| Exists.intro (wr .i64 (s18 + 1)) ⟨h.1, h.2, H.weaken ⟨rfl, rfl, rfl, rfl, trivial⟩⟩
  ·replace h := h.2 h24
   refine c_exit ?_
   first | (simp only [Exit.then, Exit.inBlock, ↓reduceIte]; fail_if_success simp only [Nat.reduceEqDiff]) | simp only [Exit.then, Exit.inBlock, ↓reduceIte, Nat.reduceEqDiff]
   refine hK14 _ _ <| c_seq fun K83 hK83 => c_reg <| s_move H rfl rfl (lt_ rfl) fun a H => s_assign H rfl rfl (lt_ rfl) fun a H => c_nil <| hK83 _ _ <| c_ret ?_
   exact e_ret1 H rfl rfl h

theorem sim_sherdlaw15_plays (t1 r2 : Option Addr) (K3 T4 K5 : Int) (K6 : ByteArray) (C7 C8 : Int) (F9 H10 : Bool) (D11 : Slc) (K12 : ByteArray) (C13 C14 N15 : Int) (w : World) (Q : Ending → World → Prop) (h : vc_sherdlaw15_plays t1 r2 K3 T4 K5 K6 C7 C8 F9 H10 D11 K12 C13 C14 N15 w Q) : Calls PP F_sherdlaw15_plays #[(.pointer t1), (.pointer r2), (.agg #[(.i K3), (.i T4), (.i K5), (.string K6), (.i C7), (.i C8), (.bool F9), (.bool H10), D11.v, (.string K12), (.i C13), (.i C14), (.i N15)])] w Q := by
 unfold vc_sherdlaw15_plays at h
 refine enter (n := 96) Tryz.func8 rfl rfl (Nat.le_of_ble_eq_true rfl) fun a H => c_seq fun K16 hK16 => c_reg ?_
 replace h := h.get
 obtain ⟨b17, w18, n19, h⟩ := h
 refine s_box H rfl rfl (lt_ rfl) ?_
 rw [← n19.at_]
 clear H a
 intro a H
 refine n19.go <| s_assign H rfl rfl (lt_ rfl) fun a H => c_nil <| hK16 _ _ <| c_seq fun K20 hK20 => c_seq fun K21 hK21 => c_reg <| s_fld H rfl rfl fld_40_0 (lt_ rfl) fun a H => s_load (v := (.i K3)) H rfl rfl one_3 (n19.cell (i := 0) rfl) (lt_ rfl) fun a H => c_nil <| hK21 _ _ <| c_block <| c_seq fun K22 hK22 => ?_
 obtain ⟨R24, h, h242⟩ := h
 have h239 : ∀ (a : Act) (s23 : Bool) (w25 : World), R24 s23 w25 → Has 96 [] a [(0, (.pointer t1)), (1, (.pointer r2)), (5, (.pointer (some (blk b17)))), (12, (.i K3)), (13, (.bool s23))] → K22 a w25 := by
  clear h
  intro a s23 w25 h H
  replace h := h242 s23 w25 h
  refine hK22 _ _ <| c_cond H rfl (fun h26 => ?_) (fun h26 => ?_)
  ·replace h := h.1 h26
   refine c_seq fun K27 hK27 => c_reg <| s_move H rfl rfl (lt_ rfl) fun a H => s_move H rfl rfl (lt_ rfl) fun a H => ?_
   obtain ⟨K28, hc29, T30, hc31, K32, hc33, K34, hc35, C36, hc37, C38, hc39, F40, hc41, H42, hc43, D44, hc45, K46, hc47, C48, hc49, C50, hc51, N52, hc53, h⟩ := h
   refine s_loadN (l := [(.i K28), (.i T30), (.i K32), (.string K34), (.i C36), (.i C38), (.bool F40), (.bool H42), D44.v, (.string K46), (.i C48), (.i C50), (.i N52)]) H rfl rfl agg_40 rfl ⟨hc29, hc31, hc33, hc35, hc37, hc39, hc41, hc43, hc45, hc47, hc49, hc51, hc53, trivial⟩ (lt_ rfl) fun a H => ?_
   refine s_call H rfl body_13 (H.args (vs := [(.pointer t1), (.pointer r2), (.agg #[(.i K28), (.i T30), (.i K32), (.string K34), (.i C36), (.i C38), (.bool F40), (.bool H42), D44.v, (.string K46), (.i C48), (.i C50), (.i N52)])]) rfl) (lt_ rfl) h ?_ (fun c w' h H => e_panic (P := PP) (fn := Tryz.f8) H h)
   clear H h a
   rintro _ w54 a ⟨d55, rfl, h⟩ H
   refine s_assign H rfl rfl (lt_ rfl) fun a H => c_nil <| hK27 _ _ <| c_ret ?_
   exact e_ret1 H rfl rfl h
  ·replace h := h.2 h26
   refine c_seq fun K60 hK60 => c_reg <| s_bin H rfl rfl rfl r_eql (lt_ rfl) fun a H => s_assign H rfl rfl (lt_ rfl) fun a H => c_nil <| hK60 _ _ <| c_cond H rfl (fun h61 => ?_) (fun h61 => ?_)
   ·replace h := h.1 h61
    refine c_seq fun K62 hK62 => c_reg <| s_move H rfl rfl (lt_ rfl) fun a H => s_fld H rfl rfl fld_40_3 (lt_ rfl) fun a H => ?_
    obtain ⟨l63, hc64, h⟩ := h
    refine s_load (v := (.string l63)) H rfl rfl one_9 hc64 (lt_ rfl) fun a H => s_fld H rfl rfl fld_40_4 (lt_ rfl) fun a H => ?_
    obtain ⟨C65, hc66, C67, hc68, h⟩ := h
    refine s_loadN (l := [(.i C65), (.i C67)]) H rfl rfl agg_33 rfl ⟨hc66, hc68, trivial⟩ (lt_ rfl) fun a H => s_call H rfl body_14 (H.args (vs := [(.pointer t1), (.string l63), (.agg #[(.i C65), (.i C67)])]) rfl) (lt_ rfl) h ?_ (fun c w' h H => e_panic (P := PP) (fn := Tryz.f8) H h)
    clear H h a
    rintro _ w69 a ⟨C70, C71, F72, H73, D74, G75, rfl, h⟩ H
    refine s_move H rfl rfl (lt_ rfl) fun a H => s_ext H rfl rfl rfl (lt_ rfl) fun a H => s_ext H rfl rfl rfl (lt_ rfl) fun a H => ?_
    replace h := h.get
    obtain ⟨b76, w77, n78, h⟩ := h
    refine s_alloc H rfl zero_36 (lt_ rfl) ?_
    rw [← n78.at_]
    clear H a
    intro a H
    refine n78.go <| s_stoN (l := [(.i C70), (.i C71), (.bool F72), (.bool H73), D74.v]) H rfl rfl rfl rfl agg_36 rfl rfl h ?_
    clear h H
    intro w79 h H
    refine s_assign H rfl rfl (lt_ rfl) fun a H => c_nil <| hK62 _ _ <| c_seq fun K80 hK80 => c_reg <| s_move H rfl rfl (lt_ rfl) fun a H => s_fld H rfl rfl fld_40_3 (lt_ rfl) fun a H => ?_
    obtain ⟨l81, hc82, h⟩ := h
    refine s_load (v := (.string l81)) H rfl rfl one_9 hc82 (lt_ rfl) fun a H => s_fld H rfl rfl fld_40_4 (lt_ rfl) fun a H => ?_
    obtain ⟨C83, hc84, C85, hc86, h⟩ := h
    refine s_loadN (l := [(.i C83), (.i C85)]) H rfl rfl agg_33 rfl ⟨hc84, hc86, trivial⟩ (lt_ rfl) fun a H => s_call H rfl body_15 (H.args (vs := [(.pointer r2), (.string l81), (.agg #[(.i C83), (.i C85)])]) rfl) (lt_ rfl) h ?_ (fun c w' h H => e_panic (P := PP) (fn := Tryz.f8) H h)
    clear H h a
    rintro _ w87 a ⟨C88, C89, F90, H91, D92, G93, rfl, h⟩ H
    refine s_move H rfl rfl (lt_ rfl) fun a H => s_ext H rfl rfl rfl (lt_ rfl) fun a H => s_ext H rfl rfl rfl (lt_ rfl) fun a H => ?_
    replace h := h.get
    obtain ⟨b94, w95, n96, h⟩ := h
    refine s_alloc H rfl zero_36 (lt_ rfl) ?_
    rw [← n96.at_]
    clear H a
    intro a H
    refine n96.go <| s_stoN (l := [(.i C88), (.i C89), (.bool F90), (.bool H91), D92.v]) H rfl rfl rfl rfl agg_36 rfl rfl h ?_
    clear h H
    intro w97 h H
    refine s_assign H rfl rfl (lt_ rfl) fun a H => c_nil <| hK80 _ _ <| c_seq fun K98 hK98 => c_seq fun K99 hK99 => ?_
    obtain ⟨R101, h, h220⟩ := h
    have h152 : ∀ (a : Act) (s100 : Bool) (w102 : World), R101 s100 w102 → Has 96 [] a [(0, (.pointer t1)), (1, (.pointer r2)), (5, (.pointer (some (blk b17)))), (70, (.bool s100))] → K99 a w102 := by
     clear h
     intro a s100 w102 h H
     replace h := h220 s100 w102 h
     refine hK99 _ _ <| c_cond H rfl (fun h103 => ?_) (fun h103 => ?_)
     ·replace h := h.1 h103
      refine c_seq fun K104 hK104 => c_reg <| s_assign H rfl rfl (lt_ rfl) fun a H => c_nil <| hK104 _ _ <| c_ret ?_
      exact e_ret1 H rfl rfl h
     ·replace h := h.2 h103
      refine c_skip <| hK98 _ _ <| c_seq fun K105 hK105 => ?_
      obtain ⟨R107, h, h151⟩ := h
      have h109 : ∀ (a : Act) (s106 : Bool) (w108 : World), R107 s106 w108 → Has 96 [] a [(6, (.bool s106))] → K105 a w108 := by
       clear h
       intro a s106 w108 h H
       replace h := h151 s106 w108 h
       refine hK105 _ _ <| c_ret ?_
       exact e_ret1 H rfl rfl h
      clear h151
      replace H := H.weaken (L' := [(0, (.pointer t1)), (1, (.pointer r2)), (5, (.pointer (some (blk b17))))]) ⟨rfl, rfl, rfl, trivial⟩
      obtain ⟨l110, hc111, l112, hc113, h⟩ := h
      refine c_any (V := [(0, (.pointer t1)), (1, (.pointer (some ((blk b17).add 9)))), (2, (.string l110)), (4, (.pointer r2)), (5, (.pointer (some ((blk b17).add 9)))), (6, (.string l112))]) (⟨[[], [], [1], [0, 2], [], [], [5], [3, 4, 6], [3, 7], [7, 8], [9], [9], [9, 11], [9, 10, 12], [9], [9], [9, 15], [9, 13, 14, 16], [9, 13, 17], [9, 18], [0, 1, 2, 3, 4, 5, 6, 7, 8, 9, 10, 11, 12, 13, 14, 15, 16, 17, 18, 19]], [some 71, some 72, some 73, some 74, some 75, some 76, some 77, some 78, some 79, some 80, some 81, some 82, some 83, some 84, some 85, some 86, some 87, some 88, some 89, some 90, some 6], [3, 7, 13, 17, 18], [0, 0, 0, 0, 0, 0, 0, 1, 2, 2, 2, 2, 2, 2, 2, 2, 2, 3, 4, 5, 5], [0, 0, 0, 1, 1, 1, 1, 2, 2, 2, 2, 2, 2, 3, 3, 3, 3, 4, 5, 5, 5]⟩ : Rg) [(0, (.pointer t1)), (1, (.pointer r2)), (5, (.pointer (some (blk b17))))] mixed (by kernel_rfl) H ?_
      refine Stg.eff [0, 1, 2, 4, 5, 6] (by kernel_rfl) rfl (.cons ?_ (.cons ?_ (.cons ?_ (.cons ?_ (.cons ?_ (.cons ?_ .nil)))))) ?_
      ·refine Ans.mk rfl rfl fun a H => s_move H rfl rfl (lt_ rfl) fun a H => ?_
       exact Ans.fin H rfl
      ·refine Ans.mk rfl rfl fun a H => s_fld H rfl rfl fld_40_3 (lt_ rfl) fun a H => ?_
       exact Ans.fin H rfl
      ·refine Ans.mk rfl rfl fun a H => s_load (v := (.string l110)) H rfl rfl one_9 hc111 (lt_ rfl) fun a H => ?_
       exact Ans.fin H rfl
      ·refine Ans.mk rfl rfl fun a H => s_move H rfl rfl (lt_ rfl) fun a H => ?_
       exact Ans.fin H rfl
      ·refine Ans.mk rfl rfl fun a H => s_fld H rfl rfl fld_40_3 (lt_ rfl) fun a H => ?_
       exact Ans.fin H rfl
      ·refine Ans.mk rfl rfl fun a H => s_load (v := (.string l112)) H rfl rfl one_9 hc113 (lt_ rfl) fun a H => ?_
       exact Ans.fin H rfl
      ·intro a H
       replace H := H.weaken (L' := [(71, (.pointer t1)), (73, (.string l110))]) ⟨rfl, rfl, trivial⟩
       refine s_call H rfl body_21 (H.args (vs := [(.pointer t1), (.string l110)]) rfl) (lt_ rfl) h ?_ (fun c w' h H => e_panic (P := PP) (fn := Tryz.f8) H h)
       clear H h a
       rintro _ w114 a ⟨F115, rfl, h⟩ H
       refine c_nil ?_
       obtain ⟨hc116, h⟩ := h
       refine effQ.go [] H rfl rfl <| Stg.eff [4, 5, 6] (by kernel_rfl) rfl (.cons ?_ (.cons ?_ (.cons ?_ .nil))) ?_
       ·refine Ans.mk rfl rfl fun a H => s_move H rfl rfl (lt_ rfl) fun a H => ?_
        exact Ans.fin H rfl
       ·refine Ans.mk rfl rfl fun a H => s_fld H rfl rfl fld_40_3 (lt_ rfl) fun a H => ?_
        exact Ans.fin H rfl
       ·refine Ans.mk rfl rfl fun a H => s_load (v := (.string l112)) H rfl rfl one_9 hc116 (lt_ rfl) fun a H => ?_
        exact Ans.fin H rfl
       ·intro a H
        replace H := H.weaken (L' := [(75, (.pointer r2)), (77, (.string l112))]) ⟨rfl, rfl, trivial⟩
        refine s_call H rfl body_22 (H.args (vs := [(.pointer r2), (.string l112)]) rfl) (lt_ rfl) h ?_ (fun c w' h H => e_panic (P := PP) (fn := Tryz.f8) H h)
        clear H h a
        rintro _ w117 a ⟨F118, rfl, h⟩ H
        refine c_nil ?_
        rcases Bool.eq_false_or_eq_true (decide (F115 = F118)) with h119 | h119
        ·replace h := h.1 h119
         obtain ⟨l120, hc121, l122, hc123, h⟩ := h
         refine effQ.go [(8, (.bool (decide (F115 = F118)))), (9, (.bool (decide (F115 = F118)))), (10, (.pointer t1)), (11, (.pointer (some ((blk b17).add 9)))), (12, (.string l120)), (14, (.pointer r2)), (15, (.pointer (some ((blk b17).add 9)))), (16, (.string l122))] H rfl rfl <| Stg.eff [8, 9, 10, 11, 12, 14, 15, 16] (by kernel_rfl) rfl (.cons ?_ (.cons ?_ (.cons ?_ (.cons ?_ (.cons ?_ (.cons ?_ (.cons ?_ (.cons ?_ .nil)))))))) ?_
         ·refine Ans.mk rfl rfl fun a H => s_bin H rfl rfl rfl r_eql (lt_ rfl) fun a H => ?_
          exact Ans.fin H rfl
         ·refine Ans.mk rfl rfl fun a H => s_move H rfl rfl (lt_ rfl) fun a H => ?_
          exact Ans.fin H rfl
         ·refine Ans.mk rfl rfl fun a H => ?_
          replace H := H.ch (t := 80) (b := true) rfl h119
          refine s_move H (wantG H rfl rfl) rfl (lt_ rfl) fun a H => ?_
          exact Ans.fin H rfl
         ·refine Ans.mk rfl rfl fun a H => ?_
          replace H := H.ch (t := 80) (b := true) rfl h119
          refine s_fld H (wantG H rfl rfl) rfl fld_40_3 (lt_ rfl) fun a H => ?_
          exact Ans.fin H rfl
         ·refine Ans.mk rfl rfl fun a H => ?_
          replace H := H.ch (t := 80) (b := true) rfl h119
          refine s_load (v := (.string l120)) H (wantG H rfl rfl) rfl one_9 hc121 (lt_ rfl) fun a H => ?_
          exact Ans.fin H rfl
         ·refine Ans.mk rfl rfl fun a H => ?_
          replace H := H.ch (t := 80) (b := true) rfl h119
          refine s_move H (wantG H rfl rfl) rfl (lt_ rfl) fun a H => ?_
          exact Ans.fin H rfl
         ·refine Ans.mk rfl rfl fun a H => ?_
          replace H := H.ch (t := 80) (b := true) rfl h119
          refine s_fld H (wantG H rfl rfl) rfl fld_40_3 (lt_ rfl) fun a H => ?_
          exact Ans.fin H rfl
         ·refine Ans.mk rfl rfl fun a H => ?_
          replace H := H.ch (t := 80) (b := true) rfl h119
          refine s_load (v := (.string l122)) H (wantG H rfl rfl) rfl one_9 hc123 (lt_ rfl) fun a H => ?_
          exact Ans.fin H rfl
         ·intro a H
          replace H := H.weaken (L' := [(80, (.bool (decide (F115 = F118)))), (81, (.pointer t1)), (83, (.string l120))]) ⟨rfl, rfl, rfl, trivial⟩
          replace H := H.ch (t := 80) (b := true) rfl h119
          refine s_call H (wantG H rfl rfl) body_24 (H.args (vs := [(.pointer t1), (.string l120)]) rfl) (lt_ rfl) h ?_ (fun c w' h H => e_panic (P := PP) (fn := Tryz.f8) H h)
          clear H h a
          rintro _ w124 a ⟨E125, rfl, h⟩ H
          refine c_nil ?_
          obtain ⟨hc126, h⟩ := h
          refine effQ.go [] H rfl rfl <| Stg.eff [14, 15, 16] (by kernel_rfl) rfl (.cons ?_ (.cons ?_ (.cons ?_ .nil))) ?_
          ·refine Ans.mk rfl rfl fun a H => ?_
           replace H := H.ch (t := 80) (b := true) rfl h119
           refine s_move H (wantG H rfl rfl) rfl (lt_ rfl) fun a H => ?_
           exact Ans.fin H rfl
          ·refine Ans.mk rfl rfl fun a H => ?_
           replace H := H.ch (t := 80) (b := true) rfl h119
           refine s_fld H (wantG H rfl rfl) rfl fld_40_3 (lt_ rfl) fun a H => ?_
           exact Ans.fin H rfl
          ·refine Ans.mk rfl rfl fun a H => ?_
           replace H := H.ch (t := 80) (b := true) rfl h119
           refine s_load (v := (.string l122)) H (wantG H rfl rfl) rfl one_9 hc126 (lt_ rfl) fun a H => ?_
           exact Ans.fin H rfl
          ·intro a H
           replace H := H.weaken (L' := [(80, (.bool (decide (F115 = F118)))), (85, (.pointer r2)), (87, (.string l122))]) ⟨rfl, rfl, rfl, trivial⟩
           replace H := H.ch (t := 80) (b := true) rfl h119
           refine s_call H (wantG H rfl rfl) body_25 (H.args (vs := [(.pointer r2), (.string l122)]) rfl) (lt_ rfl) h ?_ (fun c w' h H => e_panic (P := PP) (fn := Tryz.f8) H h)
           clear H h a
           rintro _ w127 a ⟨E128, rfl, h⟩ H
           refine c_nil <| effQ.go [] H rfl rfl <| Stg.eff [] (by kernel_rfl) rfl .nil ?_
           ·intro a H
            replace H := H.weaken (L' := [(80, (.bool (decide (F115 = F118)))), (84, E125.v), (88, E128.v)]) ⟨rfl, rfl, rfl, trivial⟩
            replace H := H.ch (t := 80) (b := true) rfl h119
            refine s_call H (wantG H rfl rfl) body_23 (H.args (vs := [E125.v, E128.v]) rfl) (lt_ rfl) h ?_ (fun c w' h H => e_panic (P := PP) (fn := Tryz.f8) H h)
            clear H h a
            rintro _ w129 a ⟨s130, rfl, h⟩ H
            refine c_nil <| effQ.go [(19, (.bool s130)), (20, (.bool s130))] H rfl rfl <| Stg.fin [19, 20] (by kernel_rfl) (.cons ?_ (.cons ?_ .nil)) ?_
            ·refine Ans.mk rfl rfl fun a H => ?_
             replace H := H.ch (t := 80) (b := true) rfl h119
             refine s_pickT H rfl rfl rfl (lt_ rfl) fun a H => ?_
             exact Ans.fin H rfl
            ·refine Ans.mk rfl rfl fun a H => s_assign H rfl rfl (lt_ rfl) fun a H => ?_
             exact Ans.fin H rfl
            ·intro a H
             replace H := H.weaken (L' := [(6, (.bool s130))]) ⟨rfl, trivial⟩
             exact h109 _ _ _ h (H.weaken ⟨rfl, trivial⟩)
        ·replace h := h.2 h119
         refine effQ.go [(8, (.bool (decide (F115 = F118)))), (9, (.bool (decide (F115 = F118)))), (10, undef), (11, undef), (12, undef), (14, undef), (15, undef), (16, undef)] H rfl rfl <| Stg.eff [8, 9, 10, 11, 12, 14, 15, 16] (by kernel_rfl) rfl (.cons ?_ (.cons ?_ (.cons ?_ (.cons ?_ (.cons ?_ (.cons ?_ (.cons ?_ (.cons ?_ .nil)))))))) ?_
         ·refine Ans.mk rfl rfl fun a H => s_bin H rfl rfl rfl r_eql (lt_ rfl) fun a H => ?_
          exact Ans.fin H rfl
         ·refine Ans.mk rfl rfl fun a H => s_move H rfl rfl (lt_ rfl) fun a H => ?_
          exact Ans.fin H rfl
         ·exact .skip rfl rfl rfl rfl rfl rfl h119 rfl
         ·exact .skip rfl rfl rfl rfl rfl rfl h119 rfl
         ·exact .skip rfl rfl rfl rfl rfl rfl h119 rfl
         ·exact .skip rfl rfl rfl rfl rfl rfl h119 rfl
         ·exact .skip rfl rfl rfl rfl rfl rfl h119 rfl
         ·exact .skip rfl rfl rfl rfl rfl rfl h119 rfl
         ·intro a H
          replace H := H.weaken (L' := [(80, (.bool (decide (F115 = F118)))), (81, undef), (83, undef)]) ⟨rfl, rfl, rfl, trivial⟩
          replace H := H.ch (t := 80) (b := false) rfl h119
          refine s_skip H (wantN H rfl rfl rfl) rfl (lt_ rfl) fun a H => c_nil <| effQ.go [] H rfl rfl <| Stg.eff [14, 15, 16] (by kernel_rfl) rfl (.cons ?_ (.cons ?_ (.cons ?_ .nil))) ?_
          ·exact .skip rfl rfl rfl rfl rfl rfl h119 rfl
          ·exact .skip rfl rfl rfl rfl rfl rfl h119 rfl
          ·exact .skip rfl rfl rfl rfl rfl rfl h119 rfl
          ·intro a H
           replace H := H.weaken (L' := [(80, (.bool (decide (F115 = F118)))), (85, undef), (87, undef)]) ⟨rfl, rfl, rfl, trivial⟩
           replace H := H.ch (t := 80) (b := false) rfl h119
           refine s_skip H (wantN H rfl rfl rfl) rfl (lt_ rfl) fun a H => c_nil <| effQ.go [] H rfl rfl <| Stg.eff [] (by kernel_rfl) rfl .nil ?_
           ·intro a H
            replace H := H.weaken (L' := [(80, (.bool (decide (F115 = F118)))), (84, undef), (88, undef)]) ⟨rfl, rfl, rfl, trivial⟩
            replace H := H.ch (t := 80) (b := false) rfl h119
            refine s_skip H (wantN H rfl rfl rfl) rfl (lt_ rfl) fun a H => c_nil <| effQ.go [(19, (.bool false)), (20, (.bool false))] H rfl rfl <| Stg.fin [19, 20] (by kernel_rfl) (.cons ?_ (.cons ?_ .nil)) ?_
            ·refine Ans.mk rfl rfl fun a H => ?_
             replace H := H.ch (t := 80) (b := false) rfl h119
             refine s_pickF H rfl rfl rfl (lt_ rfl) fun a H => ?_
             exact Ans.fin H rfl
            ·refine Ans.mk rfl rfl fun a H => s_assign H rfl rfl (lt_ rfl) fun a H => ?_
             exact Ans.fin H rfl
            ·intro a H
             replace H := H.weaken (L' := [(6, (.bool false))]) ⟨rfl, trivial⟩
             exact h109 _ _ _ h (H.weaken ⟨rfl, trivial⟩)
    clear h220
    replace H := H.weaken (L' := [(0, (.pointer t1)), (1, (.pointer r2)), (5, (.pointer (some (blk b17)))), (7, (.pointer (some (blk b76)))), (8, (.bool G75)), (9, (.pointer (some (blk b94)))), (10, (.bool G93))]) ⟨rfl, rfl, rfl, rfl, rfl, rfl, rfl, trivial⟩
    rcases Bool.eq_false_or_eq_true (decide (G75 ≠ G93)) with h153 | h153
    ·replace h := h.1 h153
     refine c_any (V := [(0, (.bool G75)), (1, (.bool G93)), (2, (.bool (decide (G75 ≠ G93)))), (3, (.bool (decide (G75 ≠ G93)))), (4, undef), (5, undef)]) (⟨[[], [], [0, 1], [2], [3], [3], [3, 4, 5], [3, 6], [3, 7], [6, 8], [9], [9], [9, 11], [9, 10, 12], [9], [9], [9, 15], [9, 13, 14, 16], [9, 13, 17], [9, 18], [17, 19], [20], [20], [20, 22], [20, 21, 23], [20], [20], [20, 26], [20, 24, 25, 27], [20, 24, 28], [20, 29]], [some 40, some 41, some 42, some 43, some 44, some 45, some 46, some 47, some 48, some 49, some 50, some 51, some 52, some 53, some 54, some 55, some 56, some 57, some 58, some 59, some 60, some 61, some 62, some 63, some 64, some 65, some 66, some 67, some 68, some 69, some 70], [6, 13, 17, 24, 28], [0, 0, 0, 0, 0, 0, 0, 1, 1, 1, 1, 1, 1, 1, 1, 1, 1, 2, 3, 3, 3, 3, 3, 3, 3, 3, 3, 3, 4, 5, 5], [0, 0, 0, 0, 0, 0, 1, 1, 1, 1, 1, 1, 1, 2, 2, 2, 2, 3, 3, 3, 3, 3, 3, 3, 4, 4, 4, 4, 5, 5, 5]⟩ : Rg) [(0, (.pointer t1)), (1, (.pointer r2)), (5, (.pointer (some (blk b17)))), (7, (.pointer (some (blk b76)))), (8, (.bool G75)), (9, (.pointer (some (blk b94)))), (10, (.bool G93))] mixed (by kernel_rfl) H ?_
     refine Stg.eff [0, 1, 2, 3, 4, 5] (by kernel_rfl) rfl (.cons ?_ (.cons ?_ (.cons ?_ (.cons ?_ (.cons ?_ (.cons ?_ .nil)))))) ?_
     ·refine Ans.mk rfl rfl fun a H => s_move H rfl rfl (lt_ rfl) fun a H => ?_
      exact Ans.fin H rfl
     ·refine Ans.mk rfl rfl fun a H => s_move H rfl rfl (lt_ rfl) fun a H => ?_
      exact Ans.fin H rfl
     ·refine Ans.mk rfl rfl fun a H => s_bin H rfl rfl rfl (r_neB bool_4) (lt_ rfl) fun a H => ?_
      exact Ans.fin H rfl
     ·refine Ans.mk rfl rfl fun a H => s_move H rfl rfl (lt_ rfl) fun a H => ?_
      exact Ans.fin H rfl
     ·exact .skip rfl rfl rfl rfl rfl rfl h153 rfl
     ·exact .skip rfl rfl rfl rfl rfl rfl h153 rfl
     ·intro a H
      replace H := H.weaken (L' := [(43, (.bool (decide (G75 ≠ G93)))), (44, undef), (45, undef)]) ⟨rfl, rfl, rfl, trivial⟩
      replace H := H.ch (t := 43) (b := true) rfl h153
      refine s_skip H (wantN H rfl rfl rfl) rfl (lt_ rfl) fun a H => c_nil <| effQ.go [(7, undef), (8, (.bool true)), (9, (.bool true)), (10, undef), (11, undef), (12, undef), (14, undef), (15, undef), (16, undef)] H rfl rfl <| Stg.eff [7, 8, 9, 10, 11, 12, 14, 15, 16] (by kernel_rfl) rfl (.cons ?_ (.cons ?_ (.cons ?_ (.cons ?_ (.cons ?_ (.cons ?_ (.cons ?_ (.cons ?_ (.cons ?_ .nil))))))))) ?_
      ·exact .skip rfl rfl rfl rfl rfl rfl h153 rfl
      ·refine Ans.mk rfl rfl fun a H => ?_
       replace H := H.ch (t := 43) (b := true) rfl h153
       refine s_pickT H rfl rfl rfl (lt_ rfl) fun a H => ?_
       exact Ans.fin H rfl
      ·refine Ans.mk rfl rfl fun a H => s_move H rfl rfl (lt_ rfl) fun a H => ?_
       exact Ans.fin H rfl
      ·exact .skip rfl rfl rfl rfl rfl rfl rfl rfl
      ·exact .skip rfl rfl rfl rfl rfl rfl rfl rfl
      ·exact .skip rfl rfl rfl rfl rfl rfl rfl rfl
      ·exact .skip rfl rfl rfl rfl rfl rfl rfl rfl
      ·exact .skip rfl rfl rfl rfl rfl rfl rfl rfl
      ·exact .skip rfl rfl rfl rfl rfl rfl rfl rfl
      ·intro a H
       replace H := H.weaken (L' := [(49, (.bool true)), (50, undef), (52, undef)]) ⟨rfl, rfl, rfl, trivial⟩
       refine s_skip H (wantN H rfl rfl rfl) rfl (lt_ rfl) fun a H => c_nil <| effQ.go [] H rfl rfl <| Stg.eff [14, 15, 16] (by kernel_rfl) rfl (.cons ?_ (.cons ?_ (.cons ?_ .nil))) ?_
       ·exact .skip rfl rfl rfl rfl rfl rfl rfl rfl
       ·exact .skip rfl rfl rfl rfl rfl rfl rfl rfl
       ·exact .skip rfl rfl rfl rfl rfl rfl rfl rfl
       ·intro a H
        replace H := H.weaken (L' := [(49, (.bool true)), (54, undef), (56, undef)]) ⟨rfl, rfl, rfl, trivial⟩
        refine s_skip H (wantN H rfl rfl rfl) rfl (lt_ rfl) fun a H => c_nil <| effQ.go [(18, undef), (19, (.bool true)), (20, (.bool true)), (21, undef), (22, undef), (23, undef), (25, undef), (26, undef), (27, undef)] H rfl rfl <| Stg.eff [18, 19, 20, 21, 22, 23, 25, 26, 27] (by kernel_rfl) rfl (.cons ?_ (.cons ?_ (.cons ?_ (.cons ?_ (.cons ?_ (.cons ?_ (.cons ?_ (.cons ?_ (.cons ?_ .nil))))))))) ?_
        ·exact .skip rfl rfl rfl rfl rfl rfl rfl rfl
        ·refine Ans.mk rfl rfl fun a H => s_pickT H rfl rfl rfl (lt_ rfl) fun a H => ?_
         exact Ans.fin H rfl
        ·refine Ans.mk rfl rfl fun a H => s_move H rfl rfl (lt_ rfl) fun a H => ?_
         exact Ans.fin H rfl
        ·exact .skip rfl rfl rfl rfl rfl rfl rfl rfl
        ·exact .skip rfl rfl rfl rfl rfl rfl rfl rfl
        ·exact .skip rfl rfl rfl rfl rfl rfl rfl rfl
        ·exact .skip rfl rfl rfl rfl rfl rfl rfl rfl
        ·exact .skip rfl rfl rfl rfl rfl rfl rfl rfl
        ·exact .skip rfl rfl rfl rfl rfl rfl rfl rfl
        ·intro a H
         replace H := H.weaken (L' := [(60, (.bool true)), (61, undef), (63, undef)]) ⟨rfl, rfl, rfl, trivial⟩
         refine s_skip H (wantN H rfl rfl rfl) rfl (lt_ rfl) fun a H => c_nil <| effQ.go [] H rfl rfl <| Stg.eff [25, 26, 27] (by kernel_rfl) rfl (.cons ?_ (.cons ?_ (.cons ?_ .nil))) ?_
         ·exact .skip rfl rfl rfl rfl rfl rfl rfl rfl
         ·exact .skip rfl rfl rfl rfl rfl rfl rfl rfl
         ·exact .skip rfl rfl rfl rfl rfl rfl rfl rfl
         ·intro a H
          replace H := H.weaken (L' := [(60, (.bool true)), (65, undef), (67, undef)]) ⟨rfl, rfl, rfl, trivial⟩
          refine s_skip H (wantN H rfl rfl rfl) rfl (lt_ rfl) fun a H => c_nil <| effQ.go [(29, undef), (30, (.bool true))] H rfl rfl <| Stg.fin [29, 30] (by kernel_rfl) (.cons ?_ (.cons ?_ .nil)) ?_
          ·exact .skip rfl rfl rfl rfl rfl rfl rfl rfl
          ·refine Ans.mk rfl rfl fun a H => s_pickT H rfl rfl rfl (lt_ rfl) fun a H => ?_
           exact Ans.fin H rfl
          ·intro a H
           replace H := H.weaken (L' := [(0, (.pointer t1)), (1, (.pointer r2)), (5, (.pointer (some (blk b17)))), (70, (.bool true))]) ⟨rfl, rfl, rfl, rfl, trivial⟩
           exact h152 _ _ _ h (H.weaken ⟨rfl, rfl, rfl, rfl, trivial⟩)
    ·replace h := h.2 h153
     obtain ⟨C154, hc155, C156, hc157, F158, hc159, H160, hc161, D162, hc163, C164, hc165, C166, hc167, F168, hc169, H170, hc171, D172, hc173, h⟩ := h
     refine c_any (V := [(0, (.bool G75)), (1, (.bool G93)), (2, (.bool (decide (G75 ≠ G93)))), (3, (.bool (decide (G75 ≠ G93)))), (4, (.agg #[(.i C154), (.i C156), (.bool F158), (.bool H160), D162.v])), (5, (.agg #[(.i C164), (.i C166), (.bool F168), (.bool H170), D172.v]))]) (⟨[[], [], [0, 1], [2], [3], [3], [3, 4, 5], [3, 6], [3, 7], [6, 8], [9], [9], [9, 11], [9, 10, 12], [9], [9], [9, 15], [9, 13, 14, 16], [9, 13, 17], [9, 18], [17, 19], [20], [20], [20, 22], [20, 21, 23], [20], [20], [20, 26], [20, 24, 25, 27], [20, 24, 28], [20, 29]], [some 40, some 41, some 42, some 43, some 44, some 45, some 46, some 47, some 48, some 49, some 50, some 51, some 52, some 53, some 54, some 55, some 56, some 57, some 58, some 59, some 60, some 61, some 62, some 63, some 64, some 65, some 66, some 67, some 68, some 69, some 70], [6, 13, 17, 24, 28], [0, 0, 0, 0, 0, 0, 0, 1, 1, 1, 1, 1, 1, 1, 1, 1, 1, 2, 3, 3, 3, 3, 3, 3, 3, 3, 3, 3, 4, 5, 5], [0, 0, 0, 0, 0, 0, 1, 1, 1, 1, 1, 1, 1, 2, 2, 2, 2, 3, 3, 3, 3, 3, 3, 3, 4, 4, 4, 4, 5, 5, 5]⟩ : Rg) [(0, (.pointer t1)), (1, (.pointer r2)), (5, (.pointer (some (blk b17)))), (7, (.pointer (some (blk b76)))), (8, (.bool G75)), (9, (.pointer (some (blk b94)))), (10, (.bool G93))] mixed (by kernel_rfl) H ?_
     refine Stg.eff [0, 1, 2, 3, 4, 5] (by kernel_rfl) rfl (.cons ?_ (.cons ?_ (.cons ?_ (.cons ?_ (.cons ?_ (.cons ?_ .nil)))))) ?_
     ·refine Ans.mk rfl rfl fun a H => s_move H rfl rfl (lt_ rfl) fun a H => ?_
      exact Ans.fin H rfl
     ·refine Ans.mk rfl rfl fun a H => s_move H rfl rfl (lt_ rfl) fun a H => ?_
      exact Ans.fin H rfl
     ·refine Ans.mk rfl rfl fun a H => s_bin H rfl rfl rfl (r_neB bool_4) (lt_ rfl) fun a H => ?_
      exact Ans.fin H rfl
     ·refine Ans.mk rfl rfl fun a H => s_move H rfl rfl (lt_ rfl) fun a H => ?_
      exact Ans.fin H rfl
     ·refine Ans.mk rfl rfl fun a H => ?_
      replace H := H.ch (t := 43) (b := false) rfl h153
      refine s_loadN (l := [(.i C154), (.i C156), (.bool F158), (.bool H160), D162.v]) H (wantG H rfl rfl) rfl agg_36 rfl ⟨hc155, hc157, hc159, hc161, hc163, trivial⟩ (lt_ rfl) fun a H => ?_
      exact Ans.fin H rfl
     ·refine Ans.mk rfl rfl fun a H => ?_
      replace H := H.ch (t := 43) (b := false) rfl h153
      refine s_loadN (l := [(.i C164), (.i C166), (.bool F168), (.bool H170), D172.v]) H (wantG H rfl rfl) rfl agg_36 rfl ⟨hc165, hc167, hc169, hc171, hc173, trivial⟩ (lt_ rfl) fun a H => ?_
      exact Ans.fin H rfl
     ·intro a H
      replace H := H.weaken (L' := [(43, (.bool (decide (G75 ≠ G93)))), (44, (.agg #[(.i C154), (.i C156), (.bool F158), (.bool H160), D162.v])), (45, (.agg #[(.i C164), (.i C166), (.bool F168), (.bool H170), D172.v]))]) ⟨rfl, rfl, rfl, trivial⟩
      replace H := H.ch (t := 43) (b := false) rfl h153
      refine s_call H (wantG H rfl rfl) body_16 (H.args (vs := [(.agg #[(.i C154), (.i C156), (.bool F158), (.bool H160), D162.v]), (.agg #[(.i C164), (.i C166), (.bool F168), (.bool H170), D172.v])]) rfl) (lt_ rfl) h ?_ (fun c w' h H => e_panic (P := PP) (fn := Tryz.f8) H h)
      clear H h a
      rintro _ w174 a ⟨s175, rfl, h⟩ H
      refine c_nil ?_
      rcases Bool.eq_false_or_eq_true (!s175) with h176 | h176
      ·replace h := h.1 h176
       refine effQ.go [(7, (.bool (!s175))), (8, (.bool (!s175))), (9, (.bool (!s175))), (10, undef), (11, undef), (12, undef), (14, undef), (15, undef), (16, undef)] H rfl rfl <| Stg.eff [7, 8, 9, 10, 11, 12, 14, 15, 16] (by kernel_rfl) rfl (.cons ?_ (.cons ?_ (.cons ?_ (.cons ?_ (.cons ?_ (.cons ?_ (.cons ?_ (.cons ?_ (.cons ?_ .nil))))))))) ?_
       ·refine Ans.mk rfl rfl fun a H => ?_
        replace H := H.ch (t := 43) (b := false) rfl h153
        refine s_un H (wantG H rfl rfl) rfl r_not (lt_ rfl) fun a H => ?_
        exact Ans.fin H rfl
       ·refine Ans.mk rfl rfl fun a H => ?_
        replace H := H.ch (t := 43) (b := false) rfl h153
        refine s_pickF H rfl rfl rfl (lt_ rfl) fun a H => ?_
        exact Ans.fin H rfl
       ·refine Ans.mk rfl rfl fun a H => s_move H rfl rfl (lt_ rfl) fun a H => ?_
        exact Ans.fin H rfl
       ·exact .skip rfl rfl rfl rfl rfl rfl h176 rfl
       ·exact .skip rfl rfl rfl rfl rfl rfl h176 rfl
       ·exact .skip rfl rfl rfl rfl rfl rfl h176 rfl
       ·exact .skip rfl rfl rfl rfl rfl rfl h176 rfl
       ·exact .skip rfl rfl rfl rfl rfl rfl h176 rfl
       ·exact .skip rfl rfl rfl rfl rfl rfl h176 rfl
       ·intro a H
        replace H := H.weaken (L' := [(49, (.bool (!s175))), (50, undef), (52, undef)]) ⟨rfl, rfl, rfl, trivial⟩
        replace H := H.ch (t := 49) (b := true) rfl h176
        refine s_skip H (wantN H rfl rfl rfl) rfl (lt_ rfl) fun a H => c_nil <| effQ.go [] H rfl rfl <| Stg.eff [14, 15, 16] (by kernel_rfl) rfl (.cons ?_ (.cons ?_ (.cons ?_ .nil))) ?_
        ·exact .skip rfl rfl rfl rfl rfl rfl h176 rfl
        ·exact .skip rfl rfl rfl rfl rfl rfl h176 rfl
        ·exact .skip rfl rfl rfl rfl rfl rfl h176 rfl
        ·intro a H
         replace H := H.weaken (L' := [(49, (.bool (!s175))), (54, undef), (56, undef)]) ⟨rfl, rfl, rfl, trivial⟩
         replace H := H.ch (t := 49) (b := true) rfl h176
         refine s_skip H (wantN H rfl rfl rfl) rfl (lt_ rfl) fun a H => c_nil <| effQ.go [(18, undef), (19, (.bool true)), (20, (.bool true)), (21, undef), (22, undef), (23, undef), (25, undef), (26, undef), (27, undef)] H rfl rfl <| Stg.eff [18, 19, 20, 21, 22, 23, 25, 26, 27] (by kernel_rfl) rfl (.cons ?_ (.cons ?_ (.cons ?_ (.cons ?_ (.cons ?_ (.cons ?_ (.cons ?_ (.cons ?_ (.cons ?_ .nil))))))))) ?_
         ·exact .skip rfl rfl rfl rfl rfl rfl h176 rfl
         ·refine Ans.mk rfl rfl fun a H => ?_
          replace H := H.ch (t := 49) (b := true) rfl h176
          refine s_pickT H rfl rfl rfl (lt_ rfl) fun a H => ?_
          exact Ans.fin H rfl
         ·refine Ans.mk rfl rfl fun a H => s_move H rfl rfl (lt_ rfl) fun a H => ?_
          exact Ans.fin H rfl
         ·exact .skip rfl rfl rfl rfl rfl rfl rfl rfl
         ·exact .skip rfl rfl rfl rfl rfl rfl rfl rfl
         ·exact .skip rfl rfl rfl rfl rfl rfl rfl rfl
         ·exact .skip rfl rfl rfl rfl rfl rfl rfl rfl
         ·exact .skip rfl rfl rfl rfl rfl rfl rfl rfl
         ·exact .skip rfl rfl rfl rfl rfl rfl rfl rfl
         ·intro a H
          replace H := H.weaken (L' := [(60, (.bool true)), (61, undef), (63, undef)]) ⟨rfl, rfl, rfl, trivial⟩
          refine s_skip H (wantN H rfl rfl rfl) rfl (lt_ rfl) fun a H => c_nil <| effQ.go [] H rfl rfl <| Stg.eff [25, 26, 27] (by kernel_rfl) rfl (.cons ?_ (.cons ?_ (.cons ?_ .nil))) ?_
          ·exact .skip rfl rfl rfl rfl rfl rfl rfl rfl
          ·exact .skip rfl rfl rfl rfl rfl rfl rfl rfl
          ·exact .skip rfl rfl rfl rfl rfl rfl rfl rfl
          ·intro a H
           replace H := H.weaken (L' := [(60, (.bool true)), (65, undef), (67, undef)]) ⟨rfl, rfl, rfl, trivial⟩
           refine s_skip H (wantN H rfl rfl rfl) rfl (lt_ rfl) fun a H => c_nil <| effQ.go [(29, undef), (30, (.bool true))] H rfl rfl <| Stg.fin [29, 30] (by kernel_rfl) (.cons ?_ (.cons ?_ .nil)) ?_
           ·exact .skip rfl rfl rfl rfl rfl rfl rfl rfl
           ·refine Ans.mk rfl rfl fun a H => s_pickT H rfl rfl rfl (lt_ rfl) fun a H => ?_
            exact Ans.fin H rfl
           ·intro a H
            replace H := H.weaken (L' := [(0, (.pointer t1)), (1, (.pointer r2)), (5, (.pointer (some (blk b17)))), (70, (.bool true))]) ⟨rfl, rfl, rfl, rfl, trivial⟩
            exact h152 _ _ _ h (H.weaken ⟨rfl, rfl, rfl, rfl, trivial⟩)
      ·replace h := h.2 h176
       obtain ⟨l177, hc178, l179, hc180, h⟩ := h
       refine effQ.go [(7, (.bool (!s175))), (8, (.bool (!s175))), (9, (.bool (!s175))), (10, (.pointer t1)), (11, (.pointer (some ((blk b17).add 9)))), (12, (.string l177)), (14, (.pointer r2)), (15, (.pointer (some ((blk b17).add 9)))), (16, (.string l179))] H rfl rfl <| Stg.eff [7, 8, 9, 10, 11, 12, 14, 15, 16] (by kernel_rfl) rfl (.cons ?_ (.cons ?_ (.cons ?_ (.cons ?_ (.cons ?_ (.cons ?_ (.cons ?_ (.cons ?_ (.cons ?_ .nil))))))))) ?_
       ·refine Ans.mk rfl rfl fun a H => ?_
        replace H := H.ch (t := 43) (b := false) rfl h153
        refine s_un H (wantG H rfl rfl) rfl r_not (lt_ rfl) fun a H => ?_
        exact Ans.fin H rfl
       ·refine Ans.mk rfl rfl fun a H => ?_
        replace H := H.ch (t := 43) (b := false) rfl h153
        refine s_pickF H rfl rfl rfl (lt_ rfl) fun a H => ?_
        exact Ans.fin H rfl
       ·refine Ans.mk rfl rfl fun a H => s_move H rfl rfl (lt_ rfl) fun a H => ?_
        exact Ans.fin H rfl
       ·refine Ans.mk rfl rfl fun a H => ?_
        replace H := H.ch (t := 49) (b := false) rfl h176
        refine s_move H (wantG H rfl rfl) rfl (lt_ rfl) fun a H => ?_
        exact Ans.fin H rfl
       ·refine Ans.mk rfl rfl fun a H => ?_
        replace H := H.ch (t := 49) (b := false) rfl h176
        refine s_fld H (wantG H rfl rfl) rfl fld_40_3 (lt_ rfl) fun a H => ?_
        exact Ans.fin H rfl
       ·refine Ans.mk rfl rfl fun a H => ?_
        replace H := H.ch (t := 49) (b := false) rfl h176
        refine s_load (v := (.string l177)) H (wantG H rfl rfl) rfl one_9 hc178 (lt_ rfl) fun a H => ?_
        exact Ans.fin H rfl
       ·refine Ans.mk rfl rfl fun a H => ?_
        replace H := H.ch (t := 49) (b := false) rfl h176
        refine s_move H (wantG H rfl rfl) rfl (lt_ rfl) fun a H => ?_
        exact Ans.fin H rfl
       ·refine Ans.mk rfl rfl fun a H => ?_
        replace H := H.ch (t := 49) (b := false) rfl h176
        refine s_fld H (wantG H rfl rfl) rfl fld_40_3 (lt_ rfl) fun a H => ?_
        exact Ans.fin H rfl
       ·refine Ans.mk rfl rfl fun a H => ?_
        replace H := H.ch (t := 49) (b := false) rfl h176
        refine s_load (v := (.string l179)) H (wantG H rfl rfl) rfl one_9 hc180 (lt_ rfl) fun a H => ?_
        exact Ans.fin H rfl
       ·intro a H
        replace H := H.weaken (L' := [(49, (.bool (!s175))), (50, (.pointer t1)), (52, (.string l177))]) ⟨rfl, rfl, rfl, trivial⟩
        replace H := H.ch (t := 49) (b := false) rfl h176
        refine s_call H (wantG H rfl rfl) body_17 (H.args (vs := [(.pointer t1), (.string l177)]) rfl) (lt_ rfl) h ?_ (fun c w' h H => e_panic (P := PP) (fn := Tryz.f8) H h)
        clear H h a
        rintro _ w181 a ⟨C182, C183, rfl, h⟩ H
        refine c_nil ?_
        obtain ⟨hc184, h⟩ := h
        refine effQ.go [] H rfl rfl <| Stg.eff [14, 15, 16] (by kernel_rfl) rfl (.cons ?_ (.cons ?_ (.cons ?_ .nil))) ?_
        ·refine Ans.mk rfl rfl fun a H => ?_
         replace H := H.ch (t := 49) (b := false) rfl h176
         refine s_move H (wantG H rfl rfl) rfl (lt_ rfl) fun a H => ?_
         exact Ans.fin H rfl
        ·refine Ans.mk rfl rfl fun a H => ?_
         replace H := H.ch (t := 49) (b := false) rfl h176
         refine s_fld H (wantG H rfl rfl) rfl fld_40_3 (lt_ rfl) fun a H => ?_
         exact Ans.fin H rfl
        ·refine Ans.mk rfl rfl fun a H => ?_
         replace H := H.ch (t := 49) (b := false) rfl h176
         refine s_load (v := (.string l179)) H (wantG H rfl rfl) rfl one_9 hc184 (lt_ rfl) fun a H => ?_
         exact Ans.fin H rfl
        ·intro a H
         replace H := H.weaken (L' := [(49, (.bool (!s175))), (54, (.pointer r2)), (56, (.string l179))]) ⟨rfl, rfl, rfl, trivial⟩
         replace H := H.ch (t := 49) (b := false) rfl h176
         refine s_call H (wantG H rfl rfl) body_18 (H.args (vs := [(.pointer r2), (.string l179)]) rfl) (lt_ rfl) h ?_ (fun c w' h H => e_panic (P := PP) (fn := Tryz.f8) H h)
         clear H h a
         rintro _ w185 a ⟨C186, C187, rfl, h⟩ H
         refine c_nil ?_
         rcases Bool.eq_false_or_eq_true (!(decide (C182 = C186) && (decide (C183 = C187)))) with h188 | h188
         ·replace h := h.1 h188
          refine effQ.go [(18, (.bool (!(decide (C182 = C186) && (decide (C183 = C187)))))), (19, (.bool (!(decide (C182 = C186) && (decide (C183 = C187)))))), (20, (.bool (!(decide (C182 = C186) && (decide (C183 = C187)))))), (21, undef), (22, undef), (23, undef), (25, undef), (26, undef), (27, undef)] H rfl rfl <| Stg.eff [18, 19, 20, 21, 22, 23, 25, 26, 27] (by kernel_rfl) rfl (.cons ?_ (.cons ?_ (.cons ?_ (.cons ?_ (.cons ?_ (.cons ?_ (.cons ?_ (.cons ?_ (.cons ?_ .nil))))))))) ?_
          ·refine Ans.mk rfl rfl fun a H => ?_
           replace H := H.ch (t := 49) (b := false) rfl h176
           refine s_bin H (wantG H rfl rfl) rfl rfl (r_nest eqg_33 (eqst_33 0) rfl) (lt_ rfl) fun a H => ?_
           exact Ans.fin H rfl
          ·refine Ans.mk rfl rfl fun a H => ?_
           replace H := H.ch (t := 49) (b := false) rfl h176
           refine s_pickF H rfl rfl rfl (lt_ rfl) fun a H => ?_
           exact Ans.fin H rfl
          ·refine Ans.mk rfl rfl fun a H => s_move H rfl rfl (lt_ rfl) fun a H => ?_
           exact Ans.fin H rfl
          ·exact .skip rfl rfl rfl rfl rfl rfl h188 rfl
          ·exact .skip rfl rfl rfl rfl rfl rfl h188 rfl
          ·exact .skip rfl rfl rfl rfl rfl rfl h188 rfl
          ·exact .skip rfl rfl rfl rfl rfl rfl h188 rfl
          ·exact .skip rfl rfl rfl rfl rfl rfl h188 rfl
          ·exact .skip rfl rfl rfl rfl rfl rfl h188 rfl
          ·intro a H
           replace H := H.weaken (L' := [(60, (.bool (!(decide (C182 = C186) && (decide (C183 = C187)))))), (61, undef), (63, undef)]) ⟨rfl, rfl, rfl, trivial⟩
           replace H := H.ch (t := 60) (b := true) rfl h188
           refine s_skip H (wantN H rfl rfl rfl) rfl (lt_ rfl) fun a H => c_nil <| effQ.go [] H rfl rfl <| Stg.eff [25, 26, 27] (by kernel_rfl) rfl (.cons ?_ (.cons ?_ (.cons ?_ .nil))) ?_
           ·exact .skip rfl rfl rfl rfl rfl rfl h188 rfl
           ·exact .skip rfl rfl rfl rfl rfl rfl h188 rfl
           ·exact .skip rfl rfl rfl rfl rfl rfl h188 rfl
           ·intro a H
            replace H := H.weaken (L' := [(60, (.bool (!(decide (C182 = C186) && (decide (C183 = C187)))))), (65, undef), (67, undef)]) ⟨rfl, rfl, rfl, trivial⟩
            replace H := H.ch (t := 60) (b := true) rfl h188
            refine s_skip H (wantN H rfl rfl rfl) rfl (lt_ rfl) fun a H => c_nil <| effQ.go [(29, undef), (30, (.bool true))] H rfl rfl <| Stg.fin [29, 30] (by kernel_rfl) (.cons ?_ (.cons ?_ .nil)) ?_
            ·exact .skip rfl rfl rfl rfl rfl rfl h188 rfl
            ·refine Ans.mk rfl rfl fun a H => ?_
             replace H := H.ch (t := 60) (b := true) rfl h188
             refine s_pickT H rfl rfl rfl (lt_ rfl) fun a H => ?_
             exact Ans.fin H rfl
            ·intro a H
             replace H := H.weaken (L' := [(0, (.pointer t1)), (1, (.pointer r2)), (5, (.pointer (some (blk b17)))), (70, (.bool true))]) ⟨rfl, rfl, rfl, rfl, trivial⟩
             exact h152 _ _ _ h (H.weaken ⟨rfl, rfl, rfl, rfl, trivial⟩)
         ·replace h := h.2 h188
          obtain ⟨l189, hc190, l191, hc192, h⟩ := h
          refine effQ.go [(18, (.bool (!(decide (C182 = C186) && (decide (C183 = C187)))))), (19, (.bool (!(decide (C182 = C186) && (decide (C183 = C187)))))), (20, (.bool (!(decide (C182 = C186) && (decide (C183 = C187)))))), (21, (.pointer t1)), (22, (.pointer (some ((blk b17).add 9)))), (23, (.string l189)), (25, (.pointer r2)), (26, (.pointer (some ((blk b17).add 9)))), (27, (.string l191))] H rfl rfl ?_
          refine Stg.eff [18, 19, 20, 21, 22, 23, 25, 26, 27] (by kernel_rfl) rfl (.cons ?_ (.cons ?_ (.cons ?_ (.cons ?_ (.cons ?_ (.cons ?_ (.cons ?_ (.cons ?_ (.cons ?_ .nil))))))))) ?_
          ·refine Ans.mk rfl rfl fun a H => ?_
           replace H := H.ch (t := 49) (b := false) rfl h176
           refine s_bin H (wantG H rfl rfl) rfl rfl (r_nest eqg_33 (eqst_33 0) rfl) (lt_ rfl) fun a H => ?_
           exact Ans.fin H rfl
          ·refine Ans.mk rfl rfl fun a H => ?_
           replace H := H.ch (t := 49) (b := false) rfl h176
           refine s_pickF H rfl rfl rfl (lt_ rfl) fun a H => ?_
           exact Ans.fin H rfl
          ·refine Ans.mk rfl rfl fun a H => s_move H rfl rfl (lt_ rfl) fun a H => ?_
           exact Ans.fin H rfl
          ·refine Ans.mk rfl rfl fun a H => ?_
           replace H := H.ch (t := 60) (b := false) rfl h188
           refine s_move H (wantG H rfl rfl) rfl (lt_ rfl) fun a H => ?_
           exact Ans.fin H rfl
          ·refine Ans.mk rfl rfl fun a H => ?_
           replace H := H.ch (t := 60) (b := false) rfl h188
           refine s_fld H (wantG H rfl rfl) rfl fld_40_3 (lt_ rfl) fun a H => ?_
           exact Ans.fin H rfl
          ·refine Ans.mk rfl rfl fun a H => ?_
           replace H := H.ch (t := 60) (b := false) rfl h188
           refine s_load (v := (.string l189)) H (wantG H rfl rfl) rfl one_9 hc190 (lt_ rfl) fun a H => ?_
           exact Ans.fin H rfl
          ·refine Ans.mk rfl rfl fun a H => ?_
           replace H := H.ch (t := 60) (b := false) rfl h188
           refine s_move H (wantG H rfl rfl) rfl (lt_ rfl) fun a H => ?_
           exact Ans.fin H rfl
          ·refine Ans.mk rfl rfl fun a H => ?_
           replace H := H.ch (t := 60) (b := false) rfl h188
           refine s_fld H (wantG H rfl rfl) rfl fld_40_3 (lt_ rfl) fun a H => ?_
           exact Ans.fin H rfl
          ·refine Ans.mk rfl rfl fun a H => ?_
           replace H := H.ch (t := 60) (b := false) rfl h188
           refine s_load (v := (.string l191)) H (wantG H rfl rfl) rfl one_9 hc192 (lt_ rfl) fun a H => ?_
           exact Ans.fin H rfl
          ·intro a H
           replace H := H.weaken (L' := [(60, (.bool (!(decide (C182 = C186) && (decide (C183 = C187)))))), (61, (.pointer t1)), (63, (.string l189))]) ⟨rfl, rfl, rfl, trivial⟩
           replace H := H.ch (t := 60) (b := false) rfl h188
           refine s_call H (wantG H rfl rfl) body_19 (H.args (vs := [(.pointer t1), (.string l189)]) rfl) (lt_ rfl) h ?_ (fun c w' h H => e_panic (P := PP) (fn := Tryz.f8) H h)
           clear H h a
           rintro _ w193 a ⟨C194, C195, rfl, h⟩ H
           refine c_nil ?_
           obtain ⟨hc196, h⟩ := h
           refine effQ.go [] H rfl rfl <| Stg.eff [25, 26, 27] (by kernel_rfl) rfl (.cons ?_ (.cons ?_ (.cons ?_ .nil))) ?_
           ·refine Ans.mk rfl rfl fun a H => ?_
            replace H := H.ch (t := 60) (b := false) rfl h188
            refine s_move H (wantG H rfl rfl) rfl (lt_ rfl) fun a H => ?_
            exact Ans.fin H rfl
           ·refine Ans.mk rfl rfl fun a H => ?_
            replace H := H.ch (t := 60) (b := false) rfl h188
            refine s_fld H (wantG H rfl rfl) rfl fld_40_3 (lt_ rfl) fun a H => ?_
            exact Ans.fin H rfl
           ·refine Ans.mk rfl rfl fun a H => ?_
            replace H := H.ch (t := 60) (b := false) rfl h188
            refine s_load (v := (.string l191)) H (wantG H rfl rfl) rfl one_9 hc196 (lt_ rfl) fun a H => ?_
            exact Ans.fin H rfl
           ·intro a H
            replace H := H.weaken (L' := [(60, (.bool (!(decide (C182 = C186) && (decide (C183 = C187)))))), (65, (.pointer r2)), (67, (.string l191))]) ⟨rfl, rfl, rfl, trivial⟩
            replace H := H.ch (t := 60) (b := false) rfl h188
            refine s_call H (wantG H rfl rfl) body_20 (H.args (vs := [(.pointer r2), (.string l191)]) rfl) (lt_ rfl) h ?_ (fun c w' h H => e_panic (P := PP) (fn := Tryz.f8) H h)
            clear H h a
            rintro _ w197 a ⟨C198, C199, rfl, h⟩ H
            refine c_nil <| effQ.go [(29, (.bool (!(decide (C194 = C198) && (decide (C195 = C199)))))), (30, (.bool (!(decide (C194 = C198) && (decide (C195 = C199))))))] H rfl rfl <| Stg.fin [29, 30] (by kernel_rfl) (.cons ?_ (.cons ?_ .nil)) ?_
            ·refine Ans.mk rfl rfl fun a H => ?_
             replace H := H.ch (t := 60) (b := false) rfl h188
             refine s_bin H (wantG H rfl rfl) rfl rfl (r_nest eqg_33 (eqst_33 0) rfl) (lt_ rfl) fun a H => ?_
             exact Ans.fin H rfl
            ·refine Ans.mk rfl rfl fun a H => ?_
             replace H := H.ch (t := 60) (b := false) rfl h188
             refine s_pickF H rfl rfl rfl (lt_ rfl) fun a H => ?_
             exact Ans.fin H rfl
            ·intro a H
             replace H := H.weaken (L' := [(0, (.pointer t1)), (1, (.pointer r2)), (5, (.pointer (some (blk b17)))), (70, (.bool (!(decide (C194 = C198) && (decide (C195 = C199))))))]) ⟨rfl, rfl, rfl, rfl, trivial⟩
             exact h152 _ _ _ h (H.weaken ⟨rfl, rfl, rfl, rfl, trivial⟩)
   ·replace h := h.2 h61
    refine c_seq fun K229 hK229 => c_reg <| s_bin H rfl rfl rfl r_eql (lt_ rfl) fun a H => s_assign H rfl rfl (lt_ rfl) fun a H => c_nil <| hK229 _ _ <| c_cond H rfl (fun h230 => ?_) (fun h230 => ?_)
    ·replace h := h.1 h230
     refine c_seq fun K231 hK231 => c_reg <| s_move H rfl rfl (lt_ rfl) fun a H => s_move H rfl rfl (lt_ rfl) fun a H => s_call H rfl body_9 (H.args (vs := [(.pointer t1), (.pointer r2)]) rfl) (lt_ rfl) h ?_ (fun c w' h H => e_panic (P := PP) (fn := Tryz.f8) H h)
     clear H h a
     rintro _ w232 a ⟨t233, rfl, h⟩ H
     refine s_assign H rfl rfl (lt_ rfl) fun a H => c_nil <| hK231 _ _ <| c_ret ?_
     exact e_ret1 H rfl rfl h
    ·replace h := h.2 h230
     refine c_skip <| hK20 _ _ <| c_seq fun K238 hK238 => c_reg <| s_assign H rfl rfl (lt_ rfl) fun a H => c_nil <| hK238 _ _ <| c_ret ?_
     exact e_ret1 H rfl rfl h
 clear h242
 refine c_seq fun K240 hK240 => c_reg <| s_bin H rfl rfl rfl r_eql (lt_ rfl) fun a H => s_assign H rfl rfl (lt_ rfl) fun a H => c_nil <| hK240 _ _ <| c_cond H rfl (fun h241 => ?_) (fun h241 => ?_)
 ·replace h := h.1 h241
  refine c_skip ?_
  exact h239 _ _ _ h (H.weaken ⟨rfl, rfl, rfl, rfl, rfl, trivial⟩)
 ·replace h := h.2 h241
  refine c_reg <| s_bin H rfl rfl rfl r_eql (lt_ rfl) fun a H => s_assign H rfl rfl (lt_ rfl) fun a H => c_nil ?_
  exact h239 _ _ _ h (H.weaken ⟨rfl, rfl, rfl, rfl, rfl, trivial⟩)

theorem sim_sherdlaw15_tells (t1 r2 : Option Addr) (w : World) (Q : Ending → World → Prop) (h : vc_sherdlaw15_tells t1 r2 w Q) : Calls PP F_sherdlaw15_tells #[(.pointer t1), (.pointer r2)] w Q := by
 unfold vc_sherdlaw15_tells at h
 refine enter (n := 24) Tryz.func9 rfl rfl (Nat.le_of_ble_eq_true rfl) fun a H => c_seq fun K3 hK3 => c_reg <| s_assign H rfl rfl (lt_ rfl) fun a H => c_nil <| hK3 _ _ <| c_seq fun K4 hK4 => c_reg <| s_move H rfl rfl (lt_ rfl) fun a H => s_call H rfl body_27 (H.args (vs := [(.pointer t1)]) rfl) (lt_ rfl) h ?_ (fun c w' h H => e_panic (P := PP) (fn := Tryz.f9) H h)
 clear H h a
 rintro _ w5 a ⟨K6, rfl, h⟩ H
 refine s_move H rfl rfl (lt_ rfl) fun a H => s_call H rfl body_28 (H.args (vs := [(.pointer r2)]) rfl) (lt_ rfl) h ?_ (fun c w' h H => e_panic (P := PP) (fn := Tryz.f9) H h)
 clear H h a
 rintro _ w7 a ⟨K8, rfl, h⟩ H
 refine s_call H rfl body_26 (H.args (vs := [K6.v, K8.v]) rfl) (lt_ rfl) h ?_ (fun c w' h H => e_panic (P := PP) (fn := Tryz.f9) H h)
 clear H h a
 rintro _ w9 a ⟨s10, rfl, h⟩ H
 refine s_move H rfl rfl (lt_ rfl) fun a H => ?_
 obtain ⟨R13, h, h58⟩ := h
 refine g_joinW (n := 24) R13 (fun x14 => [(16, (.bool x14)), (0, (.pointer t1)), (1, (.pointer r2))]) (.succ (.succ (.succ (.succ (.succ (.succ (.zero _))))))) ?_ ?_
 ·intro h12
  clear h58
  rcases Bool.eq_false_or_eq_true s10 with h11 | h11
  ·replace H := H.ch (t := 10) (b := true) rfl h11
   replace h := h.1 h11
   refine s_move H (wantG H rfl rfl) rfl (lt_ rfl) fun a H => s_call H (wantG H rfl rfl) body_30 (H.args (vs := [(.pointer t1)]) rfl) (lt_ rfl) h ?_ (fun c w' h H => e_panic (P := PP) (fn := Tryz.f9) H h)
   clear H h a
   rintro _ w16 a ⟨A17, rfl, h⟩ H
   refine s_move H (wantG H rfl rfl) rfl (lt_ rfl) fun a H => s_call H (wantG H rfl rfl) body_31 (H.args (vs := [(.pointer r2)]) rfl) (lt_ rfl) h ?_ (fun c w' h H => e_panic (P := PP) (fn := Tryz.f9) H h)
   clear H h a
   rintro _ w18 a ⟨A19, rfl, h⟩ H
   refine s_call H (wantG H rfl rfl) body_29 (H.args (vs := [A17.v, A19.v]) rfl) (lt_ rfl) h ?_ (fun c w' h H => e_panic (P := PP) (fn := Tryz.f9) H h)
   clear H h a
   rintro _ w20 a ⟨s21, rfl, h⟩ H
   refine s_pickT H rfl rfl rfl (lt_ rfl) fun a H => ?_
   exact h12 _ _ _ h (H.weaken ⟨rfl, rfl, rfl, trivial⟩)
  ·replace H := H.ch (t := 10) (b := false) rfl h11
   replace h := h.2 h11
   iterate 5 refine s_skip H (wantN H rfl rfl rfl) rfl (lt_ rfl) fun a H => ?_
   refine s_pickF H rfl rfl rfl (lt_ rfl) fun a H => ?_
   exact h12 _ _ _ h (H.weaken ⟨rfl, rfl, rfl, trivial⟩)
 ·clear H a h
  intro a x14 w15 h H
  replace h := h58 x14 w15 h
  clear h58
  refine s_move H rfl rfl (lt_ rfl) fun a H => ?_
  obtain ⟨R36, h, h57⟩ := h
  refine g_joinW (n := 24) R36 (fun x37 => [(23, (.bool x37))]) (.succ (.succ (.succ (.succ (.succ (.succ (.zero _))))))) ?_ ?_
  ·intro h35
   clear h57
   rcases Bool.eq_false_or_eq_true x14 with h34 | h34
   ·replace H := H.ch (t := 17) (b := true) rfl h34
    replace h := h.1 h34
    refine s_move H (wantG H rfl rfl) rfl (lt_ rfl) fun a H => s_call H (wantG H rfl rfl) body_33 (H.args (vs := [(.pointer t1)]) rfl) (lt_ rfl) h ?_ (fun c w' h H => e_panic (P := PP) (fn := Tryz.f9) H h)
    clear H h a
    rintro _ w39 a ⟨U40, rfl, h⟩ H
    refine s_move H (wantG H rfl rfl) rfl (lt_ rfl) fun a H => s_call H (wantG H rfl rfl) body_34 (H.args (vs := [(.pointer r2)]) rfl) (lt_ rfl) h ?_ (fun c w' h H => e_panic (P := PP) (fn := Tryz.f9) H h)
    clear H h a
    rintro _ w41 a ⟨U42, rfl, h⟩ H
    refine s_call H (wantG H rfl rfl) body_32 (H.args (vs := [U40.v, U42.v]) rfl) (lt_ rfl) h ?_ (fun c w' h H => e_panic (P := PP) (fn := Tryz.f9) H h)
    clear H h a
    rintro _ w43 a ⟨s44, rfl, h⟩ H
    refine s_pickT H rfl rfl rfl (lt_ rfl) fun a H => ?_
    exact h35 _ _ _ h (H.weaken ⟨rfl, trivial⟩)
   ·replace H := H.ch (t := 17) (b := false) rfl h34
    replace h := h.2 h34
    iterate 5 refine s_skip H (wantN H rfl rfl rfl) rfl (lt_ rfl) fun a H => ?_
    refine s_pickF H rfl rfl rfl (lt_ rfl) fun a H => ?_
    exact h35 _ _ _ h (H.weaken ⟨rfl, trivial⟩)
  ·clear H a h
   intro a x37 w38 h H
   replace h := h57 x37 w38 h
   clear h57
   refine s_assign H rfl rfl (lt_ rfl) fun a H => c_nil <| hK4 _ _ <| c_ret ?_
   exact e_ret1 H rfl rfl h
end Go.Proofs.YtgnceldnfefnmaaGreat
