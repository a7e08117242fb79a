/-
  The conditions give the machine's calls; printed by vcgen.py.
-/
import Derived.Test.YtgnceldnfefnmaaRecVc
namespace Go.Proofs.Ytgnceldnfefnmaa
open Go Go.Vc
set_option maxRecDepth 100000
set_option maxHeartbeats 4000000
theorem sim_sherdlaw15_TableAgain (d1 : Int) (m2 M3 : Slc) (C4 : Int) (w : World) (Q : Ending → World → Prop) (h : vc_sherdlaw15_TableAgain d1 m2 M3 C4 w Q) : Calls PP F_sherdlaw15_TableAgain #[(.i d1), m2.v, (.agg #[M3.v, (.i C4)])] w Q := by
 unfold vc_sherdlaw15_TableAgain at h
 refine enter (n := 156) Try.func6 rfl rfl (Nat.le_of_ble_eq_true rfl) fun a H => c_seq fun K5 hK5 => c_reg ?_
 replace h := h.get
 obtain ⟨b6, w7, n8, h⟩ := h
 refine s_box H rfl rfl (lt_ rfl) ?_
 rw [← n8.at_]
 clear H a
 intro a H
 refine n8.go <| s_assign H rfl rfl (lt_ rfl) fun a H => c_nil <| hK5 _ _ <| c_seq fun K9 hK9 => c_regD mixed (by kernel_rfl) <| z_fld H rfl rfl fld_61_0 (lt_ rfl) fun a H => z_load (v := M3.v) H rfl rfl one_22 (n8.cell (i := 0) rfl) (lt_ rfl) fun a H => z_fld H rfl rfl fld_61_1 (lt_ rfl) fun a H => z_load (v := (.i C4)) H rfl rfl one_3 (n8.cell (i := 1) rfl) (lt_ rfl) fun a H => z_assign H rfl rfl (lt_ rfl) fun a H => z_assign H rfl rfl (lt_ rfl) fun a H => wpQuiet_nil ?_
 rintro _ ⟨k10, rfl⟩
 replace h := h k10
 refine hK9 _ _ <| c_seq fun K11 hK11 => c_reg <| s_move H rfl rfl (lt_ rfl) fun a H => s_call H rfl body_7 (H.args (vs := [(.i d1)]) rfl) (lt_ rfl) h ?_ (fun c w' h H => e_panic (P := PP) (fn := Try.f6) H h)
 clear H h a
 rintro _ w12 a ⟨s13, rfl, h⟩ H
 refine s_assign H rfl rfl (lt_ rfl) fun a H => c_nil <| hK11 _ _ <| c_seq fun K14 hK14 => c_reg <| s_move H rfl rfl (lt_ rfl) fun a H => s_move H rfl rfl (lt_ rfl) fun a H => s_call H rfl body_17 (H.args (vs := [(.i s13), m2.v]) rfl) (lt_ rfl) h ?_ (fun c w' h H => e_panic (P := PP) (fn := Try.f6) H h)
 clear H h a
 rintro _ w15 a ⟨d16, d17, rfl, h⟩ H
 refine s_move H rfl rfl (lt_ rfl) fun a H => s_ext H rfl rfl rfl (lt_ rfl) fun a H => s_ext H rfl rfl rfl (lt_ rfl) fun a H => s_assign H rfl rfl (lt_ rfl) fun a H => s_assign H rfl rfl (lt_ rfl) fun a H => c_nil <| hK14 _ _ <| c_seq fun K18 hK18 => c_seq fun K19 hK19 => c_reg <| s_move H rfl rfl (lt_ rfl) fun a H => s_un H rfl rfl r_not (lt_ rfl) fun a H => c_nil <| hK19 _ _ <| c_cond H rfl (fun h20 => ?_) (fun h20 => ?_)
 ·replace h := h.1 h20
  refine c_seq fun K21 hK21 => c_reg <| s_assign H rfl rfl (lt_ rfl) fun a H => c_nil <| hK21 _ _ <| c_ret ?_
  exact e_ret1 H rfl rfl h
 ·replace h := h.2 h20
  refine c_skip <| hK18 _ _ <| c_seq fun K22 hK22 => c_reg <| s_move H rfl rfl (lt_ rfl) fun a H => s_call H rfl body_21 (H.args (vs := [(.pointer d16)]) rfl) (lt_ rfl) h ?_ (fun c w' h H => e_panic (P := PP) (fn := Try.f6) H h)
  clear H h a
  rintro _ w23 a ⟨A24, rfl, h⟩ H
  refine s_assign H rfl rfl (lt_ rfl) fun a H => c_nil <| hK22 _ _ <| c_seq fun K25 hK25 => c_reg <| s_move H rfl rfl (lt_ rfl) fun a H => s_call H rfl body_23 (H.args (vs := [(.pointer d16)]) rfl) (lt_ rfl) h ?_ (fun c w' h H => e_panic (P := PP) (fn := Try.f6) H h)
  clear H h a
  rintro _ w26 a ⟨U27, rfl, h⟩ H
  refine s_assign H rfl rfl (lt_ rfl) fun a H => c_nil <| hK25 _ _ <| c_seq fun K28 hK28 => c_reg <| s_move H rfl rfl (lt_ rfl) fun a H => s_call H rfl body_8 (H.args (vs := [(.i s13)]) rfl) (lt_ rfl) h ?_ (fun c w' h H => e_panic (P := PP) (fn := Try.f6) H h)
  clear H h a
  rintro _ w29 a ⟨N30, N31, rfl, h⟩ H
  refine s_move H rfl rfl (lt_ rfl) fun a H => s_ext H rfl rfl rfl (lt_ rfl) fun a H => s_ext H rfl rfl rfl (lt_ rfl) fun a H => s_assign H rfl rfl (lt_ rfl) fun a H => s_assign H rfl rfl (lt_ rfl) fun a H => c_nil <| hK28 _ _ <| c_seq fun K32 hK32 => c_reg <| s_move H rfl rfl (lt_ rfl) fun a H => s_call H rfl body_8 (H.args (vs := [(.i s13)]) rfl) (lt_ rfl) h ?_ (fun c w' h H => e_panic (P := PP) (fn := Try.f6) H h)
  clear H h a
  rintro _ w33 a ⟨N34, N35, rfl, h⟩ H
  refine s_move H rfl rfl (lt_ rfl) fun a H => s_ext H rfl rfl rfl (lt_ rfl) fun a H => s_ext H rfl rfl rfl (lt_ rfl) fun a H => s_assign H rfl rfl (lt_ rfl) fun a H => s_assign H rfl rfl (lt_ rfl) fun a H => c_nil <| hK32 _ _ <| c_seq fun K36 hK36 => c_seq fun K37 hK37 => c_reg <| s_move H rfl rfl (lt_ rfl) fun a H => s_blt H rfl (H.args (vs := [U27.v]) rfl) (lt_ rfl) (fun cs => b_lenS (z := U27) sl_57) fun a H => s_move H rfl rfl (lt_ rfl) fun a H => c_nil <| hK37 _ _ <| c_block ?_
  obtain ⟨I40, m41, h371, h372⟩ := h
  refine c_loop (σ := Int) (fun z w => I40 z w) (fun z w => m41 z w) (fun z => [(0, (.i s13)), (1, m2.v), (7, M3.v), (8, (.i C4)), (9, (.pointer d16)), (11, A24.v), (12, U27.v), (13, (.pointer N30)), (15, (.pointer N34)), (57, U27.v), (58, (.i (U27.l : Int))), (59, (.i z))]) 0 h371 (H.weaken ⟨rfl, rfl, rfl, rfl, rfl, rfl, rfl, rfl, rfl, rfl, rfl, rfl, trivial⟩) ?_
  clear H h371
  rintro s38 a w39 h H
  replace h := h372 s38 w39 h
  clear h372
  replace H : Has 156 [] a [(0, (.i s13)), (1, m2.v), (7, M3.v), (8, (.i C4)), (9, (.pointer d16)), (11, A24.v), (12, U27.v), (13, (.pointer N30)), (15, (.pointer N34)), (57, U27.v), (58, (.i (U27.l : Int))), (59, (.i s38))] := H
  refine c_seq fun K42 hK42 => c_reg <| s_bin H rfl rfl rfl r_lss (lt_ rfl) fun a H => c_nil <| hK42 _ _ <| c_seq fun K43 hK43 => c_cond H rfl (fun h44 => ?_) (fun h44 => ?_)
  ·replace h := h.1 h44
   refine c_skip <| hK43 _ _ <| c_seq fun K45 hK45 => c_block <| c_seq fun K46 hK46 => c_reg ?_
   obtain ⟨a47, h48, h49, h50, h⟩ := h
   refine s_idxS (s := U27) H rfl rfl rfl slc_57 h48 h49 h50 (lt_ rfl) fun a H => ?_
   obtain ⟨K51, hc52, K53, hc54, C55, hc56, C57, hc58, F59, hc60, H61, hc62, D63, hc64, h⟩ := h
   refine s_loadN (l := [(.i K51), (.string K53), (.i C55), (.i C57), (.bool F59), (.bool H61), D63.v]) H rfl rfl agg_39 rfl ⟨hc52, hc54, hc56, hc58, hc60, hc62, hc64, trivial⟩ (lt_ rfl) fun a H => ?_
   replace h := h.get
   obtain ⟨b65, w66, n67, h⟩ := h
   refine s_alloc H rfl zero_39 (lt_ rfl) ?_
   rw [← n67.at_]
   clear H a
   intro a H
   refine n67.go <| s_stoN (l := [(.i K51), (.string K53), (.i C55), (.i C57), (.bool F59), (.bool H61), D63.v]) H rfl rfl rfl rfl agg_39 rfl rfl h ?_
   clear h H
   intro w68 h H
   refine c_nil <| hK46 _ _ <| c_seq fun K69 hK69 => c_reg <| s_move H rfl rfl (lt_ rfl) fun a H => ?_
   obtain ⟨K70, hc71, K72, hc73, C74, hc75, C76, hc77, F78, hc79, H80, hc81, D82, hc83, h⟩ := h
   refine s_loadN (l := [(.i K70), (.string K72), (.i C74), (.i C76), (.bool F78), (.bool H80), D82.v]) H rfl rfl agg_39 rfl ⟨hc71, hc73, hc75, hc77, hc79, hc81, hc83, trivial⟩ (lt_ rfl) fun a H => s_call H rfl body_9 (H.args (vs := [(.pointer N30), (.agg #[(.i K70), (.string K72), (.i C74), (.i C76), (.bool F78), (.bool H80), D82.v])]) rfl) (lt_ rfl) h ?_ (fun c w' h H => e_panic (P := PP) (fn := Try.f6) H h)
   clear H h a
   rintro _ w84 a ⟨A85, A86, rfl, h⟩ H
   refine s_move H rfl rfl (lt_ rfl) fun a H => s_ext H rfl rfl rfl (lt_ rfl) fun a H => s_ext H rfl rfl rfl (lt_ rfl) fun a H => s_assign H rfl rfl (lt_ rfl) fun a H => s_assign H rfl rfl (lt_ rfl) fun a H => c_nil <| hK69 _ _ <| c_seq fun K87 hK87 => c_reg <| s_move H rfl rfl (lt_ rfl) fun a H => s_un H rfl rfl r_not (lt_ rfl) fun a H => s_move H rfl rfl (lt_ rfl) fun a H => ?_
   refine g_join (n := 156) [(74, (.bool ((!A85) || (decide (A86 ≠ 0))))), (0, (.i s13)), (1, m2.v), (7, M3.v), (8, (.i C4)), (9, (.pointer d16)), (11, A24.v), (12, U27.v), (13, (.pointer N30)), (15, (.pointer N34)), (57, U27.v), (58, (.i (U27.l : Int))), (59, (.i s38))] (.succ (.succ (.succ (.zero _)))) ?_ ?_
   ·intro h89
    try clear h
    rcases Bool.eq_false_or_eq_true (!A85) with h88 | h88
    ·replace H := H.ch (t := 71) (b := true) rfl h88
     refine s_skip H (wantN H rfl rfl rfl) rfl (lt_ rfl) fun a H => s_skip H (wantN H rfl rfl rfl) rfl (lt_ rfl) fun a H => s_pickT H rfl rfl rfl (lt_ rfl) fun a H => ?_
     exact h89 _ (H.weaken ⟨by rw [h88]; rfl, rfl, rfl, rfl, rfl, rfl, rfl, rfl, rfl, rfl, rfl, rfl, rfl, trivial⟩)
    ·replace H := H.ch (t := 71) (b := false) rfl h88
     refine s_move H (wantG H rfl rfl) rfl (lt_ rfl) fun a H => s_bin H (wantG H rfl rfl) rfl rfl r_neq (lt_ rfl) fun a H => s_pickF H rfl rfl rfl (lt_ rfl) fun a H => ?_
     exact h89 _ (H.weaken ⟨by rw [h88]; rfl, rfl, rfl, rfl, rfl, rfl, rfl, rfl, rfl, rfl, rfl, rfl, rfl, trivial⟩)
   ·clear H a
    intro a H
    refine c_nil <| hK87 _ _ <| c_cond H rfl (fun h90 => ?_) (fun h90 => ?_)
    ·replace h := h.1 h90
     refine c_seq fun K91 hK91 => c_reg <| s_assign H rfl rfl (lt_ rfl) fun a H => c_nil <| hK91 _ _ <| c_ret ?_
     exact e_ret1 H rfl rfl h
    ·replace h := h.2 h90
     refine c_skip <| hK45 _ _ <| c_reg <| s_bin H rfl rfl rfl r_add (lt_ rfl) fun a H => s_move H rfl rfl (lt_ rfl) fun a H => c_nil <| Exists.intro (wr .i64 (s38 + 1)) ⟨h.1, h.2, H.weaken ⟨rfl, rfl, rfl, rfl, rfl, rfl, rfl, rfl, rfl, rfl, rfl, rfl, trivial⟩⟩
  ·replace h := h.2 h44
   refine c_exit ?_
   first | (simp only [Exit.then, Exit.inBlock, ↓reduceIte]; fail_if_success simp only [Nat.reduceEqDiff]) | simp only [Exit.then, Exit.inBlock, ↓reduceIte, Nat.reduceEqDiff]
   refine hK36 _ _ <| c_seq fun K96 hK96 => c_seq fun K97 hK97 => c_reg <| s_move H rfl rfl (lt_ rfl) fun a H => s_blt H rfl (H.args (vs := [U27.v]) rfl) (lt_ rfl) (fun cs => b_lenS (z := U27) sl_57) fun a H => s_move H rfl rfl (lt_ rfl) fun a H => c_nil <| hK97 _ _ <| c_block ?_
   obtain ⟨I100, m101, h369, h370⟩ := h
   refine c_loop (σ := Int) (fun z w => I100 z w) (fun z w => m101 z w) (fun z => [(0, (.i s13)), (1, m2.v), (7, M3.v), (8, (.i C4)), (9, (.pointer d16)), (11, A24.v), (12, U27.v), (13, (.pointer N30)), (15, (.pointer N34)), (77, (.i (U27.l : Int))), (78, (.i z))]) 0 h369 (H.weaken ⟨rfl, rfl, rfl, rfl, rfl, rfl, rfl, rfl, rfl, rfl, rfl, trivial⟩) ?_
   clear H h369
   rintro s98 a w99 h H
   replace h := h370 s98 w99 h
   clear h370
   replace H : Has 156 [] a [(0, (.i s13)), (1, m2.v), (7, M3.v), (8, (.i C4)), (9, (.pointer d16)), (11, A24.v), (12, U27.v), (13, (.pointer N30)), (15, (.pointer N34)), (77, (.i (U27.l : Int))), (78, (.i s98))] := H
   refine c_seq fun K102 hK102 => c_reg <| s_bin H rfl rfl rfl r_lss (lt_ rfl) fun a H => c_nil <| hK102 _ _ <| c_seq fun K103 hK103 => c_cond H rfl (fun h104 => ?_) (fun h104 => ?_)
   ·replace h := h.1 h104
    refine c_skip <| hK103 _ _ <| c_seq fun K105 hK105 => ?_
    obtain ⟨R106, h, h137⟩ := h
    have h108 : ∀ (a : Act) (w107 : World), R106 w107 → Has 156 [] a [(0, (.i s13)), (1, m2.v), (7, M3.v), (8, (.i C4)), (9, (.pointer d16)), (11, A24.v), (12, U27.v), (13, (.pointer N30)), (15, (.pointer N34)), (77, (.i (U27.l : Int))), (78, (.i s98))] → K105 a w107 := by
     clear h
     intro a w107 h H
     replace h := h137 w107 h
     refine hK105 _ _ <| c_reg <| s_bin H rfl rfl rfl r_add (lt_ rfl) fun a H => s_move H rfl rfl (lt_ rfl) fun a H => c_nil <| Exists.intro (wr .i64 (s98 + 1)) ⟨h.1, h.2, H.weaken ⟨rfl, rfl, rfl, rfl, rfl, rfl, rfl, rfl, rfl, rfl, rfl, trivial⟩⟩
    clear h137
    refine c_block <| c_seq fun K109 hK109 => c_reg <| s_move H rfl rfl (lt_ rfl) fun a H => s_assign H rfl rfl (lt_ rfl) fun a H => c_nil <| hK109 _ _ <| c_seq fun K110 hK110 => c_reg <| s_move H rfl rfl (lt_ rfl) fun a H => s_move H rfl rfl (lt_ rfl) fun a H => s_bin H rfl rfl rfl (r_rem (by decide)) (lt_ rfl) fun a H => s_bin H rfl rfl rfl r_add (lt_ rfl) fun a H => s_bin H rfl rfl rfl (r_rem (by decide)) (lt_ rfl) fun a H => s_bin H rfl rfl rfl r_lss (lt_ rfl) fun a H => c_nil ?_
    refine hK110 _ _ <| c_cond H rfl (fun h111 => ?_) (fun h111 => ?_)
    ·replace h := h.1 h111
     refine c_reg ?_
     iterate 3 refine s_move H rfl rfl (lt_ rfl) fun a H => ?_
     obtain ⟨a112, h113, h114, h115, h⟩ := h
     refine s_idxS (s := U27) H rfl rfl rfl slc_57 h113 h114 h115 (lt_ rfl) fun a H => ?_
     obtain ⟨K116, hc117, K118, hc119, C120, hc121, C122, hc123, F124, hc125, H126, hc127, D128, hc129, h⟩ := h
     refine s_loadN (l := [(.i K116), (.string K118), (.i C120), (.i C122), (.bool F124), (.bool H126), D128.v]) H rfl rfl agg_39 rfl ⟨hc117, hc119, hc121, hc123, hc125, hc127, hc129, trivial⟩ (lt_ rfl) fun a H => s_call H rfl body_9 (H.args (vs := [(.pointer N34), (.agg #[(.i K116), (.string K118), (.i C120), (.i C122), (.bool F124), (.bool H126), D128.v])]) rfl) (lt_ rfl) h ?_ (fun c w' h H => e_panic (P := PP) (fn := Try.f6) H h)
     clear H h a
     rintro _ w130 a ⟨A131, A132, rfl, h⟩ H
     refine c_nil ?_
     exact h108 _ _ h (H.weaken ⟨rfl, rfl, rfl, rfl, rfl, rfl, rfl, rfl, rfl, rfl, rfl, trivial⟩)
    ·replace h := h.2 h111
     refine c_skip ?_
     exact h108 _ _ h (H.weaken ⟨rfl, rfl, rfl, rfl, rfl, rfl, rfl, rfl, rfl, rfl, rfl, trivial⟩)
   ·replace h := h.2 h104
    refine c_exit ?_
    first | (simp only [Exit.then, Exit.inBlock, ↓reduceIte]; fail_if_success simp only [Nat.reduceEqDiff]) | simp only [Exit.then, Exit.inBlock, ↓reduceIte, Nat.reduceEqDiff]
    refine hK96 _ _ <| c_seq fun K138 hK138 => c_seq fun K139 hK139 => c_reg <| s_move H rfl rfl (lt_ rfl) fun a H => s_blt H rfl (H.args (vs := [U27.v]) rfl) (lt_ rfl) (fun cs => b_lenS (z := U27) sl_57) fun a H => s_move H rfl rfl (lt_ rfl) fun a H => c_nil <| hK139 _ _ <| c_block ?_
    obtain ⟨I142, m143, h367, h368⟩ := h
    refine c_loop (σ := Int) (fun z w => I142 z w) (fun z w => m143 z w) (fun z => [(0, (.i s13)), (1, m2.v), (7, M3.v), (9, (.pointer d16)), (11, A24.v), (13, (.pointer N30)), (15, (.pointer N34)), (94, U27.v), (95, (.i (U27.l : Int))), (96, (.i z))]) 0 h367 (H.weaken ⟨rfl, rfl, rfl, rfl, rfl, rfl, rfl, rfl, rfl, rfl, trivial⟩) ?_
    clear H h367
    rintro s140 a w141 h H
    replace h := h368 s140 w141 h
    clear h368
    replace H : Has 156 [] a [(0, (.i s13)), (1, m2.v), (7, M3.v), (9, (.pointer d16)), (11, A24.v), (13, (.pointer N30)), (15, (.pointer N34)), (94, U27.v), (95, (.i (U27.l : Int))), (96, (.i s140))] := H
    refine c_seq fun K144 hK144 => c_reg <| s_bin H rfl rfl rfl r_lss (lt_ rfl) fun a H => c_nil <| hK144 _ _ <| c_seq fun K145 hK145 => c_cond H rfl (fun h146 => ?_) (fun h146 => ?_)
    ·replace h := h.1 h146
     refine c_skip <| hK145 _ _ <| c_seq fun K147 hK147 => c_block <| c_seq fun K148 hK148 => c_reg ?_
     obtain ⟨a149, h150, h151, h152, h⟩ := h
     refine s_idxS (s := U27) H rfl rfl rfl slc_57 h150 h151 h152 (lt_ rfl) fun a H => ?_
     obtain ⟨K153, hc154, K155, hc156, C157, hc158, C159, hc160, F161, hc162, H163, hc164, D165, hc166, h⟩ := h
     refine s_loadN (l := [(.i K153), (.string K155), (.i C157), (.i C159), (.bool F161), (.bool H163), D165.v]) H rfl rfl agg_39 rfl ⟨hc154, hc156, hc158, hc160, hc162, hc164, hc166, trivial⟩ (lt_ rfl) fun a H => ?_
     replace h := h.get
     obtain ⟨b167, w168, n169, h⟩ := h
     refine s_alloc H rfl zero_39 (lt_ rfl) ?_
     rw [← n169.at_]
     clear H a
     intro a H
     refine n169.go <| s_stoN (l := [(.i K153), (.string K155), (.i C157), (.i C159), (.bool F161), (.bool H163), D165.v]) H rfl rfl rfl rfl agg_39 rfl rfl h ?_
     clear h H
     intro w170 h H
     refine c_nil <| hK148 _ _ <| c_reg <| s_move H rfl rfl (lt_ rfl) fun a H => ?_
     obtain ⟨K171, hc172, K173, hc174, C175, hc176, C177, hc178, F179, hc180, H181, hc182, D183, hc184, h⟩ := h
     refine s_loadN (l := [(.i K171), (.string K173), (.i C175), (.i C177), (.bool F179), (.bool H181), D183.v]) H rfl rfl agg_39 rfl ⟨hc172, hc174, hc176, hc178, hc180, hc182, hc184, trivial⟩ (lt_ rfl) fun a H => s_call H rfl body_9 (H.args (vs := [(.pointer N34), (.agg #[(.i K171), (.string K173), (.i C175), (.i C177), (.bool F179), (.bool H181), D183.v])]) rfl) (lt_ rfl) h ?_ (fun c w' h H => e_panic (P := PP) (fn := Try.f6) H h)
     clear H h a
     rintro _ w185 a ⟨A186, A187, rfl, h⟩ H
     refine c_nil <| hK147 _ _ <| c_reg <| s_bin H rfl rfl rfl r_add (lt_ rfl) fun a H => s_move H rfl rfl (lt_ rfl) fun a H => c_nil <| Exists.intro (wr .i64 (s140 + 1)) ⟨h.1, h.2, H.weaken ⟨rfl, rfl, rfl, rfl, rfl, rfl, rfl, rfl, rfl, rfl, trivial⟩⟩
    ·replace h := h.2 h146
     refine c_exit ?_
     first | (simp only [Exit.then, Exit.inBlock, ↓reduceIte]; fail_if_success simp only [Nat.reduceEqDiff]) | simp only [Exit.then, Exit.inBlock, ↓reduceIte, Nat.reduceEqDiff]
     refine hK138 _ _ <| c_seq fun K192 hK192 => c_reg <| s_move H rfl rfl (lt_ rfl) fun a H => s_call H rfl body_24 (H.args (vs := [(.pointer d16)]) rfl) (lt_ rfl) h ?_ (fun c w' h H => e_panic (P := PP) (fn := Try.f6) H h)
     clear H h a
     rintro _ w193 a ⟨C194, rfl, h⟩ H
     refine s_assign H rfl rfl (lt_ rfl) fun a H => c_nil <| hK192 _ _ <| c_seq fun K195 hK195 => c_seq fun K196 hK196 => c_reg <| s_move H rfl rfl (lt_ rfl) fun a H => s_blt H rfl (H.args (vs := [M3.v]) rfl) (lt_ rfl) (fun cs => b_lenS (z := M3) sl_22) fun a H => s_move H rfl rfl (lt_ rfl) fun a H => c_nil <| hK196 _ _ <| c_block ?_
     obtain ⟨I199, m200, h361, h362⟩ := h
     refine c_loop (σ := Int) (fun z w => I199 z w) (fun z w => m200 z w) (fun z => [(0, (.i s13)), (1, m2.v), (7, M3.v), (9, (.pointer d16)), (11, A24.v), (13, (.pointer N30)), (15, (.pointer N34)), (24, (.pointer C194)), (106, M3.v), (107, (.i (M3.l : Int))), (108, (.i z))]) 0 h361 (H.weaken ⟨rfl, rfl, rfl, rfl, rfl, rfl, rfl, rfl, rfl, rfl, rfl, trivial⟩) ?_
     clear H h361
     rintro s197 a w198 h H
     replace h := h362 s197 w198 h
     clear h362
     replace H : Has 156 [] a [(0, (.i s13)), (1, m2.v), (7, M3.v), (9, (.pointer d16)), (11, A24.v), (13, (.pointer N30)), (15, (.pointer N34)), (24, (.pointer C194)), (106, M3.v), (107, (.i (M3.l : Int))), (108, (.i s197))] := H
     refine c_seq fun K201 hK201 => c_reg <| s_bin H rfl rfl rfl r_lss (lt_ rfl) fun a H => c_nil <| hK201 _ _ <| c_seq fun K202 hK202 => c_cond H rfl (fun h203 => ?_) (fun h203 => ?_)
     ·replace h := h.1 h203
      refine c_skip <| hK202 _ _ <| c_seq fun K204 hK204 => c_block <| c_seq fun K205 hK205 => c_reg ?_
      obtain ⟨a206, h207, h208, h209, h⟩ := h
      refine s_idxS (s := M3) H rfl rfl rfl slc_22 h207 h208 h209 (lt_ rfl) fun a H => ?_
      obtain ⟨K210, hc211, F212, hc213, B214, hc215, C216, hc217, C218, hc219, h⟩ := h
      refine s_loadN (l := [(.i K210), (.bool F212), (.bool B214), (.i C216), (.i C218)]) H rfl rfl agg_32 rfl ⟨hc211, hc213, hc215, hc217, hc219, trivial⟩ (lt_ rfl) fun a H => ?_
      replace h := h.get
      obtain ⟨b220, w221, n222, h⟩ := h
      refine s_alloc H rfl zero_32 (lt_ rfl) ?_
      rw [← n222.at_]
      clear H a
      intro a H
      refine n222.go <| s_stoN (l := [(.i K210), (.bool F212), (.bool B214), (.i C216), (.i C218)]) H rfl rfl rfl rfl agg_32 rfl rfl h ?_
      clear h H
      intro w223 h H
      refine c_nil <| hK205 _ _ <| c_reg <| s_move H rfl rfl (lt_ rfl) fun a H => ?_
      obtain ⟨K224, hc225, F226, hc227, B228, hc229, C230, hc231, C232, hc233, h⟩ := h
      refine s_loadN (l := [(.i K224), (.bool F226), (.bool B228), (.i C230), (.i C232)]) H rfl rfl agg_32 rfl ⟨hc225, hc227, hc229, hc231, hc233, trivial⟩ (lt_ rfl) fun a H => s_call H rfl body_10 (H.args (vs := [(.agg #[(.i K224), (.bool F226), (.bool B228), (.i C230), (.i C232)])]) rfl) (lt_ rfl) h ?_ (fun c w' h H => e_panic (P := PP) (fn := Try.f6) H h)
      clear H h a
      rintro _ w234 a ⟨K235, K236, C237, C238, F239, H240, D241, rfl, h⟩ H
      refine s_call H rfl body_9 (H.args (vs := [(.pointer C194), (.agg #[(.i K235), (.string K236), (.i C237), (.i C238), (.bool F239), (.bool H240), D241.v])]) rfl) (lt_ rfl) h ?_ (fun c w' h H => e_panic (P := PP) (fn := Try.f6) H h)
      clear H h a
      rintro _ w242 a ⟨A243, A244, rfl, h⟩ H
      refine c_nil <| hK204 _ _ <| c_reg <| s_bin H rfl rfl rfl r_add (lt_ rfl) fun a H => s_move H rfl rfl (lt_ rfl) fun a H => c_nil <| Exists.intro (wr .i64 (s197 + 1)) ⟨h.1, h.2, H.weaken ⟨rfl, rfl, rfl, rfl, rfl, rfl, rfl, rfl, rfl, rfl, rfl, trivial⟩⟩
     ·replace h := h.2 h203
      refine c_exit ?_
      first | (simp only [Exit.then, Exit.inBlock, ↓reduceIte]; fail_if_success simp only [Nat.reduceEqDiff]) | simp only [Exit.then, Exit.inBlock, ↓reduceIte, Nat.reduceEqDiff]
      refine hK195 _ _ <| c_seq fun K253 hK253 => c_reg <| s_move H rfl rfl (lt_ rfl) fun a H => ?_
      replace h := h.get
      obtain ⟨b254, w255, n256, h⟩ := h
      refine s_bslc H rfl (by rw [H.parts (vs := []) rfl]; exact bs_22_0 w198) (lt_ rfl) ?_
      rw [← n256.at_]
      clear H a
      intro a H
      refine n256.go <| s_move H rfl rfl (lt_ rfl) fun a H => ?_
      obtain ⟨s257, w258, h259, h⟩ := h
      refine s_blt H rfl (H.args (vs := [(Slc.v (Slc.mk (some (blk b254)) 0 0)), m2.v]) rfl) (lt_ rfl) (fun cs => b_app (z := s257) h259) ?_
      clear H a h259
      intro a H
      refine s_move H rfl rfl (lt_ rfl) fun a H => ?_
      obtain ⟨s260, w261, h262, h⟩ := h
      refine s_blt H rfl (H.args (vs := [s257.v, M3.v]) rfl) (lt_ rfl) (fun cs => b_app (z := s260) h262) ?_
      clear H a h262
      intro a H
      refine s_call H rfl body_17 (H.args (vs := [(.i s13), s260.v]) rfl) (lt_ rfl) h ?_ (fun c w' h H => e_panic (P := PP) (fn := Try.f6) H h)
      clear H h a
      rintro _ w263 a ⟨d264, d265, rfl, h⟩ H
      refine s_move H rfl rfl (lt_ rfl) fun a H => s_ext H rfl rfl rfl (lt_ rfl) fun a H => s_ext H rfl rfl rfl (lt_ rfl) fun a H => s_assign H rfl rfl (lt_ rfl) fun a H => s_assign H rfl rfl (lt_ rfl) fun a H => c_nil <| hK253 _ _ <| c_seq fun K266 hK266 => c_reg <| s_move H rfl rfl (lt_ rfl) fun a H => s_move H rfl rfl (lt_ rfl) fun a H => ?_
      obtain ⟨R269, h, h356⟩ := h
      refine g_joinW (n := 156) R269 (fun x270 => [(133, (.bool x270)), (9, (.pointer d16)), (11, A24.v), (15, (.pointer N34)), (24, (.pointer C194)), (27, (.pointer d264))]) (.succ (.succ (.succ (.succ (.succ (.zero _)))))) ?_ ?_
      ·intro h268
       clear h356
       rcases Bool.eq_false_or_eq_true d265 with h267 | h267
       ·replace H := H.ch (t := 128) (b := true) rfl h267
        replace h := h.1 h267
        refine s_move H (wantG H rfl rfl) rfl (lt_ rfl) fun a H => s_call H (wantG H rfl rfl) body_21 (H.args (vs := [(.pointer N30)]) rfl) (lt_ rfl) h ?_ (fun c w' h H => e_panic (P := PP) (fn := Try.f6) H h)
        clear H h a
        rintro _ w272 a ⟨A273, rfl, h⟩ H
        refine s_move H (wantG H rfl rfl) rfl (lt_ rfl) fun a H => s_call H (wantG H rfl rfl) body_20 (H.args (vs := [A273.v, A24.v]) rfl) (lt_ rfl) h ?_ (fun c w' h H => e_panic (P := PP) (fn := Try.f6) H h)
        clear H h a
        rintro _ w274 a ⟨s275, rfl, h⟩ H
        refine s_pickT H rfl rfl rfl (lt_ rfl) fun a H => ?_
        exact h268 _ _ _ h (H.weaken ⟨rfl, rfl, rfl, rfl, rfl, rfl, trivial⟩)
       ·replace H := H.ch (t := 128) (b := false) rfl h267
        replace h := h.2 h267
        iterate 4 refine s_skip H (wantN H rfl rfl rfl) rfl (lt_ rfl) fun a H => ?_
        refine s_pickF H rfl rfl rfl (lt_ rfl) fun a H => ?_
        exact h268 _ _ _ h (H.weaken ⟨rfl, rfl, rfl, rfl, rfl, rfl, trivial⟩)
      ·clear H a h
       intro a x270 w271 h H
       replace h := h356 x270 w271 h
       clear h356
       refine s_move H rfl rfl (lt_ rfl) fun a H => ?_
       obtain ⟨R286, h, h355⟩ := h
       refine g_joinW (n := 156) R286 (fun x287 => [(139, (.bool x287)), (9, (.pointer d16)), (11, A24.v), (24, (.pointer C194)), (27, (.pointer d264))]) (.succ (.succ (.succ (.succ (.succ (.zero _)))))) ?_ ?_
       ·intro h285
        clear h355
        rcases Bool.eq_false_or_eq_true x270 with h284 | h284
        ·replace H := H.ch (t := 134) (b := true) rfl h284
         replace h := h.1 h284
         refine s_move H (wantG H rfl rfl) rfl (lt_ rfl) fun a H => s_call H (wantG H rfl rfl) body_21 (H.args (vs := [(.pointer N34)]) rfl) (lt_ rfl) h ?_ (fun c w' h H => e_panic (P := PP) (fn := Try.f6) H h)
         clear H h a
         rintro _ w289 a ⟨A290, rfl, h⟩ H
         refine s_move H (wantG H rfl rfl) rfl (lt_ rfl) fun a H => s_call H (wantG H rfl rfl) body_20 (H.args (vs := [A290.v, A24.v]) rfl) (lt_ rfl) h ?_ (fun c w' h H => e_panic (P := PP) (fn := Try.f6) H h)
         clear H h a
         rintro _ w291 a ⟨s292, rfl, h⟩ H
         refine s_pickT H rfl rfl rfl (lt_ rfl) fun a H => ?_
         exact h285 _ _ _ h (H.weaken ⟨rfl, rfl, rfl, rfl, rfl, trivial⟩)
        ·replace H := H.ch (t := 134) (b := false) rfl h284
         replace h := h.2 h284
         iterate 4 refine s_skip H (wantN H rfl rfl rfl) rfl (lt_ rfl) fun a H => ?_
         refine s_pickF H rfl rfl rfl (lt_ rfl) fun a H => ?_
         exact h285 _ _ _ h (H.weaken ⟨rfl, rfl, rfl, rfl, rfl, trivial⟩)
       ·clear H a h
        intro a x287 w288 h H
        replace h := h355 x287 w288 h
        clear h355
        refine s_move H rfl rfl (lt_ rfl) fun a H => ?_
        obtain ⟨R303, h, h354⟩ := h
        refine g_joinW (n := 156) R303 (fun x304 => [(145, (.bool x304)), (24, (.pointer C194)), (27, (.pointer d264))]) (.succ (.succ (.succ (.succ (.succ (.zero _)))))) ?_ ?_
        ·intro h302
         clear h354
         rcases Bool.eq_false_or_eq_true x287 with h301 | h301
         ·replace H := H.ch (t := 140) (b := true) rfl h301
          replace h := h.1 h301
          refine s_move H (wantG H rfl rfl) rfl (lt_ rfl) fun a H => s_call H (wantG H rfl rfl) body_21 (H.args (vs := [(.pointer d16)]) rfl) (lt_ rfl) h ?_ (fun c w' h H => e_panic (P := PP) (fn := Try.f6) H h)
          clear H h a
          rintro _ w306 a ⟨A307, rfl, h⟩ H
          refine s_move H (wantG H rfl rfl) rfl (lt_ rfl) fun a H => s_call H (wantG H rfl rfl) body_20 (H.args (vs := [A307.v, A24.v]) rfl) (lt_ rfl) h ?_ (fun c w' h H => e_panic (P := PP) (fn := Try.f6) H h)
          clear H h a
          rintro _ w308 a ⟨s309, rfl, h⟩ H
          refine s_pickT H rfl rfl rfl (lt_ rfl) fun a H => ?_
          exact h302 _ _ _ h (H.weaken ⟨rfl, rfl, rfl, trivial⟩)
         ·replace H := H.ch (t := 140) (b := false) rfl h301
          replace h := h.2 h301
          iterate 4 refine s_skip H (wantN H rfl rfl rfl) rfl (lt_ rfl) fun a H => ?_
          refine s_pickF H rfl rfl rfl (lt_ rfl) fun a H => ?_
          exact h302 _ _ _ h (H.weaken ⟨rfl, rfl, rfl, trivial⟩)
        ·clear H a h
         intro a x304 w305 h H
         replace h := h354 x304 w305 h
         clear h354
         refine s_move H rfl rfl (lt_ rfl) fun a H => ?_
         obtain ⟨R320, h, h353⟩ := h
         refine g_joinW (n := 156) R320 (fun x321 => [(152, (.bool x321))]) (.succ (.succ (.succ (.succ (.succ (.succ (.zero _))))))) ?_ ?_
         ·intro h319
          clear h353
          rcases Bool.eq_false_or_eq_true x304 with h318 | h318
          ·replace H := H.ch (t := 146) (b := true) rfl h318
           replace h := h.1 h318
           refine s_move H (wantG H rfl rfl) rfl (lt_ rfl) fun a H => s_call H (wantG H rfl rfl) body_21 (H.args (vs := [(.pointer C194)]) rfl) (lt_ rfl) h ?_ (fun c w' h H => e_panic (P := PP) (fn := Try.f6) H h)
           clear H h a
           rintro _ w323 a ⟨A324, rfl, h⟩ H
           refine s_move H (wantG H rfl rfl) rfl (lt_ rfl) fun a H => s_call H (wantG H rfl rfl) body_21 (H.args (vs := [(.pointer d264)]) rfl) (lt_ rfl) h ?_ (fun c w' h H => e_panic (P := PP) (fn := Try.f6) H h)
           clear H h a
           rintro _ w325 a ⟨A326, rfl, h⟩ H
           refine s_call H (wantG H rfl rfl) body_20 (H.args (vs := [A324.v, A326.v]) rfl) (lt_ rfl) h ?_ (fun c w' h H => e_panic (P := PP) (fn := Try.f6) H h)
           clear H h a
           rintro _ w327 a ⟨s328, rfl, h⟩ H
           refine s_pickT H rfl rfl rfl (lt_ rfl) fun a H => ?_
           exact h319 _ _ _ h (H.weaken ⟨rfl, trivial⟩)
          ·replace H := H.ch (t := 146) (b := false) rfl h318
           replace h := h.2 h318
           iterate 5 refine s_skip H (wantN H rfl rfl rfl) rfl (lt_ rfl) fun a H => ?_
           refine s_pickF H rfl rfl rfl (lt_ rfl) fun a H => ?_
           exact h319 _ _ _ h (H.weaken ⟨rfl, trivial⟩)
         ·clear H a h
          intro a x321 w322 h H
          replace h := h353 x321 w322 h
          clear h353
          refine s_move H rfl rfl (lt_ rfl) fun a H => ?_
          obtain ⟨R343, h, h352⟩ := h
          refine g_joinW (n := 156) R343 (fun x344 => [(155, (.bool x344))]) (.succ (.succ (.zero _))) ?_ ?_
          ·intro h342
           clear h352
           rcases Bool.eq_false_or_eq_true x321 with h341 | h341
           ·replace H := H.ch (t := 153) (b := true) rfl h341
            replace h := h.1 h341
            refine s_call H (wantG H rfl rfl) body_16 (H.args (vs := []) rfl) (lt_ rfl) h ?_ (fun c w' h H => e_panic (P := PP) (fn := Try.f6) H h)
            clear H h a
            rintro _ w346 a ⟨t347, rfl, h⟩ H
            refine s_pickT H rfl rfl rfl (lt_ rfl) fun a H => ?_
            exact h342 _ _ _ h (H.weaken ⟨rfl, trivial⟩)
           ·replace H := H.ch (t := 153) (b := false) rfl h341
            replace h := h.2 h341
            refine s_skip H (wantN H rfl rfl rfl) rfl (lt_ rfl) fun a H => s_pickF H rfl rfl rfl (lt_ rfl) fun a H => ?_
            exact h342 _ _ _ h (H.weaken ⟨rfl, trivial⟩)
          ·clear H a h
           intro a x344 w345 h H
           replace h := h352 x344 w345 h
           clear h352
           refine s_assign H rfl rfl (lt_ rfl) fun a H => c_nil <| hK266 _ _ <| c_ret ?_
           exact e_ret1 H rfl rfl h

theorem sim_sherdlaw15_small (d1 : Int) (w : World) (Q : Ending → World → Prop) (h : vc_sherdlaw15_small d1 w Q) : Calls PP F_sherdlaw15_small #[(.i d1)] w Q := by
 unfold vc_sherdlaw15_small at h
 refine enter (n := 7) Try.func7 rfl rfl (Nat.le_of_ble_eq_true rfl) fun a H => c_seq fun K2 hK2 => c_reg <| s_assign H rfl rfl (lt_ rfl) fun a H => c_nil <| hK2 _ _ <| c_seq fun K3 hK3 => c_reg <| s_move H rfl rfl (lt_ rfl) fun a H => s_bin H rfl rfl rfl (r_rem (by decide)) (lt_ rfl) fun a H => s_bin H rfl rfl rfl r_add (lt_ rfl) fun a H => s_bin H rfl rfl rfl (r_rem (by decide)) (lt_ rfl) fun a H => s_assign H rfl rfl (lt_ rfl) fun a H => c_nil <| hK3 _ _ <| c_ret ?_
 exact e_ret1 H rfl rfl h

theorem sim_table_New (d1 : Int) (w : World) (Q : Ending → World → Prop) (h : vc_table_New d1 w Q) : Calls PP F_table_New #[(.i d1)] w Q := by
 unfold vc_table_New at h
 refine enter (n := 14) Try.func8 rfl rfl (Nat.le_of_ble_eq_true rfl) fun a H => c_seq fun K2 hK2 => c_reg <| s_assign H rfl rfl (lt_ rfl) fun a H => s_assign H rfl rfl (lt_ rfl) fun a H => c_nil <| hK2 _ _ <| c_seq fun K3 hK3 => c_seq fun K4 hK4 => c_reg <| s_move H rfl rfl (lt_ rfl) fun a H => s_bin H rfl rfl rfl r_lss (lt_ rfl) fun a H => s_move H rfl rfl (lt_ rfl) fun a H => ?_
 refine g_join (n := 14) [(9, (.bool ((decide (d1 < 0)) || (decide (4611686018427387903 < d1))))), (0, (.i d1))] (.succ (.succ (.succ (.zero _)))) ?_ ?_
 ·intro h6
  try clear h
  rcases Bool.eq_false_or_eq_true (decide (d1 < 0)) with h5 | h5
  ·replace H := H.ch (t := 6) (b := true) rfl h5
   refine s_skip H (wantN H rfl rfl rfl) rfl (lt_ rfl) fun a H => s_skip H (wantN H rfl rfl rfl) rfl (lt_ rfl) fun a H => s_pickT H rfl rfl rfl (lt_ rfl) fun a H => ?_
   exact h6 _ (H.weaken ⟨by rw [h5]; rfl, rfl, trivial⟩)
  ·replace H := H.ch (t := 6) (b := false) rfl h5
   refine s_move H (wantG H rfl rfl) rfl (lt_ rfl) fun a H => s_bin H (wantG H rfl rfl) rfl rfl r_gtr (lt_ rfl) fun a H => s_pickF H rfl rfl rfl (lt_ rfl) fun a H => ?_
   exact h6 _ (H.weaken ⟨by rw [h5]; rfl, rfl, trivial⟩)
 ·clear H a
  intro a H
  refine c_nil <| hK4 _ _ <| c_cond H rfl (fun h7 => ?_) (fun h7 => ?_)
  ·replace h := h.1 h7
   refine c_seq fun K8 hK8 => c_reg <| s_assign H rfl rfl (lt_ rfl) fun a H => s_assign H rfl rfl (lt_ rfl) fun a H => c_nil <| hK8 _ _ <| c_ret ?_
   exact e_ret2 H rfl rfl rfl h
  ·replace h := h.2 h7
   refine c_skip <| hK3 _ _ <| c_seq fun K9 hK9 => c_reg <| s_move H rfl rfl (lt_ rfl) fun a H => ?_
   obtain ⟨g10, w11, h12, h⟩ := h
   refine s_mkm H rfl h12 (lt_ rfl) ?_
   clear H a h12
   intro a H
   refine s_build H rfl (by rw [H.parts (vs := [(0, (.i d1)), (1, (.map (some g10)))]) rfl]; exact bd_66_ii640_m1 w11 d1 (some g10)) (lt_ rfl) fun a H => ?_
   replace h := h.get
   obtain ⟨b13, w14, n15, h⟩ := h
   refine s_box H rfl rfl (lt_ rfl) ?_
   rw [← n15.at_]
   clear H a
   intro a H
   refine n15.go <| s_assign H rfl rfl (lt_ rfl) fun a H => s_assign H rfl rfl (lt_ rfl) fun a H => c_nil <| hK9 _ _ <| c_ret ?_
   exact e_ret2 H rfl rfl rfl h

theorem sim_table_Table_Apply (t1 : Option Addr) (K2 : Int) (K3 : ByteArray) (C4 C5 : Int) (F6 H7 : Bool) (D8 : Slc) (w : World) (Q : Ending → World → Prop) (h : vc_table_Table_Apply t1 K2 K3 C4 C5 F6 H7 D8 w Q) : Calls PP F_table_Table_Apply #[(.pointer t1), (.agg #[(.i K2), (.string K3), (.i C4), (.i C5), (.bool F6), (.bool H7), D8.v])] w Q := by
 unfold vc_table_Table_Apply at h
 refine enter (n := 58) Try.func9 rfl rfl (Nat.le_of_ble_eq_true rfl) fun a H => c_seq fun K9 hK9 => c_reg ?_
 replace h := h.get
 obtain ⟨b10, w11, n12, h⟩ := h
 refine s_box H rfl rfl (lt_ rfl) ?_
 rw [← n12.at_]
 clear H a
 intro a H
 refine n12.go <| s_assign H rfl rfl (lt_ rfl) fun a H => s_assign H rfl rfl (lt_ rfl) fun a H => c_nil <| hK9 _ _ <| c_seq fun K13 hK13 => c_seq fun K14 hK14 => c_reg <| s_move H rfl rfl (lt_ rfl) fun a H => s_bin H rfl rfl rfl (r_eqP0 ptr_24) (lt_ rfl) fun a H => c_nil <| hK14 _ _ <| c_cond H rfl (fun h15 => ?_) (fun h15 => ?_)
 ·replace h := h.1 h15
  refine c_seq fun K16 hK16 => c_reg <| s_assign H rfl rfl (lt_ rfl) fun a H => s_assign H rfl rfl (lt_ rfl) fun a H => c_nil <| hK16 _ _ <| c_ret ?_
  exact e_ret2 H rfl rfl rfl h
 ·replace h := h.2 h15
  refine c_skip <| hK13 _ _ <| c_seq fun K17 hK17 => c_seq fun K18 hK18 => c_reg <| s_loadN (l := [(.i K2), (.string K3), (.i C4), (.i C5), (.bool F6), (.bool H7), D8.v]) H rfl rfl agg_39 rfl ⟨(n12.cell (i := 0) rfl), (n12.cell (i := 1) rfl), (n12.cell (i := 2) rfl), (n12.cell (i := 3) rfl), (n12.cell (i := 4) rfl), (n12.cell (i := 5) rfl), (n12.cell (i := 6) rfl), trivial⟩ (lt_ rfl) fun a H => ?_
  refine s_call H rfl body_25 (H.args (vs := [(.agg #[(.i K2), (.string K3), (.i C4), (.i C5), (.bool F6), (.bool H7), D8.v])]) rfl) (lt_ rfl) h ?_ (fun c w' h H => e_panic (P := PP) (fn := Try.f9) H h)
  clear H h a
  rintro _ w19 a ⟨m20, rfl, h⟩ H
  refine s_un H rfl rfl r_not (lt_ rfl) fun a H => c_nil <| hK18 _ _ <| c_cond H rfl (fun h21 => ?_) (fun h21 => ?_)
  ·replace h := h.1 h21
   refine c_seq fun K22 hK22 => c_reg <| s_assign H rfl rfl (lt_ rfl) fun a H => s_assign H rfl rfl (lt_ rfl) fun a H => c_nil <| hK22 _ _ <| c_ret ?_
   exact e_ret2 H rfl rfl rfl h
  ·replace h := h.2 h21
   refine c_skip <| hK17 _ _ <| c_seq fun K23 hK23 => c_reg <| s_assign H rfl rfl (lt_ rfl) fun a H => c_nil <| hK23 _ _ <| c_seq fun K24 hK24 => ?_
   obtain ⟨R26, h, h104⟩ := h
   have h71 : ∀ (a : Act) (c25 : Bool) (w27 : World), R26 c25 w27 → Has 58 [] a [(0, (.pointer t1)), (3, (.pointer (some (blk b10)))), (6, (.bool c25))] → K24 a w27 := by
    clear h
    intro a c25 w27 h H
    replace h := h104 c25 w27 h
    refine hK24 _ _ <| c_seq fun K28 hK28 => ?_
    obtain ⟨R30, h, h70⟩ := h
    have h33 : ∀ (a : Act) (c29 : Bool) (w31 : World), R30 c29 w31 → Has 58 [] a [(6, (.bool c29))] → K28 a w31 := by
     clear h
     intro a c29 w31 h H
     replace h := h70 c29 w31 h
     refine hK28 _ _ <| c_seq fun K32 hK32 => c_reg <| s_move H rfl rfl (lt_ rfl) fun a H => s_assign H rfl rfl (lt_ rfl) fun a H => s_assign H rfl rfl (lt_ rfl) fun a H => c_nil <| hK32 _ _ <| c_ret ?_
     exact e_ret2 H rfl rfl rfl h
    clear h70
    refine c_seq fun K34 hK34 => c_reg <| s_fld H rfl rfl fld_39_0 (lt_ rfl) fun a H => ?_
    obtain ⟨l35, hc36, h⟩ := h
    refine s_load (v := (.i l35)) H rfl rfl one_3 hc36 (lt_ rfl) fun a H => s_bin H rfl rfl rfl r_eql (lt_ rfl) fun a H => s_move H rfl rfl (lt_ rfl) fun a H => ?_
    obtain ⟨x48, h49, h50, h⟩ := h
    refine g_join (n := 58) [(47, (.bool x48)), (0, (.pointer t1)), (3, (.pointer (some (blk b10)))), (6, (.bool c25))] (.succ (.succ (.succ (.succ (.succ (.succ (.succ (.succ (.succ (.zero _)))))))))) ?_ ?_
    ·intro h38
     try clear h
     rcases Bool.eq_false_or_eq_true (decide (l35 = 2)) with h37 | h37
     ·replace H := H.ch (t := 38) (b := true) rfl h37
      iterate 4 refine s_skip H (wantN H rfl rfl rfl) rfl (lt_ rfl) fun a H => ?_
      iterate 3 refine s_skip H (wantU H rfl rfl) rfl (lt_ rfl) fun a H => ?_
      refine s_skip H (wantN H rfl rfl rfl) rfl (lt_ rfl) fun a H => s_pickT H rfl rfl rfl (lt_ rfl) fun a H => ?_
      replace h := h50 h37
      subst h
      exact h38 _ (H.weaken ⟨rfl, rfl, rfl, rfl, trivial⟩)
     ·replace H := H.ch (t := 38) (b := false) rfl h37
      replace h := h49 h37
      refine s_fld H (wantG H rfl rfl) rfl fld_39_0 (lt_ rfl) fun a H => ?_
      obtain ⟨l39, hc40, h⟩ := h
      refine s_load (v := (.i l39)) H (wantG H rfl rfl) rfl one_3 hc40 (lt_ rfl) fun a H => s_bin H (wantG H rfl rfl) rfl rfl r_eql (lt_ rfl) fun a H => s_move H (wantG H rfl rfl) rfl (lt_ rfl) fun a H => ?_
      obtain ⟨x45, h46, h47, h⟩ := h
      refine g_join (n := 58) [(46, (.bool x45)), (0, (.pointer t1)), (3, (.pointer (some (blk b10)))), (6, (.bool c25)), (38, (.bool false))] (.succ (.succ (.succ (.succ (.zero _))))) ?_ ?_
      ·intro h42
       try clear h
       rcases Bool.eq_false_or_eq_true (decide (l39 = 3)) with h41 | h41
       ·replace H := H.ch (t := 42) (b := true) rfl h41
        replace h := h46 h41
        refine s_fld H (wantG H rfl rfl) rfl fld_39_2 (lt_ rfl) fun a H => s_fld H (wantG H rfl rfl) rfl fld_37_1 (lt_ rfl) fun a H => ?_
        obtain ⟨l43, hc44, h⟩ := h
        refine s_load (v := (.bool l43)) H (wantG H rfl rfl) rfl one_4 hc44 (lt_ rfl) fun a H => s_pickT H (wantG H rfl rfl) rfl rfl (lt_ rfl) fun a H => ?_
        subst h
        exact h42 _ (H.weaken ⟨rfl, rfl, rfl, rfl, rfl, trivial⟩)
       ·replace H := H.ch (t := 42) (b := false) rfl h41
        iterate 3 refine s_skip H (wantN H rfl rfl rfl) rfl (lt_ rfl) fun a H => ?_
        refine s_pickF H (wantG H rfl rfl) rfl rfl (lt_ rfl) fun a H => ?_
        replace h := h47 h41
        subst h
        exact h42 _ (H.weaken ⟨rfl, rfl, rfl, rfl, rfl, trivial⟩)
      ·clear H a
       clear h46 h47
       intro a H
       refine s_pickF H rfl rfl rfl (lt_ rfl) fun a H => ?_
       subst h
       exact h38 _ (H.weaken ⟨rfl, rfl, rfl, rfl, trivial⟩)
    ·clear H a
     clear h49 h50
     intro a H
     refine s_move H rfl rfl (lt_ rfl) fun a H => ?_
     obtain ⟨R53, h, h69⟩ := h
     refine g_joinW (n := 58) R53 (fun x54 => [(56, (.bool x54)), (6, (.bool c25))]) (.succ (.succ (.succ (.succ (.succ (.succ (.succ (.succ (.zero _))))))))) ?_ ?_
     ·intro h52
      clear h69
      rcases Bool.eq_false_or_eq_true x48 with h51 | h51
      ·replace H := H.ch (t := 48) (b := true) rfl h51
       replace h := h.1 h51
       refine s_move H (wantG H rfl rfl) rfl (lt_ rfl) fun a H => s_fld H (wantG H rfl rfl) rfl fld_39_1 (lt_ rfl) fun a H => ?_
       obtain ⟨l56, hc57, h⟩ := h
       refine s_load (v := (.string l56)) H (wantG H rfl rfl) rfl one_9 hc57 (lt_ rfl) fun a H => s_fld H (wantG H rfl rfl) rfl fld_39_2 (lt_ rfl) fun a H => s_fld H (wantG H rfl rfl) rfl fld_37_0 (lt_ rfl) fun a H => ?_
       obtain ⟨C58, hc59, C60, hc61, h⟩ := h
       refine s_loadN (l := [(.i C58), (.i C60)]) H (wantG H rfl rfl) rfl agg_29 rfl ⟨hc59, hc61, trivial⟩ (lt_ rfl) fun a H => s_call H (wantG H rfl rfl) body_27 (H.args (vs := [(.pointer t1), (.string l56), (.agg #[(.i C58), (.i C60)])]) rfl) (lt_ rfl) h ?_ (fun c w' h H => e_panic (P := PP) (fn := Try.f9) H h)
       clear H h a
       rintro _ w62 a ⟨f63, rfl, h⟩ H
       refine s_pickT H rfl rfl rfl (lt_ rfl) fun a H => ?_
       exact h52 _ _ _ h (H.weaken ⟨rfl, rfl, trivial⟩)
      ·replace H := H.ch (t := 48) (b := false) rfl h51
       replace h := h.2 h51
       iterate 7 refine s_skip H (wantN H rfl rfl rfl) rfl (lt_ rfl) fun a H => ?_
       refine s_pickF H rfl rfl rfl (lt_ rfl) fun a H => ?_
       exact h52 _ _ _ h (H.weaken ⟨rfl, rfl, trivial⟩)
     ·clear H a h
      intro a x54 w55 h H
      replace h := h69 x54 w55 h
      clear h69
      refine c_nil <| hK34 _ _ <| c_cond H rfl (fun h68 => ?_) (fun h68 => ?_)
      ·replace h := h.1 h68
       refine c_reg <| s_assign H rfl rfl (lt_ rfl) fun a H => c_nil ?_
       exact h33 _ _ _ h (H.weaken ⟨rfl, trivial⟩)
      ·replace h := h.2 h68
       refine c_skip ?_
       exact h33 _ _ _ h (H.weaken ⟨rfl, trivial⟩)
   clear h104
   refine c_seq fun K72 hK72 => c_reg <| s_fld H rfl rfl fld_39_0 (lt_ rfl) fun a H => ?_
   obtain ⟨l73, hc74, h⟩ := h
   refine s_load (v := (.i l73)) H rfl rfl one_3 hc74 (lt_ rfl) fun a H => s_bin H rfl rfl rfl r_eql (lt_ rfl) fun a H => s_move H rfl rfl (lt_ rfl) fun a H => ?_
   obtain ⟨x86, h87, h88, h⟩ := h
   refine g_join (n := 58) [(24, (.bool x86)), (0, (.pointer t1)), (3, (.pointer (some (blk b10)))), (6, (.bool false))] (.succ (.succ (.succ (.succ (.succ (.succ (.succ (.succ (.succ (.zero _)))))))))) ?_ ?_
   ·intro h76
    try clear h
    rcases Bool.eq_false_or_eq_true (decide (l73 = 1)) with h75 | h75
    ·replace H := H.ch (t := 15) (b := true) rfl h75
     iterate 4 refine s_skip H (wantN H rfl rfl rfl) rfl (lt_ rfl) fun a H => ?_
     iterate 3 refine s_skip H (wantU H rfl rfl) rfl (lt_ rfl) fun a H => ?_
     refine s_skip H (wantN H rfl rfl rfl) rfl (lt_ rfl) fun a H => s_pickT H rfl rfl rfl (lt_ rfl) fun a H => ?_
     replace h := h88 h75
     subst h
     exact h76 _ (H.weaken ⟨rfl, rfl, rfl, rfl, trivial⟩)
    ·replace H := H.ch (t := 15) (b := false) rfl h75
     replace h := h87 h75
     refine s_fld H (wantG H rfl rfl) rfl fld_39_0 (lt_ rfl) fun a H => ?_
     obtain ⟨l77, hc78, h⟩ := h
     refine s_load (v := (.i l77)) H (wantG H rfl rfl) rfl one_3 hc78 (lt_ rfl) fun a H => s_bin H (wantG H rfl rfl) rfl rfl r_eql (lt_ rfl) fun a H => s_move H (wantG H rfl rfl) rfl (lt_ rfl) fun a H => ?_
     obtain ⟨x83, h84, h85, h⟩ := h
     refine g_join (n := 58) [(23, (.bool x83)), (0, (.pointer t1)), (3, (.pointer (some (blk b10)))), (6, (.bool false)), (15, (.bool false))] (.succ (.succ (.succ (.succ (.zero _))))) ?_ ?_
     ·intro h80
      try clear h
      rcases Bool.eq_false_or_eq_true (decide (l77 = 3)) with h79 | h79
      ·replace H := H.ch (t := 19) (b := true) rfl h79
       replace h := h84 h79
       refine s_fld H (wantG H rfl rfl) rfl fld_39_2 (lt_ rfl) fun a H => s_fld H (wantG H rfl rfl) rfl fld_37_2 (lt_ rfl) fun a H => ?_
       obtain ⟨l81, hc82, h⟩ := h
       refine s_load (v := (.bool l81)) H (wantG H rfl rfl) rfl one_4 hc82 (lt_ rfl) fun a H => s_pickT H (wantG H rfl rfl) rfl rfl (lt_ rfl) fun a H => ?_
       subst h
       exact h80 _ (H.weaken ⟨rfl, rfl, rfl, rfl, rfl, trivial⟩)
      ·replace H := H.ch (t := 19) (b := false) rfl h79
       iterate 3 refine s_skip H (wantN H rfl rfl rfl) rfl (lt_ rfl) fun a H => ?_
       refine s_pickF H (wantG H rfl rfl) rfl rfl (lt_ rfl) fun a H => ?_
       replace h := h85 h79
       subst h
       exact h80 _ (H.weaken ⟨rfl, rfl, rfl, rfl, rfl, trivial⟩)
     ·clear H a
      clear h84 h85
      intro a H
      refine s_pickF H rfl rfl rfl (lt_ rfl) fun a H => ?_
      subst h
      exact h76 _ (H.weaken ⟨rfl, rfl, rfl, rfl, trivial⟩)
   ·clear H a
    clear h87 h88
    intro a H
    refine c_nil <| hK72 _ _ <| c_cond H rfl (fun h89 => ?_) (fun h89 => ?_)
    ·replace h := h.1 h89
     refine c_reg <| s_move H rfl rfl (lt_ rfl) fun a H => s_fld H rfl rfl fld_39_1 (lt_ rfl) fun a H => ?_
     obtain ⟨l90, hc91, h⟩ := h
     refine s_load (v := (.string l90)) H rfl rfl one_9 hc91 (lt_ rfl) fun a H => s_fld H rfl rfl fld_39_2 (lt_ rfl) fun a H => s_fld H rfl rfl fld_37_0 (lt_ rfl) fun a H => ?_
     obtain ⟨C92, hc93, C94, hc95, h⟩ := h
     refine s_loadN (l := [(.i C92), (.i C94)]) H rfl rfl agg_29 rfl ⟨hc93, hc95, trivial⟩ (lt_ rfl) fun a H => s_fld H rfl rfl fld_39_2 (lt_ rfl) fun a H => s_fld H rfl rfl fld_37_3 (lt_ rfl) fun a H => ?_
     obtain ⟨l96, hc97, h⟩ := h
     refine s_load (v := l96.v) H rfl rfl one_35 hc97 (lt_ rfl) fun a H => s_call H rfl body_26 (H.args (vs := [(.pointer t1), (.string l90), (.agg #[(.i C92), (.i C94)]), l96.v]) rfl) (lt_ rfl) h ?_ (fun c w' h H => e_panic (P := PP) (fn := Try.f9) H h)
     clear H h a
     rintro _ w98 a ⟨p99, rfl, h⟩ H
     refine s_assign H rfl rfl (lt_ rfl) fun a H => c_nil ?_
     exact h71 _ _ _ h (H.weaken ⟨rfl, rfl, rfl, trivial⟩)
    ·replace h := h.2 h89
     refine c_skip ?_
     exact h71 _ _ _ h (H.weaken ⟨rfl, rfl, rfl, trivial⟩)

theorem sim_sherdlaw15_update (K1 : Int) (F2 B3 : Bool) (C4 C5 : Int) (w : World) (Q : Ending → World → Prop) (h : vc_sherdlaw15_update K1 F2 B3 C4 C5 w Q) : Calls PP F_sherdlaw15_update #[(.agg #[(.i K1), (.bool F2), (.bool B3), (.i C4), (.i C5)])] w Q := by
 unfold vc_sherdlaw15_update at h
 refine enter (n := 34) Try.func10 rfl rfl (Nat.le_of_ble_eq_true rfl) fun a H => c_seq fun K6 hK6 => c_reg ?_
 replace h := h.get
 obtain ⟨b7, w8, n9, h⟩ := h
 refine s_box H rfl rfl (lt_ rfl) ?_
 rw [← n9.at_]
 clear H a
 intro a H
 refine n9.go ?_
 replace h := h.get
 obtain ⟨b10, w11, n12, h⟩ := h
 refine s_alloc H rfl zero_39 (lt_ rfl) ?_
 rw [← n12.at_]
 clear H a
 intro a H
 refine n12.go <| c_nil <| hK6 _ _ <| c_seq fun K13 hK13 => c_reg <| s_fld H rfl rfl fld_32_0 (lt_ rfl) fun a H => s_load (v := (.i K1)) H rfl rfl one_3 (n12.old (n9.cell (i := 0) rfl)) (lt_ rfl) fun a H => s_call H rfl body_11 (H.args (vs := [(.i K1)]) rfl) (lt_ rfl) h ?_ (fun c w' h H => e_panic (P := PP) (fn := Try.f10) H h)
 clear H h a
 rintro _ w14 a ⟨k15, rfl, h⟩ H
 refine s_assign H rfl rfl (lt_ rfl) fun a H => c_nil <| hK13 _ _ <| c_seq fun K16 hK16 => c_reg ?_
 obtain ⟨K17, hc18, F19, hc20, B21, hc22, C23, hc24, C25, hc26, h⟩ := h
 refine s_loadN (l := [(.i K17), (.bool F19), (.bool B21), (.i C23), (.i C25)]) H rfl rfl agg_32 rfl ⟨hc18, hc20, hc22, hc24, hc26, trivial⟩ (lt_ rfl) fun a H => s_call H rfl body_28 (H.args (vs := [(.agg #[(.i K17), (.bool F19), (.bool B21), (.i C23), (.i C25)])]) rfl) (lt_ rfl) h ?_ (fun c w' h H => e_panic (P := PP) (fn := Try.f10) H h)
 clear H h a
 rintro _ w27 a ⟨C28, C29, rfl, h⟩ H
 replace h := h.get
 obtain ⟨b30, w31, n32, h⟩ := h
 refine s_alloc H rfl zero_29 (lt_ rfl) ?_
 rw [← n32.at_]
 clear H a
 intro a H
 refine n32.go <| s_stoN (l := [(.i C28), (.i C29)]) H rfl rfl rfl rfl agg_29 rfl rfl h ?_
 clear h H
 intro w33 h H
 refine c_nil <| hK16 _ _ <| c_seq fun K34 hK34 => c_seq fun K35 hK35 => c_reg <| s_fld H rfl rfl fld_32_2 (lt_ rfl) fun a H => ?_
 obtain ⟨l36, hc37, h⟩ := h
 refine s_load (v := (.bool l36)) H rfl rfl one_4 hc37 (lt_ rfl) fun a H => c_nil <| hK35 _ _ <| c_cond H rfl (fun h38 => ?_) (fun h38 => ?_)
 ·replace h := h.1 h38
  refine c_seq fun K39 hK39 => ?_
  replace H := H.weaken (L' := [(1, (.pointer (some (blk b7)))), (2, (.pointer (some (blk b10)))), (3, (.string k15)), (4, (.pointer (some (blk b30))))]) ⟨rfl, rfl, rfl, rfl, trivial⟩
  obtain ⟨C40, hc41, C42, hc43, l44, hc45, C46, hc47, C48, hc49, h⟩ := h
  refine c_any (V := [(0, (.string k15)), (1, (.agg #[(.i C40), (.i C42)])), (2, (.pointer (some ((blk b7).add 1)))), (3, (.bool l44)), (4, (.string k15)), (5, (.agg #[(.i C46), (.i C48)]))]) (⟨[[], [], [], [2], [], [], [4, 5], [1, 3, 6], [0, 7], [0, 1, 2, 3, 4, 5, 6, 7, 8]], [some 12, some 13, some 14, some 15, some 16, some 17, some 18, some 19, some 20, none], [6, 9], [0, 0, 0, 0, 0, 0, 0, 1, 1, 1], [1, 1, 1, 1, 0, 0, 1, 1, 1, 2]⟩ : Rg) [(1, (.pointer (some (blk b7)))), (2, (.pointer (some (blk b10)))), (3, (.string k15)), (4, (.pointer (some (blk b30))))] mixed (by kernel_rfl) H ?_
  refine Stg.eff [0, 1, 2, 3, 4, 5] (by kernel_rfl) rfl (.cons ?_ (.cons ?_ (.cons ?_ (.cons ?_ (.cons ?_ (.cons ?_ .nil)))))) ?_
  ·refine Ans.mk rfl rfl fun a H => s_move H rfl rfl (lt_ rfl) fun a H => ?_
   exact Ans.fin H rfl
  ·refine Ans.mk rfl rfl fun a H => s_loadN (l := [(.i C40), (.i C42)]) H rfl rfl agg_29 rfl ⟨hc41, hc43, trivial⟩ (lt_ rfl) fun a H => ?_
   exact Ans.fin H rfl
  ·refine Ans.mk rfl rfl fun a H => s_fld H rfl rfl fld_32_1 (lt_ rfl) fun a H => ?_
   exact Ans.fin H rfl
  ·refine Ans.mk rfl rfl fun a H => s_load (v := (.bool l44)) H rfl rfl one_4 hc45 (lt_ rfl) fun a H => ?_
   exact Ans.fin H rfl
  ·refine Ans.mk rfl rfl fun a H => s_move H rfl rfl (lt_ rfl) fun a H => ?_
   exact Ans.fin H rfl
  ·refine Ans.mk rfl rfl fun a H => s_loadN (l := [(.i C46), (.i C48)]) H rfl rfl agg_29 rfl ⟨hc47, hc49, trivial⟩ (lt_ rfl) fun a H => ?_
   exact Ans.fin H rfl
  ·intro a H
   replace H := H.weaken (L' := [(16, (.string k15)), (17, (.agg #[(.i C46), (.i C48)]))]) ⟨rfl, rfl, trivial⟩
   refine s_call H rfl body_29 (H.args (vs := [(.string k15), (.agg #[(.i C46), (.i C48)])]) rfl) (lt_ rfl) h ?_ (fun c w' h H => e_panic (P := PP) (fn := Try.f10) H h)
   clear H h a
   rintro _ w50 a ⟨d51, rfl, h⟩ H
   refine c_nil ?_
   obtain ⟨hc52, hc53, hc54, h⟩ := h
   refine effQ.go [(7, (.agg #[(.i C40), (.i C42), (.bool l44), (.bool true), d51.v])), (8, (.agg #[(.i 3), (.string k15), (.i C40), (.i C42), (.bool l44), (.bool true), d51.v]))] H rfl rfl <| Stg.eff [0, 1, 2, 3, 7, 8] (by kernel_rfl) rfl (.cons ?_ (.cons ?_ (.cons ?_ (.cons ?_ (.cons ?_ (.cons ?_ .nil)))))) ?_
   ·refine Ans.mk rfl rfl fun a H => s_move H rfl rfl (lt_ rfl) fun a H => ?_
    exact Ans.fin H rfl
   ·refine Ans.mk rfl rfl fun a H => s_loadN (l := [(.i C40), (.i C42)]) H rfl rfl agg_29 rfl ⟨hc52, hc53, trivial⟩ (lt_ rfl) fun a H => ?_
    exact Ans.fin H rfl
   ·refine Ans.mk rfl rfl fun a H => s_fld H rfl rfl fld_32_1 (lt_ rfl) fun a H => ?_
    exact Ans.fin H rfl
   ·refine Ans.mk rfl rfl fun a H => s_load (v := (.bool l44)) H rfl rfl one_4 hc54 (lt_ rfl) fun a H => ?_
    exact Ans.fin H rfl
   ·refine Ans.mk rfl rfl fun a H => s_build H rfl (by rw [H.parts (vs := [(0, (.agg #[(.i C40), (.i C42)])), (1, (.bool l44)), (2, (.bool true)), (3, d51.v)]) rfl]; exact bd_37_ii64ii640_b1_b2_s3 w50 C40 C42 l44 true d51) (lt_ rfl) fun a H => ?_
    exact Ans.fin H rfl
   ·refine Ans.mk rfl rfl fun a H => s_build H rfl (by rw [H.parts (vs := [(0, (.i 3)), (1, (.string k15)), (2, (.agg #[(.i C40), (.i C42), (.bool l44), (.bool true), d51.v]))]) rfl]; exact bd_39_ii640_s1_ii64ii64bbs2 w50 3 k15 C40 C42 l44 true d51) (lt_ rfl) fun a H => ?_
    exact Ans.fin H rfl
   ·intro a H
    replace H := H.weaken (L' := [(2, (.pointer (some (blk b10)))), (20, (.agg #[(.i 3), (.string k15), (.i C40), (.i C42), (.bool l44), (.bool true), d51.v]))]) ⟨rfl, rfl, trivial⟩
    refine s_stoN (l := [(.i 3), (.string k15), (.i C40), (.i C42), (.bool l44), (.bool true), d51.v]) H rfl rfl rfl rfl agg_39 rfl rfl h ?_
    clear h H
    intro w55 h H
    refine c_nil <| effQ.go0 [] H rfl rfl <| Stg.fin [] (by kernel_rfl) .nil ?_
    ·intro a H
     replace H := H.weaken (L' := [(2, (.pointer (some (blk b10))))]) ⟨rfl, trivial⟩
     refine hK39 _ _ <| c_ret ?_
     obtain ⟨K56, hc57, K58, hc59, C60, hc61, C62, hc63, F64, hc65, H66, hc67, D68, hc69, h⟩ := h
     exact e_ret1 H rfl ⟨_, rfl, run_loadN (l := [(.i K56), (.string K58), (.i C60), (.i C62), (.bool F64), (.bool H66), D68.v]) agg_39 rfl ⟨hc57, hc59, hc61, hc63, hc65, hc67, hc69, trivial⟩⟩ h
 ·replace h := h.2 h38
  refine c_skip <| hK34 _ _ <| c_seq fun K74 hK74 => c_seq fun K75 hK75 => c_reg <| s_fld H rfl rfl fld_32_1 (lt_ rfl) fun a H => ?_
  obtain ⟨l76, hc77, h⟩ := h
  refine s_load (v := (.bool l76)) H rfl rfl one_4 hc77 (lt_ rfl) fun a H => c_nil <| hK75 _ _ <| c_cond H rfl (fun h78 => ?_) (fun h78 => ?_)
  ·replace h := h.1 h78
   refine c_seq fun K79 hK79 => c_reg <| s_move H rfl rfl (lt_ rfl) fun a H => ?_
   obtain ⟨C80, hc81, C82, hc83, h⟩ := h
   refine s_loadN (l := [(.i C80), (.i C82)]) H rfl rfl agg_29 rfl ⟨hc81, hc83, trivial⟩ (lt_ rfl) fun a H => s_build H rfl (by rw [H.parts (vs := [(0, (.agg #[(.i C80), (.i C82)]))]) rfl]; exact bd_37_ii64ii640 w33 C80 C82) (lt_ rfl) fun a H => ?_
   refine s_build H rfl (by rw [H.parts (vs := [(0, (.i 2)), (1, (.string k15)), (2, (.agg #[(.i C80), (.i C82), (.bool false), (.bool false), Slc.nil.v]))]) rfl]; exact bd_39_ii640_s1_ii64ii64bbs2 w33 2 k15 C80 C82 false false Slc.nil) (lt_ rfl) fun a H => s_stoN (l := [(.i 2), (.string k15), (.i C80), (.i C82), (.bool false), (.bool false), Slc.nil.v]) H rfl rfl rfl rfl agg_39 rfl rfl h ?_
   clear h H
   intro w84 h H
   refine c_nil <| hK79 _ _ <| c_ret ?_
   obtain ⟨K85, hc86, K87, hc88, C89, hc90, C91, hc92, F93, hc94, H95, hc96, D97, hc98, h⟩ := h
   exact e_ret1 H rfl ⟨_, rfl, run_loadN (l := [(.i K85), (.string K87), (.i C89), (.i C91), (.bool F93), (.bool H95), D97.v]) agg_39 rfl ⟨hc86, hc88, hc90, hc92, hc94, hc96, hc98, trivial⟩⟩ h
  ·replace h := h.2 h78
   refine c_skip <| hK74 _ _ <| c_seq fun K99 hK99 => ?_
   replace H := H.weaken (L' := [(2, (.pointer (some (blk b10)))), (3, (.string k15)), (4, (.pointer (some (blk b30))))]) ⟨rfl, rfl, rfl, trivial⟩
   obtain ⟨C100, hc101, C102, hc103, C104, hc105, C106, hc107, h⟩ := h
   refine c_any (V := [(0, (.string k15)), (1, (.agg #[(.i C100), (.i C102)])), (2, (.string k15)), (3, (.agg #[(.i C104), (.i C106)]))]) (⟨[[], [], [], [], [2, 3], [1, 4], [0, 5], [0, 1, 2, 3, 4, 5, 6]], [some 27, some 28, some 29, some 30, some 31, some 32, some 33, none], [4, 7], [0, 0, 0, 0, 0, 1, 1, 1], [1, 1, 0, 0, 1, 1, 1, 2]⟩ : Rg) [(2, (.pointer (some (blk b10)))), (3, (.string k15)), (4, (.pointer (some (blk b30))))] mixed (by kernel_rfl) H ?_
   refine Stg.eff [0, 1, 2, 3] (by kernel_rfl) rfl (.cons ?_ (.cons ?_ (.cons ?_ (.cons ?_ .nil)))) ?_
   ·refine Ans.mk rfl rfl fun a H => s_move H rfl rfl (lt_ rfl) fun a H => ?_
    exact Ans.fin H rfl
   ·refine Ans.mk rfl rfl fun a H => s_loadN (l := [(.i C100), (.i C102)]) H rfl rfl agg_29 rfl ⟨hc101, hc103, trivial⟩ (lt_ rfl) fun a H => ?_
    exact Ans.fin H rfl
   ·refine Ans.mk rfl rfl fun a H => s_move H rfl rfl (lt_ rfl) fun a H => ?_
    exact Ans.fin H rfl
   ·refine Ans.mk rfl rfl fun a H => s_loadN (l := [(.i C104), (.i C106)]) H rfl rfl agg_29 rfl ⟨hc105, hc107, trivial⟩ (lt_ rfl) fun a H => ?_
    exact Ans.fin H rfl
   ·intro a H
    replace H := H.weaken (L' := [(29, (.string k15)), (30, (.agg #[(.i C104), (.i C106)]))]) ⟨rfl, rfl, trivial⟩
    refine s_call H rfl body_29 (H.args (vs := [(.string k15), (.agg #[(.i C104), (.i C106)])]) rfl) (lt_ rfl) h ?_ (fun c w' h H => e_panic (P := PP) (fn := Try.f10) H h)
    clear H h a
    rintro _ w108 a ⟨d109, rfl, h⟩ H
    refine c_nil ?_
    obtain ⟨hc110, hc111, h⟩ := h
    refine effQ.go [(5, (.agg #[(.i C100), (.i C102), (.bool false), (.bool false), d109.v])), (6, (.agg #[(.i 1), (.string k15), (.i C100), (.i C102), (.bool false), (.bool false), d109.v]))] H rfl rfl <| Stg.eff [0, 1, 5, 6] (by kernel_rfl) rfl (.cons ?_ (.cons ?_ (.cons ?_ (.cons ?_ .nil)))) ?_
    ·refine Ans.mk rfl rfl fun a H => s_move H rfl rfl (lt_ rfl) fun a H => ?_
     exact Ans.fin H rfl
    ·refine Ans.mk rfl rfl fun a H => s_loadN (l := [(.i C100), (.i C102)]) H rfl rfl agg_29 rfl ⟨hc110, hc111, trivial⟩ (lt_ rfl) fun a H => ?_
     exact Ans.fin H rfl
    ·refine Ans.mk rfl rfl fun a H => s_build H rfl (by rw [H.parts (vs := [(0, (.agg #[(.i C100), (.i C102)])), (3, d109.v)]) rfl]; exact bd_37_ii64ii640_s3 w108 C100 C102 d109) (lt_ rfl) fun a H => ?_
     exact Ans.fin H rfl
    ·refine Ans.mk rfl rfl fun a H => s_build H rfl (by rw [H.parts (vs := [(0, (.i 1)), (1, (.string k15)), (2, (.agg #[(.i C100), (.i C102), (.bool false), (.bool false), d109.v]))]) rfl]; exact bd_39_ii640_s1_ii64ii64bbs2 w108 1 k15 C100 C102 false false d109) (lt_ rfl) fun a H => ?_
     exact Ans.fin H rfl
    ·intro a H
     replace H := H.weaken (L' := [(2, (.pointer (some (blk b10)))), (33, (.agg #[(.i 1), (.string k15), (.i C100), (.i C102), (.bool false), (.bool false), d109.v]))]) ⟨rfl, rfl, trivial⟩
     refine s_stoN (l := [(.i 1), (.string k15), (.i C100), (.i C102), (.bool false), (.bool false), d109.v]) H rfl rfl rfl rfl agg_39 rfl rfl h ?_
     clear h H
     intro w112 h H
     refine c_nil <| effQ.go0 [] H rfl rfl <| Stg.fin [] (by kernel_rfl) .nil ?_
     ·intro a H
      replace H := H.weaken (L' := [(2, (.pointer (some (blk b10))))]) ⟨rfl, trivial⟩
      refine hK99 _ _ <| c_ret ?_
      obtain ⟨K113, hc114, K115, hc116, C117, hc118, C119, hc120, F121, hc122, H123, hc124, D125, hc126, h⟩ := h
      exact e_ret1 H rfl ⟨_, rfl, run_loadN (l := [(.i K113), (.string K115), (.i C117), (.i C119), (.bool F121), (.bool H123), D125.v]) agg_39 rfl ⟨hc114, hc116, hc118, hc120, hc122, hc124, hc126, trivial⟩⟩ h

theorem sim_sherdlaw15_keyOf (n1 : Int) (w : World) (Q : Ending → World → Prop) (h : vc_sherdlaw15_keyOf n1 w Q) : Calls PP F_sherdlaw15_keyOf #[(.i n1)] w Q := by
 unfold vc_sherdlaw15_keyOf at h
 refine enter (n := 10) Try.func11 rfl rfl (Nat.le_of_ble_eq_true rfl) fun a H => c_seq fun K2 hK2 => c_reg <| s_assign H rfl rfl (lt_ rfl) fun a H => c_nil <| hK2 _ _ <| c_seq fun K3 hK3 => c_reg ?_
 replace h := h.get
 obtain ⟨b4, w5, n6, h⟩ := h
 refine s_bslc H rfl (by rw [H.parts (vs := [(0, (.string (ByteArray.mk #[97]))), (1, (.string (ByteArray.mk #[97, 98]))), (2, (.string (ByteArray.mk #[98])))]) rfl]; exact bs_72_3_s0_s1_s2 w (ByteArray.mk #[97]) (ByteArray.mk #[97, 98]) (ByteArray.mk #[98])) (lt_ rfl) ?_
 rw [← n6.at_]
 clear H a
 intro a H
 refine n6.go <| s_move H rfl rfl (lt_ rfl) fun a H => s_bin H rfl rfl rfl (r_rem (by decide)) (lt_ rfl) fun a H => s_bin H rfl rfl rfl r_add (lt_ rfl) fun a H => s_bin H rfl rfl rfl (r_rem (by decide)) (lt_ rfl) fun a H => ?_
 obtain ⟨a7, h8, h9, h10, h⟩ := h
 refine s_idxS (s := Slc.mk (some (blk b4)) 3 3) H rfl rfl rfl slc_72 h8 h9 h10 (lt_ rfl) fun a H => ?_
 obtain ⟨l11, hc12, h⟩ := h
 refine s_load (v := (.string l11)) H rfl rfl one_9 hc12 (lt_ rfl) fun a H => s_assign H rfl rfl (lt_ rfl) fun a H => c_nil <| hK3 _ _ <| c_ret ?_
 exact e_ret1 H rfl rfl h

theorem sim_table_Table_Entries (t1 : Option Addr) (k2 : ByteArray) (w : World) (Q : Ending → World → Prop) (h : vc_table_Table_Entries t1 k2 w Q) : Calls PP F_table_Table_Entries #[(.pointer t1), (.string k2)] w Q := by
 unfold vc_table_Table_Entries at h
 refine enter (n := 29) Try.func12 rfl rfl (Nat.le_of_ble_eq_true rfl) fun a H => c_seq fun K3 hK3 => c_reg <| s_assign H rfl rfl (lt_ rfl) fun a H => c_nil <| hK3 _ _ <| c_seq fun K4 hK4 => c_seq fun K5 hK5 => c_reg <| s_move H rfl rfl (lt_ rfl) fun a H => s_bin H rfl rfl rfl (r_eqP0 ptr_24) (lt_ rfl) fun a H => c_nil <| hK5 _ _ <| c_cond H rfl (fun h6 => ?_) (fun h6 => ?_)
 ·replace h := h.1 h6
  refine c_seq fun K7 hK7 => c_reg <| s_assign H rfl rfl (lt_ rfl) fun a H => c_nil <| hK7 _ _ <| c_ret ?_
  exact e_ret1 H rfl rfl h
 ·replace h := h.2 h6
  refine c_skip <| hK4 _ _ <| c_seq fun K8 hK8 => c_reg <| s_assign H rfl rfl (lt_ rfl) fun a H => c_nil <| hK8 _ _ <| c_seq fun K9 hK9 => c_seq fun K10 hK10 => c_reg <| s_move H rfl rfl (lt_ rfl) fun a H => ?_
  obtain ⟨a11, h80, h⟩ := h
  revert H
  subst h80
  intro H
  refine s_nil H rfl rfl (lt_ rfl) fun a H => s_fld H rfl rfl fld_66_1 (lt_ rfl) fun a H => ?_
  obtain ⟨l12, hc13, h⟩ := h
  refine s_load (v := (.map l12)) H rfl rfl one_64 hc13 (lt_ rfl) fun a H => s_move H rfl rfl (lt_ rfl) fun a H => ?_
  obtain ⟨_, h16, m14, rfl, h⟩ := h
  refine s_lkp H rfl rfl rfl h16 (lt_ rfl) ?_
  clear H a h16
  intro a H
  obtain ⟨i17, w18, h19, h⟩ := h
  refine s_rng H rfl rfl h19 (lt_ rfl) ?_
  clear H a h19
  intro a H
  refine c_nil <| hK10 _ _ <| c_block ?_
  obtain ⟨I22, m23, h78, h79⟩ := h
  refine c_loop (σ := Slc) (fun z w => I22 z w) (fun z w => m23 z w) (fun z => [(5, z.v), (16, (.pointer (some (blk i17))))]) Slc.nil h78 (H.weaken ⟨rfl, rfl, trivial⟩) ?_
  clear H h78
  rintro l20 a w21 h H
  replace h := h79 l20 w21 h
  clear h79
  replace H : Has 29 [] a [(5, l20.v), (16, (.pointer (some (blk i17))))] := H
  refine c_seq fun K24 hK24 => c_reg ?_
  obtain ⟨b25, r26, w27, h28, h⟩ := h
  refine s_nxt H rfl rfl h28 (lt_ rfl) ?_
  clear H a h28
  intro a H
  refine s_ext H rfl rfl rfl (lt_ rfl) fun a H => c_nil <| hK24 _ _ <| c_seq fun K29 hK29 => c_cond H rfl (fun h30 => ?_) (fun h30 => ?_)
  ·replace h := h.1 h30
   refine c_skip <| hK29 _ _ <| c_block <| c_seq fun K31 hK31 => c_reg ?_
   obtain ⟨_, h40, C32, C33, C34, C35, F36, H37, D38, rfl, h⟩ := h
   refine s_etr H rfl rfl h40 (lt_ rfl) ?_
   clear H a h40
   intro a H
   refine s_ext H rfl rfl rfl (lt_ rfl) fun a H => ?_
   replace h := h.get
   obtain ⟨b41, w42, n43, h⟩ := h
   refine s_alloc H rfl zero_37 (lt_ rfl) ?_
   rw [← n43.at_]
   clear H a
   intro a H
   refine n43.go <| s_stoN (l := [(.i C34), (.i C35), (.bool F36), (.bool H37), D38.v]) H rfl rfl rfl rfl agg_37 rfl rfl h ?_
   clear h H
   intro w44 h H
   refine c_nil <| hK31 _ _ <| c_reg <| s_move H rfl rfl (lt_ rfl) fun a H => ?_
   obtain ⟨C45, hc46, C47, hc48, F49, hc50, H51, hc52, D53, hc54, h⟩ := h
   refine s_loadN (l := [(.i C45), (.i C47), (.bool F49), (.bool H51), D53.v]) H rfl rfl agg_37 rfl ⟨hc46, hc48, hc50, hc52, hc54, trivial⟩ (lt_ rfl) fun a H => s_call H rfl body_30 (H.args (vs := [(.agg #[(.i C45), (.i C47), (.bool F49), (.bool H51), D53.v])]) rfl) (lt_ rfl) h ?_ (fun c w' h H => e_panic (P := PP) (fn := Try.f12) H h)
   clear H h a
   rintro _ w55 a ⟨C56, C57, F58, H59, D60, rfl, h⟩ H
   replace h := h.get
   obtain ⟨b61, w62, n63, h⟩ := h
   refine s_bslc H rfl (by rw [H.parts (vs := [(0, (.agg #[(.i C56), (.i C57), (.bool F58), (.bool H59), D60.v]))]) rfl]; exact bs_42_1_ii64ii64bbs0 w55 C56 C57 F58 H59 D60) (lt_ rfl) ?_
   rw [← n63.at_]
   clear H a
   intro a H
   refine n63.go ?_
   obtain ⟨s64, w65, h66, h⟩ := h
   refine s_blt H rfl (H.args (vs := [l20.v, (Slc.v (Slc.mk (some (blk b61)) 1 1))]) rfl) (lt_ rfl) (fun cs => b_app (z := s64) h66) ?_
   clear H a h66
   intro a H
   refine s_assign H rfl rfl (lt_ rfl) fun a H => c_nil <| Exists.intro s64 ⟨h.1, h.2, H.weaken ⟨rfl, rfl, trivial⟩⟩
  ·replace h := h.2 h30
   refine c_exit ?_
   first | (simp only [Exit.then, Exit.inBlock, ↓reduceIte]; fail_if_success simp only [Nat.reduceEqDiff]) | simp only [Exit.then, Exit.inBlock, ↓reduceIte, Nat.reduceEqDiff]
   refine hK9 _ _ <| c_seq fun K71 hK71 => c_reg <| s_move H rfl rfl (lt_ rfl) fun a H => s_call H rfl body_31 (H.args (vs := [l20.v, (.func (.func 32) #[] #[])]) rfl) (lt_ rfl) h ?_ (fun c w' h H => e_panic (P := PP) (fn := Try.f12) H h)
   clear H h a
   rintro _ w72 a ⟨rfl, h⟩ H
   refine c_nil <| hK71 _ _ <| c_seq fun K73 hK73 => c_reg <| s_move H rfl rfl (lt_ rfl) fun a H => s_assign H rfl rfl (lt_ rfl) fun a H => c_nil <| hK73 _ _ <| c_ret ?_
   exact e_ret1 H rfl rfl h

theorem sim_tag_Compare (C1 C2 C3 C4 : Int) (w : World) (Q : Ending → World → Prop) (h : vc_tag_Compare C1 C2 C3 C4 w Q) : Calls PP F_tag_Compare #[(.agg #[(.i C1), (.i C2)]), (.agg #[(.i C3), (.i C4)])] w Q := by
 unfold vc_tag_Compare at h
 refine enter (n := 19) Try.func13 rfl rfl (Nat.le_of_ble_eq_true rfl) fun a H => c_seq fun K5 hK5 => c_reg ?_
 replace h := h.get
 obtain ⟨b6, w7, n8, h⟩ := h
 refine s_box H rfl rfl (lt_ rfl) ?_
 rw [← n8.at_]
 clear H a
 intro a H
 refine n8.go ?_
 replace h := h.get
 obtain ⟨b9, w10, n11, h⟩ := h
 refine s_box H rfl rfl (lt_ rfl) ?_
 rw [← n11.at_]
 clear H a
 intro a H
 refine n11.go <| s_assign H rfl rfl (lt_ rfl) fun a H => c_nil <| hK5 _ _ <| c_seq fun K12 hK12 => c_seq fun K13 hK13 => c_reg <| s_fld H rfl rfl fld_29_0 (lt_ rfl) fun a H => s_load (v := (.i C1)) H rfl rfl one_2 (n11.old (n8.cell (i := 0) rfl)) (lt_ rfl) fun a H => s_fld H rfl rfl fld_29_0 (lt_ rfl) fun a H => s_load (v := (.i C3)) H rfl rfl one_2 (n11.cell (i := 0) rfl) (lt_ rfl) fun a H => ?_
 refine s_call H rfl body_33 (H.args (vs := [(.i C1), (.i C3)]) rfl) (lt_ rfl) h ?_ (fun c w' h H => e_panic (P := PP) (fn := Try.f13) H h)
 clear H h a
 rintro _ w14 a ⟨i15, rfl, h⟩ H
 refine s_assign H rfl rfl (lt_ rfl) fun a H => c_nil <| hK13 _ _ <| c_seq fun K16 hK16 => c_reg <| s_move H rfl rfl (lt_ rfl) fun a H => s_bin H rfl rfl rfl r_neq (lt_ rfl) fun a H => c_nil <| hK16 _ _ <| c_cond H rfl (fun h17 => ?_) (fun h17 => ?_)
 ·replace h := h.1 h17
  refine c_seq fun K18 hK18 => c_reg <| s_move H rfl rfl (lt_ rfl) fun a H => s_assign H rfl rfl (lt_ rfl) fun a H => c_nil <| hK18 _ _ <| c_ret ?_
  exact e_ret1 H rfl rfl h
 ·replace h := h.2 h17
  refine c_skip <| hK12 _ _ <| c_seq fun K19 hK19 => c_reg <| s_fld H rfl rfl fld_29_1 (lt_ rfl) fun a H => ?_
  obtain ⟨l20, hc21, h⟩ := h
  refine s_load (v := (.i l20)) H rfl rfl one_3 hc21 (lt_ rfl) fun a H => s_fld H rfl rfl fld_29_1 (lt_ rfl) fun a H => ?_
  obtain ⟨l22, hc23, h⟩ := h
  refine s_load (v := (.i l22)) H rfl rfl one_3 hc23 (lt_ rfl) fun a H => s_call H rfl body_34 (H.args (vs := [(.i l20), (.i l22)]) rfl) (lt_ rfl) h ?_ (fun c w' h H => e_panic (P := PP) (fn := Try.f13) H h)
  clear H h a
  rintro _ w24 a ⟨i25, rfl, h⟩ H
  refine s_assign H rfl rfl (lt_ rfl) fun a H => c_nil <| hK19 _ _ <| c_ret ?_
  exact e_ret1 H rfl rfl h

theorem sim_table_Table_Floor (t1 : Option Addr) (k2 : ByteArray) (w : World) (Q : Ending → World → Prop) (h : vc_table_Table_Floor t1 k2 w Q) : Calls PP F_table_Table_Floor #[(.pointer t1), (.string k2)] w Q := by
 unfold vc_table_Table_Floor at h
 refine enter (n := 19) Try.func14 rfl rfl (Nat.le_of_ble_eq_true rfl) fun a H => c_seq fun K3 hK3 => c_reg ?_
 replace h := h.get
 obtain ⟨b4, w5, n6, h⟩ := h
 refine s_alloc H rfl zero_29 (lt_ rfl) ?_
 rw [← n6.at_]
 clear H a
 intro a H
 refine n6.go <| c_nil <| hK3 _ _ <| c_seq fun K7 hK7 => c_seq fun K8 hK8 => c_reg <| s_move H rfl rfl (lt_ rfl) fun a H => s_bin H rfl rfl rfl (r_eqP0 ptr_24) (lt_ rfl) fun a H => c_nil <| hK8 _ _ <| c_cond H rfl (fun h9 => ?_) (fun h9 => ?_)
 ·replace h := h.1 h9
  refine c_seq fun K10 hK10 => c_reg <| s_build H rfl (by rw [H.parts (vs := []) rfl]; exact bd_29 w5) (lt_ rfl) fun a H => s_stoN (l := [(.i 0), (.i 0)]) H rfl rfl rfl rfl agg_29 rfl rfl h ?_
  clear h H
  intro w11 h H
  refine c_nil <| hK10 _ _ <| c_ret ?_
  obtain ⟨C12, hc13, C14, hc15, h⟩ := h
  exact e_ret1 H rfl ⟨_, rfl, run_loadN (l := [(.i C12), (.i C14)]) agg_29 rfl ⟨hc13, hc15, trivial⟩⟩ h
 ·replace h := h.2 h9
  refine c_skip <| hK7 _ _ <| c_seq fun K16 hK16 => ?_
  replace H := H.weaken (L' := [(0, (.pointer t1)), (1, (.string k2)), (4, (.pointer (some (blk b4))))]) ⟨rfl, rfl, rfl, trivial⟩
  obtain ⟨a17, h18, h⟩ := h
  revert H
  subst h18
  intro H
  obtain ⟨l19, hc20, l21, hc22, h⟩ := h
  refine c_any (V := [(0, (.pointer (some a17))), (1, (.pointer (some a17))), (2, (.pointer (some (a17.add 1)))), (3, (.map l19)), (4, (.string k2)), (6, (.pointer (some a17))), (7, (.pointer (some a17))), (8, (.pointer (some (a17.add 0)))), (9, (.i l21))]) (⟨[[], [0], [1], [2], [], [3, 4], [], [6], [7], [8], [5, 9], [0, 1, 2, 3, 4, 5, 6, 7, 8, 9, 10]], [some 8, some 9, some 10, some 11, some 12, some 13, some 14, some 15, some 16, some 17, some 18, none], [5, 10, 11], [0, 0, 0, 0, 0, 0, 0, 0, 0, 0, 1, 2], [0, 0, 0, 0, 0, 1, 1, 1, 1, 1, 2, 3]⟩ : Rg) [(0, (.pointer (some a17))), (1, (.string k2)), (4, (.pointer (some (blk b4))))] mixed (by kernel_rfl) H ?_
  refine Stg.eff [0, 1, 2, 3, 4, 6, 7, 8, 9] (by kernel_rfl) rfl (.cons ?_ (.cons ?_ (.cons ?_ (.cons ?_ (.cons ?_ (.cons ?_ (.cons ?_ (.cons ?_ (.cons ?_ .nil))))))))) ?_
  ·refine Ans.mk rfl rfl fun a H => s_move H rfl rfl (lt_ rfl) fun a H => ?_
   exact Ans.fin H rfl
  ·refine Ans.mk rfl rfl fun a H => s_nil H rfl rfl (lt_ rfl) fun a H => ?_
   exact Ans.fin H rfl
  ·refine Ans.mk rfl rfl fun a H => s_fld H rfl rfl fld_66_1 (lt_ rfl) fun a H => ?_
   exact Ans.fin H rfl
  ·refine Ans.mk rfl rfl fun a H => s_load (v := (.map l19)) H rfl rfl one_64 hc20 (lt_ rfl) fun a H => ?_
   exact Ans.fin H rfl
  ·refine Ans.mk rfl rfl fun a H => s_move H rfl rfl (lt_ rfl) fun a H => ?_
   exact Ans.fin H rfl
  ·refine Ans.mk rfl rfl fun a H => s_move H rfl rfl (lt_ rfl) fun a H => ?_
   exact Ans.fin H rfl
  ·refine Ans.mk rfl rfl fun a H => s_nil H rfl rfl (lt_ rfl) fun a H => ?_
   exact Ans.fin H rfl
  ·refine Ans.mk rfl rfl fun a H => s_fld H rfl rfl fld_66_0 (lt_ rfl) fun a H => ?_
   exact Ans.fin H rfl
  ·refine Ans.mk rfl rfl fun a H => s_load (v := (.i l21)) H rfl rfl one_3 hc22 (lt_ rfl) fun a H => ?_
   exact Ans.fin H rfl
  ·intro a H
   replace H := H.weaken (L' := [(11, (.map l19)), (12, (.string k2))]) ⟨rfl, rfl, trivial⟩
   obtain ⟨_, h25, m23, rfl, h⟩ := h
   refine s_lkp H rfl rfl rfl h25 (lt_ rfl) ?_
   clear H a h25
   intro a H
   refine c_nil ?_
   obtain ⟨hc26, h⟩ := h
   refine effQ.go [] H rfl rfl <| Stg.eff [6, 7, 8, 9] (by kernel_rfl) rfl (.cons ?_ (.cons ?_ (.cons ?_ (.cons ?_ .nil)))) ?_
   ·refine Ans.mk rfl rfl fun a H => s_move H rfl rfl (lt_ rfl) fun a H => ?_
    exact Ans.fin H rfl
   ·refine Ans.mk rfl rfl fun a H => s_nil H rfl rfl (lt_ rfl) fun a H => ?_
    exact Ans.fin H rfl
   ·refine Ans.mk rfl rfl fun a H => s_fld H rfl rfl fld_66_0 (lt_ rfl) fun a H => ?_
    exact Ans.fin H rfl
   ·refine Ans.mk rfl rfl fun a H => s_load (v := (.i l21)) H rfl rfl one_3 hc26 (lt_ rfl) fun a H => ?_
    exact Ans.fin H rfl
   ·intro a H
    replace H := H.weaken (L' := [(13, (.map m23)), (17, (.i l21))]) ⟨rfl, rfl, trivial⟩
    refine s_call H rfl body_35 (H.args (vs := [(.map m23), (.i l21)]) rfl) (lt_ rfl) h ?_ (fun c w' h H => e_panic (P := PP) (fn := Try.f14) H h)
    clear H h a
    rintro _ w27 a ⟨C28, C29, rfl, h⟩ H
    refine c_nil <| effQ.go [] H rfl rfl <| Stg.eff [] (by kernel_rfl) rfl .nil ?_
    ·intro a H
     replace H := H.weaken (L' := [(4, (.pointer (some (blk b4)))), (18, (.agg #[(.i C28), (.i C29)]))]) ⟨rfl, rfl, trivial⟩
     refine s_stoN (l := [(.i C28), (.i C29)]) H rfl rfl rfl rfl agg_29 rfl rfl h ?_
     clear h H
     intro w30 h H
     refine c_nil <| effQ.go0 [] H rfl rfl <| Stg.fin [] (by kernel_rfl) .nil ?_
     ·intro a H
      replace H := H.weaken (L' := [(4, (.pointer (some (blk b4))))]) ⟨rfl, trivial⟩
      refine hK16 _ _ <| c_ret ?_
      obtain ⟨C31, hc32, C33, hc34, h⟩ := h
      exact e_ret1 H rfl ⟨_, rfl, run_loadN (l := [(.i C31), (.i C33)]) agg_29 rfl ⟨hc32, hc34, trivial⟩⟩ h

theorem sim_table_Table_Top (t1 : Option Addr) (k2 : ByteArray) (w : World) (Q : Ending → World → Prop) (h : vc_table_Table_Top t1 k2 w Q) : Calls PP F_table_Table_Top #[(.pointer t1), (.string k2)] w Q := by
 unfold vc_table_Table_Top at h
 refine enter (n := 16) Try.func15 rfl rfl (Nat.le_of_ble_eq_true rfl) fun a H => c_seq fun K3 hK3 => c_reg ?_
 replace h := h.get
 obtain ⟨b4, w5, n6, h⟩ := h
 refine s_alloc H rfl zero_29 (lt_ rfl) ?_
 rw [← n6.at_]
 clear H a
 intro a H
 refine n6.go <| c_nil <| hK3 _ _ <| c_seq fun K7 hK7 => c_seq fun K8 hK8 => c_reg <| s_move H rfl rfl (lt_ rfl) fun a H => s_bin H rfl rfl rfl (r_eqP0 ptr_24) (lt_ rfl) fun a H => c_nil <| hK8 _ _ <| c_cond H rfl (fun h9 => ?_) (fun h9 => ?_)
 ·replace h := h.1 h9
  refine c_seq fun K10 hK10 => c_reg <| s_build H rfl (by rw [H.parts (vs := []) rfl]; exact bd_29 w5) (lt_ rfl) fun a H => s_stoN (l := [(.i 0), (.i 0)]) H rfl rfl rfl rfl agg_29 rfl rfl h ?_
  clear h H
  intro w11 h H
  refine c_nil <| hK10 _ _ <| c_ret ?_
  obtain ⟨C12, hc13, C14, hc15, h⟩ := h
  exact e_ret1 H rfl ⟨_, rfl, run_loadN (l := [(.i C12), (.i C14)]) agg_29 rfl ⟨hc13, hc15, trivial⟩⟩ h
 ·replace h := h.2 h9
  refine c_skip <| hK7 _ _ <| c_seq fun K16 hK16 => c_reg <| s_move H rfl rfl (lt_ rfl) fun a H => ?_
  obtain ⟨a17, h41, h⟩ := h
  revert H
  subst h41
  intro H
  refine s_nil H rfl rfl (lt_ rfl) fun a H => s_fld H rfl rfl fld_66_1 (lt_ rfl) fun a H => ?_
  obtain ⟨l18, hc19, h⟩ := h
  refine s_load (v := (.map l18)) H rfl rfl one_64 hc19 (lt_ rfl) fun a H => s_move H rfl rfl (lt_ rfl) fun a H => ?_
  obtain ⟨_, h22, m20, rfl, h⟩ := h
  refine s_lkp H rfl rfl rfl h22 (lt_ rfl) ?_
  clear H a h22
  intro a H
  refine s_call H rfl body_37 (H.args (vs := [(.map m20)]) rfl) (lt_ rfl) h ?_ (fun c w' h H => e_panic (P := PP) (fn := Try.f15) H h)
  clear H h a
  rintro _ w23 a ⟨f24, rfl, h⟩ H
  refine s_call H rfl body_36 (H.args (vs := [f24.v]) rfl) (lt_ rfl) h ?_ (fun c w' h H => e_panic (P := PP) (fn := Try.f15) H h)
  clear H h a
  rintro _ w25 a ⟨C26, C27, rfl, h⟩ H
  refine s_stoN (l := [(.i C26), (.i C27)]) H rfl rfl rfl rfl agg_29 rfl rfl h ?_
  clear h H
  intro w28 h H
  refine c_nil <| hK16 _ _ <| c_ret ?_
  obtain ⟨C29, hc30, C31, hc32, h⟩ := h
  exact e_ret1 H rfl ⟨_, rfl, run_loadN (l := [(.i C29), (.i C31)]) agg_29 rfl ⟨hc30, hc32, trivial⟩⟩ h
end Go.Proofs.Ytgnceldnfefnmaa
