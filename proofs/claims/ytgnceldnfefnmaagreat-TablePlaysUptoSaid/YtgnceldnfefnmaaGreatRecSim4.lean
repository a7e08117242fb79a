/-
  The conditions give the machine's calls; printed by vcgen.py.
-/
import Derived.Test.YtgnceldnfefnmaaGreatRecVc
namespace Go.Proofs.YtgnceldnfefnmaaGreat
open Go Go.Vc
set_option maxRecDepth 100000
set_option maxHeartbeats 4000000
theorem sim_sherdref15_Table_finalized (t1 : Option Addr) (k2 : ByteArray) (w : World) (Q : Ending → World → Prop) (h : vc_sherdref15_Table_finalized t1 k2 w Q) : Calls PP F_sherdref15_Table_finalized #[(.pointer t1), (.string k2)] w Q := by
 unfold vc_sherdref15_Table_finalized at h
 refine enter (n := 73) Tryz.func45 rfl rfl (Nat.le_of_ble_eq_true rfl) fun a H => c_seq fun K3 hK3 => c_reg <| s_assign H rfl rfl (lt_ rfl) fun a H => c_nil <| hK3 _ _ <| c_seq fun K4 hK4 => c_reg <| s_assign H rfl rfl (lt_ rfl) fun a H => c_nil <| hK4 _ _ <| c_seq fun K5 hK5 => c_seq fun K6 hK6 => c_reg <| s_move H rfl rfl (lt_ rfl) fun a H => ?_
 obtain ⟨a7, h146, h⟩ := h
 revert H
 subst h146
 intro H
 refine s_nil H rfl rfl (lt_ rfl) fun a H => s_fld H rfl rfl fld_49_1 (lt_ rfl) fun a H => ?_
 obtain ⟨l8, hc9, h⟩ := h
 refine s_load (v := l8.v) H rfl rfl one_47 hc9 (lt_ rfl) fun a H => s_blt H rfl (H.args (vs := [l8.v]) rfl) (lt_ rfl) (fun cs => b_lenS (z := l8) sl_47) fun a H => s_move H rfl rfl (lt_ rfl) fun a H => c_nil <| hK6 _ _ <| c_block ?_
 obtain ⟨I13, m14, h144, h145⟩ := h
 refine c_loop (σ := Slc × Int) (fun z w => I13 z.1 z.2 w) (fun z w => m14 z.1 z.2 w) (fun z => [(1, (.string k2)), (5, z.1.v), (13, l8.v), (14, (.i (l8.l : Int))), (15, (.i z.2))]) (Slc.nil, 0) h144 (H.weaken ⟨rfl, rfl, rfl, rfl, rfl, trivial⟩) ?_
 clear H h144
 rintro ⟨l10, s11⟩ a w12 h H
 replace h := h145 l10 s11 w12 h
 clear h145
 replace H : Has 73 [] a [(1, (.string k2)), (5, l10.v), (13, l8.v), (14, (.i (l8.l : Int))), (15, (.i s11))] := H
 refine c_seq fun K15 hK15 => c_reg <| s_bin H rfl rfl rfl r_lss (lt_ rfl) fun a H => c_nil <| hK15 _ _ <| c_seq fun K16 hK16 => c_cond H rfl (fun h17 => ?_) (fun h17 => ?_)
 ·replace h := h.1 h17
  refine c_skip <| hK16 _ _ <| c_seq fun K18 hK18 => ?_
  obtain ⟨R20, h, h142⟩ := h
  have h22 : ∀ (a : Act) (l19 : Slc) (w21 : World), R20 l19 w21 → Has 73 [] a [(1, (.string k2)), (5, l19.v), (13, l8.v), (14, (.i (l8.l : Int))), (15, (.i s11))] → K18 a w21 := by
   clear h
   intro a l19 w21 h H
   replace h := h142 l19 w21 h
   refine hK18 _ _ <| c_reg <| s_bin H rfl rfl rfl r_add (lt_ rfl) fun a H => s_move H rfl rfl (lt_ rfl) fun a H => c_nil <| Exists.intro (l19, wr .i64 (s11 + 1)) ⟨h.1, h.2, H.weaken ⟨rfl, rfl, rfl, rfl, rfl, trivial⟩⟩
  clear h142
  refine c_block <| c_seq fun K23 hK23 => c_reg ?_
  obtain ⟨a24, h25, h26, h27, h⟩ := h
  refine s_idxS (s := l8) H rfl rfl rfl slc_47 h25 h26 h27 (lt_ rfl) fun a H => ?_
  obtain ⟨K28, hc29, C30, hc31, C32, hc33, F34, hc35, H36, hc37, D38, hc39, h⟩ := h
  refine s_loadN (l := [(.string K28), (.i C30), (.i C32), (.bool F34), (.bool H36), D38.v]) H rfl rfl agg_57 rfl ⟨hc29, hc31, hc33, hc35, hc37, hc39, trivial⟩ (lt_ rfl) fun a H => ?_
  replace h := h.get
  obtain ⟨b40, w41, n42, h⟩ := h
  refine s_alloc H rfl zero_57 (lt_ rfl) ?_
  rw [← n42.at_]
  clear H a
  intro a H
  refine n42.go <| s_stoN (l := [(.string K28), (.i C30), (.i C32), (.bool F34), (.bool H36), D38.v]) H rfl rfl rfl rfl agg_57 rfl rfl h ?_
  clear h H
  intro w43 h H
  refine c_nil <| hK23 _ _ <| c_seq fun K44 hK44 => c_seq fun K45 hK45 => c_reg <| s_fld H rfl rfl fld_57_0 (lt_ rfl) fun a H => ?_
  obtain ⟨l46, hc47, h⟩ := h
  refine s_load (v := (.string l46)) H rfl rfl one_9 hc47 (lt_ rfl) fun a H => s_move H rfl rfl (lt_ rfl) fun a H => s_bin H rfl rfl rfl r_neqS (lt_ rfl) fun a H => s_move H rfl rfl (lt_ rfl) fun a H => ?_
  obtain ⟨x52, h53, h54, h⟩ := h
  refine g_join (n := 73) [(28, (.bool x52)), (1, (.string k2)), (5, l10.v), (7, (.pointer (some (blk b40)))), (13, l8.v), (14, (.i (l8.l : Int))), (15, (.i s11))] (.succ (.succ (.succ (.succ (.succ (.zero _)))))) ?_ ?_
  ·intro h49
   try clear h
   rcases Bool.eq_false_or_eq_true (decide (l46.toList ≠ k2.toList)) with h48 | h48
   ·replace H := H.ch (t := 23) (b := true) rfl h48
    iterate 4 refine s_skip H (wantN H rfl rfl rfl) rfl (lt_ rfl) fun a H => ?_
    refine s_pickT H rfl rfl rfl (lt_ rfl) fun a H => ?_
    replace h := h54 h48
    subst h
    exact h49 _ (H.weaken ⟨rfl, rfl, rfl, rfl, rfl, rfl, rfl, trivial⟩)
   ·replace H := H.ch (t := 23) (b := false) rfl h48
    replace h := h53 h48
    refine s_fld H (wantG H rfl rfl) rfl fld_57_1 (lt_ rfl) fun a H => s_fld H (wantG H rfl rfl) rfl fld_36_1 (lt_ rfl) fun a H => ?_
    obtain ⟨l50, hc51, h⟩ := h
    refine s_load (v := (.bool l50)) H (wantG H rfl rfl) rfl one_4 hc51 (lt_ rfl) fun a H => s_un H (wantG H rfl rfl) rfl r_not (lt_ rfl) fun a H => s_pickF H rfl rfl rfl (lt_ rfl) fun a H => ?_
    subst h
    exact h49 _ (H.weaken ⟨rfl, rfl, rfl, rfl, rfl, rfl, rfl, trivial⟩)
  ·clear H a
   clear h53 h54
   intro a H
   refine c_nil <| hK45 _ _ <| c_cond H rfl (fun h55 => ?_) (fun h55 => ?_)
   ·replace h := h.1 h55
    refine c_exit ?_
    first | (simp only [Exit.then, Exit.inBlock, ↓reduceIte]; fail_if_success simp only [Nat.reduceEqDiff]) | simp only [Exit.then, Exit.inBlock, ↓reduceIte, Nat.reduceEqDiff]
    exact h22 _ _ _ h (H.weaken ⟨rfl, rfl, rfl, rfl, rfl, trivial⟩)
   ·replace h := h.2 h55
    refine c_skip <| hK44 _ _ <| c_seq fun K56 hK56 => c_reg <| s_move H rfl rfl (lt_ rfl) fun a H => s_fld H rfl rfl fld_57_1 (lt_ rfl) fun a H => s_fld H rfl rfl fld_36_0 (lt_ rfl) fun a H => ?_
    obtain ⟨C57, hc58, C59, hc60, h⟩ := h
    refine s_loadN (l := [(.i C57), (.i C59)]) H rfl rfl agg_33 rfl ⟨hc58, hc60, trivial⟩ (lt_ rfl) fun a H => ?_
    replace h := h.get
    obtain ⟨b61, w62, n63, h⟩ := h
    refine s_bslc H rfl (by rw [H.parts (vs := [(0, (.agg #[(.i C57), (.i C59)]))]) rfl]; exact bs_82_1_ii64ii640 w43 C57 C59) (lt_ rfl) ?_
    rw [← n63.at_]
    clear H a
    intro a H
    refine n63.go ?_
    obtain ⟨s64, w65, h66, h⟩ := h
    refine s_blt H rfl (H.args (vs := [l10.v, (Slc.v (Slc.mk (some (blk b61)) 1 1))]) rfl) (lt_ rfl) (fun cs => b_app (z := s64) h66) ?_
    clear H a h66
    intro a H
    refine s_assign H rfl rfl (lt_ rfl) fun a H => c_nil <| hK56 _ _ <| c_seq fun K67 hK67 => c_reg <| s_move H rfl rfl (lt_ rfl) fun a H => s_blt H rfl (H.args (vs := [s64.v]) rfl) (lt_ rfl) (fun cs => b_lenS (z := s64) sl_82) fun a H => s_bin H rfl rfl rfl r_sub (lt_ rfl) fun a H => s_assign H rfl rfl (lt_ rfl) fun a H => c_nil <| hK67 _ _ <| c_block ?_
    obtain ⟨I70, m71, h140, h141⟩ := h
    refine c_loop (σ := Int) (fun z w => I70 z w) (fun z w => m71 z w) (fun z => [(1, (.string k2)), (5, s64.v), (8, (.i z)), (13, l8.v), (14, (.i (l8.l : Int))), (15, (.i s11))]) (wr .i64 ((s64.l : Int) - 1)) h140 (H.weaken ⟨rfl, rfl, rfl, rfl, rfl, rfl, trivial⟩) ?_
    clear H h140
    rintro i68 a w69 h H
    replace h := h141 i68 w69 h
    clear h141
    replace H : Has 73 [] a [(1, (.string k2)), (5, s64.v), (8, (.i i68)), (13, l8.v), (14, (.i (l8.l : Int))), (15, (.i s11))] := H
    refine c_seq fun K72 hK72 => c_seq fun K73 hK73 => ?_
    obtain ⟨R75, h, h139⟩ := h
    have h115 : ∀ (a : Act) (s74 : Bool) (w76 : World), R75 s74 w76 → Has 73 [] a [(1, (.string k2)), (5, s64.v), (8, (.i i68)), (13, l8.v), (14, (.i (l8.l : Int))), (15, (.i s11)), (51, (.bool s74))] → K73 a w76 := by
     clear h
     intro a s74 w76 h H
     replace h := h139 s74 w76 h
     refine hK73 _ _ <| c_cond H rfl (fun h77 => ?_) (fun h77 => ?_)
     ·replace h := h.1 h77
      refine c_skip <| hK72 _ _ <| c_seq fun K78 hK78 => c_block <| c_seq fun K79 hK79 => c_reg <| s_move H rfl rfl (lt_ rfl) fun a H => s_move H rfl rfl (lt_ rfl) fun a H => ?_
      obtain ⟨a80, h81, h82, h83, h⟩ := h
      refine s_idxS (s := s64) H rfl rfl rfl slc_82 h81 h82 h83 (lt_ rfl) fun a H => ?_
      obtain ⟨C84, hc85, C86, hc87, h⟩ := h
      refine s_loadN (l := [(.i C84), (.i C86)]) H rfl rfl agg_33 rfl ⟨hc85, hc87, trivial⟩ (lt_ rfl) fun a H => ?_
      replace h := h.get
      obtain ⟨b88, w89, n90, h⟩ := h
      refine s_alloc H rfl zero_33 (lt_ rfl) ?_
      rw [← n90.at_]
      clear H a
      intro a H
      refine n90.go <| s_stoN (l := [(.i C84), (.i C86)]) H rfl rfl rfl rfl agg_33 rfl rfl h ?_
      clear h H
      intro w91 h H
      refine c_nil <| hK79 _ _ <| c_seq fun K92 hK92 => c_reg ?_
      iterate 4 refine s_move H rfl rfl (lt_ rfl) fun a H => ?_
      refine s_bin H rfl rfl rfl r_sub (lt_ rfl) fun a H => ?_
      obtain ⟨a93, h94, h95, h96, h⟩ := h
      refine s_idxS (s := s64) H rfl rfl rfl slc_82 h94 h95 h96 (lt_ rfl) fun a H => ?_
      obtain ⟨C97, hc98, C99, hc100, h⟩ := h
      refine s_loadN (l := [(.i C97), (.i C99)]) H rfl rfl agg_33 rfl ⟨hc98, hc100, trivial⟩ (lt_ rfl) fun a H => ?_
      obtain ⟨a101, h102, h103, h104, h⟩ := h
      refine s_idxS (s := s64) H rfl rfl rfl slc_82 h102 h103 h104 (lt_ rfl) fun a H => s_stoN (l := [(.i C97), (.i C99)]) H rfl rfl rfl rfl agg_33 rfl rfl h ?_
      clear h H
      intro w105 h H
      refine c_nil <| hK92 _ _ <| c_reg <| s_move H rfl rfl (lt_ rfl) fun a H => s_move H rfl rfl (lt_ rfl) fun a H => s_bin H rfl rfl rfl r_sub (lt_ rfl) fun a H => ?_
      obtain ⟨C106, hc107, C108, hc109, h⟩ := h
      refine s_loadN (l := [(.i C106), (.i C108)]) H rfl rfl agg_33 rfl ⟨hc107, hc109, trivial⟩ (lt_ rfl) fun a H => ?_
      obtain ⟨a110, h111, h112, h113, h⟩ := h
      refine s_idxS (s := s64) H rfl rfl rfl slc_82 h111 h112 h113 (lt_ rfl) fun a H => s_stoN (l := [(.i C106), (.i C108)]) H rfl rfl rfl rfl agg_33 rfl rfl h ?_
      clear h H
      intro w114 h H
      refine c_nil <| hK78 _ _ <| c_reg <| s_move H rfl rfl (lt_ rfl) fun a H => s_bin H rfl rfl rfl r_sub (lt_ rfl) fun a H => s_assign H rfl rfl (lt_ rfl) fun a H => c_nil <| Exists.intro (wr .i64 (i68 - 1)) ⟨h.1, h.2, H.weaken ⟨rfl, rfl, rfl, rfl, rfl, rfl, trivial⟩⟩
     ·replace h := h.2 h77
      refine c_exit ?_
      first | (simp only [Exit.then, Exit.inBlock, ↓reduceIte]; fail_if_success simp only [Nat.reduceEqDiff]) | simp only [Exit.then, Exit.inBlock, ↓reduceIte, Nat.reduceEqDiff]
      exact h22 _ _ _ h (H.weaken ⟨rfl, rfl, rfl, rfl, rfl, trivial⟩)
    clear h139
    replace H := H.weaken (L' := [(1, (.string k2)), (5, s64.v), (8, (.i i68)), (13, l8.v), (14, (.i (l8.l : Int))), (15, (.i s11))]) ⟨rfl, rfl, rfl, rfl, rfl, rfl, trivial⟩
    rcases Bool.eq_false_or_eq_true (decide (0 < i68)) with h116 | h116
    ·replace h := h.1 h116
     obtain ⟨a117, h118, h119, h120, C121, hc122, C123, hc124, a125, h126, h127, h128, C129, hc130, C131, hc132, h⟩ := h
     refine c_any (V := [(0, (.i i68)), (1, (.bool (decide (0 < i68)))), (2, (.bool (decide (0 < i68)))), (3, s64.v), (4, (.i i68)), (5, (.i (wr .i64 (i68 - 1)))), (6, (.pointer (some (a117.add (Int.toNat (wr .i64 (i68 - 1)) * 2))))), (7, (.agg #[(.i C121), (.i C123)])), (8, s64.v), (9, (.i i68)), (10, (.pointer (some (a125.add (Int.toNat (i68) * 2))))), (11, (.agg #[(.i C129), (.i C131)]))]) (⟨[[], [0], [1], [2], [2], [2, 4], [2, 3, 5], [2, 6], [2], [2], [2, 8, 9], [2, 10], [2, 7, 11], [2, 12]], [some 38, some 39, some 40, some 41, some 42, some 43, some 44, some 45, some 46, some 47, some 48, some 49, some 50, some 51], [12], [0, 0, 0, 0, 0, 0, 0, 0, 0, 0, 0, 0, 0, 1], [0, 0, 0, 0, 0, 0, 0, 0, 0, 0, 0, 0, 1, 1]⟩ : Rg) [(1, (.string k2)), (5, s64.v), (8, (.i i68)), (13, l8.v), (14, (.i (l8.l : Int))), (15, (.i s11))] mixed (by kernel_rfl) H ?_
     refine Stg.eff [0, 1, 2, 3, 4, 5, 6, 7, 8, 9, 10, 11] (by kernel_rfl) rfl (.cons ?_ (.cons ?_ (.cons ?_ (.cons ?_ (.cons ?_ (.cons ?_ (.cons ?_ (.cons ?_ (.cons ?_ (.cons ?_ (.cons ?_ (.cons ?_ .nil)))))))))))) ?_
     ·refine Ans.mk rfl rfl fun a H => s_move H rfl rfl (lt_ rfl) fun a H => ?_
      exact Ans.fin H rfl
     ·refine Ans.mk rfl rfl fun a H => s_bin H rfl rfl rfl r_gtr (lt_ rfl) fun a H => ?_
      exact Ans.fin H rfl
     ·refine Ans.mk rfl rfl fun a H => s_move H rfl rfl (lt_ rfl) fun a H => ?_
      exact Ans.fin H rfl
     ·refine Ans.mk rfl rfl fun a H => ?_
      replace H := H.ch (t := 40) (b := true) rfl h116
      refine s_move H (wantG H rfl rfl) rfl (lt_ rfl) fun a H => ?_
      exact Ans.fin H rfl
     ·refine Ans.mk rfl rfl fun a H => ?_
      replace H := H.ch (t := 40) (b := true) rfl h116
      refine s_move H (wantG H rfl rfl) rfl (lt_ rfl) fun a H => ?_
      exact Ans.fin H rfl
     ·refine Ans.mk rfl rfl fun a H => ?_
      replace H := H.ch (t := 40) (b := true) rfl h116
      refine s_bin H (wantG H rfl rfl) rfl rfl r_sub (lt_ rfl) fun a H => ?_
      exact Ans.fin H rfl
     ·refine Ans.mk rfl rfl fun a H => ?_
      replace H := H.ch (t := 40) (b := true) rfl h116
      refine s_idxS (s := s64) H (wantG H rfl rfl) rfl rfl slc_82 h118 h119 h120 (lt_ rfl) fun a H => ?_
      exact Ans.fin H rfl
     ·refine Ans.mk rfl rfl fun a H => ?_
      replace H := H.ch (t := 40) (b := true) rfl h116
      refine s_loadN (l := [(.i C121), (.i C123)]) H (wantG H rfl rfl) rfl agg_33 rfl ⟨hc122, hc124, trivial⟩ (lt_ rfl) fun a H => ?_
      exact Ans.fin H rfl
     ·refine Ans.mk rfl rfl fun a H => ?_
      replace H := H.ch (t := 40) (b := true) rfl h116
      refine s_move H (wantG H rfl rfl) rfl (lt_ rfl) fun a H => ?_
      exact Ans.fin H rfl
     ·refine Ans.mk rfl rfl fun a H => ?_
      replace H := H.ch (t := 40) (b := true) rfl h116
      refine s_move H (wantG H rfl rfl) rfl (lt_ rfl) fun a H => ?_
      exact Ans.fin H rfl
     ·refine Ans.mk rfl rfl fun a H => ?_
      replace H := H.ch (t := 40) (b := true) rfl h116
      refine s_idxS (s := s64) H (wantG H rfl rfl) rfl rfl slc_82 h126 h127 h128 (lt_ rfl) fun a H => ?_
      exact Ans.fin H rfl
     ·refine Ans.mk rfl rfl fun a H => ?_
      replace H := H.ch (t := 40) (b := true) rfl h116
      refine s_loadN (l := [(.i C129), (.i C131)]) H (wantG H rfl rfl) rfl agg_33 rfl ⟨hc130, hc132, trivial⟩ (lt_ rfl) fun a H => ?_
      exact Ans.fin H rfl
     ·intro a H
      replace H := H.weaken (L' := [(40, (.bool (decide (0 < i68)))), (45, (.agg #[(.i C121), (.i C123)])), (49, (.agg #[(.i C129), (.i C131)]))]) ⟨rfl, rfl, rfl, trivial⟩
      replace H := H.ch (t := 40) (b := true) rfl h116
      refine s_call H (wantG H rfl rfl) body_50 (H.args (vs := [(.agg #[(.i C121), (.i C123)]), (.agg #[(.i C129), (.i C131)])]) rfl) (lt_ rfl) h ?_ (fun c w' h H => e_panic (P := PP) (fn := Tryz.f45) H h)
      clear H h a
      rintro _ w133 a ⟨b134, rfl, h⟩ H
      refine c_nil <| effQ.go [(13, (.bool b134))] H rfl rfl <| Stg.fin [13] (by kernel_rfl) (.cons ?_ .nil) ?_
      ·refine Ans.mk rfl rfl fun a H => ?_
       replace H := H.ch (t := 40) (b := true) rfl h116
       refine s_pickT H rfl rfl rfl (lt_ rfl) fun a H => ?_
       exact Ans.fin H rfl
      ·intro a H
       replace H := H.weaken (L' := [(1, (.string k2)), (5, s64.v), (8, (.i i68)), (13, l8.v), (14, (.i (l8.l : Int))), (15, (.i s11)), (51, (.bool b134))]) ⟨rfl, rfl, rfl, rfl, rfl, rfl, rfl, trivial⟩
       exact h115 _ _ _ h (H.weaken ⟨rfl, rfl, rfl, rfl, rfl, rfl, rfl, trivial⟩)
    ·replace h := h.2 h116
     refine c_any (V := [(0, (.i i68)), (1, (.bool (decide (0 < i68)))), (2, (.bool (decide (0 < i68)))), (3, undef), (4, undef), (5, undef), (6, undef), (7, undef), (8, undef), (9, undef), (10, undef), (11, undef)]) (⟨[[], [0], [1], [2], [2], [2, 4], [2, 3, 5], [2, 6], [2], [2], [2, 8, 9], [2, 10], [2, 7, 11], [2, 12]], [some 38, some 39, some 40, some 41, some 42, some 43, some 44, some 45, some 46, some 47, some 48, some 49, some 50, some 51], [12], [0, 0, 0, 0, 0, 0, 0, 0, 0, 0, 0, 0, 0, 1], [0, 0, 0, 0, 0, 0, 0, 0, 0, 0, 0, 0, 1, 1]⟩ : Rg) [(1, (.string k2)), (5, s64.v), (8, (.i i68)), (13, l8.v), (14, (.i (l8.l : Int))), (15, (.i s11))] mixed (by kernel_rfl) H ?_
     refine Stg.eff [0, 1, 2, 3, 4, 5, 6, 7, 8, 9, 10, 11] (by kernel_rfl) rfl (.cons ?_ (.cons ?_ (.cons ?_ (.cons ?_ (.cons ?_ (.cons ?_ (.cons ?_ (.cons ?_ (.cons ?_ (.cons ?_ (.cons ?_ (.cons ?_ .nil)))))))))))) ?_
     ·refine Ans.mk rfl rfl fun a H => s_move H rfl rfl (lt_ rfl) fun a H => ?_
      exact Ans.fin H rfl
     ·refine Ans.mk rfl rfl fun a H => s_bin H rfl rfl rfl r_gtr (lt_ rfl) fun a H => ?_
      exact Ans.fin H rfl
     ·refine Ans.mk rfl rfl fun a H => s_move H rfl rfl (lt_ rfl) fun a H => ?_
      exact Ans.fin H rfl
     ·exact .skip rfl rfl rfl rfl rfl rfl h116 rfl
     ·exact .skip rfl rfl rfl rfl rfl rfl h116 rfl
     ·exact .skip rfl rfl rfl rfl rfl rfl h116 rfl
     ·exact .skip rfl rfl rfl rfl rfl rfl h116 rfl
     ·exact .skip rfl rfl rfl rfl rfl rfl h116 rfl
     ·exact .skip rfl rfl rfl rfl rfl rfl h116 rfl
     ·exact .skip rfl rfl rfl rfl rfl rfl h116 rfl
     ·exact .skip rfl rfl rfl rfl rfl rfl h116 rfl
     ·exact .skip rfl rfl rfl rfl rfl rfl h116 rfl
     ·intro a H
      replace H := H.weaken (L' := [(40, (.bool (decide (0 < i68)))), (45, undef), (49, undef)]) ⟨rfl, rfl, rfl, trivial⟩
      replace H := H.ch (t := 40) (b := false) rfl h116
      refine s_skip H (wantN H rfl rfl rfl) rfl (lt_ rfl) fun a H => c_nil <| effQ.go [(13, (.bool false))] H rfl rfl <| Stg.fin [13] (by kernel_rfl) (.cons ?_ .nil) ?_
      ·refine Ans.mk rfl rfl fun a H => ?_
       replace H := H.ch (t := 40) (b := false) rfl h116
       refine s_pickF H rfl rfl rfl (lt_ rfl) fun a H => ?_
       exact Ans.fin H rfl
      ·intro a H
       replace H := H.weaken (L' := [(1, (.string k2)), (5, s64.v), (8, (.i i68)), (13, l8.v), (14, (.i (l8.l : Int))), (15, (.i s11)), (51, (.bool false))]) ⟨rfl, rfl, rfl, rfl, rfl, rfl, rfl, trivial⟩
       exact h115 _ _ _ h (H.weaken ⟨rfl, rfl, rfl, rfl, rfl, rfl, rfl, trivial⟩)
 ·replace h := h.2 h17
  refine c_exit ?_
  first | (simp only [Exit.then, Exit.inBlock, ↓reduceIte]; fail_if_success simp only [Nat.reduceEqDiff]) | simp only [Exit.then, Exit.inBlock, ↓reduceIte, Nat.reduceEqDiff]
  refine hK5 _ _ <| c_seq fun K143 hK143 => c_reg <| s_move H rfl rfl (lt_ rfl) fun a H => s_assign H rfl rfl (lt_ rfl) fun a H => c_nil <| hK143 _ _ <| c_ret ?_
  exact e_ret1 H rfl rfl h

theorem sim_table_shelf_floor (s1 : Option Nat) (d2 : Int) (w : World) (Q : Ending → World → Prop) (h : vc_table_shelf_floor s1 d2 w Q) : Calls PP F_table_shelf_floor #[(.map s1), (.i d2)] w Q := by
 unfold vc_table_shelf_floor at h
 refine enter (n := 17) Tryz.func46 rfl rfl (Nat.le_of_ble_eq_true rfl) fun a H => c_seq fun K3 hK3 => c_reg ?_
 replace h := h.get
 obtain ⟨b4, w5, n6, h⟩ := h
 refine s_alloc H rfl zero_33 (lt_ rfl) ?_
 rw [← n6.at_]
 clear H a
 intro a H
 refine n6.go <| c_nil <| hK3 _ _ <| c_seq fun K7 hK7 => c_reg <| s_move H rfl rfl (lt_ rfl) fun a H => s_call H rfl body_44 (H.args (vs := [(.map s1)]) rfl) (lt_ rfl) h ?_ (fun c w' h H => e_panic (P := PP) (fn := Tryz.f46) H h)
 clear H h a
 rintro _ w8 a ⟨f9, rfl, h⟩ H
 refine s_assign H rfl rfl (lt_ rfl) fun a H => c_nil <| hK7 _ _ <| c_seq fun K10 hK10 => c_seq fun K11 hK11 => c_reg <| s_move H rfl rfl (lt_ rfl) fun a H => s_move H rfl rfl (lt_ rfl) fun a H => s_blt H rfl (H.args (vs := [f9.v]) rfl) (lt_ rfl) (fun cs => b_lenS (z := f9) sl_82) fun a H => s_bin H rfl rfl rfl r_lss (lt_ rfl) fun a H => c_nil <| hK11 _ _ <| c_cond H rfl (fun h12 => ?_) (fun h12 => ?_)
 ·replace h := h.1 h12
  refine c_seq fun K13 hK13 => c_reg <| s_move H rfl rfl (lt_ rfl) fun a H => s_move H rfl rfl (lt_ rfl) fun a H => ?_
  obtain ⟨a14, h15, h16, h17, h⟩ := h
  refine s_idxS (s := f9) H rfl rfl rfl slc_82 h15 h16 h17 (lt_ rfl) fun a H => ?_
  obtain ⟨C18, hc19, C20, hc21, h⟩ := h
  refine s_loadN (l := [(.i C18), (.i C20)]) H rfl rfl agg_33 rfl ⟨hc19, hc21, trivial⟩ (lt_ rfl) fun a H => s_stoN (l := [(.i C18), (.i C20)]) H rfl rfl rfl rfl agg_33 rfl rfl h ?_
  clear h H
  intro w22 h H
  refine c_nil <| hK13 _ _ <| c_ret ?_
  obtain ⟨C23, hc24, C25, hc26, h⟩ := h
  exact e_ret1 H rfl ⟨_, rfl, run_loadN (l := [(.i C23), (.i C25)]) agg_33 rfl ⟨hc24, hc26, trivial⟩⟩ h
 ·replace h := h.2 h12
  refine c_skip <| hK10 _ _ <| c_seq fun K27 hK27 => c_reg <| s_build H rfl (by rw [H.parts (vs := []) rfl]; exact bd_33 w8) (lt_ rfl) fun a H => s_stoN (l := [(.i 0), (.i 0)]) H rfl rfl rfl rfl agg_33 rfl rfl h ?_
  clear h H
  intro w28 h H
  refine c_nil <| hK27 _ _ <| c_ret ?_
  obtain ⟨C29, hc30, C31, hc32, h⟩ := h
  exact e_ret1 H rfl ⟨_, rfl, run_loadN (l := [(.i C29), (.i C31)]) agg_33 rfl ⟨hc30, hc32, trivial⟩⟩ h

theorem sim_table_Table_Entries_c1 (C1 C2 : Int) (F3 H4 : Bool) (D5 : Slc) (C6 C7 : Int) (F8 H9 : Bool) (D10 : Slc) (w : World) (Q : Ending → World → Prop) (h : vc_table_Table_Entries_c1 C1 C2 F3 H4 D5 C6 C7 F8 H9 D10 w Q) : Calls PP F_table_Table_Entries_c1 #[(.agg #[(.i C1), (.i C2), (.bool F3), (.bool H4), D5.v]), (.agg #[(.i C6), (.i C7), (.bool F8), (.bool H9), D10.v])] w Q := by
 unfold vc_table_Table_Entries_c1 at h
 refine enter (n := 10) Tryz.func48 rfl rfl (Nat.le_of_ble_eq_true rfl) fun a H => c_seq fun K11 hK11 => c_reg ?_
 replace h := h.get
 obtain ⟨b12, w13, n14, h⟩ := h
 refine s_box H rfl rfl (lt_ rfl) ?_
 rw [← n14.at_]
 clear H a
 intro a H
 refine n14.go ?_
 replace h := h.get
 obtain ⟨b15, w16, n17, h⟩ := h
 refine s_box H rfl rfl (lt_ rfl) ?_
 rw [← n17.at_]
 clear H a
 intro a H
 refine n17.go <| s_assign H rfl rfl (lt_ rfl) fun a H => c_nil <| hK11 _ _ <| c_seq fun K18 hK18 => c_reg <| s_fld H rfl rfl fld_36_0 (lt_ rfl) fun a H => s_loadN (l := [(.i C1), (.i C2)]) H rfl rfl agg_33 rfl ⟨(n17.old (n14.cell (i := 0) rfl)), (n17.old (n14.cell (i := 1) rfl)), trivial⟩ (lt_ rfl) fun a H => s_fld H rfl rfl fld_36_0 (lt_ rfl) fun a H => ?_
 refine s_loadN (l := [(.i C6), (.i C7)]) H rfl rfl agg_33 rfl ⟨(n17.cell (i := 0) rfl), (n17.cell (i := 1) rfl), trivial⟩ (lt_ rfl) fun a H => s_call H rfl body_49 (H.args (vs := [(.agg #[(.i C1), (.i C2)]), (.agg #[(.i C6), (.i C7)])]) rfl) (lt_ rfl) h ?_ (fun c w' h H => e_panic (P := PP) (fn := Tryz.f48) H h)
 clear H h a
 rintro _ w19 a ⟨C20, rfl, h⟩ H
 refine s_assign H rfl rfl (lt_ rfl) fun a H => c_nil <| hK18 _ _ <| c_ret ?_
 exact e_ret1 H rfl rfl h

theorem sim_tag_Compare (C1 C2 C3 C4 : Int) (w : World) (Q : Ending → World → Prop) (h : vc_tag_Compare C1 C2 C3 C4 w Q) : Calls PP F_tag_Compare #[(.agg #[(.i C1), (.i C2)]), (.agg #[(.i C3), (.i C4)])] w Q := by
 unfold vc_tag_Compare at h
 refine enter (n := 19) Tryz.func49 rfl rfl (Nat.le_of_ble_eq_true rfl) fun a H => c_seq fun K5 hK5 => c_reg ?_
 replace h := h.get
 obtain ⟨b6, w7, n8, h⟩ := h
 refine s_box H rfl rfl (lt_ rfl) ?_
 rw [← n8.at_]
 clear H a
 intro a H
 refine n8.go ?_
 replace h := h.get
 obtain ⟨b9, w10, n11, h⟩ := h
 refine s_box H rfl rfl (lt_ rfl) ?_
 rw [← n11.at_]
 clear H a
 intro a H
 refine n11.go <| s_assign H rfl rfl (lt_ rfl) fun a H => c_nil <| hK5 _ _ <| c_seq fun K12 hK12 => c_seq fun K13 hK13 => c_reg <| s_fld H rfl rfl fld_33_0 (lt_ rfl) fun a H => s_load (v := (.i C1)) H rfl rfl one_2 (n11.old (n8.cell (i := 0) rfl)) (lt_ rfl) fun a H => s_fld H rfl rfl fld_33_0 (lt_ rfl) fun a H => s_load (v := (.i C3)) H rfl rfl one_2 (n11.cell (i := 0) rfl) (lt_ rfl) fun a H => ?_
 refine s_call H rfl body_63 (H.args (vs := [(.i C1), (.i C3)]) rfl) (lt_ rfl) h ?_ (fun c w' h H => e_panic (P := PP) (fn := Tryz.f49) H h)
 clear H h a
 rintro _ w14 a ⟨i15, rfl, h⟩ H
 refine s_assign H rfl rfl (lt_ rfl) fun a H => c_nil <| hK13 _ _ <| c_seq fun K16 hK16 => c_reg <| s_move H rfl rfl (lt_ rfl) fun a H => s_bin H rfl rfl rfl r_neq (lt_ rfl) fun a H => c_nil <| hK16 _ _ <| c_cond H rfl (fun h17 => ?_) (fun h17 => ?_)
 ·replace h := h.1 h17
  refine c_seq fun K18 hK18 => c_reg <| s_move H rfl rfl (lt_ rfl) fun a H => s_assign H rfl rfl (lt_ rfl) fun a H => c_nil <| hK18 _ _ <| c_ret ?_
  exact e_ret1 H rfl rfl h
 ·replace h := h.2 h17
  refine c_skip <| hK12 _ _ <| c_seq fun K19 hK19 => c_reg <| s_fld H rfl rfl fld_33_1 (lt_ rfl) fun a H => ?_
  obtain ⟨l20, hc21, h⟩ := h
  refine s_load (v := (.i l20)) H rfl rfl one_3 hc21 (lt_ rfl) fun a H => s_fld H rfl rfl fld_33_1 (lt_ rfl) fun a H => ?_
  obtain ⟨l22, hc23, h⟩ := h
  refine s_load (v := (.i l22)) H rfl rfl one_3 hc23 (lt_ rfl) fun a H => s_call H rfl body_64 (H.args (vs := [(.i l20), (.i l22)]) rfl) (lt_ rfl) h ?_ (fun c w' h H => e_panic (P := PP) (fn := Tryz.f49) H h)
  clear H h a
  rintro _ w24 a ⟨i25, rfl, h⟩ H
  refine s_assign H rfl rfl (lt_ rfl) fun a H => c_nil <| hK19 _ _ <| c_ret ?_
  exact e_ret1 H rfl rfl h

theorem sim_sherdref15_below (C1 C2 C3 C4 : Int) (w : World) (Q : Ending → World → Prop) (h : vc_sherdref15_below C1 C2 C3 C4 w Q) : Calls PP F_sherdref15_below #[(.agg #[(.i C1), (.i C2)]), (.agg #[(.i C3), (.i C4)])] w Q := by
 unfold vc_sherdref15_below at h
 refine enter (n := 24) Tryz.func50 rfl rfl (Nat.le_of_ble_eq_true rfl) fun a H => c_seq fun K5 hK5 => c_reg ?_
 replace h := h.get
 obtain ⟨b6, w7, n8, h⟩ := h
 refine s_box H rfl rfl (lt_ rfl) ?_
 rw [← n8.at_]
 clear H a
 intro a H
 refine n8.go ?_
 replace h := h.get
 obtain ⟨b9, w10, n11, h⟩ := h
 refine s_box H rfl rfl (lt_ rfl) ?_
 rw [← n11.at_]
 clear H a
 intro a H
 refine n11.go <| s_assign H rfl rfl (lt_ rfl) fun a H => c_nil <| hK5 _ _ <| c_seq fun K12 hK12 => c_reg <| s_fld H rfl rfl fld_33_0 (lt_ rfl) fun a H => s_load (v := (.i C1)) H rfl rfl one_2 (n11.old (n8.cell (i := 0) rfl)) (lt_ rfl) fun a H => s_fld H rfl rfl fld_33_0 (lt_ rfl) fun a H => s_load (v := (.i C3)) H rfl rfl one_2 (n11.cell (i := 0) rfl) (lt_ rfl) fun a H => s_bin H rfl rfl rfl r_lss (lt_ rfl) fun a H => s_move H rfl rfl (lt_ rfl) fun a H => ?_
 refine g_join (n := 24) [(23, (.bool ((decide (C1 < C3)) || ((decide (C1 = C3)) && (decide (C2 < C4))))))] (.succ (.succ (.succ (.succ (.succ (.succ (.succ (.succ (.succ (.succ (.succ (.succ (.succ (.zero _)))))))))))))) ?_ ?_
 ·intro h14
  try clear h
  rcases Bool.eq_false_or_eq_true (decide (C1 < C3)) with h13 | h13
  ·replace H := H.ch (t := 10) (b := true) rfl h13
   iterate 6 refine s_skip H (wantN H rfl rfl rfl) rfl (lt_ rfl) fun a H => ?_
   iterate 5 refine s_skip H (wantU H rfl rfl) rfl (lt_ rfl) fun a H => ?_
   refine s_skip H (wantN H rfl rfl rfl) rfl (lt_ rfl) fun a H => s_pickT H rfl rfl rfl (lt_ rfl) fun a H => ?_
   exact h14 _ (H.weaken ⟨by rw [h13]; rfl, trivial⟩)
  ·replace H := H.ch (t := 10) (b := false) rfl h13
   refine s_fld H (wantG H rfl rfl) rfl fld_33_0 (lt_ rfl) fun a H => s_load (v := (.i C1)) H (wantG H rfl rfl) rfl one_2 (n11.old (n8.cell (i := 0) rfl)) (lt_ rfl) fun a H => s_fld H (wantG H rfl rfl) rfl fld_33_0 (lt_ rfl) fun a H => s_load (v := (.i C3)) H (wantG H rfl rfl) rfl one_2 (n11.cell (i := 0) rfl) (lt_ rfl) fun a H => s_bin H (wantG H rfl rfl) rfl rfl r_eql (lt_ rfl) fun a H => s_move H (wantG H rfl rfl) rfl (lt_ rfl) fun a H => ?_
   refine g_join (n := 24) [(22, (.bool ((decide (C1 = C3)) && (decide (C2 < C4))))), (10, (.bool false))] (.succ (.succ (.succ (.succ (.succ (.succ (.zero _))))))) ?_ ?_
   ·intro h16
    try clear h
    rcases Bool.eq_false_or_eq_true (decide (C1 = C3)) with h15 | h15
    ·replace H := H.ch (t := 16) (b := true) rfl h15
     refine s_fld H (wantG H rfl rfl) rfl fld_33_1 (lt_ rfl) fun a H => s_load (v := (.i C2)) H (wantG H rfl rfl) rfl one_3 (n11.old (n8.cell (i := 1) rfl)) (lt_ rfl) fun a H => s_fld H (wantG H rfl rfl) rfl fld_33_1 (lt_ rfl) fun a H => s_load (v := (.i C4)) H (wantG H rfl rfl) rfl one_3 (n11.cell (i := 1) rfl) (lt_ rfl) fun a H => s_bin H (wantG H rfl rfl) rfl rfl r_lss (lt_ rfl) fun a H => s_pickT H (wantG H rfl rfl) rfl rfl (lt_ rfl) fun a H => ?_
     exact h16 _ (H.weaken ⟨by rw [h15]; rfl, rfl, trivial⟩)
    ·replace H := H.ch (t := 16) (b := false) rfl h15
     iterate 5 refine s_skip H (wantN H rfl rfl rfl) rfl (lt_ rfl) fun a H => ?_
     refine s_pickF H (wantG H rfl rfl) rfl rfl (lt_ rfl) fun a H => ?_
     exact h16 _ (H.weaken ⟨by rw [h15]; rfl, rfl, trivial⟩)
   ·clear H a
    intro a H
    refine s_pickF H rfl rfl rfl (lt_ rfl) fun a H => ?_
    exact h14 _ (H.weaken ⟨by rw [h13]; rfl, trivial⟩)
 ·clear H a
  intro a H
  refine s_assign H rfl rfl (lt_ rfl) fun a H => c_nil <| hK12 _ _ <| c_ret ?_
  exact e_ret1 H rfl rfl h

theorem sim_table_may (K1 : Int) (K2 : ByteArray) (C3 C4 : Int) (F5 H6 : Bool) (D7 : Slc) (w : World) (Q : Ending → World → Prop) (h : vc_table_may K1 K2 C3 C4 F5 H6 D7 w Q) : Calls PP F_table_may #[(.agg #[(.i K1), (.string K2), (.i C3), (.i C4), (.bool F5), (.bool H6), D7.v])] w Q := by
 unfold vc_table_may at h
 refine enter (n := 74) Tryz.func52 rfl rfl (Nat.le_of_ble_eq_true rfl) fun a H => c_seq fun K8 hK8 => c_reg ?_
 replace h := h.get
 obtain ⟨b9, w10, n11, h⟩ := h
 refine s_box H rfl rfl (lt_ rfl) ?_
 rw [← n11.at_]
 clear H a
 intro a H
 refine n11.go <| s_assign H rfl rfl (lt_ rfl) fun a H => c_nil <| hK8 _ _ <| c_seq fun K12 hK12 => c_reg <| s_fld H rfl rfl fld_38_2 (lt_ rfl) fun a H => s_loadN (l := [(.i C3), (.i C4), (.bool F5), (.bool H6), D7.v]) H rfl rfl agg_36 rfl ⟨(n11.cell (i := 2) rfl), (n11.cell (i := 3) rfl), (n11.cell (i := 4) rfl), (n11.cell (i := 5) rfl), (n11.cell (i := 6) rfl), trivial⟩ (lt_ rfl) fun a H => ?_
 replace h := h.get
 obtain ⟨b13, w14, n15, h⟩ := h
 refine s_alloc H rfl zero_36 (lt_ rfl) ?_
 rw [← n15.at_]
 clear H a
 intro a H
 refine n15.go <| s_stoN (l := [(.i C3), (.i C4), (.bool F5), (.bool H6), D7.v]) H rfl rfl rfl rfl agg_36 rfl rfl h ?_
 clear h H
 intro w16 h H
 refine c_nil <| hK12 _ _ <| c_seq fun K17 hK17 => c_seq fun K18 hK18 => c_reg <| s_fld H rfl rfl fld_38_1 (lt_ rfl) fun a H => ?_
 obtain ⟨l19, hc20, h⟩ := h
 refine s_load (v := (.string l19)) H rfl rfl one_9 hc20 (lt_ rfl) fun a H => s_bin H rfl rfl rfl r_eqlS (lt_ rfl) fun a H => s_move H rfl rfl (lt_ rfl) fun a H => ?_
 obtain ⟨x25, h26, h27, h⟩ := h
 refine g_join (n := 74) [(14, (.bool x25)), (1, (.pointer (some (blk b9)))), (3, (.pointer (some (blk b13))))] (.succ (.succ (.succ (.succ (.succ (.zero _)))))) ?_ ?_
 ·intro h22
  try clear h
  rcases Bool.eq_false_or_eq_true (decide (l19.toList = (ByteArray.mk #[]).toList)) with h21 | h21
  ·replace H := H.ch (t := 9) (b := true) rfl h21
   iterate 4 refine s_skip H (wantN H rfl rfl rfl) rfl (lt_ rfl) fun a H => ?_
   refine s_pickT H rfl rfl rfl (lt_ rfl) fun a H => ?_
   replace h := h27 h21
   subst h
   exact h22 _ (H.weaken ⟨rfl, rfl, rfl, trivial⟩)
  ·replace H := H.ch (t := 9) (b := false) rfl h21
   replace h := h26 h21
   refine s_fld H (wantG H rfl rfl) rfl fld_38_1 (lt_ rfl) fun a H => ?_
   obtain ⟨l23, hc24, h⟩ := h
   refine s_load (v := (.string l23)) H (wantG H rfl rfl) rfl one_9 hc24 (lt_ rfl) fun a H => s_blt H (wantG H rfl rfl) (H.args (vs := [(.string l23)]) rfl) (lt_ rfl) (fun cs => b_lenT str_9) fun a H => s_bin H (wantG H rfl rfl) rfl rfl r_gtr (lt_ rfl) fun a H => s_pickF H rfl rfl rfl (lt_ rfl) fun a H => ?_
   subst h
   exact h22 _ (H.weaken ⟨rfl, rfl, rfl, trivial⟩)
 ·clear H a
  clear h26 h27
  intro a H
  refine s_move H rfl rfl (lt_ rfl) fun a H => ?_
  obtain ⟨R30, h, h123⟩ := h
  refine g_joinW (n := 74) R30 (fun x31 => [(20, (.bool x31)), (1, (.pointer (some (blk b9)))), (3, (.pointer (some (blk b13))))]) (.succ (.succ (.succ (.succ (.succ (.zero _)))))) ?_ ?_
  ·intro h29
   clear h123
   rcases Bool.eq_false_or_eq_true x25 with h28 | h28
   ·replace H := H.ch (t := 15) (b := true) rfl h28
    replace h := h.2 h28
    iterate 4 refine s_skip H (wantN H rfl rfl rfl) rfl (lt_ rfl) fun a H => ?_
    refine s_pickT H rfl rfl rfl (lt_ rfl) fun a H => ?_
    exact h29 _ _ _ h (H.weaken ⟨rfl, rfl, rfl, trivial⟩)
   ·replace H := H.ch (t := 15) (b := false) rfl h28
    replace h := h.1 h28
    refine s_fld H (wantG H rfl rfl) rfl fld_36_0 (lt_ rfl) fun a H => ?_
    obtain ⟨C33, hc34, C35, hc36, h⟩ := h
    refine s_loadN (l := [(.i C33), (.i C35)]) H (wantG H rfl rfl) rfl agg_33 rfl ⟨hc34, hc36, trivial⟩ (lt_ rfl) fun a H => s_call H (wantG H rfl rfl) body_66 (H.args (vs := [(.agg #[(.i C33), (.i C35)])]) rfl) (lt_ rfl) h ?_ (fun c w' h H => e_panic (P := PP) (fn := Tryz.f52) H h)
    clear H h a
    rintro _ w37 a ⟨V38, rfl, h⟩ H
    refine s_un H (wantG H rfl rfl) rfl r_not (lt_ rfl) fun a H => s_pickF H rfl rfl rfl (lt_ rfl) fun a H => ?_
    exact h29 _ _ _ h (H.weaken ⟨rfl, rfl, rfl, trivial⟩)
  ·clear H a h
   intro a x31 w32 h H
   replace h := h123 x31 w32 h
   clear h123
   refine s_move H rfl rfl (lt_ rfl) fun a H => ?_
   obtain ⟨R45, h, h122⟩ := h
   refine g_joinW (n := 74) R45 (fun x46 => [(25, (.bool x46)), (1, (.pointer (some (blk b9)))), (3, (.pointer (some (blk b13))))]) (.succ (.succ (.succ (.succ (.zero _))))) ?_ ?_
   ·intro h44
    clear h122
    rcases Bool.eq_false_or_eq_true x31 with h43 | h43
    ·replace H := H.ch (t := 21) (b := true) rfl h43
     replace h := h.2 h43
     iterate 3 refine s_skip H (wantN H rfl rfl rfl) rfl (lt_ rfl) fun a H => ?_
     refine s_pickT H rfl rfl rfl (lt_ rfl) fun a H => ?_
     exact h44 _ _ _ h (H.weaken ⟨rfl, rfl, rfl, trivial⟩)
    ·replace H := H.ch (t := 21) (b := false) rfl h43
     replace h := h.1 h43
     refine s_fld H (wantG H rfl rfl) rfl fld_36_0 (lt_ rfl) fun a H => ?_
     obtain ⟨C48, hc49, C50, hc51, h⟩ := h
     refine s_loadN (l := [(.i C48), (.i C50)]) H (wantG H rfl rfl) rfl agg_33 rfl ⟨hc49, hc51, trivial⟩ (lt_ rfl) fun a H => s_call H (wantG H rfl rfl) body_67 (H.args (vs := [(.agg #[(.i C48), (.i C50)])]) rfl) (lt_ rfl) h ?_ (fun c w' h H => e_panic (P := PP) (fn := Tryz.f52) H h)
     clear H h a
     rintro _ w52 a ⟨Z53, rfl, h⟩ H
     refine s_pickF H rfl rfl rfl (lt_ rfl) fun a H => ?_
     exact h44 _ _ _ h (H.weaken ⟨rfl, rfl, rfl, trivial⟩)
   ·clear H a h
    intro a x46 w47 h H
    replace h := h122 x46 w47 h
    clear h122
    refine s_move H rfl rfl (lt_ rfl) fun a H => ?_
    obtain ⟨x62, h63, h64, h⟩ := h
    refine g_join (n := 74) [(31, (.bool x62)), (1, (.pointer (some (blk b9)))), (3, (.pointer (some (blk b13))))] (.succ (.succ (.succ (.succ (.succ (.zero _)))))) ?_ ?_
    ·intro h59
     try clear h
     rcases Bool.eq_false_or_eq_true x46 with h58 | h58
     ·replace H := H.ch (t := 26) (b := true) rfl h58
      iterate 4 refine s_skip H (wantN H rfl rfl rfl) rfl (lt_ rfl) fun a H => ?_
      refine s_pickT H rfl rfl rfl (lt_ rfl) fun a H => ?_
      replace h := h64 h58
      subst h
      exact h59 _ (H.weaken ⟨rfl, rfl, rfl, trivial⟩)
     ·replace H := H.ch (t := 26) (b := false) rfl h58
      replace h := h63 h58
      refine s_fld H (wantG H rfl rfl) rfl fld_36_3 (lt_ rfl) fun a H => ?_
      obtain ⟨l60, hc61, h⟩ := h
      refine s_load (v := l60.v) H (wantG H rfl rfl) rfl one_34 hc61 (lt_ rfl) fun a H => s_blt H (wantG H rfl rfl) (H.args (vs := [l60.v]) rfl) (lt_ rfl) (fun cs => b_lenS (z := l60) sl_34) fun a H => s_bin H (wantG H rfl rfl) rfl rfl r_gtr (lt_ rfl) fun a H => s_pickF H rfl rfl rfl (lt_ rfl) fun a H => ?_
      subst h
      exact h59 _ (H.weaken ⟨rfl, rfl, rfl, trivial⟩)
    ·clear H a
     clear h63 h64
     intro a H
     refine c_nil <| hK18 _ _ <| c_cond H rfl (fun h65 => ?_) (fun h65 => ?_)
     ·replace h := h.1 h65
      refine c_seq fun K66 hK66 => c_reg <| s_assign H rfl rfl (lt_ rfl) fun a H => c_nil <| hK66 _ _ <| c_ret ?_
      exact e_ret1 H rfl rfl h
     ·replace h := h.2 h65
      refine c_skip <| hK17 _ _ <| c_seq fun K67 hK67 => c_seq fun K68 hK68 => c_reg <| s_fld H rfl rfl fld_38_0 (lt_ rfl) fun a H => ?_
      obtain ⟨l69, hc70, h⟩ := h
      refine s_load (v := (.i l69)) H rfl rfl one_3 hc70 (lt_ rfl) fun a H => c_nil <| hK68 _ _ <| c_block <| c_seq fun K71 hK71 => c_reg <| s_bin H rfl rfl rfl r_eql (lt_ rfl) fun a H => s_assign H rfl rfl (lt_ rfl) fun a H => c_nil <| hK71 _ _ <| c_cond H rfl (fun h72 => ?_) (fun h72 => ?_)
      ·replace h := h.1 h72
       refine c_seq fun K73 hK73 => c_reg <| s_fld H rfl rfl fld_36_1 (lt_ rfl) fun a H => ?_
       obtain ⟨l74, hc75, h⟩ := h
       refine s_load (v := (.bool l74)) H rfl rfl one_4 hc75 (lt_ rfl) fun a H => s_un H rfl rfl r_not (lt_ rfl) fun a H => s_move H rfl rfl (lt_ rfl) fun a H => ?_
       obtain ⟨x80, h81, h82, h⟩ := h
       refine g_join (n := 74) [(43, (.bool x80))] (.succ (.succ (.succ (.succ (.zero _))))) ?_ ?_
       ·intro h77
        try clear h
        rcases Bool.eq_false_or_eq_true (!l74) with h76 | h76
        ·replace H := H.ch (t := 39) (b := true) rfl h76
         replace h := h81 h76
         refine s_fld H (wantG H rfl rfl) rfl fld_36_2 (lt_ rfl) fun a H => ?_
         obtain ⟨l78, hc79, h⟩ := h
         refine s_load (v := (.bool l78)) H (wantG H rfl rfl) rfl one_4 hc79 (lt_ rfl) fun a H => s_un H (wantG H rfl rfl) rfl r_not (lt_ rfl) fun a H => s_pickT H rfl rfl rfl (lt_ rfl) fun a H => ?_
         subst h
         exact h77 _ (H.weaken ⟨rfl, trivial⟩)
        ·replace H := H.ch (t := 39) (b := false) rfl h76
         iterate 3 refine s_skip H (wantN H rfl rfl rfl) rfl (lt_ rfl) fun a H => ?_
         refine s_pickF H rfl rfl rfl (lt_ rfl) fun a H => ?_
         replace h := h82 h76
         subst h
         exact h77 _ (H.weaken ⟨rfl, trivial⟩)
       ·clear H a
        clear h81 h82
        intro a H
        refine s_assign H rfl rfl (lt_ rfl) fun a H => c_nil <| hK73 _ _ <| c_ret ?_
        exact e_ret1 H rfl rfl h
      ·replace h := h.2 h72
       refine c_seq fun K83 hK83 => c_reg <| s_bin H rfl rfl rfl r_eql (lt_ rfl) fun a H => s_assign H rfl rfl (lt_ rfl) fun a H => c_nil <| hK83 _ _ <| c_cond H rfl (fun h84 => ?_) (fun h84 => ?_)
       ·replace h := h.1 h84
        refine c_seq fun K85 hK85 => c_reg <| s_fld H rfl rfl fld_36_1 (lt_ rfl) fun a H => ?_
        obtain ⟨l86, hc87, h⟩ := h
        refine s_load (v := (.bool l86)) H rfl rfl one_4 hc87 (lt_ rfl) fun a H => s_un H rfl rfl r_not (lt_ rfl) fun a H => s_move H rfl rfl (lt_ rfl) fun a H => ?_
        obtain ⟨x92, h93, h94, h⟩ := h
        refine g_join (n := 74) [(53, (.bool x92)), (3, (.pointer (some (blk b13))))] (.succ (.succ (.succ (.succ (.zero _))))) ?_ ?_
        ·intro h89
         try clear h
         rcases Bool.eq_false_or_eq_true (!l86) with h88 | h88
         ·replace H := H.ch (t := 49) (b := true) rfl h88
          replace h := h93 h88
          refine s_fld H (wantG H rfl rfl) rfl fld_36_2 (lt_ rfl) fun a H => ?_
          obtain ⟨l90, hc91, h⟩ := h
          refine s_load (v := (.bool l90)) H (wantG H rfl rfl) rfl one_4 hc91 (lt_ rfl) fun a H => s_un H (wantG H rfl rfl) rfl r_not (lt_ rfl) fun a H => s_pickT H rfl rfl rfl (lt_ rfl) fun a H => ?_
          subst h
          exact h89 _ (H.weaken ⟨rfl, rfl, trivial⟩)
         ·replace H := H.ch (t := 49) (b := false) rfl h88
          iterate 3 refine s_skip H (wantN H rfl rfl rfl) rfl (lt_ rfl) fun a H => ?_
          refine s_pickF H rfl rfl rfl (lt_ rfl) fun a H => ?_
          replace h := h94 h88
          subst h
          exact h89 _ (H.weaken ⟨rfl, rfl, trivial⟩)
        ·clear H a
         clear h93 h94
         intro a H
         refine s_move H rfl rfl (lt_ rfl) fun a H => ?_
         obtain ⟨x99, h100, h101, h⟩ := h
         refine g_join (n := 74) [(59, (.bool x99))] (.succ (.succ (.succ (.succ (.succ (.zero _)))))) ?_ ?_
         ·intro h96
          try clear h
          rcases Bool.eq_false_or_eq_true x92 with h95 | h95
          ·replace H := H.ch (t := 54) (b := true) rfl h95
           replace h := h100 h95
           refine s_fld H (wantG H rfl rfl) rfl fld_36_3 (lt_ rfl) fun a H => ?_
           obtain ⟨l97, hc98, h⟩ := h
           refine s_load (v := l97.v) H (wantG H rfl rfl) rfl one_34 hc98 (lt_ rfl) fun a H => s_blt H (wantG H rfl rfl) (H.args (vs := [l97.v]) rfl) (lt_ rfl) (fun cs => b_lenS (z := l97) sl_34) fun a H => s_bin H (wantG H rfl rfl) rfl rfl r_eql (lt_ rfl) fun a H => s_pickT H rfl rfl rfl (lt_ rfl) fun a H => ?_
           subst h
           exact h96 _ (H.weaken ⟨rfl, trivial⟩)
          ·replace H := H.ch (t := 54) (b := false) rfl h95
           iterate 4 refine s_skip H (wantN H rfl rfl rfl) rfl (lt_ rfl) fun a H => ?_
           refine s_pickF H rfl rfl rfl (lt_ rfl) fun a H => ?_
           replace h := h101 h95
           subst h
           exact h96 _ (H.weaken ⟨rfl, trivial⟩)
         ·clear H a
          clear h100 h101
          intro a H
          refine s_assign H rfl rfl (lt_ rfl) fun a H => c_nil <| hK85 _ _ <| c_ret ?_
          exact e_ret1 H rfl rfl h
       ·replace h := h.2 h84
        refine c_seq fun K102 hK102 => c_reg <| s_bin H rfl rfl rfl r_eql (lt_ rfl) fun a H => s_assign H rfl rfl (lt_ rfl) fun a H => c_nil <| hK102 _ _ <| c_cond H rfl (fun h103 => ?_) (fun h103 => ?_)
        ·replace h := h.1 h103
         refine c_seq fun K104 hK104 => c_reg <| s_fld H rfl rfl fld_36_2 (lt_ rfl) fun a H => ?_
         obtain ⟨l105, hc106, h⟩ := h
         refine s_load (v := (.bool l105)) H rfl rfl one_4 hc106 (lt_ rfl) fun a H => s_move H rfl rfl (lt_ rfl) fun a H => ?_
         obtain ⟨x118, h119, h120, h⟩ := h
         refine g_join (n := 74) [(73, (.bool x118))] (.succ (.succ (.succ (.succ (.succ (.succ (.succ (.succ (.succ (.zero _)))))))))) ?_ ?_
         ·intro h108
          try clear h
          rcases Bool.eq_false_or_eq_true l105 with h107 | h107
          ·replace H := H.ch (t := 64) (b := true) rfl h107
           iterate 3 refine s_skip H (wantN H rfl rfl rfl) rfl (lt_ rfl) fun a H => ?_
           iterate 4 refine s_skip H (wantU H rfl rfl) rfl (lt_ rfl) fun a H => ?_
           refine s_skip H (wantN H rfl rfl rfl) rfl (lt_ rfl) fun a H => s_pickT H rfl rfl rfl (lt_ rfl) fun a H => ?_
           replace h := h120 h107
           subst h
           exact h108 _ (H.weaken ⟨rfl, trivial⟩)
          ·replace H := H.ch (t := 64) (b := false) rfl h107
           replace h := h119 h107
           refine s_fld H (wantG H rfl rfl) rfl fld_36_1 (lt_ rfl) fun a H => ?_
           obtain ⟨l109, hc110, h⟩ := h
           refine s_load (v := (.bool l109)) H (wantG H rfl rfl) rfl one_4 hc110 (lt_ rfl) fun a H => s_move H (wantG H rfl rfl) rfl (lt_ rfl) fun a H => ?_
           obtain ⟨x115, h116, h117, h⟩ := h
           refine g_join (n := 74) [(72, (.bool x115)), (64, (.bool false))] (.succ (.succ (.succ (.succ (.succ (.zero _)))))) ?_ ?_
           ·intro h112
            try clear h
            rcases Bool.eq_false_or_eq_true l109 with h111 | h111
            ·replace H := H.ch (t := 67) (b := true) rfl h111
             replace h := h116 h111
             refine s_fld H (wantG H rfl rfl) rfl fld_36_3 (lt_ rfl) fun a H => ?_
             obtain ⟨l113, hc114, h⟩ := h
             refine s_load (v := l113.v) H (wantG H rfl rfl) rfl one_34 hc114 (lt_ rfl) fun a H => s_blt H (wantG H rfl rfl) (H.args (vs := [l113.v]) rfl) (lt_ rfl) (fun cs => b_lenS (z := l113) sl_34) fun a H => s_bin H (wantG H rfl rfl) rfl rfl r_eql (lt_ rfl) fun a H => s_pickT H (wantG H rfl rfl) rfl rfl (lt_ rfl) fun a H => ?_
             subst h
             exact h112 _ (H.weaken ⟨rfl, rfl, trivial⟩)
            ·replace H := H.ch (t := 67) (b := false) rfl h111
             iterate 4 refine s_skip H (wantN H rfl rfl rfl) rfl (lt_ rfl) fun a H => ?_
             refine s_pickF H (wantG H rfl rfl) rfl rfl (lt_ rfl) fun a H => ?_
             replace h := h117 h111
             subst h
             exact h112 _ (H.weaken ⟨rfl, rfl, trivial⟩)
           ·clear H a
            clear h116 h117
            intro a H
            refine s_pickF H rfl rfl rfl (lt_ rfl) fun a H => ?_
            subst h
            exact h108 _ (H.weaken ⟨rfl, trivial⟩)
         ·clear H a
          clear h119 h120
          intro a H
          refine s_assign H rfl rfl (lt_ rfl) fun a H => c_nil <| hK104 _ _ <| c_ret ?_
          exact e_ret1 H rfl rfl h
        ·replace h := h.2 h103
         refine c_skip <| hK67 _ _ <| c_seq fun K121 hK121 => c_reg <| s_assign H rfl rfl (lt_ rfl) fun a H => c_nil <| hK121 _ _ <| c_ret ?_
         exact e_ret1 H rfl rfl h

theorem sim_table_Table_pre (t1 : Option Addr) (k2 : ByteArray) (C3 C4 : Int) (d5 : Slc) (w : World) (Q : Ending → World → Prop) (h : vc_table_Table_pre t1 k2 C3 C4 d5 w Q) : Calls PP F_table_Table_pre #[(.pointer t1), (.string k2), (.agg #[(.i C3), (.i C4)]), d5.v] w Q := by
 unfold vc_table_Table_pre at h
 refine enter (n := 50) Tryz.func53 rfl rfl (Nat.le_of_ble_eq_true rfl) fun a H => c_seq fun K6 hK6 => c_reg ?_
 replace h := h.get
 obtain ⟨b7, w8, n9, h⟩ := h
 refine s_box H rfl rfl (lt_ rfl) ?_
 rw [← n9.at_]
 clear H a
 intro a H
 refine n9.go <| s_assign H rfl rfl (lt_ rfl) fun a H => c_nil <| hK6 _ _ <| c_seq fun K10 hK10 => c_reg <| s_move H rfl rfl (lt_ rfl) fun a H => ?_
 obtain ⟨a11, h103, h⟩ := h
 revert H
 subst h103
 intro H
 refine s_nil H rfl rfl (lt_ rfl) fun a H => s_fld H rfl rfl fld_52_1 (lt_ rfl) fun a H => ?_
 obtain ⟨l12, hc13, h⟩ := h
 refine s_load (v := (.map l12)) H rfl rfl one_50 hc13 (lt_ rfl) fun a H => s_move H rfl rfl (lt_ rfl) fun a H => ?_
 obtain ⟨_, h16, m14, rfl, h⟩ := h
 refine s_lkp H rfl rfl rfl h16 (lt_ rfl) ?_
 clear H a h16
 intro a H
 refine s_assign H rfl rfl (lt_ rfl) fun a H => c_nil <| hK10 _ _ <| c_seq fun K17 hK17 => c_reg <| s_move H rfl rfl (lt_ rfl) fun a H => s_loadN (l := [(.i C3), (.i C4)]) H rfl rfl agg_33 rfl ⟨(n9.cell (i := 0) rfl), (n9.cell (i := 1) rfl), trivial⟩ (lt_ rfl) fun a H => ?_
 obtain ⟨_, h24, C18, C19, F20, H21, D22, rfl, h⟩ := h
 refine s_lkp H rfl rfl rfl h24 (lt_ rfl) ?_
 clear H a h24
 intro a H
 replace h := h.get
 obtain ⟨b25, w26, n27, h⟩ := h
 refine s_alloc H rfl zero_36 (lt_ rfl) ?_
 rw [← n27.at_]
 clear H a
 intro a H
 refine n27.go <| s_stoN (l := [(.i C18), (.i C19), (.bool F20), (.bool H21), D22.v]) H rfl rfl rfl rfl agg_36 rfl rfl h ?_
 clear h H
 intro w28 h H
 refine c_nil <| hK17 _ _ <| c_seq fun K29 hK29 => c_seq fun K30 hK30 => ?_
 obtain ⟨R32, h, h102⟩ := h
 have h77 : ∀ (a : Act) (s31 : Bool) (w33 : World), R32 s31 w33 → Has 50 [] a [(0, (.pointer (some a11))), (1, (.string k2)), (3, d5.v), (6, (.pointer (some (blk b7)))), (9, (.map m14)), (10, (.pointer (some (blk b25)))), (32, (.bool s31))] → K30 a w33 := by
  clear h
  intro a s31 w33 h H
  replace h := h102 s31 w33 h
  refine hK30 _ _ <| c_cond H rfl (fun h34 => ?_) (fun h34 => ?_)
  ·replace h := h.1 h34
   refine c_seq fun K35 hK35 => c_reg <| s_assign H rfl rfl (lt_ rfl) fun a H => c_nil <| hK35 _ _ <| c_ret ?_
   exact e_ret1 H rfl rfl h
  ·replace h := h.2 h34
   refine c_skip <| hK29 _ _ <| c_seq fun K36 hK36 => ?_
   obtain ⟨R38, h, h76⟩ := h
   have h65 : ∀ (a : Act) (s37 : Option Nat) (w39 : World), R38 s37 w39 → Has 50 [] a [(3, d5.v), (6, (.pointer (some (blk b7)))), (9, (.map s37)), (10, (.pointer (some (blk b25))))] → K36 a w39 := by
    clear h
    intro a s37 w39 h H
    replace h := h76 s37 w39 h
    refine hK36 _ _ <| c_seq fun K40 hK40 => ?_
    replace H := H.weaken (L' := [(3, d5.v), (6, (.pointer (some (blk b7)))), (9, (.map s37)), (10, (.pointer (some (blk b25))))]) ⟨rfl, rfl, rfl, rfl, trivial⟩
    obtain ⟨C41, hc42, C43, hc44, C45, hc46, C47, hc48, l49, hc50, h⟩ := h
    refine c_any (V := [(0, (.map s37)), (1, (.agg #[(.i C41), (.i C43)])), (2, (.agg #[(.i C45), (.i C47)])), (3, (.pointer (some ((blk b25).add 2)))), (4, (.bool l49)), (5, d5.v)]) (⟨[[], [], [], [], [3], [], [5], [2, 4, 6], [0, 1, 2, 3, 4, 5, 6, 7]], [some 42, some 43, some 44, some 45, some 46, some 47, some 48, some 49, none], [6, 8], [0, 0, 0, 0, 0, 0, 0, 1, 1], [1, 1, 1, 1, 1, 0, 1, 1, 2]⟩ : Rg) [(3, d5.v), (6, (.pointer (some (blk b7)))), (9, (.map s37)), (10, (.pointer (some (blk b25))))] mixed (by kernel_rfl) H ?_
    refine Stg.eff [0, 1, 2, 3, 4, 5] (by kernel_rfl) rfl (.cons ?_ (.cons ?_ (.cons ?_ (.cons ?_ (.cons ?_ (.cons ?_ .nil)))))) ?_
    ·refine Ans.mk rfl rfl fun a H => s_move H rfl rfl (lt_ rfl) fun a H => ?_
     exact Ans.fin H rfl
    ·refine Ans.mk rfl rfl fun a H => s_loadN (l := [(.i C41), (.i C43)]) H rfl rfl agg_33 rfl ⟨hc42, hc44, trivial⟩ (lt_ rfl) fun a H => ?_
     exact Ans.fin H rfl
    ·refine Ans.mk rfl rfl fun a H => s_loadN (l := [(.i C45), (.i C47)]) H rfl rfl agg_33 rfl ⟨hc46, hc48, trivial⟩ (lt_ rfl) fun a H => ?_
     exact Ans.fin H rfl
    ·refine Ans.mk rfl rfl fun a H => s_fld H rfl rfl fld_36_1 (lt_ rfl) fun a H => ?_
     exact Ans.fin H rfl
    ·refine Ans.mk rfl rfl fun a H => s_load (v := (.bool l49)) H rfl rfl one_4 hc50 (lt_ rfl) fun a H => ?_
     exact Ans.fin H rfl
    ·refine Ans.mk rfl rfl fun a H => s_move H rfl rfl (lt_ rfl) fun a H => ?_
     exact Ans.fin H rfl
    ·intro a H
     replace H := H.weaken (L' := [(47, d5.v)]) ⟨rfl, trivial⟩
     refine s_call H rfl body_36 (H.args (vs := [d5.v]) rfl) (lt_ rfl) h ?_ (fun c w' h H => e_panic (P := PP) (fn := Tryz.f53) H h)
     clear H h a
     rintro _ w51 a ⟨C52, rfl, h⟩ H
     refine c_nil ?_
     obtain ⟨hc53, hc54, hc55, hc56, hc57, h⟩ := h
     refine effQ.go [(7, (.agg #[(.i C45), (.i C47), (.bool l49), (.bool true), C52.v]))] H rfl rfl <| Stg.eff [0, 1, 2, 3, 4, 7] (by kernel_rfl) rfl (.cons ?_ (.cons ?_ (.cons ?_ (.cons ?_ (.cons ?_ (.cons ?_ .nil)))))) ?_
     ·refine Ans.mk rfl rfl fun a H => s_move H rfl rfl (lt_ rfl) fun a H => ?_
      exact Ans.fin H rfl
     ·refine Ans.mk rfl rfl fun a H => s_loadN (l := [(.i C41), (.i C43)]) H rfl rfl agg_33 rfl ⟨hc53, hc54, trivial⟩ (lt_ rfl) fun a H => ?_
      exact Ans.fin H rfl
     ·refine Ans.mk rfl rfl fun a H => s_loadN (l := [(.i C45), (.i C47)]) H rfl rfl agg_33 rfl ⟨hc55, hc56, trivial⟩ (lt_ rfl) fun a H => ?_
      exact Ans.fin H rfl
     ·refine Ans.mk rfl rfl fun a H => s_fld H rfl rfl fld_36_1 (lt_ rfl) fun a H => ?_
      exact Ans.fin H rfl
     ·refine Ans.mk rfl rfl fun a H => s_load (v := (.bool l49)) H rfl rfl one_4 hc57 (lt_ rfl) fun a H => ?_
      exact Ans.fin H rfl
     ·refine Ans.mk rfl rfl fun a H => s_build H rfl (by rw [H.parts (vs := [(0, (.agg #[(.i C45), (.i C47)])), (1, (.bool l49)), (2, (.bool true)), (3, C52.v)]) rfl]; exact bd_36_ii64ii640_b1_b2_s3 w51 C45 C47 l49 true C52) (lt_ rfl) fun a H => ?_
      exact Ans.fin H rfl
     ·intro a H
      replace H := H.weaken (L' := [(42, (.map s37)), (43, (.agg #[(.i C41), (.i C43)])), (49, (.agg #[(.i C45), (.i C47), (.bool l49), (.bool true), C52.v]))]) ⟨rfl, rfl, rfl, trivial⟩
      obtain ⟨w58, h59, h⟩ := h
      refine s_mup H rfl rfl rfl rfl h59 ?_
      clear H h59
      intro H
      refine c_nil <| effQ.go0 [] H rfl rfl <| Stg.fin [] (by kernel_rfl) .nil ?_
      ·intro a H
       replace H := H.weaken (L' := []) trivial
       refine hK40 _ _ <| c_seq fun K60 hK60 => c_reg <| s_assign H rfl rfl (lt_ rfl) fun a H => c_nil <| hK60 _ _ <| c_ret ?_
       exact e_ret1 H rfl rfl h
   clear h76
   refine c_seq fun K66 hK66 => c_reg <| s_move H rfl rfl (lt_ rfl) fun a H => s_bin H rfl rfl rfl (r_eqM0 map_54) (lt_ rfl) fun a H => c_nil <| hK66 _ _ <| c_cond H rfl (fun h67 => ?_) (fun h67 => ?_)
   ·replace h := h.1 h67
    refine c_seq fun K68 hK68 => c_reg ?_
    obtain ⟨g69, w70, h71, h⟩ := h
    refine s_mkm H rfl h71 (lt_ rfl) ?_
    clear H a h71
    intro a H
    refine s_assign H rfl rfl (lt_ rfl) fun a H => c_nil <| hK68 _ _ <| c_reg <| s_move H rfl rfl (lt_ rfl) fun a H => s_nil H rfl rfl (lt_ rfl) fun a H => s_fld H rfl rfl fld_52_1 (lt_ rfl) fun a H => ?_
    obtain ⟨l72, hc73, h⟩ := h
    refine s_load (v := (.map l72)) H rfl rfl one_50 hc73 (lt_ rfl) fun a H => s_move H rfl rfl (lt_ rfl) fun a H => s_move H rfl rfl (lt_ rfl) fun a H => ?_
    obtain ⟨w74, h75, h⟩ := h
    refine s_mup H rfl rfl rfl rfl h75 ?_
    clear H h75
    intro H
    refine c_nil ?_
    exact h65 _ _ _ h (H.weaken ⟨rfl, rfl, rfl, rfl, trivial⟩)
   ·replace h := h.2 h67
    refine c_skip ?_
    exact h65 _ _ _ h (H.weaken ⟨rfl, rfl, rfl, rfl, trivial⟩)
 clear h102
 replace H := H.weaken (L' := [(0, (.pointer (some a11))), (1, (.string k2)), (3, d5.v), (6, (.pointer (some (blk b7)))), (9, (.map m14)), (10, (.pointer (some (blk b25))))]) ⟨rfl, rfl, rfl, rfl, rfl, rfl, trivial⟩
 obtain ⟨l78, hc79, h⟩ := h
 rcases Bool.eq_false_or_eq_true l78 with h80 | h80
 ·replace h := h.1 h80
  refine c_any (V := [(0, (.pointer (some ((blk b25).add 3)))), (1, (.bool l78)), (2, (.bool l78)), (3, undef), (4, undef), (5, undef), (6, undef), (7, undef), (8, undef)]) (⟨[[], [0], [1], [2], [2], [2], [2, 5], [2, 6], [2, 7], [2, 4, 8], [2, 3, 9], [2, 10], [2, 11]], [some 20, some 21, some 22, some 23, some 24, some 25, some 26, some 27, some 28, some 29, some 30, some 31, some 32], [9, 10], [0, 0, 0, 0, 0, 0, 0, 0, 0, 0, 1, 2, 2], [0, 0, 0, 1, 0, 0, 0, 0, 0, 1, 2, 2, 2]⟩ : Rg) [(0, (.pointer (some a11))), (1, (.string k2)), (3, d5.v), (6, (.pointer (some (blk b7)))), (9, (.map m14)), (10, (.pointer (some (blk b25))))] mixed (by kernel_rfl) H ?_
  refine Stg.eff [0, 1, 2, 3, 4, 5, 6, 7, 8] (by kernel_rfl) rfl (.cons ?_ (.cons ?_ (.cons ?_ (.cons ?_ (.cons ?_ (.cons ?_ (.cons ?_ (.cons ?_ (.cons ?_ .nil))))))))) ?_
  ·refine Ans.mk rfl rfl fun a H => s_fld H rfl rfl fld_36_2 (lt_ rfl) fun a H => ?_
   exact Ans.fin H rfl
  ·refine Ans.mk rfl rfl fun a H => s_load (v := (.bool l78)) H rfl rfl one_4 hc79 (lt_ rfl) fun a H => ?_
   exact Ans.fin H rfl
  ·refine Ans.mk rfl rfl fun a H => s_move H rfl rfl (lt_ rfl) fun a H => ?_
   exact Ans.fin H rfl
  ·exact .skip rfl rfl rfl rfl rfl rfl h80 rfl
  ·exact .skip rfl rfl rfl rfl rfl rfl h80 rfl
  ·exact .skip rfl rfl rfl rfl rfl rfl h80 rfl
  ·exact .skip rfl rfl rfl rfl rfl rfl h80 rfl
  ·exact .skip rfl rfl rfl rfl rfl rfl h80 rfl
  ·exact .skip rfl rfl rfl rfl rfl rfl h80 rfl
  ·intro a H
   replace H := H.weaken (L' := [(22, (.bool l78)), (24, undef), (28, undef)]) ⟨rfl, rfl, rfl, trivial⟩
   replace H := H.ch (t := 22) (b := true) rfl h80
   refine s_skip H (wantN H rfl rfl rfl) rfl (lt_ rfl) fun a H => c_nil <| effQ.go [] H rfl rfl <| Stg.eff [3] (by kernel_rfl) rfl (.cons ?_ .nil) ?_
   ·exact .skip rfl rfl rfl rfl rfl rfl h80 rfl
   ·intro a H
    replace H := H.weaken (L' := [(22, (.bool l78)), (23, undef), (29, undef)]) ⟨rfl, rfl, rfl, trivial⟩
    replace H := H.ch (t := 22) (b := true) rfl h80
    refine s_skip H (wantN H rfl rfl rfl) rfl (lt_ rfl) fun a H => c_nil <| effQ.go [(11, undef), (12, (.bool true))] H rfl rfl <| Stg.fin [11, 12] (by kernel_rfl) (.cons ?_ (.cons ?_ .nil)) ?_
    ·exact .skip rfl rfl rfl rfl rfl rfl h80 rfl
    ·refine Ans.mk rfl rfl fun a H => ?_
     replace H := H.ch (t := 22) (b := true) rfl h80
     refine s_pickT H rfl rfl rfl (lt_ rfl) fun a H => ?_
     exact Ans.fin H rfl
    ·intro a H
     replace H := H.weaken (L' := [(0, (.pointer (some a11))), (1, (.string k2)), (3, d5.v), (6, (.pointer (some (blk b7)))), (9, (.map m14)), (10, (.pointer (some (blk b25)))), (32, (.bool true))]) ⟨rfl, rfl, rfl, rfl, rfl, rfl, rfl, trivial⟩
     exact h77 _ _ _ h (H.weaken ⟨rfl, rfl, rfl, rfl, rfl, rfl, rfl, trivial⟩)
 ·replace h := h.2 h80
  obtain ⟨C81, hc82, C83, hc84, l85, hc86, h⟩ := h
  refine c_any (V := [(0, (.pointer (some ((blk b25).add 3)))), (1, (.bool l78)), (2, (.bool l78)), (3, (.agg #[(.i C81), (.i C83)])), (4, (.map m14)), (5, (.pointer (some a11))), (6, (.pointer (some a11))), (7, (.pointer (some (a11.add 0)))), (8, (.i l85))]) (⟨[[], [0], [1], [2], [2], [2], [2, 5], [2, 6], [2, 7], [2, 4, 8], [2, 3, 9], [2, 10], [2, 11]], [some 20, some 21, some 22, some 23, some 24, some 25, some 26, some 27, some 28, some 29, some 30, some 31, some 32], [9, 10], [0, 0, 0, 0, 0, 0, 0, 0, 0, 0, 1, 2, 2], [0, 0, 0, 1, 0, 0, 0, 0, 0, 1, 2, 2, 2]⟩ : Rg) [(0, (.pointer (some a11))), (1, (.string k2)), (3, d5.v), (6, (.pointer (some (blk b7)))), (9, (.map m14)), (10, (.pointer (some (blk b25))))] mixed (by kernel_rfl) H ?_
  refine Stg.eff [0, 1, 2, 3, 4, 5, 6, 7, 8] (by kernel_rfl) rfl (.cons ?_ (.cons ?_ (.cons ?_ (.cons ?_ (.cons ?_ (.cons ?_ (.cons ?_ (.cons ?_ (.cons ?_ .nil))))))))) ?_
  ·refine Ans.mk rfl rfl fun a H => s_fld H rfl rfl fld_36_2 (lt_ rfl) fun a H => ?_
   exact Ans.fin H rfl
  ·refine Ans.mk rfl rfl fun a H => s_load (v := (.bool l78)) H rfl rfl one_4 hc79 (lt_ rfl) fun a H => ?_
   exact Ans.fin H rfl
  ·refine Ans.mk rfl rfl fun a H => s_move H rfl rfl (lt_ rfl) fun a H => ?_
   exact Ans.fin H rfl
  ·refine Ans.mk rfl rfl fun a H => ?_
   replace H := H.ch (t := 22) (b := false) rfl h80
   refine s_loadN (l := [(.i C81), (.i C83)]) H (wantG H rfl rfl) rfl agg_33 rfl ⟨hc82, hc84, trivial⟩ (lt_ rfl) fun a H => ?_
   exact Ans.fin H rfl
  ·refine Ans.mk rfl rfl fun a H => ?_
   replace H := H.ch (t := 22) (b := false) rfl h80
   refine s_move H (wantG H rfl rfl) rfl (lt_ rfl) fun a H => ?_
   exact Ans.fin H rfl
  ·refine Ans.mk rfl rfl fun a H => ?_
   replace H := H.ch (t := 22) (b := false) rfl h80
   refine s_move H (wantG H rfl rfl) rfl (lt_ rfl) fun a H => ?_
   exact Ans.fin H rfl
  ·refine Ans.mk rfl rfl fun a H => ?_
   replace H := H.ch (t := 22) (b := false) rfl h80
   refine s_nil H (wantG H rfl rfl) rfl (lt_ rfl) fun a H => ?_
   exact Ans.fin H rfl
  ·refine Ans.mk rfl rfl fun a H => ?_
   replace H := H.ch (t := 22) (b := false) rfl h80
   refine s_fld H (wantG H rfl rfl) rfl fld_52_0 (lt_ rfl) fun a H => ?_
   exact Ans.fin H rfl
  ·refine Ans.mk rfl rfl fun a H => ?_
   replace H := H.ch (t := 22) (b := false) rfl h80
   refine s_load (v := (.i l85)) H (wantG H rfl rfl) rfl one_3 hc86 (lt_ rfl) fun a H => ?_
   exact Ans.fin H rfl
  ·intro a H
   replace H := H.weaken (L' := [(22, (.bool l78)), (24, (.map m14)), (28, (.i l85))]) ⟨rfl, rfl, rfl, trivial⟩
   replace H := H.ch (t := 22) (b := false) rfl h80
   refine s_call H (wantG H rfl rfl) body_46 (H.args (vs := [(.map m14), (.i l85)]) rfl) (lt_ rfl) h ?_ (fun c w' h H => e_panic (P := PP) (fn := Tryz.f53) H h)
   clear H h a
   rintro _ w87 a ⟨C88, C89, rfl, h⟩ H
   refine c_nil ?_
   obtain ⟨hc90, hc91, h⟩ := h
   refine effQ.go [] H rfl rfl <| Stg.eff [3] (by kernel_rfl) rfl (.cons ?_ .nil) ?_
   ·refine Ans.mk rfl rfl fun a H => ?_
    replace H := H.ch (t := 22) (b := false) rfl h80
    refine s_loadN (l := [(.i C81), (.i C83)]) H (wantG H rfl rfl) rfl agg_33 rfl ⟨hc90, hc91, trivial⟩ (lt_ rfl) fun a H => ?_
    exact Ans.fin H rfl
   ·intro a H
    replace H := H.weaken (L' := [(22, (.bool l78)), (23, (.agg #[(.i C81), (.i C83)])), (29, (.agg #[(.i C88), (.i C89)]))]) ⟨rfl, rfl, rfl, trivial⟩
    replace H := H.ch (t := 22) (b := false) rfl h80
    refine s_call H (wantG H rfl rfl) body_49 (H.args (vs := [(.agg #[(.i C81), (.i C83)]), (.agg #[(.i C88), (.i C89)])]) rfl) (lt_ rfl) h ?_ (fun c w' h H => e_panic (P := PP) (fn := Tryz.f53) H h)
    clear H h a
    rintro _ w92 a ⟨C93, rfl, h⟩ H
    refine c_nil <| effQ.go [(11, (.bool (decide (C93 < 0)))), (12, (.bool (decide (C93 < 0))))] H rfl rfl <| Stg.fin [11, 12] (by kernel_rfl) (.cons ?_ (.cons ?_ .nil)) ?_
    ·refine Ans.mk rfl rfl fun a H => ?_
     replace H := H.ch (t := 22) (b := false) rfl h80
     refine s_bin H (wantG H rfl rfl) rfl rfl r_lss (lt_ rfl) fun a H => ?_
     exact Ans.fin H rfl
    ·refine Ans.mk rfl rfl fun a H => ?_
     replace H := H.ch (t := 22) (b := false) rfl h80
     refine s_pickF H rfl rfl rfl (lt_ rfl) fun a H => ?_
     exact Ans.fin H rfl
    ·intro a H
     replace H := H.weaken (L' := [(0, (.pointer (some a11))), (1, (.string k2)), (3, d5.v), (6, (.pointer (some (blk b7)))), (9, (.map m14)), (10, (.pointer (some (blk b25)))), (32, (.bool (decide (C93 < 0))))]) ⟨rfl, rfl, rfl, rfl, rfl, rfl, rfl, trivial⟩
     exact h77 _ _ _ h (H.weaken ⟨rfl, rfl, rfl, rfl, rfl, rfl, rfl, trivial⟩)

theorem sim_table_Table_fin (t1 : Option Addr) (k2 : ByteArray) (C3 C4 : Int) (w : World) (Q : Ending → World → Prop) (h : vc_table_Table_fin t1 k2 C3 C4 w Q) : Calls PP F_table_Table_fin #[(.pointer t1), (.string k2), (.agg #[(.i C3), (.i C4)])] w Q := by
 unfold vc_table_Table_fin at h
 refine enter (n := 66) Tryz.func54 rfl rfl (Nat.le_of_ble_eq_true rfl) fun a H => c_seq fun K5 hK5 => c_reg ?_
 replace h := h.get
 obtain ⟨b6, w7, n8, h⟩ := h
 refine s_box H rfl rfl (lt_ rfl) ?_
 rw [← n8.at_]
 clear H a
 intro a H
 refine n8.go <| s_assign H rfl rfl (lt_ rfl) fun a H => c_nil <| hK5 _ _ <| c_seq fun K9 hK9 => c_reg <| s_move H rfl rfl (lt_ rfl) fun a H => ?_
 obtain ⟨a10, h171, h⟩ := h
 revert H
 subst h171
 intro H
 refine s_nil H rfl rfl (lt_ rfl) fun a H => s_fld H rfl rfl fld_52_1 (lt_ rfl) fun a H => ?_
 obtain ⟨l11, hc12, h⟩ := h
 refine s_load (v := (.map l11)) H rfl rfl one_50 hc12 (lt_ rfl) fun a H => s_move H rfl rfl (lt_ rfl) fun a H => ?_
 obtain ⟨_, h15, m13, rfl, h⟩ := h
 refine s_lkp H rfl rfl rfl h15 (lt_ rfl) ?_
 clear H a h15
 intro a H
 refine s_assign H rfl rfl (lt_ rfl) fun a H => c_nil <| hK9 _ _ <| c_seq fun K16 hK16 => c_reg <| s_move H rfl rfl (lt_ rfl) fun a H => s_loadN (l := [(.i C3), (.i C4)]) H rfl rfl agg_33 rfl ⟨(n8.cell (i := 0) rfl), (n8.cell (i := 1) rfl), trivial⟩ (lt_ rfl) fun a H => ?_
 obtain ⟨_, h23, C17, C18, F19, H20, D21, rfl, h⟩ := h
 refine s_lkp H rfl rfl rfl h23 (lt_ rfl) ?_
 clear H a h23
 intro a H
 replace h := h.get
 obtain ⟨b24, w25, n26, h⟩ := h
 refine s_alloc H rfl zero_36 (lt_ rfl) ?_
 rw [← n26.at_]
 clear H a
 intro a H
 refine n26.go <| s_stoN (l := [(.i C17), (.i C18), (.bool F19), (.bool H20), D21.v]) H rfl rfl rfl rfl agg_36 rfl rfl h ?_
 clear h H
 intro w27 h H
 refine c_nil <| hK16 _ _ <| c_seq fun K28 hK28 => c_seq fun K29 hK29 => ?_
 obtain ⟨R31, h, h170⟩ := h
 have h145 : ∀ (a : Act) (s30 : Bool) (w32 : World), R31 s30 w32 → Has 66 [] a [(0, (.pointer (some a10))), (1, (.string k2)), (5, (.pointer (some (blk b6)))), (7, (.map m13)), (8, (.pointer (some (blk b24)))), (32, (.bool s30))] → K29 a w32 := by
  clear h
  intro a s30 w32 h H
  replace h := h170 s30 w32 h
  refine hK29 _ _ <| c_cond H rfl (fun h33 => ?_) (fun h33 => ?_)
  ·replace h := h.1 h33
   refine c_seq fun K34 hK34 => c_reg <| s_assign H rfl rfl (lt_ rfl) fun a H => c_nil <| hK34 _ _ <| c_ret ?_
   exact e_ret1 H rfl rfl h
  ·replace h := h.2 h33
   refine c_skip <| hK28 _ _ <| c_seq fun K35 hK35 => ?_
   obtain ⟨R37, h, h144⟩ := h
   have h133 : ∀ (a : Act) (s36 : Option Nat) (w38 : World), R37 s36 w38 → Has 66 [] a [(0, (.pointer (some a10))), (5, (.pointer (some (blk b6)))), (7, (.map s36)), (8, (.pointer (some (blk b24))))] → K35 a w38 := by
    clear h
    intro a s36 w38 h H
    replace h := h144 s36 w38 h
    refine hK35 _ _ <| c_seq fun K39 hK39 => c_reg ?_
    obtain ⟨C40, hc41, C42, hc43, h⟩ := h
    refine s_loadN (l := [(.i C40), (.i C42)]) H rfl rfl agg_33 rfl ⟨hc41, hc43, trivial⟩ (lt_ rfl) fun a H => s_fld H rfl rfl fld_36_0 (lt_ rfl) fun a H => s_stoN (l := [(.i C40), (.i C42)]) H rfl rfl rfl rfl agg_33 rfl rfl h ?_
    clear h H
    intro w44 h H
    refine s_fld H rfl rfl fld_36_1 (lt_ rfl) fun a H => ?_
    obtain ⟨h46, h47, h⟩ := h
    refine s_sto (p := (blk b24).add 2) (v := (.bool true)) H rfl rfl rfl rfl one_4 rfl h46 h47 ?_
    clear H
    intro H
    generalize hww45 : World.setCell w44 ((blk b24).add 2) (.bool true) = w45 at h ⊢
    have w45S : SetAt w44 ((blk b24).add 2) (.bool true) w45 := ⟨hww45.symm⟩
    clear hww45 h46 h47
    refine c_nil <| hK39 _ _ <| c_seq fun K48 hK48 => c_reg <| s_move H rfl rfl (lt_ rfl) fun a H => ?_
    obtain ⟨C49, hc50, C51, hc52, h⟩ := h
    refine s_loadN (l := [(.i C49), (.i C51)]) H rfl rfl agg_33 rfl ⟨hc50, hc52, trivial⟩ (lt_ rfl) fun a H => ?_
    obtain ⟨C53, hc54, C55, hc56, F57, hc58, H59, hc60, D61, hc62, h⟩ := h
    refine s_loadN (l := [(.i C53), (.i C55), (.bool F57), (.bool H59), D61.v]) H rfl rfl agg_36 rfl ⟨hc54, hc56, hc58, hc60, hc62, trivial⟩ (lt_ rfl) fun a H => ?_
    obtain ⟨w63, h64, h⟩ := h
    refine s_mup H rfl rfl rfl rfl h64 ?_
    clear H h64
    intro H
    refine c_nil <| hK48 _ _ <| c_seq fun K65 hK65 => c_reg <| s_move H rfl rfl (lt_ rfl) fun a H => s_move H rfl rfl (lt_ rfl) fun a H => s_nil H rfl rfl (lt_ rfl) fun a H => s_fld H rfl rfl fld_52_0 (lt_ rfl) fun a H => ?_
    obtain ⟨l66, hc67, h⟩ := h
    refine s_load (v := (.i l66)) H rfl rfl one_3 hc67 (lt_ rfl) fun a H => s_call H rfl body_46 (H.args (vs := [(.map s36), (.i l66)]) rfl) (lt_ rfl) h ?_ (fun c w' h H => e_panic (P := PP) (fn := Tryz.f54) H h)
    clear H h a
    rintro _ w68 a ⟨C69, C70, rfl, h⟩ H
    replace h := h.get
    obtain ⟨b71, w72, n73, h⟩ := h
    refine s_alloc H rfl zero_33 (lt_ rfl) ?_
    rw [← n73.at_]
    clear H a
    intro a H
    refine n73.go <| s_stoN (l := [(.i C69), (.i C70)]) H rfl rfl rfl rfl agg_33 rfl rfl h ?_
    clear h H
    intro w74 h H
    refine c_nil <| hK65 _ _ <| c_seq fun K75 hK75 => c_seq fun K76 hK76 => c_reg <| s_move H rfl rfl (lt_ rfl) fun a H => ?_
    obtain ⟨i77, w78, h79, h⟩ := h
    refine s_rng H rfl rfl h79 (lt_ rfl) ?_
    clear H a h79
    intro a H
    refine c_nil <| hK76 _ _ <| c_block ?_
    obtain ⟨I81, m82, h127, h128⟩ := h
    refine c_loop (σ := Unit) (fun z w => I81 w) (fun z w => m82 w) (fun z => [(7, (.map s36)), (9, (.pointer (some (blk b71)))), (55, (.pointer (some (blk i77))))]) () h127 (H.weaken ⟨rfl, rfl, rfl, trivial⟩) ?_
    clear H h127
    rintro _ a w80 h H
    replace h := h128 w80 h
    clear h128
    replace H : Has 66 [] a [(7, (.map s36)), (9, (.pointer (some (blk b71)))), (55, (.pointer (some (blk i77))))] := H
    refine c_seq fun K83 hK83 => c_reg ?_
    obtain ⟨b84, r85, w86, h87, h⟩ := h
    refine s_nxt H rfl rfl h87 (lt_ rfl) ?_
    clear H a h87
    intro a H
    refine s_ext H rfl rfl rfl (lt_ rfl) fun a H => c_nil <| hK83 _ _ <| c_seq fun K88 hK88 => c_cond H rfl (fun h89 => ?_) (fun h89 => ?_)
    ·replace h := h.1 h89
     refine c_skip <| hK88 _ _ <| c_block <| c_seq fun K90 hK90 => c_reg ?_
     obtain ⟨_, h99, C91, C92, C93, C94, F95, H96, D97, rfl, h⟩ := h
     refine s_etr H rfl rfl h99 (lt_ rfl) ?_
     clear H a h99
     intro a H
     refine s_ext H rfl rfl rfl (lt_ rfl) fun a H => ?_
     replace h := h.get
     obtain ⟨b100, w101, n102, h⟩ := h
     refine s_alloc H rfl zero_33 (lt_ rfl) ?_
     rw [← n102.at_]
     clear H a
     intro a H
     refine n102.go <| s_stoN (l := [(.i C91), (.i C92)]) H rfl rfl rfl rfl agg_33 rfl rfl h ?_
     clear h H
     intro w103 h H
     refine c_nil <| hK90 _ _ <| c_seq fun K104 hK104 => c_reg ?_
     obtain ⟨C105, hc106, C107, hc108, h⟩ := h
     refine s_loadN (l := [(.i C105), (.i C107)]) H rfl rfl agg_33 rfl ⟨hc106, hc108, trivial⟩ (lt_ rfl) fun a H => ?_
     obtain ⟨C109, hc110, C111, hc112, h⟩ := h
     refine s_loadN (l := [(.i C109), (.i C111)]) H rfl rfl agg_33 rfl ⟨hc110, hc112, trivial⟩ (lt_ rfl) fun a H => s_call H rfl body_49 (H.args (vs := [(.agg #[(.i C105), (.i C107)]), (.agg #[(.i C109), (.i C111)])]) rfl) (lt_ rfl) h ?_ (fun c w' h H => e_panic (P := PP) (fn := Tryz.f54) H h)
     clear H h a
     rintro _ w113 a ⟨C114, rfl, h⟩ H
     refine s_bin H rfl rfl rfl r_lss (lt_ rfl) fun a H => c_nil <| hK104 _ _ <| c_cond H rfl (fun h115 => ?_) (fun h115 => ?_)
     ·replace h := h.1 h115
      refine c_reg <| s_move H rfl rfl (lt_ rfl) fun a H => ?_
      obtain ⟨C116, hc117, C118, hc119, h⟩ := h
      refine s_loadN (l := [(.i C116), (.i C118)]) H rfl rfl agg_33 rfl ⟨hc117, hc119, trivial⟩ (lt_ rfl) fun a H => ?_
      obtain ⟨w120, h121, h⟩ := h
      refine s_blt0 H rfl (H.args (vs := [(.map s36), (.agg #[(.i C116), (.i C118)])]) rfl) (fun cs => b_dlt h121) ?_
      clear H h121
      intro H
      refine c_nil <| Exists.intro () ⟨h.1, h.2, H.weaken ⟨rfl, rfl, rfl, trivial⟩⟩
     ·replace h := h.2 h115
      refine c_skip <| Exists.intro () ⟨h.1, h.2, H.weaken ⟨rfl, rfl, rfl, trivial⟩⟩
    ·replace h := h.2 h89
     refine c_exit ?_
     first | (simp only [Exit.then, Exit.inBlock, ↓reduceIte]; fail_if_success simp only [Nat.reduceEqDiff]) | simp only [Exit.then, Exit.inBlock, ↓reduceIte, Nat.reduceEqDiff]
     refine hK75 _ _ <| c_seq fun K126 hK126 => c_reg <| s_assign H rfl rfl (lt_ rfl) fun a H => c_nil <| hK126 _ _ <| c_ret ?_
     exact e_ret1 H rfl rfl h
   clear h144
   refine c_seq fun K134 hK134 => c_reg <| s_move H rfl rfl (lt_ rfl) fun a H => s_bin H rfl rfl rfl (r_eqM0 map_54) (lt_ rfl) fun a H => c_nil <| hK134 _ _ <| c_cond H rfl (fun h135 => ?_) (fun h135 => ?_)
   ·replace h := h.1 h135
    refine c_seq fun K136 hK136 => c_reg ?_
    obtain ⟨g137, w138, h139, h⟩ := h
    refine s_mkm H rfl h139 (lt_ rfl) ?_
    clear H a h139
    intro a H
    refine s_assign H rfl rfl (lt_ rfl) fun a H => c_nil <| hK136 _ _ <| c_reg <| s_move H rfl rfl (lt_ rfl) fun a H => s_nil H rfl rfl (lt_ rfl) fun a H => s_fld H rfl rfl fld_52_1 (lt_ rfl) fun a H => ?_
    obtain ⟨l140, hc141, h⟩ := h
    refine s_load (v := (.map l140)) H rfl rfl one_50 hc141 (lt_ rfl) fun a H => s_move H rfl rfl (lt_ rfl) fun a H => s_move H rfl rfl (lt_ rfl) fun a H => ?_
    obtain ⟨w142, h143, h⟩ := h
    refine s_mup H rfl rfl rfl rfl h143 ?_
    clear H h143
    intro H
    refine c_nil ?_
    exact h133 _ _ _ h (H.weaken ⟨rfl, rfl, rfl, rfl, trivial⟩)
   ·replace h := h.2 h135
    refine c_skip ?_
    exact h133 _ _ _ h (H.weaken ⟨rfl, rfl, rfl, rfl, trivial⟩)
 clear h170
 replace H := H.weaken (L' := [(0, (.pointer (some a10))), (1, (.string k2)), (5, (.pointer (some (blk b6)))), (7, (.map m13)), (8, (.pointer (some (blk b24))))]) ⟨rfl, rfl, rfl, rfl, rfl, trivial⟩
 obtain ⟨l146, hc147, h⟩ := h
 rcases Bool.eq_false_or_eq_true l146 with h148 | h148
 ·replace h := h.1 h148
  refine c_any (V := [(0, (.pointer (some ((blk b24).add 2)))), (1, (.bool l146)), (2, (.bool l146)), (3, undef), (4, undef), (5, undef), (6, undef), (7, undef), (8, undef)]) (⟨[[], [0], [1], [2], [2], [2], [2, 5], [2, 6], [2, 7], [2, 4, 8], [2, 3, 9], [2, 10], [2, 11]], [some 20, some 21, some 22, some 23, some 24, some 25, some 26, some 27, some 28, some 29, some 30, some 31, some 32], [9, 10], [0, 0, 0, 0, 0, 0, 0, 0, 0, 0, 1, 2, 2], [0, 0, 0, 1, 0, 0, 0, 0, 0, 1, 2, 2, 2]⟩ : Rg) [(0, (.pointer (some a10))), (1, (.string k2)), (5, (.pointer (some (blk b6)))), (7, (.map m13)), (8, (.pointer (some (blk b24))))] mixed (by kernel_rfl) H ?_
  refine Stg.eff [0, 1, 2, 3, 4, 5, 6, 7, 8] (by kernel_rfl) rfl (.cons ?_ (.cons ?_ (.cons ?_ (.cons ?_ (.cons ?_ (.cons ?_ (.cons ?_ (.cons ?_ (.cons ?_ .nil))))))))) ?_
  ·refine Ans.mk rfl rfl fun a H => s_fld H rfl rfl fld_36_1 (lt_ rfl) fun a H => ?_
   exact Ans.fin H rfl
  ·refine Ans.mk rfl rfl fun a H => s_load (v := (.bool l146)) H rfl rfl one_4 hc147 (lt_ rfl) fun a H => ?_
   exact Ans.fin H rfl
  ·refine Ans.mk rfl rfl fun a H => s_move H rfl rfl (lt_ rfl) fun a H => ?_
   exact Ans.fin H rfl
  ·exact .skip rfl rfl rfl rfl rfl rfl h148 rfl
  ·exact .skip rfl rfl rfl rfl rfl rfl h148 rfl
  ·exact .skip rfl rfl rfl rfl rfl rfl h148 rfl
  ·exact .skip rfl rfl rfl rfl rfl rfl h148 rfl
  ·exact .skip rfl rfl rfl rfl rfl rfl h148 rfl
  ·exact .skip rfl rfl rfl rfl rfl rfl h148 rfl
  ·intro a H
   replace H := H.weaken (L' := [(22, (.bool l146)), (24, undef), (28, undef)]) ⟨rfl, rfl, rfl, trivial⟩
   replace H := H.ch (t := 22) (b := true) rfl h148
   refine s_skip H (wantN H rfl rfl rfl) rfl (lt_ rfl) fun a H => c_nil <| effQ.go [] H rfl rfl <| Stg.eff [3] (by kernel_rfl) rfl (.cons ?_ .nil) ?_
   ·exact .skip rfl rfl rfl rfl rfl rfl h148 rfl
   ·intro a H
    replace H := H.weaken (L' := [(22, (.bool l146)), (23, undef), (29, undef)]) ⟨rfl, rfl, rfl, trivial⟩
    replace H := H.ch (t := 22) (b := true) rfl h148
    refine s_skip H (wantN H rfl rfl rfl) rfl (lt_ rfl) fun a H => c_nil <| effQ.go [(11, undef), (12, (.bool true))] H rfl rfl <| Stg.fin [11, 12] (by kernel_rfl) (.cons ?_ (.cons ?_ .nil)) ?_
    ·exact .skip rfl rfl rfl rfl rfl rfl h148 rfl
    ·refine Ans.mk rfl rfl fun a H => ?_
     replace H := H.ch (t := 22) (b := true) rfl h148
     refine s_pickT H rfl rfl rfl (lt_ rfl) fun a H => ?_
     exact Ans.fin H rfl
    ·intro a H
     replace H := H.weaken (L' := [(0, (.pointer (some a10))), (1, (.string k2)), (5, (.pointer (some (blk b6)))), (7, (.map m13)), (8, (.pointer (some (blk b24)))), (32, (.bool true))]) ⟨rfl, rfl, rfl, rfl, rfl, rfl, trivial⟩
     exact h145 _ _ _ h (H.weaken ⟨rfl, rfl, rfl, rfl, rfl, rfl, trivial⟩)
 ·replace h := h.2 h148
  obtain ⟨C149, hc150, C151, hc152, l153, hc154, h⟩ := h
  refine c_any (V := [(0, (.pointer (some ((blk b24).add 2)))), (1, (.bool l146)), (2, (.bool l146)), (3, (.agg #[(.i C149), (.i C151)])), (4, (.map m13)), (5, (.pointer (some a10))), (6, (.pointer (some a10))), (7, (.pointer (some (a10.add 0)))), (8, (.i l153))]) (⟨[[], [0], [1], [2], [2], [2], [2, 5], [2, 6], [2, 7], [2, 4, 8], [2, 3, 9], [2, 10], [2, 11]], [some 20, some 21, some 22, some 23, some 24, some 25, some 26, some 27, some 28, some 29, some 30, some 31, some 32], [9, 10], [0, 0, 0, 0, 0, 0, 0, 0, 0, 0, 1, 2, 2], [0, 0, 0, 1, 0, 0, 0, 0, 0, 1, 2, 2, 2]⟩ : Rg) [(0, (.pointer (some a10))), (1, (.string k2)), (5, (.pointer (some (blk b6)))), (7, (.map m13)), (8, (.pointer (some (blk b24))))] mixed (by kernel_rfl) H ?_
  refine Stg.eff [0, 1, 2, 3, 4, 5, 6, 7, 8] (by kernel_rfl) rfl (.cons ?_ (.cons ?_ (.cons ?_ (.cons ?_ (.cons ?_ (.cons ?_ (.cons ?_ (.cons ?_ (.cons ?_ .nil))))))))) ?_
  ·refine Ans.mk rfl rfl fun a H => s_fld H rfl rfl fld_36_1 (lt_ rfl) fun a H => ?_
   exact Ans.fin H rfl
  ·refine Ans.mk rfl rfl fun a H => s_load (v := (.bool l146)) H rfl rfl one_4 hc147 (lt_ rfl) fun a H => ?_
   exact Ans.fin H rfl
  ·refine Ans.mk rfl rfl fun a H => s_move H rfl rfl (lt_ rfl) fun a H => ?_
   exact Ans.fin H rfl
  ·refine Ans.mk rfl rfl fun a H => ?_
   replace H := H.ch (t := 22) (b := false) rfl h148
   refine s_loadN (l := [(.i C149), (.i C151)]) H (wantG H rfl rfl) rfl agg_33 rfl ⟨hc150, hc152, trivial⟩ (lt_ rfl) fun a H => ?_
   exact Ans.fin H rfl
  ·refine Ans.mk rfl rfl fun a H => ?_
   replace H := H.ch (t := 22) (b := false) rfl h148
   refine s_move H (wantG H rfl rfl) rfl (lt_ rfl) fun a H => ?_
   exact Ans.fin H rfl
  ·refine Ans.mk rfl rfl fun a H => ?_
   replace H := H.ch (t := 22) (b := false) rfl h148
   refine s_move H (wantG H rfl rfl) rfl (lt_ rfl) fun a H => ?_
   exact Ans.fin H rfl
  ·refine Ans.mk rfl rfl fun a H => ?_
   replace H := H.ch (t := 22) (b := false) rfl h148
   refine s_nil H (wantG H rfl rfl) rfl (lt_ rfl) fun a H => ?_
   exact Ans.fin H rfl
  ·refine Ans.mk rfl rfl fun a H => ?_
   replace H := H.ch (t := 22) (b := false) rfl h148
   refine s_fld H (wantG H rfl rfl) rfl fld_52_0 (lt_ rfl) fun a H => ?_
   exact Ans.fin H rfl
  ·refine Ans.mk rfl rfl fun a H => ?_
   replace H := H.ch (t := 22) (b := false) rfl h148
   refine s_load (v := (.i l153)) H (wantG H rfl rfl) rfl one_3 hc154 (lt_ rfl) fun a H => ?_
   exact Ans.fin H rfl
  ·intro a H
   replace H := H.weaken (L' := [(22, (.bool l146)), (24, (.map m13)), (28, (.i l153))]) ⟨rfl, rfl, rfl, trivial⟩
   replace H := H.ch (t := 22) (b := false) rfl h148
   refine s_call H (wantG H rfl rfl) body_46 (H.args (vs := [(.map m13), (.i l153)]) rfl) (lt_ rfl) h ?_ (fun c w' h H => e_panic (P := PP) (fn := Tryz.f54) H h)
   clear H h a
   rintro _ w155 a ⟨C156, C157, rfl, h⟩ H
   refine c_nil ?_
   obtain ⟨hc158, hc159, h⟩ := h
   refine effQ.go [] H rfl rfl <| Stg.eff [3] (by kernel_rfl) rfl (.cons ?_ .nil) ?_
   ·refine Ans.mk rfl rfl fun a H => ?_
    replace H := H.ch (t := 22) (b := false) rfl h148
    refine s_loadN (l := [(.i C149), (.i C151)]) H (wantG H rfl rfl) rfl agg_33 rfl ⟨hc158, hc159, trivial⟩ (lt_ rfl) fun a H => ?_
    exact Ans.fin H rfl
   ·intro a H
    replace H := H.weaken (L' := [(22, (.bool l146)), (23, (.agg #[(.i C149), (.i C151)])), (29, (.agg #[(.i C156), (.i C157)]))]) ⟨rfl, rfl, rfl, trivial⟩
    replace H := H.ch (t := 22) (b := false) rfl h148
    refine s_call H (wantG H rfl rfl) body_49 (H.args (vs := [(.agg #[(.i C149), (.i C151)]), (.agg #[(.i C156), (.i C157)])]) rfl) (lt_ rfl) h ?_ (fun c w' h H => e_panic (P := PP) (fn := Tryz.f54) H h)
    clear H h a
    rintro _ w160 a ⟨C161, rfl, h⟩ H
    refine c_nil <| effQ.go [(11, (.bool (decide (C161 < 0)))), (12, (.bool (decide (C161 < 0))))] H rfl rfl <| Stg.fin [11, 12] (by kernel_rfl) (.cons ?_ (.cons ?_ .nil)) ?_
    ·refine Ans.mk rfl rfl fun a H => ?_
     replace H := H.ch (t := 22) (b := false) rfl h148
     refine s_bin H (wantG H rfl rfl) rfl rfl r_lss (lt_ rfl) fun a H => ?_
     exact Ans.fin H rfl
    ·refine Ans.mk rfl rfl fun a H => ?_
     replace H := H.ch (t := 22) (b := false) rfl h148
     refine s_pickF H rfl rfl rfl (lt_ rfl) fun a H => ?_
     exact Ans.fin H rfl
    ·intro a H
     replace H := H.weaken (L' := [(0, (.pointer (some a10))), (1, (.string k2)), (5, (.pointer (some (blk b6)))), (7, (.map m13)), (8, (.pointer (some (blk b24)))), (32, (.bool (decide (C161 < 0))))]) ⟨rfl, rfl, rfl, rfl, rfl, rfl, trivial⟩
     exact h145 _ _ _ h (H.weaken ⟨rfl, rfl, rfl, rfl, rfl, rfl, trivial⟩)

theorem sim_sherdref15_May (K1 : Int) (K2 : ByteArray) (C3 C4 : Int) (F5 H6 : Bool) (D7 : Slc) (w : World) (Q : Ending → World → Prop) (h : vc_sherdref15_May K1 K2 C3 C4 F5 H6 D7 w Q) : Calls PP F_sherdref15_May #[(.agg #[(.i K1), (.string K2), (.i C3), (.i C4), (.bool F5), (.bool H6), D7.v])] w Q := by
 unfold vc_sherdref15_May at h
 refine enter (n := 94) Tryz.func55 rfl rfl (Nat.le_of_ble_eq_true rfl) fun a H => c_seq fun K8 hK8 => c_reg ?_
 replace h := h.get
 obtain ⟨b9, w10, n11, h⟩ := h
 refine s_box H rfl rfl (lt_ rfl) ?_
 rw [← n11.at_]
 clear H a
 intro a H
 refine n11.go <| s_assign H rfl rfl (lt_ rfl) fun a H => c_nil <| hK8 _ _ <| c_seq fun K12 hK12 => c_reg <| s_fld H rfl rfl fld_38_2 (lt_ rfl) fun a H => s_fld H rfl rfl fld_36_0 (lt_ rfl) fun a H => s_loadN (l := [(.i C3), (.i C4)]) H rfl rfl agg_33 rfl ⟨(n11.cell (i := 2) rfl), (n11.cell (i := 3) rfl), trivial⟩ (lt_ rfl) fun a H => ?_
 replace h := h.get
 obtain ⟨b13, w14, n15, h⟩ := h
 refine s_alloc H rfl zero_33 (lt_ rfl) ?_
 rw [← n15.at_]
 clear H a
 intro a H
 refine n15.go <| s_stoN (l := [(.i C3), (.i C4)]) H rfl rfl rfl rfl agg_33 rfl rfl h ?_
 clear h H
 intro w16 h H
 refine c_nil <| hK12 _ _ <| c_seq fun K17 hK17 => c_seq fun K18 hK18 => c_reg <| s_fld H rfl rfl fld_38_1 (lt_ rfl) fun a H => ?_
 obtain ⟨l19, hc20, h⟩ := h
 refine s_load (v := (.string l19)) H rfl rfl one_9 hc20 (lt_ rfl) fun a H => s_blt H rfl (H.args (vs := [(.string l19)]) rfl) (lt_ rfl) (fun cs => b_lenT str_9) fun a H => s_bin H rfl rfl rfl r_lss (lt_ rfl) fun a H => s_move H rfl rfl (lt_ rfl) fun a H => ?_
 obtain ⟨x25, h26, h27, h⟩ := h
 refine g_join (n := 94) [(16, (.bool x25)), (1, (.pointer (some (blk b9)))), (3, (.pointer (some (blk b13))))] (.succ (.succ (.succ (.succ (.succ (.zero _)))))) ?_ ?_
 ·intro h22
  try clear h
  rcases Bool.eq_false_or_eq_true (decide ((l19.size : Int) < 1)) with h21 | h21
  ·replace H := H.ch (t := 11) (b := true) rfl h21
   iterate 4 refine s_skip H (wantN H rfl rfl rfl) rfl (lt_ rfl) fun a H => ?_
   refine s_pickT H rfl rfl rfl (lt_ rfl) fun a H => ?_
   replace h := h27 h21
   subst h
   exact h22 _ (H.weaken ⟨rfl, rfl, rfl, trivial⟩)
  ·replace H := H.ch (t := 11) (b := false) rfl h21
   replace h := h26 h21
   refine s_fld H (wantG H rfl rfl) rfl fld_38_1 (lt_ rfl) fun a H => ?_
   obtain ⟨l23, hc24, h⟩ := h
   refine s_load (v := (.string l23)) H (wantG H rfl rfl) rfl one_9 hc24 (lt_ rfl) fun a H => s_blt H (wantG H rfl rfl) (H.args (vs := [(.string l23)]) rfl) (lt_ rfl) (fun cs => b_lenT str_9) fun a H => s_bin H (wantG H rfl rfl) rfl rfl r_gtr (lt_ rfl) fun a H => s_pickF H rfl rfl rfl (lt_ rfl) fun a H => ?_
   subst h
   exact h22 _ (H.weaken ⟨rfl, rfl, rfl, trivial⟩)
 ·clear H a
  clear h26 h27
  intro a H
  refine s_move H rfl rfl (lt_ rfl) fun a H => ?_
  obtain ⟨x32, h33, h34, h⟩ := h
  refine g_join (n := 94) [(21, (.bool x32)), (1, (.pointer (some (blk b9)))), (3, (.pointer (some (blk b13))))] (.succ (.succ (.succ (.succ (.zero _))))) ?_ ?_
  ·intro h29
   try clear h
   rcases Bool.eq_false_or_eq_true x25 with h28 | h28
   ·replace H := H.ch (t := 17) (b := true) rfl h28
    iterate 3 refine s_skip H (wantN H rfl rfl rfl) rfl (lt_ rfl) fun a H => ?_
    refine s_pickT H rfl rfl rfl (lt_ rfl) fun a H => ?_
    replace h := h34 h28
    subst h
    exact h29 _ (H.weaken ⟨rfl, rfl, rfl, trivial⟩)
   ·replace H := H.ch (t := 17) (b := false) rfl h28
    replace h := h33 h28
    refine s_fld H (wantG H rfl rfl) rfl fld_33_0 (lt_ rfl) fun a H => ?_
    obtain ⟨l30, hc31, h⟩ := h
    refine s_load (v := (.i l30)) H (wantG H rfl rfl) rfl one_2 hc31 (lt_ rfl) fun a H => s_bin H (wantG H rfl rfl) rfl rfl r_lss (lt_ rfl) fun a H => s_pickF H rfl rfl rfl (lt_ rfl) fun a H => ?_
    subst h
    exact h29 _ (H.weaken ⟨rfl, rfl, rfl, trivial⟩)
  ·clear H a
   clear h33 h34
   intro a H
   refine s_move H rfl rfl (lt_ rfl) fun a H => ?_
   obtain ⟨x39, h40, h41, h⟩ := h
   refine g_join (n := 94) [(26, (.bool x39)), (1, (.pointer (some (blk b9)))), (3, (.pointer (some (blk b13))))] (.succ (.succ (.succ (.succ (.zero _))))) ?_ ?_
   ·intro h36
    try clear h
    rcases Bool.eq_false_or_eq_true x32 with h35 | h35
    ·replace H := H.ch (t := 22) (b := true) rfl h35
     iterate 3 refine s_skip H (wantN H rfl rfl rfl) rfl (lt_ rfl) fun a H => ?_
     refine s_pickT H rfl rfl rfl (lt_ rfl) fun a H => ?_
     replace h := h41 h35
     subst h
     exact h36 _ (H.weaken ⟨rfl, rfl, rfl, trivial⟩)
    ·replace H := H.ch (t := 22) (b := false) rfl h35
     replace h := h40 h35
     refine s_fld H (wantG H rfl rfl) rfl fld_33_0 (lt_ rfl) fun a H => ?_
     obtain ⟨l37, hc38, h⟩ := h
     refine s_load (v := (.i l37)) H (wantG H rfl rfl) rfl one_2 hc38 (lt_ rfl) fun a H => s_bin H (wantG H rfl rfl) rfl rfl r_gtr (lt_ rfl) fun a H => s_pickF H rfl rfl rfl (lt_ rfl) fun a H => ?_
     subst h
     exact h36 _ (H.weaken ⟨rfl, rfl, rfl, trivial⟩)
   ·clear H a
    clear h40 h41
    intro a H
    refine s_move H rfl rfl (lt_ rfl) fun a H => ?_
    obtain ⟨x46, h47, h48, h⟩ := h
    refine g_join (n := 94) [(31, (.bool x46)), (1, (.pointer (some (blk b9)))), (3, (.pointer (some (blk b13))))] (.succ (.succ (.succ (.succ (.zero _))))) ?_ ?_
    ·intro h43
     try clear h
     rcases Bool.eq_false_or_eq_true x39 with h42 | h42
     ·replace H := H.ch (t := 27) (b := true) rfl h42
      iterate 3 refine s_skip H (wantN H rfl rfl rfl) rfl (lt_ rfl) fun a H => ?_
      refine s_pickT H rfl rfl rfl (lt_ rfl) fun a H => ?_
      replace h := h48 h42
      subst h
      exact h43 _ (H.weaken ⟨rfl, rfl, rfl, trivial⟩)
     ·replace H := H.ch (t := 27) (b := false) rfl h42
      replace h := h47 h42
      refine s_fld H (wantG H rfl rfl) rfl fld_33_1 (lt_ rfl) fun a H => ?_
      obtain ⟨l44, hc45, h⟩ := h
      refine s_load (v := (.i l44)) H (wantG H rfl rfl) rfl one_3 hc45 (lt_ rfl) fun a H => s_bin H (wantG H rfl rfl) rfl rfl r_lss (lt_ rfl) fun a H => s_pickF H rfl rfl rfl (lt_ rfl) fun a H => ?_
      subst h
      exact h43 _ (H.weaken ⟨rfl, rfl, rfl, trivial⟩)
    ·clear H a
     clear h47 h48
     intro a H
     refine s_move H rfl rfl (lt_ rfl) fun a H => ?_
     obtain ⟨x53, h54, h55, h⟩ := h
     refine g_join (n := 94) [(36, (.bool x53)), (1, (.pointer (some (blk b9))))] (.succ (.succ (.succ (.succ (.zero _))))) ?_ ?_
     ·intro h50
      try clear h
      rcases Bool.eq_false_or_eq_true x46 with h49 | h49
      ·replace H := H.ch (t := 32) (b := true) rfl h49
       iterate 3 refine s_skip H (wantN H rfl rfl rfl) rfl (lt_ rfl) fun a H => ?_
       refine s_pickT H rfl rfl rfl (lt_ rfl) fun a H => ?_
       replace h := h55 h49
       subst h
       exact h50 _ (H.weaken ⟨rfl, rfl, trivial⟩)
      ·replace H := H.ch (t := 32) (b := false) rfl h49
       replace h := h54 h49
       refine s_fld H (wantG H rfl rfl) rfl fld_33_1 (lt_ rfl) fun a H => ?_
       obtain ⟨l51, hc52, h⟩ := h
       refine s_load (v := (.i l51)) H (wantG H rfl rfl) rfl one_3 hc52 (lt_ rfl) fun a H => s_bin H (wantG H rfl rfl) rfl rfl r_gtr (lt_ rfl) fun a H => s_pickF H rfl rfl rfl (lt_ rfl) fun a H => ?_
       subst h
       exact h50 _ (H.weaken ⟨rfl, rfl, trivial⟩)
     ·clear H a
      clear h54 h55
      intro a H
      refine s_move H rfl rfl (lt_ rfl) fun a H => ?_
      obtain ⟨x60, h61, h62, h⟩ := h
      refine g_join (n := 94) [(43, (.bool x60)), (1, (.pointer (some (blk b9))))] (.succ (.succ (.succ (.succ (.succ (.succ (.zero _))))))) ?_ ?_
      ·intro h57
       try clear h
       rcases Bool.eq_false_or_eq_true x53 with h56 | h56
       ·replace H := H.ch (t := 37) (b := true) rfl h56
        iterate 5 refine s_skip H (wantN H rfl rfl rfl) rfl (lt_ rfl) fun a H => ?_
        refine s_pickT H rfl rfl rfl (lt_ rfl) fun a H => ?_
        replace h := h62 h56
        subst h
        exact h57 _ (H.weaken ⟨rfl, rfl, trivial⟩)
       ·replace H := H.ch (t := 37) (b := false) rfl h56
        replace h := h61 h56
        refine s_fld H (wantG H rfl rfl) rfl fld_38_2 (lt_ rfl) fun a H => s_fld H (wantG H rfl rfl) rfl fld_36_3 (lt_ rfl) fun a H => ?_
        obtain ⟨l58, hc59, h⟩ := h
        refine s_load (v := l58.v) H (wantG H rfl rfl) rfl one_34 hc59 (lt_ rfl) fun a H => s_blt H (wantG H rfl rfl) (H.args (vs := [l58.v]) rfl) (lt_ rfl) (fun cs => b_lenS (z := l58) sl_34) fun a H => s_bin H (wantG H rfl rfl) rfl rfl r_gtr (lt_ rfl) fun a H => s_pickF H rfl rfl rfl (lt_ rfl) fun a H => ?_
        subst h
        exact h57 _ (H.weaken ⟨rfl, rfl, trivial⟩)
      ·clear H a
       clear h61 h62
       intro a H
       refine c_nil <| hK18 _ _ <| c_cond H rfl (fun h63 => ?_) (fun h63 => ?_)
       ·replace h := h.1 h63
        refine c_seq fun K64 hK64 => c_reg <| s_assign H rfl rfl (lt_ rfl) fun a H => c_nil <| hK64 _ _ <| c_ret ?_
        exact e_ret1 H rfl rfl h
       ·replace h := h.2 h63
        refine c_skip <| hK17 _ _ <| c_seq fun K65 hK65 => c_seq fun K66 hK66 => c_reg <| s_fld H rfl rfl fld_38_0 (lt_ rfl) fun a H => ?_
        obtain ⟨l67, hc68, h⟩ := h
        refine s_load (v := (.i l67)) H rfl rfl one_3 hc68 (lt_ rfl) fun a H => c_nil <| hK66 _ _ <| c_block <| c_seq fun K69 hK69 => c_reg <| s_bin H rfl rfl rfl r_eql (lt_ rfl) fun a H => s_assign H rfl rfl (lt_ rfl) fun a H => c_nil <| hK69 _ _ <| c_cond H rfl (fun h70 => ?_) (fun h70 => ?_)
        ·replace h := h.1 h70
         refine c_seq fun K71 hK71 => c_reg <| s_fld H rfl rfl fld_38_2 (lt_ rfl) fun a H => s_fld H rfl rfl fld_36_1 (lt_ rfl) fun a H => ?_
         obtain ⟨l72, hc73, h⟩ := h
         refine s_load (v := (.bool l72)) H rfl rfl one_4 hc73 (lt_ rfl) fun a H => s_un H rfl rfl r_not (lt_ rfl) fun a H => s_move H rfl rfl (lt_ rfl) fun a H => ?_
         obtain ⟨x78, h79, h80, h⟩ := h
         refine g_join (n := 94) [(57, (.bool x78))] (.succ (.succ (.succ (.succ (.succ (.zero _)))))) ?_ ?_
         ·intro h75
          try clear h
          rcases Bool.eq_false_or_eq_true (!l72) with h74 | h74
          ·replace H := H.ch (t := 52) (b := true) rfl h74
           replace h := h79 h74
           refine s_fld H (wantG H rfl rfl) rfl fld_38_2 (lt_ rfl) fun a H => s_fld H (wantG H rfl rfl) rfl fld_36_2 (lt_ rfl) fun a H => ?_
           obtain ⟨l76, hc77, h⟩ := h
           refine s_load (v := (.bool l76)) H (wantG H rfl rfl) rfl one_4 hc77 (lt_ rfl) fun a H => s_un H (wantG H rfl rfl) rfl r_not (lt_ rfl) fun a H => s_pickT H rfl rfl rfl (lt_ rfl) fun a H => ?_
           subst h
           exact h75 _ (H.weaken ⟨rfl, trivial⟩)
          ·replace H := H.ch (t := 52) (b := false) rfl h74
           iterate 4 refine s_skip H (wantN H rfl rfl rfl) rfl (lt_ rfl) fun a H => ?_
           refine s_pickF H rfl rfl rfl (lt_ rfl) fun a H => ?_
           replace h := h80 h74
           subst h
           exact h75 _ (H.weaken ⟨rfl, trivial⟩)
         ·clear H a
          clear h79 h80
          intro a H
          refine s_assign H rfl rfl (lt_ rfl) fun a H => c_nil <| hK71 _ _ <| c_ret ?_
          exact e_ret1 H rfl rfl h
        ·replace h := h.2 h70
         refine c_seq fun K81 hK81 => c_reg <| s_bin H rfl rfl rfl r_eql (lt_ rfl) fun a H => s_assign H rfl rfl (lt_ rfl) fun a H => c_nil <| hK81 _ _ <| c_cond H rfl (fun h82 => ?_) (fun h82 => ?_)
         ·replace h := h.1 h82
          refine c_seq fun K83 hK83 => c_reg <| s_fld H rfl rfl fld_38_2 (lt_ rfl) fun a H => s_fld H rfl rfl fld_36_1 (lt_ rfl) fun a H => ?_
          obtain ⟨l84, hc85, h⟩ := h
          refine s_load (v := (.bool l84)) H rfl rfl one_4 hc85 (lt_ rfl) fun a H => s_un H rfl rfl r_not (lt_ rfl) fun a H => s_move H rfl rfl (lt_ rfl) fun a H => ?_
          obtain ⟨x90, h91, h92, h⟩ := h
          refine g_join (n := 94) [(69, (.bool x90)), (1, (.pointer (some (blk b9))))] (.succ (.succ (.succ (.succ (.succ (.zero _)))))) ?_ ?_
          ·intro h87
           try clear h
           rcases Bool.eq_false_or_eq_true (!l84) with h86 | h86
           ·replace H := H.ch (t := 64) (b := true) rfl h86
            replace h := h91 h86
            refine s_fld H (wantG H rfl rfl) rfl fld_38_2 (lt_ rfl) fun a H => s_fld H (wantG H rfl rfl) rfl fld_36_2 (lt_ rfl) fun a H => ?_
            obtain ⟨l88, hc89, h⟩ := h
            refine s_load (v := (.bool l88)) H (wantG H rfl rfl) rfl one_4 hc89 (lt_ rfl) fun a H => s_un H (wantG H rfl rfl) rfl r_not (lt_ rfl) fun a H => s_pickT H rfl rfl rfl (lt_ rfl) fun a H => ?_
            subst h
            exact h87 _ (H.weaken ⟨rfl, rfl, trivial⟩)
           ·replace H := H.ch (t := 64) (b := false) rfl h86
            iterate 4 refine s_skip H (wantN H rfl rfl rfl) rfl (lt_ rfl) fun a H => ?_
            refine s_pickF H rfl rfl rfl (lt_ rfl) fun a H => ?_
            replace h := h92 h86
            subst h
            exact h87 _ (H.weaken ⟨rfl, rfl, trivial⟩)
          ·clear H a
           clear h91 h92
           intro a H
           refine s_move H rfl rfl (lt_ rfl) fun a H => ?_
           obtain ⟨x97, h98, h99, h⟩ := h
           refine g_join (n := 94) [(76, (.bool x97))] (.succ (.succ (.succ (.succ (.succ (.succ (.zero _))))))) ?_ ?_
           ·intro h94
            try clear h
            rcases Bool.eq_false_or_eq_true x90 with h93 | h93
            ·replace H := H.ch (t := 70) (b := true) rfl h93
             replace h := h98 h93
             refine s_fld H (wantG H rfl rfl) rfl fld_38_2 (lt_ rfl) fun a H => s_fld H (wantG H rfl rfl) rfl fld_36_3 (lt_ rfl) fun a H => ?_
             obtain ⟨l95, hc96, h⟩ := h
             refine s_load (v := l95.v) H (wantG H rfl rfl) rfl one_34 hc96 (lt_ rfl) fun a H => s_blt H (wantG H rfl rfl) (H.args (vs := [l95.v]) rfl) (lt_ rfl) (fun cs => b_lenS (z := l95) sl_34) fun a H => s_bin H (wantG H rfl rfl) rfl rfl r_eql (lt_ rfl) fun a H => s_pickT H rfl rfl rfl (lt_ rfl) fun a H => ?_
             subst h
             exact h94 _ (H.weaken ⟨rfl, trivial⟩)
            ·replace H := H.ch (t := 70) (b := false) rfl h93
             iterate 5 refine s_skip H (wantN H rfl rfl rfl) rfl (lt_ rfl) fun a H => ?_
             refine s_pickF H rfl rfl rfl (lt_ rfl) fun a H => ?_
             replace h := h99 h93
             subst h
             exact h94 _ (H.weaken ⟨rfl, trivial⟩)
           ·clear H a
            clear h98 h99
            intro a H
            refine s_assign H rfl rfl (lt_ rfl) fun a H => c_nil <| hK83 _ _ <| c_ret ?_
            exact e_ret1 H rfl rfl h
         ·replace h := h.2 h82
          refine c_seq fun K100 hK100 => c_reg <| s_bin H rfl rfl rfl r_eql (lt_ rfl) fun a H => s_assign H rfl rfl (lt_ rfl) fun a H => c_nil <| hK100 _ _ <| c_cond H rfl (fun h101 => ?_) (fun h101 => ?_)
          ·replace h := h.1 h101
           refine c_seq fun K102 hK102 => c_reg <| s_fld H rfl rfl fld_38_2 (lt_ rfl) fun a H => s_fld H rfl rfl fld_36_2 (lt_ rfl) fun a H => ?_
           obtain ⟨l103, hc104, h⟩ := h
           refine s_load (v := (.bool l103)) H rfl rfl one_4 hc104 (lt_ rfl) fun a H => s_move H rfl rfl (lt_ rfl) fun a H => ?_
           obtain ⟨x116, h117, h118, h⟩ := h
           refine g_join (n := 94) [(93, (.bool x116))] (.succ (.succ (.succ (.succ (.succ (.succ (.succ (.succ (.succ (.succ (.succ (.zero _)))))))))))) ?_ ?_
           ·intro h106
            try clear h
            rcases Bool.eq_false_or_eq_true l103 with h105 | h105
            ·replace H := H.ch (t := 82) (b := true) rfl h105
             iterate 4 refine s_skip H (wantN H rfl rfl rfl) rfl (lt_ rfl) fun a H => ?_
             iterate 5 refine s_skip H (wantU H rfl rfl) rfl (lt_ rfl) fun a H => ?_
             refine s_skip H (wantN H rfl rfl rfl) rfl (lt_ rfl) fun a H => s_pickT H rfl rfl rfl (lt_ rfl) fun a H => ?_
             replace h := h118 h105
             subst h
             exact h106 _ (H.weaken ⟨rfl, trivial⟩)
            ·replace H := H.ch (t := 82) (b := false) rfl h105
             replace h := h117 h105
             refine s_fld H (wantG H rfl rfl) rfl fld_38_2 (lt_ rfl) fun a H => s_fld H (wantG H rfl rfl) rfl fld_36_1 (lt_ rfl) fun a H => ?_
             obtain ⟨l107, hc108, h⟩ := h
             refine s_load (v := (.bool l107)) H (wantG H rfl rfl) rfl one_4 hc108 (lt_ rfl) fun a H => s_move H (wantG H rfl rfl) rfl (lt_ rfl) fun a H => ?_
             obtain ⟨x113, h114, h115, h⟩ := h
             refine g_join (n := 94) [(92, (.bool x113)), (82, (.bool false))] (.succ (.succ (.succ (.succ (.succ (.succ (.zero _))))))) ?_ ?_
             ·intro h110
              try clear h
              rcases Bool.eq_false_or_eq_true l107 with h109 | h109
              ·replace H := H.ch (t := 86) (b := true) rfl h109
               replace h := h114 h109
               refine s_fld H (wantG H rfl rfl) rfl fld_38_2 (lt_ rfl) fun a H => s_fld H (wantG H rfl rfl) rfl fld_36_3 (lt_ rfl) fun a H => ?_
               obtain ⟨l111, hc112, h⟩ := h
               refine s_load (v := l111.v) H (wantG H rfl rfl) rfl one_34 hc112 (lt_ rfl) fun a H => s_blt H (wantG H rfl rfl) (H.args (vs := [l111.v]) rfl) (lt_ rfl) (fun cs => b_lenS (z := l111) sl_34) fun a H => s_bin H (wantG H rfl rfl) rfl rfl r_eql (lt_ rfl) fun a H => s_pickT H (wantG H rfl rfl) rfl rfl (lt_ rfl) fun a H => ?_
               subst h
               exact h110 _ (H.weaken ⟨rfl, rfl, trivial⟩)
              ·replace H := H.ch (t := 86) (b := false) rfl h109
               iterate 5 refine s_skip H (wantN H rfl rfl rfl) rfl (lt_ rfl) fun a H => ?_
               refine s_pickF H (wantG H rfl rfl) rfl rfl (lt_ rfl) fun a H => ?_
               replace h := h115 h109
               subst h
               exact h110 _ (H.weaken ⟨rfl, rfl, trivial⟩)
             ·clear H a
              clear h114 h115
              intro a H
              refine s_pickF H rfl rfl rfl (lt_ rfl) fun a H => ?_
              subst h
              exact h106 _ (H.weaken ⟨rfl, trivial⟩)
           ·clear H a
            clear h117 h118
            intro a H
            refine s_assign H rfl rfl (lt_ rfl) fun a H => c_nil <| hK102 _ _ <| c_ret ?_
            exact e_ret1 H rfl rfl h
          ·replace h := h.2 h101
           refine c_skip <| hK65 _ _ <| c_seq fun K119 hK119 => c_reg <| s_assign H rfl rfl (lt_ rfl) fun a H => c_nil <| hK119 _ _ <| c_ret ?_
           exact e_ret1 H rfl rfl h

theorem sim_sherdref15_Table_pre (t1 : Option Addr) (k2 : ByteArray) (C3 C4 : Int) (d5 : Slc) (w : World) (Q : Ending → World → Prop) (h : vc_sherdref15_Table_pre t1 k2 C3 C4 d5 w Q) : Calls PP F_sherdref15_Table_pre #[(.pointer t1), (.string k2), (.agg #[(.i C3), (.i C4)]), d5.v] w Q := by
 unfold vc_sherdref15_Table_pre at h
 refine enter (n := 65) Tryz.func56 rfl rfl (Nat.le_of_ble_eq_true rfl) fun a H => c_seq fun K6 hK6 => c_reg ?_
 replace h := h.get
 obtain ⟨b7, w8, n9, h⟩ := h
 refine s_box H rfl rfl (lt_ rfl) ?_
 rw [← n9.at_]
 clear H a
 intro a H
 refine n9.go <| s_assign H rfl rfl (lt_ rfl) fun a H => c_nil <| hK6 _ _ <| c_seq fun K10 hK10 => c_seq fun K11 hK11 => ?_
 replace H := H.weaken (L' := [(0, (.pointer t1)), (1, (.string k2)), (3, d5.v), (6, (.pointer (some (blk b7))))]) ⟨rfl, rfl, rfl, rfl, trivial⟩
 obtain ⟨C12, hc13, C14, hc15, h⟩ := h
 refine c_any (V := [(0, (.agg #[(.i C12), (.i C14)])), (1, (.pointer t1)), (2, (.string k2))]) (⟨[[], [], [], [1, 2], [0, 3]], [some 11, some 12, some 13, some 14, some 15], [3, 4], [0, 0, 0, 0, 1], [1, 0, 0, 1, 2]⟩ : Rg) [(0, (.pointer t1)), (1, (.string k2)), (3, d5.v), (6, (.pointer (some (blk b7))))] mixed (by kernel_rfl) H <| Stg.eff [0, 1, 2] (by kernel_rfl) rfl (.cons ?_ (.cons ?_ (.cons ?_ .nil))) ?_
 ·refine Ans.mk rfl rfl fun a H => s_loadN (l := [(.i C12), (.i C14)]) H rfl rfl agg_33 rfl ⟨hc13, hc15, trivial⟩ (lt_ rfl) fun a H => ?_
  exact Ans.fin H rfl
 ·refine Ans.mk rfl rfl fun a H => s_move H rfl rfl (lt_ rfl) fun a H => ?_
  exact Ans.fin H rfl
 ·refine Ans.mk rfl rfl fun a H => s_move H rfl rfl (lt_ rfl) fun a H => ?_
  exact Ans.fin H rfl
 ·intro a H
  replace H := H.weaken (L' := [(12, (.pointer t1)), (13, (.string k2))]) ⟨rfl, rfl, trivial⟩
  refine s_call H rfl body_20 (H.args (vs := [(.pointer t1), (.string k2)]) rfl) (lt_ rfl) h ?_ (fun c w' h H => e_panic (P := PP) (fn := Tryz.f56) H h)
  clear H h a
  rintro _ w16 a ⟨C17, C18, rfl, h⟩ H
  refine c_nil ?_
  obtain ⟨hc19, hc20, h⟩ := h
  refine effQ.go [] H rfl rfl <| Stg.eff [0] (by kernel_rfl) rfl (.cons ?_ .nil) ?_
  ·refine Ans.mk rfl rfl fun a H => s_loadN (l := [(.i C12), (.i C14)]) H rfl rfl agg_33 rfl ⟨hc19, hc20, trivial⟩ (lt_ rfl) fun a H => ?_
   exact Ans.fin H rfl
  ·intro a H
   replace H := H.weaken (L' := [(11, (.agg #[(.i C12), (.i C14)])), (14, (.agg #[(.i C17), (.i C18)]))]) ⟨rfl, rfl, trivial⟩
   refine s_call H rfl body_50 (H.args (vs := [(.agg #[(.i C12), (.i C14)]), (.agg #[(.i C17), (.i C18)])]) rfl) (lt_ rfl) h ?_ (fun c w' h H => e_panic (P := PP) (fn := Tryz.f56) H h)
   clear H h a
   rintro _ w21 a ⟨b22, rfl, h⟩ H
   refine c_nil <| effQ.go [] H rfl rfl <| Stg.fin [] (by kernel_rfl) .nil ?_
   ·intro a H
    replace H := H.weaken (L' := [(0, (.pointer t1)), (1, (.string k2)), (3, d5.v), (6, (.pointer (some (blk b7)))), (15, (.bool b22))]) ⟨rfl, rfl, rfl, rfl, rfl, trivial⟩
    refine hK11 _ _ <| c_cond H rfl (fun h23 => ?_) (fun h23 => ?_)
    ·replace h := h.1 h23
     refine c_seq fun K24 hK24 => c_reg <| s_assign H rfl rfl (lt_ rfl) fun a H => c_nil <| hK24 _ _ <| c_ret ?_
     exact e_ret1 H rfl rfl h
    ·replace h := h.2 h23
     refine c_skip <| hK10 _ _ <| c_seq fun K25 hK25 => c_reg ?_
     obtain ⟨C26, hc27, C28, hc29, h⟩ := h
     refine s_loadN (l := [(.i C26), (.i C28)]) H rfl rfl agg_33 rfl ⟨hc27, hc29, trivial⟩ (lt_ rfl) fun a H => s_move H rfl rfl (lt_ rfl) fun a H => s_build H rfl (by rw [H.parts (vs := [(0, (.agg #[(.i C26), (.i C28)])), (2, (.bool true)), (3, d5.v)]) rfl]; exact bd_36_ii64ii640_b2_s3 w21 C26 C28 true d5) (lt_ rfl) fun a H => ?_
     refine s_call H rfl body_12 (H.args (vs := [(.agg #[(.i C26), (.i C28), (.bool false), (.bool true), d5.v])]) rfl) (lt_ rfl) h ?_ (fun c w' h H => e_panic (P := PP) (fn := Tryz.f56) H h)
     clear H h a
     rintro _ w30 a ⟨C31, C32, F33, H34, D35, rfl, h⟩ H
     replace h := h.get
     obtain ⟨b36, w37, n38, h⟩ := h
     refine s_alloc H rfl zero_36 (lt_ rfl) ?_
     rw [← n38.at_]
     clear H a
     intro a H
     refine n38.go <| s_stoN (l := [(.i C31), (.i C32), (.bool F33), (.bool H34), D35.v]) H rfl rfl rfl rfl agg_36 rfl rfl h ?_
     clear h H
     intro w39 h H
     refine c_nil <| hK25 _ _ <| c_seq fun K40 hK40 => c_reg <| s_move H rfl rfl (lt_ rfl) fun a H => s_move H rfl rfl (lt_ rfl) fun a H => ?_
     obtain ⟨C41, hc42, C43, hc44, h⟩ := h
     refine s_loadN (l := [(.i C41), (.i C43)]) H rfl rfl agg_33 rfl ⟨hc42, hc44, trivial⟩ (lt_ rfl) fun a H => s_call H rfl body_42 (H.args (vs := [(.pointer t1), (.string k2), (.agg #[(.i C41), (.i C43)])]) rfl) (lt_ rfl) h ?_ (fun c w' h H => e_panic (P := PP) (fn := Tryz.f56) H h)
     clear H h a
     rintro _ w45 a ⟨p46, rfl, h⟩ H
     refine s_assign H rfl rfl (lt_ rfl) fun a H => c_nil <| hK40 _ _ <| c_seq fun K47 hK47 => c_seq fun K48 hK48 => c_reg <| s_move H rfl rfl (lt_ rfl) fun a H => s_bin H rfl rfl rfl r_lss (lt_ rfl) fun a H => c_nil <| hK48 _ _ <| c_cond H rfl (fun h49 => ?_) (fun h49 => ?_)
     ·replace h := h.1 h49
      refine c_seq fun K50 hK50 => ?_
      replace H := H.weaken (L' := [(0, (.pointer t1)), (1, (.string k2)), (9, (.pointer (some (blk b36))))]) ⟨rfl, rfl, rfl, trivial⟩
      obtain ⟨a51, h52, h⟩ := h
      revert H
      subst h52
      intro H
      obtain ⟨l53, hc54, C55, hc56, C57, hc58, F59, hc60, H61, hc62, D63, hc64, h⟩ := h
      refine c_any (V := [(0, (.pointer (some a51))), (1, (.pointer (some a51))), (2, (.pointer (some a51))), (3, (.pointer (some (a51.add 1)))), (4, l53.v), (5, (.string k2)), (6, (.agg #[(.i C55), (.i C57), (.bool F59), (.bool H61), D63.v])), (7, (.agg #[(.string k2), (.i C55), (.i C57), (.bool F59), (.bool H61), D63.v]))]) (⟨[[], [], [1], [2], [3], [], [], [5, 6], [7], [4, 8], [0, 1, 2, 3, 4, 5, 6, 7, 8, 9], [0, 1, 2, 3, 4, 5, 6, 7, 8, 9, 10], [0, 1, 2, 3, 4, 5, 6, 7, 8, 9, 11]], [some 26, some 27, some 28, some 29, some 30, some 31, some 32, some 33, some 34, some 35, some 36, some 37, none], [8, 9, 12], [0, 0, 0, 0, 0, 0, 0, 0, 0, 1, 2, 2, 2], [2, 1, 1, 1, 1, 0, 0, 0, 1, 2, 2, 2, 3]⟩ : Rg) [(0, (.pointer (some a51))), (1, (.string k2)), (9, (.pointer (some (blk b36))))] mixed (by kernel_rfl) H ?_
      refine Stg.eff [0, 1, 2, 3, 4, 5, 6, 7] (by kernel_rfl) rfl (.cons ?_ (.cons ?_ (.cons ?_ (.cons ?_ (.cons ?_ (.cons ?_ (.cons ?_ (.cons ?_ .nil)))))))) ?_
      ·refine Ans.mk rfl rfl fun a H => s_move H rfl rfl (lt_ rfl) fun a H => ?_
       exact Ans.fin H rfl
      ·refine Ans.mk rfl rfl fun a H => s_move H rfl rfl (lt_ rfl) fun a H => ?_
       exact Ans.fin H rfl
      ·refine Ans.mk rfl rfl fun a H => s_nil H rfl rfl (lt_ rfl) fun a H => ?_
       exact Ans.fin H rfl
      ·refine Ans.mk rfl rfl fun a H => s_fld H rfl rfl fld_49_1 (lt_ rfl) fun a H => ?_
       exact Ans.fin H rfl
      ·refine Ans.mk rfl rfl fun a H => s_load (v := l53.v) H rfl rfl one_47 hc54 (lt_ rfl) fun a H => ?_
       exact Ans.fin H rfl
      ·refine Ans.mk rfl rfl fun a H => s_move H rfl rfl (lt_ rfl) fun a H => ?_
       exact Ans.fin H rfl
      ·refine Ans.mk rfl rfl fun a H => s_loadN (l := [(.i C55), (.i C57), (.bool F59), (.bool H61), D63.v]) H rfl rfl agg_36 rfl ⟨hc56, hc58, hc60, hc62, hc64, trivial⟩ (lt_ rfl) fun a H => ?_
       exact Ans.fin H rfl
      ·refine Ans.mk rfl rfl fun a H => s_build H rfl (by rw [H.parts (vs := [(0, (.string k2)), (1, (.agg #[(.i C55), (.i C57), (.bool F59), (.bool H61), D63.v]))]) rfl]; exact bd_57_s0_ii64ii64bbs1 (w45.drewN 1) k2 C55 C57 F59 H61 D63) (lt_ rfl) fun a H => ?_
       exact Ans.fin H rfl
      ·intro a H
       replace H := H.weaken (L' := [(33, (.agg #[(.string k2), (.i C55), (.i C57), (.bool F59), (.bool H61), D63.v]))]) ⟨rfl, trivial⟩
       replace h := h.get
       obtain ⟨b65, w66, n67, h⟩ := h
       refine s_bslc H rfl (by rw [H.parts (vs := [(0, (.agg #[(.string k2), (.i C55), (.i C57), (.bool F59), (.bool H61), D63.v]))]) rfl]; exact bs_47_1_sii64ii64bbs0 (w45.drewN 1) k2 C55 C57 F59 H61 D63) (lt_ rfl) ?_
       rw [← n67.at_]
       clear H a
       intro a H
       refine n67.go <| c_nil ?_
       obtain ⟨hc68, h⟩ := h
       refine effQ.go [] H rfl rfl <| Stg.eff [0, 1, 2, 3, 4] (by kernel_rfl) rfl (.cons ?_ (.cons ?_ (.cons ?_ (.cons ?_ (.cons ?_ .nil))))) ?_
       ·refine Ans.mk rfl rfl fun a H => s_move H rfl rfl (lt_ rfl) fun a H => ?_
        exact Ans.fin H rfl
       ·refine Ans.mk rfl rfl fun a H => s_move H rfl rfl (lt_ rfl) fun a H => ?_
        exact Ans.fin H rfl
       ·refine Ans.mk rfl rfl fun a H => s_nil H rfl rfl (lt_ rfl) fun a H => ?_
        exact Ans.fin H rfl
       ·refine Ans.mk rfl rfl fun a H => s_fld H rfl rfl fld_49_1 (lt_ rfl) fun a H => ?_
        exact Ans.fin H rfl
       ·refine Ans.mk rfl rfl fun a H => s_load (v := l53.v) H rfl rfl one_47 hc68 (lt_ rfl) fun a H => ?_
        exact Ans.fin H rfl
       ·intro a H
        replace H := H.weaken (L' := [(30, l53.v), (34, (Slc.v (Slc.mk (some (blk b65)) 1 1)))]) ⟨rfl, rfl, trivial⟩
        obtain ⟨s69, w70, h71, h⟩ := h
        refine s_blt H rfl (H.args (vs := [l53.v, (Slc.v (Slc.mk (some (blk b65)) 1 1))]) rfl) (lt_ rfl) (fun cs => b_app (z := s69) h71) ?_
        clear H a h71
        intro a H
        refine c_nil <| effQ.go [(10, (.pointer (some a51))), (11, (.pointer (some (a51.add 1))))] H rfl rfl <| Stg.eff [0, 10, 11] (by kernel_rfl) rfl (.cons ?_ (.cons ?_ (.cons ?_ .nil))) ?_
        ·refine Ans.mk rfl rfl fun a H => s_move H rfl rfl (lt_ rfl) fun a H => ?_
         exact Ans.fin H rfl
        ·refine Ans.mk rfl rfl fun a H => s_nil H rfl rfl (lt_ rfl) fun a H => ?_
         exact Ans.fin H rfl
        ·refine Ans.mk rfl rfl fun a H => s_fld H rfl rfl fld_49_1 (lt_ rfl) fun a H => ?_
         exact Ans.fin H rfl
        ·intro a H
         replace H := H.weaken (L' := [(35, s69.v), (37, (.pointer (some (a51.add 1))))]) ⟨rfl, rfl, trivial⟩
         obtain ⟨h73, h74, h⟩ := h
         refine s_sto (p := a51.add 1) (v := s69.v) H rfl rfl rfl rfl one_47 rfl h73 h74 ?_
         clear H
         intro H
         generalize hww72 : World.setCell w70 (a51.add 1) s69.v = w72 at h ⊢
         have w72S : SetAt w70 (a51.add 1) s69.v w72 := ⟨hww72.symm⟩
         clear hww72 h73 h74
         refine c_nil <| effQ.go0 [] H rfl rfl <| Stg.fin [] (by kernel_rfl) .nil ?_
         ·intro a H
          replace H := H.weaken (L' := []) trivial
          refine hK50 _ _ <| c_seq fun K75 hK75 => c_reg <| s_assign H rfl rfl (lt_ rfl) fun a H => c_nil <| hK75 _ _ <| c_ret ?_
          exact e_ret1 H rfl rfl h
     ·replace h := h.2 h49
      refine c_skip <| hK47 _ _ <| c_seq fun K76 hK76 => c_seq fun K77 hK77 => c_reg <| s_move H rfl rfl (lt_ rfl) fun a H => ?_
      obtain ⟨a78, h120, h⟩ := h
      revert H
      subst h120
      intro H
      refine s_nil H rfl rfl (lt_ rfl) fun a H => s_fld H rfl rfl fld_49_1 (lt_ rfl) fun a H => ?_
      obtain ⟨l79, hc80, h⟩ := h
      refine s_load (v := l79.v) H rfl rfl one_47 hc80 (lt_ rfl) fun a H => s_move H rfl rfl (lt_ rfl) fun a H => ?_
      obtain ⟨a81, h82, h83, h84, h⟩ := h
      refine s_idxS (s := l79) H rfl rfl rfl slc_47 h82 h83 h84 (lt_ rfl) fun a H => s_fld H rfl rfl fld_57_1 (lt_ rfl) fun a H => s_fld H rfl rfl fld_36_2 (lt_ rfl) fun a H => ?_
      obtain ⟨l85, hc86, h⟩ := h
      refine s_load (v := (.bool l85)) H rfl rfl one_4 hc86 (lt_ rfl) fun a H => c_nil <| hK77 _ _ <| c_cond H rfl (fun h87 => ?_) (fun h87 => ?_)
      ·replace h := h.1 h87
       refine c_seq fun K88 hK88 => c_reg <| s_assign H rfl rfl (lt_ rfl) fun a H => c_nil <| hK88 _ _ <| c_ret ?_
       exact e_ret1 H rfl rfl h
      ·replace h := h.2 h87
       refine c_skip <| hK76 _ _ <| c_seq fun K89 hK89 => c_reg <| s_move H rfl rfl (lt_ rfl) fun a H => s_nil H rfl rfl (lt_ rfl) fun a H => s_fld H rfl rfl fld_49_1 (lt_ rfl) fun a H => ?_
       obtain ⟨l90, hc91, h⟩ := h
       refine s_load (v := l90.v) H rfl rfl one_47 hc91 (lt_ rfl) fun a H => s_move H rfl rfl (lt_ rfl) fun a H => ?_
       obtain ⟨a92, h93, h94, h95, h⟩ := h
       refine s_idxS (s := l90) H rfl rfl rfl slc_47 h93 h94 h95 (lt_ rfl) fun a H => s_fld H rfl rfl fld_57_1 (lt_ rfl) fun a H => s_fld H rfl rfl fld_36_1 (lt_ rfl) fun a H => ?_
       obtain ⟨l96, hc97, h⟩ := h
       refine s_load (v := (.bool l96)) H rfl rfl one_4 hc97 (lt_ rfl) fun a H => s_fld H rfl rfl fld_36_1 (lt_ rfl) fun a H => ?_
       obtain ⟨h99, h100, h⟩ := h
       refine s_sto (p := (blk b36).add 2) (v := (.bool l96)) H rfl rfl rfl rfl one_4 rfl h99 h100 ?_
       clear H
       intro H
       generalize hww98 : World.setCell w45 ((blk b36).add 2) (.bool l96) = w98 at h ⊢
       have w98S : SetAt w45 ((blk b36).add 2) (.bool l96) w98 := ⟨hww98.symm⟩
       clear hww98 h99 h100
       refine c_nil <| hK89 _ _ <| c_seq fun K101 hK101 => ?_
       replace H := H.weaken (L' := [(0, (.pointer (some a78))), (9, (.pointer (some (blk b36)))), (10, (.i p46))]) ⟨rfl, rfl, rfl, trivial⟩
       obtain ⟨l102, hc103, C104, hc105, C106, hc107, F108, hc109, H110, hc111, D112, hc113, a114, h115, h116, h117, h⟩ := h
       refine c_any (V := [(0, (.pointer (some a78))), (1, (.pointer (some a78))), (2, (.pointer (some (a78.add 1)))), (3, l102.v), (4, (.i p46)), (5, (.agg #[(.i C104), (.i C106), (.bool F108), (.bool H110), D112.v])), (6, (.pointer (some (a114.add (Int.toNat (p46) * 6))))), (7, (.pointer (some ((a114.add (Int.toNat (p46) * 6)).add 1))))]) (⟨[[], [0], [1], [2], [], [], [0, 1, 2, 3, 4, 5], [0, 1, 2, 3, 4, 5, 6], [0, 1, 2, 3, 4, 5, 7]], [some 57, some 58, some 59, some 60, some 61, some 62, some 63, some 64, none], [8], [0, 0, 0, 0, 0, 0, 0, 0, 0], [0, 0, 0, 0, 0, 0, 0, 0, 1]⟩ : Rg) [(0, (.pointer (some a78))), (9, (.pointer (some (blk b36)))), (10, (.i p46))] mixed (by kernel_rfl) H ?_
       refine Stg.eff [0, 1, 2, 3, 4, 5, 6, 7] (by kernel_rfl) rfl (.cons ?_ (.cons ?_ (.cons ?_ (.cons ?_ (.cons ?_ (.cons ?_ (.cons ?_ (.cons ?_ .nil)))))))) ?_
       ·refine Ans.mk rfl rfl fun a H => s_move H rfl rfl (lt_ rfl) fun a H => ?_
        exact Ans.fin H rfl
       ·refine Ans.mk rfl rfl fun a H => s_nil H rfl rfl (lt_ rfl) fun a H => ?_
        exact Ans.fin H rfl
       ·refine Ans.mk rfl rfl fun a H => s_fld H rfl rfl fld_49_1 (lt_ rfl) fun a H => ?_
        exact Ans.fin H rfl
       ·refine Ans.mk rfl rfl fun a H => s_load (v := l102.v) H rfl rfl one_47 hc103 (lt_ rfl) fun a H => ?_
        exact Ans.fin H rfl
       ·refine Ans.mk rfl rfl fun a H => s_move H rfl rfl (lt_ rfl) fun a H => ?_
        exact Ans.fin H rfl
       ·refine Ans.mk rfl rfl fun a H => s_loadN (l := [(.i C104), (.i C106), (.bool F108), (.bool H110), D112.v]) H rfl rfl agg_36 rfl ⟨hc105, hc107, hc109, hc111, hc113, trivial⟩ (lt_ rfl) fun a H => ?_
        exact Ans.fin H rfl
       ·refine Ans.mk rfl rfl fun a H => s_idxS (s := l102) H rfl rfl rfl slc_47 h115 h116 h117 (lt_ rfl) fun a H => ?_
        exact Ans.fin H rfl
       ·refine Ans.mk rfl rfl fun a H => s_fld H rfl rfl fld_57_1 (lt_ rfl) fun a H => ?_
        exact Ans.fin H rfl
       ·intro a H
        replace H := H.weaken (L' := [(62, (.agg #[(.i C104), (.i C106), (.bool F108), (.bool H110), D112.v])), (64, (.pointer (some ((a114.add (Int.toNat (p46) * 6)).add 1))))]) ⟨rfl, rfl, trivial⟩
        refine s_stoN (l := [(.i C104), (.i C106), (.bool F108), (.bool H110), D112.v]) H rfl rfl rfl rfl agg_36 rfl rfl h ?_
        clear h H
        intro w118 h H
        refine c_nil <| effQ.go0 [] H rfl rfl <| Stg.fin [] (by kernel_rfl) .nil ?_
        ·intro a H
         replace H := H.weaken (L' := []) trivial
         refine hK101 _ _ <| c_seq fun K119 hK119 => c_reg <| s_assign H rfl rfl (lt_ rfl) fun a H => c_nil <| hK119 _ _ <| c_ret ?_
         exact e_ret1 H rfl rfl h
end Go.Proofs.YtgnceldnfefnmaaGreat
