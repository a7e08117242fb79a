/-
  The conditions give the machine's calls; printed by vcgen.py.
-/
import Derived.Test.YtgnceldnfefnmaaGreatRecVc
namespace Go.Proofs.YtgnceldnfefnmaaGreat
open Go Go.Vc
set_option maxRecDepth 100000
set_option maxHeartbeats 4000000
theorem sim_sherdlaw15_sameUpdates (a1 b2 : Slc) (w : World) (Q : Ending → World → Prop) (h : vc_sherdlaw15_sameUpdates a1 b2 w Q) : Calls PP F_sherdlaw15_sameUpdates #[a1.v, b2.v] w Q := by
 unfold vc_sherdlaw15_sameUpdates at h
 refine enter (n := 55) Tryz.func32 rfl rfl (Nat.le_of_ble_eq_true rfl) fun a H => c_seq fun K3 hK3 => c_reg <| s_assign H rfl rfl (lt_ rfl) fun a H => c_nil <| hK3 _ _ <| c_seq fun K4 hK4 => c_seq fun K5 hK5 => c_reg <| s_move H rfl rfl (lt_ rfl) fun a H => s_blt H rfl (H.args (vs := [a1.v]) rfl) (lt_ rfl) (fun cs => b_lenS (z := a1) sl_73) fun a H => s_move H rfl rfl (lt_ rfl) fun a H => s_blt H rfl (H.args (vs := [b2.v]) rfl) (lt_ rfl) (fun cs => b_lenS (z := b2) sl_73) fun a H => ?_
 refine s_bin H rfl rfl rfl r_neq (lt_ rfl) fun a H => c_nil <| hK5 _ _ <| c_cond H rfl (fun h6 => ?_) (fun h6 => ?_)
 ·replace h := h.1 h6
  refine c_seq fun K7 hK7 => c_reg <| s_assign H rfl rfl (lt_ rfl) fun a H => c_nil <| hK7 _ _ <| c_ret ?_
  exact e_ret1 H rfl rfl h
 ·replace h := h.2 h6
  refine c_skip <| hK4 _ _ <| c_seq fun K8 hK8 => c_seq fun K9 hK9 => c_reg <| s_move H rfl rfl (lt_ rfl) fun a H => s_blt H rfl (H.args (vs := [a1.v]) rfl) (lt_ rfl) (fun cs => b_lenS (z := a1) sl_73) fun a H => s_move H rfl rfl (lt_ rfl) fun a H => c_nil <| hK9 _ _ <| c_block ?_
  obtain ⟨I12, m13, h88, h89⟩ := h
  refine c_loop (σ := Int) (fun z w => I12 z w) (fun z w => m13 z w) (fun z => [(0, a1.v), (1, b2.v), (12, (.i (a1.l : Int))), (13, (.i z))]) 0 h88 (H.weaken ⟨rfl, rfl, rfl, rfl, trivial⟩) ?_
  clear H h88
  rintro s10 a w11 h H
  replace h := h89 s10 w11 h
  clear h89
  replace H : Has 55 [] a [(0, a1.v), (1, b2.v), (12, (.i (a1.l : Int))), (13, (.i s10))] := H
  refine c_seq fun K14 hK14 => c_reg <| s_bin H rfl rfl rfl r_lss (lt_ rfl) fun a H => c_nil <| hK14 _ _ <| c_seq fun K15 hK15 => c_cond H rfl (fun h16 => ?_) (fun h16 => ?_)
  ·replace h := h.1 h16
   refine c_skip <| hK15 _ _ <| c_seq fun K17 hK17 => c_block <| c_seq fun K18 hK18 => c_reg <| s_move H rfl rfl (lt_ rfl) fun a H => s_assign H rfl rfl (lt_ rfl) fun a H => c_nil <| hK18 _ _ <| c_seq fun K19 hK19 => ?_
   obtain ⟨R21, h, h86⟩ := h
   have h25 : ∀ (a : Act) (s20 : Bool) (w22 : World), R21 s20 w22 → Has 55 [] a [(0, a1.v), (1, b2.v), (12, (.i (a1.l : Int))), (13, (.i s10)), (53, (.bool s20))] → K19 a w22 := by
    clear h
    intro a s20 w22 h H
    replace h := h86 s20 w22 h
    refine hK19 _ _ <| c_cond H rfl (fun h23 => ?_) (fun h23 => ?_)
    ·replace h := h.1 h23
     refine c_seq fun K24 hK24 => c_reg <| s_assign H rfl rfl (lt_ rfl) fun a H => c_nil <| hK24 _ _ <| c_ret ?_
     exact e_ret1 H rfl rfl h
    ·replace h := h.2 h23
     refine c_skip <| hK17 _ _ <| c_reg <| s_bin H rfl rfl rfl r_add (lt_ rfl) fun a H => s_move H rfl rfl (lt_ rfl) fun a H => c_nil <| Exists.intro (wr .i64 (s10 + 1)) ⟨h.1, h.2, H.weaken ⟨rfl, rfl, rfl, rfl, trivial⟩⟩
   clear h86
   replace H := H.weaken (L' := [(0, a1.v), (1, b2.v), (5, (.i s10)), (12, (.i (a1.l : Int))), (13, (.i s10))]) ⟨rfl, rfl, rfl, rfl, rfl, trivial⟩
   obtain ⟨a26, h27, h28, h29, l30, hc31, a32, h33, h34, h35, l36, hc37, h⟩ := h
   rcases Bool.eq_false_or_eq_true (decide (l30 ≠ l36)) with h38 | h38
   ·replace h := h.1 h38
    refine c_any (V := [(0, a1.v), (1, (.i s10)), (2, (.pointer (some (a26.add (Int.toNat (s10) * 7))))), (3, (.pointer (some ((a26.add (Int.toNat (s10) * 7)).add 0)))), (4, (.i l30)), (5, b2.v), (6, (.i s10)), (7, (.pointer (some (a32.add (Int.toNat (s10) * 7))))), (8, (.pointer (some ((a32.add (Int.toNat (s10) * 7)).add 0)))), (9, (.i l36)), (10, (.bool (decide (l30 ≠ l36)))), (11, (.bool (decide (l30 ≠ l36)))), (12, undef), (13, undef), (14, undef), (15, undef), (16, undef), (17, undef), (18, undef), (19, undef), (20, undef), (21, undef), (22, undef), (23, (.bool true)), (24, (.bool true)), (25, undef), (26, undef), (27, undef), (28, undef), (29, undef), (30, undef), (31, undef), (32, undef), (33, undef), (34, undef)]) (⟨[[], [], [0, 1], [2], [3], [], [], [5, 6], [7], [8], [4, 9], [10], [11], [11], [11, 12, 13], [11, 14], [11, 15], [11], [11], [11, 17, 18], [11, 19], [11, 20], [11, 16, 21], [11, 22], [11, 23], [24], [24], [24, 25, 26], [24, 27], [24, 28], [24], [24], [24, 30, 31], [24, 32], [24, 33], [24, 29, 34], [24, 35], [24, 36]], [some 16, some 17, some 18, some 19, some 20, some 21, some 22, some 23, some 24, some 25, some 26, some 27, some 28, some 29, some 30, some 31, some 32, some 33, some 34, some 35, some 36, some 37, some 38, some 39, some 40, some 41, some 42, some 43, some 44, some 45, some 46, some 47, some 48, some 49, some 50, some 51, some 52, some 53], [35], [0, 0, 0, 0, 0, 0, 0, 0, 0, 0, 0, 0, 0, 0, 0, 0, 0, 0, 0, 0, 0, 0, 0, 0, 0, 0, 0, 0, 0, 0, 0, 0, 0, 0, 0, 0, 1, 1], [0, 0, 0, 0, 0, 0, 0, 0, 0, 0, 0, 0, 0, 0, 0, 0, 0, 0, 0, 0, 0, 0, 0, 0, 0, 0, 0, 0, 0, 0, 0, 0, 0, 0, 0, 1, 1, 1]⟩ : Rg) [(0, a1.v), (1, b2.v), (5, (.i s10)), (12, (.i (a1.l : Int))), (13, (.i s10))] mixed (by kernel_rfl) H ?_
    refine Stg.eff [0, 1, 2, 3, 4, 5, 6, 7, 8, 9, 10, 11, 12, 13, 14, 15, 16, 17, 18, 19, 20, 21, 22, 23, 24, 25, 26, 27, 28, 29, 30, 31, 32, 33, 34] (by kernel_rfl) rfl (.cons ?_ (.cons ?_ (.cons ?_ (.cons ?_ (.cons ?_ (.cons ?_ (.cons ?_ (.cons ?_ (.cons ?_ (.cons ?_ (.cons ?_ (.cons ?_ (.cons ?_ (.cons ?_ (.cons ?_ (.cons ?_ (.cons ?_ (.cons ?_ (.cons ?_ (.cons ?_ (.cons ?_ (.cons ?_ (.cons ?_ (.cons ?_ (.cons ?_ (.cons ?_ (.cons ?_ (.cons ?_ (.cons ?_ (.cons ?_ (.cons ?_ (.cons ?_ (.cons ?_ (.cons ?_ (.cons ?_ .nil))))))))))))))))))))))))))))))))))) ?_
    ·refine Ans.mk rfl rfl fun a H => s_move H rfl rfl (lt_ rfl) fun a H => ?_
     exact Ans.fin H rfl
    ·refine Ans.mk rfl rfl fun a H => s_move H rfl rfl (lt_ rfl) fun a H => ?_
     exact Ans.fin H rfl
    ·refine Ans.mk rfl rfl fun a H => s_idxS (s := a1) H rfl rfl rfl slc_73 h27 h28 h29 (lt_ rfl) fun a H => ?_
     exact Ans.fin H rfl
    ·refine Ans.mk rfl rfl fun a H => s_fld H rfl rfl fld_38_0 (lt_ rfl) fun a H => ?_
     exact Ans.fin H rfl
    ·refine Ans.mk rfl rfl fun a H => s_load (v := (.i l30)) H rfl rfl one_3 hc31 (lt_ rfl) fun a H => ?_
     exact Ans.fin H rfl
    ·refine Ans.mk rfl rfl fun a H => s_move H rfl rfl (lt_ rfl) fun a H => ?_
     exact Ans.fin H rfl
    ·refine Ans.mk rfl rfl fun a H => s_move H rfl rfl (lt_ rfl) fun a H => ?_
     exact Ans.fin H rfl
    ·refine Ans.mk rfl rfl fun a H => s_idxS (s := b2) H rfl rfl rfl slc_73 h33 h34 h35 (lt_ rfl) fun a H => ?_
     exact Ans.fin H rfl
    ·refine Ans.mk rfl rfl fun a H => s_fld H rfl rfl fld_38_0 (lt_ rfl) fun a H => ?_
     exact Ans.fin H rfl
    ·refine Ans.mk rfl rfl fun a H => s_load (v := (.i l36)) H rfl rfl one_3 hc37 (lt_ rfl) fun a H => ?_
     exact Ans.fin H rfl
    ·refine Ans.mk rfl rfl fun a H => s_bin H rfl rfl rfl r_neq (lt_ rfl) fun a H => ?_
     exact Ans.fin H rfl
    ·refine Ans.mk rfl rfl fun a H => s_move H rfl rfl (lt_ rfl) fun a H => ?_
     exact Ans.fin H rfl
    ·exact .skip rfl rfl rfl rfl rfl rfl h38 rfl
    ·exact .skip rfl rfl rfl rfl rfl rfl h38 rfl
    ·exact .skip rfl rfl rfl rfl rfl rfl h38 rfl
    ·exact .skip rfl rfl rfl rfl rfl rfl h38 rfl
    ·exact .skip rfl rfl rfl rfl rfl rfl h38 rfl
    ·exact .skip rfl rfl rfl rfl rfl rfl h38 rfl
    ·exact .skip rfl rfl rfl rfl rfl rfl h38 rfl
    ·exact .skip rfl rfl rfl rfl rfl rfl h38 rfl
    ·exact .skip rfl rfl rfl rfl rfl rfl h38 rfl
    ·exact .skip rfl rfl rfl rfl rfl rfl h38 rfl
    ·exact .skip rfl rfl rfl rfl rfl rfl h38 rfl
    ·refine Ans.mk rfl rfl fun a H => ?_
     replace H := H.ch (t := 27) (b := true) rfl h38
     refine s_pickT H rfl rfl rfl (lt_ rfl) fun a H => ?_
     exact Ans.fin H rfl
    ·refine Ans.mk rfl rfl fun a H => s_move H rfl rfl (lt_ rfl) fun a H => ?_
     exact Ans.fin H rfl
    ·exact .skip rfl rfl rfl rfl rfl rfl rfl rfl
    ·exact .skip rfl rfl rfl rfl rfl rfl rfl rfl
    ·exact .skip rfl rfl rfl rfl rfl rfl rfl rfl
    ·exact .skip rfl rfl rfl rfl rfl rfl rfl rfl
    ·exact .skip rfl rfl rfl rfl rfl rfl rfl rfl
    ·exact .skip rfl rfl rfl rfl rfl rfl rfl rfl
    ·exact .skip rfl rfl rfl rfl rfl rfl rfl rfl
    ·exact .skip rfl rfl rfl rfl rfl rfl rfl rfl
    ·exact .skip rfl rfl rfl rfl rfl rfl rfl rfl
    ·exact .skip rfl rfl rfl rfl rfl rfl rfl rfl
    ·intro a H
     replace H := H.weaken (L' := [(40, (.bool true)), (45, undef), (50, undef)]) ⟨rfl, rfl, rfl, trivial⟩
     refine s_skip H (wantN H rfl rfl rfl) rfl (lt_ rfl) fun a H => c_nil <| effQ.go [(36, undef), (37, (.bool true))] H rfl rfl <| Stg.fin [36, 37] (by kernel_rfl) (.cons ?_ (.cons ?_ .nil)) ?_
     ·exact .skip rfl rfl rfl rfl rfl rfl rfl rfl
     ·refine Ans.mk rfl rfl fun a H => s_pickT H rfl rfl rfl (lt_ rfl) fun a H => ?_
      exact Ans.fin H rfl
     ·intro a H
      replace H := H.weaken (L' := [(0, a1.v), (1, b2.v), (12, (.i (a1.l : Int))), (13, (.i s10)), (53, (.bool true))]) ⟨rfl, rfl, rfl, rfl, rfl, trivial⟩
      exact h25 _ _ _ h (H.weaken ⟨rfl, rfl, rfl, rfl, rfl, trivial⟩)
   ·replace h := h.2 h38
    obtain ⟨a39, h40, h41, h42, l43, hc44, a45, h46, h47, h48, l49, hc50, h⟩ := h
    rcases Bool.eq_false_or_eq_true (decide (l43.toList ≠ l49.toList)) with h51 | h51
    ·replace h := h.1 h51
     refine c_any (V := [(0, a1.v), (1, (.i s10)), (2, (.pointer (some (a26.add (Int.toNat (s10) * 7))))), (3, (.pointer (some ((a26.add (Int.toNat (s10) * 7)).add 0)))), (4, (.i l30)), (5, b2.v), (6, (.i s10)), (7, (.pointer (some (a32.add (Int.toNat (s10) * 7))))), (8, (.pointer (some ((a32.add (Int.toNat (s10) * 7)).add 0)))), (9, (.i l36)), (10, (.bool (decide (l30 ≠ l36)))), (11, (.bool (decide (l30 ≠ l36)))), (12, a1.v), (13, (.i s10)), (14, (.pointer (some (a39.add (Int.toNat (s10) * 7))))), (15, (.pointer (some ((a39.add (Int.toNat (s10) * 7)).add 1)))), (16, (.string l43)), (17, b2.v), (18, (.i s10)), (19, (.pointer (some (a45.add (Int.toNat (s10) * 7))))), (20, (.pointer (some ((a45.add (Int.toNat (s10) * 7)).add 1)))), (21, (.string l49)), (22, (.bool (decide (l43.toList ≠ l49.toList)))), (23, (.bool (decide (l43.toList ≠ l49.toList)))), (24, (.bool (decide (l43.toList ≠ l49.toList)))), (25, undef), (26, undef), (27, undef), (28, undef), (29, undef), (30, undef), (31, undef), (32, undef), (33, undef), (34, undef)]) (⟨[[], [], [0, 1], [2], [3], [], [], [5, 6], [7], [8], [4, 9], [10], [11], [11], [11, 12, 13], [11, 14], [11, 15], [11], [11], [11, 17, 18], [11, 19], [11, 20], [11, 16, 21], [11, 22], [11, 23], [24], [24], [24, 25, 26], [24, 27], [24, 28], [24], [24], [24, 30, 31], [24, 32], [24, 33], [24, 29, 34], [24, 35], [24, 36]], [some 16, some 17, some 18, some 19, some 20, some 21, some 22, some 23, some 24, some 25, some 26, some 27, some 28, some 29, some 30, some 31, some 32, some 33, some 34, some 35, some 36, some 37, some 38, some 39, some 40, some 41, some 42, some 43, some 44, some 45, some 46, some 47, some 48, some 49, some 50, some 51, some 52, some 53], [35], [0, 0, 0, 0, 0, 0, 0, 0, 0, 0, 0, 0, 0, 0, 0, 0, 0, 0, 0, 0, 0, 0, 0, 0, 0, 0, 0, 0, 0, 0, 0, 0, 0, 0, 0, 0, 1, 1], [0, 0, 0, 0, 0, 0, 0, 0, 0, 0, 0, 0, 0, 0, 0, 0, 0, 0, 0, 0, 0, 0, 0, 0, 0, 0, 0, 0, 0, 0, 0, 0, 0, 0, 0, 1, 1, 1]⟩ : Rg) [(0, a1.v), (1, b2.v), (5, (.i s10)), (12, (.i (a1.l : Int))), (13, (.i s10))] mixed (by kernel_rfl) H ?_
     refine Stg.eff [0, 1, 2, 3, 4, 5, 6, 7, 8, 9, 10, 11, 12, 13, 14, 15, 16, 17, 18, 19, 20, 21, 22, 23, 24, 25, 26, 27, 28, 29, 30, 31, 32, 33, 34] (by kernel_rfl) rfl (.cons ?_ (.cons ?_ (.cons ?_ (.cons ?_ (.cons ?_ (.cons ?_ (.cons ?_ (.cons ?_ (.cons ?_ (.cons ?_ (.cons ?_ (.cons ?_ (.cons ?_ (.cons ?_ (.cons ?_ (.cons ?_ (.cons ?_ (.cons ?_ (.cons ?_ (.cons ?_ (.cons ?_ (.cons ?_ (.cons ?_ (.cons ?_ (.cons ?_ (.cons ?_ (.cons ?_ (.cons ?_ (.cons ?_ (.cons ?_ (.cons ?_ (.cons ?_ (.cons ?_ (.cons ?_ (.cons ?_ .nil))))))))))))))))))))))))))))))))))) ?_
     ·refine Ans.mk rfl rfl fun a H => s_move H rfl rfl (lt_ rfl) fun a H => ?_
      exact Ans.fin H rfl
     ·refine Ans.mk rfl rfl fun a H => s_move H rfl rfl (lt_ rfl) fun a H => ?_
      exact Ans.fin H rfl
     ·refine Ans.mk rfl rfl fun a H => s_idxS (s := a1) H rfl rfl rfl slc_73 h27 h28 h29 (lt_ rfl) fun a H => ?_
      exact Ans.fin H rfl
     ·refine Ans.mk rfl rfl fun a H => s_fld H rfl rfl fld_38_0 (lt_ rfl) fun a H => ?_
      exact Ans.fin H rfl
     ·refine Ans.mk rfl rfl fun a H => s_load (v := (.i l30)) H rfl rfl one_3 hc31 (lt_ rfl) fun a H => ?_
      exact Ans.fin H rfl
     ·refine Ans.mk rfl rfl fun a H => s_move H rfl rfl (lt_ rfl) fun a H => ?_
      exact Ans.fin H rfl
     ·refine Ans.mk rfl rfl fun a H => s_move H rfl rfl (lt_ rfl) fun a H => ?_
      exact Ans.fin H rfl
     ·refine Ans.mk rfl rfl fun a H => s_idxS (s := b2) H rfl rfl rfl slc_73 h33 h34 h35 (lt_ rfl) fun a H => ?_
      exact Ans.fin H rfl
     ·refine Ans.mk rfl rfl fun a H => s_fld H rfl rfl fld_38_0 (lt_ rfl) fun a H => ?_
      exact Ans.fin H rfl
     ·refine Ans.mk rfl rfl fun a H => s_load (v := (.i l36)) H rfl rfl one_3 hc37 (lt_ rfl) fun a H => ?_
      exact Ans.fin H rfl
     ·refine Ans.mk rfl rfl fun a H => s_bin H rfl rfl rfl r_neq (lt_ rfl) fun a H => ?_
      exact Ans.fin H rfl
     ·refine Ans.mk rfl rfl fun a H => s_move H rfl rfl (lt_ rfl) fun a H => ?_
      exact Ans.fin H rfl
     ·refine Ans.mk rfl rfl fun a H => ?_
      replace H := H.ch (t := 27) (b := false) rfl h38
      refine s_move H (wantG H rfl rfl) rfl (lt_ rfl) fun a H => ?_
      exact Ans.fin H rfl
     ·refine Ans.mk rfl rfl fun a H => ?_
      replace H := H.ch (t := 27) (b := false) rfl h38
      refine s_move H (wantG H rfl rfl) rfl (lt_ rfl) fun a H => ?_
      exact Ans.fin H rfl
     ·refine Ans.mk rfl rfl fun a H => ?_
      replace H := H.ch (t := 27) (b := false) rfl h38
      refine s_idxS (s := a1) H (wantG H rfl rfl) rfl rfl slc_73 h40 h41 h42 (lt_ rfl) fun a H => ?_
      exact Ans.fin H rfl
     ·refine Ans.mk rfl rfl fun a H => ?_
      replace H := H.ch (t := 27) (b := false) rfl h38
      refine s_fld H (wantG H rfl rfl) rfl fld_38_1 (lt_ rfl) fun a H => ?_
      exact Ans.fin H rfl
     ·refine Ans.mk rfl rfl fun a H => ?_
      replace H := H.ch (t := 27) (b := false) rfl h38
      refine s_load (v := (.string l43)) H (wantG H rfl rfl) rfl one_9 hc44 (lt_ rfl) fun a H => ?_
      exact Ans.fin H rfl
     ·refine Ans.mk rfl rfl fun a H => ?_
      replace H := H.ch (t := 27) (b := false) rfl h38
      refine s_move H (wantG H rfl rfl) rfl (lt_ rfl) fun a H => ?_
      exact Ans.fin H rfl
     ·refine Ans.mk rfl rfl fun a H => ?_
      replace H := H.ch (t := 27) (b := false) rfl h38
      refine s_move H (wantG H rfl rfl) rfl (lt_ rfl) fun a H => ?_
      exact Ans.fin H rfl
     ·refine Ans.mk rfl rfl fun a H => ?_
      replace H := H.ch (t := 27) (b := false) rfl h38
      refine s_idxS (s := b2) H (wantG H rfl rfl) rfl rfl slc_73 h46 h47 h48 (lt_ rfl) fun a H => ?_
      exact Ans.fin H rfl
     ·refine Ans.mk rfl rfl fun a H => ?_
      replace H := H.ch (t := 27) (b := false) rfl h38
      refine s_fld H (wantG H rfl rfl) rfl fld_38_1 (lt_ rfl) fun a H => ?_
      exact Ans.fin H rfl
     ·refine Ans.mk rfl rfl fun a H => ?_
      replace H := H.ch (t := 27) (b := false) rfl h38
      refine s_load (v := (.string l49)) H (wantG H rfl rfl) rfl one_9 hc50 (lt_ rfl) fun a H => ?_
      exact Ans.fin H rfl
     ·refine Ans.mk rfl rfl fun a H => ?_
      replace H := H.ch (t := 27) (b := false) rfl h38
      refine s_bin H (wantG H rfl rfl) rfl rfl r_neqS (lt_ rfl) fun a H => ?_
      exact Ans.fin H rfl
     ·refine Ans.mk rfl rfl fun a H => ?_
      replace H := H.ch (t := 27) (b := false) rfl h38
      refine s_pickF H rfl rfl rfl (lt_ rfl) fun a H => ?_
      exact Ans.fin H rfl
     ·refine Ans.mk rfl rfl fun a H => s_move H rfl rfl (lt_ rfl) fun a H => ?_
      exact Ans.fin H rfl
     ·exact .skip rfl rfl rfl rfl rfl rfl h51 rfl
     ·exact .skip rfl rfl rfl rfl rfl rfl h51 rfl
     ·exact .skip rfl rfl rfl rfl rfl rfl h51 rfl
     ·exact .skip rfl rfl rfl rfl rfl rfl h51 rfl
     ·exact .skip rfl rfl rfl rfl rfl rfl h51 rfl
     ·exact .skip rfl rfl rfl rfl rfl rfl h51 rfl
     ·exact .skip rfl rfl rfl rfl rfl rfl h51 rfl
     ·exact .skip rfl rfl rfl rfl rfl rfl h51 rfl
     ·exact .skip rfl rfl rfl rfl rfl rfl h51 rfl
     ·exact .skip rfl rfl rfl rfl rfl rfl h51 rfl
     ·intro a H
      replace H := H.weaken (L' := [(40, (.bool (decide (l43.toList ≠ l49.toList)))), (45, undef), (50, undef)]) ⟨rfl, rfl, rfl, trivial⟩
      replace H := H.ch (t := 40) (b := true) rfl h51
      refine s_skip H (wantN H rfl rfl rfl) rfl (lt_ rfl) fun a H => c_nil <| effQ.go [(36, undef), (37, (.bool true))] H rfl rfl <| Stg.fin [36, 37] (by kernel_rfl) (.cons ?_ (.cons ?_ .nil)) ?_
      ·exact .skip rfl rfl rfl rfl rfl rfl h51 rfl
      ·refine Ans.mk rfl rfl fun a H => ?_
       replace H := H.ch (t := 40) (b := true) rfl h51
       refine s_pickT H rfl rfl rfl (lt_ rfl) fun a H => ?_
       exact Ans.fin H rfl
      ·intro a H
       replace H := H.weaken (L' := [(0, a1.v), (1, b2.v), (12, (.i (a1.l : Int))), (13, (.i s10)), (53, (.bool true))]) ⟨rfl, rfl, rfl, rfl, rfl, trivial⟩
       exact h25 _ _ _ h (H.weaken ⟨rfl, rfl, rfl, rfl, rfl, trivial⟩)
    ·replace h := h.2 h51
     obtain ⟨a52, h53, h54, h55, C56, hc57, C58, hc59, F60, hc61, H62, hc63, D64, hc65, a66, h67, h68, h69, C70, hc71, C72, hc73, F74, hc75, H76, hc77, D78, hc79, h⟩ := h
     refine c_any (V := [(0, a1.v), (1, (.i s10)), (2, (.pointer (some (a26.add (Int.toNat (s10) * 7))))), (3, (.pointer (some ((a26.add (Int.toNat (s10) * 7)).add 0)))), (4, (.i l30)), (5, b2.v), (6, (.i s10)), (7, (.pointer (some (a32.add (Int.toNat (s10) * 7))))), (8, (.pointer (some ((a32.add (Int.toNat (s10) * 7)).add 0)))), (9, (.i l36)), (10, (.bool (decide (l30 ≠ l36)))), (11, (.bool (decide (l30 ≠ l36)))), (12, a1.v), (13, (.i s10)), (14, (.pointer (some (a39.add (Int.toNat (s10) * 7))))), (15, (.pointer (some ((a39.add (Int.toNat (s10) * 7)).add 1)))), (16, (.string l43)), (17, b2.v), (18, (.i s10)), (19, (.pointer (some (a45.add (Int.toNat (s10) * 7))))), (20, (.pointer (some ((a45.add (Int.toNat (s10) * 7)).add 1)))), (21, (.string l49)), (22, (.bool (decide (l43.toList ≠ l49.toList)))), (23, (.bool (decide (l43.toList ≠ l49.toList)))), (24, (.bool (decide (l43.toList ≠ l49.toList)))), (25, a1.v), (26, (.i s10)), (27, (.pointer (some (a52.add (Int.toNat (s10) * 7))))), (28, (.pointer (some ((a52.add (Int.toNat (s10) * 7)).add 2)))), (29, (.agg #[(.i C56), (.i C58), (.bool F60), (.bool H62), D64.v])), (30, b2.v), (31, (.i s10)), (32, (.pointer (some (a66.add (Int.toNat (s10) * 7))))), (33, (.pointer (some ((a66.add (Int.toNat (s10) * 7)).add 2)))), (34, (.agg #[(.i C70), (.i C72), (.bool F74), (.bool H76), D78.v]))]) (⟨[[], [], [0, 1], [2], [3], [], [], [5, 6], [7], [8], [4, 9], [10], [11], [11], [11, 12, 13], [11, 14], [11, 15], [11], [11], [11, 17, 18], [11, 19], [11, 20], [11, 16, 21], [11, 22], [11, 23], [24], [24], [24, 25, 26], [24, 27], [24, 28], [24], [24], [24, 30, 31], [24, 32], [24, 33], [24, 29, 34], [24, 35], [24, 36]], [some 16, some 17, some 18, some 19, some 20, some 21, some 22, some 23, some 24, some 25, some 26, some 27, some 28, some 29, some 30, some 31, some 32, some 33, some 34, some 35, some 36, some 37, some 38, some 39, some 40, some 41, some 42, some 43, some 44, some 45, some 46, some 47, some 48, some 49, some 50, some 51, some 52, some 53], [35], [0, 0, 0, 0, 0, 0, 0, 0, 0, 0, 0, 0, 0, 0, 0, 0, 0, 0, 0, 0, 0, 0, 0, 0, 0, 0, 0, 0, 0, 0, 0, 0, 0, 0, 0, 0, 1, 1], [0, 0, 0, 0, 0, 0, 0, 0, 0, 0, 0, 0, 0, 0, 0, 0, 0, 0, 0, 0, 0, 0, 0, 0, 0, 0, 0, 0, 0, 0, 0, 0, 0, 0, 0, 1, 1, 1]⟩ : Rg) [(0, a1.v), (1, b2.v), (5, (.i s10)), (12, (.i (a1.l : Int))), (13, (.i s10))] mixed (by kernel_rfl) H ?_
     refine Stg.eff [0, 1, 2, 3, 4, 5, 6, 7, 8, 9, 10, 11, 12, 13, 14, 15, 16, 17, 18, 19, 20, 21, 22, 23, 24, 25, 26, 27, 28, 29, 30, 31, 32, 33, 34] (by kernel_rfl) rfl (.cons ?_ (.cons ?_ (.cons ?_ (.cons ?_ (.cons ?_ (.cons ?_ (.cons ?_ (.cons ?_ (.cons ?_ (.cons ?_ (.cons ?_ (.cons ?_ (.cons ?_ (.cons ?_ (.cons ?_ (.cons ?_ (.cons ?_ (.cons ?_ (.cons ?_ (.cons ?_ (.cons ?_ (.cons ?_ (.cons ?_ (.cons ?_ (.cons ?_ (.cons ?_ (.cons ?_ (.cons ?_ (.cons ?_ (.cons ?_ (.cons ?_ (.cons ?_ (.cons ?_ (.cons ?_ (.cons ?_ .nil))))))))))))))))))))))))))))))))))) ?_
     ·refine Ans.mk rfl rfl fun a H => s_move H rfl rfl (lt_ rfl) fun a H => ?_
      exact Ans.fin H rfl
     ·refine Ans.mk rfl rfl fun a H => s_move H rfl rfl (lt_ rfl) fun a H => ?_
      exact Ans.fin H rfl
     ·refine Ans.mk rfl rfl fun a H => s_idxS (s := a1) H rfl rfl rfl slc_73 h27 h28 h29 (lt_ rfl) fun a H => ?_
      exact Ans.fin H rfl
     ·refine Ans.mk rfl rfl fun a H => s_fld H rfl rfl fld_38_0 (lt_ rfl) fun a H => ?_
      exact Ans.fin H rfl
     ·refine Ans.mk rfl rfl fun a H => s_load (v := (.i l30)) H rfl rfl one_3 hc31 (lt_ rfl) fun a H => ?_
      exact Ans.fin H rfl
     ·refine Ans.mk rfl rfl fun a H => s_move H rfl rfl (lt_ rfl) fun a H => ?_
      exact Ans.fin H rfl
     ·refine Ans.mk rfl rfl fun a H => s_move H rfl rfl (lt_ rfl) fun a H => ?_
      exact Ans.fin H rfl
     ·refine Ans.mk rfl rfl fun a H => s_idxS (s := b2) H rfl rfl rfl slc_73 h33 h34 h35 (lt_ rfl) fun a H => ?_
      exact Ans.fin H rfl
     ·refine Ans.mk rfl rfl fun a H => s_fld H rfl rfl fld_38_0 (lt_ rfl) fun a H => ?_
      exact Ans.fin H rfl
     ·refine Ans.mk rfl rfl fun a H => s_load (v := (.i l36)) H rfl rfl one_3 hc37 (lt_ rfl) fun a H => ?_
      exact Ans.fin H rfl
     ·refine Ans.mk rfl rfl fun a H => s_bin H rfl rfl rfl r_neq (lt_ rfl) fun a H => ?_
      exact Ans.fin H rfl
     ·refine Ans.mk rfl rfl fun a H => s_move H rfl rfl (lt_ rfl) fun a H => ?_
      exact Ans.fin H rfl
     ·refine Ans.mk rfl rfl fun a H => ?_
      replace H := H.ch (t := 27) (b := false) rfl h38
      refine s_move H (wantG H rfl rfl) rfl (lt_ rfl) fun a H => ?_
      exact Ans.fin H rfl
     ·refine Ans.mk rfl rfl fun a H => ?_
      replace H := H.ch (t := 27) (b := false) rfl h38
      refine s_move H (wantG H rfl rfl) rfl (lt_ rfl) fun a H => ?_
      exact Ans.fin H rfl
     ·refine Ans.mk rfl rfl fun a H => ?_
      replace H := H.ch (t := 27) (b := false) rfl h38
      refine s_idxS (s := a1) H (wantG H rfl rfl) rfl rfl slc_73 h40 h41 h42 (lt_ rfl) fun a H => ?_
      exact Ans.fin H rfl
     ·refine Ans.mk rfl rfl fun a H => ?_
      replace H := H.ch (t := 27) (b := false) rfl h38
      refine s_fld H (wantG H rfl rfl) rfl fld_38_1 (lt_ rfl) fun a H => ?_
      exact Ans.fin H rfl
     ·refine Ans.mk rfl rfl fun a H => ?_
      replace H := H.ch (t := 27) (b := false) rfl h38
      refine s_load (v := (.string l43)) H (wantG H rfl rfl) rfl one_9 hc44 (lt_ rfl) fun a H => ?_
      exact Ans.fin H rfl
     ·refine Ans.mk rfl rfl fun a H => ?_
      replace H := H.ch (t := 27) (b := false) rfl h38
      refine s_move H (wantG H rfl rfl) rfl (lt_ rfl) fun a H => ?_
      exact Ans.fin H rfl
     ·refine Ans.mk rfl rfl fun a H => ?_
      replace H := H.ch (t := 27) (b := false) rfl h38
      refine s_move H (wantG H rfl rfl) rfl (lt_ rfl) fun a H => ?_
      exact Ans.fin H rfl
     ·refine Ans.mk rfl rfl fun a H => ?_
      replace H := H.ch (t := 27) (b := false) rfl h38
      refine s_idxS (s := b2) H (wantG H rfl rfl) rfl rfl slc_73 h46 h47 h48 (lt_ rfl) fun a H => ?_
      exact Ans.fin H rfl
     ·refine Ans.mk rfl rfl fun a H => ?_
      replace H := H.ch (t := 27) (b := false) rfl h38
      refine s_fld H (wantG H rfl rfl) rfl fld_38_1 (lt_ rfl) fun a H => ?_
      exact Ans.fin H rfl
     ·refine Ans.mk rfl rfl fun a H => ?_
      replace H := H.ch (t := 27) (b := false) rfl h38
      refine s_load (v := (.string l49)) H (wantG H rfl rfl) rfl one_9 hc50 (lt_ rfl) fun a H => ?_
      exact Ans.fin H rfl
     ·refine Ans.mk rfl rfl fun a H => ?_
      replace H := H.ch (t := 27) (b := false) rfl h38
      refine s_bin H (wantG H rfl rfl) rfl rfl r_neqS (lt_ rfl) fun a H => ?_
      exact Ans.fin H rfl
     ·refine Ans.mk rfl rfl fun a H => ?_
      replace H := H.ch (t := 27) (b := false) rfl h38
      refine s_pickF H rfl rfl rfl (lt_ rfl) fun a H => ?_
      exact Ans.fin H rfl
     ·refine Ans.mk rfl rfl fun a H => s_move H rfl rfl (lt_ rfl) fun a H => ?_
      exact Ans.fin H rfl
     ·refine Ans.mk rfl rfl fun a H => ?_
      replace H := H.ch (t := 40) (b := false) rfl h51
      refine s_move H (wantG H rfl rfl) rfl (lt_ rfl) fun a H => ?_
      exact Ans.fin H rfl
     ·refine Ans.mk rfl rfl fun a H => ?_
      replace H := H.ch (t := 40) (b := false) rfl h51
      refine s_move H (wantG H rfl rfl) rfl (lt_ rfl) fun a H => ?_
      exact Ans.fin H rfl
     ·refine Ans.mk rfl rfl fun a H => ?_
      replace H := H.ch (t := 40) (b := false) rfl h51
      refine s_idxS (s := a1) H (wantG H rfl rfl) rfl rfl slc_73 h53 h54 h55 (lt_ rfl) fun a H => ?_
      exact Ans.fin H rfl
     ·refine Ans.mk rfl rfl fun a H => ?_
      replace H := H.ch (t := 40) (b := false) rfl h51
      refine s_fld H (wantG H rfl rfl) rfl fld_38_2 (lt_ rfl) fun a H => ?_
      exact Ans.fin H rfl
     ·refine Ans.mk rfl rfl fun a H => ?_
      replace H := H.ch (t := 40) (b := false) rfl h51
      refine s_loadN (l := [(.i C56), (.i C58), (.bool F60), (.bool H62), D64.v]) H (wantG H rfl rfl) rfl agg_36 rfl ⟨hc57, hc59, hc61, hc63, hc65, trivial⟩ (lt_ rfl) fun a H => ?_
      exact Ans.fin H rfl
     ·refine Ans.mk rfl rfl fun a H => ?_
      replace H := H.ch (t := 40) (b := false) rfl h51
      refine s_move H (wantG H rfl rfl) rfl (lt_ rfl) fun a H => ?_
      exact Ans.fin H rfl
     ·refine Ans.mk rfl rfl fun a H => ?_
      replace H := H.ch (t := 40) (b := false) rfl h51
      refine s_move H (wantG H rfl rfl) rfl (lt_ rfl) fun a H => ?_
      exact Ans.fin H rfl
     ·refine Ans.mk rfl rfl fun a H => ?_
      replace H := H.ch (t := 40) (b := false) rfl h51
      refine s_idxS (s := b2) H (wantG H rfl rfl) rfl rfl slc_73 h67 h68 h69 (lt_ rfl) fun a H => ?_
      exact Ans.fin H rfl
     ·refine Ans.mk rfl rfl fun a H => ?_
      replace H := H.ch (t := 40) (b := false) rfl h51
      refine s_fld H (wantG H rfl rfl) rfl fld_38_2 (lt_ rfl) fun a H => ?_
      exact Ans.fin H rfl
     ·refine Ans.mk rfl rfl fun a H => ?_
      replace H := H.ch (t := 40) (b := false) rfl h51
      refine s_loadN (l := [(.i C70), (.i C72), (.bool F74), (.bool H76), D78.v]) H (wantG H rfl rfl) rfl agg_36 rfl ⟨hc71, hc73, hc75, hc77, hc79, trivial⟩ (lt_ rfl) fun a H => ?_
      exact Ans.fin H rfl
     ·intro a H
      replace H := H.weaken (L' := [(40, (.bool (decide (l43.toList ≠ l49.toList)))), (45, (.agg #[(.i C56), (.i C58), (.bool F60), (.bool H62), D64.v])), (50, (.agg #[(.i C70), (.i C72), (.bool F74), (.bool H76), D78.v]))]) ⟨rfl, rfl, rfl, trivial⟩
      replace H := H.ch (t := 40) (b := false) rfl h51
      refine s_call H (wantG H rfl rfl) body_16 (H.args (vs := [(.agg #[(.i C56), (.i C58), (.bool F60), (.bool H62), D64.v]), (.agg #[(.i C70), (.i C72), (.bool F74), (.bool H76), D78.v])]) rfl) (lt_ rfl) h ?_ (fun c w' h H => e_panic (P := PP) (fn := Tryz.f32) H h)
      clear H h a
      rintro _ w80 a ⟨s81, rfl, h⟩ H
      refine c_nil <| effQ.go [(36, (.bool (!s81))), (37, (.bool (!s81)))] H rfl rfl <| Stg.fin [36, 37] (by kernel_rfl) (.cons ?_ (.cons ?_ .nil)) ?_
      ·refine Ans.mk rfl rfl fun a H => ?_
       replace H := H.ch (t := 40) (b := false) rfl h51
       refine s_un H (wantG H rfl rfl) rfl r_not (lt_ rfl) fun a H => ?_
       exact Ans.fin H rfl
      ·refine Ans.mk rfl rfl fun a H => ?_
       replace H := H.ch (t := 40) (b := false) rfl h51
       refine s_pickF H rfl rfl rfl (lt_ rfl) fun a H => ?_
       exact Ans.fin H rfl
      ·intro a H
       replace H := H.weaken (L' := [(0, a1.v), (1, b2.v), (12, (.i (a1.l : Int))), (13, (.i s10)), (53, (.bool (!s81)))]) ⟨rfl, rfl, rfl, rfl, rfl, trivial⟩
       exact h25 _ _ _ h (H.weaken ⟨rfl, rfl, rfl, rfl, rfl, trivial⟩)
  ·replace h := h.2 h16
   refine c_exit ?_
   first | (simp only [Exit.then, Exit.inBlock, ↓reduceIte]; fail_if_success simp only [Nat.reduceEqDiff]) | simp only [Exit.then, Exit.inBlock, ↓reduceIte, Nat.reduceEqDiff]
   refine hK8 _ _ <| c_seq fun K87 hK87 => c_reg <| s_assign H rfl rfl (lt_ rfl) fun a H => c_nil <| hK87 _ _ <| c_ret ?_
   exact e_ret1 H rfl rfl h

theorem sim_table_Table_Updates (t1 : Option Addr) (w : World) (Q : Ending → World → Prop) (h : vc_table_Table_Updates t1 w Q) : Calls PP F_table_Table_Updates #[(.pointer t1)] w Q := by
 unfold vc_table_Table_Updates at h
 refine enter (n := 32) Tryz.func33 rfl rfl (Nat.le_of_ble_eq_true rfl) fun a H => c_seq fun K2 hK2 => c_reg <| s_assign H rfl rfl (lt_ rfl) fun a H => c_nil <| hK2 _ _ <| c_seq fun K3 hK3 => c_reg <| s_assign H rfl rfl (lt_ rfl) fun a H => c_nil <| hK3 _ _ <| c_seq fun K4 hK4 => c_seq fun K5 hK5 => c_reg <| s_move H rfl rfl (lt_ rfl) fun a H => s_call H rfl body_30 (H.args (vs := [(.pointer t1)]) rfl) (lt_ rfl) h ?_ (fun c w' h H => e_panic (P := PP) (fn := Tryz.f33) H h)
 clear H h a
 rintro _ w6 a ⟨A7, rfl, h⟩ H
 refine s_blt H rfl (H.args (vs := [A7.v]) rfl) (lt_ rfl) (fun cs => b_lenS (z := A7) sl_70) fun a H => s_move H rfl rfl (lt_ rfl) fun a H => c_nil <| hK5 _ _ <| c_block ?_
 obtain ⟨I11, m12, h87, h88⟩ := h
 refine c_loop (σ := Slc × Int) (fun z w => I11 z.1 z.2 w) (fun z w => m12 z.1 z.2 w) (fun z => [(3, z.1.v), (9, A7.v), (10, (.i (A7.l : Int))), (11, (.i z.2))]) (Slc.nil, 0) h87 (H.weaken ⟨rfl, rfl, rfl, rfl, trivial⟩) ?_
 clear H h87
 rintro ⟨l8, s9⟩ a w10 h H
 replace h := h88 l8 s9 w10 h
 clear h88
 replace H : Has 32 [] a [(3, l8.v), (9, A7.v), (10, (.i (A7.l : Int))), (11, (.i s9))] := H
 refine c_seq fun K13 hK13 => c_reg <| s_bin H rfl rfl rfl r_lss (lt_ rfl) fun a H => c_nil <| hK13 _ _ <| c_seq fun K14 hK14 => c_cond H rfl (fun h15 => ?_) (fun h15 => ?_)
 ·replace h := h.1 h15
  refine c_skip <| hK14 _ _ <| c_seq fun K16 hK16 => ?_
  obtain ⟨R18, h, h85⟩ := h
  have h20 : ∀ (a : Act) (l17 : Slc) (w19 : World), R18 l17 w19 → Has 32 [] a [(3, l17.v), (9, A7.v), (10, (.i (A7.l : Int))), (11, (.i s9))] → K16 a w19 := by
   clear h
   intro a l17 w19 h H
   replace h := h85 l17 w19 h
   refine hK16 _ _ <| c_reg <| s_bin H rfl rfl rfl r_add (lt_ rfl) fun a H => s_move H rfl rfl (lt_ rfl) fun a H => c_nil <| Exists.intro (l17, wr .i64 (s9 + 1)) ⟨h.1, h.2, H.weaken ⟨rfl, rfl, rfl, rfl, trivial⟩⟩
  clear h85
  refine c_block <| c_seq fun K21 hK21 => c_reg ?_
  obtain ⟨a22, h23, h24, h25, h⟩ := h
  refine s_idxS (s := A7) H rfl rfl rfl slc_70 h23 h24 h25 (lt_ rfl) fun a H => ?_
  obtain ⟨K26, hc27, E28, hc29, h⟩ := h
  refine s_loadN (l := [(.string K26), E28.v]) H rfl rfl agg_92 rfl ⟨hc27, hc29, trivial⟩ (lt_ rfl) fun a H => ?_
  replace h := h.get
  obtain ⟨b30, w31, n32, h⟩ := h
  refine s_alloc H rfl zero_92 (lt_ rfl) ?_
  rw [← n32.at_]
  clear H a
  intro a H
  refine n32.go <| s_stoN (l := [(.string K26), E28.v]) H rfl rfl rfl rfl agg_92 rfl rfl h ?_
  clear h H
  intro w33 h H
  refine c_nil <| hK21 _ _ <| c_seq fun K34 hK34 => c_reg <| s_fld H rfl rfl fld_92_1 (lt_ rfl) fun a H => ?_
  obtain ⟨l35, hc36, h⟩ := h
  refine s_load (v := l35.v) H rfl rfl one_64 hc36 (lt_ rfl) fun a H => s_blt H rfl (H.args (vs := [l35.v]) rfl) (lt_ rfl) (fun cs => b_lenS (z := l35) sl_64) fun a H => s_move H rfl rfl (lt_ rfl) fun a H => c_nil <| hK34 _ _ <| c_block ?_
  obtain ⟨I40, m41, h83, h84⟩ := h
  refine c_loop (σ := Slc × Int) (fun z w => I40 z.1 z.2 w) (fun z w => m41 z.1 z.2 w) (fun z => [(3, z.1.v), (5, (.pointer (some (blk b30)))), (9, A7.v), (10, (.i (A7.l : Int))), (11, (.i s9)), (16, l35.v), (17, (.i (l35.l : Int))), (18, (.i z.2))]) (l8, 0) h83 (H.weaken ⟨rfl, rfl, rfl, rfl, rfl, rfl, rfl, rfl, trivial⟩) ?_
  clear H h83
  rintro ⟨l37, s38⟩ a w39 h H
  replace h := h84 l37 s38 w39 h
  clear h84
  replace H : Has 32 [] a [(3, l37.v), (5, (.pointer (some (blk b30)))), (9, A7.v), (10, (.i (A7.l : Int))), (11, (.i s9)), (16, l35.v), (17, (.i (l35.l : Int))), (18, (.i s38))] := H
  refine c_seq fun K42 hK42 => c_reg <| s_bin H rfl rfl rfl r_lss (lt_ rfl) fun a H => c_nil <| hK42 _ _ <| c_seq fun K43 hK43 => c_cond H rfl (fun h44 => ?_) (fun h44 => ?_)
  ·replace h := h.1 h44
   refine c_skip <| hK43 _ _ <| c_seq fun K45 hK45 => c_block <| c_seq fun K46 hK46 => c_reg ?_
   obtain ⟨a47, h48, h49, h50, h⟩ := h
   refine s_idxS (s := l35) H rfl rfl rfl slc_64 h48 h49 h50 (lt_ rfl) fun a H => ?_
   obtain ⟨C51, hc52, C53, hc54, F55, hc56, H57, hc58, D59, hc60, h⟩ := h
   refine s_loadN (l := [(.i C51), (.i C53), (.bool F55), (.bool H57), D59.v]) H rfl rfl agg_36 rfl ⟨hc52, hc54, hc56, hc58, hc60, trivial⟩ (lt_ rfl) fun a H => ?_
   replace h := h.get
   obtain ⟨b61, w62, n63, h⟩ := h
   refine s_alloc H rfl zero_36 (lt_ rfl) ?_
   rw [← n63.at_]
   clear H a
   intro a H
   refine n63.go <| s_stoN (l := [(.i C51), (.i C53), (.bool F55), (.bool H57), D59.v]) H rfl rfl rfl rfl agg_36 rfl rfl h ?_
   clear h H
   intro w64 h H
   refine c_nil <| hK46 _ _ <| c_reg <| s_move H rfl rfl (lt_ rfl) fun a H => s_fld H rfl rfl fld_92_0 (lt_ rfl) fun a H => ?_
   obtain ⟨l65, hc66, h⟩ := h
   refine s_load (v := (.string l65)) H rfl rfl one_9 hc66 (lt_ rfl) fun a H => ?_
   obtain ⟨C67, hc68, C69, hc70, F71, hc72, H73, hc74, D75, hc76, h⟩ := h
   refine s_loadN (l := [(.i C67), (.i C69), (.bool F71), (.bool H73), D75.v]) H rfl rfl agg_36 rfl ⟨hc68, hc70, hc72, hc74, hc76, trivial⟩ (lt_ rfl) fun a H => s_build H rfl (by rw [H.parts (vs := [(0, (.i 3)), (1, (.string l65)), (2, (.agg #[(.i C67), (.i C69), (.bool F71), (.bool H73), D75.v]))]) rfl]; exact bd_38_ii640_s1_ii64ii64bbs2 w64 3 l65 C67 C69 F71 H73 D75) (lt_ rfl) fun a H => ?_
   replace h := h.get
   obtain ⟨b77, w78, n79, h⟩ := h
   refine s_bslc H rfl (by rw [H.parts (vs := [(0, (.agg #[(.i 3), (.string l65), (.i C67), (.i C69), (.bool F71), (.bool H73), D75.v]))]) rfl]; exact bs_73_1_ii64sii64ii64bbs0 w64 3 l65 C67 C69 F71 H73 D75) (lt_ rfl) ?_
   rw [← n79.at_]
   clear H a
   intro a H
   refine n79.go ?_
   obtain ⟨s80, w81, h82, h⟩ := h
   refine s_blt H rfl (H.args (vs := [l37.v, (Slc.v (Slc.mk (some (blk b77)) 1 1))]) rfl) (lt_ rfl) (fun cs => b_app (z := s80) h82) ?_
   clear H a h82
   intro a H
   refine s_assign H rfl rfl (lt_ rfl) fun a H => c_nil <| hK45 _ _ <| c_reg <| s_bin H rfl rfl rfl r_add (lt_ rfl) fun a H => s_move H rfl rfl (lt_ rfl) fun a H => c_nil <| Exists.intro (s80, wr .i64 (s38 + 1)) ⟨h.1, h.2, H.weaken ⟨rfl, rfl, rfl, rfl, rfl, rfl, rfl, rfl, trivial⟩⟩
  ·replace h := h.2 h44
   refine c_exit ?_
   first | (simp only [Exit.then, Exit.inBlock, ↓reduceIte]; fail_if_success simp only [Nat.reduceEqDiff]) | simp only [Exit.then, Exit.inBlock, ↓reduceIte, Nat.reduceEqDiff]
   exact h20 _ _ _ h (H.weaken ⟨rfl, rfl, rfl, rfl, trivial⟩)
 ·replace h := h.2 h15
  refine c_exit ?_
  first | (simp only [Exit.then, Exit.inBlock, ↓reduceIte]; fail_if_success simp only [Nat.reduceEqDiff]) | simp only [Exit.then, Exit.inBlock, ↓reduceIte, Nat.reduceEqDiff]
  refine hK4 _ _ <| c_seq fun K86 hK86 => c_reg <| s_move H rfl rfl (lt_ rfl) fun a H => s_assign H rfl rfl (lt_ rfl) fun a H => c_nil <| hK86 _ _ <| c_ret ?_
  exact e_ret1 H rfl rfl h

theorem sim_sherdref15_Table_Updates (t1 : Option Addr) (w : World) (Q : Ending → World → Prop) (h : vc_sherdref15_Table_Updates t1 w Q) : Calls PP F_sherdref15_Table_Updates #[(.pointer t1)] w Q := by
 unfold vc_sherdref15_Table_Updates at h
 refine enter (n := 32) Tryz.func34 rfl rfl (Nat.le_of_ble_eq_true rfl) fun a H => c_seq fun K2 hK2 => c_reg <| s_assign H rfl rfl (lt_ rfl) fun a H => c_nil <| hK2 _ _ <| c_seq fun K3 hK3 => c_reg <| s_assign H rfl rfl (lt_ rfl) fun a H => c_nil <| hK3 _ _ <| c_seq fun K4 hK4 => c_seq fun K5 hK5 => c_reg <| s_move H rfl rfl (lt_ rfl) fun a H => s_call H rfl body_31 (H.args (vs := [(.pointer t1)]) rfl) (lt_ rfl) h ?_ (fun c w' h H => e_panic (P := PP) (fn := Tryz.f34) H h)
 clear H h a
 rintro _ w6 a ⟨A7, rfl, h⟩ H
 refine s_blt H rfl (H.args (vs := [A7.v]) rfl) (lt_ rfl) (fun cs => b_lenS (z := A7) sl_70) fun a H => s_move H rfl rfl (lt_ rfl) fun a H => c_nil <| hK5 _ _ <| c_block ?_
 obtain ⟨I11, m12, h87, h88⟩ := h
 refine c_loop (σ := Slc × Int) (fun z w => I11 z.1 z.2 w) (fun z w => m12 z.1 z.2 w) (fun z => [(3, z.1.v), (9, A7.v), (10, (.i (A7.l : Int))), (11, (.i z.2))]) (Slc.nil, 0) h87 (H.weaken ⟨rfl, rfl, rfl, rfl, trivial⟩) ?_
 clear H h87
 rintro ⟨o8, s9⟩ a w10 h H
 replace h := h88 o8 s9 w10 h
 clear h88
 replace H : Has 32 [] a [(3, o8.v), (9, A7.v), (10, (.i (A7.l : Int))), (11, (.i s9))] := H
 refine c_seq fun K13 hK13 => c_reg <| s_bin H rfl rfl rfl r_lss (lt_ rfl) fun a H => c_nil <| hK13 _ _ <| c_seq fun K14 hK14 => c_cond H rfl (fun h15 => ?_) (fun h15 => ?_)
 ·replace h := h.1 h15
  refine c_skip <| hK14 _ _ <| c_seq fun K16 hK16 => ?_
  obtain ⟨R18, h, h85⟩ := h
  have h20 : ∀ (a : Act) (o17 : Slc) (w19 : World), R18 o17 w19 → Has 32 [] a [(3, o17.v), (9, A7.v), (10, (.i (A7.l : Int))), (11, (.i s9))] → K16 a w19 := by
   clear h
   intro a o17 w19 h H
   replace h := h85 o17 w19 h
   refine hK16 _ _ <| c_reg <| s_bin H rfl rfl rfl r_add (lt_ rfl) fun a H => s_move H rfl rfl (lt_ rfl) fun a H => c_nil <| Exists.intro (o17, wr .i64 (s9 + 1)) ⟨h.1, h.2, H.weaken ⟨rfl, rfl, rfl, rfl, trivial⟩⟩
  clear h85
  refine c_block <| c_seq fun K21 hK21 => c_reg ?_
  obtain ⟨a22, h23, h24, h25, h⟩ := h
  refine s_idxS (s := A7) H rfl rfl rfl slc_70 h23 h24 h25 (lt_ rfl) fun a H => ?_
  obtain ⟨K26, hc27, E28, hc29, h⟩ := h
  refine s_loadN (l := [(.string K26), E28.v]) H rfl rfl agg_92 rfl ⟨hc27, hc29, trivial⟩ (lt_ rfl) fun a H => ?_
  replace h := h.get
  obtain ⟨b30, w31, n32, h⟩ := h
  refine s_alloc H rfl zero_92 (lt_ rfl) ?_
  rw [← n32.at_]
  clear H a
  intro a H
  refine n32.go <| s_stoN (l := [(.string K26), E28.v]) H rfl rfl rfl rfl agg_92 rfl rfl h ?_
  clear h H
  intro w33 h H
  refine c_nil <| hK21 _ _ <| c_seq fun K34 hK34 => c_reg <| s_fld H rfl rfl fld_92_1 (lt_ rfl) fun a H => ?_
  obtain ⟨l35, hc36, h⟩ := h
  refine s_load (v := l35.v) H rfl rfl one_64 hc36 (lt_ rfl) fun a H => s_blt H rfl (H.args (vs := [l35.v]) rfl) (lt_ rfl) (fun cs => b_lenS (z := l35) sl_64) fun a H => s_move H rfl rfl (lt_ rfl) fun a H => c_nil <| hK34 _ _ <| c_block ?_
  obtain ⟨I40, m41, h83, h84⟩ := h
  refine c_loop (σ := Slc × Int) (fun z w => I40 z.1 z.2 w) (fun z w => m41 z.1 z.2 w) (fun z => [(3, z.1.v), (5, (.pointer (some (blk b30)))), (9, A7.v), (10, (.i (A7.l : Int))), (11, (.i s9)), (16, l35.v), (17, (.i (l35.l : Int))), (18, (.i z.2))]) (o8, 0) h83 (H.weaken ⟨rfl, rfl, rfl, rfl, rfl, rfl, rfl, rfl, trivial⟩) ?_
  clear H h83
  rintro ⟨o37, s38⟩ a w39 h H
  replace h := h84 o37 s38 w39 h
  clear h84
  replace H : Has 32 [] a [(3, o37.v), (5, (.pointer (some (blk b30)))), (9, A7.v), (10, (.i (A7.l : Int))), (11, (.i s9)), (16, l35.v), (17, (.i (l35.l : Int))), (18, (.i s38))] := H
  refine c_seq fun K42 hK42 => c_reg <| s_bin H rfl rfl rfl r_lss (lt_ rfl) fun a H => c_nil <| hK42 _ _ <| c_seq fun K43 hK43 => c_cond H rfl (fun h44 => ?_) (fun h44 => ?_)
  ·replace h := h.1 h44
   refine c_skip <| hK43 _ _ <| c_seq fun K45 hK45 => c_block <| c_seq fun K46 hK46 => c_reg ?_
   obtain ⟨a47, h48, h49, h50, h⟩ := h
   refine s_idxS (s := l35) H rfl rfl rfl slc_64 h48 h49 h50 (lt_ rfl) fun a H => ?_
   obtain ⟨C51, hc52, C53, hc54, F55, hc56, H57, hc58, D59, hc60, h⟩ := h
   refine s_loadN (l := [(.i C51), (.i C53), (.bool F55), (.bool H57), D59.v]) H rfl rfl agg_36 rfl ⟨hc52, hc54, hc56, hc58, hc60, trivial⟩ (lt_ rfl) fun a H => ?_
   replace h := h.get
   obtain ⟨b61, w62, n63, h⟩ := h
   refine s_alloc H rfl zero_36 (lt_ rfl) ?_
   rw [← n63.at_]
   clear H a
   intro a H
   refine n63.go <| s_stoN (l := [(.i C51), (.i C53), (.bool F55), (.bool H57), D59.v]) H rfl rfl rfl rfl agg_36 rfl rfl h ?_
   clear h H
   intro w64 h H
   refine c_nil <| hK46 _ _ <| c_reg <| s_move H rfl rfl (lt_ rfl) fun a H => s_fld H rfl rfl fld_92_0 (lt_ rfl) fun a H => ?_
   obtain ⟨l65, hc66, h⟩ := h
   refine s_load (v := (.string l65)) H rfl rfl one_9 hc66 (lt_ rfl) fun a H => ?_
   obtain ⟨C67, hc68, C69, hc70, F71, hc72, H73, hc74, D75, hc76, h⟩ := h
   refine s_loadN (l := [(.i C67), (.i C69), (.bool F71), (.bool H73), D75.v]) H rfl rfl agg_36 rfl ⟨hc68, hc70, hc72, hc74, hc76, trivial⟩ (lt_ rfl) fun a H => s_build H rfl (by rw [H.parts (vs := [(0, (.i 3)), (1, (.string l65)), (2, (.agg #[(.i C67), (.i C69), (.bool F71), (.bool H73), D75.v]))]) rfl]; exact bd_38_ii640_s1_ii64ii64bbs2 w64 3 l65 C67 C69 F71 H73 D75) (lt_ rfl) fun a H => ?_
   replace h := h.get
   obtain ⟨b77, w78, n79, h⟩ := h
   refine s_bslc H rfl (by rw [H.parts (vs := [(0, (.agg #[(.i 3), (.string l65), (.i C67), (.i C69), (.bool F71), (.bool H73), D75.v]))]) rfl]; exact bs_73_1_ii64sii64ii64bbs0 w64 3 l65 C67 C69 F71 H73 D75) (lt_ rfl) ?_
   rw [← n79.at_]
   clear H a
   intro a H
   refine n79.go ?_
   obtain ⟨s80, w81, h82, h⟩ := h
   refine s_blt H rfl (H.args (vs := [o37.v, (Slc.v (Slc.mk (some (blk b77)) 1 1))]) rfl) (lt_ rfl) (fun cs => b_app (z := s80) h82) ?_
   clear H a h82
   intro a H
   refine s_assign H rfl rfl (lt_ rfl) fun a H => c_nil <| hK45 _ _ <| c_reg <| s_bin H rfl rfl rfl r_add (lt_ rfl) fun a H => s_move H rfl rfl (lt_ rfl) fun a H => c_nil <| Exists.intro (s80, wr .i64 (s38 + 1)) ⟨h.1, h.2, H.weaken ⟨rfl, rfl, rfl, rfl, rfl, rfl, rfl, rfl, trivial⟩⟩
  ·replace h := h.2 h44
   refine c_exit ?_
   first | (simp only [Exit.then, Exit.inBlock, ↓reduceIte]; fail_if_success simp only [Nat.reduceEqDiff]) | simp only [Exit.then, Exit.inBlock, ↓reduceIte, Nat.reduceEqDiff]
   exact h20 _ _ _ h (H.weaken ⟨rfl, rfl, rfl, rfl, trivial⟩)
 ·replace h := h.2 h15
  refine c_exit ?_
  first | (simp only [Exit.then, Exit.inBlock, ↓reduceIte]; fail_if_success simp only [Nat.reduceEqDiff]) | simp only [Exit.then, Exit.inBlock, ↓reduceIte, Nat.reduceEqDiff]
  refine hK4 _ _ <| c_seq fun K86 hK86 => c_reg <| s_move H rfl rfl (lt_ rfl) fun a H => s_assign H rfl rfl (lt_ rfl) fun a H => c_nil <| hK86 _ _ <| c_ret ?_
  exact e_ret1 H rfl rfl h

theorem sim_table_Table_Apply (t1 : Option Addr) (K2 : Int) (K3 : ByteArray) (C4 C5 : Int) (F6 H7 : Bool) (D8 : Slc) (w : World) (Q : Ending → World → Prop) (h : vc_table_Table_Apply t1 K2 K3 C4 C5 F6 H7 D8 w Q) : Calls PP F_table_Table_Apply #[(.pointer t1), (.agg #[(.i K2), (.string K3), (.i C4), (.i C5), (.bool F6), (.bool H7), D8.v])] w Q := by
 unfold vc_table_Table_Apply at h
 refine enter (n := 58) Tryz.func35 rfl rfl (Nat.le_of_ble_eq_true rfl) fun a H => c_seq fun K9 hK9 => c_reg ?_
 replace h := h.get
 obtain ⟨b10, w11, n12, h⟩ := h
 refine s_box H rfl rfl (lt_ rfl) ?_
 rw [← n12.at_]
 clear H a
 intro a H
 refine n12.go <| s_assign H rfl rfl (lt_ rfl) fun a H => s_assign H rfl rfl (lt_ rfl) fun a H => c_nil <| hK9 _ _ <| c_seq fun K13 hK13 => c_seq fun K14 hK14 => c_reg <| s_move H rfl rfl (lt_ rfl) fun a H => s_bin H rfl rfl rfl (r_eqP0 ptr_23) (lt_ rfl) fun a H => c_nil <| hK14 _ _ <| c_cond H rfl (fun h15 => ?_) (fun h15 => ?_)
 ·replace h := h.1 h15
  refine c_seq fun K16 hK16 => c_reg <| s_assign H rfl rfl (lt_ rfl) fun a H => s_assign H rfl rfl (lt_ rfl) fun a H => c_nil <| hK16 _ _ <| c_ret ?_
  exact e_ret2 H rfl rfl rfl h
 ·replace h := h.2 h15
  refine c_skip <| hK13 _ _ <| c_seq fun K17 hK17 => c_seq fun K18 hK18 => c_reg <| s_loadN (l := [(.i K2), (.string K3), (.i C4), (.i C5), (.bool F6), (.bool H7), D8.v]) H rfl rfl agg_38 rfl ⟨(n12.cell (i := 0) rfl), (n12.cell (i := 1) rfl), (n12.cell (i := 2) rfl), (n12.cell (i := 3) rfl), (n12.cell (i := 4) rfl), (n12.cell (i := 5) rfl), (n12.cell (i := 6) rfl), trivial⟩ (lt_ rfl) fun a H => ?_
  refine s_call H rfl body_52 (H.args (vs := [(.agg #[(.i K2), (.string K3), (.i C4), (.i C5), (.bool F6), (.bool H7), D8.v])]) rfl) (lt_ rfl) h ?_ (fun c w' h H => e_panic (P := PP) (fn := Tryz.f35) H h)
  clear H h a
  rintro _ w19 a ⟨m20, rfl, h⟩ H
  refine s_un H rfl rfl r_not (lt_ rfl) fun a H => c_nil <| hK18 _ _ <| c_cond H rfl (fun h21 => ?_) (fun h21 => ?_)
  ·replace h := h.1 h21
   refine c_seq fun K22 hK22 => c_reg <| s_assign H rfl rfl (lt_ rfl) fun a H => s_assign H rfl rfl (lt_ rfl) fun a H => c_nil <| hK22 _ _ <| c_ret ?_
   exact e_ret2 H rfl rfl rfl h
  ·replace h := h.2 h21
   refine c_skip <| hK17 _ _ <| c_seq fun K23 hK23 => c_reg <| s_assign H rfl rfl (lt_ rfl) fun a H => c_nil <| hK23 _ _ <| c_seq fun K24 hK24 => ?_
   obtain ⟨R26, h, h104⟩ := h
   have h71 : ∀ (a : Act) (c25 : Bool) (w27 : World), R26 c25 w27 → Has 58 [] a [(0, (.pointer t1)), (3, (.pointer (some (blk b10)))), (6, (.bool c25))] → K24 a w27 := by
    clear h
    intro a c25 w27 h H
    replace h := h104 c25 w27 h
    refine hK24 _ _ <| c_seq fun K28 hK28 => ?_
    obtain ⟨R30, h, h70⟩ := h
    have h33 : ∀ (a : Act) (c29 : Bool) (w31 : World), R30 c29 w31 → Has 58 [] a [(6, (.bool c29))] → K28 a w31 := by
     clear h
     intro a c29 w31 h H
     replace h := h70 c29 w31 h
     refine hK28 _ _ <| c_seq fun K32 hK32 => c_reg <| s_move H rfl rfl (lt_ rfl) fun a H => s_assign H rfl rfl (lt_ rfl) fun a H => s_assign H rfl rfl (lt_ rfl) fun a H => c_nil <| hK32 _ _ <| c_ret ?_
     exact e_ret2 H rfl rfl rfl h
    clear h70
    refine c_seq fun K34 hK34 => c_reg <| s_fld H rfl rfl fld_38_0 (lt_ rfl) fun a H => ?_
    obtain ⟨l35, hc36, h⟩ := h
    refine s_load (v := (.i l35)) H rfl rfl one_3 hc36 (lt_ rfl) fun a H => s_bin H rfl rfl rfl r_eql (lt_ rfl) fun a H => s_move H rfl rfl (lt_ rfl) fun a H => ?_
    obtain ⟨x48, h49, h50, h⟩ := h
    refine g_join (n := 58) [(47, (.bool x48)), (0, (.pointer t1)), (3, (.pointer (some (blk b10)))), (6, (.bool c25))] (.succ (.succ (.succ (.succ (.succ (.succ (.succ (.succ (.succ (.zero _)))))))))) ?_ ?_
    ·intro h38
     try clear h
     rcases Bool.eq_false_or_eq_true (decide (l35 = 2)) with h37 | h37
     ·replace H := H.ch (t := 38) (b := true) rfl h37
      iterate 4 refine s_skip H (wantN H rfl rfl rfl) rfl (lt_ rfl) fun a H => ?_
      iterate 3 refine s_skip H (wantU H rfl rfl) rfl (lt_ rfl) fun a H => ?_
      refine s_skip H (wantN H rfl rfl rfl) rfl (lt_ rfl) fun a H => s_pickT H rfl rfl rfl (lt_ rfl) fun a H => ?_
      replace h := h50 h37
      subst h
      exact h38 _ (H.weaken ⟨rfl, rfl, rfl, rfl, trivial⟩)
     ·replace H := H.ch (t := 38) (b := false) rfl h37
      replace h := h49 h37
      refine s_fld H (wantG H rfl rfl) rfl fld_38_0 (lt_ rfl) fun a H => ?_
      obtain ⟨l39, hc40, h⟩ := h
      refine s_load (v := (.i l39)) H (wantG H rfl rfl) rfl one_3 hc40 (lt_ rfl) fun a H => s_bin H (wantG H rfl rfl) rfl rfl r_eql (lt_ rfl) fun a H => s_move H (wantG H rfl rfl) rfl (lt_ rfl) fun a H => ?_
      obtain ⟨x45, h46, h47, h⟩ := h
      refine g_join (n := 58) [(46, (.bool x45)), (0, (.pointer t1)), (3, (.pointer (some (blk b10)))), (6, (.bool c25)), (38, (.bool false))] (.succ (.succ (.succ (.succ (.zero _))))) ?_ ?_
      ·intro h42
       try clear h
       rcases Bool.eq_false_or_eq_true (decide (l39 = 3)) with h41 | h41
       ·replace H := H.ch (t := 42) (b := true) rfl h41
        replace h := h46 h41
        refine s_fld H (wantG H rfl rfl) rfl fld_38_2 (lt_ rfl) fun a H => s_fld H (wantG H rfl rfl) rfl fld_36_1 (lt_ rfl) fun a H => ?_
        obtain ⟨l43, hc44, h⟩ := h
        refine s_load (v := (.bool l43)) H (wantG H rfl rfl) rfl one_4 hc44 (lt_ rfl) fun a H => s_pickT H (wantG H rfl rfl) rfl rfl (lt_ rfl) fun a H => ?_
        subst h
        exact h42 _ (H.weaken ⟨rfl, rfl, rfl, rfl, rfl, trivial⟩)
       ·replace H := H.ch (t := 42) (b := false) rfl h41
        iterate 3 refine s_skip H (wantN H rfl rfl rfl) rfl (lt_ rfl) fun a H => ?_
        refine s_pickF H (wantG H rfl rfl) rfl rfl (lt_ rfl) fun a H => ?_
        replace h := h47 h41
        subst h
        exact h42 _ (H.weaken ⟨rfl, rfl, rfl, rfl, rfl, trivial⟩)
      ·clear H a
       clear h46 h47
       intro a H
       refine s_pickF H rfl rfl rfl (lt_ rfl) fun a H => ?_
       subst h
       exact h38 _ (H.weaken ⟨rfl, rfl, rfl, rfl, trivial⟩)
    ·clear H a
     clear h49 h50
     intro a H
     refine s_move H rfl rfl (lt_ rfl) fun a H => ?_
     obtain ⟨R53, h, h69⟩ := h
     refine g_joinW (n := 58) R53 (fun x54 => [(56, (.bool x54)), (6, (.bool c25))]) (.succ (.succ (.succ (.succ (.succ (.succ (.succ (.succ (.zero _))))))))) ?_ ?_
     ·intro h52
      clear h69
      rcases Bool.eq_false_or_eq_true x48 with h51 | h51
      ·replace H := H.ch (t := 48) (b := true) rfl h51
       replace h := h.1 h51
       refine s_move H (wantG H rfl rfl) rfl (lt_ rfl) fun a H => s_fld H (wantG H rfl rfl) rfl fld_38_1 (lt_ rfl) fun a H => ?_
       obtain ⟨l56, hc57, h⟩ := h
       refine s_load (v := (.string l56)) H (wantG H rfl rfl) rfl one_9 hc57 (lt_ rfl) fun a H => s_fld H (wantG H rfl rfl) rfl fld_38_2 (lt_ rfl) fun a H => s_fld H (wantG H rfl rfl) rfl fld_36_0 (lt_ rfl) fun a H => ?_
       obtain ⟨C58, hc59, C60, hc61, h⟩ := h
       refine s_loadN (l := [(.i C58), (.i C60)]) H (wantG H rfl rfl) rfl agg_33 rfl ⟨hc59, hc61, trivial⟩ (lt_ rfl) fun a H => s_call H (wantG H rfl rfl) body_54 (H.args (vs := [(.pointer t1), (.string l56), (.agg #[(.i C58), (.i C60)])]) rfl) (lt_ rfl) h ?_ (fun c w' h H => e_panic (P := PP) (fn := Tryz.f35) H h)
       clear H h a
       rintro _ w62 a ⟨f63, rfl, h⟩ H
       refine s_pickT H rfl rfl rfl (lt_ rfl) fun a H => ?_
       exact h52 _ _ _ h (H.weaken ⟨rfl, rfl, trivial⟩)
      ·replace H := H.ch (t := 48) (b := false) rfl h51
       replace h := h.2 h51
       iterate 7 refine s_skip H (wantN H rfl rfl rfl) rfl (lt_ rfl) fun a H => ?_
       refine s_pickF H rfl rfl rfl (lt_ rfl) fun a H => ?_
       exact h52 _ _ _ h (H.weaken ⟨rfl, rfl, trivial⟩)
     ·clear H a h
      intro a x54 w55 h H
      replace h := h69 x54 w55 h
      clear h69
      refine c_nil <| hK34 _ _ <| c_cond H rfl (fun h68 => ?_) (fun h68 => ?_)
      ·replace h := h.1 h68
       refine c_reg <| s_assign H rfl rfl (lt_ rfl) fun a H => c_nil ?_
       exact h33 _ _ _ h (H.weaken ⟨rfl, trivial⟩)
      ·replace h := h.2 h68
       refine c_skip ?_
       exact h33 _ _ _ h (H.weaken ⟨rfl, trivial⟩)
   clear h104
   refine c_seq fun K72 hK72 => c_reg <| s_fld H rfl rfl fld_38_0 (lt_ rfl) fun a H => ?_
   obtain ⟨l73, hc74, h⟩ := h
   refine s_load (v := (.i l73)) H rfl rfl one_3 hc74 (lt_ rfl) fun a H => s_bin H rfl rfl rfl r_eql (lt_ rfl) fun a H => s_move H rfl rfl (lt_ rfl) fun a H => ?_
   obtain ⟨x86, h87, h88, h⟩ := h
   refine g_join (n := 58) [(24, (.bool x86)), (0, (.pointer t1)), (3, (.pointer (some (blk b10)))), (6, (.bool false))] (.succ (.succ (.succ (.succ (.succ (.succ (.succ (.succ (.succ (.zero _)))))))))) ?_ ?_
   ·intro h76
    try clear h
    rcases Bool.eq_false_or_eq_true (decide (l73 = 1)) with h75 | h75
    ·replace H := H.ch (t := 15) (b := true) rfl h75
     iterate 4 refine s_skip H (wantN H rfl rfl rfl) rfl (lt_ rfl) fun a H => ?_
     iterate 3 refine s_skip H (wantU H rfl rfl) rfl (lt_ rfl) fun a H => ?_
     refine s_skip H (wantN H rfl rfl rfl) rfl (lt_ rfl) fun a H => s_pickT H rfl rfl rfl (lt_ rfl) fun a H => ?_
     replace h := h88 h75
     subst h
     exact h76 _ (H.weaken ⟨rfl, rfl, rfl, rfl, trivial⟩)
    ·replace H := H.ch (t := 15) (b := false) rfl h75
     replace h := h87 h75
     refine s_fld H (wantG H rfl rfl) rfl fld_38_0 (lt_ rfl) fun a H => ?_
     obtain ⟨l77, hc78, h⟩ := h
     refine s_load (v := (.i l77)) H (wantG H rfl rfl) rfl one_3 hc78 (lt_ rfl) fun a H => s_bin H (wantG H rfl rfl) rfl rfl r_eql (lt_ rfl) fun a H => s_move H (wantG H rfl rfl) rfl (lt_ rfl) fun a H => ?_
     obtain ⟨x83, h84, h85, h⟩ := h
     refine g_join (n := 58) [(23, (.bool x83)), (0, (.pointer t1)), (3, (.pointer (some (blk b10)))), (6, (.bool false)), (15, (.bool false))] (.succ (.succ (.succ (.succ (.zero _))))) ?_ ?_
     ·intro h80
      try clear h
      rcases Bool.eq_false_or_eq_true (decide (l77 = 3)) with h79 | h79
      ·replace H := H.ch (t := 19) (b := true) rfl h79
       replace h := h84 h79
       refine s_fld H (wantG H rfl rfl) rfl fld_38_2 (lt_ rfl) fun a H => s_fld H (wantG H rfl rfl) rfl fld_36_2 (lt_ rfl) fun a H => ?_
       obtain ⟨l81, hc82, h⟩ := h
       refine s_load (v := (.bool l81)) H (wantG H rfl rfl) rfl one_4 hc82 (lt_ rfl) fun a H => s_pickT H (wantG H rfl rfl) rfl rfl (lt_ rfl) fun a H => ?_
       subst h
       exact h80 _ (H.weaken ⟨rfl, rfl, rfl, rfl, rfl, trivial⟩)
      ·replace H := H.ch (t := 19) (b := false) rfl h79
       iterate 3 refine s_skip H (wantN H rfl rfl rfl) rfl (lt_ rfl) fun a H => ?_
       refine s_pickF H (wantG H rfl rfl) rfl rfl (lt_ rfl) fun a H => ?_
       replace h := h85 h79
       subst h
       exact h80 _ (H.weaken ⟨rfl, rfl, rfl, rfl, rfl, trivial⟩)
     ·clear H a
      clear h84 h85
      intro a H
      refine s_pickF H rfl rfl rfl (lt_ rfl) fun a H => ?_
      subst h
      exact h76 _ (H.weaken ⟨rfl, rfl, rfl, rfl, trivial⟩)
   ·clear H a
    clear h87 h88
    intro a H
    refine c_nil <| hK72 _ _ <| c_cond H rfl (fun h89 => ?_) (fun h89 => ?_)
    ·replace h := h.1 h89
     refine c_reg <| s_move H rfl rfl (lt_ rfl) fun a H => s_fld H rfl rfl fld_38_1 (lt_ rfl) fun a H => ?_
     obtain ⟨l90, hc91, h⟩ := h
     refine s_load (v := (.string l90)) H rfl rfl one_9 hc91 (lt_ rfl) fun a H => s_fld H rfl rfl fld_38_2 (lt_ rfl) fun a H => s_fld H rfl rfl fld_36_0 (lt_ rfl) fun a H => ?_
     obtain ⟨C92, hc93, C94, hc95, h⟩ := h
     refine s_loadN (l := [(.i C92), (.i C94)]) H rfl rfl agg_33 rfl ⟨hc93, hc95, trivial⟩ (lt_ rfl) fun a H => s_fld H rfl rfl fld_38_2 (lt_ rfl) fun a H => s_fld H rfl rfl fld_36_3 (lt_ rfl) fun a H => ?_
     obtain ⟨l96, hc97, h⟩ := h
     refine s_load (v := l96.v) H rfl rfl one_34 hc97 (lt_ rfl) fun a H => s_call H rfl body_53 (H.args (vs := [(.pointer t1), (.string l90), (.agg #[(.i C92), (.i C94)]), l96.v]) rfl) (lt_ rfl) h ?_ (fun c w' h H => e_panic (P := PP) (fn := Tryz.f35) H h)
     clear H h a
     rintro _ w98 a ⟨p99, rfl, h⟩ H
     refine s_assign H rfl rfl (lt_ rfl) fun a H => c_nil ?_
     exact h71 _ _ _ h (H.weaken ⟨rfl, rfl, rfl, trivial⟩)
    ·replace h := h.2 h89
     refine c_skip ?_
     exact h71 _ _ _ h (H.weaken ⟨rfl, rfl, rfl, trivial⟩)

theorem sim_slices_Clone (s1 : Slc) (w : World) (Q : Ending → World → Prop) (h : vc_slices_Clone s1 w Q) : Calls PP F_slices_Clone #[s1.v] w Q := by
 unfold vc_slices_Clone at h
 refine enter (n := 8) Tryz.func36 rfl rfl (Nat.le_of_ble_eq_true rfl) fun a H => c_seq fun K2 hK2 => c_reg <| s_assign H rfl rfl (lt_ rfl) fun a H => c_nil <| hK2 _ _ <| c_seq fun K3 hK3 => c_seq fun K4 hK4 => c_reg <| s_move H rfl rfl (lt_ rfl) fun a H => s_bin H rfl rfl rfl (r_eqS0 (z := s1) sl_34) (lt_ rfl) fun a H => c_nil <| hK4 _ _ <| c_cond H rfl (fun h5 => ?_) (fun h5 => ?_)
 ·replace h := h.1 h5
  refine c_seq fun K6 hK6 => c_reg <| s_assign H rfl rfl (lt_ rfl) fun a H => c_nil <| hK6 _ _ <| c_ret ?_
  exact e_ret1 H rfl rfl h
 ·replace h := h.2 h5
  refine c_skip <| hK3 _ _ <| c_seq fun K7 hK7 => c_reg ?_
  replace h := h.get
  obtain ⟨b8, w9, n10, h⟩ := h
  refine s_bslc H rfl (by rw [H.parts (vs := []) rfl]; exact bs_34_0 w) (lt_ rfl) ?_
  rw [← n10.at_]
  clear H a
  intro a H
  refine n10.go <| s_move H rfl rfl (lt_ rfl) fun a H => ?_
  obtain ⟨s11, w12, h13, h⟩ := h
  refine s_blt H rfl (H.args (vs := [(Slc.v (Slc.mk (some (blk b8)) 0 0)), s1.v]) rfl) (lt_ rfl) (fun cs => b_app (z := s11) h13) ?_
  clear H a h13
  intro a H
  refine s_assign H rfl rfl (lt_ rfl) fun a H => c_nil <| hK7 _ _ <| c_ret ?_
  exact e_ret1 H rfl rfl h

theorem sim_sherdlaw15_roomy (K1 : Int) (K2 : ByteArray) (C3 C4 : Int) (F5 H6 : Bool) (D7 : Slc) (w : World) (Q : Ending → World → Prop) (h : vc_sherdlaw15_roomy K1 K2 C3 C4 F5 H6 D7 w Q) : Calls PP F_sherdlaw15_roomy #[(.agg #[(.i K1), (.string K2), (.i C3), (.i C4), (.bool F5), (.bool H6), D7.v])] w Q := by
 unfold vc_sherdlaw15_roomy at h
 refine enter (n := 20) Tryz.func37 rfl rfl (Nat.le_of_ble_eq_true rfl) fun a H => c_seq fun K8 hK8 => c_reg ?_
 replace h := h.get
 obtain ⟨b9, w10, n11, h⟩ := h
 refine s_box H rfl rfl (lt_ rfl) ?_
 rw [← n11.at_]
 clear H a
 intro a H
 refine n11.go ?_
 replace h := h.get
 obtain ⟨b12, w13, n14, h⟩ := h
 refine s_alloc H rfl zero_38 (lt_ rfl) ?_
 rw [← n14.at_]
 clear H a
 intro a H
 refine n14.go <| c_nil <| hK8 _ _ <| c_seq fun K15 hK15 => c_reg <| s_assign H rfl rfl (lt_ rfl) fun a H => c_nil <| hK15 _ _ <| c_seq fun K16 hK16 => c_reg <| s_move H rfl rfl (lt_ rfl) fun a H => s_fld H rfl rfl fld_38_2 (lt_ rfl) fun a H => s_fld H rfl rfl fld_36_3 (lt_ rfl) fun a H => s_load (v := D7.v) H rfl rfl one_34 (n14.old (n11.cell (i := 6) rfl)) (lt_ rfl) fun a H => ?_
 obtain ⟨s17, w18, h19, h⟩ := h
 refine s_blt H rfl (H.args (vs := [Slc.nil.v, D7.v]) rfl) (lt_ rfl) (fun cs => b_app (z := s17) h19) ?_
 clear H a h19
 intro a H
 refine s_assign H rfl rfl (lt_ rfl) fun a H => c_nil <| hK16 _ _ <| c_seq fun K20 hK20 => ?_
 replace H := H.weaken (L' := [(1, (.pointer (some (blk b9)))), (2, (.pointer (some (blk b12)))), (3, s17.v)]) ⟨rfl, rfl, rfl, trivial⟩
 obtain ⟨l21, hc22, h⟩ := h
 refine c_any (V := [(0, s17.v), (3, (.pointer (some ((blk b9).add 2)))), (4, (.pointer (some (((blk b9).add 2).add 4)))), (5, l21.v), (6, (.i (l21.l : Int)))]) (⟨[[], [], [0, 1], [], [3], [4], [5], [2, 6], [0, 1, 2, 3, 4, 5, 6, 7], [0, 1, 2, 3, 4, 5, 6, 7, 8], [0, 1, 2, 3, 4, 5, 6, 7, 9]], [some 9, some 10, some 11, some 12, some 13, some 14, some 15, some 16, some 17, some 18, none], [1, 2, 10], [0, 0, 1, 0, 0, 0, 0, 2, 2, 2, 2], [1, 1, 2, 2, 2, 2, 2, 2, 2, 2, 3]⟩ : Rg) [(1, (.pointer (some (blk b9)))), (2, (.pointer (some (blk b12)))), (3, s17.v)] mixed (by kernel_rfl) H ?_
 refine Stg.eff [0, 3, 4, 5, 6] (by kernel_rfl) rfl (.cons ?_ (.cons ?_ (.cons ?_ (.cons ?_ (.cons ?_ .nil))))) ?_
 ·refine Ans.mk rfl rfl fun a H => s_move H rfl rfl (lt_ rfl) fun a H => ?_
  exact Ans.fin H rfl
 ·refine Ans.mk rfl rfl fun a H => s_fld H rfl rfl fld_38_2 (lt_ rfl) fun a H => ?_
  exact Ans.fin H rfl
 ·refine Ans.mk rfl rfl fun a H => s_fld H rfl rfl fld_36_3 (lt_ rfl) fun a H => ?_
  exact Ans.fin H rfl
 ·refine Ans.mk rfl rfl fun a H => s_load (v := l21.v) H rfl rfl one_34 hc22 (lt_ rfl) fun a H => ?_
  exact Ans.fin H rfl
 ·refine Ans.mk rfl rfl fun a H => s_blt H rfl (H.args (vs := [l21.v]) rfl) (lt_ rfl) (fun cs => b_lenS (z := l21) sl_34) fun a H => ?_
  exact Ans.fin H rfl
 ·intro a H
  replace H := H.weaken (L' := []) trivial
  replace h := h.get
  obtain ⟨b23, w24, n25, h⟩ := h
  refine s_bslc H rfl (by rw [H.parts (vs := [(0, (.int .u8 90))]) rfl]; exact bs_34_1_iu80 (w18.drewN 1) 90) (lt_ rfl) ?_
  rw [← n25.at_]
  clear H a
  intro a H
  refine n25.go <| c_nil ?_
  obtain ⟨hc26, h⟩ := h
  refine effQ.go [] H rfl rfl <| Stg.eff [0, 3, 4, 5, 6] (by kernel_rfl) rfl (.cons ?_ (.cons ?_ (.cons ?_ (.cons ?_ (.cons ?_ .nil))))) ?_
  ·refine Ans.mk rfl rfl fun a H => s_move H rfl rfl (lt_ rfl) fun a H => ?_
   exact Ans.fin H rfl
  ·refine Ans.mk rfl rfl fun a H => s_fld H rfl rfl fld_38_2 (lt_ rfl) fun a H => ?_
   exact Ans.fin H rfl
  ·refine Ans.mk rfl rfl fun a H => s_fld H rfl rfl fld_36_3 (lt_ rfl) fun a H => ?_
   exact Ans.fin H rfl
  ·refine Ans.mk rfl rfl fun a H => s_load (v := l21.v) H rfl rfl one_34 hc26 (lt_ rfl) fun a H => ?_
   exact Ans.fin H rfl
  ·refine Ans.mk rfl rfl fun a H => s_blt H rfl (H.args (vs := [l21.v]) rfl) (lt_ rfl) (fun cs => b_lenS (z := l21) sl_34) fun a H => ?_
   exact Ans.fin H rfl
  ·intro a H
   replace H := H.weaken (L' := [(9, s17.v), (10, (Slc.v (Slc.mk (some (blk b23)) 1 1)))]) ⟨rfl, rfl, trivial⟩
   obtain ⟨s27, w28, h29, h⟩ := h
   refine s_blt H rfl (H.args (vs := [s17.v, (Slc.v (Slc.mk (some (blk b23)) 1 1))]) rfl) (lt_ rfl) (fun cs => b_app (z := s27) h29) ?_
   clear H a h29
   intro a H
   refine c_nil ?_
   obtain ⟨hc30, h31, h32, h33, h⟩ := h
   refine effQ.go [(7, (Slc.v (s27.cut 1 (Int.toNat (0)) (Int.toNat ((l21.l : Int)))))), (8, (.pointer (some ((blk b9).add 2)))), (9, (.pointer (some (((blk b9).add 2).add 4))))] H rfl rfl <| Stg.eff [3, 4, 5, 6, 7, 8, 9] (by kernel_rfl) rfl (.cons ?_ (.cons ?_ (.cons ?_ (.cons ?_ (.cons ?_ (.cons ?_ (.cons ?_ .nil))))))) ?_
   ·refine Ans.mk rfl rfl fun a H => s_fld H rfl rfl fld_38_2 (lt_ rfl) fun a H => ?_
    exact Ans.fin H rfl
   ·refine Ans.mk rfl rfl fun a H => s_fld H rfl rfl fld_36_3 (lt_ rfl) fun a H => ?_
    exact Ans.fin H rfl
   ·refine Ans.mk rfl rfl fun a H => s_load (v := l21.v) H rfl rfl one_34 hc30 (lt_ rfl) fun a H => ?_
    exact Ans.fin H rfl
   ·refine Ans.mk rfl rfl fun a H => s_blt H rfl (H.args (vs := [l21.v]) rfl) (lt_ rfl) (fun cs => b_lenS (z := l21) sl_34) fun a H => ?_
    exact Ans.fin H rfl
   ·refine Ans.mk rfl rfl fun a H => s_slice (v := (Slc.v (s27.cut 1 (Int.toNat (0)) (Int.toNat ((l21.l : Int)))))) H rfl rfl ⟨rfl, rfl⟩ ⟨rfl, rfl⟩ ⟨rfl, rfl⟩ (r_sliceSlc (lo := none) (hi := (some (.i64, (l21.l : Int)))) slc_34 rfl rfl h31 h32 h33) (lt_ rfl) fun a H => ?_
    exact Ans.fin H rfl
   ·refine Ans.mk rfl rfl fun a H => s_fld H rfl rfl fld_38_2 (lt_ rfl) fun a H => ?_
    exact Ans.fin H rfl
   ·refine Ans.mk rfl rfl fun a H => s_fld H rfl rfl fld_36_3 (lt_ rfl) fun a H => ?_
    exact Ans.fin H rfl
   ·intro a H
    replace H := H.weaken (L' := [(16, (Slc.v (s27.cut 1 (Int.toNat (0)) (Int.toNat ((l21.l : Int)))))), (18, (.pointer (some (((blk b9).add 2).add 4))))]) ⟨rfl, rfl, trivial⟩
    obtain ⟨h35, h36, h⟩ := h
    refine s_sto (p := ((blk b9).add 2).add 4) (v := (Slc.v (s27.cut 1 (Int.toNat (0)) (Int.toNat ((l21.l : Int)))))) H rfl rfl rfl rfl one_34 rfl h35 h36 ?_
    clear H
    intro H
    generalize hww34 : World.setCell w28 (((blk b9).add 2).add 4) (Slc.v (s27.cut 1 (Int.toNat (0)) (Int.toNat ((l21.l : Int))))) = w34 at h ⊢
    have w34S : SetAt w28 (((blk b9).add 2).add 4) (Slc.v (s27.cut 1 (Int.toNat (0)) (Int.toNat ((l21.l : Int))))) w34 := ⟨hww34.symm⟩
    clear hww34 h35 h36
    refine c_nil <| effQ.go0 [] H rfl rfl <| Stg.fin [] (by kernel_rfl) .nil ?_
    ·intro a H
     replace H := H.weaken (L' := [(1, (.pointer (some (blk b9)))), (2, (.pointer (some (blk b12))))]) ⟨rfl, rfl, trivial⟩
     refine hK20 _ _ <| c_seq fun K37 hK37 => c_reg ?_
     obtain ⟨K38, hc39, K40, hc41, C42, hc43, C44, hc45, F46, hc47, H48, hc49, D50, hc51, h⟩ := h
     refine s_loadN (l := [(.i K38), (.string K40), (.i C42), (.i C44), (.bool F46), (.bool H48), D50.v]) H rfl rfl agg_38 rfl ⟨hc39, hc41, hc43, hc45, hc47, hc49, hc51, trivial⟩ (lt_ rfl) fun a H => s_stoN (l := [(.i K38), (.string K40), (.i C42), (.i C44), (.bool F46), (.bool H48), D50.v]) H rfl rfl rfl rfl agg_38 rfl rfl h ?_
     clear h H
     intro w52 h H
     refine c_nil <| hK37 _ _ <| c_ret ?_
     obtain ⟨K53, hc54, K55, hc56, C57, hc58, C59, hc60, F61, hc62, H63, hc64, D65, hc66, h⟩ := h
     exact e_ret1 H rfl ⟨_, rfl, run_loadN (l := [(.i K53), (.string K55), (.i C57), (.i C59), (.bool F61), (.bool H63), D65.v]) agg_38 rfl ⟨hc54, hc56, hc58, hc60, hc62, hc64, hc66, trivial⟩⟩ h

theorem sim_sherdref15_Table_Would (t1 : Option Addr) (K2 : Int) (K3 : ByteArray) (C4 C5 : Int) (F6 H7 : Bool) (D8 : Slc) (w : World) (Q : Ending → World → Prop) (h : vc_sherdref15_Table_Would t1 K2 K3 C4 C5 F6 H7 D8 w Q) : Calls PP F_sherdref15_Table_Would #[(.pointer t1), (.agg #[(.i K2), (.string K3), (.i C4), (.i C5), (.bool F6), (.bool H7), D8.v])] w Q := by
 unfold vc_sherdref15_Table_Would at h
 refine enter (n := 12) Tryz.func38 rfl rfl (Nat.le_of_ble_eq_true rfl) fun a H => c_seq fun K9 hK9 => c_reg ?_
 replace h := h.get
 obtain ⟨b10, w11, n12, h⟩ := h
 refine s_box H rfl rfl (lt_ rfl) ?_
 rw [← n12.at_]
 clear H a
 intro a H
 refine n12.go <| s_assign H rfl rfl (lt_ rfl) fun a H => s_assign H rfl rfl (lt_ rfl) fun a H => c_nil <| hK9 _ _ <| c_seq fun K13 hK13 => ?_
 replace H := H.weaken (L' := [(0, (.pointer t1)), (3, (.pointer (some (blk b10)))), (4, (.bool false)), (5, (.i 0))]) ⟨rfl, rfl, rfl, rfl, trivial⟩
 obtain ⟨K14, hc15, K16, hc17, C18, hc19, C20, hc21, F22, hc23, H24, hc25, D26, hc27, h⟩ := h
 refine c_any (V := [(0, (.pointer t1)), (2, (.agg #[(.i K14), (.string K16), (.i C18), (.i C20), (.bool F22), (.bool H24), D26.v]))]) (⟨[[], [0], [], [1, 2], [3], [3], [0, 1, 2, 3, 4, 5], [0, 1, 2, 3, 4, 5, 6]], [some 6, some 7, some 8, some 9, some 10, some 11, some 4, some 5], [1, 3], [0, 0, 0, 1, 2, 2, 2, 2], [0, 1, 1, 2, 2, 2, 2, 2]⟩ : Rg) [(0, (.pointer t1)), (3, (.pointer (some (blk b10)))), (4, (.bool false)), (5, (.i 0))] mixed (by kernel_rfl) H ?_
 refine Stg.eff [0, 2] (by kernel_rfl) rfl (.cons ?_ (.cons ?_ .nil)) ?_
 ·refine Ans.mk rfl rfl fun a H => s_move H rfl rfl (lt_ rfl) fun a H => ?_
  exact Ans.fin H rfl
 ·refine Ans.mk rfl rfl fun a H => s_loadN (l := [(.i K14), (.string K16), (.i C18), (.i C20), (.bool F22), (.bool H24), D26.v]) H rfl rfl agg_38 rfl ⟨hc15, hc17, hc19, hc21, hc23, hc25, hc27, trivial⟩ (lt_ rfl) fun a H => ?_
  exact Ans.fin H rfl
 ·intro a H
  replace H := H.weaken (L' := [(6, (.pointer t1))]) ⟨rfl, trivial⟩
  refine s_call H rfl body_7 (H.args (vs := [(.pointer t1)]) rfl) (lt_ rfl) h ?_ (fun c w' h H => e_panic (P := PP) (fn := Tryz.f38) H h)
  clear H h a
  rintro _ w28 a ⟨C29, rfl, h⟩ H
  refine c_nil ?_
  obtain ⟨hc30, hc31, hc32, hc33, hc34, hc35, hc36, h⟩ := h
  refine effQ.go [] H rfl rfl <| Stg.eff [2] (by kernel_rfl) rfl (.cons ?_ .nil) ?_
  ·refine Ans.mk rfl rfl fun a H => s_loadN (l := [(.i K14), (.string K16), (.i C18), (.i C20), (.bool F22), (.bool H24), D26.v]) H rfl rfl agg_38 rfl ⟨hc30, hc31, hc32, hc33, hc34, hc35, hc36, trivial⟩ (lt_ rfl) fun a H => ?_
   exact Ans.fin H rfl
  ·intro a H
   replace H := H.weaken (L' := [(7, (.pointer C29)), (8, (.agg #[(.i K14), (.string K16), (.i C18), (.i C20), (.bool F22), (.bool H24), D26.v]))]) ⟨rfl, rfl, trivial⟩
   refine s_call H rfl body_41 (H.args (vs := [(.pointer C29), (.agg #[(.i K14), (.string K16), (.i C18), (.i C20), (.bool F22), (.bool H24), D26.v])]) rfl) (lt_ rfl) h ?_ (fun c w' h H => e_panic (P := PP) (fn := Tryz.f38) H h)
   clear H h a
   rintro _ w37 a ⟨A38, A39, rfl, h⟩ H
   refine c_nil <| effQ.go [(4, (.bool A38)), (5, (.i A39)), (6, (.bool A38)), (7, (.i A39))] H rfl rfl <| Stg.fin [4, 5, 6, 7] (by kernel_rfl) (.cons ?_ (.cons ?_ (.cons ?_ (.cons ?_ .nil)))) ?_
   ·refine Ans.mk rfl rfl fun a H => s_ext H rfl rfl rfl (lt_ rfl) fun a H => ?_
    exact Ans.fin H rfl
   ·refine Ans.mk rfl rfl fun a H => s_ext H rfl rfl rfl (lt_ rfl) fun a H => ?_
    exact Ans.fin H rfl
   ·refine Ans.mk rfl rfl fun a H => s_assign H rfl rfl (lt_ rfl) fun a H => ?_
    exact Ans.fin H rfl
   ·refine Ans.mk rfl rfl fun a H => s_assign H rfl rfl (lt_ rfl) fun a H => ?_
    exact Ans.fin H rfl
   ·intro a H
    replace H := H.weaken (L' := [(4, (.bool A38)), (5, (.i A39))]) ⟨rfl, rfl, trivial⟩
    refine hK13 _ _ <| c_ret ?_
    exact e_ret2 H rfl rfl rfl h

theorem sim_table_Table_Would (t1 : Option Addr) (K2 : Int) (K3 : ByteArray) (C4 C5 : Int) (F6 H7 : Bool) (D8 : Slc) (w : World) (Q : Ending → World → Prop) (h : vc_table_Table_Would t1 K2 K3 C4 C5 F6 H7 D8 w Q) : Calls PP F_table_Table_Would #[(.pointer t1), (.agg #[(.i K2), (.string K3), (.i C4), (.i C5), (.bool F6), (.bool H7), D8.v])] w Q := by
 unfold vc_table_Table_Would at h
 refine enter (n := 78) Tryz.func39 rfl rfl (Nat.le_of_ble_eq_true rfl) fun a H => c_seq fun K9 hK9 => c_reg ?_
 replace h := h.get
 obtain ⟨b10, w11, n12, h⟩ := h
 refine s_box H rfl rfl (lt_ rfl) ?_
 rw [← n12.at_]
 clear H a
 intro a H
 refine n12.go <| s_assign H rfl rfl (lt_ rfl) fun a H => s_assign H rfl rfl (lt_ rfl) fun a H => c_nil <| hK9 _ _ <| c_seq fun K13 hK13 => c_seq fun K14 hK14 => c_reg <| s_move H rfl rfl (lt_ rfl) fun a H => s_bin H rfl rfl rfl (r_eqP0 ptr_23) (lt_ rfl) fun a H => c_nil <| hK14 _ _ <| c_cond H rfl (fun h15 => ?_) (fun h15 => ?_)
 ·replace h := h.1 h15
  refine c_seq fun K16 hK16 => c_reg <| s_assign H rfl rfl (lt_ rfl) fun a H => s_assign H rfl rfl (lt_ rfl) fun a H => c_nil <| hK16 _ _ <| c_ret ?_
  exact e_ret2 H rfl rfl rfl h
 ·replace h := h.2 h15
  refine c_skip <| hK13 _ _ <| c_seq fun K17 hK17 => c_seq fun K18 hK18 => c_reg <| s_loadN (l := [(.i K2), (.string K3), (.i C4), (.i C5), (.bool F6), (.bool H7), D8.v]) H rfl rfl agg_38 rfl ⟨(n12.cell (i := 0) rfl), (n12.cell (i := 1) rfl), (n12.cell (i := 2) rfl), (n12.cell (i := 3) rfl), (n12.cell (i := 4) rfl), (n12.cell (i := 5) rfl), (n12.cell (i := 6) rfl), trivial⟩ (lt_ rfl) fun a H => ?_
  refine s_call H rfl body_52 (H.args (vs := [(.agg #[(.i K2), (.string K3), (.i C4), (.i C5), (.bool F6), (.bool H7), D8.v])]) rfl) (lt_ rfl) h ?_ (fun c w' h H => e_panic (P := PP) (fn := Tryz.f39) H h)
  clear H h a
  rintro _ w19 a ⟨m20, rfl, h⟩ H
  refine s_un H rfl rfl r_not (lt_ rfl) fun a H => c_nil <| hK18 _ _ <| c_cond H rfl (fun h21 => ?_) (fun h21 => ?_)
  ·replace h := h.1 h21
   refine c_seq fun K22 hK22 => c_reg <| s_assign H rfl rfl (lt_ rfl) fun a H => s_assign H rfl rfl (lt_ rfl) fun a H => c_nil <| hK22 _ _ <| c_ret ?_
   exact e_ret2 H rfl rfl rfl h
  ·replace h := h.2 h21
   refine c_skip <| hK17 _ _ <| c_seq fun K23 hK23 => ?_
   replace H := H.weaken (L' := [(0, (.pointer t1)), (3, (.pointer (some (blk b10))))]) ⟨rfl, rfl, trivial⟩
   obtain ⟨a24, h25, h⟩ := h
   revert H
   subst h25
   intro H
   obtain ⟨l26, hc27, l28, hc29, h⟩ := h
   refine c_any (V := [(0, (.pointer (some a24))), (1, (.pointer (some a24))), (2, (.pointer (some (a24.add 1)))), (3, (.map l26)), (4, (.pointer (some ((blk b10).add 1)))), (5, (.string l28))]) (⟨[[], [0], [1], [2], [], [4], [3, 5], [0, 1, 2, 3, 4, 5, 6]], [some 15, some 16, some 17, some 18, some 19, some 20, some 21, some 6], [6], [0, 0, 0, 0, 0, 0, 0, 1], [0, 0, 0, 0, 0, 0, 1, 1]⟩ : Rg) [(0, (.pointer (some a24))), (3, (.pointer (some (blk b10))))] mixed (by kernel_rfl) H ?_
   refine Stg.eff [0, 1, 2, 3, 4, 5] (by kernel_rfl) rfl (.cons ?_ (.cons ?_ (.cons ?_ (.cons ?_ (.cons ?_ (.cons ?_ .nil)))))) ?_
   ·refine Ans.mk rfl rfl fun a H => s_move H rfl rfl (lt_ rfl) fun a H => ?_
    exact Ans.fin H rfl
   ·refine Ans.mk rfl rfl fun a H => s_nil H rfl rfl (lt_ rfl) fun a H => ?_
    exact Ans.fin H rfl
   ·refine Ans.mk rfl rfl fun a H => s_fld H rfl rfl fld_52_1 (lt_ rfl) fun a H => ?_
    exact Ans.fin H rfl
   ·refine Ans.mk rfl rfl fun a H => s_load (v := (.map l26)) H rfl rfl one_50 hc27 (lt_ rfl) fun a H => ?_
    exact Ans.fin H rfl
   ·refine Ans.mk rfl rfl fun a H => s_fld H rfl rfl fld_38_1 (lt_ rfl) fun a H => ?_
    exact Ans.fin H rfl
   ·refine Ans.mk rfl rfl fun a H => s_load (v := (.string l28)) H rfl rfl one_9 hc29 (lt_ rfl) fun a H => ?_
    exact Ans.fin H rfl
   ·intro a H
    replace H := H.weaken (L' := [(18, (.map l26)), (20, (.string l28))]) ⟨rfl, rfl, trivial⟩
    obtain ⟨_, h32, m30, rfl, h⟩ := h
    refine s_lkp H rfl rfl rfl h32 (lt_ rfl) ?_
    clear H a h32
    intro a H
    refine c_nil <| effQ.go [(7, (.map m30))] H rfl rfl <| Stg.fin [7] (by kernel_rfl) (.cons ?_ .nil) ?_
    ·refine Ans.mk rfl rfl fun a H => s_assign H rfl rfl (lt_ rfl) fun a H => ?_
     exact Ans.fin H rfl
    ·intro a H
     replace H := H.weaken (L' := [(0, (.pointer (some a24))), (3, (.pointer (some (blk b10)))), (6, (.map m30))]) ⟨rfl, rfl, rfl, trivial⟩
     refine hK23 _ _ <| c_seq fun K33 hK33 => c_reg <| s_move H rfl rfl (lt_ rfl) fun a H => s_fld H rfl rfl fld_38_2 (lt_ rfl) fun a H => s_fld H rfl rfl fld_36_0 (lt_ rfl) fun a H => ?_
     obtain ⟨C34, hc35, C36, hc37, h⟩ := h
     refine s_loadN (l := [(.i C34), (.i C36)]) H rfl rfl agg_33 rfl ⟨hc35, hc37, trivial⟩ (lt_ rfl) fun a H => ?_
     obtain ⟨_, h44, C38, C39, F40, H41, D42, rfl, h⟩ := h
     refine s_lkp H rfl rfl rfl h44 (lt_ rfl) ?_
     clear H a h44
     intro a H
     replace h := h.get
     obtain ⟨b45, w46, n47, h⟩ := h
     refine s_alloc H rfl zero_36 (lt_ rfl) ?_
     rw [← n47.at_]
     clear H a
     intro a H
     refine n47.go <| s_stoN (l := [(.i C38), (.i C39), (.bool F40), (.bool H41), D42.v]) H rfl rfl rfl rfl agg_36 rfl rfl h ?_
     clear h H
     intro w48 h H
     refine c_nil <| hK33 _ _ <| c_seq fun K49 hK49 => c_seq fun K50 hK50 => ?_
     replace H := H.weaken (L' := [(0, (.pointer (some a24))), (3, (.pointer (some (blk b10)))), (6, (.map m30)), (7, (.pointer (some (blk b45))))]) ⟨rfl, rfl, rfl, rfl, trivial⟩
     obtain ⟨C51, hc52, C53, hc54, l55, hc56, h⟩ := h
     refine c_any (V := [(0, (.pointer (some ((blk b10).add 2)))), (1, (.pointer (some (((blk b10).add 2).add 0)))), (2, (.agg #[(.i C51), (.i C53)])), (3, (.map m30)), (4, (.pointer (some a24))), (5, (.pointer (some a24))), (6, (.pointer (some (a24.add 0)))), (7, (.i l55))]) (⟨[[], [0], [1], [], [], [4], [5], [6], [3, 7], [2, 8], [9]], [some 27, some 28, some 29, some 30, some 31, some 32, some 33, some 34, some 35, some 36, some 37], [8, 9], [0, 0, 0, 0, 0, 0, 0, 0, 0, 1, 2], [1, 1, 1, 0, 0, 0, 0, 0, 1, 2, 2]⟩ : Rg) [(0, (.pointer (some a24))), (3, (.pointer (some (blk b10)))), (6, (.map m30)), (7, (.pointer (some (blk b45))))] mixed (by kernel_rfl) H ?_
     refine Stg.eff [0, 1, 2, 3, 4, 5, 6, 7] (by kernel_rfl) rfl (.cons ?_ (.cons ?_ (.cons ?_ (.cons ?_ (.cons ?_ (.cons ?_ (.cons ?_ (.cons ?_ .nil)))))))) ?_
     ·refine Ans.mk rfl rfl fun a H => s_fld H rfl rfl fld_38_2 (lt_ rfl) fun a H => ?_
      exact Ans.fin H rfl
     ·refine Ans.mk rfl rfl fun a H => s_fld H rfl rfl fld_36_0 (lt_ rfl) fun a H => ?_
      exact Ans.fin H rfl
     ·refine Ans.mk rfl rfl fun a H => s_loadN (l := [(.i C51), (.i C53)]) H rfl rfl agg_33 rfl ⟨hc52, hc54, trivial⟩ (lt_ rfl) fun a H => ?_
      exact Ans.fin H rfl
     ·refine Ans.mk rfl rfl fun a H => s_move H rfl rfl (lt_ rfl) fun a H => ?_
      exact Ans.fin H rfl
     ·refine Ans.mk rfl rfl fun a H => s_move H rfl rfl (lt_ rfl) fun a H => ?_
      exact Ans.fin H rfl
     ·refine Ans.mk rfl rfl fun a H => s_nil H rfl rfl (lt_ rfl) fun a H => ?_
      exact Ans.fin H rfl
     ·refine Ans.mk rfl rfl fun a H => s_fld H rfl rfl fld_52_0 (lt_ rfl) fun a H => ?_
      exact Ans.fin H rfl
     ·refine Ans.mk rfl rfl fun a H => s_load (v := (.i l55)) H rfl rfl one_3 hc56 (lt_ rfl) fun a H => ?_
      exact Ans.fin H rfl
     ·intro a H
      replace H := H.weaken (L' := [(30, (.map m30)), (34, (.i l55))]) ⟨rfl, rfl, trivial⟩
      refine s_call H rfl body_46 (H.args (vs := [(.map m30), (.i l55)]) rfl) (lt_ rfl) h ?_ (fun c w' h H => e_panic (P := PP) (fn := Tryz.f39) H h)
      clear H h a
      rintro _ w57 a ⟨C58, C59, rfl, h⟩ H
      refine c_nil ?_
      obtain ⟨hc60, hc61, h⟩ := h
      refine effQ.go [] H rfl rfl <| Stg.eff [0, 1, 2] (by kernel_rfl) rfl (.cons ?_ (.cons ?_ (.cons ?_ .nil))) ?_
      ·refine Ans.mk rfl rfl fun a H => s_fld H rfl rfl fld_38_2 (lt_ rfl) fun a H => ?_
       exact Ans.fin H rfl
      ·refine Ans.mk rfl rfl fun a H => s_fld H rfl rfl fld_36_0 (lt_ rfl) fun a H => ?_
       exact Ans.fin H rfl
      ·refine Ans.mk rfl rfl fun a H => s_loadN (l := [(.i C51), (.i C53)]) H rfl rfl agg_33 rfl ⟨hc60, hc61, trivial⟩ (lt_ rfl) fun a H => ?_
       exact Ans.fin H rfl
      ·intro a H
       replace H := H.weaken (L' := [(29, (.agg #[(.i C51), (.i C53)])), (35, (.agg #[(.i C58), (.i C59)]))]) ⟨rfl, rfl, trivial⟩
       refine s_call H rfl body_49 (H.args (vs := [(.agg #[(.i C51), (.i C53)]), (.agg #[(.i C58), (.i C59)])]) rfl) (lt_ rfl) h ?_ (fun c w' h H => e_panic (P := PP) (fn := Tryz.f39) H h)
       clear H h a
       rintro _ w62 a ⟨C63, rfl, h⟩ H
       refine c_nil <| effQ.go [(10, (.bool (decide (C63 < 0))))] H rfl rfl <| Stg.fin [10] (by kernel_rfl) (.cons ?_ .nil) ?_
       ·refine Ans.mk rfl rfl fun a H => s_bin H rfl rfl rfl r_lss (lt_ rfl) fun a H => ?_
        exact Ans.fin H rfl
       ·intro a H
        replace H := H.weaken (L' := [(3, (.pointer (some (blk b10)))), (7, (.pointer (some (blk b45)))), (37, (.bool (decide (C63 < 0))))]) ⟨rfl, rfl, rfl, trivial⟩
        refine hK50 _ _ <| c_cond H rfl (fun h64 => ?_) (fun h64 => ?_)
        ·replace h := h.1 h64
         refine c_seq fun K65 hK65 => c_reg <| s_assign H rfl rfl (lt_ rfl) fun a H => s_assign H rfl rfl (lt_ rfl) fun a H => c_nil <| hK65 _ _ <| c_ret ?_
         exact e_ret2 H rfl rfl rfl h
        ·replace h := h.2 h64
         refine c_skip <| hK49 _ _ <| c_seq fun K66 hK66 => c_reg <| s_fld H rfl rfl fld_38_0 (lt_ rfl) fun a H => ?_
         obtain ⟨l67, hc68, h⟩ := h
         refine s_load (v := (.i l67)) H rfl rfl one_3 hc68 (lt_ rfl) fun a H => s_bin H rfl rfl rfl r_eql (lt_ rfl) fun a H => s_move H rfl rfl (lt_ rfl) fun a H => ?_
         obtain ⟨x80, h81, h82, h⟩ := h
         refine g_join (n := 78) [(50, (.bool x80)), (3, (.pointer (some (blk b10)))), (7, (.pointer (some (blk b45))))] (.succ (.succ (.succ (.succ (.succ (.succ (.succ (.succ (.succ (.zero _)))))))))) ?_ ?_
         ·intro h70
          try clear h
          rcases Bool.eq_false_or_eq_true (decide (l67 = 1)) with h69 | h69
          ·replace H := H.ch (t := 41) (b := true) rfl h69
           iterate 4 refine s_skip H (wantN H rfl rfl rfl) rfl (lt_ rfl) fun a H => ?_
           iterate 3 refine s_skip H (wantU H rfl rfl) rfl (lt_ rfl) fun a H => ?_
           refine s_skip H (wantN H rfl rfl rfl) rfl (lt_ rfl) fun a H => s_pickT H rfl rfl rfl (lt_ rfl) fun a H => ?_
           replace h := h82 h69
           subst h
           exact h70 _ (H.weaken ⟨rfl, rfl, rfl, trivial⟩)
          ·replace H := H.ch (t := 41) (b := false) rfl h69
           replace h := h81 h69
           refine s_fld H (wantG H rfl rfl) rfl fld_38_0 (lt_ rfl) fun a H => ?_
           obtain ⟨l71, hc72, h⟩ := h
           refine s_load (v := (.i l71)) H (wantG H rfl rfl) rfl one_3 hc72 (lt_ rfl) fun a H => s_bin H (wantG H rfl rfl) rfl rfl r_eql (lt_ rfl) fun a H => s_move H (wantG H rfl rfl) rfl (lt_ rfl) fun a H => ?_
           obtain ⟨x77, h78, h79, h⟩ := h
           refine g_join (n := 78) [(49, (.bool x77)), (3, (.pointer (some (blk b10)))), (7, (.pointer (some (blk b45)))), (41, (.bool false))] (.succ (.succ (.succ (.succ (.zero _))))) ?_ ?_
           ·intro h74
            try clear h
            rcases Bool.eq_false_or_eq_true (decide (l71 = 3)) with h73 | h73
            ·replace H := H.ch (t := 45) (b := true) rfl h73
             replace h := h78 h73
             refine s_fld H (wantG H rfl rfl) rfl fld_38_2 (lt_ rfl) fun a H => s_fld H (wantG H rfl rfl) rfl fld_36_2 (lt_ rfl) fun a H => ?_
             obtain ⟨l75, hc76, h⟩ := h
             refine s_load (v := (.bool l75)) H (wantG H rfl rfl) rfl one_4 hc76 (lt_ rfl) fun a H => s_pickT H (wantG H rfl rfl) rfl rfl (lt_ rfl) fun a H => ?_
             subst h
             exact h74 _ (H.weaken ⟨rfl, rfl, rfl, rfl, trivial⟩)
            ·replace H := H.ch (t := 45) (b := false) rfl h73
             iterate 3 refine s_skip H (wantN H rfl rfl rfl) rfl (lt_ rfl) fun a H => ?_
             refine s_pickF H (wantG H rfl rfl) rfl rfl (lt_ rfl) fun a H => ?_
             replace h := h79 h73
             subst h
             exact h74 _ (H.weaken ⟨rfl, rfl, rfl, rfl, trivial⟩)
           ·clear H a
            clear h78 h79
            intro a H
            refine s_pickF H rfl rfl rfl (lt_ rfl) fun a H => ?_
            subst h
            exact h70 _ (H.weaken ⟨rfl, rfl, rfl, trivial⟩)
         ·clear H a
          clear h81 h82
          intro a H
          refine s_assign H rfl rfl (lt_ rfl) fun a H => c_nil <| hK66 _ _ <| c_seq fun K83 hK83 => c_reg <| s_fld H rfl rfl fld_38_0 (lt_ rfl) fun a H => ?_
          obtain ⟨l84, hc85, h⟩ := h
          refine s_load (v := (.i l84)) H rfl rfl one_3 hc85 (lt_ rfl) fun a H => s_bin H rfl rfl rfl r_eql (lt_ rfl) fun a H => s_move H rfl rfl (lt_ rfl) fun a H => ?_
          obtain ⟨x97, h98, h99, h⟩ := h
          refine g_join (n := 78) [(63, (.bool x97)), (7, (.pointer (some (blk b45)))), (8, (.bool x80))] (.succ (.succ (.succ (.succ (.succ (.succ (.succ (.succ (.succ (.zero _)))))))))) ?_ ?_
          ·intro h87
           try clear h
           rcases Bool.eq_false_or_eq_true (decide (l84 = 2)) with h86 | h86
           ·replace H := H.ch (t := 54) (b := true) rfl h86
            iterate 4 refine s_skip H (wantN H rfl rfl rfl) rfl (lt_ rfl) fun a H => ?_
            iterate 3 refine s_skip H (wantU H rfl rfl) rfl (lt_ rfl) fun a H => ?_
            refine s_skip H (wantN H rfl rfl rfl) rfl (lt_ rfl) fun a H => s_pickT H rfl rfl rfl (lt_ rfl) fun a H => ?_
            replace h := h99 h86
            subst h
            exact h87 _ (H.weaken ⟨rfl, rfl, rfl, trivial⟩)
           ·replace H := H.ch (t := 54) (b := false) rfl h86
            replace h := h98 h86
            refine s_fld H (wantG H rfl rfl) rfl fld_38_0 (lt_ rfl) fun a H => ?_
            obtain ⟨l88, hc89, h⟩ := h
            refine s_load (v := (.i l88)) H (wantG H rfl rfl) rfl one_3 hc89 (lt_ rfl) fun a H => s_bin H (wantG H rfl rfl) rfl rfl r_eql (lt_ rfl) fun a H => s_move H (wantG H rfl rfl) rfl (lt_ rfl) fun a H => ?_
            obtain ⟨x94, h95, h96, h⟩ := h
            refine g_join (n := 78) [(62, (.bool x94)), (7, (.pointer (some (blk b45)))), (8, (.bool x80)), (54, (.bool false))] (.succ (.succ (.succ (.succ (.zero _))))) ?_ ?_
            ·intro h91
             try clear h
             rcases Bool.eq_false_or_eq_true (decide (l88 = 3)) with h90 | h90
             ·replace H := H.ch (t := 58) (b := true) rfl h90
              replace h := h95 h90
              refine s_fld H (wantG H rfl rfl) rfl fld_38_2 (lt_ rfl) fun a H => s_fld H (wantG H rfl rfl) rfl fld_36_1 (lt_ rfl) fun a H => ?_
              obtain ⟨l92, hc93, h⟩ := h
              refine s_load (v := (.bool l92)) H (wantG H rfl rfl) rfl one_4 hc93 (lt_ rfl) fun a H => s_pickT H (wantG H rfl rfl) rfl rfl (lt_ rfl) fun a H => ?_
              subst h
              exact h91 _ (H.weaken ⟨rfl, rfl, rfl, rfl, trivial⟩)
             ·replace H := H.ch (t := 58) (b := false) rfl h90
              iterate 3 refine s_skip H (wantN H rfl rfl rfl) rfl (lt_ rfl) fun a H => ?_
              refine s_pickF H (wantG H rfl rfl) rfl rfl (lt_ rfl) fun a H => ?_
              replace h := h96 h90
              subst h
              exact h91 _ (H.weaken ⟨rfl, rfl, rfl, rfl, trivial⟩)
            ·clear H a
             clear h95 h96
             intro a H
             refine s_pickF H rfl rfl rfl (lt_ rfl) fun a H => ?_
             subst h
             exact h87 _ (H.weaken ⟨rfl, rfl, rfl, trivial⟩)
          ·clear H a
           clear h98 h99
           intro a H
           refine s_assign H rfl rfl (lt_ rfl) fun a H => c_nil <| hK83 _ _ <| c_seq fun K100 hK100 => c_reg <| s_move H rfl rfl (lt_ rfl) fun a H => s_move H rfl rfl (lt_ rfl) fun a H => ?_
           obtain ⟨x105, h106, h107, h⟩ := h
           refine g_join (n := 78) [(69, (.bool x105)), (7, (.pointer (some (blk b45)))), (9, (.bool x97))] (.succ (.succ (.succ (.succ (.zero _))))) ?_ ?_
           ·intro h102
            try clear h
            rcases Bool.eq_false_or_eq_true x80 with h101 | h101
            ·replace H := H.ch (t := 65) (b := true) rfl h101
             replace h := h106 h101
             refine s_fld H (wantG H rfl rfl) rfl fld_36_2 (lt_ rfl) fun a H => ?_
             obtain ⟨l103, hc104, h⟩ := h
             refine s_load (v := (.bool l103)) H (wantG H rfl rfl) rfl one_4 hc104 (lt_ rfl) fun a H => s_un H (wantG H rfl rfl) rfl r_not (lt_ rfl) fun a H => s_pickT H rfl rfl rfl (lt_ rfl) fun a H => ?_
             subst h
             exact h102 _ (H.weaken ⟨rfl, rfl, rfl, trivial⟩)
            ·replace H := H.ch (t := 65) (b := false) rfl h101
             iterate 3 refine s_skip H (wantN H rfl rfl rfl) rfl (lt_ rfl) fun a H => ?_
             refine s_pickF H rfl rfl rfl (lt_ rfl) fun a H => ?_
             replace h := h107 h101
             subst h
             exact h102 _ (H.weaken ⟨rfl, rfl, rfl, trivial⟩)
           ·clear H a
            clear h106 h107
            intro a H
            refine s_move H rfl rfl (lt_ rfl) fun a H => ?_
            obtain ⟨x117, h118, h119, h⟩ := h
            refine g_join (n := 78) [(77, (.bool x117))] (.succ (.succ (.succ (.succ (.succ (.succ (.succ (.zero _)))))))) ?_ ?_
            ·intro h109
             try clear h
             rcases Bool.eq_false_or_eq_true x105 with h108 | h108
             ·replace H := H.ch (t := 70) (b := true) rfl h108
              refine s_skip H (wantN H rfl rfl rfl) rfl (lt_ rfl) fun a H => s_skip H (wantN H rfl rfl rfl) rfl (lt_ rfl) fun a H => ?_
              iterate 3 refine s_skip H (wantU H rfl rfl) rfl (lt_ rfl) fun a H => ?_
              refine s_skip H (wantN H rfl rfl rfl) rfl (lt_ rfl) fun a H => s_pickT H rfl rfl rfl (lt_ rfl) fun a H => ?_
              replace h := h119 h108
              subst h
              exact h109 _ (H.weaken ⟨rfl, trivial⟩)
             ·replace H := H.ch (t := 70) (b := false) rfl h108
              replace h := h118 h108
              refine s_move H (wantG H rfl rfl) rfl (lt_ rfl) fun a H => s_move H (wantG H rfl rfl) rfl (lt_ rfl) fun a H => ?_
              obtain ⟨x114, h115, h116, h⟩ := h
              refine g_join (n := 78) [(76, (.bool x114)), (70, (.bool false))] (.succ (.succ (.succ (.succ (.zero _))))) ?_ ?_
              ·intro h111
               try clear h
               rcases Bool.eq_false_or_eq_true x97 with h110 | h110
               ·replace H := H.ch (t := 72) (b := true) rfl h110
                replace h := h115 h110
                refine s_fld H (wantG H rfl rfl) rfl fld_36_1 (lt_ rfl) fun a H => ?_
                obtain ⟨l112, hc113, h⟩ := h
                refine s_load (v := (.bool l112)) H (wantG H rfl rfl) rfl one_4 hc113 (lt_ rfl) fun a H => s_un H (wantG H rfl rfl) rfl r_not (lt_ rfl) fun a H => s_pickT H (wantG H rfl rfl) rfl rfl (lt_ rfl) fun a H => ?_
                subst h
                exact h111 _ (H.weaken ⟨rfl, rfl, trivial⟩)
               ·replace H := H.ch (t := 72) (b := false) rfl h110
                iterate 3 refine s_skip H (wantN H rfl rfl rfl) rfl (lt_ rfl) fun a H => ?_
                refine s_pickF H (wantG H rfl rfl) rfl rfl (lt_ rfl) fun a H => ?_
                replace h := h116 h110
                subst h
                exact h111 _ (H.weaken ⟨rfl, rfl, trivial⟩)
              ·clear H a
               clear h115 h116
               intro a H
               refine s_pickF H rfl rfl rfl (lt_ rfl) fun a H => ?_
               subst h
               exact h109 _ (H.weaken ⟨rfl, trivial⟩)
            ·clear H a
             clear h118 h119
             intro a H
             refine s_assign H rfl rfl (lt_ rfl) fun a H => s_assign H rfl rfl (lt_ rfl) fun a H => c_nil <| hK100 _ _ <| c_ret ?_
             exact e_ret2 H rfl rfl rfl h

theorem sim_sherdlaw15_untouched (K1 : Int) (K2 : ByteArray) (C3 C4 : Int) (F5 H6 : Bool) (D7 : Slc) (K8 : Int) (K9 : ByteArray) (C10 C11 : Int) (F12 H13 : Bool) (D14 : Slc) (w : World) (Q : Ending → World → Prop) (h : vc_sherdlaw15_untouched K1 K2 C3 C4 F5 H6 D7 K8 K9 C10 C11 F12 H13 D14 w Q) : Calls PP F_sherdlaw15_untouched #[(.agg #[(.i K1), (.string K2), (.i C3), (.i C4), (.bool F5), (.bool H6), D7.v]), (.agg #[(.i K8), (.string K9), (.i C10), (.i C11), (.bool F12), (.bool H13), D14.v])] w Q := by
 unfold vc_sherdlaw15_untouched at h
 refine enter (n := 41) Tryz.func40 rfl rfl (Nat.le_of_ble_eq_true rfl) fun a H => c_seq fun K15 hK15 => c_reg ?_
 replace h := h.get
 obtain ⟨b16, w17, n18, h⟩ := h
 refine s_box H rfl rfl (lt_ rfl) ?_
 rw [← n18.at_]
 clear H a
 intro a H
 refine n18.go ?_
 replace h := h.get
 obtain ⟨b19, w20, n21, h⟩ := h
 refine s_box H rfl rfl (lt_ rfl) ?_
 rw [← n21.at_]
 clear H a
 intro a H
 refine n21.go <| s_assign H rfl rfl (lt_ rfl) fun a H => c_nil <| hK15 _ _ <| c_seq fun K22 hK22 => c_reg <| s_fld H rfl rfl fld_38_2 (lt_ rfl) fun a H => s_fld H rfl rfl fld_36_3 (lt_ rfl) fun a H => s_load (v := D14.v) H rfl rfl one_34 (n21.cell (i := 6) rfl) (lt_ rfl) fun a H => s_blt H rfl (H.args (vs := [D14.v]) rfl) (lt_ rfl) (fun cs => b_lenS (z := D14) sl_34) fun a H => s_assign H rfl rfl (lt_ rfl) fun a H => c_nil <| hK22 _ _ <| c_seq fun K23 hK23 => c_reg ?_
 refine s_fld H rfl rfl fld_38_0 (lt_ rfl) fun a H => s_load (v := (.i K1)) H rfl rfl one_3 (n21.old (n18.cell (i := 0) rfl)) (lt_ rfl) fun a H => s_fld H rfl rfl fld_38_0 (lt_ rfl) fun a H => s_load (v := (.i K8)) H rfl rfl one_3 (n21.cell (i := 0) rfl) (lt_ rfl) fun a H => s_bin H rfl rfl rfl r_eql (lt_ rfl) fun a H => s_move H rfl rfl (lt_ rfl) fun a H => ?_
 refine g_join (n := 41) [(21, (.bool ((decide (K1 = K8)) && (decide (K2.toList = K9.toList))))), (2, (.pointer (some (blk b16)))), (3, (.pointer (some (blk b19)))), (5, (.i (D14.l : Int)))] (.succ (.succ (.succ (.succ (.succ (.succ (.zero _))))))) ?_ ?_
 ·intro h25
  try clear h
  rcases Bool.eq_false_or_eq_true (decide (K1 = K8)) with h24 | h24
  ·replace H := H.ch (t := 15) (b := true) rfl h24
   refine s_fld H (wantG H rfl rfl) rfl fld_38_1 (lt_ rfl) fun a H => s_load (v := (.string K2)) H (wantG H rfl rfl) rfl one_9 (n21.old (n18.cell (i := 1) rfl)) (lt_ rfl) fun a H => s_fld H (wantG H rfl rfl) rfl fld_38_1 (lt_ rfl) fun a H => s_load (v := (.string K9)) H (wantG H rfl rfl) rfl one_9 (n21.cell (i := 1) rfl) (lt_ rfl) fun a H => s_bin H (wantG H rfl rfl) rfl rfl r_eqlS (lt_ rfl) fun a H => s_pickT H rfl rfl rfl (lt_ rfl) fun a H => ?_
   exact h25 _ (H.weaken ⟨by rw [h24]; rfl, rfl, rfl, rfl, trivial⟩)
  ·replace H := H.ch (t := 15) (b := false) rfl h24
   iterate 5 refine s_skip H (wantN H rfl rfl rfl) rfl (lt_ rfl) fun a H => ?_
   refine s_pickF H rfl rfl rfl (lt_ rfl) fun a H => ?_
   exact h25 _ (H.weaken ⟨by rw [h24]; rfl, rfl, rfl, rfl, trivial⟩)
 ·clear H a
  intro a H
  refine s_move H rfl rfl (lt_ rfl) fun a H => ?_
  obtain ⟨R28, h, h53⟩ := h
  refine g_joinW (n := 41) R28 (fun x29 => [(28, (.bool x29)), (2, (.pointer (some (blk b16)))), (5, (.i (D14.l : Int)))]) (.succ (.succ (.succ (.succ (.succ (.succ (.zero _))))))) ?_ ?_
  ·intro h27
   clear h53
   rcases Bool.eq_false_or_eq_true ((decide (K1 = K8)) && (decide (K2.toList = K9.toList))) with h26 | h26
   ·replace H := H.ch (t := 22) (b := true) rfl h26
    replace h := h.1 h26
    refine s_fld H (wantG H rfl rfl) rfl fld_38_2 (lt_ rfl) fun a H => s_loadN (l := [(.i C3), (.i C4), (.bool F5), (.bool H6), D7.v]) H (wantG H rfl rfl) rfl agg_36 rfl ⟨(n21.old (n18.cell (i := 2) rfl)), (n21.old (n18.cell (i := 3) rfl)), (n21.old (n18.cell (i := 4) rfl)), (n21.old (n18.cell (i := 5) rfl)), (n21.old (n18.cell (i := 6) rfl)), trivial⟩ (lt_ rfl) fun a H => s_fld H (wantG H rfl rfl) rfl fld_38_2 (lt_ rfl) fun a H => ?_
    refine s_loadN (l := [(.i C10), (.i C11), (.bool F12), (.bool H13), D14.v]) H (wantG H rfl rfl) rfl agg_36 rfl ⟨(n21.cell (i := 2) rfl), (n21.cell (i := 3) rfl), (n21.cell (i := 4) rfl), (n21.cell (i := 5) rfl), (n21.cell (i := 6) rfl), trivial⟩ (lt_ rfl) fun a H => ?_
    refine s_call H (wantG H rfl rfl) body_16 (H.args (vs := [(.agg #[(.i C3), (.i C4), (.bool F5), (.bool H6), D7.v]), (.agg #[(.i C10), (.i C11), (.bool F12), (.bool H13), D14.v])]) rfl) (lt_ rfl) h ?_ (fun c w' h H => e_panic (P := PP) (fn := Tryz.f40) H h)
    clear H h a
    rintro _ w31 a ⟨s32, rfl, h⟩ H
    refine s_pickT H rfl rfl rfl (lt_ rfl) fun a H => ?_
    exact h27 _ _ _ h (H.weaken ⟨rfl, rfl, rfl, trivial⟩)
   ·replace H := H.ch (t := 22) (b := false) rfl h26
    replace h := h.2 h26
    iterate 5 refine s_skip H (wantN H rfl rfl rfl) rfl (lt_ rfl) fun a H => ?_
    refine s_pickF H rfl rfl rfl (lt_ rfl) fun a H => ?_
    exact h27 _ _ _ h (H.weaken ⟨rfl, rfl, rfl, trivial⟩)
  ·clear H a h
   intro a x29 w30 h H
   replace h := h53 x29 w30 h
   clear h53
   refine s_move H rfl rfl (lt_ rfl) fun a H => ?_
   obtain ⟨x50, h51, h52, h⟩ := h
   refine g_join (n := 41) [(40, (.bool x50))] (.succ (.succ (.succ (.succ (.succ (.succ (.succ (.succ (.succ (.succ (.succ (.zero _)))))))))))) ?_ ?_
   ·intro h38
    try clear h
    rcases Bool.eq_false_or_eq_true x29 with h37 | h37
    ·replace H := H.ch (t := 29) (b := true) rfl h37
     replace h := h51 h37
     refine s_fld H (wantG H rfl rfl) rfl fld_38_2 (lt_ rfl) fun a H => s_fld H (wantG H rfl rfl) rfl fld_36_3 (lt_ rfl) fun a H => ?_
     obtain ⟨l39, hc40, h⟩ := h
     refine s_load (v := l39.v) H (wantG H rfl rfl) rfl one_34 hc40 (lt_ rfl) fun a H => s_move H (wantG H rfl rfl) rfl (lt_ rfl) fun a H => s_bin H (wantG H rfl rfl) rfl rfl r_add (lt_ rfl) fun a H => ?_
     obtain ⟨h41, h42, h43, h⟩ := h
     refine s_slice (v := (Slc.v (l39.cut 1 (Int.toNat (0)) (Int.toNat (wr .i64 ((D14.l : Int) + 1)))))) H (wantG H rfl rfl) rfl ⟨rfl, rfl⟩ ⟨rfl, rfl⟩ ⟨rfl, rfl⟩ (r_sliceSlc (lo := none) (hi := (some (.i64, wr .i64 ((D14.l : Int) + 1)))) slc_34 rfl rfl h41 h42 h43) (lt_ rfl) fun a H => s_move H (wantG H rfl rfl) rfl (lt_ rfl) fun a H => ?_
     obtain ⟨a44, h45, h46, h47, h⟩ := h
     refine s_idxS (s := l39.cut 1 (Int.toNat (0)) (Int.toNat (wr .i64 ((D14.l : Int) + 1)))) H (wantG H rfl rfl) rfl rfl slc_34 h45 h46 h47 (lt_ rfl) fun a H => ?_
     obtain ⟨l48, hc49, h⟩ := h
     refine s_load (v := (.int .u8 l48)) H (wantG H rfl rfl) rfl one_5 hc49 (lt_ rfl) fun a H => s_bin H (wantG H rfl rfl) rfl rfl r_eql (lt_ rfl) fun a H => s_pickT H rfl rfl rfl (lt_ rfl) fun a H => ?_
     subst h
     exact h38 _ (H.weaken ⟨rfl, trivial⟩)
    ·replace H := H.ch (t := 29) (b := false) rfl h37
     iterate 10 refine s_skip H (wantN H rfl rfl rfl) rfl (lt_ rfl) fun a H => ?_
     refine s_pickF H rfl rfl rfl (lt_ rfl) fun a H => ?_
     replace h := h52 h37
     subst h
     exact h38 _ (H.weaken ⟨rfl, trivial⟩)
   ·clear H a
    clear h51 h52
    intro a H
    refine s_assign H rfl rfl (lt_ rfl) fun a H => c_nil <| hK23 _ _ <| c_ret ?_
    exact e_ret1 H rfl rfl h

theorem sim_sherdref15_Table_Apply (t1 : Option Addr) (K2 : Int) (K3 : ByteArray) (C4 C5 : Int) (F6 H7 : Bool) (D8 : Slc) (w : World) (Q : Ending → World → Prop) (h : vc_sherdref15_Table_Apply t1 K2 K3 C4 C5 F6 H7 D8 w Q) : Calls PP F_sherdref15_Table_Apply #[(.pointer t1), (.agg #[(.i K2), (.string K3), (.i C4), (.i C5), (.bool F6), (.bool H7), D8.v])] w Q := by
 unfold vc_sherdref15_Table_Apply at h
 refine enter (n := 61) Tryz.func41 rfl rfl (Nat.le_of_ble_eq_true rfl) fun a H => c_seq fun K9 hK9 => c_reg ?_
 replace h := h.get
 obtain ⟨b10, w11, n12, h⟩ := h
 refine s_box H rfl rfl (lt_ rfl) ?_
 rw [← n12.at_]
 clear H a
 intro a H
 refine n12.go <| s_assign H rfl rfl (lt_ rfl) fun a H => s_assign H rfl rfl (lt_ rfl) fun a H => c_nil <| hK9 _ _ <| c_seq fun K13 hK13 => c_seq fun K14 hK14 => c_reg <| s_move H rfl rfl (lt_ rfl) fun a H => s_bin H rfl rfl rfl (r_eqP0 ptr_25) (lt_ rfl) fun a H => c_nil <| hK14 _ _ <| c_cond H rfl (fun h15 => ?_) (fun h15 => ?_)
 ·replace h := h.1 h15
  refine c_seq fun K16 hK16 => c_reg <| s_assign H rfl rfl (lt_ rfl) fun a H => s_assign H rfl rfl (lt_ rfl) fun a H => c_nil <| hK16 _ _ <| c_ret ?_
  exact e_ret2 H rfl rfl rfl h
 ·replace h := h.2 h15
  refine c_skip <| hK13 _ _ <| c_seq fun K17 hK17 => c_seq fun K18 hK18 => c_reg <| s_loadN (l := [(.i K2), (.string K3), (.i C4), (.i C5), (.bool F6), (.bool H7), D8.v]) H rfl rfl agg_38 rfl ⟨(n12.cell (i := 0) rfl), (n12.cell (i := 1) rfl), (n12.cell (i := 2) rfl), (n12.cell (i := 3) rfl), (n12.cell (i := 4) rfl), (n12.cell (i := 5) rfl), (n12.cell (i := 6) rfl), trivial⟩ (lt_ rfl) fun a H => ?_
  refine s_call H rfl body_55 (H.args (vs := [(.agg #[(.i K2), (.string K3), (.i C4), (.i C5), (.bool F6), (.bool H7), D8.v])]) rfl) (lt_ rfl) h ?_ (fun c w' h H => e_panic (P := PP) (fn := Tryz.f41) H h)
  clear H h a
  rintro _ w19 a ⟨M20, rfl, h⟩ H
  refine s_un H rfl rfl r_not (lt_ rfl) fun a H => c_nil <| hK18 _ _ <| c_cond H rfl (fun h21 => ?_) (fun h21 => ?_)
  ·replace h := h.1 h21
   refine c_seq fun K22 hK22 => c_reg <| s_assign H rfl rfl (lt_ rfl) fun a H => s_assign H rfl rfl (lt_ rfl) fun a H => c_nil <| hK22 _ _ <| c_ret ?_
   exact e_ret2 H rfl rfl rfl h
  ·replace h := h.2 h21
   refine c_skip <| hK17 _ _ <| c_seq fun K23 hK23 => c_reg <| s_assign H rfl rfl (lt_ rfl) fun a H => c_nil <| hK23 _ _ <| c_seq fun K24 hK24 => ?_
   obtain ⟨R26, h, h101⟩ := h
   have h68 : ∀ (a : Act) (c25 : Bool) (w27 : World), R26 c25 w27 → Has 61 [] a [(0, (.pointer t1)), (3, (.pointer (some (blk b10)))), (6, (.bool c25))] → K24 a w27 := by
    clear h
    intro a c25 w27 h H
    replace h := h101 c25 w27 h
    refine hK24 _ _ <| c_seq fun K28 hK28 => ?_
    obtain ⟨R30, h, h67⟩ := h
    have h33 : ∀ (a : Act) (c29 : Bool) (w31 : World), R30 c29 w31 → Has 61 [] a [(6, (.bool c29))] → K28 a w31 := by
     clear h
     intro a c29 w31 h H
     replace h := h67 c29 w31 h
     refine hK28 _ _ <| c_seq fun K32 hK32 => c_reg <| s_move H rfl rfl (lt_ rfl) fun a H => s_assign H rfl rfl (lt_ rfl) fun a H => s_assign H rfl rfl (lt_ rfl) fun a H => c_nil <| hK32 _ _ <| c_ret ?_
     exact e_ret2 H rfl rfl rfl h
    clear h67
    refine c_seq fun K34 hK34 => c_reg <| s_fld H rfl rfl fld_38_0 (lt_ rfl) fun a H => ?_
    obtain ⟨l35, hc36, h⟩ := h
    refine s_load (v := (.i l35)) H rfl rfl one_3 hc36 (lt_ rfl) fun a H => s_bin H rfl rfl rfl r_eql (lt_ rfl) fun a H => s_move H rfl rfl (lt_ rfl) fun a H => ?_
    obtain ⟨x48, h49, h50, h⟩ := h
    refine g_join (n := 61) [(48, (.bool x48)), (0, (.pointer t1)), (3, (.pointer (some (blk b10)))), (6, (.bool c25))] (.succ (.succ (.succ (.succ (.succ (.succ (.succ (.succ (.succ (.zero _)))))))))) ?_ ?_
    ·intro h38
     try clear h
     rcases Bool.eq_false_or_eq_true (decide (l35 = 2)) with h37 | h37
     ·replace H := H.ch (t := 39) (b := true) rfl h37
      iterate 4 refine s_skip H (wantN H rfl rfl rfl) rfl (lt_ rfl) fun a H => ?_
      iterate 3 refine s_skip H (wantU H rfl rfl) rfl (lt_ rfl) fun a H => ?_
      refine s_skip H (wantN H rfl rfl rfl) rfl (lt_ rfl) fun a H => s_pickT H rfl rfl rfl (lt_ rfl) fun a H => ?_
      replace h := h50 h37
      subst h
      exact h38 _ (H.weaken ⟨rfl, rfl, rfl, rfl, trivial⟩)
     ·replace H := H.ch (t := 39) (b := false) rfl h37
      replace h := h49 h37
      refine s_fld H (wantG H rfl rfl) rfl fld_38_0 (lt_ rfl) fun a H => ?_
      obtain ⟨l39, hc40, h⟩ := h
      refine s_load (v := (.i l39)) H (wantG H rfl rfl) rfl one_3 hc40 (lt_ rfl) fun a H => s_bin H (wantG H rfl rfl) rfl rfl r_eql (lt_ rfl) fun a H => s_move H (wantG H rfl rfl) rfl (lt_ rfl) fun a H => ?_
      obtain ⟨x45, h46, h47, h⟩ := h
      refine g_join (n := 61) [(47, (.bool x45)), (0, (.pointer t1)), (3, (.pointer (some (blk b10)))), (6, (.bool c25)), (39, (.bool false))] (.succ (.succ (.succ (.succ (.zero _))))) ?_ ?_
      ·intro h42
       try clear h
       rcases Bool.eq_false_or_eq_true (decide (l39 = 3)) with h41 | h41
       ·replace H := H.ch (t := 43) (b := true) rfl h41
        replace h := h46 h41
        refine s_fld H (wantG H rfl rfl) rfl fld_38_2 (lt_ rfl) fun a H => s_fld H (wantG H rfl rfl) rfl fld_36_1 (lt_ rfl) fun a H => ?_
        obtain ⟨l43, hc44, h⟩ := h
        refine s_load (v := (.bool l43)) H (wantG H rfl rfl) rfl one_4 hc44 (lt_ rfl) fun a H => s_pickT H (wantG H rfl rfl) rfl rfl (lt_ rfl) fun a H => ?_
        subst h
        exact h42 _ (H.weaken ⟨rfl, rfl, rfl, rfl, rfl, trivial⟩)
       ·replace H := H.ch (t := 43) (b := false) rfl h41
        iterate 3 refine s_skip H (wantN H rfl rfl rfl) rfl (lt_ rfl) fun a H => ?_
        refine s_pickF H (wantG H rfl rfl) rfl rfl (lt_ rfl) fun a H => ?_
        replace h := h47 h41
        subst h
        exact h42 _ (H.weaken ⟨rfl, rfl, rfl, rfl, rfl, trivial⟩)
      ·clear H a
       clear h46 h47
       intro a H
       refine s_pickF H rfl rfl rfl (lt_ rfl) fun a H => ?_
       subst h
       exact h38 _ (H.weaken ⟨rfl, rfl, rfl, rfl, trivial⟩)
    ·clear H a
     clear h49 h50
     intro a H
     refine c_nil <| hK34 _ _ <| c_cond H rfl (fun h51 => ?_) (fun h51 => ?_)
     ·replace h := h.1 h51
      refine c_seq fun K52 hK52 => c_reg <| s_move H rfl rfl (lt_ rfl) fun a H => s_fld H rfl rfl fld_38_1 (lt_ rfl) fun a H => ?_
      obtain ⟨l53, hc54, h⟩ := h
      refine s_load (v := (.string l53)) H rfl rfl one_9 hc54 (lt_ rfl) fun a H => s_fld H rfl rfl fld_38_2 (lt_ rfl) fun a H => s_fld H rfl rfl fld_36_0 (lt_ rfl) fun a H => ?_
      obtain ⟨C55, hc56, C57, hc58, h⟩ := h
      refine s_loadN (l := [(.i C55), (.i C57)]) H rfl rfl agg_33 rfl ⟨hc56, hc58, trivial⟩ (lt_ rfl) fun a H => s_call H rfl body_57 (H.args (vs := [(.pointer t1), (.string l53), (.agg #[(.i C55), (.i C57)])]) rfl) (lt_ rfl) h ?_ (fun c w' h H => e_panic (P := PP) (fn := Tryz.f41) H h)
      clear H h a
      rintro _ w59 a ⟨f60, rfl, h⟩ H
      refine s_assign H rfl rfl (lt_ rfl) fun a H => c_nil <| hK52 _ _ <| c_reg <| s_move H rfl rfl (lt_ rfl) fun a H => s_move H rfl rfl (lt_ rfl) fun a H => g_join (n := 61) [(59, (.bool (c25 || f60)))] (.succ (.succ (.zero _))) ?_ ?_
      ·intro h62
       try clear h
       rcases Bool.eq_false_or_eq_true c25 with h61 | h61
       ·replace H := H.ch (t := 57) (b := true) rfl h61
        refine s_skip H (wantN H rfl rfl rfl) rfl (lt_ rfl) fun a H => s_pickT H rfl rfl rfl (lt_ rfl) fun a H => ?_
        exact h62 _ (H.weaken ⟨by rw [h61]; rfl, trivial⟩)
       ·replace H := H.ch (t := 57) (b := false) rfl h61
        refine s_move H (wantG H rfl rfl) rfl (lt_ rfl) fun a H => s_pickF H rfl rfl rfl (lt_ rfl) fun a H => ?_
        exact h62 _ (H.weaken ⟨by rw [h61]; rfl, trivial⟩)
      ·clear H a
       intro a H
       refine s_assign H rfl rfl (lt_ rfl) fun a H => c_nil ?_
       exact h33 _ _ _ h (H.weaken ⟨rfl, trivial⟩)
     ·replace h := h.2 h51
      refine c_skip ?_
      exact h33 _ _ _ h (H.weaken ⟨rfl, trivial⟩)
   clear h101
   refine c_seq fun K69 hK69 => c_reg <| s_fld H rfl rfl fld_38_0 (lt_ rfl) fun a H => ?_
   obtain ⟨l70, hc71, h⟩ := h
   refine s_load (v := (.i l70)) H rfl rfl one_3 hc71 (lt_ rfl) fun a H => s_bin H rfl rfl rfl r_eql (lt_ rfl) fun a H => s_move H rfl rfl (lt_ rfl) fun a H => ?_
   obtain ⟨x83, h84, h85, h⟩ := h
   refine g_join (n := 61) [(25, (.bool x83)), (0, (.pointer t1)), (3, (.pointer (some (blk b10)))), (6, (.bool false))] (.succ (.succ (.succ (.succ (.succ (.succ (.succ (.succ (.succ (.zero _)))))))))) ?_ ?_
   ·intro h73
    try clear h
    rcases Bool.eq_false_or_eq_true (decide (l70 = 1)) with h72 | h72
    ·replace H := H.ch (t := 16) (b := true) rfl h72
     iterate 4 refine s_skip H (wantN H rfl rfl rfl) rfl (lt_ rfl) fun a H => ?_
     iterate 3 refine s_skip H (wantU H rfl rfl) rfl (lt_ rfl) fun a H => ?_
     refine s_skip H (wantN H rfl rfl rfl) rfl (lt_ rfl) fun a H => s_pickT H rfl rfl rfl (lt_ rfl) fun a H => ?_
     replace h := h85 h72
     subst h
     exact h73 _ (H.weaken ⟨rfl, rfl, rfl, rfl, trivial⟩)
    ·replace H := H.ch (t := 16) (b := false) rfl h72
     replace h := h84 h72
     refine s_fld H (wantG H rfl rfl) rfl fld_38_0 (lt_ rfl) fun a H => ?_
     obtain ⟨l74, hc75, h⟩ := h
     refine s_load (v := (.i l74)) H (wantG H rfl rfl) rfl one_3 hc75 (lt_ rfl) fun a H => s_bin H (wantG H rfl rfl) rfl rfl r_eql (lt_ rfl) fun a H => s_move H (wantG H rfl rfl) rfl (lt_ rfl) fun a H => ?_
     obtain ⟨x80, h81, h82, h⟩ := h
     refine g_join (n := 61) [(24, (.bool x80)), (0, (.pointer t1)), (3, (.pointer (some (blk b10)))), (6, (.bool false)), (16, (.bool false))] (.succ (.succ (.succ (.succ (.zero _))))) ?_ ?_
     ·intro h77
      try clear h
      rcases Bool.eq_false_or_eq_true (decide (l74 = 3)) with h76 | h76
      ·replace H := H.ch (t := 20) (b := true) rfl h76
       replace h := h81 h76
       refine s_fld H (wantG H rfl rfl) rfl fld_38_2 (lt_ rfl) fun a H => s_fld H (wantG H rfl rfl) rfl fld_36_2 (lt_ rfl) fun a H => ?_
       obtain ⟨l78, hc79, h⟩ := h
       refine s_load (v := (.bool l78)) H (wantG H rfl rfl) rfl one_4 hc79 (lt_ rfl) fun a H => s_pickT H (wantG H rfl rfl) rfl rfl (lt_ rfl) fun a H => ?_
       subst h
       exact h77 _ (H.weaken ⟨rfl, rfl, rfl, rfl, rfl, trivial⟩)
      ·replace H := H.ch (t := 20) (b := false) rfl h76
       iterate 3 refine s_skip H (wantN H rfl rfl rfl) rfl (lt_ rfl) fun a H => ?_
       refine s_pickF H (wantG H rfl rfl) rfl rfl (lt_ rfl) fun a H => ?_
       replace h := h82 h76
       subst h
       exact h77 _ (H.weaken ⟨rfl, rfl, rfl, rfl, rfl, trivial⟩)
     ·clear H a
      clear h81 h82
      intro a H
      refine s_pickF H rfl rfl rfl (lt_ rfl) fun a H => ?_
      subst h
      exact h73 _ (H.weaken ⟨rfl, rfl, rfl, rfl, trivial⟩)
   ·clear H a
    clear h84 h85
    intro a H
    refine c_nil <| hK69 _ _ <| c_cond H rfl (fun h86 => ?_) (fun h86 => ?_)
    ·replace h := h.1 h86
     refine c_reg <| s_move H rfl rfl (lt_ rfl) fun a H => s_fld H rfl rfl fld_38_1 (lt_ rfl) fun a H => ?_
     obtain ⟨l87, hc88, h⟩ := h
     refine s_load (v := (.string l87)) H rfl rfl one_9 hc88 (lt_ rfl) fun a H => s_fld H rfl rfl fld_38_2 (lt_ rfl) fun a H => s_fld H rfl rfl fld_36_0 (lt_ rfl) fun a H => ?_
     obtain ⟨C89, hc90, C91, hc92, h⟩ := h
     refine s_loadN (l := [(.i C89), (.i C91)]) H rfl rfl agg_33 rfl ⟨hc90, hc92, trivial⟩ (lt_ rfl) fun a H => s_fld H rfl rfl fld_38_2 (lt_ rfl) fun a H => s_fld H rfl rfl fld_36_3 (lt_ rfl) fun a H => ?_
     obtain ⟨l93, hc94, h⟩ := h
     refine s_load (v := l93.v) H rfl rfl one_34 hc94 (lt_ rfl) fun a H => s_call H rfl body_56 (H.args (vs := [(.pointer t1), (.string l87), (.agg #[(.i C89), (.i C91)]), l93.v]) rfl) (lt_ rfl) h ?_ (fun c w' h H => e_panic (P := PP) (fn := Tryz.f41) H h)
     clear H h a
     rintro _ w95 a ⟨p96, rfl, h⟩ H
     refine s_assign H rfl rfl (lt_ rfl) fun a H => c_nil ?_
     exact h68 _ _ _ h (H.weaken ⟨rfl, rfl, rfl, trivial⟩)
    ·replace h := h.2 h86
     refine c_skip ?_
     exact h68 _ _ _ h (H.weaken ⟨rfl, rfl, rfl, trivial⟩)

theorem sim_sherdref15_Table_place (t1 : Option Addr) (k2 : ByteArray) (C3 C4 : Int) (w : World) (Q : Ending → World → Prop) (h : vc_sherdref15_Table_place t1 k2 C3 C4 w Q) : Calls PP F_sherdref15_Table_place #[(.pointer t1), (.string k2), (.agg #[(.i C3), (.i C4)])] w Q := by
 unfold vc_sherdref15_Table_place at h
 refine enter (n := 32) Tryz.func42 rfl rfl (Nat.le_of_ble_eq_true rfl) fun a H => c_seq fun K5 hK5 => c_reg ?_
 replace h := h.get
 obtain ⟨b6, w7, n8, h⟩ := h
 refine s_box H rfl rfl (lt_ rfl) ?_
 rw [← n8.at_]
 clear H a
 intro a H
 refine n8.go <| s_assign H rfl rfl (lt_ rfl) fun a H => c_nil <| hK5 _ _ <| c_seq fun K9 hK9 => c_seq fun K10 hK10 => c_reg <| s_move H rfl rfl (lt_ rfl) fun a H => ?_
 obtain ⟨a11, h64, h⟩ := h
 revert H
 subst h64
 intro H
 refine s_nil H rfl rfl (lt_ rfl) fun a H => s_fld H rfl rfl fld_49_1 (lt_ rfl) fun a H => ?_
 obtain ⟨l12, hc13, h⟩ := h
 refine s_load (v := l12.v) H rfl rfl one_47 hc13 (lt_ rfl) fun a H => s_blt H rfl (H.args (vs := [l12.v]) rfl) (lt_ rfl) (fun cs => b_lenS (z := l12) sl_47) fun a H => s_move H rfl rfl (lt_ rfl) fun a H => c_nil <| hK10 _ _ <| c_block ?_
 obtain ⟨I16, m17, h62, h63⟩ := h
 refine c_loop (σ := Int) (fun z w => I16 z w) (fun z w => m17 z w) (fun z => [(1, (.string k2)), (5, (.pointer (some (blk b6)))), (12, l12.v), (13, (.i (l12.l : Int))), (14, (.i z))]) 0 h62 (H.weaken ⟨rfl, rfl, rfl, rfl, rfl, trivial⟩) ?_
 clear H h62
 rintro s14 a w15 h H
 replace h := h63 s14 w15 h
 clear h63
 replace H : Has 32 [] a [(1, (.string k2)), (5, (.pointer (some (blk b6)))), (12, l12.v), (13, (.i (l12.l : Int))), (14, (.i s14))] := H
 refine c_seq fun K18 hK18 => c_reg <| s_bin H rfl rfl rfl r_lss (lt_ rfl) fun a H => c_nil <| hK18 _ _ <| c_seq fun K19 hK19 => c_cond H rfl (fun h20 => ?_) (fun h20 => ?_)
 ·replace h := h.1 h20
  refine c_skip <| hK19 _ _ <| c_seq fun K21 hK21 => c_block <| c_seq fun K22 hK22 => c_reg <| s_move H rfl rfl (lt_ rfl) fun a H => ?_
  obtain ⟨a23, h24, h25, h26, h⟩ := h
  refine s_idxS (s := l12) H rfl rfl rfl slc_47 h24 h25 h26 (lt_ rfl) fun a H => ?_
  obtain ⟨K27, hc28, C29, hc30, C31, hc32, F33, hc34, H35, hc36, D37, hc38, h⟩ := h
  refine s_loadN (l := [(.string K27), (.i C29), (.i C31), (.bool F33), (.bool H35), D37.v]) H rfl rfl agg_57 rfl ⟨hc28, hc30, hc32, hc34, hc36, hc38, trivial⟩ (lt_ rfl) fun a H => ?_
  replace h := h.get
  obtain ⟨b39, w40, n41, h⟩ := h
  refine s_alloc H rfl zero_57 (lt_ rfl) ?_
  rw [← n41.at_]
  clear H a
  intro a H
  refine n41.go <| s_assign H rfl rfl (lt_ rfl) fun a H => s_stoN (l := [(.string K27), (.i C29), (.i C31), (.bool F33), (.bool H35), D37.v]) H rfl rfl rfl rfl agg_57 rfl rfl h ?_
  clear h H
  intro w42 h H
  refine c_nil <| hK22 _ _ <| c_seq fun K43 hK43 => c_reg <| s_fld H rfl rfl fld_57_0 (lt_ rfl) fun a H => ?_
  obtain ⟨l44, hc45, h⟩ := h
  refine s_load (v := (.string l44)) H rfl rfl one_9 hc45 (lt_ rfl) fun a H => s_move H rfl rfl (lt_ rfl) fun a H => s_bin H rfl rfl rfl r_eqlS (lt_ rfl) fun a H => s_move H rfl rfl (lt_ rfl) fun a H => ?_
  obtain ⟨x56, h57, h58, h⟩ := h
  refine g_join (n := 32) [(29, (.bool x56)), (1, (.string k2)), (5, (.pointer (some (blk b6)))), (7, (.i s14)), (12, l12.v), (13, (.i (l12.l : Int))), (14, (.i s14))] (.succ (.succ (.succ (.succ (.succ (.succ (.zero _))))))) ?_ ?_
  ·intro h47
   try clear h
   rcases Bool.eq_false_or_eq_true (decide (l44.toList = k2.toList)) with h46 | h46
   ·replace H := H.ch (t := 23) (b := true) rfl h46
    replace h := h57 h46
    refine s_fld H (wantG H rfl rfl) rfl fld_57_1 (lt_ rfl) fun a H => s_fld H (wantG H rfl rfl) rfl fld_36_0 (lt_ rfl) fun a H => ?_
    obtain ⟨C48, hc49, C50, hc51, h⟩ := h
    refine s_loadN (l := [(.i C48), (.i C50)]) H (wantG H rfl rfl) rfl agg_33 rfl ⟨hc49, hc51, trivial⟩ (lt_ rfl) fun a H => ?_
    obtain ⟨C52, hc53, C54, hc55, h⟩ := h
    refine s_loadN (l := [(.i C52), (.i C54)]) H (wantG H rfl rfl) rfl agg_33 rfl ⟨hc53, hc55, trivial⟩ (lt_ rfl) fun a H => s_bin H (wantG H rfl rfl) rfl rfl (r_eqst eqg_33 (eqst_33 0) rfl) (lt_ rfl) fun a H => s_pickT H rfl rfl rfl (lt_ rfl) fun a H => ?_
    subst h
    exact h47 _ (H.weaken ⟨rfl, rfl, rfl, rfl, rfl, rfl, rfl, trivial⟩)
   ·replace H := H.ch (t := 23) (b := false) rfl h46
    iterate 5 refine s_skip H (wantN H rfl rfl rfl) rfl (lt_ rfl) fun a H => ?_
    refine s_pickF H rfl rfl rfl (lt_ rfl) fun a H => ?_
    replace h := h58 h46
    subst h
    exact h47 _ (H.weaken ⟨rfl, rfl, rfl, rfl, rfl, rfl, rfl, trivial⟩)
  ·clear H a
   clear h57 h58
   intro a H
   refine c_nil <| hK43 _ _ <| c_cond H rfl (fun h59 => ?_) (fun h59 => ?_)
   ·replace h := h.1 h59
    refine c_seq fun K60 hK60 => c_reg <| s_move H rfl rfl (lt_ rfl) fun a H => s_assign H rfl rfl (lt_ rfl) fun a H => c_nil <| hK60 _ _ <| c_ret ?_
    exact e_ret1 H rfl rfl h
   ·replace h := h.2 h59
    refine c_skip <| hK21 _ _ <| c_reg <| s_bin H rfl rfl rfl r_add (lt_ rfl) fun a H => s_move H rfl rfl (lt_ rfl) fun a H => c_nil <| Exists.intro (wr .i64 (s14 + 1)) ⟨h.1, h.2, H.weaken ⟨rfl, rfl, rfl, rfl, rfl, trivial⟩⟩
 ·replace h := h.2 h20
  refine c_exit ?_
  first | (simp only [Exit.then, Exit.inBlock, ↓reduceIte]; fail_if_success simp only [Nat.reduceEqDiff]) | simp only [Exit.then, Exit.inBlock, ↓reduceIte, Nat.reduceEqDiff]
  refine hK9 _ _ <| c_seq fun K61 hK61 => c_reg <| s_assign H rfl rfl (lt_ rfl) fun a H => c_nil <| hK61 _ _ <| c_ret ?_
  exact e_ret1 H rfl rfl h

theorem sim_tag_Max (t1 : Slc) (w : World) (Q : Ending → World → Prop) (h : vc_tag_Max t1 w Q) : Calls PP F_tag_Max #[t1.v] w Q := by
 unfold vc_tag_Max at h
 refine enter (n := 9) Tryz.func43 rfl rfl (Nat.le_of_ble_eq_true rfl) fun a H => c_seq fun K2 hK2 => c_reg ?_
 replace h := h.get
 obtain ⟨b3, w4, n5, h⟩ := h
 refine s_alloc H rfl zero_33 (lt_ rfl) ?_
 rw [← n5.at_]
 clear H a
 intro a H
 refine n5.go <| c_nil <| hK2 _ _ <| c_seq fun K6 hK6 => c_seq fun K7 hK7 => c_reg <| s_move H rfl rfl (lt_ rfl) fun a H => s_blt H rfl (H.args (vs := [t1.v]) rfl) (lt_ rfl) (fun cs => b_lenS (z := t1) sl_82) fun a H => s_bin H rfl rfl rfl r_eql (lt_ rfl) fun a H => c_nil <| hK7 _ _ <| c_cond H rfl (fun h8 => ?_) (fun h8 => ?_)
 ·replace h := h.1 h8
  refine c_seq fun K9 hK9 => c_reg <| s_build H rfl (by rw [H.parts (vs := []) rfl]; exact bd_33 w4) (lt_ rfl) fun a H => s_stoN (l := [(.i 0), (.i 0)]) H rfl rfl rfl rfl agg_33 rfl rfl h ?_
  clear h H
  intro w10 h H
  refine c_nil <| hK9 _ _ <| c_ret ?_
  obtain ⟨C11, hc12, C13, hc14, h⟩ := h
  exact e_ret1 H rfl ⟨_, rfl, run_loadN (l := [(.i C11), (.i C13)]) agg_33 rfl ⟨hc12, hc14, trivial⟩⟩ h
 ·replace h := h.2 h8
  refine c_skip <| hK6 _ _ <| c_seq fun K15 hK15 => c_reg <| s_move H rfl rfl (lt_ rfl) fun a H => s_call H rfl body_58 (H.args (vs := [t1.v, (.func (.func 49) #[] #[])]) rfl) (lt_ rfl) h ?_ (fun c w' h H => e_panic (P := PP) (fn := Tryz.f43) H h)
  clear H h a
  rintro _ w16 a ⟨C17, C18, rfl, h⟩ H
  refine s_stoN (l := [(.i C17), (.i C18)]) H rfl rfl rfl rfl agg_33 rfl rfl h ?_
  clear h H
  intro w19 h H
  refine c_nil <| hK15 _ _ <| c_ret ?_
  obtain ⟨C20, hc21, C22, hc23, h⟩ := h
  exact e_ret1 H rfl ⟨_, rfl, run_loadN (l := [(.i C20), (.i C22)]) agg_33 rfl ⟨hc21, hc23, trivial⟩⟩ h

theorem sim_table_shelf_finalized (s1 : Option Nat) (w : World) (Q : Ending → World → Prop) (h : vc_table_shelf_finalized s1 w Q) : Calls PP F_table_shelf_finalized #[(.map s1)] w Q := by
 unfold vc_table_shelf_finalized at h
 refine enter (n := 22) Tryz.func44 rfl rfl (Nat.le_of_ble_eq_true rfl) fun a H => c_seq fun K2 hK2 => c_reg <| s_assign H rfl rfl (lt_ rfl) fun a H => c_nil <| hK2 _ _ <| c_seq fun K3 hK3 => c_reg <| s_assign H rfl rfl (lt_ rfl) fun a H => c_nil <| hK3 _ _ <| c_seq fun K4 hK4 => c_seq fun K5 hK5 => c_reg <| s_move H rfl rfl (lt_ rfl) fun a H => ?_
 obtain ⟨i6, w7, h8, h⟩ := h
 refine s_rng H rfl rfl h8 (lt_ rfl) ?_
 clear H a h8
 intro a H
 refine c_nil <| hK5 _ _ <| c_block ?_
 obtain ⟨I11, m12, h59, h60⟩ := h
 refine c_loop (σ := Slc) (fun z w => I11 z w) (fun z w => m12 z w) (fun z => [(3, z.v), (7, (.pointer (some (blk i6))))]) Slc.nil h59 (H.weaken ⟨rfl, rfl, trivial⟩) ?_
 clear H h59
 rintro l9 a w10 h H
 replace h := h60 l9 w10 h
 clear h60
 replace H : Has 22 [] a [(3, l9.v), (7, (.pointer (some (blk i6))))] := H
 refine c_seq fun K13 hK13 => c_reg ?_
 obtain ⟨b14, r15, w16, h17, h⟩ := h
 refine s_nxt H rfl rfl h17 (lt_ rfl) ?_
 clear H a h17
 intro a H
 refine s_ext H rfl rfl rfl (lt_ rfl) fun a H => c_nil <| hK13 _ _ <| c_seq fun K18 hK18 => c_cond H rfl (fun h19 => ?_) (fun h19 => ?_)
 ·replace h := h.1 h19
  refine c_skip <| hK18 _ _ <| c_block <| c_seq fun K20 hK20 => c_reg ?_
  obtain ⟨_, h29, C21, C22, C23, C24, F25, H26, D27, rfl, h⟩ := h
  refine s_etr H rfl rfl h29 (lt_ rfl) ?_
  clear H a h29
  intro a H
  refine s_ext H rfl rfl rfl (lt_ rfl) fun a H => s_ext H rfl rfl rfl (lt_ rfl) fun a H => ?_
  replace h := h.get
  obtain ⟨b30, w31, n32, h⟩ := h
  refine s_alloc H rfl zero_33 (lt_ rfl) ?_
  rw [← n32.at_]
  clear H a
  intro a H
  refine n32.go ?_
  replace h := h.get
  obtain ⟨b33, w34, n35, h⟩ := h
  refine s_alloc H rfl zero_36 (lt_ rfl) ?_
  rw [← n35.at_]
  clear H a
  intro a H
  refine n35.go <| s_stoN (l := [(.i C21), (.i C22)]) H rfl rfl rfl rfl agg_33 rfl rfl h ?_
  clear h H
  intro w36 h H
  refine s_stoN (l := [(.i C23), (.i C24), (.bool F25), (.bool H26), D27.v]) H rfl rfl rfl rfl agg_36 rfl rfl h ?_
  clear h H
  intro w37 h H
  refine c_nil <| hK20 _ _ <| c_seq fun K38 hK38 => c_reg <| s_fld H rfl rfl fld_36_1 (lt_ rfl) fun a H => ?_
  obtain ⟨l39, hc40, h⟩ := h
  refine s_load (v := (.bool l39)) H rfl rfl one_4 hc40 (lt_ rfl) fun a H => c_nil <| hK38 _ _ <| c_cond H rfl (fun h41 => ?_) (fun h41 => ?_)
  ·replace h := h.1 h41
   refine c_reg <| s_move H rfl rfl (lt_ rfl) fun a H => ?_
   obtain ⟨C42, hc43, C44, hc45, h⟩ := h
   refine s_loadN (l := [(.i C42), (.i C44)]) H rfl rfl agg_33 rfl ⟨hc43, hc45, trivial⟩ (lt_ rfl) fun a H => ?_
   replace h := h.get
   obtain ⟨b46, w47, n48, h⟩ := h
   refine s_bslc H rfl (by rw [H.parts (vs := [(0, (.agg #[(.i C42), (.i C44)]))]) rfl]; exact bs_82_1_ii64ii640 w37 C42 C44) (lt_ rfl) ?_
   rw [← n48.at_]
   clear H a
   intro a H
   refine n48.go ?_
   obtain ⟨s49, w50, h51, h⟩ := h
   refine s_blt H rfl (H.args (vs := [l9.v, (Slc.v (Slc.mk (some (blk b46)) 1 1))]) rfl) (lt_ rfl) (fun cs => b_app (z := s49) h51) ?_
   clear H a h51
   intro a H
   refine s_assign H rfl rfl (lt_ rfl) fun a H => c_nil <| Exists.intro s49 ⟨h.1, h.2, H.weaken ⟨rfl, rfl, trivial⟩⟩
  ·replace h := h.2 h41
   refine c_skip <| Exists.intro l9 ⟨h.1, h.2, H.weaken ⟨rfl, rfl, trivial⟩⟩
 ·replace h := h.2 h19
  refine c_exit ?_
  first | (simp only [Exit.then, Exit.inBlock, ↓reduceIte]; fail_if_success simp only [Nat.reduceEqDiff]) | simp only [Exit.then, Exit.inBlock, ↓reduceIte, Nat.reduceEqDiff]
  refine hK4 _ _ <| c_seq fun K52 hK52 => c_reg <| s_move H rfl rfl (lt_ rfl) fun a H => s_call H rfl body_59 (H.args (vs := [l9.v, (.func (.func 60) #[] #[])]) rfl) (lt_ rfl) h ?_ (fun c w' h H => e_panic (P := PP) (fn := Tryz.f44) H h)
  clear H h a
  rintro _ w53 a ⟨rfl, h⟩ H
  refine c_nil <| hK52 _ _ <| c_seq fun K54 hK54 => c_reg <| s_move H rfl rfl (lt_ rfl) fun a H => s_assign H rfl rfl (lt_ rfl) fun a H => c_nil <| hK54 _ _ <| c_ret ?_
  exact e_ret1 H rfl rfl h
end Go.Proofs.YtgnceldnfefnmaaGreat
