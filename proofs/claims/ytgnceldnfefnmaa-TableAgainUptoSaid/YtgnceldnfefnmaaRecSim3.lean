/-
  The conditions give the machine's calls; printed by vcgen.py.
-/
import Derived.Test.YtgnceldnfefnmaaRecVc
namespace Go.Proofs.Ytgnceldnfefnmaa
open Go Go.Vc
set_option maxRecDepth 100000
set_option maxHeartbeats 4000000
theorem sim_sherdlaw15_sameAll (a1 b2 : Slc) (w : World) (Q : Ending → World → Prop) (h : vc_sherdlaw15_sameAll a1 b2 w Q) : Calls PP F_sherdlaw15_sameAll #[a1.v, b2.v] w Q := by
 unfold vc_sherdlaw15_sameAll at h
 refine enter (n := 42) Try.func20 rfl rfl (Nat.le_of_ble_eq_true rfl) fun a H => c_seq fun K3 hK3 => c_reg <| s_assign H rfl rfl (lt_ rfl) fun a H => c_nil <| hK3 _ _ <| c_seq fun K4 hK4 => c_seq fun K5 hK5 => c_reg <| s_move H rfl rfl (lt_ rfl) fun a H => s_blt H rfl (H.args (vs := [a1.v]) rfl) (lt_ rfl) (fun cs => b_lenS (z := a1) sl_54) fun a H => s_move H rfl rfl (lt_ rfl) fun a H => s_blt H rfl (H.args (vs := [b2.v]) rfl) (lt_ rfl) (fun cs => b_lenS (z := b2) sl_54) fun a H => ?_
 refine s_bin H rfl rfl rfl r_neq (lt_ rfl) fun a H => c_nil <| hK5 _ _ <| c_cond H rfl (fun h6 => ?_) (fun h6 => ?_)
 ·replace h := h.1 h6
  refine c_seq fun K7 hK7 => c_reg <| s_assign H rfl rfl (lt_ rfl) fun a H => c_nil <| hK7 _ _ <| c_ret ?_
  exact e_ret1 H rfl rfl h
 ·replace h := h.2 h6
  refine c_skip <| hK4 _ _ <| c_seq fun K8 hK8 => c_seq fun K9 hK9 => c_reg <| s_move H rfl rfl (lt_ rfl) fun a H => s_blt H rfl (H.args (vs := [a1.v]) rfl) (lt_ rfl) (fun cs => b_lenS (z := a1) sl_54) fun a H => s_move H rfl rfl (lt_ rfl) fun a H => c_nil <| hK9 _ _ <| c_block ?_
  obtain ⟨I12, m13, h59, h60⟩ := h
  refine c_loop (σ := Int) (fun z w => I12 z w) (fun z w => m13 z w) (fun z => [(0, a1.v), (1, b2.v), (12, (.i (a1.l : Int))), (13, (.i z))]) 0 h59 (H.weaken ⟨rfl, rfl, rfl, rfl, trivial⟩) ?_
  clear H h59
  rintro s10 a w11 h H
  replace h := h60 s10 w11 h
  clear h60
  replace H : Has 42 [] a [(0, a1.v), (1, b2.v), (12, (.i (a1.l : Int))), (13, (.i s10))] := H
  refine c_seq fun K14 hK14 => c_reg <| s_bin H rfl rfl rfl r_lss (lt_ rfl) fun a H => c_nil <| hK14 _ _ <| c_seq fun K15 hK15 => c_cond H rfl (fun h16 => ?_) (fun h16 => ?_)
  ·replace h := h.1 h16
   refine c_skip <| hK15 _ _ <| c_seq fun K17 hK17 => c_block <| c_seq fun K18 hK18 => c_reg <| s_move H rfl rfl (lt_ rfl) fun a H => s_assign H rfl rfl (lt_ rfl) fun a H => c_nil <| hK18 _ _ <| c_seq fun K19 hK19 => ?_
   obtain ⟨R21, h, h57⟩ := h
   have h25 : ∀ (a : Act) (s20 : Bool) (w22 : World), R21 s20 w22 → Has 42 [] a [(0, a1.v), (1, b2.v), (12, (.i (a1.l : Int))), (13, (.i s10)), (40, (.bool s20))] → K19 a w22 := by
    clear h
    intro a s20 w22 h H
    replace h := h57 s20 w22 h
    refine hK19 _ _ <| c_cond H rfl (fun h23 => ?_) (fun h23 => ?_)
    ·replace h := h.1 h23
     refine c_seq fun K24 hK24 => c_reg <| s_assign H rfl rfl (lt_ rfl) fun a H => c_nil <| hK24 _ _ <| c_ret ?_
     exact e_ret1 H rfl rfl h
    ·replace h := h.2 h23
     refine c_skip <| hK17 _ _ <| c_reg <| s_bin H rfl rfl rfl r_add (lt_ rfl) fun a H => s_move H rfl rfl (lt_ rfl) fun a H => c_nil <| Exists.intro (wr .i64 (s10 + 1)) ⟨h.1, h.2, H.weaken ⟨rfl, rfl, rfl, rfl, trivial⟩⟩
   clear h57
   replace H := H.weaken (L' := [(0, a1.v), (1, b2.v), (5, (.i s10)), (12, (.i (a1.l : Int))), (13, (.i s10))]) ⟨rfl, rfl, rfl, rfl, rfl, trivial⟩
   obtain ⟨a26, h27, h28, h29, l30, hc31, a32, h33, h34, h35, l36, hc37, h⟩ := h
   rcases Bool.eq_false_or_eq_true (decide (l30.toList ≠ l36.toList)) with h38 | h38
   ·replace h := h.1 h38
    refine c_any (V := [(0, a1.v), (1, (.i s10)), (2, (.pointer (some (a26.add (Int.toNat (s10) * 2))))), (3, (.pointer (some ((a26.add (Int.toNat (s10) * 2)).add 0)))), (4, (.string l30)), (5, b2.v), (6, (.i s10)), (7, (.pointer (some (a32.add (Int.toNat (s10) * 2))))), (8, (.pointer (some ((a32.add (Int.toNat (s10) * 2)).add 0)))), (9, (.string l36)), (10, (.bool (decide (l30.toList ≠ l36.toList)))), (11, (.bool (decide (l30.toList ≠ l36.toList)))), (12, undef), (13, undef), (14, undef), (15, undef), (16, undef), (17, undef), (18, undef), (19, undef), (20, undef), (21, undef)]) (⟨[[], [], [0, 1], [2], [3], [], [], [5, 6], [7], [8], [4, 9], [10], [11], [11], [11, 12, 13], [11, 14], [11, 15], [11], [11], [11, 17, 18], [11, 19], [11, 20], [11, 16, 21], [11, 22], [11, 23]], [some 16, some 17, some 18, some 19, some 20, some 21, some 22, some 23, some 24, some 25, some 26, some 27, some 28, some 29, some 30, some 31, some 32, some 33, some 34, some 35, some 36, some 37, some 38, some 39, some 40], [22], [0, 0, 0, 0, 0, 0, 0, 0, 0, 0, 0, 0, 0, 0, 0, 0, 0, 0, 0, 0, 0, 0, 0, 1, 1], [0, 0, 0, 0, 0, 0, 0, 0, 0, 0, 0, 0, 0, 0, 0, 0, 0, 0, 0, 0, 0, 0, 1, 1, 1]⟩ : Rg) [(0, a1.v), (1, b2.v), (5, (.i s10)), (12, (.i (a1.l : Int))), (13, (.i s10))] mixed (by kernel_rfl) H ?_
    refine Stg.eff [0, 1, 2, 3, 4, 5, 6, 7, 8, 9, 10, 11, 12, 13, 14, 15, 16, 17, 18, 19, 20, 21] (by kernel_rfl) rfl (.cons ?_ (.cons ?_ (.cons ?_ (.cons ?_ (.cons ?_ (.cons ?_ (.cons ?_ (.cons ?_ (.cons ?_ (.cons ?_ (.cons ?_ (.cons ?_ (.cons ?_ (.cons ?_ (.cons ?_ (.cons ?_ (.cons ?_ (.cons ?_ (.cons ?_ (.cons ?_ (.cons ?_ (.cons ?_ .nil)))))))))))))))))))))) ?_
    ·refine Ans.mk rfl rfl fun a H => s_move H rfl rfl (lt_ rfl) fun a H => ?_
     exact Ans.fin H rfl
    ·refine Ans.mk rfl rfl fun a H => s_move H rfl rfl (lt_ rfl) fun a H => ?_
     exact Ans.fin H rfl
    ·refine Ans.mk rfl rfl fun a H => s_idxS (s := a1) H rfl rfl rfl slc_54 h27 h28 h29 (lt_ rfl) fun a H => ?_
     exact Ans.fin H rfl
    ·refine Ans.mk rfl rfl fun a H => s_fld H rfl rfl fld_87_0 (lt_ rfl) fun a H => ?_
     exact Ans.fin H rfl
    ·refine Ans.mk rfl rfl fun a H => s_load (v := (.string l30)) H rfl rfl one_9 hc31 (lt_ rfl) fun a H => ?_
     exact Ans.fin H rfl
    ·refine Ans.mk rfl rfl fun a H => s_move H rfl rfl (lt_ rfl) fun a H => ?_
     exact Ans.fin H rfl
    ·refine Ans.mk rfl rfl fun a H => s_move H rfl rfl (lt_ rfl) fun a H => ?_
     exact Ans.fin H rfl
    ·refine Ans.mk rfl rfl fun a H => s_idxS (s := b2) H rfl rfl rfl slc_54 h33 h34 h35 (lt_ rfl) fun a H => ?_
     exact Ans.fin H rfl
    ·refine Ans.mk rfl rfl fun a H => s_fld H rfl rfl fld_87_0 (lt_ rfl) fun a H => ?_
     exact Ans.fin H rfl
    ·refine Ans.mk rfl rfl fun a H => s_load (v := (.string l36)) H rfl rfl one_9 hc37 (lt_ rfl) fun a H => ?_
     exact Ans.fin H rfl
    ·refine Ans.mk rfl rfl fun a H => s_bin H rfl rfl rfl r_neqS (lt_ rfl) fun a H => ?_
     exact Ans.fin H rfl
    ·refine Ans.mk rfl rfl fun a H => s_move H rfl rfl (lt_ rfl) fun a H => ?_
     exact Ans.fin H rfl
    ·exact .skip rfl rfl rfl rfl rfl rfl h38 rfl
    ·exact .skip rfl rfl rfl rfl rfl rfl h38 rfl
    ·exact .skip rfl rfl rfl rfl rfl rfl h38 rfl
    ·exact .skip rfl rfl rfl rfl rfl rfl h38 rfl
    ·exact .skip rfl rfl rfl rfl rfl rfl h38 rfl
    ·exact .skip rfl rfl rfl rfl rfl rfl h38 rfl
    ·exact .skip rfl rfl rfl rfl rfl rfl h38 rfl
    ·exact .skip rfl rfl rfl rfl rfl rfl h38 rfl
    ·exact .skip rfl rfl rfl rfl rfl rfl h38 rfl
    ·exact .skip rfl rfl rfl rfl rfl rfl h38 rfl
    ·intro a H
     replace H := H.weaken (L' := [(27, (.bool (decide (l30.toList ≠ l36.toList)))), (32, undef), (37, undef)]) ⟨rfl, rfl, rfl, trivial⟩
     replace H := H.ch (t := 27) (b := true) rfl h38
     refine s_skip H (wantN H rfl rfl rfl) rfl (lt_ rfl) fun a H => c_nil <| effQ.go [(23, undef), (24, (.bool true))] H rfl rfl <| Stg.fin [23, 24] (by kernel_rfl) (.cons ?_ (.cons ?_ .nil)) ?_
     ·exact .skip rfl rfl rfl rfl rfl rfl h38 rfl
     ·refine Ans.mk rfl rfl fun a H => ?_
      replace H := H.ch (t := 27) (b := true) rfl h38
      refine s_pickT H rfl rfl rfl (lt_ rfl) fun a H => ?_
      exact Ans.fin H rfl
     ·intro a H
      replace H := H.weaken (L' := [(0, a1.v), (1, b2.v), (12, (.i (a1.l : Int))), (13, (.i s10)), (40, (.bool true))]) ⟨rfl, rfl, rfl, rfl, rfl, trivial⟩
      exact h25 _ _ _ h (H.weaken ⟨rfl, rfl, rfl, rfl, rfl, trivial⟩)
   ·replace h := h.2 h38
    obtain ⟨a39, h40, h41, h42, l43, hc44, a45, h46, h47, h48, l49, hc50, h⟩ := h
    refine c_any (V := [(0, a1.v), (1, (.i s10)), (2, (.pointer (some (a26.add (Int.toNat (s10) * 2))))), (3, (.pointer (some ((a26.add (Int.toNat (s10) * 2)).add 0)))), (4, (.string l30)), (5, b2.v), (6, (.i s10)), (7, (.pointer (some (a32.add (Int.toNat (s10) * 2))))), (8, (.pointer (some ((a32.add (Int.toNat (s10) * 2)).add 0)))), (9, (.string l36)), (10, (.bool (decide (l30.toList ≠ l36.toList)))), (11, (.bool (decide (l30.toList ≠ l36.toList)))), (12, a1.v), (13, (.i s10)), (14, (.pointer (some (a39.add (Int.toNat (s10) * 2))))), (15, (.pointer (some ((a39.add (Int.toNat (s10) * 2)).add 1)))), (16, l43.v), (17, b2.v), (18, (.i s10)), (19, (.pointer (some (a45.add (Int.toNat (s10) * 2))))), (20, (.pointer (some ((a45.add (Int.toNat (s10) * 2)).add 1)))), (21, l49.v)]) (⟨[[], [], [0, 1], [2], [3], [], [], [5, 6], [7], [8], [4, 9], [10], [11], [11], [11, 12, 13], [11, 14], [11, 15], [11], [11], [11, 17, 18], [11, 19], [11, 20], [11, 16, 21], [11, 22], [11, 23]], [some 16, some 17, some 18, some 19, some 20, some 21, some 22, some 23, some 24, some 25, some 26, some 27, some 28, some 29, some 30, some 31, some 32, some 33, some 34, some 35, some 36, some 37, some 38, some 39, some 40], [22], [0, 0, 0, 0, 0, 0, 0, 0, 0, 0, 0, 0, 0, 0, 0, 0, 0, 0, 0, 0, 0, 0, 0, 1, 1], [0, 0, 0, 0, 0, 0, 0, 0, 0, 0, 0, 0, 0, 0, 0, 0, 0, 0, 0, 0, 0, 0, 1, 1, 1]⟩ : Rg) [(0, a1.v), (1, b2.v), (5, (.i s10)), (12, (.i (a1.l : Int))), (13, (.i s10))] mixed (by kernel_rfl) H ?_
    refine Stg.eff [0, 1, 2, 3, 4, 5, 6, 7, 8, 9, 10, 11, 12, 13, 14, 15, 16, 17, 18, 19, 20, 21] (by kernel_rfl) rfl (.cons ?_ (.cons ?_ (.cons ?_ (.cons ?_ (.cons ?_ (.cons ?_ (.cons ?_ (.cons ?_ (.cons ?_ (.cons ?_ (.cons ?_ (.cons ?_ (.cons ?_ (.cons ?_ (.cons ?_ (.cons ?_ (.cons ?_ (.cons ?_ (.cons ?_ (.cons ?_ (.cons ?_ (.cons ?_ .nil)))))))))))))))))))))) ?_
    ·refine Ans.mk rfl rfl fun a H => s_move H rfl rfl (lt_ rfl) fun a H => ?_
     exact Ans.fin H rfl
    ·refine Ans.mk rfl rfl fun a H => s_move H rfl rfl (lt_ rfl) fun a H => ?_
     exact Ans.fin H rfl
    ·refine Ans.mk rfl rfl fun a H => s_idxS (s := a1) H rfl rfl rfl slc_54 h27 h28 h29 (lt_ rfl) fun a H => ?_
     exact Ans.fin H rfl
    ·refine Ans.mk rfl rfl fun a H => s_fld H rfl rfl fld_87_0 (lt_ rfl) fun a H => ?_
     exact Ans.fin H rfl
    ·refine Ans.mk rfl rfl fun a H => s_load (v := (.string l30)) H rfl rfl one_9 hc31 (lt_ rfl) fun a H => ?_
     exact Ans.fin H rfl
    ·refine Ans.mk rfl rfl fun a H => s_move H rfl rfl (lt_ rfl) fun a H => ?_
     exact Ans.fin H rfl
    ·refine Ans.mk rfl rfl fun a H => s_move H rfl rfl (lt_ rfl) fun a H => ?_
     exact Ans.fin H rfl
    ·refine Ans.mk rfl rfl fun a H => s_idxS (s := b2) H rfl rfl rfl slc_54 h33 h34 h35 (lt_ rfl) fun a H => ?_
     exact Ans.fin H rfl
    ·refine Ans.mk rfl rfl fun a H => s_fld H rfl rfl fld_87_0 (lt_ rfl) fun a H => ?_
     exact Ans.fin H rfl
    ·refine Ans.mk rfl rfl fun a H => s_load (v := (.string l36)) H rfl rfl one_9 hc37 (lt_ rfl) fun a H => ?_
     exact Ans.fin H rfl
    ·refine Ans.mk rfl rfl fun a H => s_bin H rfl rfl rfl r_neqS (lt_ rfl) fun a H => ?_
     exact Ans.fin H rfl
    ·refine Ans.mk rfl rfl fun a H => s_move H rfl rfl (lt_ rfl) fun a H => ?_
     exact Ans.fin H rfl
    ·refine Ans.mk rfl rfl fun a H => ?_
     replace H := H.ch (t := 27) (b := false) rfl h38
     refine s_move H (wantG H rfl rfl) rfl (lt_ rfl) fun a H => ?_
     exact Ans.fin H rfl
    ·refine Ans.mk rfl rfl fun a H => ?_
     replace H := H.ch (t := 27) (b := false) rfl h38
     refine s_move H (wantG H rfl rfl) rfl (lt_ rfl) fun a H => ?_
     exact Ans.fin H rfl
    ·refine Ans.mk rfl rfl fun a H => ?_
     replace H := H.ch (t := 27) (b := false) rfl h38
     refine s_idxS (s := a1) H (wantG H rfl rfl) rfl rfl slc_54 h40 h41 h42 (lt_ rfl) fun a H => ?_
     exact Ans.fin H rfl
    ·refine Ans.mk rfl rfl fun a H => ?_
     replace H := H.ch (t := 27) (b := false) rfl h38
     refine s_fld H (wantG H rfl rfl) rfl fld_87_1 (lt_ rfl) fun a H => ?_
     exact Ans.fin H rfl
    ·refine Ans.mk rfl rfl fun a H => ?_
     replace H := H.ch (t := 27) (b := false) rfl h38
     refine s_load (v := l43.v) H (wantG H rfl rfl) rfl one_42 hc44 (lt_ rfl) fun a H => ?_
     exact Ans.fin H rfl
    ·refine Ans.mk rfl rfl fun a H => ?_
     replace H := H.ch (t := 27) (b := false) rfl h38
     refine s_move H (wantG H rfl rfl) rfl (lt_ rfl) fun a H => ?_
     exact Ans.fin H rfl
    ·refine Ans.mk rfl rfl fun a H => ?_
     replace H := H.ch (t := 27) (b := false) rfl h38
     refine s_move H (wantG H rfl rfl) rfl (lt_ rfl) fun a H => ?_
     exact Ans.fin H rfl
    ·refine Ans.mk rfl rfl fun a H => ?_
     replace H := H.ch (t := 27) (b := false) rfl h38
     refine s_idxS (s := b2) H (wantG H rfl rfl) rfl rfl slc_54 h46 h47 h48 (lt_ rfl) fun a H => ?_
     exact Ans.fin H rfl
    ·refine Ans.mk rfl rfl fun a H => ?_
     replace H := H.ch (t := 27) (b := false) rfl h38
     refine s_fld H (wantG H rfl rfl) rfl fld_87_1 (lt_ rfl) fun a H => ?_
     exact Ans.fin H rfl
    ·refine Ans.mk rfl rfl fun a H => ?_
     replace H := H.ch (t := 27) (b := false) rfl h38
     refine s_load (v := l49.v) H (wantG H rfl rfl) rfl one_42 hc50 (lt_ rfl) fun a H => ?_
     exact Ans.fin H rfl
    ·intro a H
     replace H := H.weaken (L' := [(27, (.bool (decide (l30.toList ≠ l36.toList)))), (32, l43.v), (37, l49.v)]) ⟨rfl, rfl, rfl, trivial⟩
     replace H := H.ch (t := 27) (b := false) rfl h38
     refine s_call H (wantG H rfl rfl) body_19 (H.args (vs := [l43.v, l49.v]) rfl) (lt_ rfl) h ?_ (fun c w' h H => e_panic (P := PP) (fn := Try.f20) H h)
     clear H h a
     rintro _ w51 a ⟨s52, rfl, h⟩ H
     refine c_nil <| effQ.go [(23, (.bool (!s52))), (24, (.bool (!s52)))] H rfl rfl <| Stg.fin [23, 24] (by kernel_rfl) (.cons ?_ (.cons ?_ .nil)) ?_
     ·refine Ans.mk rfl rfl fun a H => ?_
      replace H := H.ch (t := 27) (b := false) rfl h38
      refine s_un H (wantG H rfl rfl) rfl r_not (lt_ rfl) fun a H => ?_
      exact Ans.fin H rfl
     ·refine Ans.mk rfl rfl fun a H => ?_
      replace H := H.ch (t := 27) (b := false) rfl h38
      refine s_pickF H rfl rfl rfl (lt_ rfl) fun a H => ?_
      exact Ans.fin H rfl
     ·intro a H
      replace H := H.weaken (L' := [(0, a1.v), (1, b2.v), (12, (.i (a1.l : Int))), (13, (.i s10)), (40, (.bool (!s52)))]) ⟨rfl, rfl, rfl, rfl, rfl, trivial⟩
      exact h25 _ _ _ h (H.weaken ⟨rfl, rfl, rfl, rfl, rfl, trivial⟩)
  ·replace h := h.2 h16
   refine c_exit ?_
   first | (simp only [Exit.then, Exit.inBlock, ↓reduceIte]; fail_if_success simp only [Nat.reduceEqDiff]) | simp only [Exit.then, Exit.inBlock, ↓reduceIte, Nat.reduceEqDiff]
   refine hK8 _ _ <| c_seq fun K58 hK58 => c_reg <| s_assign H rfl rfl (lt_ rfl) fun a H => c_nil <| hK58 _ _ <| c_ret ?_
   exact e_ret1 H rfl rfl h

theorem sim_table_Table_All (t1 : Option Addr) (w : World) (Q : Ending → World → Prop) (h : vc_table_Table_All t1 w Q) : Calls PP F_table_Table_All #[(.pointer t1)] w Q := by
 unfold vc_table_Table_All at h
 refine enter (n := 23) Try.func21 rfl rfl (Nat.le_of_ble_eq_true rfl) fun a H => c_seq fun K2 hK2 => c_reg <| s_assign H rfl rfl (lt_ rfl) fun a H => c_nil <| hK2 _ _ <| c_seq fun K3 hK3 => c_reg <| s_assign H rfl rfl (lt_ rfl) fun a H => c_nil <| hK3 _ _ <| c_seq fun K4 hK4 => c_seq fun K5 hK5 => c_reg <| s_move H rfl rfl (lt_ rfl) fun a H => s_call H rfl body_41 (H.args (vs := [(.pointer t1)]) rfl) (lt_ rfl) h ?_ (fun c w' h H => e_panic (P := PP) (fn := Try.f21) H h)
 clear H h a
 rintro _ w6 a ⟨K7, rfl, h⟩ H
 refine s_blt H rfl (H.args (vs := [K7.v]) rfl) (lt_ rfl) (fun cs => b_lenS (z := K7) sl_72) fun a H => s_move H rfl rfl (lt_ rfl) fun a H => c_nil <| hK5 _ _ <| c_block ?_
 obtain ⟨I11, m12, h37, h38⟩ := h
 refine c_loop (σ := Slc × Int) (fun z w => I11 z.1 z.2 w) (fun z w => m12 z.1 z.2 w) (fun z => [(0, (.pointer t1)), (3, z.1.v), (7, K7.v), (8, (.i (K7.l : Int))), (9, (.i z.2))]) (Slc.nil, 0) h37 (H.weaken ⟨rfl, rfl, rfl, rfl, rfl, trivial⟩) ?_
 clear H h37
 rintro ⟨l8, s9⟩ a w10 h H
 replace h := h38 l8 s9 w10 h
 clear h38
 replace H : Has 23 [] a [(0, (.pointer t1)), (3, l8.v), (7, K7.v), (8, (.i (K7.l : Int))), (9, (.i s9))] := H
 refine c_seq fun K13 hK13 => c_reg <| s_bin H rfl rfl rfl r_lss (lt_ rfl) fun a H => c_nil <| hK13 _ _ <| c_seq fun K14 hK14 => c_cond H rfl (fun h15 => ?_) (fun h15 => ?_)
 ·replace h := h.1 h15
  refine c_skip <| hK14 _ _ <| c_seq fun K16 hK16 => c_block <| c_seq fun K17 hK17 => c_reg ?_
  obtain ⟨a18, h19, h20, h21, h⟩ := h
  refine s_idxS (s := K7) H rfl rfl rfl slc_72 h19 h20 h21 (lt_ rfl) fun a H => ?_
  obtain ⟨l22, hc23, h⟩ := h
  refine s_load (v := (.string l22)) H rfl rfl one_9 hc23 (lt_ rfl) fun a H => s_assign H rfl rfl (lt_ rfl) fun a H => c_nil <| hK17 _ _ <| c_reg ?_
  iterate 4 refine s_move H rfl rfl (lt_ rfl) fun a H => ?_
  refine s_call H rfl body_12 (H.args (vs := [(.pointer t1), (.string l22)]) rfl) (lt_ rfl) h ?_ (fun c w' h H => e_panic (P := PP) (fn := Try.f21) H h)
  clear H h a
  rintro _ w24 a ⟨E25, rfl, h⟩ H
  refine s_build H rfl (by rw [H.parts (vs := [(0, (.string l22)), (1, E25.v)]) rfl]; exact bd_87_s0_s1 w24 l22 E25) (lt_ rfl) fun a H => ?_
  replace h := h.get
  obtain ⟨b26, w27, n28, h⟩ := h
  refine s_bslc H rfl (by rw [H.parts (vs := [(0, (.agg #[(.string l22), E25.v]))]) rfl]; exact bs_54_1_ss0 w24 l22 E25) (lt_ rfl) ?_
  rw [← n28.at_]
  clear H a
  intro a H
  refine n28.go ?_
  obtain ⟨s29, w30, h31, h⟩ := h
  refine s_blt H rfl (H.args (vs := [l8.v, (Slc.v (Slc.mk (some (blk b26)) 1 1))]) rfl) (lt_ rfl) (fun cs => b_app (z := s29) h31) ?_
  clear H a h31
  intro a H
  refine s_assign H rfl rfl (lt_ rfl) fun a H => c_nil <| hK16 _ _ <| c_reg <| s_bin H rfl rfl rfl r_add (lt_ rfl) fun a H => s_move H rfl rfl (lt_ rfl) fun a H => c_nil <| Exists.intro (s29, wr .i64 (s9 + 1)) ⟨h.1, h.2, H.weaken ⟨rfl, rfl, rfl, rfl, rfl, trivial⟩⟩
 ·replace h := h.2 h15
  refine c_exit ?_
  first | (simp only [Exit.then, Exit.inBlock, ↓reduceIte]; fail_if_success simp only [Nat.reduceEqDiff]) | simp only [Exit.then, Exit.inBlock, ↓reduceIte, Nat.reduceEqDiff]
  refine hK4 _ _ <| c_seq fun K36 hK36 => c_reg <| s_move H rfl rfl (lt_ rfl) fun a H => s_assign H rfl rfl (lt_ rfl) fun a H => c_nil <| hK36 _ _ <| c_ret ?_
  exact e_ret1 H rfl rfl h

theorem sim_sherdlaw15_sameUpdates (a1 b2 : Slc) (w : World) (Q : Ending → World → Prop) (h : vc_sherdlaw15_sameUpdates a1 b2 w Q) : Calls PP F_sherdlaw15_sameUpdates #[a1.v, b2.v] w Q := by
 unfold vc_sherdlaw15_sameUpdates at h
 refine enter (n := 55) Try.func22 rfl rfl (Nat.le_of_ble_eq_true rfl) fun a H => c_seq fun K3 hK3 => c_reg <| s_assign H rfl rfl (lt_ rfl) fun a H => c_nil <| hK3 _ _ <| c_seq fun K4 hK4 => c_seq fun K5 hK5 => c_reg <| s_move H rfl rfl (lt_ rfl) fun a H => s_blt H rfl (H.args (vs := [a1.v]) rfl) (lt_ rfl) (fun cs => b_lenS (z := a1) sl_57) fun a H => s_move H rfl rfl (lt_ rfl) fun a H => s_blt H rfl (H.args (vs := [b2.v]) rfl) (lt_ rfl) (fun cs => b_lenS (z := b2) sl_57) fun a H => ?_
 refine s_bin H rfl rfl rfl r_neq (lt_ rfl) fun a H => c_nil <| hK5 _ _ <| c_cond H rfl (fun h6 => ?_) (fun h6 => ?_)
 ·replace h := h.1 h6
  refine c_seq fun K7 hK7 => c_reg <| s_assign H rfl rfl (lt_ rfl) fun a H => c_nil <| hK7 _ _ <| c_ret ?_
  exact e_ret1 H rfl rfl h
 ·replace h := h.2 h6
  refine c_skip <| hK4 _ _ <| c_seq fun K8 hK8 => c_seq fun K9 hK9 => c_reg <| s_move H rfl rfl (lt_ rfl) fun a H => s_blt H rfl (H.args (vs := [a1.v]) rfl) (lt_ rfl) (fun cs => b_lenS (z := a1) sl_57) fun a H => s_move H rfl rfl (lt_ rfl) fun a H => c_nil <| hK9 _ _ <| c_block ?_
  obtain ⟨I12, m13, h88, h89⟩ := h
  refine c_loop (σ := Int) (fun z w => I12 z w) (fun z w => m13 z w) (fun z => [(0, a1.v), (1, b2.v), (12, (.i (a1.l : Int))), (13, (.i z))]) 0 h88 (H.weaken ⟨rfl, rfl, rfl, rfl, trivial⟩) ?_
  clear H h88
  rintro s10 a w11 h H
  replace h := h89 s10 w11 h
  clear h89
  replace H : Has 55 [] a [(0, a1.v), (1, b2.v), (12, (.i (a1.l : Int))), (13, (.i s10))] := H
  refine c_seq fun K14 hK14 => c_reg <| s_bin H rfl rfl rfl r_lss (lt_ rfl) fun a H => c_nil <| hK14 _ _ <| c_seq fun K15 hK15 => c_cond H rfl (fun h16 => ?_) (fun h16 => ?_)
  ·replace h := h.1 h16
   refine c_skip <| hK15 _ _ <| c_seq fun K17 hK17 => c_block <| c_seq fun K18 hK18 => c_reg <| s_move H rfl rfl (lt_ rfl) fun a H => s_assign H rfl rfl (lt_ rfl) fun a H => c_nil <| hK18 _ _ <| c_seq fun K19 hK19 => ?_
   obtain ⟨R21, h, h86⟩ := h
   have h25 : ∀ (a : Act) (s20 : Bool) (w22 : World), R21 s20 w22 → Has 55 [] a [(0, a1.v), (1, b2.v), (12, (.i (a1.l : Int))), (13, (.i s10)), (53, (.bool s20))] → K19 a w22 := by
    clear h
    intro a s20 w22 h H
    replace h := h86 s20 w22 h
    refine hK19 _ _ <| c_cond H rfl (fun h23 => ?_) (fun h23 => ?_)
    ·replace h := h.1 h23
     refine c_seq fun K24 hK24 => c_reg <| s_assign H rfl rfl (lt_ rfl) fun a H => c_nil <| hK24 _ _ <| c_ret ?_
     exact e_ret1 H rfl rfl h
    ·replace h := h.2 h23
     refine c_skip <| hK17 _ _ <| c_reg <| s_bin H rfl rfl rfl r_add (lt_ rfl) fun a H => s_move H rfl rfl (lt_ rfl) fun a H => c_nil <| Exists.intro (wr .i64 (s10 + 1)) ⟨h.1, h.2, H.weaken ⟨rfl, rfl, rfl, rfl, trivial⟩⟩
   clear h86
   replace H := H.weaken (L' := [(0, a1.v), (1, b2.v), (5, (.i s10)), (12, (.i (a1.l : Int))), (13, (.i s10))]) ⟨rfl, rfl, rfl, rfl, rfl, trivial⟩
   obtain ⟨a26, h27, h28, h29, l30, hc31, a32, h33, h34, h35, l36, hc37, h⟩ := h
   rcases Bool.eq_false_or_eq_true (decide (l30 ≠ l36)) with h38 | h38
   ·replace h := h.1 h38
    refine c_any (V := [(0, a1.v), (1, (.i s10)), (2, (.pointer (some (a26.add (Int.toNat (s10) * 7))))), (3, (.pointer (some ((a26.add (Int.toNat (s10) * 7)).add 0)))), (4, (.i l30)), (5, b2.v), (6, (.i s10)), (7, (.pointer (some (a32.add (Int.toNat (s10) * 7))))), (8, (.pointer (some ((a32.add (Int.toNat (s10) * 7)).add 0)))), (9, (.i l36)), (10, (.bool (decide (l30 ≠ l36)))), (11, (.bool (decide (l30 ≠ l36)))), (12, undef), (13, undef), (14, undef), (15, undef), (16, undef), (17, undef), (18, undef), (19, undef), (20, undef), (21, undef), (22, undef), (23, (.bool true)), (24, (.bool true)), (25, undef), (26, undef), (27, undef), (28, undef), (29, undef), (30, undef), (31, undef), (32, undef), (33, undef), (34, undef)]) (⟨[[], [], [0, 1], [2], [3], [], [], [5, 6], [7], [8], [4, 9], [10], [11], [11], [11, 12, 13], [11, 14], [11, 15], [11], [11], [11, 17, 18], [11, 19], [11, 20], [11, 16, 21], [11, 22], [11, 23], [24], [24], [24, 25, 26], [24, 27], [24, 28], [24], [24], [24, 30, 31], [24, 32], [24, 33], [24, 29, 34], [24, 35], [24, 36]], [some 16, some 17, some 18, some 19, some 20, some 21, some 22, some 23, some 24, some 25, some 26, some 27, some 28, some 29, some 30, some 31, some 32, some 33, some 34, some 35, some 36, some 37, some 38, some 39, some 40, some 41, some 42, some 43, some 44, some 45, some 46, some 47, some 48, some 49, some 50, some 51, some 52, some 53], [35], [0, 0, 0, 0, 0, 0, 0, 0, 0, 0, 0, 0, 0, 0, 0, 0, 0, 0, 0, 0, 0, 0, 0, 0, 0, 0, 0, 0, 0, 0, 0, 0, 0, 0, 0, 0, 1, 1], [0, 0, 0, 0, 0, 0, 0, 0, 0, 0, 0, 0, 0, 0, 0, 0, 0, 0, 0, 0, 0, 0, 0, 0, 0, 0, 0, 0, 0, 0, 0, 0, 0, 0, 0, 1, 1, 1]⟩ : Rg) [(0, a1.v), (1, b2.v), (5, (.i s10)), (12, (.i (a1.l : Int))), (13, (.i s10))] mixed (by kernel_rfl) H ?_
    refine Stg.eff [0, 1, 2, 3, 4, 5, 6, 7, 8, 9, 10, 11, 12, 13, 14, 15, 16, 17, 18, 19, 20, 21, 22, 23, 24, 25, 26, 27, 28, 29, 30, 31, 32, 33, 34] (by kernel_rfl) rfl (.cons ?_ (.cons ?_ (.cons ?_ (.cons ?_ (.cons ?_ (.cons ?_ (.cons ?_ (.cons ?_ (.cons ?_ (.cons ?_ (.cons ?_ (.cons ?_ (.cons ?_ (.cons ?_ (.cons ?_ (.cons ?_ (.cons ?_ (.cons ?_ (.cons ?_ (.cons ?_ (.cons ?_ (.cons ?_ (.cons ?_ (.cons ?_ (.cons ?_ (.cons ?_ (.cons ?_ (.cons ?_ (.cons ?_ (.cons ?_ (.cons ?_ (.cons ?_ (.cons ?_ (.cons ?_ (.cons ?_ .nil))))))))))))))))))))))))))))))))))) ?_
    ·refine Ans.mk rfl rfl fun a H => s_move H rfl rfl (lt_ rfl) fun a H => ?_
     exact Ans.fin H rfl
    ·refine Ans.mk rfl rfl fun a H => s_move H rfl rfl (lt_ rfl) fun a H => ?_
     exact Ans.fin H rfl
    ·refine Ans.mk rfl rfl fun a H => s_idxS (s := a1) H rfl rfl rfl slc_57 h27 h28 h29 (lt_ rfl) fun a H => ?_
     exact Ans.fin H rfl
    ·refine Ans.mk rfl rfl fun a H => s_fld H rfl rfl fld_39_0 (lt_ rfl) fun a H => ?_
     exact Ans.fin H rfl
    ·refine Ans.mk rfl rfl fun a H => s_load (v := (.i l30)) H rfl rfl one_3 hc31 (lt_ rfl) fun a H => ?_
     exact Ans.fin H rfl
    ·refine Ans.mk rfl rfl fun a H => s_move H rfl rfl (lt_ rfl) fun a H => ?_
     exact Ans.fin H rfl
    ·refine Ans.mk rfl rfl fun a H => s_move H rfl rfl (lt_ rfl) fun a H => ?_
     exact Ans.fin H rfl
    ·refine Ans.mk rfl rfl fun a H => s_idxS (s := b2) H rfl rfl rfl slc_57 h33 h34 h35 (lt_ rfl) fun a H => ?_
     exact Ans.fin H rfl
    ·refine Ans.mk rfl rfl fun a H => s_fld H rfl rfl fld_39_0 (lt_ rfl) fun a H => ?_
     exact Ans.fin H rfl
    ·refine Ans.mk rfl rfl fun a H => s_load (v := (.i l36)) H rfl rfl one_3 hc37 (lt_ rfl) fun a H => ?_
     exact Ans.fin H rfl
    ·refine Ans.mk rfl rfl fun a H => s_bin H rfl rfl rfl r_neq (lt_ rfl) fun a H => ?_
     exact Ans.fin H rfl
    ·refine Ans.mk rfl rfl fun a H => s_move H rfl rfl (lt_ rfl) fun a H => ?_
     exact Ans.fin H rfl
    ·exact .skip rfl rfl rfl rfl rfl rfl h38 rfl
    ·exact .skip rfl rfl rfl rfl rfl rfl h38 rfl
    ·exact .skip rfl rfl rfl rfl rfl rfl h38 rfl
    ·exact .skip rfl rfl rfl rfl rfl rfl h38 rfl
    ·exact .skip rfl rfl rfl rfl rfl rfl h38 rfl
    ·exact .skip rfl rfl rfl rfl rfl rfl h38 rfl
    ·exact .skip rfl rfl rfl rfl rfl rfl h38 rfl
    ·exact .skip rfl rfl rfl rfl rfl rfl h38 rfl
    ·exact .skip rfl rfl rfl rfl rfl rfl h38 rfl
    ·exact .skip rfl rfl rfl rfl rfl rfl h38 rfl
    ·exact .skip rfl rfl rfl rfl rfl rfl h38 rfl
    ·refine Ans.mk rfl rfl fun a H => ?_
     replace H := H.ch (t := 27) (b := true) rfl h38
     refine s_pickT H rfl rfl rfl (lt_ rfl) fun a H => ?_
     exact Ans.fin H rfl
    ·refine Ans.mk rfl rfl fun a H => s_move H rfl rfl (lt_ rfl) fun a H => ?_
     exact Ans.fin H rfl
    ·exact .skip rfl rfl rfl rfl rfl rfl rfl rfl
    ·exact .skip rfl rfl rfl rfl rfl rfl rfl rfl
    ·exact .skip rfl rfl rfl rfl rfl rfl rfl rfl
    ·exact .skip rfl rfl rfl rfl rfl rfl rfl rfl
    ·exact .skip rfl rfl rfl rfl rfl rfl rfl rfl
    ·exact .skip rfl rfl rfl rfl rfl rfl rfl rfl
    ·exact .skip rfl rfl rfl rfl rfl rfl rfl rfl
    ·exact .skip rfl rfl rfl rfl rfl rfl rfl rfl
    ·exact .skip rfl rfl rfl rfl rfl rfl rfl rfl
    ·exact .skip rfl rfl rfl rfl rfl rfl rfl rfl
    ·intro a H
     replace H := H.weaken (L' := [(40, (.bool true)), (45, undef), (50, undef)]) ⟨rfl, rfl, rfl, trivial⟩
     refine s_skip H (wantN H rfl rfl rfl) rfl (lt_ rfl) fun a H => c_nil <| effQ.go [(36, undef), (37, (.bool true))] H rfl rfl <| Stg.fin [36, 37] (by kernel_rfl) (.cons ?_ (.cons ?_ .nil)) ?_
     ·exact .skip rfl rfl rfl rfl rfl rfl rfl rfl
     ·refine Ans.mk rfl rfl fun a H => s_pickT H rfl rfl rfl (lt_ rfl) fun a H => ?_
      exact Ans.fin H rfl
     ·intro a H
      replace H := H.weaken (L' := [(0, a1.v), (1, b2.v), (12, (.i (a1.l : Int))), (13, (.i s10)), (53, (.bool true))]) ⟨rfl, rfl, rfl, rfl, rfl, trivial⟩
      exact h25 _ _ _ h (H.weaken ⟨rfl, rfl, rfl, rfl, rfl, trivial⟩)
   ·replace h := h.2 h38
    obtain ⟨a39, h40, h41, h42, l43, hc44, a45, h46, h47, h48, l49, hc50, h⟩ := h
    rcases Bool.eq_false_or_eq_true (decide (l43.toList ≠ l49.toList)) with h51 | h51
    ·replace h := h.1 h51
     refine c_any (V := [(0, a1.v), (1, (.i s10)), (2, (.pointer (some (a26.add (Int.toNat (s10) * 7))))), (3, (.pointer (some ((a26.add (Int.toNat (s10) * 7)).add 0)))), (4, (.i l30)), (5, b2.v), (6, (.i s10)), (7, (.pointer (some (a32.add (Int.toNat (s10) * 7))))), (8, (.pointer (some ((a32.add (Int.toNat (s10) * 7)).add 0)))), (9, (.i l36)), (10, (.bool (decide (l30 ≠ l36)))), (11, (.bool (decide (l30 ≠ l36)))), (12, a1.v), (13, (.i s10)), (14, (.pointer (some (a39.add (Int.toNat (s10) * 7))))), (15, (.pointer (some ((a39.add (Int.toNat (s10) * 7)).add 1)))), (16, (.string l43)), (17, b2.v), (18, (.i s10)), (19, (.pointer (some (a45.add (Int.toNat (s10) * 7))))), (20, (.pointer (some ((a45.add (Int.toNat (s10) * 7)).add 1)))), (21, (.string l49)), (22, (.bool (decide (l43.toList ≠ l49.toList)))), (23, (.bool (decide (l43.toList ≠ l49.toList)))), (24, (.bool (decide (l43.toList ≠ l49.toList)))), (25, undef), (26, undef), (27, undef), (28, undef), (29, undef), (30, undef), (31, undef), (32, undef), (33, undef), (34, undef)]) (⟨[[], [], [0, 1], [2], [3], [], [], [5, 6], [7], [8], [4, 9], [10], [11], [11], [11, 12, 13], [11, 14], [11, 15], [11], [11], [11, 17, 18], [11, 19], [11, 20], [11, 16, 21], [11, 22], [11, 23], [24], [24], [24, 25, 26], [24, 27], [24, 28], [24], [24], [24, 30, 31], [24, 32], [24, 33], [24, 29, 34], [24, 35], [24, 36]], [some 16, some 17, some 18, some 19, some 20, some 21, some 22, some 23, some 24, some 25, some 26, some 27, some 28, some 29, some 30, some 31, some 32, some 33, some 34, some 35, some 36, some 37, some 38, some 39, some 40, some 41, some 42, some 43, some 44, some 45, some 46, some 47, some 48, some 49, some 50, some 51, some 52, some 53], [35], [0, 0, 0, 0, 0, 0, 0, 0, 0, 0, 0, 0, 0, 0, 0, 0, 0, 0, 0, 0, 0, 0, 0, 0, 0, 0, 0, 0, 0, 0, 0, 0, 0, 0, 0, 0, 1, 1], [0, 0, 0, 0, 0, 0, 0, 0, 0, 0, 0, 0, 0, 0, 0, 0, 0, 0, 0, 0, 0, 0, 0, 0, 0, 0, 0, 0, 0, 0, 0, 0, 0, 0, 0, 1, 1, 1]⟩ : Rg) [(0, a1.v), (1, b2.v), (5, (.i s10)), (12, (.i (a1.l : Int))), (13, (.i s10))] mixed (by kernel_rfl) H ?_
     refine Stg.eff [0, 1, 2, 3, 4, 5, 6, 7, 8, 9, 10, 11, 12, 13, 14, 15, 16, 17, 18, 19, 20, 21, 22, 23, 24, 25, 26, 27, 28, 29, 30, 31, 32, 33, 34] (by kernel_rfl) rfl (.cons ?_ (.cons ?_ (.cons ?_ (.cons ?_ (.cons ?_ (.cons ?_ (.cons ?_ (.cons ?_ (.cons ?_ (.cons ?_ (.cons ?_ (.cons ?_ (.cons ?_ (.cons ?_ (.cons ?_ (.cons ?_ (.cons ?_ (.cons ?_ (.cons ?_ (.cons ?_ (.cons ?_ (.cons ?_ (.cons ?_ (.cons ?_ (.cons ?_ (.cons ?_ (.cons ?_ (.cons ?_ (.cons ?_ (.cons ?_ (.cons ?_ (.cons ?_ (.cons ?_ (.cons ?_ (.cons ?_ .nil))))))))))))))))))))))))))))))))))) ?_
     ·refine Ans.mk rfl rfl fun a H => s_move H rfl rfl (lt_ rfl) fun a H => ?_
      exact Ans.fin H rfl
     ·refine Ans.mk rfl rfl fun a H => s_move H rfl rfl (lt_ rfl) fun a H => ?_
      exact Ans.fin H rfl
     ·refine Ans.mk rfl rfl fun a H => s_idxS (s := a1) H rfl rfl rfl slc_57 h27 h28 h29 (lt_ rfl) fun a H => ?_
      exact Ans.fin H rfl
     ·refine Ans.mk rfl rfl fun a H => s_fld H rfl rfl fld_39_0 (lt_ rfl) fun a H => ?_
      exact Ans.fin H rfl
     ·refine Ans.mk rfl rfl fun a H => s_load (v := (.i l30)) H rfl rfl one_3 hc31 (lt_ rfl) fun a H => ?_
      exact Ans.fin H rfl
     ·refine Ans.mk rfl rfl fun a H => s_move H rfl rfl (lt_ rfl) fun a H => ?_
      exact Ans.fin H rfl
     ·refine Ans.mk rfl rfl fun a H => s_move H rfl rfl (lt_ rfl) fun a H => ?_
      exact Ans.fin H rfl
     ·refine Ans.mk rfl rfl fun a H => s_idxS (s := b2) H rfl rfl rfl slc_57 h33 h34 h35 (lt_ rfl) fun a H => ?_
      exact Ans.fin H rfl
     ·refine Ans.mk rfl rfl fun a H => s_fld H rfl rfl fld_39_0 (lt_ rfl) fun a H => ?_
      exact Ans.fin H rfl
     ·refine Ans.mk rfl rfl fun a H => s_load (v := (.i l36)) H rfl rfl one_3 hc37 (lt_ rfl) fun a H => ?_
      exact Ans.fin H rfl
     ·refine Ans.mk rfl rfl fun a H => s_bin H rfl rfl rfl r_neq (lt_ rfl) fun a H => ?_
      exact Ans.fin H rfl
     ·refine Ans.mk rfl rfl fun a H => s_move H rfl rfl (lt_ rfl) fun a H => ?_
      exact Ans.fin H rfl
     ·refine Ans.mk rfl rfl fun a H => ?_
      replace H := H.ch (t := 27) (b := false) rfl h38
      refine s_move H (wantG H rfl rfl) rfl (lt_ rfl) fun a H => ?_
      exact Ans.fin H rfl
     ·refine Ans.mk rfl rfl fun a H => ?_
      replace H := H.ch (t := 27) (b := false) rfl h38
      refine s_move H (wantG H rfl rfl) rfl (lt_ rfl) fun a H => ?_
      exact Ans.fin H rfl
     ·refine Ans.mk rfl rfl fun a H => ?_
      replace H := H.ch (t := 27) (b := false) rfl h38
      refine s_idxS (s := a1) H (wantG H rfl rfl) rfl rfl slc_57 h40 h41 h42 (lt_ rfl) fun a H => ?_
      exact Ans.fin H rfl
     ·refine Ans.mk rfl rfl fun a H => ?_
      replace H := H.ch (t := 27) (b := false) rfl h38
      refine s_fld H (wantG H rfl rfl) rfl fld_39_1 (lt_ rfl) fun a H => ?_
      exact Ans.fin H rfl
     ·refine Ans.mk rfl rfl fun a H => ?_
      replace H := H.ch (t := 27) (b := false) rfl h38
      refine s_load (v := (.string l43)) H (wantG H rfl rfl) rfl one_9 hc44 (lt_ rfl) fun a H => ?_
      exact Ans.fin H rfl
     ·refine Ans.mk rfl rfl fun a H => ?_
      replace H := H.ch (t := 27) (b := false) rfl h38
      refine s_move H (wantG H rfl rfl) rfl (lt_ rfl) fun a H => ?_
      exact Ans.fin H rfl
     ·refine Ans.mk rfl rfl fun a H => ?_
      replace H := H.ch (t := 27) (b := false) rfl h38
      refine s_move H (wantG H rfl rfl) rfl (lt_ rfl) fun a H => ?_
      exact Ans.fin H rfl
     ·refine Ans.mk rfl rfl fun a H => ?_
      replace H := H.ch (t := 27) (b := false) rfl h38
      refine s_idxS (s := b2) H (wantG H rfl rfl) rfl rfl slc_57 h46 h47 h48 (lt_ rfl) fun a H => ?_
      exact Ans.fin H rfl
     ·refine Ans.mk rfl rfl fun a H => ?_
      replace H := H.ch (t := 27) (b := false) rfl h38
      refine s_fld H (wantG H rfl rfl) rfl fld_39_1 (lt_ rfl) fun a H => ?_
      exact Ans.fin H rfl
     ·refine Ans.mk rfl rfl fun a H => ?_
      replace H := H.ch (t := 27) (b := false) rfl h38
      refine s_load (v := (.string l49)) H (wantG H rfl rfl) rfl one_9 hc50 (lt_ rfl) fun a H => ?_
      exact Ans.fin H rfl
     ·refine Ans.mk rfl rfl fun a H => ?_
      replace H := H.ch (t := 27) (b := false) rfl h38
      refine s_bin H (wantG H rfl rfl) rfl rfl r_neqS (lt_ rfl) fun a H => ?_
      exact Ans.fin H rfl
     ·refine Ans.mk rfl rfl fun a H => ?_
      replace H := H.ch (t := 27) (b := false) rfl h38
      refine s_pickF H rfl rfl rfl (lt_ rfl) fun a H => ?_
      exact Ans.fin H rfl
     ·refine Ans.mk rfl rfl fun a H => s_move H rfl rfl (lt_ rfl) fun a H => ?_
      exact Ans.fin H rfl
     ·exact .skip rfl rfl rfl rfl rfl rfl h51 rfl
     ·exact .skip rfl rfl rfl rfl rfl rfl h51 rfl
     ·exact .skip rfl rfl rfl rfl rfl rfl h51 rfl
     ·exact .skip rfl rfl rfl rfl rfl rfl h51 rfl
     ·exact .skip rfl rfl rfl rfl rfl rfl h51 rfl
     ·exact .skip rfl rfl rfl rfl rfl rfl h51 rfl
     ·exact .skip rfl rfl rfl rfl rfl rfl h51 rfl
     ·exact .skip rfl rfl rfl rfl rfl rfl h51 rfl
     ·exact .skip rfl rfl rfl rfl rfl rfl h51 rfl
     ·exact .skip rfl rfl rfl rfl rfl rfl h51 rfl
     ·intro a H
      replace H := H.weaken (L' := [(40, (.bool (decide (l43.toList ≠ l49.toList)))), (45, undef), (50, undef)]) ⟨rfl, rfl, rfl, trivial⟩
      replace H := H.ch (t := 40) (b := true) rfl h51
      refine s_skip H (wantN H rfl rfl rfl) rfl (lt_ rfl) fun a H => c_nil <| effQ.go [(36, undef), (37, (.bool true))] H rfl rfl <| Stg.fin [36, 37] (by kernel_rfl) (.cons ?_ (.cons ?_ .nil)) ?_
      ·exact .skip rfl rfl rfl rfl rfl rfl h51 rfl
      ·refine Ans.mk rfl rfl fun a H => ?_
       replace H := H.ch (t := 40) (b := true) rfl h51
       refine s_pickT H rfl rfl rfl (lt_ rfl) fun a H => ?_
       exact Ans.fin H rfl
      ·intro a H
       replace H := H.weaken (L' := [(0, a1.v), (1, b2.v), (12, (.i (a1.l : Int))), (13, (.i s10)), (53, (.bool true))]) ⟨rfl, rfl, rfl, rfl, rfl, trivial⟩
       exact h25 _ _ _ h (H.weaken ⟨rfl, rfl, rfl, rfl, rfl, trivial⟩)
    ·replace h := h.2 h51
     obtain ⟨a52, h53, h54, h55, C56, hc57, C58, hc59, F60, hc61, H62, hc63, D64, hc65, a66, h67, h68, h69, C70, hc71, C72, hc73, F74, hc75, H76, hc77, D78, hc79, h⟩ := h
     refine c_any (V := [(0, a1.v), (1, (.i s10)), (2, (.pointer (some (a26.add (Int.toNat (s10) * 7))))), (3, (.pointer (some ((a26.add (Int.toNat (s10) * 7)).add 0)))), (4, (.i l30)), (5, b2.v), (6, (.i s10)), (7, (.pointer (some (a32.add (Int.toNat (s10) * 7))))), (8, (.pointer (some ((a32.add (Int.toNat (s10) * 7)).add 0)))), (9, (.i l36)), (10, (.bool (decide (l30 ≠ l36)))), (11, (.bool (decide (l30 ≠ l36)))), (12, a1.v), (13, (.i s10)), (14, (.pointer (some (a39.add (Int.toNat (s10) * 7))))), (15, (.pointer (some ((a39.add (Int.toNat (s10) * 7)).add 1)))), (16, (.string l43)), (17, b2.v), (18, (.i s10)), (19, (.pointer (some (a45.add (Int.toNat (s10) * 7))))), (20, (.pointer (some ((a45.add (Int.toNat (s10) * 7)).add 1)))), (21, (.string l49)), (22, (.bool (decide (l43.toList ≠ l49.toList)))), (23, (.bool (decide (l43.toList ≠ l49.toList)))), (24, (.bool (decide (l43.toList ≠ l49.toList)))), (25, a1.v), (26, (.i s10)), (27, (.pointer (some (a52.add (Int.toNat (s10) * 7))))), (28, (.pointer (some ((a52.add (Int.toNat (s10) * 7)).add 2)))), (29, (.agg #[(.i C56), (.i C58), (.bool F60), (.bool H62), D64.v])), (30, b2.v), (31, (.i s10)), (32, (.pointer (some (a66.add (Int.toNat (s10) * 7))))), (33, (.pointer (some ((a66.add (Int.toNat (s10) * 7)).add 2)))), (34, (.agg #[(.i C70), (.i C72), (.bool F74), (.bool H76), D78.v]))]) (⟨[[], [], [0, 1], [2], [3], [], [], [5, 6], [7], [8], [4, 9], [10], [11], [11], [11, 12, 13], [11, 14], [11, 15], [11], [11], [11, 17, 18], [11, 19], [11, 20], [11, 16, 21], [11, 22], [11, 23], [24], [24], [24, 25, 26], [24, 27], [24, 28], [24], [24], [24, 30, 31], [24, 32], [24, 33], [24, 29, 34], [24, 35], [24, 36]], [some 16, some 17, some 18, some 19, some 20, some 21, some 22, some 23, some 24, some 25, some 26, some 27, some 28, some 29, some 30, some 31, some 32, some 33, some 34, some 35, some 36, some 37, some 38, some 39, some 40, some 41, some 42, some 43, some 44, some 45, some 46, some 47, some 48, some 49, some 50, some 51, some 52, some 53], [35], [0, 0, 0, 0, 0, 0, 0, 0, 0, 0, 0, 0, 0, 0, 0, 0, 0, 0, 0, 0, 0, 0, 0, 0, 0, 0, 0, 0, 0, 0, 0, 0, 0, 0, 0, 0, 1, 1], [0, 0, 0, 0, 0, 0, 0, 0, 0, 0, 0, 0, 0, 0, 0, 0, 0, 0, 0, 0, 0, 0, 0, 0, 0, 0, 0, 0, 0, 0, 0, 0, 0, 0, 0, 1, 1, 1]⟩ : Rg) [(0, a1.v), (1, b2.v), (5, (.i s10)), (12, (.i (a1.l : Int))), (13, (.i s10))] mixed (by kernel_rfl) H ?_
     refine Stg.eff [0, 1, 2, 3, 4, 5, 6, 7, 8, 9, 10, 11, 12, 13, 14, 15, 16, 17, 18, 19, 20, 21, 22, 23, 24, 25, 26, 27, 28, 29, 30, 31, 32, 33, 34] (by kernel_rfl) rfl (.cons ?_ (.cons ?_ (.cons ?_ (.cons ?_ (.cons ?_ (.cons ?_ (.cons ?_ (.cons ?_ (.cons ?_ (.cons ?_ (.cons ?_ (.cons ?_ (.cons ?_ (.cons ?_ (.cons ?_ (.cons ?_ (.cons ?_ (.cons ?_ (.cons ?_ (.cons ?_ (.cons ?_ (.cons ?_ (.cons ?_ (.cons ?_ (.cons ?_ (.cons ?_ (.cons ?_ (.cons ?_ (.cons ?_ (.cons ?_ (.cons ?_ (.cons ?_ (.cons ?_ (.cons ?_ (.cons ?_ .nil))))))))))))))))))))))))))))))))))) ?_
     ·refine Ans.mk rfl rfl fun a H => s_move H rfl rfl (lt_ rfl) fun a H => ?_
      exact Ans.fin H rfl
     ·refine Ans.mk rfl rfl fun a H => s_move H rfl rfl (lt_ rfl) fun a H => ?_
      exact Ans.fin H rfl
     ·refine Ans.mk rfl rfl fun a H => s_idxS (s := a1) H rfl rfl rfl slc_57 h27 h28 h29 (lt_ rfl) fun a H => ?_
      exact Ans.fin H rfl
     ·refine Ans.mk rfl rfl fun a H => s_fld H rfl rfl fld_39_0 (lt_ rfl) fun a H => ?_
      exact Ans.fin H rfl
     ·refine Ans.mk rfl rfl fun a H => s_load (v := (.i l30)) H rfl rfl one_3 hc31 (lt_ rfl) fun a H => ?_
      exact Ans.fin H rfl
     ·refine Ans.mk rfl rfl fun a H => s_move H rfl rfl (lt_ rfl) fun a H => ?_
      exact Ans.fin H rfl
     ·refine Ans.mk rfl rfl fun a H => s_move H rfl rfl (lt_ rfl) fun a H => ?_
      exact Ans.fin H rfl
     ·refine Ans.mk rfl rfl fun a H => s_idxS (s := b2) H rfl rfl rfl slc_57 h33 h34 h35 (lt_ rfl) fun a H => ?_
      exact Ans.fin H rfl
     ·refine Ans.mk rfl rfl fun a H => s_fld H rfl rfl fld_39_0 (lt_ rfl) fun a H => ?_
      exact Ans.fin H rfl
     ·refine Ans.mk rfl rfl fun a H => s_load (v := (.i l36)) H rfl rfl one_3 hc37 (lt_ rfl) fun a H => ?_
      exact Ans.fin H rfl
     ·refine Ans.mk rfl rfl fun a H => s_bin H rfl rfl rfl r_neq (lt_ rfl) fun a H => ?_
      exact Ans.fin H rfl
     ·refine Ans.mk rfl rfl fun a H => s_move H rfl rfl (lt_ rfl) fun a H => ?_
      exact Ans.fin H rfl
     ·refine Ans.mk rfl rfl fun a H => ?_
      replace H := H.ch (t := 27) (b := false) rfl h38
      refine s_move H (wantG H rfl rfl) rfl (lt_ rfl) fun a H => ?_
      exact Ans.fin H rfl
     ·refine Ans.mk rfl rfl fun a H => ?_
      replace H := H.ch (t := 27) (b := false) rfl h38
      refine s_move H (wantG H rfl rfl) rfl (lt_ rfl) fun a H => ?_
      exact Ans.fin H rfl
     ·refine Ans.mk rfl rfl fun a H => ?_
      replace H := H.ch (t := 27) (b := false) rfl h38
      refine s_idxS (s := a1) H (wantG H rfl rfl) rfl rfl slc_57 h40 h41 h42 (lt_ rfl) fun a H => ?_
      exact Ans.fin H rfl
     ·refine Ans.mk rfl rfl fun a H => ?_
      replace H := H.ch (t := 27) (b := false) rfl h38
      refine s_fld H (wantG H rfl rfl) rfl fld_39_1 (lt_ rfl) fun a H => ?_
      exact Ans.fin H rfl
     ·refine Ans.mk rfl rfl fun a H => ?_
      replace H := H.ch (t := 27) (b := false) rfl h38
      refine s_load (v := (.string l43)) H (wantG H rfl rfl) rfl one_9 hc44 (lt_ rfl) fun a H => ?_
      exact Ans.fin H rfl
     ·refine Ans.mk rfl rfl fun a H => ?_
      replace H := H.ch (t := 27) (b := false) rfl h38
      refine s_move H (wantG H rfl rfl) rfl (lt_ rfl) fun a H => ?_
      exact Ans.fin H rfl
     ·refine Ans.mk rfl rfl fun a H => ?_
      replace H := H.ch (t := 27) (b := false) rfl h38
      refine s_move H (wantG H rfl rfl) rfl (lt_ rfl) fun a H => ?_
      exact Ans.fin H rfl
     ·refine Ans.mk rfl rfl fun a H => ?_
      replace H := H.ch (t := 27) (b := false) rfl h38
      refine s_idxS (s := b2) H (wantG H rfl rfl) rfl rfl slc_57 h46 h47 h48 (lt_ rfl) fun a H => ?_
      exact Ans.fin H rfl
     ·refine Ans.mk rfl rfl fun a H => ?_
      replace H := H.ch (t := 27) (b := false) rfl h38
      refine s_fld H (wantG H rfl rfl) rfl fld_39_1 (lt_ rfl) fun a H => ?_
      exact Ans.fin H rfl
     ·refine Ans.mk rfl rfl fun a H => ?_
      replace H := H.ch (t := 27) (b := false) rfl h38
      refine s_load (v := (.string l49)) H (wantG H rfl rfl) rfl one_9 hc50 (lt_ rfl) fun a H => ?_
      exact Ans.fin H rfl
     ·refine Ans.mk rfl rfl fun a H => ?_
      replace H := H.ch (t := 27) (b := false) rfl h38
      refine s_bin H (wantG H rfl rfl) rfl rfl r_neqS (lt_ rfl) fun a H => ?_
      exact Ans.fin H rfl
     ·refine Ans.mk rfl rfl fun a H => ?_
      replace H := H.ch (t := 27) (b := false) rfl h38
      refine s_pickF H rfl rfl rfl (lt_ rfl) fun a H => ?_
      exact Ans.fin H rfl
     ·refine Ans.mk rfl rfl fun a H => s_move H rfl rfl (lt_ rfl) fun a H => ?_
      exact Ans.fin H rfl
     ·refine Ans.mk rfl rfl fun a H => ?_
      replace H := H.ch (t := 40) (b := false) rfl h51
      refine s_move H (wantG H rfl rfl) rfl (lt_ rfl) fun a H => ?_
      exact Ans.fin H rfl
     ·refine Ans.mk rfl rfl fun a H => ?_
      replace H := H.ch (t := 40) (b := false) rfl h51
      refine s_move H (wantG H rfl rfl) rfl (lt_ rfl) fun a H => ?_
      exact Ans.fin H rfl
     ·refine Ans.mk rfl rfl fun a H => ?_
      replace H := H.ch (t := 40) (b := false) rfl h51
      refine s_idxS (s := a1) H (wantG H rfl rfl) rfl rfl slc_57 h53 h54 h55 (lt_ rfl) fun a H => ?_
      exact Ans.fin H rfl
     ·refine Ans.mk rfl rfl fun a H => ?_
      replace H := H.ch (t := 40) (b := false) rfl h51
      refine s_fld H (wantG H rfl rfl) rfl fld_39_2 (lt_ rfl) fun a H => ?_
      exact Ans.fin H rfl
     ·refine Ans.mk rfl rfl fun a H => ?_
      replace H := H.ch (t := 40) (b := false) rfl h51
      refine s_loadN (l := [(.i C56), (.i C58), (.bool F60), (.bool H62), D64.v]) H (wantG H rfl rfl) rfl agg_37 rfl ⟨hc57, hc59, hc61, hc63, hc65, trivial⟩ (lt_ rfl) fun a H => ?_
      exact Ans.fin H rfl
     ·refine Ans.mk rfl rfl fun a H => ?_
      replace H := H.ch (t := 40) (b := false) rfl h51
      refine s_move H (wantG H rfl rfl) rfl (lt_ rfl) fun a H => ?_
      exact Ans.fin H rfl
     ·refine Ans.mk rfl rfl fun a H => ?_
      replace H := H.ch (t := 40) (b := false) rfl h51
      refine s_move H (wantG H rfl rfl) rfl (lt_ rfl) fun a H => ?_
      exact Ans.fin H rfl
     ·refine Ans.mk rfl rfl fun a H => ?_
      replace H := H.ch (t := 40) (b := false) rfl h51
      refine s_idxS (s := b2) H (wantG H rfl rfl) rfl rfl slc_57 h67 h68 h69 (lt_ rfl) fun a H => ?_
      exact Ans.fin H rfl
     ·refine Ans.mk rfl rfl fun a H => ?_
      replace H := H.ch (t := 40) (b := false) rfl h51
      refine s_fld H (wantG H rfl rfl) rfl fld_39_2 (lt_ rfl) fun a H => ?_
      exact Ans.fin H rfl
     ·refine Ans.mk rfl rfl fun a H => ?_
      replace H := H.ch (t := 40) (b := false) rfl h51
      refine s_loadN (l := [(.i C70), (.i C72), (.bool F74), (.bool H76), D78.v]) H (wantG H rfl rfl) rfl agg_37 rfl ⟨hc71, hc73, hc75, hc77, hc79, trivial⟩ (lt_ rfl) fun a H => ?_
      exact Ans.fin H rfl
     ·intro a H
      replace H := H.weaken (L' := [(40, (.bool (decide (l43.toList ≠ l49.toList)))), (45, (.agg #[(.i C56), (.i C58), (.bool F60), (.bool H62), D64.v])), (50, (.agg #[(.i C70), (.i C72), (.bool F74), (.bool H76), D78.v]))]) ⟨rfl, rfl, rfl, trivial⟩
      replace H := H.ch (t := 40) (b := false) rfl h51
      refine s_call H (wantG H rfl rfl) body_40 (H.args (vs := [(.agg #[(.i C56), (.i C58), (.bool F60), (.bool H62), D64.v]), (.agg #[(.i C70), (.i C72), (.bool F74), (.bool H76), D78.v])]) rfl) (lt_ rfl) h ?_ (fun c w' h H => e_panic (P := PP) (fn := Try.f22) H h)
      clear H h a
      rintro _ w80 a ⟨s81, rfl, h⟩ H
      refine c_nil <| effQ.go [(36, (.bool (!s81))), (37, (.bool (!s81)))] H rfl rfl <| Stg.fin [36, 37] (by kernel_rfl) (.cons ?_ (.cons ?_ .nil)) ?_
      ·refine Ans.mk rfl rfl fun a H => ?_
       replace H := H.ch (t := 40) (b := false) rfl h51
       refine s_un H (wantG H rfl rfl) rfl r_not (lt_ rfl) fun a H => ?_
       exact Ans.fin H rfl
      ·refine Ans.mk rfl rfl fun a H => ?_
       replace H := H.ch (t := 40) (b := false) rfl h51
       refine s_pickF H rfl rfl rfl (lt_ rfl) fun a H => ?_
       exact Ans.fin H rfl
      ·intro a H
       replace H := H.weaken (L' := [(0, a1.v), (1, b2.v), (12, (.i (a1.l : Int))), (13, (.i s10)), (53, (.bool (!s81)))]) ⟨rfl, rfl, rfl, rfl, rfl, trivial⟩
       exact h25 _ _ _ h (H.weaken ⟨rfl, rfl, rfl, rfl, rfl, trivial⟩)
  ·replace h := h.2 h16
   refine c_exit ?_
   first | (simp only [Exit.then, Exit.inBlock, ↓reduceIte]; fail_if_success simp only [Nat.reduceEqDiff]) | simp only [Exit.then, Exit.inBlock, ↓reduceIte, Nat.reduceEqDiff]
   refine hK8 _ _ <| c_seq fun K87 hK87 => c_reg <| s_assign H rfl rfl (lt_ rfl) fun a H => c_nil <| hK87 _ _ <| c_ret ?_
   exact e_ret1 H rfl rfl h

theorem sim_table_Table_Updates (t1 : Option Addr) (w : World) (Q : Ending → World → Prop) (h : vc_table_Table_Updates t1 w Q) : Calls PP F_table_Table_Updates #[(.pointer t1)] w Q := by
 unfold vc_table_Table_Updates at h
 refine enter (n := 32) Try.func23 rfl rfl (Nat.le_of_ble_eq_true rfl) fun a H => c_seq fun K2 hK2 => c_reg <| s_assign H rfl rfl (lt_ rfl) fun a H => c_nil <| hK2 _ _ <| c_seq fun K3 hK3 => c_reg <| s_assign H rfl rfl (lt_ rfl) fun a H => c_nil <| hK3 _ _ <| c_seq fun K4 hK4 => c_seq fun K5 hK5 => c_reg <| s_move H rfl rfl (lt_ rfl) fun a H => s_call H rfl body_21 (H.args (vs := [(.pointer t1)]) rfl) (lt_ rfl) h ?_ (fun c w' h H => e_panic (P := PP) (fn := Try.f23) H h)
 clear H h a
 rintro _ w6 a ⟨A7, rfl, h⟩ H
 refine s_blt H rfl (H.args (vs := [A7.v]) rfl) (lt_ rfl) (fun cs => b_lenS (z := A7) sl_54) fun a H => s_move H rfl rfl (lt_ rfl) fun a H => c_nil <| hK5 _ _ <| c_block ?_
 obtain ⟨I11, m12, h87, h88⟩ := h
 refine c_loop (σ := Slc × Int) (fun z w => I11 z.1 z.2 w) (fun z w => m12 z.1 z.2 w) (fun z => [(3, z.1.v), (9, A7.v), (10, (.i (A7.l : Int))), (11, (.i z.2))]) (Slc.nil, 0) h87 (H.weaken ⟨rfl, rfl, rfl, rfl, trivial⟩) ?_
 clear H h87
 rintro ⟨l8, s9⟩ a w10 h H
 replace h := h88 l8 s9 w10 h
 clear h88
 replace H : Has 32 [] a [(3, l8.v), (9, A7.v), (10, (.i (A7.l : Int))), (11, (.i s9))] := H
 refine c_seq fun K13 hK13 => c_reg <| s_bin H rfl rfl rfl r_lss (lt_ rfl) fun a H => c_nil <| hK13 _ _ <| c_seq fun K14 hK14 => c_cond H rfl (fun h15 => ?_) (fun h15 => ?_)
 ·replace h := h.1 h15
  refine c_skip <| hK14 _ _ <| c_seq fun K16 hK16 => ?_
  obtain ⟨R18, h, h85⟩ := h
  have h20 : ∀ (a : Act) (l17 : Slc) (w19 : World), R18 l17 w19 → Has 32 [] a [(3, l17.v), (9, A7.v), (10, (.i (A7.l : Int))), (11, (.i s9))] → K16 a w19 := by
   clear h
   intro a l17 w19 h H
   replace h := h85 l17 w19 h
   refine hK16 _ _ <| c_reg <| s_bin H rfl rfl rfl r_add (lt_ rfl) fun a H => s_move H rfl rfl (lt_ rfl) fun a H => c_nil <| Exists.intro (l17, wr .i64 (s9 + 1)) ⟨h.1, h.2, H.weaken ⟨rfl, rfl, rfl, rfl, trivial⟩⟩
  clear h85
  refine c_block <| c_seq fun K21 hK21 => c_reg ?_
  obtain ⟨a22, h23, h24, h25, h⟩ := h
  refine s_idxS (s := A7) H rfl rfl rfl slc_54 h23 h24 h25 (lt_ rfl) fun a H => ?_
  obtain ⟨K26, hc27, E28, hc29, h⟩ := h
  refine s_loadN (l := [(.string K26), E28.v]) H rfl rfl agg_87 rfl ⟨hc27, hc29, trivial⟩ (lt_ rfl) fun a H => ?_
  replace h := h.get
  obtain ⟨b30, w31, n32, h⟩ := h
  refine s_alloc H rfl zero_87 (lt_ rfl) ?_
  rw [← n32.at_]
  clear H a
  intro a H
  refine n32.go <| s_stoN (l := [(.string K26), E28.v]) H rfl rfl rfl rfl agg_87 rfl rfl h ?_
  clear h H
  intro w33 h H
  refine c_nil <| hK21 _ _ <| c_seq fun K34 hK34 => c_reg <| s_fld H rfl rfl fld_87_1 (lt_ rfl) fun a H => ?_
  obtain ⟨l35, hc36, h⟩ := h
  refine s_load (v := l35.v) H rfl rfl one_42 hc36 (lt_ rfl) fun a H => s_blt H rfl (H.args (vs := [l35.v]) rfl) (lt_ rfl) (fun cs => b_lenS (z := l35) sl_42) fun a H => s_move H rfl rfl (lt_ rfl) fun a H => c_nil <| hK34 _ _ <| c_block ?_
  obtain ⟨I40, m41, h83, h84⟩ := h
  refine c_loop (σ := Slc × Int) (fun z w => I40 z.1 z.2 w) (fun z w => m41 z.1 z.2 w) (fun z => [(3, z.1.v), (5, (.pointer (some (blk b30)))), (9, A7.v), (10, (.i (A7.l : Int))), (11, (.i s9)), (16, l35.v), (17, (.i (l35.l : Int))), (18, (.i z.2))]) (l8, 0) h83 (H.weaken ⟨rfl, rfl, rfl, rfl, rfl, rfl, rfl, rfl, trivial⟩) ?_
  clear H h83
  rintro ⟨l37, s38⟩ a w39 h H
  replace h := h84 l37 s38 w39 h
  clear h84
  replace H : Has 32 [] a [(3, l37.v), (5, (.pointer (some (blk b30)))), (9, A7.v), (10, (.i (A7.l : Int))), (11, (.i s9)), (16, l35.v), (17, (.i (l35.l : Int))), (18, (.i s38))] := H
  refine c_seq fun K42 hK42 => c_reg <| s_bin H rfl rfl rfl r_lss (lt_ rfl) fun a H => c_nil <| hK42 _ _ <| c_seq fun K43 hK43 => c_cond H rfl (fun h44 => ?_) (fun h44 => ?_)
  ·replace h := h.1 h44
   refine c_skip <| hK43 _ _ <| c_seq fun K45 hK45 => c_block <| c_seq fun K46 hK46 => c_reg ?_
   obtain ⟨a47, h48, h49, h50, h⟩ := h
   refine s_idxS (s := l35) H rfl rfl rfl slc_42 h48 h49 h50 (lt_ rfl) fun a H => ?_
   obtain ⟨C51, hc52, C53, hc54, F55, hc56, H57, hc58, D59, hc60, h⟩ := h
   refine s_loadN (l := [(.i C51), (.i C53), (.bool F55), (.bool H57), D59.v]) H rfl rfl agg_37 rfl ⟨hc52, hc54, hc56, hc58, hc60, trivial⟩ (lt_ rfl) fun a H => ?_
   replace h := h.get
   obtain ⟨b61, w62, n63, h⟩ := h
   refine s_alloc H rfl zero_37 (lt_ rfl) ?_
   rw [← n63.at_]
   clear H a
   intro a H
   refine n63.go <| s_stoN (l := [(.i C51), (.i C53), (.bool F55), (.bool H57), D59.v]) H rfl rfl rfl rfl agg_37 rfl rfl h ?_
   clear h H
   intro w64 h H
   refine c_nil <| hK46 _ _ <| c_reg <| s_move H rfl rfl (lt_ rfl) fun a H => s_fld H rfl rfl fld_87_0 (lt_ rfl) fun a H => ?_
   obtain ⟨l65, hc66, h⟩ := h
   refine s_load (v := (.string l65)) H rfl rfl one_9 hc66 (lt_ rfl) fun a H => ?_
   obtain ⟨C67, hc68, C69, hc70, F71, hc72, H73, hc74, D75, hc76, h⟩ := h
   refine s_loadN (l := [(.i C67), (.i C69), (.bool F71), (.bool H73), D75.v]) H rfl rfl agg_37 rfl ⟨hc68, hc70, hc72, hc74, hc76, trivial⟩ (lt_ rfl) fun a H => s_build H rfl (by rw [H.parts (vs := [(0, (.i 3)), (1, (.string l65)), (2, (.agg #[(.i C67), (.i C69), (.bool F71), (.bool H73), D75.v]))]) rfl]; exact bd_39_ii640_s1_ii64ii64bbs2 w64 3 l65 C67 C69 F71 H73 D75) (lt_ rfl) fun a H => ?_
   replace h := h.get
   obtain ⟨b77, w78, n79, h⟩ := h
   refine s_bslc H rfl (by rw [H.parts (vs := [(0, (.agg #[(.i 3), (.string l65), (.i C67), (.i C69), (.bool F71), (.bool H73), D75.v]))]) rfl]; exact bs_57_1_ii64sii64ii64bbs0 w64 3 l65 C67 C69 F71 H73 D75) (lt_ rfl) ?_
   rw [← n79.at_]
   clear H a
   intro a H
   refine n79.go ?_
   obtain ⟨s80, w81, h82, h⟩ := h
   refine s_blt H rfl (H.args (vs := [l37.v, (Slc.v (Slc.mk (some (blk b77)) 1 1))]) rfl) (lt_ rfl) (fun cs => b_app (z := s80) h82) ?_
   clear H a h82
   intro a H
   refine s_assign H rfl rfl (lt_ rfl) fun a H => c_nil <| hK45 _ _ <| c_reg <| s_bin H rfl rfl rfl r_add (lt_ rfl) fun a H => s_move H rfl rfl (lt_ rfl) fun a H => c_nil <| Exists.intro (s80, wr .i64 (s38 + 1)) ⟨h.1, h.2, H.weaken ⟨rfl, rfl, rfl, rfl, rfl, rfl, rfl, rfl, trivial⟩⟩
  ·replace h := h.2 h44
   refine c_exit ?_
   first | (simp only [Exit.then, Exit.inBlock, ↓reduceIte]; fail_if_success simp only [Nat.reduceEqDiff]) | simp only [Exit.then, Exit.inBlock, ↓reduceIte, Nat.reduceEqDiff]
   exact h20 _ _ _ h (H.weaken ⟨rfl, rfl, rfl, rfl, trivial⟩)
 ·replace h := h.2 h15
  refine c_exit ?_
  first | (simp only [Exit.then, Exit.inBlock, ↓reduceIte]; fail_if_success simp only [Nat.reduceEqDiff]) | simp only [Exit.then, Exit.inBlock, ↓reduceIte, Nat.reduceEqDiff]
  refine hK4 _ _ <| c_seq fun K86 hK86 => c_reg <| s_move H rfl rfl (lt_ rfl) fun a H => s_assign H rfl rfl (lt_ rfl) fun a H => c_nil <| hK86 _ _ <| c_ret ?_
  exact e_ret1 H rfl rfl h

theorem sim_table_Table_Copy (t1 : Option Addr) (w : World) (Q : Ending → World → Prop) (h : vc_table_Table_Copy t1 w Q) : Calls PP F_table_Table_Copy #[(.pointer t1)] w Q := by
 unfold vc_table_Table_Copy at h
 refine enter (n := 50) Try.func24 rfl rfl (Nat.le_of_ble_eq_true rfl) fun a H => c_seq fun K2 hK2 => c_reg <| s_assign H rfl rfl (lt_ rfl) fun a H => c_nil <| hK2 _ _ <| c_seq fun K3 hK3 => c_seq fun K4 hK4 => c_reg <| s_move H rfl rfl (lt_ rfl) fun a H => s_bin H rfl rfl rfl (r_eqP0 ptr_24) (lt_ rfl) fun a H => c_nil <| hK4 _ _ <| c_cond H rfl (fun h5 => ?_) (fun h5 => ?_)
 ·replace h := h.1 h5
  refine c_seq fun K6 hK6 => c_reg <| s_assign H rfl rfl (lt_ rfl) fun a H => c_nil <| hK6 _ _ <| c_ret ?_
  exact e_ret1 H rfl rfl h
 ·replace h := h.2 h5
  refine c_skip <| hK3 _ _ <| c_seq fun K7 hK7 => c_reg <| s_move H rfl rfl (lt_ rfl) fun a H => ?_
  obtain ⟨a8, h130, h⟩ := h
  revert H
  subst h130
  intro H
  refine s_nil H rfl rfl (lt_ rfl) fun a H => s_fld H rfl rfl fld_66_0 (lt_ rfl) fun a H => ?_
  obtain ⟨l9, hc10, h⟩ := h
  refine s_load (v := (.i l9)) H rfl rfl one_3 hc10 (lt_ rfl) fun a H => ?_
  obtain ⟨g11, w12, h13, h⟩ := h
  refine s_mkm H rfl h13 (lt_ rfl) ?_
  clear H a h13
  intro a H
  refine s_build H rfl (by rw [H.parts (vs := [(0, (.i l9)), (1, (.map (some g11)))]) rfl]; exact bd_66_ii640_m1 w12 l9 (some g11)) (lt_ rfl) fun a H => ?_
  replace h := h.get
  obtain ⟨b14, w15, n16, h⟩ := h
  refine s_box H rfl rfl (lt_ rfl) ?_
  rw [← n16.at_]
  clear H a
  intro a H
  refine n16.go <| s_assign H rfl rfl (lt_ rfl) fun a H => c_nil <| hK7 _ _ <| c_seq fun K17 hK17 => c_seq fun K18 hK18 => c_reg <| s_move H rfl rfl (lt_ rfl) fun a H => s_nil H rfl rfl (lt_ rfl) fun a H => s_fld H rfl rfl fld_66_1 (lt_ rfl) fun a H => ?_
  obtain ⟨l19, hc20, h⟩ := h
  refine s_load (v := (.map l19)) H rfl rfl one_64 hc20 (lt_ rfl) fun a H => ?_
  obtain ⟨i21, w22, h23, h⟩ := h
  refine s_rng H rfl rfl h23 (lt_ rfl) ?_
  clear H a h23
  intro a H
  refine c_nil <| hK18 _ _ <| c_block ?_
  obtain ⟨I25, m26, h128, h129⟩ := h
  refine c_loop (σ := Unit) (fun z w => I25 w) (fun z w => m26 w) (fun z => [(3, (.pointer (some (blk b14)))), (21, (.pointer (some (blk i21))))]) () h128 (H.weaken ⟨rfl, rfl, trivial⟩) ?_
  clear H h128
  rintro _ a w24 h H
  replace h := h129 w24 h
  clear h129
  replace H : Has 50 [] a [(3, (.pointer (some (blk b14)))), (21, (.pointer (some (blk i21))))] := H
  refine c_seq fun K27 hK27 => c_reg ?_
  obtain ⟨b28, r29, w30, h31, h⟩ := h
  refine s_nxt H rfl rfl h31 (lt_ rfl) ?_
  clear H a h31
  intro a H
  refine s_ext H rfl rfl rfl (lt_ rfl) fun a H => c_nil <| hK27 _ _ <| c_seq fun K32 hK32 => c_cond H rfl (fun h33 => ?_) (fun h33 => ?_)
  ·replace h := h.1 h33
   refine c_skip <| hK32 _ _ <| c_block <| c_seq fun K34 hK34 => c_reg ?_
   obtain ⟨_, h38, k35, e36, rfl, h⟩ := h
   refine s_etr H rfl rfl h38 (lt_ rfl) ?_
   clear H a h38
   intro a H
   refine s_ext H rfl rfl rfl (lt_ rfl) fun a H => s_ext H rfl rfl rfl (lt_ rfl) fun a H => s_assign H rfl rfl (lt_ rfl) fun a H => s_assign H rfl rfl (lt_ rfl) fun a H => c_nil <| hK34 _ _ <| c_seq fun K39 hK39 => c_reg <| s_move H rfl rfl (lt_ rfl) fun a H => s_nil H rfl rfl (lt_ rfl) fun a H => s_fld H rfl rfl fld_66_1 (lt_ rfl) fun a H => ?_
   obtain ⟨l40, hc41, h⟩ := h
   refine s_load (v := (.map l40)) H rfl rfl one_64 hc41 (lt_ rfl) fun a H => s_move H rfl rfl (lt_ rfl) fun a H => ?_
   obtain ⟨g42, w43, h44, h⟩ := h
   refine s_mkm H rfl h44 (lt_ rfl) ?_
   clear H a h44
   intro a H
   obtain ⟨w45, h46, h⟩ := h
   refine s_mup H rfl rfl rfl rfl h46 ?_
   clear H h46
   intro H
   refine c_nil <| hK39 _ _ <| c_seq fun K47 hK47 => c_reg <| s_move H rfl rfl (lt_ rfl) fun a H => ?_
   obtain ⟨i48, w49, h50, h⟩ := h
   refine s_rng H rfl rfl h50 (lt_ rfl) ?_
   clear H a h50
   intro a H
   refine c_nil <| hK47 _ _ <| c_block ?_
   obtain ⟨I52, m53, h125, h126⟩ := h
   refine c_loop (σ := Unit) (fun z w => I52 w) (fun z w => m53 w) (fun z => [(3, (.pointer (some (blk b14)))), (4, (.string k35)), (21, (.pointer (some (blk i21)))), (34, (.pointer (some (blk i48))))]) () h125 (H.weaken ⟨rfl, rfl, rfl, rfl, trivial⟩) ?_
   clear H h125
   rintro _ a w51 h H
   replace h := h126 w51 h
   clear h126
   replace H : Has 50 [] a [(3, (.pointer (some (blk b14)))), (4, (.string k35)), (21, (.pointer (some (blk i21)))), (34, (.pointer (some (blk i48))))] := H
   refine c_seq fun K54 hK54 => c_reg ?_
   obtain ⟨b55, r56, w57, h58, h⟩ := h
   refine s_nxt H rfl rfl h58 (lt_ rfl) ?_
   clear H a h58
   intro a H
   refine s_ext H rfl rfl rfl (lt_ rfl) fun a H => c_nil <| hK54 _ _ <| c_seq fun K59 hK59 => c_cond H rfl (fun h60 => ?_) (fun h60 => ?_)
   ·replace h := h.1 h60
    refine c_skip <| hK59 _ _ <| c_block <| c_seq fun K61 hK61 => c_reg ?_
    obtain ⟨_, h70, C62, C63, C64, C65, F66, H67, D68, rfl, h⟩ := h
    refine s_etr H rfl rfl h70 (lt_ rfl) ?_
    clear H a h70
    intro a H
    refine s_ext H rfl rfl rfl (lt_ rfl) fun a H => s_ext H rfl rfl rfl (lt_ rfl) fun a H => ?_
    replace h := h.get
    obtain ⟨b71, w72, n73, h⟩ := h
    refine s_alloc H rfl zero_29 (lt_ rfl) ?_
    rw [← n73.at_]
    clear H a
    intro a H
    refine n73.go ?_
    replace h := h.get
    obtain ⟨b74, w75, n76, h⟩ := h
    refine s_alloc H rfl zero_37 (lt_ rfl) ?_
    rw [← n76.at_]
    clear H a
    intro a H
    refine n76.go <| s_stoN (l := [(.i C62), (.i C63)]) H rfl rfl rfl rfl agg_29 rfl rfl h ?_
    clear h H
    intro w77 h H
    refine s_stoN (l := [(.i C64), (.i C65), (.bool F66), (.bool H67), D68.v]) H rfl rfl rfl rfl agg_37 rfl rfl h ?_
    clear h H
    intro w78 h H
    refine c_nil <| hK61 _ _ ?_
    replace H := H.weaken (L' := [(3, (.pointer (some (blk b14)))), (4, (.string k35)), (6, (.pointer (some (blk b71)))), (7, (.pointer (some (blk b74)))), (21, (.pointer (some (blk i21)))), (34, (.pointer (some (blk i48))))]) ⟨rfl, rfl, rfl, rfl, rfl, rfl, trivial⟩
    obtain ⟨l81, C84, C86, C89, C91, F93, H95, D97, h⟩ := h
    obtain ⟨R79, h123, h83, h88, h99, h118, h119, h120, h121⟩ := h
    refine c_anyF (V := [(0, (.pointer (some (blk b14)))), (1, (.pointer (some (blk b14)))), (2, (.pointer (some ((blk b14).add 1)))), (3, (.map l81)), (4, (.string k35)), (6, (.agg #[(.i C84), (.i C86)])), (7, (.agg #[(.i C89), (.i C91), (.bool F93), (.bool H95), D97.v]))]) 3 (⟨⟨[[], [0], [1], [2], [], [3, 4], [], [], [7], [0, 1, 2, 3, 4, 5, 6, 7, 8]], [some 40, some 41, some 42, some 43, some 44, some 45, some 46, some 47, some 48, none], [5, 8, 9], [], []⟩, [[], [], [], [], [], [], [], [], [], [5, 8]], [[5, 9], [5, 9], [5, 9], [5, 9], [5, 9], [9], [9], [8, 9], [9], []]⟩ : Rh) [(3, (.pointer (some (blk b14)))), (4, (.string k35)), (6, (.pointer (some (blk b71)))), (7, (.pointer (some (blk b74)))), (21, (.pointer (some (blk i21)))), (34, (.pointer (some (blk i48))))] mixed (by kernel_rfl) H fun F124 h122 => ?_
    clear H a
    have st_5_8_9 : ∀ (m100 : Option Nat) (C104 : Int) (C105 : Int) (F106 : Bool) (H107 : Bool) (D108 : Slc) (w80 : World), R79 (some m100) (some (C104, C105, F106, H107, D108)) (some ()) w80 → F124 0 [5, 8, 9] [(0, (.pointer (some (blk b14)))), (1, (.pointer (some (blk b14)))), (2, (.pointer (some ((blk b14).add 1)))), (3, (.map l81)), (4, (.string k35)), (5, (.map m100)), (6, (.agg #[(.i C84), (.i C86)])), (7, (.agg #[(.i C89), (.i C91), (.bool F93), (.bool H95), D97.v])), (8, (.agg #[(.i C104), (.i C105), (.bool F106), (.bool H107), D108.v])), (9, undef)] w80 := by
     intro m100 C104 C105 F106 H107 D108 w80 hr
     rw [h122]
     refine StT.last [] (by kernel_rfl) (by kernel_rfl) .nil ?_
     ·intro a H
      have h := h121 m100 C104 C105 F106 H107 D108 w80 hr
      replace H := H.weaken (L' := [(3, (.pointer (some (blk b14)))), (4, (.string k35)), (21, (.pointer (some (blk i21)))), (34, (.pointer (some (blk i48))))]) ⟨rfl, rfl, rfl, rfl, trivial⟩
      refine Exists.intro () ⟨h.1, h.2, H.weaken ⟨rfl, rfl, rfl, rfl, trivial⟩⟩
    have st_5_8 : ∀ (m100 : Option Nat) (C104 : Int) (C105 : Int) (F106 : Bool) (H107 : Bool) (D108 : Slc) (w80 : World), R79 (some m100) (some (C104, C105, F106, H107, D108)) none w80 → F124 1 [5, 8] [(0, (.pointer (some (blk b14)))), (1, (.pointer (some (blk b14)))), (2, (.pointer (some ((blk b14).add 1)))), (3, (.map l81)), (4, (.string k35)), (5, (.map m100)), (6, (.agg #[(.i C84), (.i C86)])), (7, (.agg #[(.i C89), (.i C91), (.bool F93), (.bool H95), D97.v])), (8, (.agg #[(.i C104), (.i C105), (.bool F106), (.bool H107), D108.v]))] w80 := by
     intro m100 C104 C105 F106 H107 D108 w80 hr
     rw [h122]
     refine StT.more [6] [9] (by kernel_rfl) (by kernel_rfl) (by kernel_rfl) (.cons ?_ .nil) (.cons ?_ .nil)
     ·refine Ans.mk rfl rfl fun a H => ?_
      replace H := H.weaken (L' := [(6, (.pointer (some (blk b71))))]) ⟨rfl, trivial⟩
      obtain ⟨hc85, hc87⟩ := h88 (some m100) (some (C104, C105, F106, H107, D108)) w80 hr
      refine s_loadN (l := [(.i C84), (.i C86)]) H rfl rfl agg_29 rfl ⟨hc85, hc87, trivial⟩ (lt_ rfl) fun a H => c_nil ⟨rfl, rfl, H.weaken (L' := [(46, (.agg #[(.i C84), (.i C86)]))]) ⟨rfl, trivial⟩⟩
     ·refine ⟨_, rfl, fun a H => ?_⟩
      replace H := H.weaken (L' := [(45, (.map m100)), (46, (.agg #[(.i C84), (.i C86)])), (48, (.agg #[(.i C104), (.i C105), (.bool F106), (.bool H107), D108.v]))]) ⟨rfl, rfl, rfl, trivial⟩
      have h := h120 m100 C104 C105 F106 H107 D108 w80 hr
      obtain ⟨w113, h114, h⟩ := h
      refine s_mup H rfl rfl rfl rfl h114 ?_
      clear H h114
      intro H
      refine c_nil <| effQ.ok (v := undef) (H.weaken (L' := []) trivial) ⟨[(0, (.pointer (some (blk b14)))), (1, (.pointer (some (blk b14)))), (2, (.pointer (some ((blk b14).add 1)))), (3, (.map l81)), (4, (.string k35)), (5, (.map m100)), (6, (.agg #[(.i C84), (.i C86)])), (7, (.agg #[(.i C89), (.i C91), (.bool F93), (.bool H95), D97.v])), (8, (.agg #[(.i C104), (.i C105), (.bool F106), (.bool H107), D108.v])), (9, undef)], ⟨rfl, rfl, rfl, rfl, rfl, rfl, rfl, rfl, rfl, rfl, trivial⟩, ?_⟩
      have hx := st_5_8_9 m100 C104 C105 F106 H107 D108 w113 h
      rw [h122] at hx
      exact hx
    have st_5 : ∀ (m100 : Option Nat) (w80 : World), R79 (some m100) none none w80 → F124 2 [5] [(0, (.pointer (some (blk b14)))), (1, (.pointer (some (blk b14)))), (2, (.pointer (some ((blk b14).add 1)))), (3, (.map l81)), (4, (.string k35)), (5, (.map m100)), (6, (.agg #[(.i C84), (.i C86)])), (7, (.agg #[(.i C89), (.i C91), (.bool F93), (.bool H95), D97.v]))] w80 := by
     intro m100 w80 hr
     rw [h122]
     refine StT.more [6, 7] [8] (by kernel_rfl) (by kernel_rfl) (by kernel_rfl) (.cons ?_ (.cons ?_ .nil)) (.cons ?_ .nil)
     ·refine Ans.mk rfl rfl fun a H => ?_
      replace H := H.weaken (L' := [(6, (.pointer (some (blk b71))))]) ⟨rfl, trivial⟩
      obtain ⟨hc85, hc87⟩ := h88 (some m100) none w80 hr
      refine s_loadN (l := [(.i C84), (.i C86)]) H rfl rfl agg_29 rfl ⟨hc85, hc87, trivial⟩ (lt_ rfl) fun a H => c_nil ⟨rfl, rfl, H.weaken (L' := [(46, (.agg #[(.i C84), (.i C86)]))]) ⟨rfl, trivial⟩⟩
     ·refine Ans.mk rfl rfl fun a H => ?_
      replace H := H.weaken (L' := [(7, (.pointer (some (blk b74))))]) ⟨rfl, trivial⟩
      obtain ⟨hc90, hc92, hc94, hc96, hc98⟩ := h99 (some m100) w80 hr
      refine s_loadN (l := [(.i C89), (.i C91), (.bool F93), (.bool H95), D97.v]) H rfl rfl agg_37 rfl ⟨hc90, hc92, hc94, hc96, hc98, trivial⟩ (lt_ rfl) fun a H => c_nil ⟨rfl, rfl, H.weaken (L' := [(47, (.agg #[(.i C89), (.i C91), (.bool F93), (.bool H95), D97.v]))]) ⟨rfl, trivial⟩⟩
     ·refine ⟨_, rfl, fun a H => ?_⟩
      replace H := H.weaken (L' := [(47, (.agg #[(.i C89), (.i C91), (.bool F93), (.bool H95), D97.v]))]) ⟨rfl, trivial⟩
      have h := h119 (some m100) w80 hr
      refine s_call H rfl body_30 (H.args (vs := [(.agg #[(.i C89), (.i C91), (.bool F93), (.bool H95), D97.v])]) rfl) (lt_ rfl) h ?_ (fun c w' h H => e_panic (P := PP) (fn := Try.f24) H h)
      clear H h a
      rintro _ w103 a ⟨C104, C105, F106, H107, D108, rfl, h⟩ H
      refine c_nil ?_
      refine effQ.ok (v := (.agg #[(.i C104), (.i C105), (.bool F106), (.bool H107), D108.v])) (H.weaken (L' := [(48, (.agg #[(.i C104), (.i C105), (.bool F106), (.bool H107), D108.v]))]) ⟨rfl, trivial⟩) ⟨[(0, (.pointer (some (blk b14)))), (1, (.pointer (some (blk b14)))), (2, (.pointer (some ((blk b14).add 1)))), (3, (.map l81)), (4, (.string k35)), (5, (.map m100)), (6, (.agg #[(.i C84), (.i C86)])), (7, (.agg #[(.i C89), (.i C91), (.bool F93), (.bool H95), D97.v])), (8, (.agg #[(.i C104), (.i C105), (.bool F106), (.bool H107), D108.v]))], ⟨rfl, rfl, rfl, rfl, rfl, rfl, rfl, rfl, rfl, trivial⟩, ?_⟩
      have hx := st_5_8 m100 C104 C105 F106 H107 D108 w103 h
      rw [h122] at hx
      exact hx
    have st_8 : ∀ (C104 : Int) (C105 : Int) (F106 : Bool) (H107 : Bool) (D108 : Slc) (w80 : World), R79 none (some (C104, C105, F106, H107, D108)) none w80 → F124 2 [8] [(0, (.pointer (some (blk b14)))), (1, (.pointer (some (blk b14)))), (2, (.pointer (some ((blk b14).add 1)))), (3, (.map l81)), (4, (.string k35)), (6, (.agg #[(.i C84), (.i C86)])), (7, (.agg #[(.i C89), (.i C91), (.bool F93), (.bool H95), D97.v])), (8, (.agg #[(.i C104), (.i C105), (.bool F106), (.bool H107), D108.v]))] w80 := by
     intro C104 C105 F106 H107 D108 w80 hr
     rw [h122]
     refine StT.more [0, 1, 2, 3, 4, 6] [5] (by kernel_rfl) (by kernel_rfl) (by kernel_rfl) (.cons ?_ (.cons ?_ (.cons ?_ (.cons ?_ (.cons ?_ (.cons ?_ .nil)))))) (.cons ?_ .nil)
     ·refine Ans.mk rfl rfl fun a H => ?_
      replace H := H.weaken (L' := [(3, (.pointer (some (blk b14))))]) ⟨rfl, trivial⟩
      refine s_move H rfl rfl (lt_ rfl) fun a H => c_nil ⟨rfl, rfl, H.weaken (L' := [(40, (.pointer (some (blk b14))))]) ⟨rfl, trivial⟩⟩
     ·refine Ans.mk rfl rfl fun a H => ?_
      replace H := H.weaken (L' := [(40, (.pointer (some (blk b14))))]) ⟨rfl, trivial⟩
      refine s_nil H rfl rfl (lt_ rfl) fun a H => c_nil ⟨rfl, rfl, H.weaken (L' := [(41, (.pointer (some (blk b14))))]) ⟨rfl, trivial⟩⟩
     ·refine Ans.mk rfl rfl fun a H => ?_
      replace H := H.weaken (L' := [(41, (.pointer (some (blk b14))))]) ⟨rfl, trivial⟩
      refine s_fld H rfl rfl fld_66_1 (lt_ rfl) fun a H => c_nil ⟨rfl, rfl, H.weaken (L' := [(42, (.pointer (some ((blk b14).add 1))))]) ⟨rfl, trivial⟩⟩
     ·refine Ans.mk rfl rfl fun a H => ?_
      replace H := H.weaken (L' := [(42, (.pointer (some ((blk b14).add 1))))]) ⟨rfl, trivial⟩
      obtain hc82 := h83 (some (C104, C105, F106, H107, D108)) w80 hr
      refine s_load (v := (.map l81)) H rfl rfl one_64 hc82 (lt_ rfl) fun a H => c_nil ⟨rfl, rfl, H.weaken (L' := [(43, (.map l81))]) ⟨rfl, trivial⟩⟩
     ·refine Ans.mk rfl rfl fun a H => ?_
      replace H := H.weaken (L' := [(4, (.string k35))]) ⟨rfl, trivial⟩
      refine s_move H rfl rfl (lt_ rfl) fun a H => c_nil ⟨rfl, rfl, H.weaken (L' := [(44, (.string k35))]) ⟨rfl, trivial⟩⟩
     ·refine Ans.mk rfl rfl fun a H => ?_
      replace H := H.weaken (L' := [(6, (.pointer (some (blk b71))))]) ⟨rfl, trivial⟩
      obtain ⟨hc85, hc87⟩ := h88 none (some (C104, C105, F106, H107, D108)) w80 hr
      refine s_loadN (l := [(.i C84), (.i C86)]) H rfl rfl agg_29 rfl ⟨hc85, hc87, trivial⟩ (lt_ rfl) fun a H => c_nil ⟨rfl, rfl, H.weaken (L' := [(46, (.agg #[(.i C84), (.i C86)]))]) ⟨rfl, trivial⟩⟩
     ·refine ⟨_, rfl, fun a H => ?_⟩
      replace H := H.weaken (L' := [(43, (.map l81)), (44, (.string k35))]) ⟨rfl, rfl, trivial⟩
      have h := h118 (some (C104, C105, F106, H107, D108)) w80 hr
      obtain ⟨_, h102, m100, rfl, h⟩ := h
      refine s_lkp H rfl rfl rfl h102 (lt_ rfl) ?_
      clear H a h102
      intro a H
      refine c_nil ?_
      refine effQ.ok (v := (.map m100)) (H.weaken (L' := [(45, (.map m100))]) ⟨rfl, trivial⟩) ⟨[(0, (.pointer (some (blk b14)))), (1, (.pointer (some (blk b14)))), (2, (.pointer (some ((blk b14).add 1)))), (3, (.map l81)), (4, (.string k35)), (5, (.map m100)), (6, (.agg #[(.i C84), (.i C86)])), (7, (.agg #[(.i C89), (.i C91), (.bool F93), (.bool H95), D97.v])), (8, (.agg #[(.i C104), (.i C105), (.bool F106), (.bool H107), D108.v]))], ⟨rfl, rfl, rfl, rfl, rfl, rfl, rfl, rfl, rfl, trivial⟩, ?_⟩
      have hx := st_5_8 m100 C104 C105 F106 H107 D108 w80 h
      rw [h122] at hx
      exact hx
    have st_ : ∀ (w80 : World), R79 none none none w80 → F124 3 [] [(0, (.pointer (some (blk b14)))), (1, (.pointer (some (blk b14)))), (2, (.pointer (some ((blk b14).add 1)))), (3, (.map l81)), (4, (.string k35)), (6, (.agg #[(.i C84), (.i C86)])), (7, (.agg #[(.i C89), (.i C91), (.bool F93), (.bool H95), D97.v]))] w80 := by
     intro w80 hr
     rw [h122]
     refine StT.more [0, 1, 2, 3, 4, 6, 7] [5, 8] (by kernel_rfl) (by kernel_rfl) (by kernel_rfl) (.cons ?_ (.cons ?_ (.cons ?_ (.cons ?_ (.cons ?_ (.cons ?_ (.cons ?_ .nil))))))) (.cons ?_ (.cons ?_ .nil))
     ·refine Ans.mk rfl rfl fun a H => ?_
      replace H := H.weaken (L' := [(3, (.pointer (some (blk b14))))]) ⟨rfl, trivial⟩
      refine s_move H rfl rfl (lt_ rfl) fun a H => c_nil ⟨rfl, rfl, H.weaken (L' := [(40, (.pointer (some (blk b14))))]) ⟨rfl, trivial⟩⟩
     ·refine Ans.mk rfl rfl fun a H => ?_
      replace H := H.weaken (L' := [(40, (.pointer (some (blk b14))))]) ⟨rfl, trivial⟩
      refine s_nil H rfl rfl (lt_ rfl) fun a H => c_nil ⟨rfl, rfl, H.weaken (L' := [(41, (.pointer (some (blk b14))))]) ⟨rfl, trivial⟩⟩
     ·refine Ans.mk rfl rfl fun a H => ?_
      replace H := H.weaken (L' := [(41, (.pointer (some (blk b14))))]) ⟨rfl, trivial⟩
      refine s_fld H rfl rfl fld_66_1 (lt_ rfl) fun a H => c_nil ⟨rfl, rfl, H.weaken (L' := [(42, (.pointer (some ((blk b14).add 1))))]) ⟨rfl, trivial⟩⟩
     ·refine Ans.mk rfl rfl fun a H => ?_
      replace H := H.weaken (L' := [(42, (.pointer (some ((blk b14).add 1))))]) ⟨rfl, trivial⟩
      obtain hc82 := h83 none w80 hr
      refine s_load (v := (.map l81)) H rfl rfl one_64 hc82 (lt_ rfl) fun a H => c_nil ⟨rfl, rfl, H.weaken (L' := [(43, (.map l81))]) ⟨rfl, trivial⟩⟩
     ·refine Ans.mk rfl rfl fun a H => ?_
      replace H := H.weaken (L' := [(4, (.string k35))]) ⟨rfl, trivial⟩
      refine s_move H rfl rfl (lt_ rfl) fun a H => c_nil ⟨rfl, rfl, H.weaken (L' := [(44, (.string k35))]) ⟨rfl, trivial⟩⟩
     ·refine Ans.mk rfl rfl fun a H => ?_
      replace H := H.weaken (L' := [(6, (.pointer (some (blk b71))))]) ⟨rfl, trivial⟩
      obtain ⟨hc85, hc87⟩ := h88 none none w80 hr
      refine s_loadN (l := [(.i C84), (.i C86)]) H rfl rfl agg_29 rfl ⟨hc85, hc87, trivial⟩ (lt_ rfl) fun a H => c_nil ⟨rfl, rfl, H.weaken (L' := [(46, (.agg #[(.i C84), (.i C86)]))]) ⟨rfl, trivial⟩⟩
     ·refine Ans.mk rfl rfl fun a H => ?_
      replace H := H.weaken (L' := [(7, (.pointer (some (blk b74))))]) ⟨rfl, trivial⟩
      obtain ⟨hc90, hc92, hc94, hc96, hc98⟩ := h99 none w80 hr
      refine s_loadN (l := [(.i C89), (.i C91), (.bool F93), (.bool H95), D97.v]) H rfl rfl agg_37 rfl ⟨hc90, hc92, hc94, hc96, hc98, trivial⟩ (lt_ rfl) fun a H => c_nil ⟨rfl, rfl, H.weaken (L' := [(47, (.agg #[(.i C89), (.i C91), (.bool F93), (.bool H95), D97.v]))]) ⟨rfl, trivial⟩⟩
     ·refine ⟨_, rfl, fun a H => ?_⟩
      replace H := H.weaken (L' := [(43, (.map l81)), (44, (.string k35))]) ⟨rfl, rfl, trivial⟩
      have h := h118 none w80 hr
      obtain ⟨_, h102, m100, rfl, h⟩ := h
      refine s_lkp H rfl rfl rfl h102 (lt_ rfl) ?_
      clear H a h102
      intro a H
      refine c_nil <| effQ.ok (v := (.map m100)) (H.weaken (L' := [(45, (.map m100))]) ⟨rfl, trivial⟩) ⟨[(0, (.pointer (some (blk b14)))), (1, (.pointer (some (blk b14)))), (2, (.pointer (some ((blk b14).add 1)))), (3, (.map l81)), (4, (.string k35)), (5, (.map m100)), (6, (.agg #[(.i C84), (.i C86)])), (7, (.agg #[(.i C89), (.i C91), (.bool F93), (.bool H95), D97.v]))], ⟨rfl, rfl, rfl, rfl, rfl, rfl, rfl, rfl, trivial⟩, ?_⟩
      have hx := st_5 m100 w80 h
      rw [h122] at hx
      exact hx
     ·refine ⟨_, rfl, fun a H => ?_⟩
      replace H := H.weaken (L' := [(47, (.agg #[(.i C89), (.i C91), (.bool F93), (.bool H95), D97.v]))]) ⟨rfl, trivial⟩
      have h := h119 none w80 hr
      refine s_call H rfl body_30 (H.args (vs := [(.agg #[(.i C89), (.i C91), (.bool F93), (.bool H95), D97.v])]) rfl) (lt_ rfl) h ?_ (fun c w' h H => e_panic (P := PP) (fn := Try.f24) H h)
      clear H h a
      rintro _ w103 a ⟨C104, C105, F106, H107, D108, rfl, h⟩ H
      refine c_nil ?_
      refine effQ.ok (v := (.agg #[(.i C104), (.i C105), (.bool F106), (.bool H107), D108.v])) (H.weaken (L' := [(48, (.agg #[(.i C104), (.i C105), (.bool F106), (.bool H107), D108.v]))]) ⟨rfl, trivial⟩) ⟨[(0, (.pointer (some (blk b14)))), (1, (.pointer (some (blk b14)))), (2, (.pointer (some ((blk b14).add 1)))), (3, (.map l81)), (4, (.string k35)), (6, (.agg #[(.i C84), (.i C86)])), (7, (.agg #[(.i C89), (.i C91), (.bool F93), (.bool H95), D97.v])), (8, (.agg #[(.i C104), (.i C105), (.bool F106), (.bool H107), D108.v]))], ⟨rfl, rfl, rfl, rfl, rfl, rfl, rfl, rfl, trivial⟩, ?_⟩
      have hx := st_8 C104 C105 F106 H107 D108 w103 h
      rw [h122] at hx
      exact hx
    exact st_ _ h123
   ·replace h := h.2 h60
    refine c_exit ?_
    first | (simp only [Exit.then, Exit.inBlock, ↓reduceIte]; fail_if_success simp only [Nat.reduceEqDiff]) | simp only [Exit.then, Exit.inBlock, ↓reduceIte, Nat.reduceEqDiff]
    refine Exists.intro () ⟨h.1, h.2, H.weaken ⟨rfl, rfl, trivial⟩⟩
  ·replace h := h.2 h33
   refine c_exit ?_
   first | (simp only [Exit.then, Exit.inBlock, ↓reduceIte]; fail_if_success simp only [Nat.reduceEqDiff]) | simp only [Exit.then, Exit.inBlock, ↓reduceIte, Nat.reduceEqDiff]
   refine hK17 _ _ <| c_seq fun K127 hK127 => c_reg <| s_move H rfl rfl (lt_ rfl) fun a H => s_assign H rfl rfl (lt_ rfl) fun a H => c_nil <| hK127 _ _ <| c_ret ?_
   exact e_ret1 H rfl rfl h

theorem sim_table_may (K1 : Int) (K2 : ByteArray) (C3 C4 : Int) (F5 H6 : Bool) (D7 : Slc) (w : World) (Q : Ending → World → Prop) (h : vc_table_may K1 K2 C3 C4 F5 H6 D7 w Q) : Calls PP F_table_may #[(.agg #[(.i K1), (.string K2), (.i C3), (.i C4), (.bool F5), (.bool H6), D7.v])] w Q := by
 unfold vc_table_may at h
 refine enter (n := 74) Try.func25 rfl rfl (Nat.le_of_ble_eq_true rfl) fun a H => c_seq fun K8 hK8 => c_reg ?_
 replace h := h.get
 obtain ⟨b9, w10, n11, h⟩ := h
 refine s_box H rfl rfl (lt_ rfl) ?_
 rw [← n11.at_]
 clear H a
 intro a H
 refine n11.go <| s_assign H rfl rfl (lt_ rfl) fun a H => c_nil <| hK8 _ _ <| c_seq fun K12 hK12 => c_reg <| s_fld H rfl rfl fld_39_2 (lt_ rfl) fun a H => s_loadN (l := [(.i C3), (.i C4), (.bool F5), (.bool H6), D7.v]) H rfl rfl agg_37 rfl ⟨(n11.cell (i := 2) rfl), (n11.cell (i := 3) rfl), (n11.cell (i := 4) rfl), (n11.cell (i := 5) rfl), (n11.cell (i := 6) rfl), trivial⟩ (lt_ rfl) fun a H => ?_
 replace h := h.get
 obtain ⟨b13, w14, n15, h⟩ := h
 refine s_alloc H rfl zero_37 (lt_ rfl) ?_
 rw [← n15.at_]
 clear H a
 intro a H
 refine n15.go <| s_stoN (l := [(.i C3), (.i C4), (.bool F5), (.bool H6), D7.v]) H rfl rfl rfl rfl agg_37 rfl rfl h ?_
 clear h H
 intro w16 h H
 refine c_nil <| hK12 _ _ <| c_seq fun K17 hK17 => c_seq fun K18 hK18 => c_reg <| s_fld H rfl rfl fld_39_1 (lt_ rfl) fun a H => ?_
 obtain ⟨l19, hc20, h⟩ := h
 refine s_load (v := (.string l19)) H rfl rfl one_9 hc20 (lt_ rfl) fun a H => s_bin H rfl rfl rfl r_eqlS (lt_ rfl) fun a H => s_move H rfl rfl (lt_ rfl) fun a H => ?_
 obtain ⟨x25, h26, h27, h⟩ := h
 refine g_join (n := 74) [(14, (.bool x25)), (1, (.pointer (some (blk b9)))), (3, (.pointer (some (blk b13))))] (.succ (.succ (.succ (.succ (.succ (.zero _)))))) ?_ ?_
 ·intro h22
  try clear h
  rcases Bool.eq_false_or_eq_true (decide (l19.toList = (ByteArray.mk #[]).toList)) with h21 | h21
  ·replace H := H.ch (t := 9) (b := true) rfl h21
   iterate 4 refine s_skip H (wantN H rfl rfl rfl) rfl (lt_ rfl) fun a H => ?_
   refine s_pickT H rfl rfl rfl (lt_ rfl) fun a H => ?_
   replace h := h27 h21
   subst h
   exact h22 _ (H.weaken ⟨rfl, rfl, rfl, trivial⟩)
  ·replace H := H.ch (t := 9) (b := false) rfl h21
   replace h := h26 h21
   refine s_fld H (wantG H rfl rfl) rfl fld_39_1 (lt_ rfl) fun a H => ?_
   obtain ⟨l23, hc24, h⟩ := h
   refine s_load (v := (.string l23)) H (wantG H rfl rfl) rfl one_9 hc24 (lt_ rfl) fun a H => s_blt H (wantG H rfl rfl) (H.args (vs := [(.string l23)]) rfl) (lt_ rfl) (fun cs => b_lenT str_9) fun a H => s_bin H (wantG H rfl rfl) rfl rfl r_gtr (lt_ rfl) fun a H => s_pickF H rfl rfl rfl (lt_ rfl) fun a H => ?_
   subst h
   exact h22 _ (H.weaken ⟨rfl, rfl, rfl, trivial⟩)
 ·clear H a
  clear h26 h27
  intro a H
  refine s_move H rfl rfl (lt_ rfl) fun a H => ?_
  obtain ⟨R30, h, h123⟩ := h
  refine g_joinW (n := 74) R30 (fun x31 => [(20, (.bool x31)), (1, (.pointer (some (blk b9)))), (3, (.pointer (some (blk b13))))]) (.succ (.succ (.succ (.succ (.succ (.zero _)))))) ?_ ?_
  ·intro h29
   clear h123
   rcases Bool.eq_false_or_eq_true x25 with h28 | h28
   ·replace H := H.ch (t := 15) (b := true) rfl h28
    replace h := h.2 h28
    iterate 4 refine s_skip H (wantN H rfl rfl rfl) rfl (lt_ rfl) fun a H => ?_
    refine s_pickT H rfl rfl rfl (lt_ rfl) fun a H => ?_
    exact h29 _ _ _ h (H.weaken ⟨rfl, rfl, rfl, trivial⟩)
   ·replace H := H.ch (t := 15) (b := false) rfl h28
    replace h := h.1 h28
    refine s_fld H (wantG H rfl rfl) rfl fld_37_0 (lt_ rfl) fun a H => ?_
    obtain ⟨C33, hc34, C35, hc36, h⟩ := h
    refine s_loadN (l := [(.i C33), (.i C35)]) H (wantG H rfl rfl) rfl agg_29 rfl ⟨hc34, hc36, trivial⟩ (lt_ rfl) fun a H => s_call H (wantG H rfl rfl) body_42 (H.args (vs := [(.agg #[(.i C33), (.i C35)])]) rfl) (lt_ rfl) h ?_ (fun c w' h H => e_panic (P := PP) (fn := Try.f25) H h)
    clear H h a
    rintro _ w37 a ⟨V38, rfl, h⟩ H
    refine s_un H (wantG H rfl rfl) rfl r_not (lt_ rfl) fun a H => s_pickF H rfl rfl rfl (lt_ rfl) fun a H => ?_
    exact h29 _ _ _ h (H.weaken ⟨rfl, rfl, rfl, trivial⟩)
  ·clear H a h
   intro a x31 w32 h H
   replace h := h123 x31 w32 h
   clear h123
   refine s_move H rfl rfl (lt_ rfl) fun a H => ?_
   obtain ⟨R45, h, h122⟩ := h
   refine g_joinW (n := 74) R45 (fun x46 => [(25, (.bool x46)), (1, (.pointer (some (blk b9)))), (3, (.pointer (some (blk b13))))]) (.succ (.succ (.succ (.succ (.zero _))))) ?_ ?_
   ·intro h44
    clear h122
    rcases Bool.eq_false_or_eq_true x31 with h43 | h43
    ·replace H := H.ch (t := 21) (b := true) rfl h43
     replace h := h.2 h43
     iterate 3 refine s_skip H (wantN H rfl rfl rfl) rfl (lt_ rfl) fun a H => ?_
     refine s_pickT H rfl rfl rfl (lt_ rfl) fun a H => ?_
     exact h44 _ _ _ h (H.weaken ⟨rfl, rfl, rfl, trivial⟩)
    ·replace H := H.ch (t := 21) (b := false) rfl h43
     replace h := h.1 h43
     refine s_fld H (wantG H rfl rfl) rfl fld_37_0 (lt_ rfl) fun a H => ?_
     obtain ⟨C48, hc49, C50, hc51, h⟩ := h
     refine s_loadN (l := [(.i C48), (.i C50)]) H (wantG H rfl rfl) rfl agg_29 rfl ⟨hc49, hc51, trivial⟩ (lt_ rfl) fun a H => s_call H (wantG H rfl rfl) body_43 (H.args (vs := [(.agg #[(.i C48), (.i C50)])]) rfl) (lt_ rfl) h ?_ (fun c w' h H => e_panic (P := PP) (fn := Try.f25) H h)
     clear H h a
     rintro _ w52 a ⟨Z53, rfl, h⟩ H
     refine s_pickF H rfl rfl rfl (lt_ rfl) fun a H => ?_
     exact h44 _ _ _ h (H.weaken ⟨rfl, rfl, rfl, trivial⟩)
   ·clear H a h
    intro a x46 w47 h H
    replace h := h122 x46 w47 h
    clear h122
    refine s_move H rfl rfl (lt_ rfl) fun a H => ?_
    obtain ⟨x62, h63, h64, h⟩ := h
    refine g_join (n := 74) [(31, (.bool x62)), (1, (.pointer (some (blk b9)))), (3, (.pointer (some (blk b13))))] (.succ (.succ (.succ (.succ (.succ (.zero _)))))) ?_ ?_
    ·intro h59
     try clear h
     rcases Bool.eq_false_or_eq_true x46 with h58 | h58
     ·replace H := H.ch (t := 26) (b := true) rfl h58
      iterate 4 refine s_skip H (wantN H rfl rfl rfl) rfl (lt_ rfl) fun a H => ?_
      refine s_pickT H rfl rfl rfl (lt_ rfl) fun a H => ?_
      replace h := h64 h58
      subst h
      exact h59 _ (H.weaken ⟨rfl, rfl, rfl, trivial⟩)
     ·replace H := H.ch (t := 26) (b := false) rfl h58
      replace h := h63 h58
      refine s_fld H (wantG H rfl rfl) rfl fld_37_3 (lt_ rfl) fun a H => ?_
      obtain ⟨l60, hc61, h⟩ := h
      refine s_load (v := l60.v) H (wantG H rfl rfl) rfl one_35 hc61 (lt_ rfl) fun a H => s_blt H (wantG H rfl rfl) (H.args (vs := [l60.v]) rfl) (lt_ rfl) (fun cs => b_lenS (z := l60) sl_35) fun a H => s_bin H (wantG H rfl rfl) rfl rfl r_gtr (lt_ rfl) fun a H => s_pickF H rfl rfl rfl (lt_ rfl) fun a H => ?_
      subst h
      exact h59 _ (H.weaken ⟨rfl, rfl, rfl, trivial⟩)
    ·clear H a
     clear h63 h64
     intro a H
     refine c_nil <| hK18 _ _ <| c_cond H rfl (fun h65 => ?_) (fun h65 => ?_)
     ·replace h := h.1 h65
      refine c_seq fun K66 hK66 => c_reg <| s_assign H rfl rfl (lt_ rfl) fun a H => c_nil <| hK66 _ _ <| c_ret ?_
      exact e_ret1 H rfl rfl h
     ·replace h := h.2 h65
      refine c_skip <| hK17 _ _ <| c_seq fun K67 hK67 => c_seq fun K68 hK68 => c_reg <| s_fld H rfl rfl fld_39_0 (lt_ rfl) fun a H => ?_
      obtain ⟨l69, hc70, h⟩ := h
      refine s_load (v := (.i l69)) H rfl rfl one_3 hc70 (lt_ rfl) fun a H => c_nil <| hK68 _ _ <| c_block <| c_seq fun K71 hK71 => c_reg <| s_bin H rfl rfl rfl r_eql (lt_ rfl) fun a H => s_assign H rfl rfl (lt_ rfl) fun a H => c_nil <| hK71 _ _ <| c_cond H rfl (fun h72 => ?_) (fun h72 => ?_)
      ·replace h := h.1 h72
       refine c_seq fun K73 hK73 => c_reg <| s_fld H rfl rfl fld_37_1 (lt_ rfl) fun a H => ?_
       obtain ⟨l74, hc75, h⟩ := h
       refine s_load (v := (.bool l74)) H rfl rfl one_4 hc75 (lt_ rfl) fun a H => s_un H rfl rfl r_not (lt_ rfl) fun a H => s_move H rfl rfl (lt_ rfl) fun a H => ?_
       obtain ⟨x80, h81, h82, h⟩ := h
       refine g_join (n := 74) [(43, (.bool x80))] (.succ (.succ (.succ (.succ (.zero _))))) ?_ ?_
       ·intro h77
        try clear h
        rcases Bool.eq_false_or_eq_true (!l74) with h76 | h76
        ·replace H := H.ch (t := 39) (b := true) rfl h76
         replace h := h81 h76
         refine s_fld H (wantG H rfl rfl) rfl fld_37_2 (lt_ rfl) fun a H => ?_
         obtain ⟨l78, hc79, h⟩ := h
         refine s_load (v := (.bool l78)) H (wantG H rfl rfl) rfl one_4 hc79 (lt_ rfl) fun a H => s_un H (wantG H rfl rfl) rfl r_not (lt_ rfl) fun a H => s_pickT H rfl rfl rfl (lt_ rfl) fun a H => ?_
         subst h
         exact h77 _ (H.weaken ⟨rfl, trivial⟩)
        ·replace H := H.ch (t := 39) (b := false) rfl h76
         iterate 3 refine s_skip H (wantN H rfl rfl rfl) rfl (lt_ rfl) fun a H => ?_
         refine s_pickF H rfl rfl rfl (lt_ rfl) fun a H => ?_
         replace h := h82 h76
         subst h
         exact h77 _ (H.weaken ⟨rfl, trivial⟩)
       ·clear H a
        clear h81 h82
        intro a H
        refine s_assign H rfl rfl (lt_ rfl) fun a H => c_nil <| hK73 _ _ <| c_ret ?_
        exact e_ret1 H rfl rfl h
      ·replace h := h.2 h72
       refine c_seq fun K83 hK83 => c_reg <| s_bin H rfl rfl rfl r_eql (lt_ rfl) fun a H => s_assign H rfl rfl (lt_ rfl) fun a H => c_nil <| hK83 _ _ <| c_cond H rfl (fun h84 => ?_) (fun h84 => ?_)
       ·replace h := h.1 h84
        refine c_seq fun K85 hK85 => c_reg <| s_fld H rfl rfl fld_37_1 (lt_ rfl) fun a H => ?_
        obtain ⟨l86, hc87, h⟩ := h
        refine s_load (v := (.bool l86)) H rfl rfl one_4 hc87 (lt_ rfl) fun a H => s_un H rfl rfl r_not (lt_ rfl) fun a H => s_move H rfl rfl (lt_ rfl) fun a H => ?_
        obtain ⟨x92, h93, h94, h⟩ := h
        refine g_join (n := 74) [(53, (.bool x92)), (3, (.pointer (some (blk b13))))] (.succ (.succ (.succ (.succ (.zero _))))) ?_ ?_
        ·intro h89
         try clear h
         rcases Bool.eq_false_or_eq_true (!l86) with h88 | h88
         ·replace H := H.ch (t := 49) (b := true) rfl h88
          replace h := h93 h88
          refine s_fld H (wantG H rfl rfl) rfl fld_37_2 (lt_ rfl) fun a H => ?_
          obtain ⟨l90, hc91, h⟩ := h
          refine s_load (v := (.bool l90)) H (wantG H rfl rfl) rfl one_4 hc91 (lt_ rfl) fun a H => s_un H (wantG H rfl rfl) rfl r_not (lt_ rfl) fun a H => s_pickT H rfl rfl rfl (lt_ rfl) fun a H => ?_
          subst h
          exact h89 _ (H.weaken ⟨rfl, rfl, trivial⟩)
         ·replace H := H.ch (t := 49) (b := false) rfl h88
          iterate 3 refine s_skip H (wantN H rfl rfl rfl) rfl (lt_ rfl) fun a H => ?_
          refine s_pickF H rfl rfl rfl (lt_ rfl) fun a H => ?_
          replace h := h94 h88
          subst h
          exact h89 _ (H.weaken ⟨rfl, rfl, trivial⟩)
        ·clear H a
         clear h93 h94
         intro a H
         refine s_move H rfl rfl (lt_ rfl) fun a H => ?_
         obtain ⟨x99, h100, h101, h⟩ := h
         refine g_join (n := 74) [(59, (.bool x99))] (.succ (.succ (.succ (.succ (.succ (.zero _)))))) ?_ ?_
         ·intro h96
          try clear h
          rcases Bool.eq_false_or_eq_true x92 with h95 | h95
          ·replace H := H.ch (t := 54) (b := true) rfl h95
           replace h := h100 h95
           refine s_fld H (wantG H rfl rfl) rfl fld_37_3 (lt_ rfl) fun a H => ?_
           obtain ⟨l97, hc98, h⟩ := h
           refine s_load (v := l97.v) H (wantG H rfl rfl) rfl one_35 hc98 (lt_ rfl) fun a H => s_blt H (wantG H rfl rfl) (H.args (vs := [l97.v]) rfl) (lt_ rfl) (fun cs => b_lenS (z := l97) sl_35) fun a H => s_bin H (wantG H rfl rfl) rfl rfl r_eql (lt_ rfl) fun a H => s_pickT H rfl rfl rfl (lt_ rfl) fun a H => ?_
           subst h
           exact h96 _ (H.weaken ⟨rfl, trivial⟩)
          ·replace H := H.ch (t := 54) (b := false) rfl h95
           iterate 4 refine s_skip H (wantN H rfl rfl rfl) rfl (lt_ rfl) fun a H => ?_
           refine s_pickF H rfl rfl rfl (lt_ rfl) fun a H => ?_
           replace h := h101 h95
           subst h
           exact h96 _ (H.weaken ⟨rfl, trivial⟩)
         ·clear H a
          clear h100 h101
          intro a H
          refine s_assign H rfl rfl (lt_ rfl) fun a H => c_nil <| hK85 _ _ <| c_ret ?_
          exact e_ret1 H rfl rfl h
       ·replace h := h.2 h84
        refine c_seq fun K102 hK102 => c_reg <| s_bin H rfl rfl rfl r_eql (lt_ rfl) fun a H => s_assign H rfl rfl (lt_ rfl) fun a H => c_nil <| hK102 _ _ <| c_cond H rfl (fun h103 => ?_) (fun h103 => ?_)
        ·replace h := h.1 h103
         refine c_seq fun K104 hK104 => c_reg <| s_fld H rfl rfl fld_37_2 (lt_ rfl) fun a H => ?_
         obtain ⟨l105, hc106, h⟩ := h
         refine s_load (v := (.bool l105)) H rfl rfl one_4 hc106 (lt_ rfl) fun a H => s_move H rfl rfl (lt_ rfl) fun a H => ?_
         obtain ⟨x118, h119, h120, h⟩ := h
         refine g_join (n := 74) [(73, (.bool x118))] (.succ (.succ (.succ (.succ (.succ (.succ (.succ (.succ (.succ (.zero _)))))))))) ?_ ?_
         ·intro h108
          try clear h
          rcases Bool.eq_false_or_eq_true l105 with h107 | h107
          ·replace H := H.ch (t := 64) (b := true) rfl h107
           iterate 3 refine s_skip H (wantN H rfl rfl rfl) rfl (lt_ rfl) fun a H => ?_
           iterate 4 refine s_skip H (wantU H rfl rfl) rfl (lt_ rfl) fun a H => ?_
           refine s_skip H (wantN H rfl rfl rfl) rfl (lt_ rfl) fun a H => s_pickT H rfl rfl rfl (lt_ rfl) fun a H => ?_
           replace h := h120 h107
           subst h
           exact h108 _ (H.weaken ⟨rfl, trivial⟩)
          ·replace H := H.ch (t := 64) (b := false) rfl h107
           replace h := h119 h107
           refine s_fld H (wantG H rfl rfl) rfl fld_37_1 (lt_ rfl) fun a H => ?_
           obtain ⟨l109, hc110, h⟩ := h
           refine s_load (v := (.bool l109)) H (wantG H rfl rfl) rfl one_4 hc110 (lt_ rfl) fun a H => s_move H (wantG H rfl rfl) rfl (lt_ rfl) fun a H => ?_
           obtain ⟨x115, h116, h117, h⟩ := h
           refine g_join (n := 74) [(72, (.bool x115)), (64, (.bool false))] (.succ (.succ (.succ (.succ (.succ (.zero _)))))) ?_ ?_
           ·intro h112
            try clear h
            rcases Bool.eq_false_or_eq_true l109 with h111 | h111
            ·replace H := H.ch (t := 67) (b := true) rfl h111
             replace h := h116 h111
             refine s_fld H (wantG H rfl rfl) rfl fld_37_3 (lt_ rfl) fun a H => ?_
             obtain ⟨l113, hc114, h⟩ := h
             refine s_load (v := l113.v) H (wantG H rfl rfl) rfl one_35 hc114 (lt_ rfl) fun a H => s_blt H (wantG H rfl rfl) (H.args (vs := [l113.v]) rfl) (lt_ rfl) (fun cs => b_lenS (z := l113) sl_35) fun a H => s_bin H (wantG H rfl rfl) rfl rfl r_eql (lt_ rfl) fun a H => s_pickT H (wantG H rfl rfl) rfl rfl (lt_ rfl) fun a H => ?_
             subst h
             exact h112 _ (H.weaken ⟨rfl, rfl, trivial⟩)
            ·replace H := H.ch (t := 67) (b := false) rfl h111
             iterate 4 refine s_skip H (wantN H rfl rfl rfl) rfl (lt_ rfl) fun a H => ?_
             refine s_pickF H (wantG H rfl rfl) rfl rfl (lt_ rfl) fun a H => ?_
             replace h := h117 h111
             subst h
             exact h112 _ (H.weaken ⟨rfl, rfl, trivial⟩)
           ·clear H a
            clear h116 h117
            intro a H
            refine s_pickF H rfl rfl rfl (lt_ rfl) fun a H => ?_
            subst h
            exact h108 _ (H.weaken ⟨rfl, trivial⟩)
         ·clear H a
          clear h119 h120
          intro a H
          refine s_assign H rfl rfl (lt_ rfl) fun a H => c_nil <| hK104 _ _ <| c_ret ?_
          exact e_ret1 H rfl rfl h
        ·replace h := h.2 h103
         refine c_skip <| hK67 _ _ <| c_seq fun K121 hK121 => c_reg <| s_assign H rfl rfl (lt_ rfl) fun a H => c_nil <| hK121 _ _ <| c_ret ?_
         exact e_ret1 H rfl rfl h

theorem sim_table_Table_pre (t1 : Option Addr) (k2 : ByteArray) (C3 C4 : Int) (d5 : Slc) (w : World) (Q : Ending → World → Prop) (h : vc_table_Table_pre t1 k2 C3 C4 d5 w Q) : Calls PP F_table_Table_pre #[(.pointer t1), (.string k2), (.agg #[(.i C3), (.i C4)]), d5.v] w Q := by
 unfold vc_table_Table_pre at h
 refine enter (n := 50) Try.func26 rfl rfl (Nat.le_of_ble_eq_true rfl) fun a H => c_seq fun K6 hK6 => c_reg ?_
 replace h := h.get
 obtain ⟨b7, w8, n9, h⟩ := h
 refine s_box H rfl rfl (lt_ rfl) ?_
 rw [← n9.at_]
 clear H a
 intro a H
 refine n9.go <| s_assign H rfl rfl (lt_ rfl) fun a H => c_nil <| hK6 _ _ <| c_seq fun K10 hK10 => c_reg <| s_move H rfl rfl (lt_ rfl) fun a H => ?_
 obtain ⟨a11, h103, h⟩ := h
 revert H
 subst h103
 intro H
 refine s_nil H rfl rfl (lt_ rfl) fun a H => s_fld H rfl rfl fld_66_1 (lt_ rfl) fun a H => ?_
 obtain ⟨l12, hc13, h⟩ := h
 refine s_load (v := (.map l12)) H rfl rfl one_64 hc13 (lt_ rfl) fun a H => s_move H rfl rfl (lt_ rfl) fun a H => ?_
 obtain ⟨_, h16, m14, rfl, h⟩ := h
 refine s_lkp H rfl rfl rfl h16 (lt_ rfl) ?_
 clear H a h16
 intro a H
 refine s_assign H rfl rfl (lt_ rfl) fun a H => c_nil <| hK10 _ _ <| c_seq fun K17 hK17 => c_reg <| s_move H rfl rfl (lt_ rfl) fun a H => s_loadN (l := [(.i C3), (.i C4)]) H rfl rfl agg_29 rfl ⟨(n9.cell (i := 0) rfl), (n9.cell (i := 1) rfl), trivial⟩ (lt_ rfl) fun a H => ?_
 obtain ⟨_, h24, C18, C19, F20, H21, D22, rfl, h⟩ := h
 refine s_lkp H rfl rfl rfl h24 (lt_ rfl) ?_
 clear H a h24
 intro a H
 replace h := h.get
 obtain ⟨b25, w26, n27, h⟩ := h
 refine s_alloc H rfl zero_37 (lt_ rfl) ?_
 rw [← n27.at_]
 clear H a
 intro a H
 refine n27.go <| s_stoN (l := [(.i C18), (.i C19), (.bool F20), (.bool H21), D22.v]) H rfl rfl rfl rfl agg_37 rfl rfl h ?_
 clear h H
 intro w28 h H
 refine c_nil <| hK17 _ _ <| c_seq fun K29 hK29 => c_seq fun K30 hK30 => ?_
 obtain ⟨R32, h, h102⟩ := h
 have h77 : ∀ (a : Act) (s31 : Bool) (w33 : World), R32 s31 w33 → Has 50 [] a [(0, (.pointer (some a11))), (1, (.string k2)), (3, d5.v), (6, (.pointer (some (blk b7)))), (9, (.map m14)), (10, (.pointer (some (blk b25)))), (32, (.bool s31))] → K30 a w33 := by
  clear h
  intro a s31 w33 h H
  replace h := h102 s31 w33 h
  refine hK30 _ _ <| c_cond H rfl (fun h34 => ?_) (fun h34 => ?_)
  ·replace h := h.1 h34
   refine c_seq fun K35 hK35 => c_reg <| s_assign H rfl rfl (lt_ rfl) fun a H => c_nil <| hK35 _ _ <| c_ret ?_
   exact e_ret1 H rfl rfl h
  ·replace h := h.2 h34
   refine c_skip <| hK29 _ _ <| c_seq fun K36 hK36 => ?_
   obtain ⟨R38, h, h76⟩ := h
   have h65 : ∀ (a : Act) (s37 : Option Nat) (w39 : World), R38 s37 w39 → Has 50 [] a [(3, d5.v), (6, (.pointer (some (blk b7)))), (9, (.map s37)), (10, (.pointer (some (blk b25))))] → K36 a w39 := by
    clear h
    intro a s37 w39 h H
    replace h := h76 s37 w39 h
    refine hK36 _ _ <| c_seq fun K40 hK40 => ?_
    replace H := H.weaken (L' := [(3, d5.v), (6, (.pointer (some (blk b7)))), (9, (.map s37)), (10, (.pointer (some (blk b25))))]) ⟨rfl, rfl, rfl, rfl, trivial⟩
    obtain ⟨C41, hc42, C43, hc44, C45, hc46, C47, hc48, l49, hc50, h⟩ := h
    refine c_any (V := [(0, (.map s37)), (1, (.agg #[(.i C41), (.i C43)])), (2, (.agg #[(.i C45), (.i C47)])), (3, (.pointer (some ((blk b25).add 2)))), (4, (.bool l49)), (5, d5.v)]) (⟨[[], [], [], [], [3], [], [5], [2, 4, 6], [0, 1, 2, 3, 4, 5, 6, 7]], [some 42, some 43, some 44, some 45, some 46, some 47, some 48, some 49, none], [6, 8], [0, 0, 0, 0, 0, 0, 0, 1, 1], [1, 1, 1, 1, 1, 0, 1, 1, 2]⟩ : Rg) [(3, d5.v), (6, (.pointer (some (blk b7)))), (9, (.map s37)), (10, (.pointer (some (blk b25))))] mixed (by kernel_rfl) H ?_
    refine Stg.eff [0, 1, 2, 3, 4, 5] (by kernel_rfl) rfl (.cons ?_ (.cons ?_ (.cons ?_ (.cons ?_ (.cons ?_ (.cons ?_ .nil)))))) ?_
    ·refine Ans.mk rfl rfl fun a H => s_move H rfl rfl (lt_ rfl) fun a H => ?_
     exact Ans.fin H rfl
    ·refine Ans.mk rfl rfl fun a H => s_loadN (l := [(.i C41), (.i C43)]) H rfl rfl agg_29 rfl ⟨hc42, hc44, trivial⟩ (lt_ rfl) fun a H => ?_
     exact Ans.fin H rfl
    ·refine Ans.mk rfl rfl fun a H => s_loadN (l := [(.i C45), (.i C47)]) H rfl rfl agg_29 rfl ⟨hc46, hc48, trivial⟩ (lt_ rfl) fun a H => ?_
     exact Ans.fin H rfl
    ·refine Ans.mk rfl rfl fun a H => s_fld H rfl rfl fld_37_1 (lt_ rfl) fun a H => ?_
     exact Ans.fin H rfl
    ·refine Ans.mk rfl rfl fun a H => s_load (v := (.bool l49)) H rfl rfl one_4 hc50 (lt_ rfl) fun a H => ?_
     exact Ans.fin H rfl
    ·refine Ans.mk rfl rfl fun a H => s_move H rfl rfl (lt_ rfl) fun a H => ?_
     exact Ans.fin H rfl
    ·intro a H
     replace H := H.weaken (L' := [(47, d5.v)]) ⟨rfl, trivial⟩
     refine s_call H rfl body_44 (H.args (vs := [d5.v]) rfl) (lt_ rfl) h ?_ (fun c w' h H => e_panic (P := PP) (fn := Try.f26) H h)
     clear H h a
     rintro _ w51 a ⟨C52, rfl, h⟩ H
     refine c_nil ?_
     obtain ⟨hc53, hc54, hc55, hc56, hc57, h⟩ := h
     refine effQ.go [(7, (.agg #[(.i C45), (.i C47), (.bool l49), (.bool true), C52.v]))] H rfl rfl <| Stg.eff [0, 1, 2, 3, 4, 7] (by kernel_rfl) rfl (.cons ?_ (.cons ?_ (.cons ?_ (.cons ?_ (.cons ?_ (.cons ?_ .nil)))))) ?_
     ·refine Ans.mk rfl rfl fun a H => s_move H rfl rfl (lt_ rfl) fun a H => ?_
      exact Ans.fin H rfl
     ·refine Ans.mk rfl rfl fun a H => s_loadN (l := [(.i C41), (.i C43)]) H rfl rfl agg_29 rfl ⟨hc53, hc54, trivial⟩ (lt_ rfl) fun a H => ?_
      exact Ans.fin H rfl
     ·refine Ans.mk rfl rfl fun a H => s_loadN (l := [(.i C45), (.i C47)]) H rfl rfl agg_29 rfl ⟨hc55, hc56, trivial⟩ (lt_ rfl) fun a H => ?_
      exact Ans.fin H rfl
     ·refine Ans.mk rfl rfl fun a H => s_fld H rfl rfl fld_37_1 (lt_ rfl) fun a H => ?_
      exact Ans.fin H rfl
     ·refine Ans.mk rfl rfl fun a H => s_load (v := (.bool l49)) H rfl rfl one_4 hc57 (lt_ rfl) fun a H => ?_
      exact Ans.fin H rfl
     ·refine Ans.mk rfl rfl fun a H => s_build H rfl (by rw [H.parts (vs := [(0, (.agg #[(.i C45), (.i C47)])), (1, (.bool l49)), (2, (.bool true)), (3, C52.v)]) rfl]; exact bd_37_ii64ii640_b1_b2_s3 w51 C45 C47 l49 true C52) (lt_ rfl) fun a H => ?_
      exact Ans.fin H rfl
     ·intro a H
      replace H := H.weaken (L' := [(42, (.map s37)), (43, (.agg #[(.i C41), (.i C43)])), (49, (.agg #[(.i C45), (.i C47), (.bool l49), (.bool true), C52.v]))]) ⟨rfl, rfl, rfl, trivial⟩
      obtain ⟨w58, h59, h⟩ := h
      refine s_mup H rfl rfl rfl rfl h59 ?_
      clear H h59
      intro H
      refine c_nil <| effQ.go0 [] H rfl rfl <| Stg.fin [] (by kernel_rfl) .nil ?_
      ·intro a H
       replace H := H.weaken (L' := []) trivial
       refine hK40 _ _ <| c_seq fun K60 hK60 => c_reg <| s_assign H rfl rfl (lt_ rfl) fun a H => c_nil <| hK60 _ _ <| c_ret ?_
       exact e_ret1 H rfl rfl h
   clear h76
   refine c_seq fun K66 hK66 => c_reg <| s_move H rfl rfl (lt_ rfl) fun a H => s_bin H rfl rfl rfl (r_eqM0 map_74) (lt_ rfl) fun a H => c_nil <| hK66 _ _ <| c_cond H rfl (fun h67 => ?_) (fun h67 => ?_)
   ·replace h := h.1 h67
    refine c_seq fun K68 hK68 => c_reg ?_
    obtain ⟨g69, w70, h71, h⟩ := h
    refine s_mkm H rfl h71 (lt_ rfl) ?_
    clear H a h71
    intro a H
    refine s_assign H rfl rfl (lt_ rfl) fun a H => c_nil <| hK68 _ _ <| c_reg <| s_move H rfl rfl (lt_ rfl) fun a H => s_nil H rfl rfl (lt_ rfl) fun a H => s_fld H rfl rfl fld_66_1 (lt_ rfl) fun a H => ?_
    obtain ⟨l72, hc73, h⟩ := h
    refine s_load (v := (.map l72)) H rfl rfl one_64 hc73 (lt_ rfl) fun a H => s_move H rfl rfl (lt_ rfl) fun a H => s_move H rfl rfl (lt_ rfl) fun a H => ?_
    obtain ⟨w74, h75, h⟩ := h
    refine s_mup H rfl rfl rfl rfl h75 ?_
    clear H h75
    intro H
    refine c_nil ?_
    exact h65 _ _ _ h (H.weaken ⟨rfl, rfl, rfl, rfl, trivial⟩)
   ·replace h := h.2 h67
    refine c_skip ?_
    exact h65 _ _ _ h (H.weaken ⟨rfl, rfl, rfl, rfl, trivial⟩)
 clear h102
 replace H := H.weaken (L' := [(0, (.pointer (some a11))), (1, (.string k2)), (3, d5.v), (6, (.pointer (some (blk b7)))), (9, (.map m14)), (10, (.pointer (some (blk b25))))]) ⟨rfl, rfl, rfl, rfl, rfl, rfl, trivial⟩
 obtain ⟨l78, hc79, h⟩ := h
 rcases Bool.eq_false_or_eq_true l78 with h80 | h80
 ·replace h := h.1 h80
  refine c_any (V := [(0, (.pointer (some ((blk b25).add 3)))), (1, (.bool l78)), (2, (.bool l78)), (3, undef), (4, undef), (5, undef), (6, undef), (7, undef), (8, undef)]) (⟨[[], [0], [1], [2], [2], [2], [2, 5], [2, 6], [2, 7], [2, 4, 8], [2, 3, 9], [2, 10], [2, 11]], [some 20, some 21, some 22, some 23, some 24, some 25, some 26, some 27, some 28, some 29, some 30, some 31, some 32], [9, 10], [0, 0, 0, 0, 0, 0, 0, 0, 0, 0, 1, 2, 2], [0, 0, 0, 1, 0, 0, 0, 0, 0, 1, 2, 2, 2]⟩ : Rg) [(0, (.pointer (some a11))), (1, (.string k2)), (3, d5.v), (6, (.pointer (some (blk b7)))), (9, (.map m14)), (10, (.pointer (some (blk b25))))] mixed (by kernel_rfl) H ?_
  refine Stg.eff [0, 1, 2, 3, 4, 5, 6, 7, 8] (by kernel_rfl) rfl (.cons ?_ (.cons ?_ (.cons ?_ (.cons ?_ (.cons ?_ (.cons ?_ (.cons ?_ (.cons ?_ (.cons ?_ .nil))))))))) ?_
  ·refine Ans.mk rfl rfl fun a H => s_fld H rfl rfl fld_37_2 (lt_ rfl) fun a H => ?_
   exact Ans.fin H rfl
  ·refine Ans.mk rfl rfl fun a H => s_load (v := (.bool l78)) H rfl rfl one_4 hc79 (lt_ rfl) fun a H => ?_
   exact Ans.fin H rfl
  ·refine Ans.mk rfl rfl fun a H => s_move H rfl rfl (lt_ rfl) fun a H => ?_
   exact Ans.fin H rfl
  ·exact .skip rfl rfl rfl rfl rfl rfl h80 rfl
  ·exact .skip rfl rfl rfl rfl rfl rfl h80 rfl
  ·exact .skip rfl rfl rfl rfl rfl rfl h80 rfl
  ·exact .skip rfl rfl rfl rfl rfl rfl h80 rfl
  ·exact .skip rfl rfl rfl rfl rfl rfl h80 rfl
  ·exact .skip rfl rfl rfl rfl rfl rfl h80 rfl
  ·intro a H
   replace H := H.weaken (L' := [(22, (.bool l78)), (24, undef), (28, undef)]) ⟨rfl, rfl, rfl, trivial⟩
   replace H := H.ch (t := 22) (b := true) rfl h80
   refine s_skip H (wantN H rfl rfl rfl) rfl (lt_ rfl) fun a H => c_nil <| effQ.go [] H rfl rfl <| Stg.eff [3] (by kernel_rfl) rfl (.cons ?_ .nil) ?_
   ·exact .skip rfl rfl rfl rfl rfl rfl h80 rfl
   ·intro a H
    replace H := H.weaken (L' := [(22, (.bool l78)), (23, undef), (29, undef)]) ⟨rfl, rfl, rfl, trivial⟩
    replace H := H.ch (t := 22) (b := true) rfl h80
    refine s_skip H (wantN H rfl rfl rfl) rfl (lt_ rfl) fun a H => c_nil <| effQ.go [(11, undef), (12, (.bool true))] H rfl rfl <| Stg.fin [11, 12] (by kernel_rfl) (.cons ?_ (.cons ?_ .nil)) ?_
    ·exact .skip rfl rfl rfl rfl rfl rfl h80 rfl
    ·refine Ans.mk rfl rfl fun a H => ?_
     replace H := H.ch (t := 22) (b := true) rfl h80
     refine s_pickT H rfl rfl rfl (lt_ rfl) fun a H => ?_
     exact Ans.fin H rfl
    ·intro a H
     replace H := H.weaken (L' := [(0, (.pointer (some a11))), (1, (.string k2)), (3, d5.v), (6, (.pointer (some (blk b7)))), (9, (.map m14)), (10, (.pointer (some (blk b25)))), (32, (.bool true))]) ⟨rfl, rfl, rfl, rfl, rfl, rfl, rfl, trivial⟩
     exact h77 _ _ _ h (H.weaken ⟨rfl, rfl, rfl, rfl, rfl, rfl, rfl, trivial⟩)
 ·replace h := h.2 h80
  obtain ⟨C81, hc82, C83, hc84, l85, hc86, h⟩ := h
  refine c_any (V := [(0, (.pointer (some ((blk b25).add 3)))), (1, (.bool l78)), (2, (.bool l78)), (3, (.agg #[(.i C81), (.i C83)])), (4, (.map m14)), (5, (.pointer (some a11))), (6, (.pointer (some a11))), (7, (.pointer (some (a11.add 0)))), (8, (.i l85))]) (⟨[[], [0], [1], [2], [2], [2], [2, 5], [2, 6], [2, 7], [2, 4, 8], [2, 3, 9], [2, 10], [2, 11]], [some 20, some 21, some 22, some 23, some 24, some 25, some 26, some 27, some 28, some 29, some 30, some 31, some 32], [9, 10], [0, 0, 0, 0, 0, 0, 0, 0, 0, 0, 1, 2, 2], [0, 0, 0, 1, 0, 0, 0, 0, 0, 1, 2, 2, 2]⟩ : Rg) [(0, (.pointer (some a11))), (1, (.string k2)), (3, d5.v), (6, (.pointer (some (blk b7)))), (9, (.map m14)), (10, (.pointer (some (blk b25))))] mixed (by kernel_rfl) H ?_
  refine Stg.eff [0, 1, 2, 3, 4, 5, 6, 7, 8] (by kernel_rfl) rfl (.cons ?_ (.cons ?_ (.cons ?_ (.cons ?_ (.cons ?_ (.cons ?_ (.cons ?_ (.cons ?_ (.cons ?_ .nil))))))))) ?_
  ·refine Ans.mk rfl rfl fun a H => s_fld H rfl rfl fld_37_2 (lt_ rfl) fun a H => ?_
   exact Ans.fin H rfl
  ·refine Ans.mk rfl rfl fun a H => s_load (v := (.bool l78)) H rfl rfl one_4 hc79 (lt_ rfl) fun a H => ?_
   exact Ans.fin H rfl
  ·refine Ans.mk rfl rfl fun a H => s_move H rfl rfl (lt_ rfl) fun a H => ?_
   exact Ans.fin H rfl
  ·refine Ans.mk rfl rfl fun a H => ?_
   replace H := H.ch (t := 22) (b := false) rfl h80
   refine s_loadN (l := [(.i C81), (.i C83)]) H (wantG H rfl rfl) rfl agg_29 rfl ⟨hc82, hc84, trivial⟩ (lt_ rfl) fun a H => ?_
   exact Ans.fin H rfl
  ·refine Ans.mk rfl rfl fun a H => ?_
   replace H := H.ch (t := 22) (b := false) rfl h80
   refine s_move H (wantG H rfl rfl) rfl (lt_ rfl) fun a H => ?_
   exact Ans.fin H rfl
  ·refine Ans.mk rfl rfl fun a H => ?_
   replace H := H.ch (t := 22) (b := false) rfl h80
   refine s_move H (wantG H rfl rfl) rfl (lt_ rfl) fun a H => ?_
   exact Ans.fin H rfl
  ·refine Ans.mk rfl rfl fun a H => ?_
   replace H := H.ch (t := 22) (b := false) rfl h80
   refine s_nil H (wantG H rfl rfl) rfl (lt_ rfl) fun a H => ?_
   exact Ans.fin H rfl
  ·refine Ans.mk rfl rfl fun a H => ?_
   replace H := H.ch (t := 22) (b := false) rfl h80
   refine s_fld H (wantG H rfl rfl) rfl fld_66_0 (lt_ rfl) fun a H => ?_
   exact Ans.fin H rfl
  ·refine Ans.mk rfl rfl fun a H => ?_
   replace H := H.ch (t := 22) (b := false) rfl h80
   refine s_load (v := (.i l85)) H (wantG H rfl rfl) rfl one_3 hc86 (lt_ rfl) fun a H => ?_
   exact Ans.fin H rfl
  ·intro a H
   replace H := H.weaken (L' := [(22, (.bool l78)), (24, (.map m14)), (28, (.i l85))]) ⟨rfl, rfl, rfl, trivial⟩
   replace H := H.ch (t := 22) (b := false) rfl h80
   refine s_call H (wantG H rfl rfl) body_35 (H.args (vs := [(.map m14), (.i l85)]) rfl) (lt_ rfl) h ?_ (fun c w' h H => e_panic (P := PP) (fn := Try.f26) H h)
   clear H h a
   rintro _ w87 a ⟨C88, C89, rfl, h⟩ H
   refine c_nil ?_
   obtain ⟨hc90, hc91, h⟩ := h
   refine effQ.go [] H rfl rfl <| Stg.eff [3] (by kernel_rfl) rfl (.cons ?_ .nil) ?_
   ·refine Ans.mk rfl rfl fun a H => ?_
    replace H := H.ch (t := 22) (b := false) rfl h80
    refine s_loadN (l := [(.i C81), (.i C83)]) H (wantG H rfl rfl) rfl agg_29 rfl ⟨hc90, hc91, trivial⟩ (lt_ rfl) fun a H => ?_
    exact Ans.fin H rfl
   ·intro a H
    replace H := H.weaken (L' := [(22, (.bool l78)), (23, (.agg #[(.i C81), (.i C83)])), (29, (.agg #[(.i C88), (.i C89)]))]) ⟨rfl, rfl, rfl, trivial⟩
    replace H := H.ch (t := 22) (b := false) rfl h80
    refine s_call H (wantG H rfl rfl) body_13 (H.args (vs := [(.agg #[(.i C81), (.i C83)]), (.agg #[(.i C88), (.i C89)])]) rfl) (lt_ rfl) h ?_ (fun c w' h H => e_panic (P := PP) (fn := Try.f26) H h)
    clear H h a
    rintro _ w92 a ⟨C93, rfl, h⟩ H
    refine c_nil <| effQ.go [(11, (.bool (decide (C93 < 0)))), (12, (.bool (decide (C93 < 0))))] H rfl rfl <| Stg.fin [11, 12] (by kernel_rfl) (.cons ?_ (.cons ?_ .nil)) ?_
    ·refine Ans.mk rfl rfl fun a H => ?_
     replace H := H.ch (t := 22) (b := false) rfl h80
     refine s_bin H (wantG H rfl rfl) rfl rfl r_lss (lt_ rfl) fun a H => ?_
     exact Ans.fin H rfl
    ·refine Ans.mk rfl rfl fun a H => ?_
     replace H := H.ch (t := 22) (b := false) rfl h80
     refine s_pickF H rfl rfl rfl (lt_ rfl) fun a H => ?_
     exact Ans.fin H rfl
    ·intro a H
     replace H := H.weaken (L' := [(0, (.pointer (some a11))), (1, (.string k2)), (3, d5.v), (6, (.pointer (some (blk b7)))), (9, (.map m14)), (10, (.pointer (some (blk b25)))), (32, (.bool (decide (C93 < 0))))]) ⟨rfl, rfl, rfl, rfl, rfl, rfl, rfl, trivial⟩
     exact h77 _ _ _ h (H.weaken ⟨rfl, rfl, rfl, rfl, rfl, rfl, rfl, trivial⟩)
end Go.Proofs.Ytgnceldnfefnmaa
