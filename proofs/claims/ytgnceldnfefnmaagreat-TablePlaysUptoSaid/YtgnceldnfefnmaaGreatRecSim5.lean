/-
  The conditions give the machine's calls; printed by vcgen.py.
-/
import Derived.Test.YtgnceldnfefnmaaGreatRecVc
namespace Go.Proofs.YtgnceldnfefnmaaGreat
open Go Go.Vc
set_option maxRecDepth 100000
set_option maxHeartbeats 4000000
theorem sim_sherdref15_Table_fin (t1 : Option Addr) (k2 : ByteArray) (C3 C4 : Int) (w : World) (Q : Ending → World → Prop) (h : vc_sherdref15_Table_fin t1 k2 C3 C4 w Q) : Calls PP F_sherdref15_Table_fin #[(.pointer t1), (.string k2), (.agg #[(.i C3), (.i C4)])] w Q := by
 unfold vc_sherdref15_Table_fin at h
 refine enter (n := 98) Tryz.func57 rfl rfl (Nat.le_of_ble_eq_true rfl) fun a H => c_seq fun K5 hK5 => c_reg ?_
 replace h := h.get
 obtain ⟨b6, w7, n8, h⟩ := h
 refine s_box H rfl rfl (lt_ rfl) ?_
 rw [← n8.at_]
 clear H a
 intro a H
 refine n8.go <| s_assign H rfl rfl (lt_ rfl) fun a H => c_nil <| hK5 _ _ <| c_seq fun K9 hK9 => c_reg <| s_move H rfl rfl (lt_ rfl) fun a H => s_move H rfl rfl (lt_ rfl) fun a H => s_loadN (l := [(.i C3), (.i C4)]) H rfl rfl agg_33 rfl ⟨(n8.cell (i := 0) rfl), (n8.cell (i := 1) rfl), trivial⟩ (lt_ rfl) fun a H => s_call H rfl body_42 (H.args (vs := [(.pointer t1), (.string k2), (.agg #[(.i C3), (.i C4)])]) rfl) (lt_ rfl) h ?_ (fun c w' h H => e_panic (P := PP) (fn := Tryz.f57) H h)
 clear H h a
 rintro _ w10 a ⟨p11, rfl, h⟩ H
 refine s_assign H rfl rfl (lt_ rfl) fun a H => c_nil <| hK9 _ _ <| c_seq fun K12 hK12 => c_seq fun K13 hK13 => ?_
 obtain ⟨R15, h, h193⟩ := h
 have h161 : ∀ (a : Act) (s14 : Bool) (w16 : World), R15 s14 w16 → Has 98 [] a [(0, (.pointer t1)), (1, (.string k2)), (5, (.pointer (some (blk b6)))), (7, (.i p11)), (35, (.bool s14))] → K13 a w16 := by
  clear h
  intro a s14 w16 h H
  replace h := h193 s14 w16 h
  refine hK13 _ _ <| c_cond H rfl (fun h17 => ?_) (fun h17 => ?_)
  ·replace h := h.1 h17
   refine c_seq fun K18 hK18 => c_reg <| s_assign H rfl rfl (lt_ rfl) fun a H => c_nil <| hK18 _ _ <| c_ret ?_
   exact e_ret1 H rfl rfl h
  ·replace h := h.2 h17
   refine c_skip <| hK12 _ _ <| c_seq fun K19 hK19 => ?_
   obtain ⟨R21, h, h160⟩ := h
   have h136 : ∀ (a : Act) (i20 : Int) (w22 : World), R21 i20 w22 → Has 98 [] a [(0, (.pointer t1)), (1, (.string k2)), (7, (.i i20))] → K19 a w22 := by
    clear h
    intro a i20 w22 h H
    replace h := h160 i20 w22 h
    refine hK19 _ _ <| c_seq fun K23 hK23 => c_reg <| s_move H rfl rfl (lt_ rfl) fun a H => ?_
    obtain ⟨a24, h135, h⟩ := h
    revert H
    subst h135
    intro H
    refine s_nil H rfl rfl (lt_ rfl) fun a H => s_fld H rfl rfl fld_49_1 (lt_ rfl) fun a H => ?_
    obtain ⟨l25, hc26, h⟩ := h
    refine s_load (v := l25.v) H rfl rfl one_47 hc26 (lt_ rfl) fun a H => s_move H rfl rfl (lt_ rfl) fun a H => ?_
    obtain ⟨a27, h28, h29, h30, h⟩ := h
    refine s_idxS (s := l25) H rfl rfl rfl slc_47 h28 h29 h30 (lt_ rfl) fun a H => s_fld H rfl rfl fld_57_1 (lt_ rfl) fun a H => s_fld H rfl rfl fld_36_1 (lt_ rfl) fun a H => ?_
    obtain ⟨h32, h33, h⟩ := h
    refine s_sto (p := ((a27.add (Int.toNat (i20) * 6)).add 1).add 2) (v := (.bool true)) H rfl rfl rfl rfl one_4 rfl h32 h33 ?_
    clear H
    intro H
    generalize hww31 : World.setCell w22 (((a27.add (Int.toNat (i20) * 6)).add 1).add 2) (.bool true) = w31 at h ⊢
    have w31S : SetAt w22 (((a27.add (Int.toNat (i20) * 6)).add 1).add 2) (.bool true) w31 := ⟨hww31.symm⟩
    clear hww31 h32 h33
    refine c_nil <| hK23 _ _ <| c_seq fun K34 hK34 => c_reg <| s_move H rfl rfl (lt_ rfl) fun a H => s_move H rfl rfl (lt_ rfl) fun a H => s_call H rfl body_20 (H.args (vs := [(.pointer (some a24)), (.string k2)]) rfl) (lt_ rfl) h ?_ (fun c w' h H => e_panic (P := PP) (fn := Tryz.f57) H h)
    clear H h a
    rintro _ w35 a ⟨C36, C37, rfl, h⟩ H
    replace h := h.get
    obtain ⟨b38, w39, n40, h⟩ := h
    refine s_alloc H rfl zero_33 (lt_ rfl) ?_
    rw [← n40.at_]
    clear H a
    intro a H
    refine n40.go <| s_stoN (l := [(.i C36), (.i C37)]) H rfl rfl rfl rfl agg_33 rfl rfl h ?_
    clear h H
    intro w41 h H
    refine c_nil <| hK34 _ _ <| c_seq fun K42 hK42 => c_reg <| s_assign H rfl rfl (lt_ rfl) fun a H => c_nil <| hK42 _ _ <| c_seq fun K43 hK43 => c_seq fun K44 hK44 => c_reg <| s_move H rfl rfl (lt_ rfl) fun a H => s_nil H rfl rfl (lt_ rfl) fun a H => s_fld H rfl rfl fld_49_1 (lt_ rfl) fun a H => ?_
    obtain ⟨l45, hc46, h⟩ := h
    refine s_load (v := l45.v) H rfl rfl one_47 hc46 (lt_ rfl) fun a H => s_blt H rfl (H.args (vs := [l45.v]) rfl) (lt_ rfl) (fun cs => b_lenS (z := l45) sl_47) fun a H => s_move H rfl rfl (lt_ rfl) fun a H => c_nil <| hK44 _ _ <| c_block ?_
    obtain ⟨I50, m51, h129, h130⟩ := h
    refine c_loop (σ := Slc × Int) (fun z w => I50 z.1 z.2 w) (fun z w => m51 z.1 z.2 w) (fun z => [(0, (.pointer (some a24))), (1, (.string k2)), (8, (.pointer (some (blk b38)))), (9, z.1.v), (71, l45.v), (72, (.i (l45.l : Int))), (73, (.i z.2))]) (Slc.nil, 0) h129 (H.weaken ⟨rfl, rfl, rfl, rfl, rfl, rfl, rfl, trivial⟩) ?_
    clear H h129
    rintro ⟨l47, s48⟩ a w49 h H
    replace h := h130 l47 s48 w49 h
    clear h130
    replace H : Has 98 [] a [(0, (.pointer (some a24))), (1, (.string k2)), (8, (.pointer (some (blk b38)))), (9, l47.v), (71, l45.v), (72, (.i (l45.l : Int))), (73, (.i s48))] := H
    refine c_seq fun K52 hK52 => c_reg <| s_bin H rfl rfl rfl r_lss (lt_ rfl) fun a H => c_nil <| hK52 _ _ <| c_seq fun K53 hK53 => c_cond H rfl (fun h54 => ?_) (fun h54 => ?_)
    ·replace h := h.1 h54
     refine c_skip <| hK53 _ _ <| c_seq fun K55 hK55 => ?_
     obtain ⟨R57, h, h123⟩ := h
     have h59 : ∀ (a : Act) (l56 : Slc) (w58 : World), R57 l56 w58 → Has 98 [] a [(0, (.pointer (some a24))), (1, (.string k2)), (8, (.pointer (some (blk b38)))), (9, l56.v), (71, l45.v), (72, (.i (l45.l : Int))), (73, (.i s48))] → K55 a w58 := by
      clear h
      intro a l56 w58 h H
      replace h := h123 l56 w58 h
      refine hK55 _ _ <| c_reg <| s_bin H rfl rfl rfl r_add (lt_ rfl) fun a H => s_move H rfl rfl (lt_ rfl) fun a H => c_nil <| Exists.intro (l56, wr .i64 (s48 + 1)) ⟨h.1, h.2, H.weaken ⟨rfl, rfl, rfl, rfl, rfl, rfl, rfl, trivial⟩⟩
     clear h123
     refine c_block <| c_seq fun K60 hK60 => c_reg ?_
     obtain ⟨a61, h62, h63, h64, h⟩ := h
     refine s_idxS (s := l45) H rfl rfl rfl slc_47 h62 h63 h64 (lt_ rfl) fun a H => ?_
     obtain ⟨K65, hc66, C67, hc68, C69, hc70, F71, hc72, H73, hc74, D75, hc76, h⟩ := h
     refine s_loadN (l := [(.string K65), (.i C67), (.i C69), (.bool F71), (.bool H73), D75.v]) H rfl rfl agg_57 rfl ⟨hc66, hc68, hc70, hc72, hc74, hc76, trivial⟩ (lt_ rfl) fun a H => ?_
     replace h := h.get
     obtain ⟨b77, w78, n79, h⟩ := h
     refine s_alloc H rfl zero_57 (lt_ rfl) ?_
     rw [← n79.at_]
     clear H a
     intro a H
     refine n79.go <| s_stoN (l := [(.string K65), (.i C67), (.i C69), (.bool F71), (.bool H73), D75.v]) H rfl rfl rfl rfl agg_57 rfl rfl h ?_
     clear h H
     intro w80 h H
     refine c_nil <| hK60 _ _ <| c_seq fun K81 hK81 => c_reg <| s_fld H rfl rfl fld_57_0 (lt_ rfl) fun a H => ?_
     obtain ⟨l82, hc83, h⟩ := h
     refine s_load (v := (.string l82)) H rfl rfl one_9 hc83 (lt_ rfl) fun a H => s_move H rfl rfl (lt_ rfl) fun a H => s_bin H rfl rfl rfl r_neqS (lt_ rfl) fun a H => s_move H rfl rfl (lt_ rfl) fun a H => ?_
     obtain ⟨R86, h, h122⟩ := h
     refine g_joinW (n := 98) R86 (fun x87 => [(88, (.bool x87)), (0, (.pointer (some a24))), (1, (.string k2)), (8, (.pointer (some (blk b38)))), (9, l47.v), (11, (.pointer (some (blk b77)))), (71, l45.v), (72, (.i (l45.l : Int))), (73, (.i s48))]) (.succ (.succ (.succ (.succ (.succ (.succ (.succ (.zero _)))))))) ?_ ?_
     ·intro h85
      clear h122
      rcases Bool.eq_false_or_eq_true (decide (l82.toList ≠ k2.toList)) with h84 | h84
      ·replace H := H.ch (t := 81) (b := true) rfl h84
       replace h := h.2 h84
       iterate 6 refine s_skip H (wantN H rfl rfl rfl) rfl (lt_ rfl) fun a H => ?_
       refine s_pickT H rfl rfl rfl (lt_ rfl) fun a H => ?_
       exact h85 _ _ _ h (H.weaken ⟨rfl, rfl, rfl, rfl, rfl, rfl, rfl, rfl, rfl, trivial⟩)
      ·replace H := H.ch (t := 81) (b := false) rfl h84
       replace h := h.1 h84
       refine s_fld H (wantG H rfl rfl) rfl fld_57_1 (lt_ rfl) fun a H => s_fld H (wantG H rfl rfl) rfl fld_36_0 (lt_ rfl) fun a H => ?_
       obtain ⟨C89, hc90, C91, hc92, h⟩ := h
       refine s_loadN (l := [(.i C89), (.i C91)]) H (wantG H rfl rfl) rfl agg_33 rfl ⟨hc90, hc92, trivial⟩ (lt_ rfl) fun a H => ?_
       obtain ⟨C93, hc94, C95, hc96, h⟩ := h
       refine s_loadN (l := [(.i C93), (.i C95)]) H (wantG H rfl rfl) rfl agg_33 rfl ⟨hc94, hc96, trivial⟩ (lt_ rfl) fun a H => s_call H (wantG H rfl rfl) body_50 (H.args (vs := [(.agg #[(.i C89), (.i C91)]), (.agg #[(.i C93), (.i C95)])]) rfl) (lt_ rfl) h ?_ (fun c w' h H => e_panic (P := PP) (fn := Tryz.f57) H h)
       clear H h a
       rintro _ w97 a ⟨b98, rfl, h⟩ H
       refine s_un H (wantG H rfl rfl) rfl r_not (lt_ rfl) fun a H => s_pickF H rfl rfl rfl (lt_ rfl) fun a H => ?_
       exact h85 _ _ _ h (H.weaken ⟨rfl, rfl, rfl, rfl, rfl, rfl, rfl, rfl, rfl, trivial⟩)
     ·clear H a h
      intro a x87 w88 h H
      replace h := h122 x87 w88 h
      clear h122
      refine c_nil <| hK81 _ _ <| c_cond H rfl (fun h103 => ?_) (fun h103 => ?_)
      ·replace h := h.1 h103
       refine c_reg <| s_move H rfl rfl (lt_ rfl) fun a H => ?_
       obtain ⟨K104, hc105, C106, hc107, C108, hc109, F110, hc111, H112, hc113, D114, hc115, h⟩ := h
       refine s_loadN (l := [(.string K104), (.i C106), (.i C108), (.bool F110), (.bool H112), D114.v]) H rfl rfl agg_57 rfl ⟨hc105, hc107, hc109, hc111, hc113, hc115, trivial⟩ (lt_ rfl) fun a H => ?_
       replace h := h.get
       obtain ⟨b116, w117, n118, h⟩ := h
       refine s_bslc H rfl (by rw [H.parts (vs := [(0, (.agg #[(.string K104), (.i C106), (.i C108), (.bool F110), (.bool H112), D114.v]))]) rfl]; exact bs_47_1_sii64ii64bbs0 w88 K104 C106 C108 F110 H112 D114) (lt_ rfl) ?_
       rw [← n118.at_]
       clear H a
       intro a H
       refine n118.go ?_
       obtain ⟨s119, w120, h121, h⟩ := h
       refine s_blt H rfl (H.args (vs := [l47.v, (Slc.v (Slc.mk (some (blk b116)) 1 1))]) rfl) (lt_ rfl) (fun cs => b_app (z := s119) h121) ?_
       clear H a h121
       intro a H
       refine s_assign H rfl rfl (lt_ rfl) fun a H => c_nil ?_
       exact h59 _ _ _ h (H.weaken ⟨rfl, rfl, rfl, rfl, rfl, rfl, rfl, trivial⟩)
      ·replace h := h.2 h103
       refine c_skip ?_
       exact h59 _ _ _ h (H.weaken ⟨rfl, rfl, rfl, rfl, rfl, rfl, rfl, trivial⟩)
    ·replace h := h.2 h54
     refine c_exit ?_
     first | (simp only [Exit.then, Exit.inBlock, ↓reduceIte]; fail_if_success simp only [Nat.reduceEqDiff]) | simp only [Exit.then, Exit.inBlock, ↓reduceIte, Nat.reduceEqDiff]
     refine hK43 _ _ <| c_seq fun K124 hK124 => c_reg <| s_move H rfl rfl (lt_ rfl) fun a H => s_move H rfl rfl (lt_ rfl) fun a H => s_nil H rfl rfl (lt_ rfl) fun a H => s_fld H rfl rfl fld_49_1 (lt_ rfl) fun a H => ?_
     obtain ⟨h126, h127, h⟩ := h
     refine s_sto (p := a24.add 1) (v := l47.v) H rfl rfl rfl rfl one_47 rfl h126 h127 ?_
     clear H
     intro H
     generalize hww125 : World.setCell w49 (a24.add 1) l47.v = w125 at h ⊢
     have w125S : SetAt w49 (a24.add 1) l47.v w125 := ⟨hww125.symm⟩
     clear hww125 h126 h127
     refine c_nil <| hK124 _ _ <| c_seq fun K128 hK128 => c_reg <| s_assign H rfl rfl (lt_ rfl) fun a H => c_nil <| hK128 _ _ <| c_ret ?_
     exact e_ret1 H rfl rfl h
   clear h160
   refine c_seq fun K137 hK137 => c_reg <| s_move H rfl rfl (lt_ rfl) fun a H => s_bin H rfl rfl rfl r_lss (lt_ rfl) fun a H => c_nil <| hK137 _ _ <| c_cond H rfl (fun h138 => ?_) (fun h138 => ?_)
   ·replace h := h.1 h138
    refine c_seq fun K139 hK139 => ?_
    replace H := H.weaken (L' := [(0, (.pointer t1)), (1, (.string k2)), (5, (.pointer (some (blk b6))))]) ⟨rfl, rfl, rfl, trivial⟩
    obtain ⟨a140, h141, h⟩ := h
    revert H
    subst h141
    intro H
    obtain ⟨l142, hc143, C144, hc145, C146, hc147, h⟩ := h
    refine c_any (V := [(0, (.pointer (some a140))), (1, (.pointer (some a140))), (2, (.pointer (some a140))), (3, (.pointer (some (a140.add 1)))), (4, l142.v), (5, (.string k2)), (6, (.agg #[(.i C144), (.i C146)])), (7, (.agg #[(.i C144), (.i C146), (.bool false), (.bool false), Slc.nil.v])), (8, (.agg #[(.string k2), (.i C144), (.i C146), (.bool false), (.bool false), Slc.nil.v]))]) (⟨[[], [], [1], [2], [3], [], [], [6], [5, 7], [8], [4, 9], [0, 1, 2, 3, 4, 5, 6, 7, 8, 9, 10], [0, 1, 2, 3, 4, 5, 6, 7, 8, 9, 10, 11], [0, 1, 2, 3, 4, 5, 6, 7, 8, 9, 10, 12]], [some 38, some 39, some 40, some 41, some 42, some 43, some 44, some 45, some 46, some 47, some 48, some 49, some 50, none], [9, 10, 13], [0, 0, 0, 0, 0, 0, 0, 0, 0, 0, 1, 2, 2, 2], [2, 1, 1, 1, 1, 0, 0, 0, 0, 1, 2, 2, 2, 3]⟩ : Rg) [(0, (.pointer (some a140))), (1, (.string k2)), (5, (.pointer (some (blk b6))))] mixed (by kernel_rfl) H ?_
    refine Stg.eff [0, 1, 2, 3, 4, 5, 6, 7, 8] (by kernel_rfl) rfl (.cons ?_ (.cons ?_ (.cons ?_ (.cons ?_ (.cons ?_ (.cons ?_ (.cons ?_ (.cons ?_ (.cons ?_ .nil))))))))) ?_
    ·refine Ans.mk rfl rfl fun a H => s_move H rfl rfl (lt_ rfl) fun a H => ?_
     exact Ans.fin H rfl
    ·refine Ans.mk rfl rfl fun a H => s_move H rfl rfl (lt_ rfl) fun a H => ?_
     exact Ans.fin H rfl
    ·refine Ans.mk rfl rfl fun a H => s_nil H rfl rfl (lt_ rfl) fun a H => ?_
     exact Ans.fin H rfl
    ·refine Ans.mk rfl rfl fun a H => s_fld H rfl rfl fld_49_1 (lt_ rfl) fun a H => ?_
     exact Ans.fin H rfl
    ·refine Ans.mk rfl rfl fun a H => s_load (v := l142.v) H rfl rfl one_47 hc143 (lt_ rfl) fun a H => ?_
     exact Ans.fin H rfl
    ·refine Ans.mk rfl rfl fun a H => s_move H rfl rfl (lt_ rfl) fun a H => ?_
     exact Ans.fin H rfl
    ·refine Ans.mk rfl rfl fun a H => s_loadN (l := [(.i C144), (.i C146)]) H rfl rfl agg_33 rfl ⟨hc145, hc147, trivial⟩ (lt_ rfl) fun a H => ?_
     exact Ans.fin H rfl
    ·refine Ans.mk rfl rfl fun a H => s_build H rfl (by rw [H.parts (vs := [(0, (.agg #[(.i C144), (.i C146)]))]) rfl]; exact bd_36_ii64ii640 (w16.drewN 1) C144 C146) (lt_ rfl) fun a H => ?_
     exact Ans.fin H rfl
    ·refine Ans.mk rfl rfl fun a H => s_build H rfl (by rw [H.parts (vs := [(0, (.string k2)), (1, (.agg #[(.i C144), (.i C146), (.bool false), (.bool false), Slc.nil.v]))]) rfl]; exact bd_57_s0_ii64ii64bbs1 (w16.drewN 1) k2 C144 C146 false false Slc.nil) (lt_ rfl) fun a H => ?_
     exact Ans.fin H rfl
    ·intro a H
     replace H := H.weaken (L' := [(46, (.agg #[(.string k2), (.i C144), (.i C146), (.bool false), (.bool false), Slc.nil.v]))]) ⟨rfl, trivial⟩
     replace h := h.get
     obtain ⟨b148, w149, n150, h⟩ := h
     refine s_bslc H rfl (by rw [H.parts (vs := [(0, (.agg #[(.string k2), (.i C144), (.i C146), (.bool false), (.bool false), Slc.nil.v]))]) rfl]; exact bs_47_1_sii64ii64bbs0 (w16.drewN 1) k2 C144 C146 false false Slc.nil) (lt_ rfl) ?_
     rw [← n150.at_]
     clear H a
     intro a H
     refine n150.go <| c_nil ?_
     obtain ⟨hc151, h⟩ := h
     refine effQ.go [] H rfl rfl <| Stg.eff [0, 1, 2, 3, 4] (by kernel_rfl) rfl (.cons ?_ (.cons ?_ (.cons ?_ (.cons ?_ (.cons ?_ .nil))))) ?_
     ·refine Ans.mk rfl rfl fun a H => s_move H rfl rfl (lt_ rfl) fun a H => ?_
      exact Ans.fin H rfl
     ·refine Ans.mk rfl rfl fun a H => s_move H rfl rfl (lt_ rfl) fun a H => ?_
      exact Ans.fin H rfl
     ·refine Ans.mk rfl rfl fun a H => s_nil H rfl rfl (lt_ rfl) fun a H => ?_
      exact Ans.fin H rfl
     ·refine Ans.mk rfl rfl fun a H => s_fld H rfl rfl fld_49_1 (lt_ rfl) fun a H => ?_
      exact Ans.fin H rfl
     ·refine Ans.mk rfl rfl fun a H => s_load (v := l142.v) H rfl rfl one_47 hc151 (lt_ rfl) fun a H => ?_
      exact Ans.fin H rfl
     ·intro a H
      replace H := H.weaken (L' := [(42, l142.v), (47, (Slc.v (Slc.mk (some (blk b148)) 1 1)))]) ⟨rfl, rfl, trivial⟩
      obtain ⟨s152, w153, h154, h⟩ := h
      refine s_blt H rfl (H.args (vs := [l142.v, (Slc.v (Slc.mk (some (blk b148)) 1 1))]) rfl) (lt_ rfl) (fun cs => b_app (z := s152) h154) ?_
      clear H a h154
      intro a H
      refine c_nil <| effQ.go [(11, (.pointer (some a140))), (12, (.pointer (some (a140.add 1))))] H rfl rfl <| Stg.eff [0, 11, 12] (by kernel_rfl) rfl (.cons ?_ (.cons ?_ (.cons ?_ .nil))) ?_
      ·refine Ans.mk rfl rfl fun a H => s_move H rfl rfl (lt_ rfl) fun a H => ?_
       exact Ans.fin H rfl
      ·refine Ans.mk rfl rfl fun a H => s_nil H rfl rfl (lt_ rfl) fun a H => ?_
       exact Ans.fin H rfl
      ·refine Ans.mk rfl rfl fun a H => s_fld H rfl rfl fld_49_1 (lt_ rfl) fun a H => ?_
       exact Ans.fin H rfl
      ·intro a H
       replace H := H.weaken (L' := [(48, s152.v), (50, (.pointer (some (a140.add 1))))]) ⟨rfl, rfl, trivial⟩
       obtain ⟨h156, h157, h⟩ := h
       refine s_sto (p := a140.add 1) (v := s152.v) H rfl rfl rfl rfl one_47 rfl h156 h157 ?_
       clear H
       intro H
       generalize hww155 : World.setCell w153 (a140.add 1) s152.v = w155 at h ⊢
       have w155S : SetAt w153 (a140.add 1) s152.v w155 := ⟨hww155.symm⟩
       clear hww155 h156 h157
       refine c_nil <| effQ.go0 [] H rfl rfl <| Stg.fin [] (by kernel_rfl) .nil ?_
       ·intro a H
        replace H := H.weaken (L' := [(0, (.pointer (some a140))), (1, (.string k2))]) ⟨rfl, rfl, trivial⟩
        refine hK139 _ _ <| c_reg <| s_move H rfl rfl (lt_ rfl) fun a H => s_nil H rfl rfl (lt_ rfl) fun a H => s_fld H rfl rfl fld_49_1 (lt_ rfl) fun a H => ?_
        obtain ⟨l158, hc159, h⟩ := h
        refine s_load (v := l158.v) H rfl rfl one_47 hc159 (lt_ rfl) fun a H => s_blt H rfl (H.args (vs := [l158.v]) rfl) (lt_ rfl) (fun cs => b_lenS (z := l158) sl_47) fun a H => s_bin H rfl rfl rfl r_sub (lt_ rfl) fun a H => s_assign H rfl rfl (lt_ rfl) fun a H => c_nil ?_
        exact h136 _ _ _ h (H.weaken ⟨rfl, rfl, rfl, trivial⟩)
   ·replace h := h.2 h138
    refine c_skip ?_
    exact h136 _ _ _ h (H.weaken ⟨rfl, rfl, rfl, trivial⟩)
 clear h193
 replace H := H.weaken (L' := [(0, (.pointer t1)), (1, (.string k2)), (5, (.pointer (some (blk b6)))), (7, (.i p11))]) ⟨rfl, rfl, rfl, rfl, trivial⟩
 obtain ⟨C162, hc163, C164, hc165, h⟩ := h
 refine c_any (V := [(0, (.agg #[(.i C162), (.i C164)])), (1, (.pointer t1)), (2, (.string k2))]) (⟨[[], [], [], [1, 2], [0, 3], [4], [5], [5, 6], [5, 7], [8], [8, 9], [8, 10], [8, 11], [8], [8, 12, 13], [8, 14], [8, 15], [8, 16], [5, 8, 17], [5, 18]], [some 16, some 17, some 18, some 19, some 20, some 21, some 22, some 23, some 24, some 25, some 26, some 27, some 28, some 29, some 30, some 31, some 32, some 33, some 34, some 35], [3, 4], [0, 0, 0, 0, 1, 2, 2, 2, 2, 2, 2, 2, 2, 2, 2, 2, 2, 2, 2, 2], [1, 0, 0, 1, 2, 2, 2, 2, 2, 2, 2, 2, 2, 2, 2, 2, 2, 2, 2, 2]⟩ : Rg) [(0, (.pointer t1)), (1, (.string k2)), (5, (.pointer (some (blk b6)))), (7, (.i p11))] mixed (by kernel_rfl) H ?_
 refine Stg.eff [0, 1, 2] (by kernel_rfl) rfl (.cons ?_ (.cons ?_ (.cons ?_ .nil))) ?_
 ·refine Ans.mk rfl rfl fun a H => s_loadN (l := [(.i C162), (.i C164)]) H rfl rfl agg_33 rfl ⟨hc163, hc165, trivial⟩ (lt_ rfl) fun a H => ?_
  exact Ans.fin H rfl
 ·refine Ans.mk rfl rfl fun a H => s_move H rfl rfl (lt_ rfl) fun a H => ?_
  exact Ans.fin H rfl
 ·refine Ans.mk rfl rfl fun a H => s_move H rfl rfl (lt_ rfl) fun a H => ?_
  exact Ans.fin H rfl
 ·intro a H
  replace H := H.weaken (L' := [(17, (.pointer t1)), (18, (.string k2))]) ⟨rfl, rfl, trivial⟩
  refine s_call H rfl body_20 (H.args (vs := [(.pointer t1), (.string k2)]) rfl) (lt_ rfl) h ?_ (fun c w' h H => e_panic (P := PP) (fn := Tryz.f57) H h)
  clear H h a
  rintro _ w166 a ⟨C167, C168, rfl, h⟩ H
  refine c_nil ?_
  obtain ⟨hc169, hc170, h⟩ := h
  refine effQ.go [] H rfl rfl <| Stg.eff [0] (by kernel_rfl) rfl (.cons ?_ .nil) ?_
  ·refine Ans.mk rfl rfl fun a H => s_loadN (l := [(.i C162), (.i C164)]) H rfl rfl agg_33 rfl ⟨hc169, hc170, trivial⟩ (lt_ rfl) fun a H => ?_
   exact Ans.fin H rfl
  ·intro a H
   replace H := H.weaken (L' := [(16, (.agg #[(.i C162), (.i C164)])), (19, (.agg #[(.i C167), (.i C168)]))]) ⟨rfl, rfl, trivial⟩
   refine s_call H rfl body_50 (H.args (vs := [(.agg #[(.i C162), (.i C164)]), (.agg #[(.i C167), (.i C168)])]) rfl) (lt_ rfl) h ?_ (fun c w' h H => e_panic (P := PP) (fn := Tryz.f57) H h)
   clear H h a
   rintro _ w171 a ⟨b172, rfl, h⟩ H
   refine c_nil ?_
   rcases Bool.eq_false_or_eq_true b172 with h173 | h173
   ·replace h := h.1 h173
    refine effQ.go [(5, (.bool b172)), (6, undef), (7, undef), (8, undef), (9, undef), (10, undef), (11, undef), (12, undef), (13, undef), (14, undef), (15, undef), (16, undef), (17, undef), (18, undef), (19, (.bool true))] H rfl rfl <| Stg.fin [5, 6, 7, 8, 9, 10, 11, 12, 13, 14, 15, 16, 17, 18, 19] (by kernel_rfl) (.cons ?_ (.cons ?_ (.cons ?_ (.cons ?_ (.cons ?_ (.cons ?_ (.cons ?_ (.cons ?_ (.cons ?_ (.cons ?_ (.cons ?_ (.cons ?_ (.cons ?_ (.cons ?_ (.cons ?_ .nil))))))))))))))) ?_
    ·refine Ans.mk rfl rfl fun a H => s_move H rfl rfl (lt_ rfl) fun a H => ?_
     exact Ans.fin H rfl
    ·exact .skip rfl rfl rfl rfl rfl rfl h173 rfl
    ·exact .skip rfl rfl rfl rfl rfl rfl h173 rfl
    ·exact .skip rfl rfl rfl rfl rfl rfl h173 rfl
    ·exact .skipU rfl rfl rfl rfl rfl rfl
    ·exact .skipU rfl rfl rfl rfl rfl rfl
    ·exact .skipU rfl rfl rfl rfl rfl rfl
    ·exact .skipU rfl rfl rfl rfl rfl rfl
    ·exact .skipU rfl rfl rfl rfl rfl rfl
    ·exact .skipU rfl rfl rfl rfl rfl rfl
    ·exact .skipU rfl rfl rfl rfl rfl rfl
    ·exact .skipU rfl rfl rfl rfl rfl rfl
    ·exact .skipU rfl rfl rfl rfl rfl rfl
    ·exact .skip rfl rfl rfl rfl rfl rfl h173 rfl
    ·refine Ans.mk rfl rfl fun a H => ?_
     replace H := H.ch (t := 21) (b := true) rfl h173
     refine s_pickT H rfl rfl rfl (lt_ rfl) fun a H => ?_
     exact Ans.fin H rfl
    ·intro a H
     replace H := H.weaken (L' := [(0, (.pointer t1)), (1, (.string k2)), (5, (.pointer (some (blk b6)))), (7, (.i p11)), (35, (.bool true))]) ⟨rfl, rfl, rfl, rfl, rfl, trivial⟩
     exact h161 _ _ _ h (H.weaken ⟨rfl, rfl, rfl, rfl, rfl, trivial⟩)
   ·replace h := h.2 h173
    rcases Bool.eq_false_or_eq_true (decide (0 ≤ p11)) with h174 | h174
    ·replace h := h.1 h174
     obtain ⟨a175, h176, h⟩ := h
     revert H
     subst h176
     intro H
     obtain ⟨l177, hc178, a179, h180, h181, h182, l183, hc184, h⟩ := h
     refine effQ.go [(5, (.bool b172)), (6, (.i p11)), (7, (.bool (decide (0 ≤ p11)))), (8, (.bool (decide (0 ≤ p11)))), (9, (.pointer (some a175))), (10, (.pointer (some a175))), (11, (.pointer (some (a175.add 1)))), (12, l177.v), (13, (.i p11)), (14, (.pointer (some (a179.add (Int.toNat (p11) * 6))))), (15, (.pointer (some ((a179.add (Int.toNat (p11) * 6)).add 1)))), (16, (.pointer (some (((a179.add (Int.toNat (p11) * 6)).add 1).add 2)))), (17, (.bool l183)), (18, (.bool l183)), (19, (.bool l183))] H rfl rfl ?_
     refine Stg.fin [5, 6, 7, 8, 9, 10, 11, 12, 13, 14, 15, 16, 17, 18, 19] (by kernel_rfl) (.cons ?_ (.cons ?_ (.cons ?_ (.cons ?_ (.cons ?_ (.cons ?_ (.cons ?_ (.cons ?_ (.cons ?_ (.cons ?_ (.cons ?_ (.cons ?_ (.cons ?_ (.cons ?_ (.cons ?_ .nil))))))))))))))) ?_
     ·refine Ans.mk rfl rfl fun a H => s_move H rfl rfl (lt_ rfl) fun a H => ?_
      exact Ans.fin H rfl
     ·refine Ans.mk rfl rfl fun a H => ?_
      replace H := H.ch (t := 21) (b := false) rfl h173
      refine s_move H (wantG H rfl rfl) rfl (lt_ rfl) fun a H => ?_
      exact Ans.fin H rfl
     ·refine Ans.mk rfl rfl fun a H => ?_
      replace H := H.ch (t := 21) (b := false) rfl h173
      refine s_bin H (wantG H rfl rfl) rfl rfl r_geq (lt_ rfl) fun a H => ?_
      exact Ans.fin H rfl
     ·refine Ans.mk rfl rfl fun a H => ?_
      replace H := H.ch (t := 21) (b := false) rfl h173
      refine s_move H (wantG H rfl rfl) rfl (lt_ rfl) fun a H => ?_
      exact Ans.fin H rfl
     ·refine Ans.mk rfl rfl fun a H => ?_
      replace H := H.ch (t := 24) (b := true) rfl h174
      refine s_move H (wantG H rfl rfl) rfl (lt_ rfl) fun a H => ?_
      exact Ans.fin H rfl
     ·refine Ans.mk rfl rfl fun a H => ?_
      replace H := H.ch (t := 24) (b := true) rfl h174
      refine s_nil H (wantG H rfl rfl) rfl (lt_ rfl) fun a H => ?_
      exact Ans.fin H rfl
     ·refine Ans.mk rfl rfl fun a H => ?_
      replace H := H.ch (t := 24) (b := true) rfl h174
      refine s_fld H (wantG H rfl rfl) rfl fld_49_1 (lt_ rfl) fun a H => ?_
      exact Ans.fin H rfl
     ·refine Ans.mk rfl rfl fun a H => ?_
      replace H := H.ch (t := 24) (b := true) rfl h174
      refine s_load (v := l177.v) H (wantG H rfl rfl) rfl one_47 hc178 (lt_ rfl) fun a H => ?_
      exact Ans.fin H rfl
     ·refine Ans.mk rfl rfl fun a H => ?_
      replace H := H.ch (t := 24) (b := true) rfl h174
      refine s_move H (wantG H rfl rfl) rfl (lt_ rfl) fun a H => ?_
      exact Ans.fin H rfl
     ·refine Ans.mk rfl rfl fun a H => ?_
      replace H := H.ch (t := 24) (b := true) rfl h174
      refine s_idxS (s := l177) H (wantG H rfl rfl) rfl rfl slc_47 h180 h181 h182 (lt_ rfl) fun a H => ?_
      exact Ans.fin H rfl
     ·refine Ans.mk rfl rfl fun a H => ?_
      replace H := H.ch (t := 24) (b := true) rfl h174
      refine s_fld H (wantG H rfl rfl) rfl fld_57_1 (lt_ rfl) fun a H => ?_
      exact Ans.fin H rfl
     ·refine Ans.mk rfl rfl fun a H => ?_
      replace H := H.ch (t := 24) (b := true) rfl h174
      refine s_fld H (wantG H rfl rfl) rfl fld_36_1 (lt_ rfl) fun a H => ?_
      exact Ans.fin H rfl
     ·refine Ans.mk rfl rfl fun a H => ?_
      replace H := H.ch (t := 24) (b := true) rfl h174
      refine s_load (v := (.bool l183)) H (wantG H rfl rfl) rfl one_4 hc184 (lt_ rfl) fun a H => ?_
      exact Ans.fin H rfl
     ·refine Ans.mk rfl rfl fun a H => ?_
      replace H := H.ch (t := 21) (b := false) rfl h173
      replace H := H.ch (t := 24) (b := true) rfl h174
      refine s_pickT H (wantG H rfl rfl) rfl rfl (lt_ rfl) fun a H => ?_
      exact Ans.fin H rfl
     ·refine Ans.mk rfl rfl fun a H => ?_
      replace H := H.ch (t := 21) (b := false) rfl h173
      refine s_pickF H rfl rfl rfl (lt_ rfl) fun a H => ?_
      exact Ans.fin H rfl
     ·intro a H
      replace H := H.weaken (L' := [(0, (.pointer (some a175))), (1, (.string k2)), (5, (.pointer (some (blk b6)))), (7, (.i p11)), (35, (.bool l183))]) ⟨rfl, rfl, rfl, rfl, rfl, trivial⟩
      exact h161 _ _ _ h (H.weaken ⟨rfl, rfl, rfl, rfl, rfl, trivial⟩)
    ·replace h := h.2 h174
     refine effQ.go [(5, (.bool b172)), (6, (.i p11)), (7, (.bool (decide (0 ≤ p11)))), (8, (.bool (decide (0 ≤ p11)))), (9, undef), (10, undef), (11, undef), (12, undef), (13, undef), (14, undef), (15, undef), (16, undef), (17, undef), (18, (.bool false)), (19, (.bool false))] H rfl rfl ?_
     refine Stg.fin [5, 6, 7, 8, 9, 10, 11, 12, 13, 14, 15, 16, 17, 18, 19] (by kernel_rfl) (.cons ?_ (.cons ?_ (.cons ?_ (.cons ?_ (.cons ?_ (.cons ?_ (.cons ?_ (.cons ?_ (.cons ?_ (.cons ?_ (.cons ?_ (.cons ?_ (.cons ?_ (.cons ?_ (.cons ?_ .nil))))))))))))))) ?_
     ·refine Ans.mk rfl rfl fun a H => s_move H rfl rfl (lt_ rfl) fun a H => ?_
      exact Ans.fin H rfl
     ·refine Ans.mk rfl rfl fun a H => ?_
      replace H := H.ch (t := 21) (b := false) rfl h173
      refine s_move H (wantG H rfl rfl) rfl (lt_ rfl) fun a H => ?_
      exact Ans.fin H rfl
     ·refine Ans.mk rfl rfl fun a H => ?_
      replace H := H.ch (t := 21) (b := false) rfl h173
      refine s_bin H (wantG H rfl rfl) rfl rfl r_geq (lt_ rfl) fun a H => ?_
      exact Ans.fin H rfl
     ·refine Ans.mk rfl rfl fun a H => ?_
      replace H := H.ch (t := 21) (b := false) rfl h173
      refine s_move H (wantG H rfl rfl) rfl (lt_ rfl) fun a H => ?_
      exact Ans.fin H rfl
     ·exact .skip rfl rfl rfl rfl rfl rfl h174 rfl
     ·exact .skip rfl rfl rfl rfl rfl rfl h174 rfl
     ·exact .skip rfl rfl rfl rfl rfl rfl h174 rfl
     ·exact .skip rfl rfl rfl rfl rfl rfl h174 rfl
     ·exact .skip rfl rfl rfl rfl rfl rfl h174 rfl
     ·exact .skip rfl rfl rfl rfl rfl rfl h174 rfl
     ·exact .skip rfl rfl rfl rfl rfl rfl h174 rfl
     ·exact .skip rfl rfl rfl rfl rfl rfl h174 rfl
     ·exact .skip rfl rfl rfl rfl rfl rfl h174 rfl
     ·refine Ans.mk rfl rfl fun a H => ?_
      replace H := H.ch (t := 21) (b := false) rfl h173
      replace H := H.ch (t := 24) (b := false) rfl h174
      refine s_pickF H (wantG H rfl rfl) rfl rfl (lt_ rfl) fun a H => ?_
      exact Ans.fin H rfl
     ·refine Ans.mk rfl rfl fun a H => ?_
      replace H := H.ch (t := 21) (b := false) rfl h173
      refine s_pickF H rfl rfl rfl (lt_ rfl) fun a H => ?_
      exact Ans.fin H rfl
     ·intro a H
      replace H := H.weaken (L' := [(0, (.pointer t1)), (1, (.string k2)), (5, (.pointer (some (blk b6)))), (7, (.i p11)), (35, (.bool false))]) ⟨rfl, rfl, rfl, rfl, rfl, trivial⟩
      exact h161 _ _ _ h (H.weaken ⟨rfl, rfl, rfl, rfl, rfl, trivial⟩)

theorem sim_slices_MaxFunc (x1 : Slc) (c2 : Value) (w : World) (Q : Ending → World → Prop) (h : vc_slices_MaxFunc x1 c2 w Q) : Calls PP F_slices_MaxFunc #[x1.v, c2] w Q := by
 unfold vc_slices_MaxFunc at h
 refine enter (n := 33) Tryz.func58 rfl rfl (Nat.le_of_ble_eq_true rfl) fun a H => c_seq fun K3 hK3 => c_reg ?_
 replace h := h.get
 obtain ⟨b4, w5, n6, h⟩ := h
 refine s_alloc H rfl zero_33 (lt_ rfl) ?_
 rw [← n6.at_]
 clear H a
 intro a H
 refine n6.go <| c_nil <| hK3 _ _ <| c_seq fun K7 hK7 => ?_
 obtain ⟨R8, h, h80⟩ := h
 have h77 : ∀ (a : Act) (w9 : World), R8 w9 → Has 33 [] a [(0, x1.v), (1, c2), (4, (.pointer (some (blk b4))))] → K7 a w9 := by
  clear h
  intro a w9 h H
  replace h := h80 w9 h
  refine hK7 _ _ <| c_seq fun K10 hK10 => c_reg <| s_move H rfl rfl (lt_ rfl) fun a H => ?_
  obtain ⟨a11, h12, h13, h14, h⟩ := h
  refine s_idxS (s := x1) H rfl rfl rfl slc_82 h12 h13 h14 (lt_ rfl) fun a H => ?_
  obtain ⟨C15, hc16, C17, hc18, h⟩ := h
  refine s_loadN (l := [(.i C15), (.i C17)]) H rfl rfl agg_33 rfl ⟨hc16, hc18, trivial⟩ (lt_ rfl) fun a H => ?_
  replace h := h.get
  obtain ⟨b19, w20, n21, h⟩ := h
  refine s_alloc H rfl zero_33 (lt_ rfl) ?_
  rw [← n21.at_]
  clear H a
  intro a H
  refine n21.go <| s_stoN (l := [(.i C15), (.i C17)]) H rfl rfl rfl rfl agg_33 rfl rfl h ?_
  clear h H
  intro w22 h H
  refine c_nil <| hK10 _ _ <| c_seq fun K23 hK23 => c_seq fun K24 hK24 => c_reg <| s_assign H rfl rfl (lt_ rfl) fun a H => c_nil <| hK24 _ _ <| c_block ?_
  obtain ⟨I27, m28, h75, h76⟩ := h
  refine c_loop (σ := Int) (fun z w => I27 z w) (fun z w => m28 z w) (fun z => [(0, x1.v), (1, c2), (4, (.pointer (some (blk b4)))), (5, (.pointer (some (blk b19)))), (6, (.i z))]) 1 h75 (H.weaken ⟨rfl, rfl, rfl, rfl, rfl, trivial⟩) ?_
  clear H h75
  rintro i25 a w26 h H
  replace h := h76 i25 w26 h
  clear h76
  replace H : Has 33 [] a [(0, x1.v), (1, c2), (4, (.pointer (some (blk b4)))), (5, (.pointer (some (blk b19)))), (6, (.i i25))] := H
  refine c_seq fun K29 hK29 => c_seq fun K30 hK30 => c_reg <| s_move H rfl rfl (lt_ rfl) fun a H => s_move H rfl rfl (lt_ rfl) fun a H => s_blt H rfl (H.args (vs := [x1.v]) rfl) (lt_ rfl) (fun cs => b_lenS (z := x1) sl_82) fun a H => s_bin H rfl rfl rfl r_lss (lt_ rfl) fun a H => c_nil <| hK30 _ _ <| c_cond H rfl (fun h31 => ?_) (fun h31 => ?_)
  ·replace h := h.1 h31
   refine c_skip <| hK29 _ _ <| c_seq fun K32 hK32 => ?_
   obtain ⟨R33, h, h64⟩ := h
   have h35 : ∀ (a : Act) (w34 : World), R33 w34 → Has 33 [] a [(0, x1.v), (1, c2), (4, (.pointer (some (blk b4)))), (5, (.pointer (some (blk b19)))), (6, (.i i25))] → K32 a w34 := by
    clear h
    intro a w34 h H
    replace h := h64 w34 h
    refine hK32 _ _ <| c_reg <| s_move H rfl rfl (lt_ rfl) fun a H => s_bin H rfl rfl rfl r_add (lt_ rfl) fun a H => s_assign H rfl rfl (lt_ rfl) fun a H => c_nil <| Exists.intro (wr .i64 (i25 + 1)) ⟨h.1, h.2, H.weaken ⟨rfl, rfl, rfl, rfl, rfl, trivial⟩⟩
   clear h64
   refine c_block <| c_seq fun K36 hK36 => ?_
   replace H := H.weaken (L' := [(0, x1.v), (1, c2), (4, (.pointer (some (blk b4)))), (5, (.pointer (some (blk b19)))), (6, (.i i25))]) ⟨rfl, rfl, rfl, rfl, rfl, trivial⟩
   obtain ⟨a37, h38, h39, h40, C41, hc42, C43, hc44, C45, hc46, C47, hc48, h⟩ := h
   refine c_any (V := [(0, c2), (1, x1.v), (2, (.i i25)), (3, (.pointer (some (a37.add (Int.toNat (i25) * 2))))), (4, (.agg #[(.i C41), (.i C43)])), (5, (.agg #[(.i C45), (.i C47)]))]) (⟨[[], [], [], [1, 2], [3], [], [0, 4, 5], [6]], [some 20, some 21, some 22, some 23, some 24, some 25, some 26, some 27], [6], [0, 0, 0, 0, 0, 0, 0, 1], [0, 0, 0, 0, 0, 0, 1, 1]⟩ : Rg) [(0, x1.v), (1, c2), (4, (.pointer (some (blk b4)))), (5, (.pointer (some (blk b19)))), (6, (.i i25))] mixed (by kernel_rfl) H ?_
   refine Stg.eff [0, 1, 2, 3, 4, 5] (by kernel_rfl) rfl (.cons ?_ (.cons ?_ (.cons ?_ (.cons ?_ (.cons ?_ (.cons ?_ .nil)))))) ?_
   ·refine Ans.mk rfl rfl fun a H => s_move H rfl rfl (lt_ rfl) fun a H => ?_
    exact Ans.fin H rfl
   ·refine Ans.mk rfl rfl fun a H => s_move H rfl rfl (lt_ rfl) fun a H => ?_
    exact Ans.fin H rfl
   ·refine Ans.mk rfl rfl fun a H => s_move H rfl rfl (lt_ rfl) fun a H => ?_
    exact Ans.fin H rfl
   ·refine Ans.mk rfl rfl fun a H => s_idxS (s := x1) H rfl rfl rfl slc_82 h38 h39 h40 (lt_ rfl) fun a H => ?_
    exact Ans.fin H rfl
   ·refine Ans.mk rfl rfl fun a H => s_loadN (l := [(.i C41), (.i C43)]) H rfl rfl agg_33 rfl ⟨hc42, hc44, trivial⟩ (lt_ rfl) fun a H => ?_
    exact Ans.fin H rfl
   ·refine Ans.mk rfl rfl fun a H => s_loadN (l := [(.i C45), (.i C47)]) H rfl rfl agg_33 rfl ⟨hc46, hc48, trivial⟩ (lt_ rfl) fun a H => ?_
    exact Ans.fin H rfl
   ·intro a H
    replace H := H.weaken (L' := [(20, c2), (24, (.agg #[(.i C41), (.i C43)])), (25, (.agg #[(.i C45), (.i C47)]))]) ⟨rfl, rfl, rfl, trivial⟩
    refine s_callV H rfl rfl (H.args (vs := [(.agg #[(.i C41), (.i C43)]), (.agg #[(.i C45), (.i C47)])]) rfl) (lt_ rfl) h ?_ (fun c w' h H => e_panic (P := PP) (fn := Tryz.f58) H h)
    clear H h a
    rintro _ w49 a ⟨r50, rfl, h⟩ H
    refine c_nil <| effQ.go [(7, (.bool (decide (0 < r50))))] H rfl rfl <| Stg.fin [7] (by kernel_rfl) (.cons ?_ .nil) ?_
    ·refine Ans.mk rfl rfl fun a H => s_bin H rfl rfl rfl r_gtr (lt_ rfl) fun a H => ?_
     exact Ans.fin H rfl
    ·intro a H
     replace H := H.weaken (L' := [(0, x1.v), (1, c2), (4, (.pointer (some (blk b4)))), (5, (.pointer (some (blk b19)))), (6, (.i i25)), (27, (.bool (decide (0 < r50))))]) ⟨rfl, rfl, rfl, rfl, rfl, rfl, trivial⟩
     refine hK36 _ _ <| c_cond H rfl (fun h51 => ?_) (fun h51 => ?_)
     ·replace h := h.1 h51
      refine c_reg <| s_move H rfl rfl (lt_ rfl) fun a H => s_move H rfl rfl (lt_ rfl) fun a H => ?_
      obtain ⟨a52, h53, h54, h55, h⟩ := h
      refine s_idxS (s := x1) H rfl rfl rfl slc_82 h53 h54 h55 (lt_ rfl) fun a H => ?_
      obtain ⟨C56, hc57, C58, hc59, h⟩ := h
      refine s_loadN (l := [(.i C56), (.i C58)]) H rfl rfl agg_33 rfl ⟨hc57, hc59, trivial⟩ (lt_ rfl) fun a H => s_stoN (l := [(.i C56), (.i C58)]) H rfl rfl rfl rfl agg_33 rfl rfl h ?_
      clear h H
      intro w60 h H
      refine c_nil ?_
      exact h35 _ _ h (H.weaken ⟨rfl, rfl, rfl, rfl, rfl, trivial⟩)
     ·replace h := h.2 h51
      refine c_skip ?_
      exact h35 _ _ h (H.weaken ⟨rfl, rfl, rfl, rfl, rfl, trivial⟩)
  ·replace h := h.2 h31
   refine c_exit ?_
   first | (simp only [Exit.then, Exit.inBlock, ↓reduceIte]; fail_if_success simp only [Nat.reduceEqDiff]) | simp only [Exit.then, Exit.inBlock, ↓reduceIte, Nat.reduceEqDiff]
   refine hK23 _ _ <| c_seq fun K65 hK65 => c_reg ?_
   obtain ⟨C66, hc67, C68, hc69, h⟩ := h
   refine s_loadN (l := [(.i C66), (.i C68)]) H rfl rfl agg_33 rfl ⟨hc67, hc69, trivial⟩ (lt_ rfl) fun a H => s_stoN (l := [(.i C66), (.i C68)]) H rfl rfl rfl rfl agg_33 rfl rfl h ?_
   clear h H
   intro w70 h H
   refine c_nil <| hK65 _ _ <| c_ret ?_
   obtain ⟨C71, hc72, C73, hc74, h⟩ := h
   exact e_ret1 H rfl ⟨_, rfl, run_loadN (l := [(.i C71), (.i C73)]) agg_33 rfl ⟨hc72, hc74, trivial⟩⟩ h
 clear h80
 refine c_seq fun K78 hK78 => c_reg <| s_move H rfl rfl (lt_ rfl) fun a H => s_blt H rfl (H.args (vs := [x1.v]) rfl) (lt_ rfl) (fun cs => b_lenS (z := x1) sl_82) fun a H => s_bin H rfl rfl rfl r_lss (lt_ rfl) fun a H => c_nil <| hK78 _ _ <| c_cond H rfl (fun h79 => ?_) (fun h79 => ?_)
 ·replace h := h.1 h79
  refine c_reg <| s_iface H rfl rfl ni_9 (lt_ rfl) fun a H => ?_
  exact s_panic H rfl rfl (fun H => e_panic (P := PP) (fn := Tryz.f58) H h)
 ·replace h := h.2 h79
  refine c_skip ?_
  exact h77 _ _ h (H.weaken ⟨rfl, rfl, rfl, trivial⟩)

theorem sim_table_shelf_finalized_c1 (C1 C2 C3 C4 : Int) (w : World) (Q : Ending → World → Prop) (h : vc_table_shelf_finalized_c1 C1 C2 C3 C4 w Q) : Calls PP F_table_shelf_finalized_c1 #[(.agg #[(.i C1), (.i C2)]), (.agg #[(.i C3), (.i C4)])] w Q := by
 unfold vc_table_shelf_finalized_c1 at h
 refine enter (n := 8) Tryz.func60 rfl rfl (Nat.le_of_ble_eq_true rfl) fun a H => c_seq fun K5 hK5 => c_reg ?_
 replace h := h.get
 obtain ⟨b6, w7, n8, h⟩ := h
 refine s_box H rfl rfl (lt_ rfl) ?_
 rw [← n8.at_]
 clear H a
 intro a H
 refine n8.go ?_
 replace h := h.get
 obtain ⟨b9, w10, n11, h⟩ := h
 refine s_box H rfl rfl (lt_ rfl) ?_
 rw [← n11.at_]
 clear H a
 intro a H
 refine n11.go <| s_assign H rfl rfl (lt_ rfl) fun a H => c_nil <| hK5 _ _ <| c_seq fun K12 hK12 => c_reg <| s_loadN (l := [(.i C3), (.i C4)]) H rfl rfl agg_33 rfl ⟨(n11.cell (i := 0) rfl), (n11.cell (i := 1) rfl), trivial⟩ (lt_ rfl) fun a H => s_loadN (l := [(.i C1), (.i C2)]) H rfl rfl agg_33 rfl ⟨(n11.old (n8.cell (i := 0) rfl)), (n11.old (n8.cell (i := 1) rfl)), trivial⟩ (lt_ rfl) fun a H => ?_
 refine s_call H rfl body_49 (H.args (vs := [(.agg #[(.i C3), (.i C4)]), (.agg #[(.i C1), (.i C2)])]) rfl) (lt_ rfl) h ?_ (fun c w' h H => e_panic (P := PP) (fn := Tryz.f60) H h)
 clear H h a
 rintro _ w13 a ⟨C14, rfl, h⟩ H
 refine s_assign H rfl rfl (lt_ rfl) fun a H => c_nil <| hK12 _ _ <| c_ret ?_
 exact e_ret1 H rfl rfl h

theorem sim_cmp_Compare_int64 (x1 y2 : Int) (w : World) (Q : Ending → World → Prop) (h : vc_cmp_Compare_int64 x1 y2 w Q) : Calls PP F_cmp_Compare_int64 #[(.i x1), (.i y2)] w Q := by
 unfold vc_cmp_Compare_int64 at h
 refine enter (n := 20) Tryz.func63 rfl rfl (Nat.le_of_ble_eq_true rfl) fun a H => c_seq fun K3 hK3 => c_reg <| s_assign H rfl rfl (lt_ rfl) fun a H => c_nil <| hK3 _ _ <| c_seq fun K4 hK4 => c_reg <| s_move H rfl rfl (lt_ rfl) fun a H => s_call H rfl body_79 (H.args (vs := [(.i x1)]) rfl) (lt_ rfl) h ?_ (fun c w' h H => e_panic (P := PP) (fn := Tryz.f63) H h)
 clear H h a
 rintro _ w5 a ⟨i6, rfl, h⟩ H
 refine s_assign H rfl rfl (lt_ rfl) fun a H => c_nil <| hK4 _ _ <| c_seq fun K7 hK7 => c_reg <| s_move H rfl rfl (lt_ rfl) fun a H => s_call H rfl body_79 (H.args (vs := [(.i y2)]) rfl) (lt_ rfl) h ?_ (fun c w' h H => e_panic (P := PP) (fn := Tryz.f63) H h)
 clear H h a
 rintro _ w8 a ⟨i9, rfl, h⟩ H
 refine s_assign H rfl rfl (lt_ rfl) fun a H => c_nil <| hK7 _ _ <| c_seq fun K10 hK10 => c_seq fun K11 hK11 => c_reg <| s_move H rfl rfl (lt_ rfl) fun a H => c_nil <| hK11 _ _ <| c_cond H rfl (fun h12 => ?_) (fun h12 => ?_)
 ·replace h := h.1 h12
  refine c_seq fun K13 hK13 => c_seq fun K14 hK14 => c_reg <| s_move H rfl rfl (lt_ rfl) fun a H => c_nil <| hK14 _ _ <| c_cond H rfl (fun h15 => ?_) (fun h15 => ?_)
  ·replace h := h.1 h15
   refine c_seq fun K16 hK16 => c_reg <| s_assign H rfl rfl (lt_ rfl) fun a H => c_nil <| hK16 _ _ <| c_ret ?_
   exact e_ret1 H rfl rfl h
  ·replace h := h.2 h15
   refine c_skip <| hK13 _ _ <| c_seq fun K17 hK17 => c_reg <| s_assign H rfl rfl (lt_ rfl) fun a H => c_nil <| hK17 _ _ <| c_ret ?_
   exact e_ret1 H rfl rfl h
 ·replace h := h.2 h12
  refine c_skip <| hK10 _ _ <| c_seq fun K18 hK18 => c_seq fun K19 hK19 => c_reg <| s_move H rfl rfl (lt_ rfl) fun a H => c_nil <| hK19 _ _ <| c_cond H rfl (fun h20 => ?_) (fun h20 => ?_)
  ·replace h := h.1 h20
   refine c_seq fun K21 hK21 => c_reg <| s_assign H rfl rfl (lt_ rfl) fun a H => c_nil <| hK21 _ _ <| c_ret ?_
   exact e_ret1 H rfl rfl h
  ·replace h := h.2 h20
   refine c_skip <| hK18 _ _ <| c_seq fun K22 hK22 => c_seq fun K23 hK23 => c_reg <| s_move H rfl rfl (lt_ rfl) fun a H => s_move H rfl rfl (lt_ rfl) fun a H => s_bin H rfl rfl rfl r_lss (lt_ rfl) fun a H => c_nil <| hK23 _ _ <| c_cond H rfl (fun h24 => ?_) (fun h24 => ?_)
   ·replace h := h.1 h24
    refine c_seq fun K25 hK25 => c_reg <| s_assign H rfl rfl (lt_ rfl) fun a H => c_nil <| hK25 _ _ <| c_ret ?_
    exact e_ret1 H rfl rfl h
   ·replace h := h.2 h24
    refine c_skip <| hK22 _ _ <| c_seq fun K26 hK26 => c_seq fun K27 hK27 => c_reg <| s_move H rfl rfl (lt_ rfl) fun a H => s_move H rfl rfl (lt_ rfl) fun a H => s_bin H rfl rfl rfl r_gtr (lt_ rfl) fun a H => c_nil <| hK27 _ _ <| c_cond H rfl (fun h28 => ?_) (fun h28 => ?_)
    ·replace h := h.1 h28
     refine c_seq fun K29 hK29 => c_reg <| s_assign H rfl rfl (lt_ rfl) fun a H => c_nil <| hK29 _ _ <| c_ret ?_
     exact e_ret1 H rfl rfl h
    ·replace h := h.2 h28
     refine c_skip <| hK26 _ _ <| c_seq fun K30 hK30 => c_reg <| s_assign H rfl rfl (lt_ rfl) fun a H => c_nil <| hK30 _ _ <| c_ret ?_
     exact e_ret1 H rfl rfl h

theorem sim_cmp_Compare_int (x1 y2 : Int) (w : World) (Q : Ending → World → Prop) (h : vc_cmp_Compare_int x1 y2 w Q) : Calls PP F_cmp_Compare_int #[(.i x1), (.i y2)] w Q := by
 unfold vc_cmp_Compare_int at h
 refine enter (n := 20) Tryz.func64 rfl rfl (Nat.le_of_ble_eq_true rfl) fun a H => c_seq fun K3 hK3 => c_reg <| s_assign H rfl rfl (lt_ rfl) fun a H => c_nil <| hK3 _ _ <| c_seq fun K4 hK4 => c_reg <| s_move H rfl rfl (lt_ rfl) fun a H => s_call H rfl body_80 (H.args (vs := [(.i x1)]) rfl) (lt_ rfl) h ?_ (fun c w' h H => e_panic (P := PP) (fn := Tryz.f64) H h)
 clear H h a
 rintro _ w5 a ⟨i6, rfl, h⟩ H
 refine s_assign H rfl rfl (lt_ rfl) fun a H => c_nil <| hK4 _ _ <| c_seq fun K7 hK7 => c_reg <| s_move H rfl rfl (lt_ rfl) fun a H => s_call H rfl body_80 (H.args (vs := [(.i y2)]) rfl) (lt_ rfl) h ?_ (fun c w' h H => e_panic (P := PP) (fn := Tryz.f64) H h)
 clear H h a
 rintro _ w8 a ⟨i9, rfl, h⟩ H
 refine s_assign H rfl rfl (lt_ rfl) fun a H => c_nil <| hK7 _ _ <| c_seq fun K10 hK10 => c_seq fun K11 hK11 => c_reg <| s_move H rfl rfl (lt_ rfl) fun a H => c_nil <| hK11 _ _ <| c_cond H rfl (fun h12 => ?_) (fun h12 => ?_)
 ·replace h := h.1 h12
  refine c_seq fun K13 hK13 => c_seq fun K14 hK14 => c_reg <| s_move H rfl rfl (lt_ rfl) fun a H => c_nil <| hK14 _ _ <| c_cond H rfl (fun h15 => ?_) (fun h15 => ?_)
  ·replace h := h.1 h15
   refine c_seq fun K16 hK16 => c_reg <| s_assign H rfl rfl (lt_ rfl) fun a H => c_nil <| hK16 _ _ <| c_ret ?_
   exact e_ret1 H rfl rfl h
  ·replace h := h.2 h15
   refine c_skip <| hK13 _ _ <| c_seq fun K17 hK17 => c_reg <| s_assign H rfl rfl (lt_ rfl) fun a H => c_nil <| hK17 _ _ <| c_ret ?_
   exact e_ret1 H rfl rfl h
 ·replace h := h.2 h12
  refine c_skip <| hK10 _ _ <| c_seq fun K18 hK18 => c_seq fun K19 hK19 => c_reg <| s_move H rfl rfl (lt_ rfl) fun a H => c_nil <| hK19 _ _ <| c_cond H rfl (fun h20 => ?_) (fun h20 => ?_)
  ·replace h := h.1 h20
   refine c_seq fun K21 hK21 => c_reg <| s_assign H rfl rfl (lt_ rfl) fun a H => c_nil <| hK21 _ _ <| c_ret ?_
   exact e_ret1 H rfl rfl h
  ·replace h := h.2 h20
   refine c_skip <| hK18 _ _ <| c_seq fun K22 hK22 => c_seq fun K23 hK23 => c_reg <| s_move H rfl rfl (lt_ rfl) fun a H => s_move H rfl rfl (lt_ rfl) fun a H => s_bin H rfl rfl rfl r_lss (lt_ rfl) fun a H => c_nil <| hK23 _ _ <| c_cond H rfl (fun h24 => ?_) (fun h24 => ?_)
   ·replace h := h.1 h24
    refine c_seq fun K25 hK25 => c_reg <| s_assign H rfl rfl (lt_ rfl) fun a H => c_nil <| hK25 _ _ <| c_ret ?_
    exact e_ret1 H rfl rfl h
   ·replace h := h.2 h24
    refine c_skip <| hK22 _ _ <| c_seq fun K26 hK26 => c_seq fun K27 hK27 => c_reg <| s_move H rfl rfl (lt_ rfl) fun a H => s_move H rfl rfl (lt_ rfl) fun a H => s_bin H rfl rfl rfl r_gtr (lt_ rfl) fun a H => c_nil <| hK27 _ _ <| c_cond H rfl (fun h28 => ?_) (fun h28 => ?_)
    ·replace h := h.1 h28
     refine c_seq fun K29 hK29 => c_reg <| s_assign H rfl rfl (lt_ rfl) fun a H => c_nil <| hK29 _ _ <| c_ret ?_
     exact e_ret1 H rfl rfl h
    ·replace h := h.2 h28
     refine c_skip <| hK26 _ _ <| c_seq fun K30 hK30 => c_reg <| s_assign H rfl rfl (lt_ rfl) fun a H => c_nil <| hK30 _ _ <| c_ret ?_
     exact e_ret1 H rfl rfl h

theorem sim_tag_Valid (C1 C2 : Int) (w : World) (Q : Ending → World → Prop) (h : vc_tag_Valid C1 C2 w Q) : Calls PP F_tag_Valid #[(.agg #[(.i C1), (.i C2)])] w Q := by
 unfold vc_tag_Valid at h
 refine enter (n := 9) Tryz.func66 rfl rfl (Nat.le_of_ble_eq_true rfl) fun a H => c_seq fun K3 hK3 => c_reg ?_
 replace h := h.get
 obtain ⟨b4, w5, n6, h⟩ := h
 refine s_box H rfl rfl (lt_ rfl) ?_
 rw [← n6.at_]
 clear H a
 intro a H
 refine n6.go <| s_assign H rfl rfl (lt_ rfl) fun a H => c_nil <| hK3 _ _ <| c_seq fun K7 hK7 => c_reg <| s_loadN (l := [(.i C1), (.i C2)]) H rfl rfl agg_33 rfl ⟨(n6.cell (i := 0) rfl), (n6.cell (i := 1) rfl), trivial⟩ (lt_ rfl) fun a H => s_call H rfl body_67 (H.args (vs := [(.agg #[(.i C1), (.i C2)])]) rfl) (lt_ rfl) h ?_ (fun c w' h H => e_panic (P := PP) (fn := Tryz.f66) H h)
 clear H h a
 rintro _ w8 a ⟨Z9, rfl, h⟩ H
 refine s_move H rfl rfl (lt_ rfl) fun a H => ?_
 obtain ⟨R12, h, h25⟩ := h
 refine g_joinW (n := 9) R12 (fun x13 => [(8, (.bool x13))]) (.succ (.succ (.succ (.zero _)))) ?_ ?_
 ·intro h11
  clear h25
  rcases Bool.eq_false_or_eq_true Z9 with h10 | h10
  ·replace H := H.ch (t := 5) (b := true) rfl h10
   replace h := h.2 h10
   refine s_skip H (wantN H rfl rfl rfl) rfl (lt_ rfl) fun a H => s_skip H (wantN H rfl rfl rfl) rfl (lt_ rfl) fun a H => s_pickT H rfl rfl rfl (lt_ rfl) fun a H => ?_
   exact h11 _ _ _ h (H.weaken ⟨rfl, trivial⟩)
  ·replace H := H.ch (t := 5) (b := false) rfl h10
   replace h := h.1 h10
   obtain ⟨C15, hc16, C17, hc18, h⟩ := h
   refine s_loadN (l := [(.i C15), (.i C17)]) H (wantG H rfl rfl) rfl agg_33 rfl ⟨hc16, hc18, trivial⟩ (lt_ rfl) fun a H => s_call H (wantG H rfl rfl) body_90 (H.args (vs := [(.agg #[(.i C15), (.i C17)])]) rfl) (lt_ rfl) h ?_ (fun c w' h H => e_panic (P := PP) (fn := Tryz.f66) H h)
   clear H h a
   rintro _ w19 a ⟨p20, rfl, h⟩ H
   refine s_pickF H rfl rfl rfl (lt_ rfl) fun a H => ?_
   exact h11 _ _ _ h (H.weaken ⟨rfl, trivial⟩)
 ·clear H a h
  intro a x13 w14 h H
  replace h := h25 x13 w14 h
  clear h25
  refine s_assign H rfl rfl (lt_ rfl) fun a H => c_nil <| hK7 _ _ <| c_ret ?_
  exact e_ret1 H rfl rfl h

theorem sim_tag_Zero (C1 C2 : Int) (w : World) (Q : Ending → World → Prop) (h : vc_tag_Zero C1 C2 w Q) : Calls PP F_tag_Zero #[(.agg #[(.i C1), (.i C2)])] w Q := by
 unfold vc_tag_Zero at h
 refine enter (n := 6) Tryz.func67 rfl rfl (Nat.le_of_ble_eq_true rfl) fun a H => c_seq fun K3 hK3 => c_reg ?_
 replace h := h.get
 obtain ⟨b4, w5, n6, h⟩ := h
 refine s_box H rfl rfl (lt_ rfl) ?_
 rw [← n6.at_]
 clear H a
 intro a H
 refine n6.go <| s_assign H rfl rfl (lt_ rfl) fun a H => c_nil <| hK3 _ _ <| c_seq fun K7 hK7 => c_reg <| s_loadN (l := [(.i C1), (.i C2)]) H rfl rfl agg_33 rfl ⟨(n6.cell (i := 0) rfl), (n6.cell (i := 1) rfl), trivial⟩ (lt_ rfl) fun a H => s_build H rfl (by rw [H.parts (vs := []) rfl]; exact bd_33 w5) (lt_ rfl) fun a H => s_bin H rfl rfl rfl (r_eqst eqg_33 (eqst_33 0) rfl) (lt_ rfl) fun a H => s_assign H rfl rfl (lt_ rfl) fun a H => c_nil <| hK7 _ _ <| c_ret ?_
 exact e_ret1 H rfl rfl h

theorem sim_cmp_isNaN_int64 (x1 : Int) (w : World) (Q : Ending → World → Prop) (h : vc_cmp_isNaN_int64 x1 w Q) : Calls PP F_cmp_isNaN_int64 #[(.i x1)] w Q := by
 unfold vc_cmp_isNaN_int64 at h
 refine enter (n := 6) Tryz.func79 rfl rfl (Nat.le_of_ble_eq_true rfl) fun a H => c_seq fun K2 hK2 => c_reg <| s_assign H rfl rfl (lt_ rfl) fun a H => c_nil <| hK2 _ _ <| c_seq fun K3 hK3 => c_reg <| s_move H rfl rfl (lt_ rfl) fun a H => s_move H rfl rfl (lt_ rfl) fun a H => s_bin H rfl rfl rfl r_neq (lt_ rfl) fun a H => s_assign H rfl rfl (lt_ rfl) fun a H => c_nil <| hK3 _ _ <| c_ret ?_
 exact e_ret1 H rfl rfl h

theorem sim_cmp_isNaN_int (x1 : Int) (w : World) (Q : Ending → World → Prop) (h : vc_cmp_isNaN_int x1 w Q) : Calls PP F_cmp_isNaN_int #[(.i x1)] w Q := by
 unfold vc_cmp_isNaN_int at h
 refine enter (n := 6) Tryz.func80 rfl rfl (Nat.le_of_ble_eq_true rfl) fun a H => c_seq fun K2 hK2 => c_reg <| s_assign H rfl rfl (lt_ rfl) fun a H => c_nil <| hK2 _ _ <| c_seq fun K3 hK3 => c_reg <| s_move H rfl rfl (lt_ rfl) fun a H => s_move H rfl rfl (lt_ rfl) fun a H => s_bin H rfl rfl rfl r_neq (lt_ rfl) fun a H => s_assign H rfl rfl (lt_ rfl) fun a H => c_nil <| hK3 _ _ <| c_ret ?_
 exact e_ret1 H rfl rfl h

theorem sim_tag_proper (C1 C2 : Int) (w : World) (Q : Ending → World → Prop) (h : vc_tag_proper C1 C2 w Q) : Calls PP F_tag_proper #[(.agg #[(.i C1), (.i C2)])] w Q := by
 unfold vc_tag_proper at h
 refine enter (n := 21) Tryz.func90 rfl rfl (Nat.le_of_ble_eq_true rfl) fun a H => c_seq fun K3 hK3 => c_reg ?_
 replace h := h.get
 obtain ⟨b4, w5, n6, h⟩ := h
 refine s_box H rfl rfl (lt_ rfl) ?_
 rw [← n6.at_]
 clear H a
 intro a H
 refine n6.go <| s_assign H rfl rfl (lt_ rfl) fun a H => c_nil <| hK3 _ _ <| c_seq fun K7 hK7 => c_reg <| s_fld H rfl rfl fld_33_0 (lt_ rfl) fun a H => s_load (v := (.i C1)) H rfl rfl one_2 (n6.cell (i := 0) rfl) (lt_ rfl) fun a H => s_bin H rfl rfl rfl r_geq (lt_ rfl) fun a H => s_move H rfl rfl (lt_ rfl) fun a H => g_join (n := 21) [(10, (.bool ((decide (1 ≤ C1)) && (decide (C1 ≤ 4611686018427387903))))), (1, (.pointer (some (blk b4))))] (.succ (.succ (.succ (.succ (.zero _))))) ?_ ?_
 ·intro h9
  try clear h
  rcases Bool.eq_false_or_eq_true (decide (1 ≤ C1)) with h8 | h8
  ·replace H := H.ch (t := 6) (b := true) rfl h8
   refine s_fld H (wantG H rfl rfl) rfl fld_33_0 (lt_ rfl) fun a H => s_load (v := (.i C1)) H (wantG H rfl rfl) rfl one_2 (n6.cell (i := 0) rfl) (lt_ rfl) fun a H => s_bin H (wantG H rfl rfl) rfl rfl r_leq (lt_ rfl) fun a H => s_pickT H rfl rfl rfl (lt_ rfl) fun a H => ?_
   exact h9 _ (H.weaken ⟨by rw [h8]; rfl, rfl, trivial⟩)
  ·replace H := H.ch (t := 6) (b := false) rfl h8
   iterate 3 refine s_skip H (wantN H rfl rfl rfl) rfl (lt_ rfl) fun a H => ?_
   refine s_pickF H rfl rfl rfl (lt_ rfl) fun a H => ?_
   exact h9 _ (H.weaken ⟨by rw [h8]; rfl, rfl, trivial⟩)
 ·clear H a
  intro a H
  refine s_move H rfl rfl (lt_ rfl) fun a H => g_join (n := 21) [(15, (.bool (((decide (1 ≤ C1)) && (decide (C1 ≤ 4611686018427387903))) && (decide (1 ≤ C2))))), (1, (.pointer (some (blk b4))))] (.succ (.succ (.succ (.succ (.zero _))))) ?_ ?_
  ·intro h11
   try clear h
   rcases Bool.eq_false_or_eq_true ((decide (1 ≤ C1)) && (decide (C1 ≤ 4611686018427387903))) with h10 | h10
   ·replace H := H.ch (t := 11) (b := true) rfl h10
    refine s_fld H (wantG H rfl rfl) rfl fld_33_1 (lt_ rfl) fun a H => s_load (v := (.i C2)) H (wantG H rfl rfl) rfl one_3 (n6.cell (i := 1) rfl) (lt_ rfl) fun a H => s_bin H (wantG H rfl rfl) rfl rfl r_geq (lt_ rfl) fun a H => s_pickT H rfl rfl rfl (lt_ rfl) fun a H => ?_
    exact h11 _ (H.weaken ⟨by rw [h10]; rfl, rfl, trivial⟩)
   ·replace H := H.ch (t := 11) (b := false) rfl h10
    iterate 3 refine s_skip H (wantN H rfl rfl rfl) rfl (lt_ rfl) fun a H => ?_
    refine s_pickF H rfl rfl rfl (lt_ rfl) fun a H => ?_
    exact h11 _ (H.weaken ⟨by rw [h10]; rfl, rfl, trivial⟩)
  ·clear H a
   intro a H
   refine s_move H rfl rfl (lt_ rfl) fun a H => g_join (n := 21) [(20, (.bool ((((decide (1 ≤ C1)) && (decide (C1 ≤ 4611686018427387903))) && (decide (1 ≤ C2))) && (decide (C2 ≤ 65535)))))] (.succ (.succ (.succ (.succ (.zero _))))) ?_ ?_
   ·intro h13
    try clear h
    rcases Bool.eq_false_or_eq_true (((decide (1 ≤ C1)) && (decide (C1 ≤ 4611686018427387903))) && (decide (1 ≤ C2))) with h12 | h12
    ·replace H := H.ch (t := 16) (b := true) rfl h12
     refine s_fld H (wantG H rfl rfl) rfl fld_33_1 (lt_ rfl) fun a H => s_load (v := (.i C2)) H (wantG H rfl rfl) rfl one_3 (n6.cell (i := 1) rfl) (lt_ rfl) fun a H => s_bin H (wantG H rfl rfl) rfl rfl r_leq (lt_ rfl) fun a H => s_pickT H rfl rfl rfl (lt_ rfl) fun a H => ?_
     exact h13 _ (H.weaken ⟨by rw [h12]; rfl, trivial⟩)
    ·replace H := H.ch (t := 16) (b := false) rfl h12
     iterate 3 refine s_skip H (wantN H rfl rfl rfl) rfl (lt_ rfl) fun a H => ?_
     refine s_pickF H rfl rfl rfl (lt_ rfl) fun a H => ?_
     exact h13 _ (H.weaken ⟨by rw [h12]; rfl, trivial⟩)
   ·clear H a
    intro a H
    refine s_assign H rfl rfl (lt_ rfl) fun a H => c_nil <| hK7 _ _ <| c_ret ?_
    exact e_ret1 H rfl rfl h

end Go.Proofs.YtgnceldnfefnmaaGreat
