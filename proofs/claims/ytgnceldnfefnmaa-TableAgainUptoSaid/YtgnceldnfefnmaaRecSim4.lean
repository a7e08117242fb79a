/-
  The conditions give the machine's calls; printed by vcgen.py.
-/
import Derived.Test.YtgnceldnfefnmaaRecVc
namespace Go.Proofs.Ytgnceldnfefnmaa
open Go Go.Vc
set_option maxRecDepth 100000
set_option maxHeartbeats 4000000
theorem sim_table_Table_fin (t1 : Option Addr) (k2 : ByteArray) (C3 C4 : Int) (w : World) (Q : Ending → World → Prop) (h : vc_table_Table_fin t1 k2 C3 C4 w Q) : Calls PP F_table_Table_fin #[(.pointer t1), (.string k2), (.agg #[(.i C3), (.i C4)])] w Q := by
 unfold vc_table_Table_fin at h
 refine enter (n := 66) Try.func27 rfl rfl (Nat.le_of_ble_eq_true rfl) fun a H => c_seq fun K5 hK5 => c_reg ?_
 replace h := h.get
 obtain ⟨b6, w7, n8, h⟩ := h
 refine s_box H rfl rfl (lt_ rfl) ?_
 rw [← n8.at_]
 clear H a
 intro a H
 refine n8.go <| s_assign H rfl rfl (lt_ rfl) fun a H => c_nil <| hK5 _ _ <| c_seq fun K9 hK9 => c_reg <| s_move H rfl rfl (lt_ rfl) fun a H => ?_
 obtain ⟨a10, h171, h⟩ := h
 revert H
 subst h171
 intro H
 refine s_nil H rfl rfl (lt_ rfl) fun a H => s_fld H rfl rfl fld_66_1 (lt_ rfl) fun a H => ?_
 obtain ⟨l11, hc12, h⟩ := h
 refine s_load (v := (.map l11)) H rfl rfl one_64 hc12 (lt_ rfl) fun a H => s_move H rfl rfl (lt_ rfl) fun a H => ?_
 obtain ⟨_, h15, m13, rfl, h⟩ := h
 refine s_lkp H rfl rfl rfl h15 (lt_ rfl) ?_
 clear H a h15
 intro a H
 refine s_assign H rfl rfl (lt_ rfl) fun a H => c_nil <| hK9 _ _ <| c_seq fun K16 hK16 => c_reg <| s_move H rfl rfl (lt_ rfl) fun a H => s_loadN (l := [(.i C3), (.i C4)]) H rfl rfl agg_29 rfl ⟨(n8.cell (i := 0) rfl), (n8.cell (i := 1) rfl), trivial⟩ (lt_ rfl) fun a H => ?_
 obtain ⟨_, h23, C17, C18, F19, H20, D21, rfl, h⟩ := h
 refine s_lkp H rfl rfl rfl h23 (lt_ rfl) ?_
 clear H a h23
 intro a H
 replace h := h.get
 obtain ⟨b24, w25, n26, h⟩ := h
 refine s_alloc H rfl zero_37 (lt_ rfl) ?_
 rw [← n26.at_]
 clear H a
 intro a H
 refine n26.go <| s_stoN (l := [(.i C17), (.i C18), (.bool F19), (.bool H20), D21.v]) H rfl rfl rfl rfl agg_37 rfl rfl h ?_
 clear h H
 intro w27 h H
 refine c_nil <| hK16 _ _ <| c_seq fun K28 hK28 => c_seq fun K29 hK29 => ?_
 obtain ⟨R31, h, h170⟩ := h
 have h145 : ∀ (a : Act) (s30 : Bool) (w32 : World), R31 s30 w32 → Has 66 [] a [(0, (.pointer (some a10))), (1, (.string k2)), (5, (.pointer (some (blk b6)))), (7, (.map m13)), (8, (.pointer (some (blk b24)))), (32, (.bool s30))] → K29 a w32 := by
  clear h
  intro a s30 w32 h H
  replace h := h170 s30 w32 h
  refine hK29 _ _ <| c_cond H rfl (fun h33 => ?_) (fun h33 => ?_)
  ·replace h := h.1 h33
   refine c_seq fun K34 hK34 => c_reg <| s_assign H rfl rfl (lt_ rfl) fun a H => c_nil <| hK34 _ _ <| c_ret ?_
   exact e_ret1 H rfl rfl h
  ·replace h := h.2 h33
   refine c_skip <| hK28 _ _ <| c_seq fun K35 hK35 => ?_
   obtain ⟨R37, h, h144⟩ := h
   have h133 : ∀ (a : Act) (s36 : Option Nat) (w38 : World), R37 s36 w38 → Has 66 [] a [(0, (.pointer (some a10))), (5, (.pointer (some (blk b6)))), (7, (.map s36)), (8, (.pointer (some (blk b24))))] → K35 a w38 := by
    clear h
    intro a s36 w38 h H
    replace h := h144 s36 w38 h
    refine hK35 _ _ <| c_seq fun K39 hK39 => c_reg ?_
    obtain ⟨C40, hc41, C42, hc43, h⟩ := h
    refine s_loadN (l := [(.i C40), (.i C42)]) H rfl rfl agg_29 rfl ⟨hc41, hc43, trivial⟩ (lt_ rfl) fun a H => s_fld H rfl rfl fld_37_0 (lt_ rfl) fun a H => s_stoN (l := [(.i C40), (.i C42)]) H rfl rfl rfl rfl agg_29 rfl rfl h ?_
    clear h H
    intro w44 h H
    refine s_fld H rfl rfl fld_37_1 (lt_ rfl) fun a H => ?_
    obtain ⟨h46, h47, h⟩ := h
    refine s_sto (p := (blk b24).add 2) (v := (.bool true)) H rfl rfl rfl rfl one_4 rfl h46 h47 ?_
    clear H
    intro H
    generalize hww45 : World.setCell w44 ((blk b24).add 2) (.bool true) = w45 at h ⊢
    have w45S : SetAt w44 ((blk b24).add 2) (.bool true) w45 := ⟨hww45.symm⟩
    clear hww45 h46 h47
    refine c_nil <| hK39 _ _ <| c_seq fun K48 hK48 => c_reg <| s_move H rfl rfl (lt_ rfl) fun a H => ?_
    obtain ⟨C49, hc50, C51, hc52, h⟩ := h
    refine s_loadN (l := [(.i C49), (.i C51)]) H rfl rfl agg_29 rfl ⟨hc50, hc52, trivial⟩ (lt_ rfl) fun a H => ?_
    obtain ⟨C53, hc54, C55, hc56, F57, hc58, H59, hc60, D61, hc62, h⟩ := h
    refine s_loadN (l := [(.i C53), (.i C55), (.bool F57), (.bool H59), D61.v]) H rfl rfl agg_37 rfl ⟨hc54, hc56, hc58, hc60, hc62, trivial⟩ (lt_ rfl) fun a H => ?_
    obtain ⟨w63, h64, h⟩ := h
    refine s_mup H rfl rfl rfl rfl h64 ?_
    clear H h64
    intro H
    refine c_nil <| hK48 _ _ <| c_seq fun K65 hK65 => c_reg <| s_move H rfl rfl (lt_ rfl) fun a H => s_move H rfl rfl (lt_ rfl) fun a H => s_nil H rfl rfl (lt_ rfl) fun a H => s_fld H rfl rfl fld_66_0 (lt_ rfl) fun a H => ?_
    obtain ⟨l66, hc67, h⟩ := h
    refine s_load (v := (.i l66)) H rfl rfl one_3 hc67 (lt_ rfl) fun a H => s_call H rfl body_35 (H.args (vs := [(.map s36), (.i l66)]) rfl) (lt_ rfl) h ?_ (fun c w' h H => e_panic (P := PP) (fn := Try.f27) H h)
    clear H h a
    rintro _ w68 a ⟨C69, C70, rfl, h⟩ H
    replace h := h.get
    obtain ⟨b71, w72, n73, h⟩ := h
    refine s_alloc H rfl zero_29 (lt_ rfl) ?_
    rw [← n73.at_]
    clear H a
    intro a H
    refine n73.go <| s_stoN (l := [(.i C69), (.i C70)]) H rfl rfl rfl rfl agg_29 rfl rfl h ?_
    clear h H
    intro w74 h H
    refine c_nil <| hK65 _ _ <| c_seq fun K75 hK75 => c_seq fun K76 hK76 => c_reg <| s_move H rfl rfl (lt_ rfl) fun a H => ?_
    obtain ⟨i77, w78, h79, h⟩ := h
    refine s_rng H rfl rfl h79 (lt_ rfl) ?_
    clear H a h79
    intro a H
    refine c_nil <| hK76 _ _ <| c_block ?_
    obtain ⟨I81, m82, h127, h128⟩ := h
    refine c_loop (σ := Unit) (fun z w => I81 w) (fun z w => m82 w) (fun z => [(7, (.map s36)), (9, (.pointer (some (blk b71)))), (55, (.pointer (some (blk i77))))]) () h127 (H.weaken ⟨rfl, rfl, rfl, trivial⟩) ?_
    clear H h127
    rintro _ a w80 h H
    replace h := h128 w80 h
    clear h128
    replace H : Has 66 [] a [(7, (.map s36)), (9, (.pointer (some (blk b71)))), (55, (.pointer (some (blk i77))))] := H
    refine c_seq fun K83 hK83 => c_reg ?_
    obtain ⟨b84, r85, w86, h87, h⟩ := h
    refine s_nxt H rfl rfl h87 (lt_ rfl) ?_
    clear H a h87
    intro a H
    refine s_ext H rfl rfl rfl (lt_ rfl) fun a H => c_nil <| hK83 _ _ <| c_seq fun K88 hK88 => c_cond H rfl (fun h89 => ?_) (fun h89 => ?_)
    ·replace h := h.1 h89
     refine c_skip <| hK88 _ _ <| c_block <| c_seq fun K90 hK90 => c_reg ?_
     obtain ⟨_, h99, C91, C92, C93, C94, F95, H96, D97, rfl, h⟩ := h
     refine s_etr H rfl rfl h99 (lt_ rfl) ?_
     clear H a h99
     intro a H
     refine s_ext H rfl rfl rfl (lt_ rfl) fun a H => ?_
     replace h := h.get
     obtain ⟨b100, w101, n102, h⟩ := h
     refine s_alloc H rfl zero_29 (lt_ rfl) ?_
     rw [← n102.at_]
     clear H a
     intro a H
     refine n102.go <| s_stoN (l := [(.i C91), (.i C92)]) H rfl rfl rfl rfl agg_29 rfl rfl h ?_
     clear h H
     intro w103 h H
     refine c_nil <| hK90 _ _ <| c_seq fun K104 hK104 => c_reg ?_
     obtain ⟨C105, hc106, C107, hc108, h⟩ := h
     refine s_loadN (l := [(.i C105), (.i C107)]) H rfl rfl agg_29 rfl ⟨hc106, hc108, trivial⟩ (lt_ rfl) fun a H => ?_
     obtain ⟨C109, hc110, C111, hc112, h⟩ := h
     refine s_loadN (l := [(.i C109), (.i C111)]) H rfl rfl agg_29 rfl ⟨hc110, hc112, trivial⟩ (lt_ rfl) fun a H => s_call H rfl body_13 (H.args (vs := [(.agg #[(.i C105), (.i C107)]), (.agg #[(.i C109), (.i C111)])]) rfl) (lt_ rfl) h ?_ (fun c w' h H => e_panic (P := PP) (fn := Try.f27) H h)
     clear H h a
     rintro _ w113 a ⟨C114, rfl, h⟩ H
     refine s_bin H rfl rfl rfl r_lss (lt_ rfl) fun a H => c_nil <| hK104 _ _ <| c_cond H rfl (fun h115 => ?_) (fun h115 => ?_)
     ·replace h := h.1 h115
      refine c_reg <| s_move H rfl rfl (lt_ rfl) fun a H => ?_
      obtain ⟨C116, hc117, C118, hc119, h⟩ := h
      refine s_loadN (l := [(.i C116), (.i C118)]) H rfl rfl agg_29 rfl ⟨hc117, hc119, trivial⟩ (lt_ rfl) fun a H => ?_
      obtain ⟨w120, h121, h⟩ := h
      refine s_blt0 H rfl (H.args (vs := [(.map s36), (.agg #[(.i C116), (.i C118)])]) rfl) (fun cs => b_dlt h121) ?_
      clear H h121
      intro H
      refine c_nil <| Exists.intro () ⟨h.1, h.2, H.weaken ⟨rfl, rfl, rfl, trivial⟩⟩
     ·replace h := h.2 h115
      refine c_skip <| Exists.intro () ⟨h.1, h.2, H.weaken ⟨rfl, rfl, rfl, trivial⟩⟩
    ·replace h := h.2 h89
     refine c_exit ?_
     first | (simp only [Exit.then, Exit.inBlock, ↓reduceIte]; fail_if_success simp only [Nat.reduceEqDiff]) | simp only [Exit.then, Exit.inBlock, ↓reduceIte, Nat.reduceEqDiff]
     refine hK75 _ _ <| c_seq fun K126 hK126 => c_reg <| s_assign H rfl rfl (lt_ rfl) fun a H => c_nil <| hK126 _ _ <| c_ret ?_
     exact e_ret1 H rfl rfl h
   clear h144
   refine c_seq fun K134 hK134 => c_reg <| s_move H rfl rfl (lt_ rfl) fun a H => s_bin H rfl rfl rfl (r_eqM0 map_74) (lt_ rfl) fun a H => c_nil <| hK134 _ _ <| c_cond H rfl (fun h135 => ?_) (fun h135 => ?_)
   ·replace h := h.1 h135
    refine c_seq fun K136 hK136 => c_reg ?_
    obtain ⟨g137, w138, h139, h⟩ := h
    refine s_mkm H rfl h139 (lt_ rfl) ?_
    clear H a h139
    intro a H
    refine s_assign H rfl rfl (lt_ rfl) fun a H => c_nil <| hK136 _ _ <| c_reg <| s_move H rfl rfl (lt_ rfl) fun a H => s_nil H rfl rfl (lt_ rfl) fun a H => s_fld H rfl rfl fld_66_1 (lt_ rfl) fun a H => ?_
    obtain ⟨l140, hc141, h⟩ := h
    refine s_load (v := (.map l140)) H rfl rfl one_64 hc141 (lt_ rfl) fun a H => s_move H rfl rfl (lt_ rfl) fun a H => s_move H rfl rfl (lt_ rfl) fun a H => ?_
    obtain ⟨w142, h143, h⟩ := h
    refine s_mup H rfl rfl rfl rfl h143 ?_
    clear H h143
    intro H
    refine c_nil ?_
    exact h133 _ _ _ h (H.weaken ⟨rfl, rfl, rfl, rfl, trivial⟩)
   ·replace h := h.2 h135
    refine c_skip ?_
    exact h133 _ _ _ h (H.weaken ⟨rfl, rfl, rfl, rfl, trivial⟩)
 clear h170
 replace H := H.weaken (L' := [(0, (.pointer (some a10))), (1, (.string k2)), (5, (.pointer (some (blk b6)))), (7, (.map m13)), (8, (.pointer (some (blk b24))))]) ⟨rfl, rfl, rfl, rfl, rfl, trivial⟩
 obtain ⟨l146, hc147, h⟩ := h
 rcases Bool.eq_false_or_eq_true l146 with h148 | h148
 ·replace h := h.1 h148
  refine c_any (V := [(0, (.pointer (some ((blk b24).add 2)))), (1, (.bool l146)), (2, (.bool l146)), (3, undef), (4, undef), (5, undef), (6, undef), (7, undef), (8, undef)]) (⟨[[], [0], [1], [2], [2], [2], [2, 5], [2, 6], [2, 7], [2, 4, 8], [2, 3, 9], [2, 10], [2, 11]], [some 20, some 21, some 22, some 23, some 24, some 25, some 26, some 27, some 28, some 29, some 30, some 31, some 32], [9, 10], [0, 0, 0, 0, 0, 0, 0, 0, 0, 0, 1, 2, 2], [0, 0, 0, 1, 0, 0, 0, 0, 0, 1, 2, 2, 2]⟩ : Rg) [(0, (.pointer (some a10))), (1, (.string k2)), (5, (.pointer (some (blk b6)))), (7, (.map m13)), (8, (.pointer (some (blk b24))))] mixed (by kernel_rfl) H ?_
  refine Stg.eff [0, 1, 2, 3, 4, 5, 6, 7, 8] (by kernel_rfl) rfl (.cons ?_ (.cons ?_ (.cons ?_ (.cons ?_ (.cons ?_ (.cons ?_ (.cons ?_ (.cons ?_ (.cons ?_ .nil))))))))) ?_
  ·refine Ans.mk rfl rfl fun a H => s_fld H rfl rfl fld_37_1 (lt_ rfl) fun a H => ?_
   exact Ans.fin H rfl
  ·refine Ans.mk rfl rfl fun a H => s_load (v := (.bool l146)) H rfl rfl one_4 hc147 (lt_ rfl) fun a H => ?_
   exact Ans.fin H rfl
  ·refine Ans.mk rfl rfl fun a H => s_move H rfl rfl (lt_ rfl) fun a H => ?_
   exact Ans.fin H rfl
  ·exact .skip rfl rfl rfl rfl rfl rfl h148 rfl
  ·exact .skip rfl rfl rfl rfl rfl rfl h148 rfl
  ·exact .skip rfl rfl rfl rfl rfl rfl h148 rfl
  ·exact .skip rfl rfl rfl rfl rfl rfl h148 rfl
  ·exact .skip rfl rfl rfl rfl rfl rfl h148 rfl
  ·exact .skip rfl rfl rfl rfl rfl rfl h148 rfl
  ·intro a H
   replace H := H.weaken (L' := [(22, (.bool l146)), (24, undef), (28, undef)]) ⟨rfl, rfl, rfl, trivial⟩
   replace H := H.ch (t := 22) (b := true) rfl h148
   refine s_skip H (wantN H rfl rfl rfl) rfl (lt_ rfl) fun a H => c_nil <| effQ.go [] H rfl rfl <| Stg.eff [3] (by kernel_rfl) rfl (.cons ?_ .nil) ?_
   ·exact .skip rfl rfl rfl rfl rfl rfl h148 rfl
   ·intro a H
    replace H := H.weaken (L' := [(22, (.bool l146)), (23, undef), (29, undef)]) ⟨rfl, rfl, rfl, trivial⟩
    replace H := H.ch (t := 22) (b := true) rfl h148
    refine s_skip H (wantN H rfl rfl rfl) rfl (lt_ rfl) fun a H => c_nil <| effQ.go [(11, undef), (12, (.bool true))] H rfl rfl <| Stg.fin [11, 12] (by kernel_rfl) (.cons ?_ (.cons ?_ .nil)) ?_
    ·exact .skip rfl rfl rfl rfl rfl rfl h148 rfl
    ·refine Ans.mk rfl rfl fun a H => ?_
     replace H := H.ch (t := 22) (b := true) rfl h148
     refine s_pickT H rfl rfl rfl (lt_ rfl) fun a H => ?_
     exact Ans.fin H rfl
    ·intro a H
     replace H := H.weaken (L' := [(0, (.pointer (some a10))), (1, (.string k2)), (5, (.pointer (some (blk b6)))), (7, (.map m13)), (8, (.pointer (some (blk b24)))), (32, (.bool true))]) ⟨rfl, rfl, rfl, rfl, rfl, rfl, trivial⟩
     exact h145 _ _ _ h (H.weaken ⟨rfl, rfl, rfl, rfl, rfl, rfl, trivial⟩)
 ·replace h := h.2 h148
  obtain ⟨C149, hc150, C151, hc152, l153, hc154, h⟩ := h
  refine c_any (V := [(0, (.pointer (some ((blk b24).add 2)))), (1, (.bool l146)), (2, (.bool l146)), (3, (.agg #[(.i C149), (.i C151)])), (4, (.map m13)), (5, (.pointer (some a10))), (6, (.pointer (some a10))), (7, (.pointer (some (a10.add 0)))), (8, (.i l153))]) (⟨[[], [0], [1], [2], [2], [2], [2, 5], [2, 6], [2, 7], [2, 4, 8], [2, 3, 9], [2, 10], [2, 11]], [some 20, some 21, some 22, some 23, some 24, some 25, some 26, some 27, some 28, some 29, some 30, some 31, some 32], [9, 10], [0, 0, 0, 0, 0, 0, 0, 0, 0, 0, 1, 2, 2], [0, 0, 0, 1, 0, 0, 0, 0, 0, 1, 2, 2, 2]⟩ : Rg) [(0, (.pointer (some a10))), (1, (.string k2)), (5, (.pointer (some (blk b6)))), (7, (.map m13)), (8, (.pointer (some (blk b24))))] mixed (by kernel_rfl) H ?_
  refine Stg.eff [0, 1, 2, 3, 4, 5, 6, 7, 8] (by kernel_rfl) rfl (.cons ?_ (.cons ?_ (.cons ?_ (.cons ?_ (.cons ?_ (.cons ?_ (.cons ?_ (.cons ?_ (.cons ?_ .nil))))))))) ?_
  ·refine Ans.mk rfl rfl fun a H => s_fld H rfl rfl fld_37_1 (lt_ rfl) fun a H => ?_
   exact Ans.fin H rfl
  ·refine Ans.mk rfl rfl fun a H => s_load (v := (.bool l146)) H rfl rfl one_4 hc147 (lt_ rfl) fun a H => ?_
   exact Ans.fin H rfl
  ·refine Ans.mk rfl rfl fun a H => s_move H rfl rfl (lt_ rfl) fun a H => ?_
   exact Ans.fin H rfl
  ·refine Ans.mk rfl rfl fun a H => ?_
   replace H := H.ch (t := 22) (b := false) rfl h148
   refine s_loadN (l := [(.i C149), (.i C151)]) H (wantG H rfl rfl) rfl agg_29 rfl ⟨hc150, hc152, trivial⟩ (lt_ rfl) fun a H => ?_
   exact Ans.fin H rfl
  ·refine Ans.mk rfl rfl fun a H => ?_
   replace H := H.ch (t := 22) (b := false) rfl h148
   refine s_move H (wantG H rfl rfl) rfl (lt_ rfl) fun a H => ?_
   exact Ans.fin H rfl
  ·refine Ans.mk rfl rfl fun a H => ?_
   replace H := H.ch (t := 22) (b := false) rfl h148
   refine s_move H (wantG H rfl rfl) rfl (lt_ rfl) fun a H => ?_
   exact Ans.fin H rfl
  ·refine Ans.mk rfl rfl fun a H => ?_
   replace H := H.ch (t := 22) (b := false) rfl h148
   refine s_nil H (wantG H rfl rfl) rfl (lt_ rfl) fun a H => ?_
   exact Ans.fin H rfl
  ·refine Ans.mk rfl rfl fun a H => ?_
   replace H := H.ch (t := 22) (b := false) rfl h148
   refine s_fld H (wantG H rfl rfl) rfl fld_66_0 (lt_ rfl) fun a H => ?_
   exact Ans.fin H rfl
  ·refine Ans.mk rfl rfl fun a H => ?_
   replace H := H.ch (t := 22) (b := false) rfl h148
   refine s_load (v := (.i l153)) H (wantG H rfl rfl) rfl one_3 hc154 (lt_ rfl) fun a H => ?_
   exact Ans.fin H rfl
  ·intro a H
   replace H := H.weaken (L' := [(22, (.bool l146)), (24, (.map m13)), (28, (.i l153))]) ⟨rfl, rfl, rfl, trivial⟩
   replace H := H.ch (t := 22) (b := false) rfl h148
   refine s_call H (wantG H rfl rfl) body_35 (H.args (vs := [(.map m13), (.i l153)]) rfl) (lt_ rfl) h ?_ (fun c w' h H => e_panic (P := PP) (fn := Try.f27) H h)
   clear H h a
   rintro _ w155 a ⟨C156, C157, rfl, h⟩ H
   refine c_nil ?_
   obtain ⟨hc158, hc159, h⟩ := h
   refine effQ.go [] H rfl rfl <| Stg.eff [3] (by kernel_rfl) rfl (.cons ?_ .nil) ?_
   ·refine Ans.mk rfl rfl fun a H => ?_
    replace H := H.ch (t := 22) (b := false) rfl h148
    refine s_loadN (l := [(.i C149), (.i C151)]) H (wantG H rfl rfl) rfl agg_29 rfl ⟨hc158, hc159, trivial⟩ (lt_ rfl) fun a H => ?_
    exact Ans.fin H rfl
   ·intro a H
    replace H := H.weaken (L' := [(22, (.bool l146)), (23, (.agg #[(.i C149), (.i C151)])), (29, (.agg #[(.i C156), (.i C157)]))]) ⟨rfl, rfl, rfl, trivial⟩
    replace H := H.ch (t := 22) (b := false) rfl h148
    refine s_call H (wantG H rfl rfl) body_13 (H.args (vs := [(.agg #[(.i C149), (.i C151)]), (.agg #[(.i C156), (.i C157)])]) rfl) (lt_ rfl) h ?_ (fun c w' h H => e_panic (P := PP) (fn := Try.f27) H h)
    clear H h a
    rintro _ w160 a ⟨C161, rfl, h⟩ H
    refine c_nil <| effQ.go [(11, (.bool (decide (C161 < 0)))), (12, (.bool (decide (C161 < 0))))] H rfl rfl <| Stg.fin [11, 12] (by kernel_rfl) (.cons ?_ (.cons ?_ .nil)) ?_
    ·refine Ans.mk rfl rfl fun a H => ?_
     replace H := H.ch (t := 22) (b := false) rfl h148
     refine s_bin H (wantG H rfl rfl) rfl rfl r_lss (lt_ rfl) fun a H => ?_
     exact Ans.fin H rfl
    ·refine Ans.mk rfl rfl fun a H => ?_
     replace H := H.ch (t := 22) (b := false) rfl h148
     refine s_pickF H rfl rfl rfl (lt_ rfl) fun a H => ?_
     exact Ans.fin H rfl
    ·intro a H
     replace H := H.weaken (L' := [(0, (.pointer (some a10))), (1, (.string k2)), (5, (.pointer (some (blk b6)))), (7, (.map m13)), (8, (.pointer (some (blk b24)))), (32, (.bool (decide (C161 < 0))))]) ⟨rfl, rfl, rfl, rfl, rfl, rfl, trivial⟩
     exact h145 _ _ _ h (H.weaken ⟨rfl, rfl, rfl, rfl, rfl, rfl, trivial⟩)

theorem sim_sherdlaw15_tagOf (K1 : Int) (F2 B3 : Bool) (C4 C5 : Int) (w : World) (Q : Ending → World → Prop) (h : vc_sherdlaw15_tagOf K1 F2 B3 C4 C5 w Q) : Calls PP F_sherdlaw15_tagOf #[(.agg #[(.i K1), (.bool F2), (.bool B3), (.i C4), (.i C5)])] w Q := by
 unfold vc_sherdlaw15_tagOf at h
 refine enter (n := 16) Try.func28 rfl rfl (Nat.le_of_ble_eq_true rfl) fun a H => c_seq fun K6 hK6 => c_reg ?_
 replace h := h.get
 obtain ⟨b7, w8, n9, h⟩ := h
 refine s_box H rfl rfl (lt_ rfl) ?_
 rw [← n9.at_]
 clear H a
 intro a H
 refine n9.go ?_
 replace h := h.get
 obtain ⟨b10, w11, n12, h⟩ := h
 refine s_alloc H rfl zero_29 (lt_ rfl) ?_
 rw [← n12.at_]
 clear H a
 intro a H
 refine n12.go <| c_nil <| hK6 _ _ <| c_seq fun K13 hK13 => c_reg <| s_fld H rfl rfl fld_32_3 (lt_ rfl) fun a H => s_load (v := (.i C4)) H rfl rfl one_2 (n12.old (n9.cell (i := 3) rfl)) (lt_ rfl) fun a H => s_bin H rfl rfl rfl (r_rem (by decide)) (lt_ rfl) fun a H => s_bin H rfl rfl rfl r_add (lt_ rfl) fun a H => s_bin H rfl rfl rfl (r_rem (by decide)) (lt_ rfl) fun a H => s_bin H rfl rfl rfl r_add (lt_ rfl) fun a H => s_fld H rfl rfl fld_32_4 (lt_ rfl) fun a H => ?_
 refine s_load (v := (.i C5)) H rfl rfl one_3 (n12.old (n9.cell (i := 4) rfl)) (lt_ rfl) fun a H => s_bin H rfl rfl rfl (r_rem (by decide)) (lt_ rfl) fun a H => s_bin H rfl rfl rfl r_add (lt_ rfl) fun a H => s_bin H rfl rfl rfl (r_rem (by decide)) (lt_ rfl) fun a H => s_bin H rfl rfl rfl r_add (lt_ rfl) fun a H => ?_
 refine s_build H rfl (by rw [H.parts (vs := [(0, (.i (wr .i64 (((wr .i64 ((C4.tmod 12) + 12)).tmod 12) + 1)))), (1, (.i (wr .i64 (((wr .i64 ((C5.tmod 5) + 5)).tmod 5) + 1))))]) rfl]; exact bd_29_ii640_ii641 w11 (wr .i64 (((wr .i64 ((C4.tmod 12) + 12)).tmod 12) + 1)) (wr .i64 (((wr .i64 ((C5.tmod 5) + 5)).tmod 5) + 1))) (lt_ rfl) fun a H => ?_
 refine s_stoN (l := [(.i (wr .i64 (((wr .i64 ((C4.tmod 12) + 12)).tmod 12) + 1))), (.i (wr .i64 (((wr .i64 ((C5.tmod 5) + 5)).tmod 5) + 1)))]) H rfl rfl rfl rfl agg_29 rfl rfl h ?_
 clear h H
 intro w14 h H
 refine c_nil <| hK13 _ _ <| c_ret ?_
 obtain ⟨C15, hc16, C17, hc18, h⟩ := h
 exact e_ret1 H rfl ⟨_, rfl, run_loadN (l := [(.i C15), (.i C17)]) agg_29 rfl ⟨hc16, hc18, trivial⟩⟩ h

theorem sim_sherdlaw15_dataOf (k1 : ByteArray) (C2 C3 : Int) (w : World) (Q : Ending → World → Prop) (h : vc_sherdlaw15_dataOf k1 C2 C3 w Q) : Calls PP F_sherdlaw15_dataOf #[(.string k1), (.agg #[(.i C2), (.i C3)])] w Q := by
 unfold vc_sherdlaw15_dataOf at h
 refine enter (n := 15) Try.func29 rfl rfl (Nat.le_of_ble_eq_true rfl) fun a H => c_seq fun K4 hK4 => c_reg ?_
 replace h := h.get
 obtain ⟨b5, w6, n7, h⟩ := h
 refine s_box H rfl rfl (lt_ rfl) ?_
 rw [← n7.at_]
 clear H a
 intro a H
 refine n7.go <| s_assign H rfl rfl (lt_ rfl) fun a H => c_nil <| hK4 _ _ <| c_seq fun K8 hK8 => c_reg <| s_move H rfl rfl (lt_ rfl) fun a H => ?_
 obtain ⟨s9, w11, h10, h⟩ := h
 refine s_cv H rfl rfl h10 (lt_ rfl) ?_
 clear H a h10
 intro a H
 refine s_fld H rfl rfl fld_29_0 (lt_ rfl) fun a H => ?_
 obtain ⟨l12, hc13, h⟩ := h
 refine s_load (v := (.i l12)) H rfl rfl one_2 hc13 (lt_ rfl) fun a H => s_cv H rfl rfl (r_cvI some_2 int_5) (lt_ rfl) fun a H => s_fld H rfl rfl fld_29_1 (lt_ rfl) fun a H => ?_
 obtain ⟨l14, hc15, h⟩ := h
 refine s_load (v := (.i l14)) H rfl rfl one_3 hc15 (lt_ rfl) fun a H => s_cv H rfl rfl (r_cvI some_3 int_5) (lt_ rfl) fun a H => ?_
 replace h := h.get
 obtain ⟨b16, w17, n18, h⟩ := h
 refine s_bslc H rfl (by rw [H.parts (vs := [(0, (.int .u8 (wr .u8 l12))), (1, (.int .u8 (wr .u8 l14))), (2, (.int .u8 0))]) rfl]; exact bs_35_3_iu80_iu81_iu82 w11 (wr .u8 l12) (wr .u8 l14) 0) (lt_ rfl) ?_
 rw [← n18.at_]
 clear H a
 intro a H
 refine n18.go ?_
 obtain ⟨s19, w20, h21, h⟩ := h
 refine s_blt H rfl (H.args (vs := [s9.v, (Slc.v (Slc.mk (some (blk b16)) 3 3))]) rfl) (lt_ rfl) (fun cs => b_app (z := s19) h21) ?_
 clear H a h21
 intro a H
 refine s_assign H rfl rfl (lt_ rfl) fun a H => c_nil <| hK8 _ _ <| c_ret ?_
 exact e_ret1 H rfl rfl h

theorem sim_table_copied (C1 C2 : Int) (F3 H4 : Bool) (D5 : Slc) (w : World) (Q : Ending → World → Prop) (h : vc_table_copied C1 C2 F3 H4 D5 w Q) : Calls PP F_table_copied #[(.agg #[(.i C1), (.i C2), (.bool F3), (.bool H4), D5.v])] w Q := by
 unfold vc_table_copied at h
 refine enter (n := 8) Try.func30 rfl rfl (Nat.le_of_ble_eq_true rfl) fun a H => c_seq fun K6 hK6 => c_reg ?_
 replace h := h.get
 obtain ⟨b7, w8, n9, h⟩ := h
 refine s_box H rfl rfl (lt_ rfl) ?_
 rw [← n9.at_]
 clear H a
 intro a H
 refine n9.go ?_
 replace h := h.get
 obtain ⟨b10, w11, n12, h⟩ := h
 refine s_alloc H rfl zero_37 (lt_ rfl) ?_
 rw [← n12.at_]
 clear H a
 intro a H
 refine n12.go <| c_nil <| hK6 _ _ <| c_seq fun K13 hK13 => c_reg <| s_fld H rfl rfl fld_37_3 (lt_ rfl) fun a H => s_load (v := D5.v) H rfl rfl one_35 (n12.old (n9.cell (i := 4) rfl)) (lt_ rfl) fun a H => s_call H rfl body_44 (H.args (vs := [D5.v]) rfl) (lt_ rfl) h ?_ (fun c w' h H => e_panic (P := PP) (fn := Try.f30) H h)
 clear H h a
 rintro _ w14 a ⟨C15, rfl, h⟩ H
 refine s_fld H rfl rfl fld_37_3 (lt_ rfl) fun a H => ?_
 obtain ⟨h17, h18, h⟩ := h
 refine s_sto (p := (blk b7).add 4) (v := C15.v) H rfl rfl rfl rfl one_35 rfl h17 h18 ?_
 clear H
 intro H
 generalize hww16 : World.setCell w14 ((blk b7).add 4) C15.v = w16 at h ⊢
 have w16S : SetAt w14 ((blk b7).add 4) C15.v w16 := ⟨hww16.symm⟩
 clear hww16 h17 h18
 refine c_nil <| hK13 _ _ <| c_seq fun K19 hK19 => c_reg ?_
 obtain ⟨C20, hc21, C22, hc23, F24, hc25, H26, hc27, D28, hc29, h⟩ := h
 refine s_loadN (l := [(.i C20), (.i C22), (.bool F24), (.bool H26), D28.v]) H rfl rfl agg_37 rfl ⟨hc21, hc23, hc25, hc27, hc29, trivial⟩ (lt_ rfl) fun a H => s_stoN (l := [(.i C20), (.i C22), (.bool F24), (.bool H26), D28.v]) H rfl rfl rfl rfl agg_37 rfl rfl h ?_
 clear h H
 intro w30 h H
 refine c_nil <| hK19 _ _ <| c_ret ?_
 obtain ⟨C31, hc32, C33, hc34, F35, hc36, H37, hc38, D39, hc40, h⟩ := h
 exact e_ret1 H rfl ⟨_, rfl, run_loadN (l := [(.i C31), (.i C33), (.bool F35), (.bool H37), D39.v]) agg_37 rfl ⟨hc32, hc34, hc36, hc38, hc40, trivial⟩⟩ h

theorem sim_table_Table_Entries_c1 (C1 C2 : Int) (F3 H4 : Bool) (D5 : Slc) (C6 C7 : Int) (F8 H9 : Bool) (D10 : Slc) (w : World) (Q : Ending → World → Prop) (h : vc_table_Table_Entries_c1 C1 C2 F3 H4 D5 C6 C7 F8 H9 D10 w Q) : Calls PP F_table_Table_Entries_c1 #[(.agg #[(.i C1), (.i C2), (.bool F3), (.bool H4), D5.v]), (.agg #[(.i C6), (.i C7), (.bool F8), (.bool H9), D10.v])] w Q := by
 unfold vc_table_Table_Entries_c1 at h
 refine enter (n := 10) Try.func32 rfl rfl (Nat.le_of_ble_eq_true rfl) fun a H => c_seq fun K11 hK11 => c_reg ?_
 replace h := h.get
 obtain ⟨b12, w13, n14, h⟩ := h
 refine s_box H rfl rfl (lt_ rfl) ?_
 rw [← n14.at_]
 clear H a
 intro a H
 refine n14.go ?_
 replace h := h.get
 obtain ⟨b15, w16, n17, h⟩ := h
 refine s_box H rfl rfl (lt_ rfl) ?_
 rw [← n17.at_]
 clear H a
 intro a H
 refine n17.go <| s_assign H rfl rfl (lt_ rfl) fun a H => c_nil <| hK11 _ _ <| c_seq fun K18 hK18 => c_reg <| s_fld H rfl rfl fld_37_0 (lt_ rfl) fun a H => s_loadN (l := [(.i C1), (.i C2)]) H rfl rfl agg_29 rfl ⟨(n17.old (n14.cell (i := 0) rfl)), (n17.old (n14.cell (i := 1) rfl)), trivial⟩ (lt_ rfl) fun a H => s_fld H rfl rfl fld_37_0 (lt_ rfl) fun a H => ?_
 refine s_loadN (l := [(.i C6), (.i C7)]) H rfl rfl agg_29 rfl ⟨(n17.cell (i := 0) rfl), (n17.cell (i := 1) rfl), trivial⟩ (lt_ rfl) fun a H => s_call H rfl body_13 (H.args (vs := [(.agg #[(.i C1), (.i C2)]), (.agg #[(.i C6), (.i C7)])]) rfl) (lt_ rfl) h ?_ (fun c w' h H => e_panic (P := PP) (fn := Try.f32) H h)
 clear H h a
 rintro _ w19 a ⟨C20, rfl, h⟩ H
 refine s_assign H rfl rfl (lt_ rfl) fun a H => c_nil <| hK18 _ _ <| c_ret ?_
 exact e_ret1 H rfl rfl h

theorem sim_cmp_Compare_int64 (x1 y2 : Int) (w : World) (Q : Ending → World → Prop) (h : vc_cmp_Compare_int64 x1 y2 w Q) : Calls PP F_cmp_Compare_int64 #[(.i x1), (.i y2)] w Q := by
 unfold vc_cmp_Compare_int64 at h
 refine enter (n := 20) Try.func33 rfl rfl (Nat.le_of_ble_eq_true rfl) fun a H => c_seq fun K3 hK3 => c_reg <| s_assign H rfl rfl (lt_ rfl) fun a H => c_nil <| hK3 _ _ <| c_seq fun K4 hK4 => c_reg <| s_move H rfl rfl (lt_ rfl) fun a H => s_call H rfl body_47 (H.args (vs := [(.i x1)]) rfl) (lt_ rfl) h ?_ (fun c w' h H => e_panic (P := PP) (fn := Try.f33) H h)
 clear H h a
 rintro _ w5 a ⟨i6, rfl, h⟩ H
 refine s_assign H rfl rfl (lt_ rfl) fun a H => c_nil <| hK4 _ _ <| c_seq fun K7 hK7 => c_reg <| s_move H rfl rfl (lt_ rfl) fun a H => s_call H rfl body_47 (H.args (vs := [(.i y2)]) rfl) (lt_ rfl) h ?_ (fun c w' h H => e_panic (P := PP) (fn := Try.f33) H h)
 clear H h a
 rintro _ w8 a ⟨i9, rfl, h⟩ H
 refine s_assign H rfl rfl (lt_ rfl) fun a H => c_nil <| hK7 _ _ <| c_seq fun K10 hK10 => c_seq fun K11 hK11 => c_reg <| s_move H rfl rfl (lt_ rfl) fun a H => c_nil <| hK11 _ _ <| c_cond H rfl (fun h12 => ?_) (fun h12 => ?_)
 ·replace h := h.1 h12
  refine c_seq fun K13 hK13 => c_seq fun K14 hK14 => c_reg <| s_move H rfl rfl (lt_ rfl) fun a H => c_nil <| hK14 _ _ <| c_cond H rfl (fun h15 => ?_) (fun h15 => ?_)
  ·replace h := h.1 h15
   refine c_seq fun K16 hK16 => c_reg <| s_assign H rfl rfl (lt_ rfl) fun a H => c_nil <| hK16 _ _ <| c_ret ?_
   exact e_ret1 H rfl rfl h
  ·replace h := h.2 h15
   refine c_skip <| hK13 _ _ <| c_seq fun K17 hK17 => c_reg <| s_assign H rfl rfl (lt_ rfl) fun a H => c_nil <| hK17 _ _ <| c_ret ?_
   exact e_ret1 H rfl rfl h
 ·replace h := h.2 h12
  refine c_skip <| hK10 _ _ <| c_seq fun K18 hK18 => c_seq fun K19 hK19 => c_reg <| s_move H rfl rfl (lt_ rfl) fun a H => c_nil <| hK19 _ _ <| c_cond H rfl (fun h20 => ?_) (fun h20 => ?_)
  ·replace h := h.1 h20
   refine c_seq fun K21 hK21 => c_reg <| s_assign H rfl rfl (lt_ rfl) fun a H => c_nil <| hK21 _ _ <| c_ret ?_
   exact e_ret1 H rfl rfl h
  ·replace h := h.2 h20
   refine c_skip <| hK18 _ _ <| c_seq fun K22 hK22 => c_seq fun K23 hK23 => c_reg <| s_move H rfl rfl (lt_ rfl) fun a H => s_move H rfl rfl (lt_ rfl) fun a H => s_bin H rfl rfl rfl r_lss (lt_ rfl) fun a H => c_nil <| hK23 _ _ <| c_cond H rfl (fun h24 => ?_) (fun h24 => ?_)
   ·replace h := h.1 h24
    refine c_seq fun K25 hK25 => c_reg <| s_assign H rfl rfl (lt_ rfl) fun a H => c_nil <| hK25 _ _ <| c_ret ?_
    exact e_ret1 H rfl rfl h
   ·replace h := h.2 h24
    refine c_skip <| hK22 _ _ <| c_seq fun K26 hK26 => c_seq fun K27 hK27 => c_reg <| s_move H rfl rfl (lt_ rfl) fun a H => s_move H rfl rfl (lt_ rfl) fun a H => s_bin H rfl rfl rfl r_gtr (lt_ rfl) fun a H => c_nil <| hK27 _ _ <| c_cond H rfl (fun h28 => ?_) (fun h28 => ?_)
    ·replace h := h.1 h28
     refine c_seq fun K29 hK29 => c_reg <| s_assign H rfl rfl (lt_ rfl) fun a H => c_nil <| hK29 _ _ <| c_ret ?_
     exact e_ret1 H rfl rfl h
    ·replace h := h.2 h28
     refine c_skip <| hK26 _ _ <| c_seq fun K30 hK30 => c_reg <| s_assign H rfl rfl (lt_ rfl) fun a H => c_nil <| hK30 _ _ <| c_ret ?_
     exact e_ret1 H rfl rfl h

theorem sim_cmp_Compare_int (x1 y2 : Int) (w : World) (Q : Ending → World → Prop) (h : vc_cmp_Compare_int x1 y2 w Q) : Calls PP F_cmp_Compare_int #[(.i x1), (.i y2)] w Q := by
 unfold vc_cmp_Compare_int at h
 refine enter (n := 20) Try.func34 rfl rfl (Nat.le_of_ble_eq_true rfl) fun a H => c_seq fun K3 hK3 => c_reg <| s_assign H rfl rfl (lt_ rfl) fun a H => c_nil <| hK3 _ _ <| c_seq fun K4 hK4 => c_reg <| s_move H rfl rfl (lt_ rfl) fun a H => s_call H rfl body_48 (H.args (vs := [(.i x1)]) rfl) (lt_ rfl) h ?_ (fun c w' h H => e_panic (P := PP) (fn := Try.f34) H h)
 clear H h a
 rintro _ w5 a ⟨i6, rfl, h⟩ H
 refine s_assign H rfl rfl (lt_ rfl) fun a H => c_nil <| hK4 _ _ <| c_seq fun K7 hK7 => c_reg <| s_move H rfl rfl (lt_ rfl) fun a H => s_call H rfl body_48 (H.args (vs := [(.i y2)]) rfl) (lt_ rfl) h ?_ (fun c w' h H => e_panic (P := PP) (fn := Try.f34) H h)
 clear H h a
 rintro _ w8 a ⟨i9, rfl, h⟩ H
 refine s_assign H rfl rfl (lt_ rfl) fun a H => c_nil <| hK7 _ _ <| c_seq fun K10 hK10 => c_seq fun K11 hK11 => c_reg <| s_move H rfl rfl (lt_ rfl) fun a H => c_nil <| hK11 _ _ <| c_cond H rfl (fun h12 => ?_) (fun h12 => ?_)
 ·replace h := h.1 h12
  refine c_seq fun K13 hK13 => c_seq fun K14 hK14 => c_reg <| s_move H rfl rfl (lt_ rfl) fun a H => c_nil <| hK14 _ _ <| c_cond H rfl (fun h15 => ?_) (fun h15 => ?_)
  ·replace h := h.1 h15
   refine c_seq fun K16 hK16 => c_reg <| s_assign H rfl rfl (lt_ rfl) fun a H => c_nil <| hK16 _ _ <| c_ret ?_
   exact e_ret1 H rfl rfl h
  ·replace h := h.2 h15
   refine c_skip <| hK13 _ _ <| c_seq fun K17 hK17 => c_reg <| s_assign H rfl rfl (lt_ rfl) fun a H => c_nil <| hK17 _ _ <| c_ret ?_
   exact e_ret1 H rfl rfl h
 ·replace h := h.2 h12
  refine c_skip <| hK10 _ _ <| c_seq fun K18 hK18 => c_seq fun K19 hK19 => c_reg <| s_move H rfl rfl (lt_ rfl) fun a H => c_nil <| hK19 _ _ <| c_cond H rfl (fun h20 => ?_) (fun h20 => ?_)
  ·replace h := h.1 h20
   refine c_seq fun K21 hK21 => c_reg <| s_assign H rfl rfl (lt_ rfl) fun a H => c_nil <| hK21 _ _ <| c_ret ?_
   exact e_ret1 H rfl rfl h
  ·replace h := h.2 h20
   refine c_skip <| hK18 _ _ <| c_seq fun K22 hK22 => c_seq fun K23 hK23 => c_reg <| s_move H rfl rfl (lt_ rfl) fun a H => s_move H rfl rfl (lt_ rfl) fun a H => s_bin H rfl rfl rfl r_lss (lt_ rfl) fun a H => c_nil <| hK23 _ _ <| c_cond H rfl (fun h24 => ?_) (fun h24 => ?_)
   ·replace h := h.1 h24
    refine c_seq fun K25 hK25 => c_reg <| s_assign H rfl rfl (lt_ rfl) fun a H => c_nil <| hK25 _ _ <| c_ret ?_
    exact e_ret1 H rfl rfl h
   ·replace h := h.2 h24
    refine c_skip <| hK22 _ _ <| c_seq fun K26 hK26 => c_seq fun K27 hK27 => c_reg <| s_move H rfl rfl (lt_ rfl) fun a H => s_move H rfl rfl (lt_ rfl) fun a H => s_bin H rfl rfl rfl r_gtr (lt_ rfl) fun a H => c_nil <| hK27 _ _ <| c_cond H rfl (fun h28 => ?_) (fun h28 => ?_)
    ·replace h := h.1 h28
     refine c_seq fun K29 hK29 => c_reg <| s_assign H rfl rfl (lt_ rfl) fun a H => c_nil <| hK29 _ _ <| c_ret ?_
     exact e_ret1 H rfl rfl h
    ·replace h := h.2 h28
     refine c_skip <| hK26 _ _ <| c_seq fun K30 hK30 => c_reg <| s_assign H rfl rfl (lt_ rfl) fun a H => c_nil <| hK30 _ _ <| c_ret ?_
     exact e_ret1 H rfl rfl h

theorem sim_table_shelf_floor (s1 : Option Nat) (d2 : Int) (w : World) (Q : Ending → World → Prop) (h : vc_table_shelf_floor s1 d2 w Q) : Calls PP F_table_shelf_floor #[(.map s1), (.i d2)] w Q := by
 unfold vc_table_shelf_floor at h
 refine enter (n := 17) Try.func35 rfl rfl (Nat.le_of_ble_eq_true rfl) fun a H => c_seq fun K3 hK3 => c_reg ?_
 replace h := h.get
 obtain ⟨b4, w5, n6, h⟩ := h
 refine s_alloc H rfl zero_29 (lt_ rfl) ?_
 rw [← n6.at_]
 clear H a
 intro a H
 refine n6.go <| c_nil <| hK3 _ _ <| c_seq fun K7 hK7 => c_reg <| s_move H rfl rfl (lt_ rfl) fun a H => s_call H rfl body_37 (H.args (vs := [(.map s1)]) rfl) (lt_ rfl) h ?_ (fun c w' h H => e_panic (P := PP) (fn := Try.f35) H h)
 clear H h a
 rintro _ w8 a ⟨f9, rfl, h⟩ H
 refine s_assign H rfl rfl (lt_ rfl) fun a H => c_nil <| hK7 _ _ <| c_seq fun K10 hK10 => c_seq fun K11 hK11 => c_reg <| s_move H rfl rfl (lt_ rfl) fun a H => s_move H rfl rfl (lt_ rfl) fun a H => s_blt H rfl (H.args (vs := [f9.v]) rfl) (lt_ rfl) (fun cs => b_lenS (z := f9) sl_82) fun a H => s_bin H rfl rfl rfl r_lss (lt_ rfl) fun a H => c_nil <| hK11 _ _ <| c_cond H rfl (fun h12 => ?_) (fun h12 => ?_)
 ·replace h := h.1 h12
  refine c_seq fun K13 hK13 => c_reg <| s_move H rfl rfl (lt_ rfl) fun a H => s_move H rfl rfl (lt_ rfl) fun a H => ?_
  obtain ⟨a14, h15, h16, h17, h⟩ := h
  refine s_idxS (s := f9) H rfl rfl rfl slc_82 h15 h16 h17 (lt_ rfl) fun a H => ?_
  obtain ⟨C18, hc19, C20, hc21, h⟩ := h
  refine s_loadN (l := [(.i C18), (.i C20)]) H rfl rfl agg_29 rfl ⟨hc19, hc21, trivial⟩ (lt_ rfl) fun a H => s_stoN (l := [(.i C18), (.i C20)]) H rfl rfl rfl rfl agg_29 rfl rfl h ?_
  clear h H
  intro w22 h H
  refine c_nil <| hK13 _ _ <| c_ret ?_
  obtain ⟨C23, hc24, C25, hc26, h⟩ := h
  exact e_ret1 H rfl ⟨_, rfl, run_loadN (l := [(.i C23), (.i C25)]) agg_29 rfl ⟨hc24, hc26, trivial⟩⟩ h
 ·replace h := h.2 h12
  refine c_skip <| hK10 _ _ <| c_seq fun K27 hK27 => c_reg <| s_build H rfl (by rw [H.parts (vs := []) rfl]; exact bd_29 w8) (lt_ rfl) fun a H => s_stoN (l := [(.i 0), (.i 0)]) H rfl rfl rfl rfl agg_29 rfl rfl h ?_
  clear h H
  intro w28 h H
  refine c_nil <| hK27 _ _ <| c_ret ?_
  obtain ⟨C29, hc30, C31, hc32, h⟩ := h
  exact e_ret1 H rfl ⟨_, rfl, run_loadN (l := [(.i C29), (.i C31)]) agg_29 rfl ⟨hc30, hc32, trivial⟩⟩ h

theorem sim_tag_Max (t1 : Slc) (w : World) (Q : Ending → World → Prop) (h : vc_tag_Max t1 w Q) : Calls PP F_tag_Max #[t1.v] w Q := by
 unfold vc_tag_Max at h
 refine enter (n := 9) Try.func36 rfl rfl (Nat.le_of_ble_eq_true rfl) fun a H => c_seq fun K2 hK2 => c_reg ?_
 replace h := h.get
 obtain ⟨b3, w4, n5, h⟩ := h
 refine s_alloc H rfl zero_29 (lt_ rfl) ?_
 rw [← n5.at_]
 clear H a
 intro a H
 refine n5.go <| c_nil <| hK2 _ _ <| c_seq fun K6 hK6 => c_seq fun K7 hK7 => c_reg <| s_move H rfl rfl (lt_ rfl) fun a H => s_blt H rfl (H.args (vs := [t1.v]) rfl) (lt_ rfl) (fun cs => b_lenS (z := t1) sl_82) fun a H => s_bin H rfl rfl rfl r_eql (lt_ rfl) fun a H => c_nil <| hK7 _ _ <| c_cond H rfl (fun h8 => ?_) (fun h8 => ?_)
 ·replace h := h.1 h8
  refine c_seq fun K9 hK9 => c_reg <| s_build H rfl (by rw [H.parts (vs := []) rfl]; exact bd_29 w4) (lt_ rfl) fun a H => s_stoN (l := [(.i 0), (.i 0)]) H rfl rfl rfl rfl agg_29 rfl rfl h ?_
  clear h H
  intro w10 h H
  refine c_nil <| hK9 _ _ <| c_ret ?_
  obtain ⟨C11, hc12, C13, hc14, h⟩ := h
  exact e_ret1 H rfl ⟨_, rfl, run_loadN (l := [(.i C11), (.i C13)]) agg_29 rfl ⟨hc12, hc14, trivial⟩⟩ h
 ·replace h := h.2 h8
  refine c_skip <| hK6 _ _ <| c_seq fun K15 hK15 => c_reg <| s_move H rfl rfl (lt_ rfl) fun a H => s_call H rfl body_49 (H.args (vs := [t1.v, (.func (.func 13) #[] #[])]) rfl) (lt_ rfl) h ?_ (fun c w' h H => e_panic (P := PP) (fn := Try.f36) H h)
  clear H h a
  rintro _ w16 a ⟨C17, C18, rfl, h⟩ H
  refine s_stoN (l := [(.i C17), (.i C18)]) H rfl rfl rfl rfl agg_29 rfl rfl h ?_
  clear h H
  intro w19 h H
  refine c_nil <| hK15 _ _ <| c_ret ?_
  obtain ⟨C20, hc21, C22, hc23, h⟩ := h
  exact e_ret1 H rfl ⟨_, rfl, run_loadN (l := [(.i C20), (.i C22)]) agg_29 rfl ⟨hc21, hc23, trivial⟩⟩ h

theorem sim_table_shelf_finalized (s1 : Option Nat) (w : World) (Q : Ending → World → Prop) (h : vc_table_shelf_finalized s1 w Q) : Calls PP F_table_shelf_finalized #[(.map s1)] w Q := by
 unfold vc_table_shelf_finalized at h
 refine enter (n := 22) Try.func37 rfl rfl (Nat.le_of_ble_eq_true rfl) fun a H => c_seq fun K2 hK2 => c_reg <| s_assign H rfl rfl (lt_ rfl) fun a H => c_nil <| hK2 _ _ <| c_seq fun K3 hK3 => c_reg <| s_assign H rfl rfl (lt_ rfl) fun a H => c_nil <| hK3 _ _ <| c_seq fun K4 hK4 => c_seq fun K5 hK5 => c_reg <| s_move H rfl rfl (lt_ rfl) fun a H => ?_
 obtain ⟨i6, w7, h8, h⟩ := h
 refine s_rng H rfl rfl h8 (lt_ rfl) ?_
 clear H a h8
 intro a H
 refine c_nil <| hK5 _ _ <| c_block ?_
 obtain ⟨I11, m12, h59, h60⟩ := h
 refine c_loop (σ := Slc) (fun z w => I11 z w) (fun z w => m12 z w) (fun z => [(3, z.v), (7, (.pointer (some (blk i6))))]) Slc.nil h59 (H.weaken ⟨rfl, rfl, trivial⟩) ?_
 clear H h59
 rintro l9 a w10 h H
 replace h := h60 l9 w10 h
 clear h60
 replace H : Has 22 [] a [(3, l9.v), (7, (.pointer (some (blk i6))))] := H
 refine c_seq fun K13 hK13 => c_reg ?_
 obtain ⟨b14, r15, w16, h17, h⟩ := h
 refine s_nxt H rfl rfl h17 (lt_ rfl) ?_
 clear H a h17
 intro a H
 refine s_ext H rfl rfl rfl (lt_ rfl) fun a H => c_nil <| hK13 _ _ <| c_seq fun K18 hK18 => c_cond H rfl (fun h19 => ?_) (fun h19 => ?_)
 ·replace h := h.1 h19
  refine c_skip <| hK18 _ _ <| c_block <| c_seq fun K20 hK20 => c_reg ?_
  obtain ⟨_, h29, C21, C22, C23, C24, F25, H26, D27, rfl, h⟩ := h
  refine s_etr H rfl rfl h29 (lt_ rfl) ?_
  clear H a h29
  intro a H
  refine s_ext H rfl rfl rfl (lt_ rfl) fun a H => s_ext H rfl rfl rfl (lt_ rfl) fun a H => ?_
  replace h := h.get
  obtain ⟨b30, w31, n32, h⟩ := h
  refine s_alloc H rfl zero_29 (lt_ rfl) ?_
  rw [← n32.at_]
  clear H a
  intro a H
  refine n32.go ?_
  replace h := h.get
  obtain ⟨b33, w34, n35, h⟩ := h
  refine s_alloc H rfl zero_37 (lt_ rfl) ?_
  rw [← n35.at_]
  clear H a
  intro a H
  refine n35.go <| s_stoN (l := [(.i C21), (.i C22)]) H rfl rfl rfl rfl agg_29 rfl rfl h ?_
  clear h H
  intro w36 h H
  refine s_stoN (l := [(.i C23), (.i C24), (.bool F25), (.bool H26), D27.v]) H rfl rfl rfl rfl agg_37 rfl rfl h ?_
  clear h H
  intro w37 h H
  refine c_nil <| hK20 _ _ <| c_seq fun K38 hK38 => c_reg <| s_fld H rfl rfl fld_37_1 (lt_ rfl) fun a H => ?_
  obtain ⟨l39, hc40, h⟩ := h
  refine s_load (v := (.bool l39)) H rfl rfl one_4 hc40 (lt_ rfl) fun a H => c_nil <| hK38 _ _ <| c_cond H rfl (fun h41 => ?_) (fun h41 => ?_)
  ·replace h := h.1 h41
   refine c_reg <| s_move H rfl rfl (lt_ rfl) fun a H => ?_
   obtain ⟨C42, hc43, C44, hc45, h⟩ := h
   refine s_loadN (l := [(.i C42), (.i C44)]) H rfl rfl agg_29 rfl ⟨hc43, hc45, trivial⟩ (lt_ rfl) fun a H => ?_
   replace h := h.get
   obtain ⟨b46, w47, n48, h⟩ := h
   refine s_bslc H rfl (by rw [H.parts (vs := [(0, (.agg #[(.i C42), (.i C44)]))]) rfl]; exact bs_82_1_ii64ii640 w37 C42 C44) (lt_ rfl) ?_
   rw [← n48.at_]
   clear H a
   intro a H
   refine n48.go ?_
   obtain ⟨s49, w50, h51, h⟩ := h
   refine s_blt H rfl (H.args (vs := [l9.v, (Slc.v (Slc.mk (some (blk b46)) 1 1))]) rfl) (lt_ rfl) (fun cs => b_app (z := s49) h51) ?_
   clear H a h51
   intro a H
   refine s_assign H rfl rfl (lt_ rfl) fun a H => c_nil <| Exists.intro s49 ⟨h.1, h.2, H.weaken ⟨rfl, rfl, trivial⟩⟩
  ·replace h := h.2 h41
   refine c_skip <| Exists.intro l9 ⟨h.1, h.2, H.weaken ⟨rfl, rfl, trivial⟩⟩
 ·replace h := h.2 h19
  refine c_exit ?_
  first | (simp only [Exit.then, Exit.inBlock, ↓reduceIte]; fail_if_success simp only [Nat.reduceEqDiff]) | simp only [Exit.then, Exit.inBlock, ↓reduceIte, Nat.reduceEqDiff]
  refine hK4 _ _ <| c_seq fun K52 hK52 => c_reg <| s_move H rfl rfl (lt_ rfl) fun a H => s_call H rfl body_50 (H.args (vs := [l9.v, (.func (.func 51) #[] #[])]) rfl) (lt_ rfl) h ?_ (fun c w' h H => e_panic (P := PP) (fn := Try.f37) H h)
  clear H h a
  rintro _ w53 a ⟨rfl, h⟩ H
  refine c_nil <| hK52 _ _ <| c_seq fun K54 hK54 => c_reg <| s_move H rfl rfl (lt_ rfl) fun a H => s_assign H rfl rfl (lt_ rfl) fun a H => c_nil <| hK54 _ _ <| c_ret ?_
  exact e_ret1 H rfl rfl h

theorem sim_table_Table_Fragments (t1 : Option Addr) (k2 : ByteArray) (w : World) (Q : Ending → World → Prop) (h : vc_table_Table_Fragments t1 k2 w Q) : Calls PP F_table_Table_Fragments #[(.pointer t1), (.string k2)] w Q := by
 unfold vc_table_Table_Fragments at h
 refine enter (n := 22) Try.func38 rfl rfl (Nat.le_of_ble_eq_true rfl) fun a H => c_seq fun K3 hK3 => c_reg <| s_assign H rfl rfl (lt_ rfl) fun a H => c_nil <| hK3 _ _ <| c_seq fun K4 hK4 => c_reg <| s_assign H rfl rfl (lt_ rfl) fun a H => c_nil <| hK4 _ _ <| c_seq fun K5 hK5 => c_seq fun K6 hK6 => c_reg <| s_move H rfl rfl (lt_ rfl) fun a H => s_move H rfl rfl (lt_ rfl) fun a H => ?_
 refine s_call H rfl body_12 (H.args (vs := [(.pointer t1), (.string k2)]) rfl) (lt_ rfl) h ?_ (fun c w' h H => e_panic (P := PP) (fn := Try.f38) H h)
 clear H h a
 rintro _ w7 a ⟨E8, rfl, h⟩ H
 refine s_blt H rfl (H.args (vs := [E8.v]) rfl) (lt_ rfl) (fun cs => b_lenS (z := E8) sl_42) fun a H => s_move H rfl rfl (lt_ rfl) fun a H => c_nil <| hK6 _ _ <| c_block ?_
 obtain ⟨I12, m13, h47, h48⟩ := h
 refine c_loop (σ := Int × Int) (fun z w => I12 z.1 z.2 w) (fun z w => m13 z.1 z.2 w) (fun z => [(5, (.i z.1)), (10, E8.v), (11, (.i (E8.l : Int))), (12, (.i z.2))]) (0, 0) h47 (H.weaken ⟨rfl, rfl, rfl, rfl, trivial⟩) ?_
 clear H h47
 rintro ⟨n9, s10⟩ a w11 h H
 replace h := h48 n9 s10 w11 h
 clear h48
 replace H : Has 22 [] a [(5, (.i n9)), (10, E8.v), (11, (.i (E8.l : Int))), (12, (.i s10))] := H
 refine c_seq fun K14 hK14 => c_reg <| s_bin H rfl rfl rfl r_lss (lt_ rfl) fun a H => c_nil <| hK14 _ _ <| c_seq fun K15 hK15 => c_cond H rfl (fun h16 => ?_) (fun h16 => ?_)
 ·replace h := h.1 h16
  refine c_skip <| hK15 _ _ <| c_seq fun K17 hK17 => ?_
  obtain ⟨R19, h, h45⟩ := h
  have h21 : ∀ (a : Act) (n18 : Int) (w20 : World), R19 n18 w20 → Has 22 [] a [(5, (.i n18)), (10, E8.v), (11, (.i (E8.l : Int))), (12, (.i s10))] → K17 a w20 := by
   clear h
   intro a n18 w20 h H
   replace h := h45 n18 w20 h
   refine hK17 _ _ <| c_reg <| s_bin H rfl rfl rfl r_add (lt_ rfl) fun a H => s_move H rfl rfl (lt_ rfl) fun a H => c_nil <| Exists.intro (n18, wr .i64 (s10 + 1)) ⟨h.1, h.2, H.weaken ⟨rfl, rfl, rfl, rfl, trivial⟩⟩
  clear h45
  refine c_block <| c_seq fun K22 hK22 => c_reg ?_
  obtain ⟨a23, h24, h25, h26, h⟩ := h
  refine s_idxS (s := E8) H rfl rfl rfl slc_42 h24 h25 h26 (lt_ rfl) fun a H => ?_
  obtain ⟨C27, hc28, C29, hc30, F31, hc32, H33, hc34, D35, hc36, h⟩ := h
  refine s_loadN (l := [(.i C27), (.i C29), (.bool F31), (.bool H33), D35.v]) H rfl rfl agg_37 rfl ⟨hc28, hc30, hc32, hc34, hc36, trivial⟩ (lt_ rfl) fun a H => ?_
  replace h := h.get
  obtain ⟨b37, w38, n39, h⟩ := h
  refine s_alloc H rfl zero_37 (lt_ rfl) ?_
  rw [← n39.at_]
  clear H a
  intro a H
  refine n39.go <| s_stoN (l := [(.i C27), (.i C29), (.bool F31), (.bool H33), D35.v]) H rfl rfl rfl rfl agg_37 rfl rfl h ?_
  clear h H
  intro w40 h H
  refine c_nil <| hK22 _ _ <| c_seq fun K41 hK41 => c_reg <| s_fld H rfl rfl fld_37_2 (lt_ rfl) fun a H => ?_
  obtain ⟨l42, hc43, h⟩ := h
  refine s_load (v := (.bool l42)) H rfl rfl one_4 hc43 (lt_ rfl) fun a H => c_nil <| hK41 _ _ <| c_cond H rfl (fun h44 => ?_) (fun h44 => ?_)
  ·replace h := h.1 h44
   refine c_reg <| s_move H rfl rfl (lt_ rfl) fun a H => s_bin H rfl rfl rfl r_add (lt_ rfl) fun a H => s_assign H rfl rfl (lt_ rfl) fun a H => c_nil ?_
   exact h21 _ _ _ h (H.weaken ⟨rfl, rfl, rfl, rfl, trivial⟩)
  ·replace h := h.2 h44
   refine c_skip ?_
   exact h21 _ _ _ h (H.weaken ⟨rfl, rfl, rfl, rfl, trivial⟩)
 ·replace h := h.2 h16
  refine c_exit ?_
  first | (simp only [Exit.then, Exit.inBlock, ↓reduceIte]; fail_if_success simp only [Nat.reduceEqDiff]) | simp only [Exit.then, Exit.inBlock, ↓reduceIte, Nat.reduceEqDiff]
  refine hK5 _ _ <| c_seq fun K46 hK46 => c_reg <| s_move H rfl rfl (lt_ rfl) fun a H => s_assign H rfl rfl (lt_ rfl) fun a H => c_nil <| hK46 _ _ <| c_ret ?_
  exact e_ret1 H rfl rfl h

theorem sim_table_Table_Would (t1 : Option Addr) (K2 : Int) (K3 : ByteArray) (C4 C5 : Int) (F6 H7 : Bool) (D8 : Slc) (w : World) (Q : Ending → World → Prop) (h : vc_table_Table_Would t1 K2 K3 C4 C5 F6 H7 D8 w Q) : Calls PP F_table_Table_Would #[(.pointer t1), (.agg #[(.i K2), (.string K3), (.i C4), (.i C5), (.bool F6), (.bool H7), D8.v])] w Q := by
 unfold vc_table_Table_Would at h
 refine enter (n := 78) Try.func39 rfl rfl (Nat.le_of_ble_eq_true rfl) fun a H => c_seq fun K9 hK9 => c_reg ?_
 replace h := h.get
 obtain ⟨b10, w11, n12, h⟩ := h
 refine s_box H rfl rfl (lt_ rfl) ?_
 rw [← n12.at_]
 clear H a
 intro a H
 refine n12.go <| s_assign H rfl rfl (lt_ rfl) fun a H => s_assign H rfl rfl (lt_ rfl) fun a H => c_nil <| hK9 _ _ <| c_seq fun K13 hK13 => c_seq fun K14 hK14 => c_reg <| s_move H rfl rfl (lt_ rfl) fun a H => s_bin H rfl rfl rfl (r_eqP0 ptr_24) (lt_ rfl) fun a H => c_nil <| hK14 _ _ <| c_cond H rfl (fun h15 => ?_) (fun h15 => ?_)
 ·replace h := h.1 h15
  refine c_seq fun K16 hK16 => c_reg <| s_assign H rfl rfl (lt_ rfl) fun a H => s_assign H rfl rfl (lt_ rfl) fun a H => c_nil <| hK16 _ _ <| c_ret ?_
  exact e_ret2 H rfl rfl rfl h
 ·replace h := h.2 h15
  refine c_skip <| hK13 _ _ <| c_seq fun K17 hK17 => c_seq fun K18 hK18 => c_reg <| s_loadN (l := [(.i K2), (.string K3), (.i C4), (.i C5), (.bool F6), (.bool H7), D8.v]) H rfl rfl agg_39 rfl ⟨(n12.cell (i := 0) rfl), (n12.cell (i := 1) rfl), (n12.cell (i := 2) rfl), (n12.cell (i := 3) rfl), (n12.cell (i := 4) rfl), (n12.cell (i := 5) rfl), (n12.cell (i := 6) rfl), trivial⟩ (lt_ rfl) fun a H => ?_
  refine s_call H rfl body_25 (H.args (vs := [(.agg #[(.i K2), (.string K3), (.i C4), (.i C5), (.bool F6), (.bool H7), D8.v])]) rfl) (lt_ rfl) h ?_ (fun c w' h H => e_panic (P := PP) (fn := Try.f39) H h)
  clear H h a
  rintro _ w19 a ⟨m20, rfl, h⟩ H
  refine s_un H rfl rfl r_not (lt_ rfl) fun a H => c_nil <| hK18 _ _ <| c_cond H rfl (fun h21 => ?_) (fun h21 => ?_)
  ·replace h := h.1 h21
   refine c_seq fun K22 hK22 => c_reg <| s_assign H rfl rfl (lt_ rfl) fun a H => s_assign H rfl rfl (lt_ rfl) fun a H => c_nil <| hK22 _ _ <| c_ret ?_
   exact e_ret2 H rfl rfl rfl h
  ·replace h := h.2 h21
   refine c_skip <| hK17 _ _ <| c_seq fun K23 hK23 => ?_
   replace H := H.weaken (L' := [(0, (.pointer t1)), (3, (.pointer (some (blk b10))))]) ⟨rfl, rfl, trivial⟩
   obtain ⟨a24, h25, h⟩ := h
   revert H
   subst h25
   intro H
   obtain ⟨l26, hc27, l28, hc29, h⟩ := h
   refine c_any (V := [(0, (.pointer (some a24))), (1, (.pointer (some a24))), (2, (.pointer (some (a24.add 1)))), (3, (.map l26)), (4, (.pointer (some ((blk b10).add 1)))), (5, (.string l28))]) (⟨[[], [0], [1], [2], [], [4], [3, 5], [0, 1, 2, 3, 4, 5, 6]], [some 15, some 16, some 17, some 18, some 19, some 20, some 21, some 6], [6], [0, 0, 0, 0, 0, 0, 0, 1], [0, 0, 0, 0, 0, 0, 1, 1]⟩ : Rg) [(0, (.pointer (some a24))), (3, (.pointer (some (blk b10))))] mixed (by kernel_rfl) H ?_
   refine Stg.eff [0, 1, 2, 3, 4, 5] (by kernel_rfl) rfl (.cons ?_ (.cons ?_ (.cons ?_ (.cons ?_ (.cons ?_ (.cons ?_ .nil)))))) ?_
   ·refine Ans.mk rfl rfl fun a H => s_move H rfl rfl (lt_ rfl) fun a H => ?_
    exact Ans.fin H rfl
   ·refine Ans.mk rfl rfl fun a H => s_nil H rfl rfl (lt_ rfl) fun a H => ?_
    exact Ans.fin H rfl
   ·refine Ans.mk rfl rfl fun a H => s_fld H rfl rfl fld_66_1 (lt_ rfl) fun a H => ?_
    exact Ans.fin H rfl
   ·refine Ans.mk rfl rfl fun a H => s_load (v := (.map l26)) H rfl rfl one_64 hc27 (lt_ rfl) fun a H => ?_
    exact Ans.fin H rfl
   ·refine Ans.mk rfl rfl fun a H => s_fld H rfl rfl fld_39_1 (lt_ rfl) fun a H => ?_
    exact Ans.fin H rfl
   ·refine Ans.mk rfl rfl fun a H => s_load (v := (.string l28)) H rfl rfl one_9 hc29 (lt_ rfl) fun a H => ?_
    exact Ans.fin H rfl
   ·intro a H
    replace H := H.weaken (L' := [(18, (.map l26)), (20, (.string l28))]) ⟨rfl, rfl, trivial⟩
    obtain ⟨_, h32, m30, rfl, h⟩ := h
    refine s_lkp H rfl rfl rfl h32 (lt_ rfl) ?_
    clear H a h32
    intro a H
    refine c_nil <| effQ.go [(7, (.map m30))] H rfl rfl <| Stg.fin [7] (by kernel_rfl) (.cons ?_ .nil) ?_
    ·refine Ans.mk rfl rfl fun a H => s_assign H rfl rfl (lt_ rfl) fun a H => ?_
     exact Ans.fin H rfl
    ·intro a H
     replace H := H.weaken (L' := [(0, (.pointer (some a24))), (3, (.pointer (some (blk b10)))), (6, (.map m30))]) ⟨rfl, rfl, rfl, trivial⟩
     refine hK23 _ _ <| c_seq fun K33 hK33 => c_reg <| s_move H rfl rfl (lt_ rfl) fun a H => s_fld H rfl rfl fld_39_2 (lt_ rfl) fun a H => s_fld H rfl rfl fld_37_0 (lt_ rfl) fun a H => ?_
     obtain ⟨C34, hc35, C36, hc37, h⟩ := h
     refine s_loadN (l := [(.i C34), (.i C36)]) H rfl rfl agg_29 rfl ⟨hc35, hc37, trivial⟩ (lt_ rfl) fun a H => ?_
     obtain ⟨_, h44, C38, C39, F40, H41, D42, rfl, h⟩ := h
     refine s_lkp H rfl rfl rfl h44 (lt_ rfl) ?_
     clear H a h44
     intro a H
     replace h := h.get
     obtain ⟨b45, w46, n47, h⟩ := h
     refine s_alloc H rfl zero_37 (lt_ rfl) ?_
     rw [← n47.at_]
     clear H a
     intro a H
     refine n47.go <| s_stoN (l := [(.i C38), (.i C39), (.bool F40), (.bool H41), D42.v]) H rfl rfl rfl rfl agg_37 rfl rfl h ?_
     clear h H
     intro w48 h H
     refine c_nil <| hK33 _ _ <| c_seq fun K49 hK49 => c_seq fun K50 hK50 => ?_
     replace H := H.weaken (L' := [(0, (.pointer (some a24))), (3, (.pointer (some (blk b10)))), (6, (.map m30)), (7, (.pointer (some (blk b45))))]) ⟨rfl, rfl, rfl, rfl, trivial⟩
     obtain ⟨C51, hc52, C53, hc54, l55, hc56, h⟩ := h
     refine c_any (V := [(0, (.pointer (some ((blk b10).add 2)))), (1, (.pointer (some (((blk b10).add 2).add 0)))), (2, (.agg #[(.i C51), (.i C53)])), (3, (.map m30)), (4, (.pointer (some a24))), (5, (.pointer (some a24))), (6, (.pointer (some (a24.add 0)))), (7, (.i l55))]) (⟨[[], [0], [1], [], [], [4], [5], [6], [3, 7], [2, 8], [9]], [some 27, some 28, some 29, some 30, some 31, some 32, some 33, some 34, some 35, some 36, some 37], [8, 9], [0, 0, 0, 0, 0, 0, 0, 0, 0, 1, 2], [1, 1, 1, 0, 0, 0, 0, 0, 1, 2, 2]⟩ : Rg) [(0, (.pointer (some a24))), (3, (.pointer (some (blk b10)))), (6, (.map m30)), (7, (.pointer (some (blk b45))))] mixed (by kernel_rfl) H ?_
     refine Stg.eff [0, 1, 2, 3, 4, 5, 6, 7] (by kernel_rfl) rfl (.cons ?_ (.cons ?_ (.cons ?_ (.cons ?_ (.cons ?_ (.cons ?_ (.cons ?_ (.cons ?_ .nil)))))))) ?_
     ·refine Ans.mk rfl rfl fun a H => s_fld H rfl rfl fld_39_2 (lt_ rfl) fun a H => ?_
      exact Ans.fin H rfl
     ·refine Ans.mk rfl rfl fun a H => s_fld H rfl rfl fld_37_0 (lt_ rfl) fun a H => ?_
      exact Ans.fin H rfl
     ·refine Ans.mk rfl rfl fun a H => s_loadN (l := [(.i C51), (.i C53)]) H rfl rfl agg_29 rfl ⟨hc52, hc54, trivial⟩ (lt_ rfl) fun a H => ?_
      exact Ans.fin H rfl
     ·refine Ans.mk rfl rfl fun a H => s_move H rfl rfl (lt_ rfl) fun a H => ?_
      exact Ans.fin H rfl
     ·refine Ans.mk rfl rfl fun a H => s_move H rfl rfl (lt_ rfl) fun a H => ?_
      exact Ans.fin H rfl
     ·refine Ans.mk rfl rfl fun a H => s_nil H rfl rfl (lt_ rfl) fun a H => ?_
      exact Ans.fin H rfl
     ·refine Ans.mk rfl rfl fun a H => s_fld H rfl rfl fld_66_0 (lt_ rfl) fun a H => ?_
      exact Ans.fin H rfl
     ·refine Ans.mk rfl rfl fun a H => s_load (v := (.i l55)) H rfl rfl one_3 hc56 (lt_ rfl) fun a H => ?_
      exact Ans.fin H rfl
     ·intro a H
      replace H := H.weaken (L' := [(30, (.map m30)), (34, (.i l55))]) ⟨rfl, rfl, trivial⟩
      refine s_call H rfl body_35 (H.args (vs := [(.map m30), (.i l55)]) rfl) (lt_ rfl) h ?_ (fun c w' h H => e_panic (P := PP) (fn := Try.f39) H h)
      clear H h a
      rintro _ w57 a ⟨C58, C59, rfl, h⟩ H
      refine c_nil ?_
      obtain ⟨hc60, hc61, h⟩ := h
      refine effQ.go [] H rfl rfl <| Stg.eff [0, 1, 2] (by kernel_rfl) rfl (.cons ?_ (.cons ?_ (.cons ?_ .nil))) ?_
      ·refine Ans.mk rfl rfl fun a H => s_fld H rfl rfl fld_39_2 (lt_ rfl) fun a H => ?_
       exact Ans.fin H rfl
      ·refine Ans.mk rfl rfl fun a H => s_fld H rfl rfl fld_37_0 (lt_ rfl) fun a H => ?_
       exact Ans.fin H rfl
      ·refine Ans.mk rfl rfl fun a H => s_loadN (l := [(.i C51), (.i C53)]) H rfl rfl agg_29 rfl ⟨hc60, hc61, trivial⟩ (lt_ rfl) fun a H => ?_
       exact Ans.fin H rfl
      ·intro a H
       replace H := H.weaken (L' := [(29, (.agg #[(.i C51), (.i C53)])), (35, (.agg #[(.i C58), (.i C59)]))]) ⟨rfl, rfl, trivial⟩
       refine s_call H rfl body_13 (H.args (vs := [(.agg #[(.i C51), (.i C53)]), (.agg #[(.i C58), (.i C59)])]) rfl) (lt_ rfl) h ?_ (fun c w' h H => e_panic (P := PP) (fn := Try.f39) H h)
       clear H h a
       rintro _ w62 a ⟨C63, rfl, h⟩ H
       refine c_nil <| effQ.go [(10, (.bool (decide (C63 < 0))))] H rfl rfl <| Stg.fin [10] (by kernel_rfl) (.cons ?_ .nil) ?_
       ·refine Ans.mk rfl rfl fun a H => s_bin H rfl rfl rfl r_lss (lt_ rfl) fun a H => ?_
        exact Ans.fin H rfl
       ·intro a H
        replace H := H.weaken (L' := [(3, (.pointer (some (blk b10)))), (7, (.pointer (some (blk b45)))), (37, (.bool (decide (C63 < 0))))]) ⟨rfl, rfl, rfl, trivial⟩
        refine hK50 _ _ <| c_cond H rfl (fun h64 => ?_) (fun h64 => ?_)
        ·replace h := h.1 h64
         refine c_seq fun K65 hK65 => c_reg <| s_assign H rfl rfl (lt_ rfl) fun a H => s_assign H rfl rfl (lt_ rfl) fun a H => c_nil <| hK65 _ _ <| c_ret ?_
         exact e_ret2 H rfl rfl rfl h
        ·replace h := h.2 h64
         refine c_skip <| hK49 _ _ <| c_seq fun K66 hK66 => c_reg <| s_fld H rfl rfl fld_39_0 (lt_ rfl) fun a H => ?_
         obtain ⟨l67, hc68, h⟩ := h
         refine s_load (v := (.i l67)) H rfl rfl one_3 hc68 (lt_ rfl) fun a H => s_bin H rfl rfl rfl r_eql (lt_ rfl) fun a H => s_move H rfl rfl (lt_ rfl) fun a H => ?_
         obtain ⟨x80, h81, h82, h⟩ := h
         refine g_join (n := 78) [(50, (.bool x80)), (3, (.pointer (some (blk b10)))), (7, (.pointer (some (blk b45))))] (.succ (.succ (.succ (.succ (.succ (.succ (.succ (.succ (.succ (.zero _)))))))))) ?_ ?_
         ·intro h70
          try clear h
          rcases Bool.eq_false_or_eq_true (decide (l67 = 1)) with h69 | h69
          ·replace H := H.ch (t := 41) (b := true) rfl h69
           iterate 4 refine s_skip H (wantN H rfl rfl rfl) rfl (lt_ rfl) fun a H => ?_
           iterate 3 refine s_skip H (wantU H rfl rfl) rfl (lt_ rfl) fun a H => ?_
           refine s_skip H (wantN H rfl rfl rfl) rfl (lt_ rfl) fun a H => s_pickT H rfl rfl rfl (lt_ rfl) fun a H => ?_
           replace h := h82 h69
           subst h
           exact h70 _ (H.weaken ⟨rfl, rfl, rfl, trivial⟩)
          ·replace H := H.ch (t := 41) (b := false) rfl h69
           replace h := h81 h69
           refine s_fld H (wantG H rfl rfl) rfl fld_39_0 (lt_ rfl) fun a H => ?_
           obtain ⟨l71, hc72, h⟩ := h
           refine s_load (v := (.i l71)) H (wantG H rfl rfl) rfl one_3 hc72 (lt_ rfl) fun a H => s_bin H (wantG H rfl rfl) rfl rfl r_eql (lt_ rfl) fun a H => s_move H (wantG H rfl rfl) rfl (lt_ rfl) fun a H => ?_
           obtain ⟨x77, h78, h79, h⟩ := h
           refine g_join (n := 78) [(49, (.bool x77)), (3, (.pointer (some (blk b10)))), (7, (.pointer (some (blk b45)))), (41, (.bool false))] (.succ (.succ (.succ (.succ (.zero _))))) ?_ ?_
           ·intro h74
            try clear h
            rcases Bool.eq_false_or_eq_true (decide (l71 = 3)) with h73 | h73
            ·replace H := H.ch (t := 45) (b := true) rfl h73
             replace h := h78 h73
             refine s_fld H (wantG H rfl rfl) rfl fld_39_2 (lt_ rfl) fun a H => s_fld H (wantG H rfl rfl) rfl fld_37_2 (lt_ rfl) fun a H => ?_
             obtain ⟨l75, hc76, h⟩ := h
             refine s_load (v := (.bool l75)) H (wantG H rfl rfl) rfl one_4 hc76 (lt_ rfl) fun a H => s_pickT H (wantG H rfl rfl) rfl rfl (lt_ rfl) fun a H => ?_
             subst h
             exact h74 _ (H.weaken ⟨rfl, rfl, rfl, rfl, trivial⟩)
            ·replace H := H.ch (t := 45) (b := false) rfl h73
             iterate 3 refine s_skip H (wantN H rfl rfl rfl) rfl (lt_ rfl) fun a H => ?_
             refine s_pickF H (wantG H rfl rfl) rfl rfl (lt_ rfl) fun a H => ?_
             replace h := h79 h73
             subst h
             exact h74 _ (H.weaken ⟨rfl, rfl, rfl, rfl, trivial⟩)
           ·clear H a
            clear h78 h79
            intro a H
            refine s_pickF H rfl rfl rfl (lt_ rfl) fun a H => ?_
            subst h
            exact h70 _ (H.weaken ⟨rfl, rfl, rfl, trivial⟩)
         ·clear H a
          clear h81 h82
          intro a H
          refine s_assign H rfl rfl (lt_ rfl) fun a H => c_nil <| hK66 _ _ <| c_seq fun K83 hK83 => c_reg <| s_fld H rfl rfl fld_39_0 (lt_ rfl) fun a H => ?_
          obtain ⟨l84, hc85, h⟩ := h
          refine s_load (v := (.i l84)) H rfl rfl one_3 hc85 (lt_ rfl) fun a H => s_bin H rfl rfl rfl r_eql (lt_ rfl) fun a H => s_move H rfl rfl (lt_ rfl) fun a H => ?_
          obtain ⟨x97, h98, h99, h⟩ := h
          refine g_join (n := 78) [(63, (.bool x97)), (7, (.pointer (some (blk b45)))), (8, (.bool x80))] (.succ (.succ (.succ (.succ (.succ (.succ (.succ (.succ (.succ (.zero _)))))))))) ?_ ?_
          ·intro h87
           try clear h
           rcases Bool.eq_false_or_eq_true (decide (l84 = 2)) with h86 | h86
           ·replace H := H.ch (t := 54) (b := true) rfl h86
            iterate 4 refine s_skip H (wantN H rfl rfl rfl) rfl (lt_ rfl) fun a H => ?_
            iterate 3 refine s_skip H (wantU H rfl rfl) rfl (lt_ rfl) fun a H => ?_
            refine s_skip H (wantN H rfl rfl rfl) rfl (lt_ rfl) fun a H => s_pickT H rfl rfl rfl (lt_ rfl) fun a H => ?_
            replace h := h99 h86
            subst h
            exact h87 _ (H.weaken ⟨rfl, rfl, rfl, trivial⟩)
           ·replace H := H.ch (t := 54) (b := false) rfl h86
            replace h := h98 h86
            refine s_fld H (wantG H rfl rfl) rfl fld_39_0 (lt_ rfl) fun a H => ?_
            obtain ⟨l88, hc89, h⟩ := h
            refine s_load (v := (.i l88)) H (wantG H rfl rfl) rfl one_3 hc89 (lt_ rfl) fun a H => s_bin H (wantG H rfl rfl) rfl rfl r_eql (lt_ rfl) fun a H => s_move H (wantG H rfl rfl) rfl (lt_ rfl) fun a H => ?_
            obtain ⟨x94, h95, h96, h⟩ := h
            refine g_join (n := 78) [(62, (.bool x94)), (7, (.pointer (some (blk b45)))), (8, (.bool x80)), (54, (.bool false))] (.succ (.succ (.succ (.succ (.zero _))))) ?_ ?_
            ·intro h91
             try clear h
             rcases Bool.eq_false_or_eq_true (decide (l88 = 3)) with h90 | h90
             ·replace H := H.ch (t := 58) (b := true) rfl h90
              replace h := h95 h90
              refine s_fld H (wantG H rfl rfl) rfl fld_39_2 (lt_ rfl) fun a H => s_fld H (wantG H rfl rfl) rfl fld_37_1 (lt_ rfl) fun a H => ?_
              obtain ⟨l92, hc93, h⟩ := h
              refine s_load (v := (.bool l92)) H (wantG H rfl rfl) rfl one_4 hc93 (lt_ rfl) fun a H => s_pickT H (wantG H rfl rfl) rfl rfl (lt_ rfl) fun a H => ?_
              subst h
              exact h91 _ (H.weaken ⟨rfl, rfl, rfl, rfl, trivial⟩)
             ·replace H := H.ch (t := 58) (b := false) rfl h90
              iterate 3 refine s_skip H (wantN H rfl rfl rfl) rfl (lt_ rfl) fun a H => ?_
              refine s_pickF H (wantG H rfl rfl) rfl rfl (lt_ rfl) fun a H => ?_
              replace h := h96 h90
              subst h
              exact h91 _ (H.weaken ⟨rfl, rfl, rfl, rfl, trivial⟩)
            ·clear H a
             clear h95 h96
             intro a H
             refine s_pickF H rfl rfl rfl (lt_ rfl) fun a H => ?_
             subst h
             exact h87 _ (H.weaken ⟨rfl, rfl, rfl, trivial⟩)
          ·clear H a
           clear h98 h99
           intro a H
           refine s_assign H rfl rfl (lt_ rfl) fun a H => c_nil <| hK83 _ _ <| c_seq fun K100 hK100 => c_reg <| s_move H rfl rfl (lt_ rfl) fun a H => s_move H rfl rfl (lt_ rfl) fun a H => ?_
           obtain ⟨x105, h106, h107, h⟩ := h
           refine g_join (n := 78) [(69, (.bool x105)), (7, (.pointer (some (blk b45)))), (9, (.bool x97))] (.succ (.succ (.succ (.succ (.zero _))))) ?_ ?_
           ·intro h102
            try clear h
            rcases Bool.eq_false_or_eq_true x80 with h101 | h101
            ·replace H := H.ch (t := 65) (b := true) rfl h101
             replace h := h106 h101
             refine s_fld H (wantG H rfl rfl) rfl fld_37_2 (lt_ rfl) fun a H => ?_
             obtain ⟨l103, hc104, h⟩ := h
             refine s_load (v := (.bool l103)) H (wantG H rfl rfl) rfl one_4 hc104 (lt_ rfl) fun a H => s_un H (wantG H rfl rfl) rfl r_not (lt_ rfl) fun a H => s_pickT H rfl rfl rfl (lt_ rfl) fun a H => ?_
             subst h
             exact h102 _ (H.weaken ⟨rfl, rfl, rfl, trivial⟩)
            ·replace H := H.ch (t := 65) (b := false) rfl h101
             iterate 3 refine s_skip H (wantN H rfl rfl rfl) rfl (lt_ rfl) fun a H => ?_
             refine s_pickF H rfl rfl rfl (lt_ rfl) fun a H => ?_
             replace h := h107 h101
             subst h
             exact h102 _ (H.weaken ⟨rfl, rfl, rfl, trivial⟩)
           ·clear H a
            clear h106 h107
            intro a H
            refine s_move H rfl rfl (lt_ rfl) fun a H => ?_
            obtain ⟨x117, h118, h119, h⟩ := h
            refine g_join (n := 78) [(77, (.bool x117))] (.succ (.succ (.succ (.succ (.succ (.succ (.succ (.zero _)))))))) ?_ ?_
            ·intro h109
             try clear h
             rcases Bool.eq_false_or_eq_true x105 with h108 | h108
             ·replace H := H.ch (t := 70) (b := true) rfl h108
              refine s_skip H (wantN H rfl rfl rfl) rfl (lt_ rfl) fun a H => s_skip H (wantN H rfl rfl rfl) rfl (lt_ rfl) fun a H => ?_
              iterate 3 refine s_skip H (wantU H rfl rfl) rfl (lt_ rfl) fun a H => ?_
              refine s_skip H (wantN H rfl rfl rfl) rfl (lt_ rfl) fun a H => s_pickT H rfl rfl rfl (lt_ rfl) fun a H => ?_
              replace h := h119 h108
              subst h
              exact h109 _ (H.weaken ⟨rfl, trivial⟩)
             ·replace H := H.ch (t := 70) (b := false) rfl h108
              replace h := h118 h108
              refine s_move H (wantG H rfl rfl) rfl (lt_ rfl) fun a H => s_move H (wantG H rfl rfl) rfl (lt_ rfl) fun a H => ?_
              obtain ⟨x114, h115, h116, h⟩ := h
              refine g_join (n := 78) [(76, (.bool x114)), (70, (.bool false))] (.succ (.succ (.succ (.succ (.zero _))))) ?_ ?_
              ·intro h111
               try clear h
               rcases Bool.eq_false_or_eq_true x97 with h110 | h110
               ·replace H := H.ch (t := 72) (b := true) rfl h110
                replace h := h115 h110
                refine s_fld H (wantG H rfl rfl) rfl fld_37_1 (lt_ rfl) fun a H => ?_
                obtain ⟨l112, hc113, h⟩ := h
                refine s_load (v := (.bool l112)) H (wantG H rfl rfl) rfl one_4 hc113 (lt_ rfl) fun a H => s_un H (wantG H rfl rfl) rfl r_not (lt_ rfl) fun a H => s_pickT H (wantG H rfl rfl) rfl rfl (lt_ rfl) fun a H => ?_
                subst h
                exact h111 _ (H.weaken ⟨rfl, rfl, trivial⟩)
               ·replace H := H.ch (t := 72) (b := false) rfl h110
                iterate 3 refine s_skip H (wantN H rfl rfl rfl) rfl (lt_ rfl) fun a H => ?_
                refine s_pickF H (wantG H rfl rfl) rfl rfl (lt_ rfl) fun a H => ?_
                replace h := h116 h110
                subst h
                exact h111 _ (H.weaken ⟨rfl, rfl, trivial⟩)
              ·clear H a
               clear h115 h116
               intro a H
               refine s_pickF H rfl rfl rfl (lt_ rfl) fun a H => ?_
               subst h
               exact h109 _ (H.weaken ⟨rfl, trivial⟩)
            ·clear H a
             clear h118 h119
             intro a H
             refine s_assign H rfl rfl (lt_ rfl) fun a H => s_assign H rfl rfl (lt_ rfl) fun a H => c_nil <| hK100 _ _ <| c_ret ?_
             exact e_ret2 H rfl rfl rfl h

theorem sim_sherdlaw15_sameEntry (C1 C2 : Int) (F3 H4 : Bool) (D5 : Slc) (C6 C7 : Int) (F8 H9 : Bool) (D10 : Slc) (w : World) (Q : Ending → World → Prop) (h : vc_sherdlaw15_sameEntry C1 C2 F3 H4 D5 C6 C7 F8 H9 D10 w Q) : Calls PP F_sherdlaw15_sameEntry #[(.agg #[(.i C1), (.i C2), (.bool F3), (.bool H4), D5.v]), (.agg #[(.i C6), (.i C7), (.bool F8), (.bool H9), D10.v])] w Q := by
 unfold vc_sherdlaw15_sameEntry at h
 refine enter (n := 33) Try.func40 rfl rfl (Nat.le_of_ble_eq_true rfl) fun a H => c_seq fun K11 hK11 => c_reg ?_
 replace h := h.get
 obtain ⟨b12, w13, n14, h⟩ := h
 refine s_box H rfl rfl (lt_ rfl) ?_
 rw [← n14.at_]
 clear H a
 intro a H
 refine n14.go ?_
 replace h := h.get
 obtain ⟨b15, w16, n17, h⟩ := h
 refine s_box H rfl rfl (lt_ rfl) ?_
 rw [← n17.at_]
 clear H a
 intro a H
 refine n17.go <| s_assign H rfl rfl (lt_ rfl) fun a H => c_nil <| hK11 _ _ <| c_seq fun K18 hK18 => c_reg <| s_fld H rfl rfl fld_37_0 (lt_ rfl) fun a H => s_loadN (l := [(.i C1), (.i C2)]) H rfl rfl agg_29 rfl ⟨(n17.old (n14.cell (i := 0) rfl)), (n17.old (n14.cell (i := 1) rfl)), trivial⟩ (lt_ rfl) fun a H => s_fld H rfl rfl fld_37_0 (lt_ rfl) fun a H => ?_
 refine s_loadN (l := [(.i C6), (.i C7)]) H rfl rfl agg_29 rfl ⟨(n17.cell (i := 0) rfl), (n17.cell (i := 1) rfl), trivial⟩ (lt_ rfl) fun a H => s_bin H rfl rfl rfl (r_eqst eqg_29 (eqst_29 0) rfl) (lt_ rfl) fun a H => s_move H rfl rfl (lt_ rfl) fun a H => g_join (n := 33) [(16, (.bool ((decide (C1 = C6) && (decide (C2 = C7))) && (decide (F3 = F8))))), (2, (.pointer (some (blk b12)))), (3, (.pointer (some (blk b15))))] (.succ (.succ (.succ (.succ (.succ (.succ (.zero _))))))) ?_ ?_
 ·intro h20
  try clear h
  rcases Bool.eq_false_or_eq_true (decide (C1 = C6) && (decide (C2 = C7))) with h19 | h19
  ·replace H := H.ch (t := 10) (b := true) rfl h19
   refine s_fld H (wantG H rfl rfl) rfl fld_37_1 (lt_ rfl) fun a H => s_load (v := (.bool F3)) H (wantG H rfl rfl) rfl one_4 (n17.old (n14.cell (i := 2) rfl)) (lt_ rfl) fun a H => s_fld H (wantG H rfl rfl) rfl fld_37_1 (lt_ rfl) fun a H => s_load (v := (.bool F8)) H (wantG H rfl rfl) rfl one_4 (n17.cell (i := 2) rfl) (lt_ rfl) fun a H => s_bin H (wantG H rfl rfl) rfl rfl (r_eqB bool_4) (lt_ rfl) fun a H => s_pickT H rfl rfl rfl (lt_ rfl) fun a H => ?_
   exact h20 _ (H.weaken ⟨by rw [h19]; rfl, rfl, rfl, trivial⟩)
  ·replace H := H.ch (t := 10) (b := false) rfl h19
   iterate 5 refine s_skip H (wantN H rfl rfl rfl) rfl (lt_ rfl) fun a H => ?_
   refine s_pickF H rfl rfl rfl (lt_ rfl) fun a H => ?_
   exact h20 _ (H.weaken ⟨by rw [h19]; rfl, rfl, rfl, trivial⟩)
 ·clear H a
  intro a H
  refine s_move H rfl rfl (lt_ rfl) fun a H => g_join (n := 33) [(23, (.bool (((decide (C1 = C6) && (decide (C2 = C7))) && (decide (F3 = F8))) && (decide (H4 = H9))))), (2, (.pointer (some (blk b12)))), (3, (.pointer (some (blk b15))))] (.succ (.succ (.succ (.succ (.succ (.succ (.zero _))))))) ?_ ?_
  ·intro h22
   try clear h
   rcases Bool.eq_false_or_eq_true ((decide (C1 = C6) && (decide (C2 = C7))) && (decide (F3 = F8))) with h21 | h21
   ·replace H := H.ch (t := 17) (b := true) rfl h21
    refine s_fld H (wantG H rfl rfl) rfl fld_37_2 (lt_ rfl) fun a H => s_load (v := (.bool H4)) H (wantG H rfl rfl) rfl one_4 (n17.old (n14.cell (i := 3) rfl)) (lt_ rfl) fun a H => s_fld H (wantG H rfl rfl) rfl fld_37_2 (lt_ rfl) fun a H => s_load (v := (.bool H9)) H (wantG H rfl rfl) rfl one_4 (n17.cell (i := 3) rfl) (lt_ rfl) fun a H => s_bin H (wantG H rfl rfl) rfl rfl (r_eqB bool_4) (lt_ rfl) fun a H => s_pickT H rfl rfl rfl (lt_ rfl) fun a H => ?_
    exact h22 _ (H.weaken ⟨by rw [h21]; rfl, rfl, rfl, trivial⟩)
   ·replace H := H.ch (t := 17) (b := false) rfl h21
    iterate 5 refine s_skip H (wantN H rfl rfl rfl) rfl (lt_ rfl) fun a H => ?_
    refine s_pickF H rfl rfl rfl (lt_ rfl) fun a H => ?_
    exact h22 _ (H.weaken ⟨by rw [h21]; rfl, rfl, rfl, trivial⟩)
  ·clear H a
   intro a H
   refine s_move H rfl rfl (lt_ rfl) fun a H => ?_
   obtain ⟨x29, h30, h31, h⟩ := h
   refine g_join (n := 33) [(32, (.bool x29))] (.succ (.succ (.succ (.succ (.succ (.succ (.succ (.succ (.zero _))))))))) ?_ ?_
   ·intro h24
    try clear h
    rcases Bool.eq_false_or_eq_true (((decide (C1 = C6) && (decide (C2 = C7))) && (decide (F3 = F8))) && (decide (H4 = H9))) with h23 | h23
    ·replace H := H.ch (t := 24) (b := true) rfl h23
     replace h := h30 h23
     refine s_fld H (wantG H rfl rfl) rfl fld_37_3 (lt_ rfl) fun a H => s_load (v := D5.v) H (wantG H rfl rfl) rfl one_35 (n17.old (n14.cell (i := 4) rfl)) (lt_ rfl) fun a H => ?_
     obtain ⟨s25, h26, h⟩ := h
     refine s_cv H (wantG H rfl rfl) rfl h26 (lt_ rfl) ?_
     clear H a h26
     intro a H
     refine s_fld H (wantG H rfl rfl) rfl fld_37_3 (lt_ rfl) fun a H => s_load (v := D10.v) H (wantG H rfl rfl) rfl one_35 (n17.cell (i := 4) rfl) (lt_ rfl) fun a H => ?_
     obtain ⟨s27, h28, h⟩ := h
     refine s_cv H (wantG H rfl rfl) rfl h28 (lt_ rfl) ?_
     clear H a h28
     intro a H
     refine s_bin H (wantG H rfl rfl) rfl rfl r_eqlS (lt_ rfl) fun a H => s_pickT H rfl rfl rfl (lt_ rfl) fun a H => ?_
     subst h
     exact h24 _ (H.weaken ⟨rfl, trivial⟩)
    ·replace H := H.ch (t := 24) (b := false) rfl h23
     iterate 7 refine s_skip H (wantN H rfl rfl rfl) rfl (lt_ rfl) fun a H => ?_
     refine s_pickF H rfl rfl rfl (lt_ rfl) fun a H => ?_
     replace h := h31 h23
     subst h
     exact h24 _ (H.weaken ⟨rfl, trivial⟩)
   ·clear H a
    clear h30 h31
    intro a H
    refine s_assign H rfl rfl (lt_ rfl) fun a H => c_nil <| hK18 _ _ <| c_ret ?_
    exact e_ret1 H rfl rfl h

theorem sim_table_Table_Keys (t1 : Option Addr) (w : World) (Q : Ending → World → Prop) (h : vc_table_Table_Keys t1 w Q) : Calls PP F_table_Table_Keys #[(.pointer t1)] w Q := by
 unfold vc_table_Table_Keys at h
 refine enter (n := 23) Try.func41 rfl rfl (Nat.le_of_ble_eq_true rfl) fun a H => c_seq fun K2 hK2 => c_reg <| s_assign H rfl rfl (lt_ rfl) fun a H => c_nil <| hK2 _ _ <| c_seq fun K3 hK3 => c_seq fun K4 hK4 => c_reg <| s_move H rfl rfl (lt_ rfl) fun a H => s_bin H rfl rfl rfl (r_eqP0 ptr_24) (lt_ rfl) fun a H => c_nil <| hK4 _ _ <| c_cond H rfl (fun h5 => ?_) (fun h5 => ?_)
 ·replace h := h.1 h5
  refine c_seq fun K6 hK6 => c_reg <| s_assign H rfl rfl (lt_ rfl) fun a H => c_nil <| hK6 _ _ <| c_ret ?_
  exact e_ret1 H rfl rfl h
 ·replace h := h.2 h5
  refine c_skip <| hK3 _ _ <| c_seq fun K7 hK7 => c_reg <| s_assign H rfl rfl (lt_ rfl) fun a H => c_nil <| hK7 _ _ <| c_seq fun K8 hK8 => c_seq fun K9 hK9 => c_reg <| s_move H rfl rfl (lt_ rfl) fun a H => ?_
  obtain ⟨a10, h47, h⟩ := h
  revert H
  subst h47
  intro H
  refine s_nil H rfl rfl (lt_ rfl) fun a H => s_fld H rfl rfl fld_66_1 (lt_ rfl) fun a H => ?_
  obtain ⟨l11, hc12, h⟩ := h
  refine s_load (v := (.map l11)) H rfl rfl one_64 hc12 (lt_ rfl) fun a H => ?_
  obtain ⟨i13, w14, h15, h⟩ := h
  refine s_rng H rfl rfl h15 (lt_ rfl) ?_
  clear H a h15
  intro a H
  refine c_nil <| hK9 _ _ <| c_block ?_
  obtain ⟨I18, m19, h45, h46⟩ := h
  refine c_loop (σ := Slc) (fun z w => I18 z w) (fun z w => m19 z w) (fun z => [(3, z.v), (11, (.pointer (some (blk i13))))]) Slc.nil h45 (H.weaken ⟨rfl, rfl, trivial⟩) ?_
  clear H h45
  rintro l16 a w17 h H
  replace h := h46 l16 w17 h
  clear h46
  replace H : Has 23 [] a [(3, l16.v), (11, (.pointer (some (blk i13))))] := H
  refine c_seq fun K20 hK20 => c_reg ?_
  obtain ⟨b21, r22, w23, h24, h⟩ := h
  refine s_nxt H rfl rfl h24 (lt_ rfl) ?_
  clear H a h24
  intro a H
  refine s_ext H rfl rfl rfl (lt_ rfl) fun a H => c_nil <| hK20 _ _ <| c_seq fun K25 hK25 => c_cond H rfl (fun h26 => ?_) (fun h26 => ?_)
  ·replace h := h.1 h26
   refine c_skip <| hK25 _ _ <| c_block <| c_seq fun K27 hK27 => c_reg ?_
   obtain ⟨_, h31, k28, e29, rfl, h⟩ := h
   refine s_etr H rfl rfl h31 (lt_ rfl) ?_
   clear H a h31
   intro a H
   refine s_ext H rfl rfl rfl (lt_ rfl) fun a H => s_assign H rfl rfl (lt_ rfl) fun a H => c_nil <| hK27 _ _ <| c_reg <| s_move H rfl rfl (lt_ rfl) fun a H => s_move H rfl rfl (lt_ rfl) fun a H => ?_
   replace h := h.get
   obtain ⟨b32, w33, n34, h⟩ := h
   refine s_bslc H rfl (by rw [H.parts (vs := [(0, (.string k28))]) rfl]; exact bs_72_1_s0 w23 k28) (lt_ rfl) ?_
   rw [← n34.at_]
   clear H a
   intro a H
   refine n34.go ?_
   obtain ⟨s35, w36, h37, h⟩ := h
   refine s_blt H rfl (H.args (vs := [l16.v, (Slc.v (Slc.mk (some (blk b32)) 1 1))]) rfl) (lt_ rfl) (fun cs => b_app (z := s35) h37) ?_
   clear H a h37
   intro a H
   refine s_assign H rfl rfl (lt_ rfl) fun a H => c_nil <| Exists.intro s35 ⟨h.1, h.2, H.weaken ⟨rfl, rfl, trivial⟩⟩
  ·replace h := h.2 h26
   refine c_exit ?_
   first | (simp only [Exit.then, Exit.inBlock, ↓reduceIte]; fail_if_success simp only [Nat.reduceEqDiff]) | simp only [Exit.then, Exit.inBlock, ↓reduceIte, Nat.reduceEqDiff]
   refine hK8 _ _ <| c_seq fun K38 hK38 => c_reg <| s_move H rfl rfl (lt_ rfl) fun a H => s_call H rfl body_52 (H.args (vs := [l16.v]) rfl) (lt_ rfl) h ?_ (fun c w' h H => e_panic (P := PP) (fn := Try.f41) H h)
   clear H h a
   rintro _ w39 a ⟨rfl, h⟩ H
   refine c_nil <| hK38 _ _ <| c_seq fun K40 hK40 => c_reg <| s_move H rfl rfl (lt_ rfl) fun a H => s_assign H rfl rfl (lt_ rfl) fun a H => c_nil <| hK40 _ _ <| c_ret ?_
   exact e_ret1 H rfl rfl h

theorem sim_tag_Valid (C1 C2 : Int) (w : World) (Q : Ending → World → Prop) (h : vc_tag_Valid C1 C2 w Q) : Calls PP F_tag_Valid #[(.agg #[(.i C1), (.i C2)])] w Q := by
 unfold vc_tag_Valid at h
 refine enter (n := 9) Try.func42 rfl rfl (Nat.le_of_ble_eq_true rfl) fun a H => c_seq fun K3 hK3 => c_reg ?_
 replace h := h.get
 obtain ⟨b4, w5, n6, h⟩ := h
 refine s_box H rfl rfl (lt_ rfl) ?_
 rw [← n6.at_]
 clear H a
 intro a H
 refine n6.go <| s_assign H rfl rfl (lt_ rfl) fun a H => c_nil <| hK3 _ _ <| c_seq fun K7 hK7 => c_reg <| s_loadN (l := [(.i C1), (.i C2)]) H rfl rfl agg_29 rfl ⟨(n6.cell (i := 0) rfl), (n6.cell (i := 1) rfl), trivial⟩ (lt_ rfl) fun a H => s_call H rfl body_43 (H.args (vs := [(.agg #[(.i C1), (.i C2)])]) rfl) (lt_ rfl) h ?_ (fun c w' h H => e_panic (P := PP) (fn := Try.f42) H h)
 clear H h a
 rintro _ w8 a ⟨Z9, rfl, h⟩ H
 refine s_move H rfl rfl (lt_ rfl) fun a H => ?_
 obtain ⟨R12, h, h25⟩ := h
 refine g_joinW (n := 9) R12 (fun x13 => [(8, (.bool x13))]) (.succ (.succ (.succ (.zero _)))) ?_ ?_
 ·intro h11
  clear h25
  rcases Bool.eq_false_or_eq_true Z9 with h10 | h10
  ·replace H := H.ch (t := 5) (b := true) rfl h10
   replace h := h.2 h10
   refine s_skip H (wantN H rfl rfl rfl) rfl (lt_ rfl) fun a H => s_skip H (wantN H rfl rfl rfl) rfl (lt_ rfl) fun a H => s_pickT H rfl rfl rfl (lt_ rfl) fun a H => ?_
   exact h11 _ _ _ h (H.weaken ⟨rfl, trivial⟩)
  ·replace H := H.ch (t := 5) (b := false) rfl h10
   replace h := h.1 h10
   obtain ⟨C15, hc16, C17, hc18, h⟩ := h
   refine s_loadN (l := [(.i C15), (.i C17)]) H (wantG H rfl rfl) rfl agg_29 rfl ⟨hc16, hc18, trivial⟩ (lt_ rfl) fun a H => s_call H (wantG H rfl rfl) body_53 (H.args (vs := [(.agg #[(.i C15), (.i C17)])]) rfl) (lt_ rfl) h ?_ (fun c w' h H => e_panic (P := PP) (fn := Try.f42) H h)
   clear H h a
   rintro _ w19 a ⟨p20, rfl, h⟩ H
   refine s_pickF H rfl rfl rfl (lt_ rfl) fun a H => ?_
   exact h11 _ _ _ h (H.weaken ⟨rfl, trivial⟩)
 ·clear H a h
  intro a x13 w14 h H
  replace h := h25 x13 w14 h
  clear h25
  refine s_assign H rfl rfl (lt_ rfl) fun a H => c_nil <| hK7 _ _ <| c_ret ?_
  exact e_ret1 H rfl rfl h

theorem sim_tag_Zero (C1 C2 : Int) (w : World) (Q : Ending → World → Prop) (h : vc_tag_Zero C1 C2 w Q) : Calls PP F_tag_Zero #[(.agg #[(.i C1), (.i C2)])] w Q := by
 unfold vc_tag_Zero at h
 refine enter (n := 6) Try.func43 rfl rfl (Nat.le_of_ble_eq_true rfl) fun a H => c_seq fun K3 hK3 => c_reg ?_
 replace h := h.get
 obtain ⟨b4, w5, n6, h⟩ := h
 refine s_box H rfl rfl (lt_ rfl) ?_
 rw [← n6.at_]
 clear H a
 intro a H
 refine n6.go <| s_assign H rfl rfl (lt_ rfl) fun a H => c_nil <| hK3 _ _ <| c_seq fun K7 hK7 => c_reg <| s_loadN (l := [(.i C1), (.i C2)]) H rfl rfl agg_29 rfl ⟨(n6.cell (i := 0) rfl), (n6.cell (i := 1) rfl), trivial⟩ (lt_ rfl) fun a H => s_build H rfl (by rw [H.parts (vs := []) rfl]; exact bd_29 w5) (lt_ rfl) fun a H => s_bin H rfl rfl rfl (r_eqst eqg_29 (eqst_29 0) rfl) (lt_ rfl) fun a H => s_assign H rfl rfl (lt_ rfl) fun a H => c_nil <| hK7 _ _ <| c_ret ?_
 exact e_ret1 H rfl rfl h

theorem sim_slices_Clone (s1 : Slc) (w : World) (Q : Ending → World → Prop) (h : vc_slices_Clone s1 w Q) : Calls PP F_slices_Clone #[s1.v] w Q := by
 unfold vc_slices_Clone at h
 refine enter (n := 8) Try.func44 rfl rfl (Nat.le_of_ble_eq_true rfl) fun a H => c_seq fun K2 hK2 => c_reg <| s_assign H rfl rfl (lt_ rfl) fun a H => c_nil <| hK2 _ _ <| c_seq fun K3 hK3 => c_seq fun K4 hK4 => c_reg <| s_move H rfl rfl (lt_ rfl) fun a H => s_bin H rfl rfl rfl (r_eqS0 (z := s1) sl_35) (lt_ rfl) fun a H => c_nil <| hK4 _ _ <| c_cond H rfl (fun h5 => ?_) (fun h5 => ?_)
 ·replace h := h.1 h5
  refine c_seq fun K6 hK6 => c_reg <| s_assign H rfl rfl (lt_ rfl) fun a H => c_nil <| hK6 _ _ <| c_ret ?_
  exact e_ret1 H rfl rfl h
 ·replace h := h.2 h5
  refine c_skip <| hK3 _ _ <| c_seq fun K7 hK7 => c_reg ?_
  replace h := h.get
  obtain ⟨b8, w9, n10, h⟩ := h
  refine s_bslc H rfl (by rw [H.parts (vs := []) rfl]; exact bs_35_0 w) (lt_ rfl) ?_
  rw [← n10.at_]
  clear H a
  intro a H
  refine n10.go <| s_move H rfl rfl (lt_ rfl) fun a H => ?_
  obtain ⟨s11, w12, h13, h⟩ := h
  refine s_blt H rfl (H.args (vs := [(Slc.v (Slc.mk (some (blk b8)) 0 0)), s1.v]) rfl) (lt_ rfl) (fun cs => b_app (z := s11) h13) ?_
  clear H a h13
  intro a H
  refine s_assign H rfl rfl (lt_ rfl) fun a H => c_nil <| hK7 _ _ <| c_ret ?_
  exact e_ret1 H rfl rfl h

theorem sim_cmp_isNaN_int64 (x1 : Int) (w : World) (Q : Ending → World → Prop) (h : vc_cmp_isNaN_int64 x1 w Q) : Calls PP F_cmp_isNaN_int64 #[(.i x1)] w Q := by
 unfold vc_cmp_isNaN_int64 at h
 refine enter (n := 6) Try.func47 rfl rfl (Nat.le_of_ble_eq_true rfl) fun a H => c_seq fun K2 hK2 => c_reg <| s_assign H rfl rfl (lt_ rfl) fun a H => c_nil <| hK2 _ _ <| c_seq fun K3 hK3 => c_reg <| s_move H rfl rfl (lt_ rfl) fun a H => s_move H rfl rfl (lt_ rfl) fun a H => s_bin H rfl rfl rfl r_neq (lt_ rfl) fun a H => s_assign H rfl rfl (lt_ rfl) fun a H => c_nil <| hK3 _ _ <| c_ret ?_
 exact e_ret1 H rfl rfl h

theorem sim_cmp_isNaN_int (x1 : Int) (w : World) (Q : Ending → World → Prop) (h : vc_cmp_isNaN_int x1 w Q) : Calls PP F_cmp_isNaN_int #[(.i x1)] w Q := by
 unfold vc_cmp_isNaN_int at h
 refine enter (n := 6) Try.func48 rfl rfl (Nat.le_of_ble_eq_true rfl) fun a H => c_seq fun K2 hK2 => c_reg <| s_assign H rfl rfl (lt_ rfl) fun a H => c_nil <| hK2 _ _ <| c_seq fun K3 hK3 => c_reg <| s_move H rfl rfl (lt_ rfl) fun a H => s_move H rfl rfl (lt_ rfl) fun a H => s_bin H rfl rfl rfl r_neq (lt_ rfl) fun a H => s_assign H rfl rfl (lt_ rfl) fun a H => c_nil <| hK3 _ _ <| c_ret ?_
 exact e_ret1 H rfl rfl h

theorem sim_slices_MaxFunc (x1 : Slc) (c2 : Value) (w : World) (Q : Ending → World → Prop) (h : vc_slices_MaxFunc x1 c2 w Q) : Calls PP F_slices_MaxFunc #[x1.v, c2] w Q := by
 unfold vc_slices_MaxFunc at h
 refine enter (n := 33) Try.func49 rfl rfl (Nat.le_of_ble_eq_true rfl) fun a H => c_seq fun K3 hK3 => c_reg ?_
 replace h := h.get
 obtain ⟨b4, w5, n6, h⟩ := h
 refine s_alloc H rfl zero_29 (lt_ rfl) ?_
 rw [← n6.at_]
 clear H a
 intro a H
 refine n6.go <| c_nil <| hK3 _ _ <| c_seq fun K7 hK7 => ?_
 obtain ⟨R8, h, h80⟩ := h
 have h77 : ∀ (a : Act) (w9 : World), R8 w9 → Has 33 [] a [(0, x1.v), (1, c2), (4, (.pointer (some (blk b4))))] → K7 a w9 := by
  clear h
  intro a w9 h H
  replace h := h80 w9 h
  refine hK7 _ _ <| c_seq fun K10 hK10 => c_reg <| s_move H rfl rfl (lt_ rfl) fun a H => ?_
  obtain ⟨a11, h12, h13, h14, h⟩ := h
  refine s_idxS (s := x1) H rfl rfl rfl slc_82 h12 h13 h14 (lt_ rfl) fun a H => ?_
  obtain ⟨C15, hc16, C17, hc18, h⟩ := h
  refine s_loadN (l := [(.i C15), (.i C17)]) H rfl rfl agg_29 rfl ⟨hc16, hc18, trivial⟩ (lt_ rfl) fun a H => ?_
  replace h := h.get
  obtain ⟨b19, w20, n21, h⟩ := h
  refine s_alloc H rfl zero_29 (lt_ rfl) ?_
  rw [← n21.at_]
  clear H a
  intro a H
  refine n21.go <| s_stoN (l := [(.i C15), (.i C17)]) H rfl rfl rfl rfl agg_29 rfl rfl h ?_
  clear h H
  intro w22 h H
  refine c_nil <| hK10 _ _ <| c_seq fun K23 hK23 => c_seq fun K24 hK24 => c_reg <| s_assign H rfl rfl (lt_ rfl) fun a H => c_nil <| hK24 _ _ <| c_block ?_
  obtain ⟨I27, m28, h75, h76⟩ := h
  refine c_loop (σ := Int) (fun z w => I27 z w) (fun z w => m28 z w) (fun z => [(0, x1.v), (1, c2), (4, (.pointer (some (blk b4)))), (5, (.pointer (some (blk b19)))), (6, (.i z))]) 1 h75 (H.weaken ⟨rfl, rfl, rfl, rfl, rfl, trivial⟩) ?_
  clear H h75
  rintro i25 a w26 h H
  replace h := h76 i25 w26 h
  clear h76
  replace H : Has 33 [] a [(0, x1.v), (1, c2), (4, (.pointer (some (blk b4)))), (5, (.pointer (some (blk b19)))), (6, (.i i25))] := H
  refine c_seq fun K29 hK29 => c_seq fun K30 hK30 => c_reg <| s_move H rfl rfl (lt_ rfl) fun a H => s_move H rfl rfl (lt_ rfl) fun a H => s_blt H rfl (H.args (vs := [x1.v]) rfl) (lt_ rfl) (fun cs => b_lenS (z := x1) sl_82) fun a H => s_bin H rfl rfl rfl r_lss (lt_ rfl) fun a H => c_nil <| hK30 _ _ <| c_cond H rfl (fun h31 => ?_) (fun h31 => ?_)
  ·replace h := h.1 h31
   refine c_skip <| hK29 _ _ <| c_seq fun K32 hK32 => ?_
   obtain ⟨R33, h, h64⟩ := h
   have h35 : ∀ (a : Act) (w34 : World), R33 w34 → Has 33 [] a [(0, x1.v), (1, c2), (4, (.pointer (some (blk b4)))), (5, (.pointer (some (blk b19)))), (6, (.i i25))] → K32 a w34 := by
    clear h
    intro a w34 h H
    replace h := h64 w34 h
    refine hK32 _ _ <| c_reg <| s_move H rfl rfl (lt_ rfl) fun a H => s_bin H rfl rfl rfl r_add (lt_ rfl) fun a H => s_assign H rfl rfl (lt_ rfl) fun a H => c_nil <| Exists.intro (wr .i64 (i25 + 1)) ⟨h.1, h.2, H.weaken ⟨rfl, rfl, rfl, rfl, rfl, trivial⟩⟩
   clear h64
   refine c_block <| c_seq fun K36 hK36 => ?_
   replace H := H.weaken (L' := [(0, x1.v), (1, c2), (4, (.pointer (some (blk b4)))), (5, (.pointer (some (blk b19)))), (6, (.i i25))]) ⟨rfl, rfl, rfl, rfl, rfl, trivial⟩
   obtain ⟨a37, h38, h39, h40, C41, hc42, C43, hc44, C45, hc46, C47, hc48, h⟩ := h
   refine c_any (V := [(0, c2), (1, x1.v), (2, (.i i25)), (3, (.pointer (some (a37.add (Int.toNat (i25) * 2))))), (4, (.agg #[(.i C41), (.i C43)])), (5, (.agg #[(.i C45), (.i C47)]))]) (⟨[[], [], [], [1, 2], [3], [], [0, 4, 5], [6]], [some 20, some 21, some 22, some 23, some 24, some 25, some 26, some 27], [6], [0, 0, 0, 0, 0, 0, 0, 1], [0, 0, 0, 0, 0, 0, 1, 1]⟩ : Rg) [(0, x1.v), (1, c2), (4, (.pointer (some (blk b4)))), (5, (.pointer (some (blk b19)))), (6, (.i i25))] mixed (by kernel_rfl) H ?_
   refine Stg.eff [0, 1, 2, 3, 4, 5] (by kernel_rfl) rfl (.cons ?_ (.cons ?_ (.cons ?_ (.cons ?_ (.cons ?_ (.cons ?_ .nil)))))) ?_
   ·refine Ans.mk rfl rfl fun a H => s_move H rfl rfl (lt_ rfl) fun a H => ?_
    exact Ans.fin H rfl
   ·refine Ans.mk rfl rfl fun a H => s_move H rfl rfl (lt_ rfl) fun a H => ?_
    exact Ans.fin H rfl
   ·refine Ans.mk rfl rfl fun a H => s_move H rfl rfl (lt_ rfl) fun a H => ?_
    exact Ans.fin H rfl
   ·refine Ans.mk rfl rfl fun a H => s_idxS (s := x1) H rfl rfl rfl slc_82 h38 h39 h40 (lt_ rfl) fun a H => ?_
    exact Ans.fin H rfl
   ·refine Ans.mk rfl rfl fun a H => s_loadN (l := [(.i C41), (.i C43)]) H rfl rfl agg_29 rfl ⟨hc42, hc44, trivial⟩ (lt_ rfl) fun a H => ?_
    exact Ans.fin H rfl
   ·refine Ans.mk rfl rfl fun a H => s_loadN (l := [(.i C45), (.i C47)]) H rfl rfl agg_29 rfl ⟨hc46, hc48, trivial⟩ (lt_ rfl) fun a H => ?_
    exact Ans.fin H rfl
   ·intro a H
    replace H := H.weaken (L' := [(20, c2), (24, (.agg #[(.i C41), (.i C43)])), (25, (.agg #[(.i C45), (.i C47)]))]) ⟨rfl, rfl, rfl, trivial⟩
    refine s_callV H rfl rfl (H.args (vs := [(.agg #[(.i C41), (.i C43)]), (.agg #[(.i C45), (.i C47)])]) rfl) (lt_ rfl) h ?_ (fun c w' h H => e_panic (P := PP) (fn := Try.f49) H h)
    clear H h a
    rintro _ w49 a ⟨r50, rfl, h⟩ H
    refine c_nil <| effQ.go [(7, (.bool (decide (0 < r50))))] H rfl rfl <| Stg.fin [7] (by kernel_rfl) (.cons ?_ .nil) ?_
    ·refine Ans.mk rfl rfl fun a H => s_bin H rfl rfl rfl r_gtr (lt_ rfl) fun a H => ?_
     exact Ans.fin H rfl
    ·intro a H
     replace H := H.weaken (L' := [(0, x1.v), (1, c2), (4, (.pointer (some (blk b4)))), (5, (.pointer (some (blk b19)))), (6, (.i i25)), (27, (.bool (decide (0 < r50))))]) ⟨rfl, rfl, rfl, rfl, rfl, rfl, trivial⟩
     refine hK36 _ _ <| c_cond H rfl (fun h51 => ?_) (fun h51 => ?_)
     ·replace h := h.1 h51
      refine c_reg <| s_move H rfl rfl (lt_ rfl) fun a H => s_move H rfl rfl (lt_ rfl) fun a H => ?_
      obtain ⟨a52, h53, h54, h55, h⟩ := h
      refine s_idxS (s := x1) H rfl rfl rfl slc_82 h53 h54 h55 (lt_ rfl) fun a H => ?_
      obtain ⟨C56, hc57, C58, hc59, h⟩ := h
      refine s_loadN (l := [(.i C56), (.i C58)]) H rfl rfl agg_29 rfl ⟨hc57, hc59, trivial⟩ (lt_ rfl) fun a H => s_stoN (l := [(.i C56), (.i C58)]) H rfl rfl rfl rfl agg_29 rfl rfl h ?_
      clear h H
      intro w60 h H
      refine c_nil ?_
      exact h35 _ _ h (H.weaken ⟨rfl, rfl, rfl, rfl, rfl, trivial⟩)
     ·replace h := h.2 h51
      refine c_skip ?_
      exact h35 _ _ h (H.weaken ⟨rfl, rfl, rfl, rfl, rfl, trivial⟩)
  ·replace h := h.2 h31
   refine c_exit ?_
   first | (simp only [Exit.then, Exit.inBlock, ↓reduceIte]; fail_if_success simp only [Nat.reduceEqDiff]) | simp only [Exit.then, Exit.inBlock, ↓reduceIte, Nat.reduceEqDiff]
   refine hK23 _ _ <| c_seq fun K65 hK65 => c_reg ?_
   obtain ⟨C66, hc67, C68, hc69, h⟩ := h
   refine s_loadN (l := [(.i C66), (.i C68)]) H rfl rfl agg_29 rfl ⟨hc67, hc69, trivial⟩ (lt_ rfl) fun a H => s_stoN (l := [(.i C66), (.i C68)]) H rfl rfl rfl rfl agg_29 rfl rfl h ?_
   clear h H
   intro w70 h H
   refine c_nil <| hK65 _ _ <| c_ret ?_
   obtain ⟨C71, hc72, C73, hc74, h⟩ := h
   exact e_ret1 H rfl ⟨_, rfl, run_loadN (l := [(.i C71), (.i C73)]) agg_29 rfl ⟨hc72, hc74, trivial⟩⟩ h
 clear h80
 refine c_seq fun K78 hK78 => c_reg <| s_move H rfl rfl (lt_ rfl) fun a H => s_blt H rfl (H.args (vs := [x1.v]) rfl) (lt_ rfl) (fun cs => b_lenS (z := x1) sl_82) fun a H => s_bin H rfl rfl rfl r_lss (lt_ rfl) fun a H => c_nil <| hK78 _ _ <| c_cond H rfl (fun h79 => ?_) (fun h79 => ?_)
 ·replace h := h.1 h79
  refine c_reg <| s_iface H rfl rfl ni_9 (lt_ rfl) fun a H => ?_
  exact s_panic H rfl rfl (fun H => e_panic (P := PP) (fn := Try.f49) H h)
 ·replace h := h.2 h79
  refine c_skip ?_
  exact h77 _ _ h (H.weaken ⟨rfl, rfl, rfl, trivial⟩)

theorem sim_table_shelf_finalized_c1 (C1 C2 C3 C4 : Int) (w : World) (Q : Ending → World → Prop) (h : vc_table_shelf_finalized_c1 C1 C2 C3 C4 w Q) : Calls PP F_table_shelf_finalized_c1 #[(.agg #[(.i C1), (.i C2)]), (.agg #[(.i C3), (.i C4)])] w Q := by
 unfold vc_table_shelf_finalized_c1 at h
 refine enter (n := 8) Try.func51 rfl rfl (Nat.le_of_ble_eq_true rfl) fun a H => c_seq fun K5 hK5 => c_reg ?_
 replace h := h.get
 obtain ⟨b6, w7, n8, h⟩ := h
 refine s_box H rfl rfl (lt_ rfl) ?_
 rw [← n8.at_]
 clear H a
 intro a H
 refine n8.go ?_
 replace h := h.get
 obtain ⟨b9, w10, n11, h⟩ := h
 refine s_box H rfl rfl (lt_ rfl) ?_
 rw [← n11.at_]
 clear H a
 intro a H
 refine n11.go <| s_assign H rfl rfl (lt_ rfl) fun a H => c_nil <| hK5 _ _ <| c_seq fun K12 hK12 => c_reg <| s_loadN (l := [(.i C3), (.i C4)]) H rfl rfl agg_29 rfl ⟨(n11.cell (i := 0) rfl), (n11.cell (i := 1) rfl), trivial⟩ (lt_ rfl) fun a H => s_loadN (l := [(.i C1), (.i C2)]) H rfl rfl agg_29 rfl ⟨(n11.old (n8.cell (i := 0) rfl)), (n11.old (n8.cell (i := 1) rfl)), trivial⟩ (lt_ rfl) fun a H => ?_
 refine s_call H rfl body_13 (H.args (vs := [(.agg #[(.i C3), (.i C4)]), (.agg #[(.i C1), (.i C2)])]) rfl) (lt_ rfl) h ?_ (fun c w' h H => e_panic (P := PP) (fn := Try.f51) H h)
 clear H h a
 rintro _ w13 a ⟨C14, rfl, h⟩ H
 refine s_assign H rfl rfl (lt_ rfl) fun a H => c_nil <| hK12 _ _ <| c_ret ?_
 exact e_ret1 H rfl rfl h

theorem sim_tag_proper (C1 C2 : Int) (w : World) (Q : Ending → World → Prop) (h : vc_tag_proper C1 C2 w Q) : Calls PP F_tag_proper #[(.agg #[(.i C1), (.i C2)])] w Q := by
 unfold vc_tag_proper at h
 refine enter (n := 21) Try.func53 rfl rfl (Nat.le_of_ble_eq_true rfl) fun a H => c_seq fun K3 hK3 => c_reg ?_
 replace h := h.get
 obtain ⟨b4, w5, n6, h⟩ := h
 refine s_box H rfl rfl (lt_ rfl) ?_
 rw [← n6.at_]
 clear H a
 intro a H
 refine n6.go <| s_assign H rfl rfl (lt_ rfl) fun a H => c_nil <| hK3 _ _ <| c_seq fun K7 hK7 => c_reg <| s_fld H rfl rfl fld_29_0 (lt_ rfl) fun a H => s_load (v := (.i C1)) H rfl rfl one_2 (n6.cell (i := 0) rfl) (lt_ rfl) fun a H => s_bin H rfl rfl rfl r_geq (lt_ rfl) fun a H => s_move H rfl rfl (lt_ rfl) fun a H => g_join (n := 21) [(10, (.bool ((decide (1 ≤ C1)) && (decide (C1 ≤ 4611686018427387903))))), (1, (.pointer (some (blk b4))))] (.succ (.succ (.succ (.succ (.zero _))))) ?_ ?_
 ·intro h9
  try clear h
  rcases Bool.eq_false_or_eq_true (decide (1 ≤ C1)) with h8 | h8
  ·replace H := H.ch (t := 6) (b := true) rfl h8
   refine s_fld H (wantG H rfl rfl) rfl fld_29_0 (lt_ rfl) fun a H => s_load (v := (.i C1)) H (wantG H rfl rfl) rfl one_2 (n6.cell (i := 0) rfl) (lt_ rfl) fun a H => s_bin H (wantG H rfl rfl) rfl rfl r_leq (lt_ rfl) fun a H => s_pickT H rfl rfl rfl (lt_ rfl) fun a H => ?_
   exact h9 _ (H.weaken ⟨by rw [h8]; rfl, rfl, trivial⟩)
  ·replace H := H.ch (t := 6) (b := false) rfl h8
   iterate 3 refine s_skip H (wantN H rfl rfl rfl) rfl (lt_ rfl) fun a H => ?_
   refine s_pickF H rfl rfl rfl (lt_ rfl) fun a H => ?_
   exact h9 _ (H.weaken ⟨by rw [h8]; rfl, rfl, trivial⟩)
 ·clear H a
  intro a H
  refine s_move H rfl rfl (lt_ rfl) fun a H => g_join (n := 21) [(15, (.bool (((decide (1 ≤ C1)) && (decide (C1 ≤ 4611686018427387903))) && (decide (1 ≤ C2))))), (1, (.pointer (some (blk b4))))] (.succ (.succ (.succ (.succ (.zero _))))) ?_ ?_
  ·intro h11
   try clear h
   rcases Bool.eq_false_or_eq_true ((decide (1 ≤ C1)) && (decide (C1 ≤ 4611686018427387903))) with h10 | h10
   ·replace H := H.ch (t := 11) (b := true) rfl h10
    refine s_fld H (wantG H rfl rfl) rfl fld_29_1 (lt_ rfl) fun a H => s_load (v := (.i C2)) H (wantG H rfl rfl) rfl one_3 (n6.cell (i := 1) rfl) (lt_ rfl) fun a H => s_bin H (wantG H rfl rfl) rfl rfl r_geq (lt_ rfl) fun a H => s_pickT H rfl rfl rfl (lt_ rfl) fun a H => ?_
    exact h11 _ (H.weaken ⟨by rw [h10]; rfl, rfl, trivial⟩)
   ·replace H := H.ch (t := 11) (b := false) rfl h10
    iterate 3 refine s_skip H (wantN H rfl rfl rfl) rfl (lt_ rfl) fun a H => ?_
    refine s_pickF H rfl rfl rfl (lt_ rfl) fun a H => ?_
    exact h11 _ (H.weaken ⟨by rw [h10]; rfl, rfl, trivial⟩)
  ·clear H a
   intro a H
   refine s_move H rfl rfl (lt_ rfl) fun a H => g_join (n := 21) [(20, (.bool ((((decide (1 ≤ C1)) && (decide (C1 ≤ 4611686018427387903))) && (decide (1 ≤ C2))) && (decide (C2 ≤ 65535)))))] (.succ (.succ (.succ (.succ (.zero _))))) ?_ ?_
   ·intro h13
    try clear h
    rcases Bool.eq_false_or_eq_true (((decide (1 ≤ C1)) && (decide (C1 ≤ 4611686018427387903))) && (decide (1 ≤ C2))) with h12 | h12
    ·replace H := H.ch (t := 16) (b := true) rfl h12
     refine s_fld H (wantG H rfl rfl) rfl fld_29_1 (lt_ rfl) fun a H => s_load (v := (.i C2)) H (wantG H rfl rfl) rfl one_3 (n6.cell (i := 1) rfl) (lt_ rfl) fun a H => s_bin H (wantG H rfl rfl) rfl rfl r_leq (lt_ rfl) fun a H => s_pickT H rfl rfl rfl (lt_ rfl) fun a H => ?_
     exact h13 _ (H.weaken ⟨by rw [h12]; rfl, trivial⟩)
    ·replace H := H.ch (t := 16) (b := false) rfl h12
     iterate 3 refine s_skip H (wantN H rfl rfl rfl) rfl (lt_ rfl) fun a H => ?_
     refine s_pickF H rfl rfl rfl (lt_ rfl) fun a H => ?_
     exact h13 _ (H.weaken ⟨by rw [h12]; rfl, trivial⟩)
   ·clear H a
    intro a H
    refine s_assign H rfl rfl (lt_ rfl) fun a H => c_nil <| hK7 _ _ <| c_ret ?_
    exact e_ret1 H rfl rfl h

theorem sim_cmp_Less (x1 y2 : ByteArray) (w : World) (Q : Ending → World → Prop) (h : vc_cmp_Less x1 y2 w Q) : Calls PP F_cmp_Less #[(.string x1), (.string y2)] w Q := by
 unfold vc_cmp_Less at h
 refine enter (n := 17) Try.func85 rfl rfl (Nat.le_of_ble_eq_true rfl) fun a H => c_seq fun K3 hK3 => c_reg <| s_assign H rfl rfl (lt_ rfl) fun a H => c_nil <| hK3 _ _ <| c_seq fun K4 hK4 => c_reg <| s_move H rfl rfl (lt_ rfl) fun a H => s_call H rfl body_95 (H.args (vs := [(.string x1)]) rfl) (lt_ rfl) h ?_ (fun c w' h H => e_panic (P := PP) (fn := Try.f85) H h)
 clear H h a
 rintro _ w5 a ⟨s6, rfl, h⟩ H
 refine s_move H rfl rfl (lt_ rfl) fun a H => ?_
 obtain ⟨R9, h, h20⟩ := h
 refine g_joinW (n := 17) R9 (fun x10 => [(11, (.bool x10)), (0, (.string x1)), (1, (.string y2))]) (.succ (.succ (.succ (.succ (.zero _))))) ?_ ?_
 ·intro h8
  clear h20
  rcases Bool.eq_false_or_eq_true s6 with h7 | h7
  ·replace H := H.ch (t := 7) (b := true) rfl h7
   replace h := h.1 h7
   refine s_move H (wantG H rfl rfl) rfl (lt_ rfl) fun a H => s_call H (wantG H rfl rfl) body_95 (H.args (vs := [(.string y2)]) rfl) (lt_ rfl) h ?_ (fun c w' h H => e_panic (P := PP) (fn := Try.f85) H h)
   clear H h a
   rintro _ w12 a ⟨s13, rfl, h⟩ H
   refine s_un H (wantG H rfl rfl) rfl r_not (lt_ rfl) fun a H => s_pickT H rfl rfl rfl (lt_ rfl) fun a H => ?_
   exact h8 _ _ _ h (H.weaken ⟨rfl, rfl, rfl, trivial⟩)
  ·replace H := H.ch (t := 7) (b := false) rfl h7
   replace h := h.2 h7
   iterate 3 refine s_skip H (wantN H rfl rfl rfl) rfl (lt_ rfl) fun a H => ?_
   refine s_pickF H rfl rfl rfl (lt_ rfl) fun a H => ?_
   exact h8 _ _ _ h (H.weaken ⟨rfl, rfl, rfl, trivial⟩)
 ·clear H a h
  intro a x10 w11 h H
  replace h := h20 x10 w11 h
  clear h20
  refine s_move H rfl rfl (lt_ rfl) fun a H => g_join (n := 17) [(16, (.bool (x10 || (Op.bytesLess x1.toList y2.toList))))] (.succ (.succ (.succ (.succ (.zero _))))) ?_ ?_
  ·intro h19
   try clear h
   rcases Bool.eq_false_or_eq_true x10 with h18 | h18
   ·replace H := H.ch (t := 12) (b := true) rfl h18
    iterate 3 refine s_skip H (wantN H rfl rfl rfl) rfl (lt_ rfl) fun a H => ?_
    refine s_pickT H rfl rfl rfl (lt_ rfl) fun a H => ?_
    exact h19 _ (H.weaken ⟨by rw [h18]; rfl, trivial⟩)
   ·replace H := H.ch (t := 12) (b := false) rfl h18
    refine s_move H (wantG H rfl rfl) rfl (lt_ rfl) fun a H => s_move H (wantG H rfl rfl) rfl (lt_ rfl) fun a H => s_bin H (wantG H rfl rfl) rfl rfl r_lssS (lt_ rfl) fun a H => s_pickF H rfl rfl rfl (lt_ rfl) fun a H => ?_
    exact h19 _ (H.weaken ⟨by rw [h18]; rfl, trivial⟩)
  ·clear H a
   intro a H
   refine s_assign H rfl rfl (lt_ rfl) fun a H => c_nil <| hK4 _ _ <| c_ret ?_
   exact e_ret1 H rfl rfl h

theorem sim_cmp_isNaN_string (x1 : ByteArray) (w : World) (Q : Ending → World → Prop) (h : vc_cmp_isNaN_string x1 w Q) : Calls PP F_cmp_isNaN_string #[(.string x1)] w Q := by
 unfold vc_cmp_isNaN_string at h
 refine enter (n := 6) Try.func95 rfl rfl (Nat.le_of_ble_eq_true rfl) fun a H => c_seq fun K2 hK2 => c_reg <| s_assign H rfl rfl (lt_ rfl) fun a H => c_nil <| hK2 _ _ <| c_seq fun K3 hK3 => c_reg <| s_move H rfl rfl (lt_ rfl) fun a H => s_move H rfl rfl (lt_ rfl) fun a H => s_bin H rfl rfl rfl r_neqS (lt_ rfl) fun a H => s_assign H rfl rfl (lt_ rfl) fun a H => c_nil <| hK3 _ _ <| c_ret ?_
 exact e_ret1 H rfl rfl h
end Go.Proofs.Ytgnceldnfefnmaa
