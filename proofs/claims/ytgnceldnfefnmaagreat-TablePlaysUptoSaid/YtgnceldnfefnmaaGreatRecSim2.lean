/-
  The conditions give the machine's calls; printed by vcgen.py.
-/
import Derived.Test.YtgnceldnfefnmaaGreatRecVc
namespace Go.Proofs.YtgnceldnfefnmaaGreat
open Go Go.Vc
set_option maxRecDepth 100000
set_option maxHeartbeats 4000000
theorem sim_table_Table_Top (t1 : Option Addr) (k2 : ByteArray) (w : World) (Q : Ending → World → Prop) (h : vc_table_Table_Top t1 k2 w Q) : Calls PP F_table_Table_Top #[(.pointer t1), (.string k2)] w Q := by
 unfold vc_table_Table_Top at h
 refine enter (n := 16) Tryz.func17 rfl rfl (Nat.le_of_ble_eq_true rfl) fun a H => c_seq fun K3 hK3 => c_reg ?_
 replace h := h.get
 obtain ⟨b4, w5, n6, h⟩ := h
 refine s_alloc H rfl zero_33 (lt_ rfl) ?_
 rw [← n6.at_]
 clear H a
 intro a H
 refine n6.go <| c_nil <| hK3 _ _ <| c_seq fun K7 hK7 => c_seq fun K8 hK8 => c_reg <| s_move H rfl rfl (lt_ rfl) fun a H => s_bin H rfl rfl rfl (r_eqP0 ptr_23) (lt_ rfl) fun a H => c_nil <| hK8 _ _ <| c_cond H rfl (fun h9 => ?_) (fun h9 => ?_)
 ·replace h := h.1 h9
  refine c_seq fun K10 hK10 => c_reg <| s_build H rfl (by rw [H.parts (vs := []) rfl]; exact bd_33 w5) (lt_ rfl) fun a H => s_stoN (l := [(.i 0), (.i 0)]) H rfl rfl rfl rfl agg_33 rfl rfl h ?_
  clear h H
  intro w11 h H
  refine c_nil <| hK10 _ _ <| c_ret ?_
  obtain ⟨C12, hc13, C14, hc15, h⟩ := h
  exact e_ret1 H rfl ⟨_, rfl, run_loadN (l := [(.i C12), (.i C14)]) agg_33 rfl ⟨hc13, hc15, trivial⟩⟩ h
 ·replace h := h.2 h9
  refine c_skip <| hK7 _ _ <| c_seq fun K16 hK16 => c_reg <| s_move H rfl rfl (lt_ rfl) fun a H => ?_
  obtain ⟨a17, h41, h⟩ := h
  revert H
  subst h41
  intro H
  refine s_nil H rfl rfl (lt_ rfl) fun a H => s_fld H rfl rfl fld_52_1 (lt_ rfl) fun a H => ?_
  obtain ⟨l18, hc19, h⟩ := h
  refine s_load (v := (.map l18)) H rfl rfl one_50 hc19 (lt_ rfl) fun a H => s_move H rfl rfl (lt_ rfl) fun a H => ?_
  obtain ⟨_, h22, m20, rfl, h⟩ := h
  refine s_lkp H rfl rfl rfl h22 (lt_ rfl) ?_
  clear H a h22
  intro a H
  refine s_call H rfl body_44 (H.args (vs := [(.map m20)]) rfl) (lt_ rfl) h ?_ (fun c w' h H => e_panic (P := PP) (fn := Tryz.f17) H h)
  clear H h a
  rintro _ w23 a ⟨f24, rfl, h⟩ H
  refine s_call H rfl body_43 (H.args (vs := [f24.v]) rfl) (lt_ rfl) h ?_ (fun c w' h H => e_panic (P := PP) (fn := Tryz.f17) H h)
  clear H h a
  rintro _ w25 a ⟨C26, C27, rfl, h⟩ H
  refine s_stoN (l := [(.i C26), (.i C27)]) H rfl rfl rfl rfl agg_33 rfl rfl h ?_
  clear h H
  intro w28 h H
  refine c_nil <| hK16 _ _ <| c_ret ?_
  obtain ⟨C29, hc30, C31, hc32, h⟩ := h
  exact e_ret1 H rfl ⟨_, rfl, run_loadN (l := [(.i C29), (.i C31)]) agg_33 rfl ⟨hc30, hc32, trivial⟩⟩ h

theorem sim_sherdref15_Table_Top (t1 : Option Addr) (k2 : ByteArray) (w : World) (Q : Ending → World → Prop) (h : vc_sherdref15_Table_Top t1 k2 w Q) : Calls PP F_sherdref15_Table_Top #[(.pointer t1), (.string k2)] w Q := by
 unfold vc_sherdref15_Table_Top at h
 refine enter (n := 19) Tryz.func18 rfl rfl (Nat.le_of_ble_eq_true rfl) fun a H => c_seq fun K3 hK3 => c_reg ?_
 replace h := h.get
 obtain ⟨b4, w5, n6, h⟩ := h
 refine s_alloc H rfl zero_33 (lt_ rfl) ?_
 rw [← n6.at_]
 clear H a
 intro a H
 refine n6.go <| c_nil <| hK3 _ _ <| c_seq fun K7 hK7 => c_seq fun K8 hK8 => c_reg <| s_move H rfl rfl (lt_ rfl) fun a H => s_bin H rfl rfl rfl (r_eqP0 ptr_25) (lt_ rfl) fun a H => c_nil <| hK8 _ _ <| c_cond H rfl (fun h9 => ?_) (fun h9 => ?_)
 ·replace h := h.1 h9
  refine c_seq fun K10 hK10 => c_reg <| s_build H rfl (by rw [H.parts (vs := []) rfl]; exact bd_33 w5) (lt_ rfl) fun a H => s_stoN (l := [(.i 0), (.i 0)]) H rfl rfl rfl rfl agg_33 rfl rfl h ?_
  clear h H
  intro w11 h H
  refine c_nil <| hK10 _ _ <| c_ret ?_
  obtain ⟨C12, hc13, C14, hc15, h⟩ := h
  exact e_ret1 H rfl ⟨_, rfl, run_loadN (l := [(.i C12), (.i C14)]) agg_33 rfl ⟨hc13, hc15, trivial⟩⟩ h
 ·replace h := h.2 h9
  refine c_skip <| hK7 _ _ <| c_seq fun K16 hK16 => c_reg <| s_move H rfl rfl (lt_ rfl) fun a H => s_move H rfl rfl (lt_ rfl) fun a H => s_call H rfl body_45 (H.args (vs := [(.pointer t1), (.string k2)]) rfl) (lt_ rfl) h ?_ (fun c w' h H => e_panic (P := PP) (fn := Tryz.f18) H h)
  clear H h a
  rintro _ w17 a ⟨f18, rfl, h⟩ H
  refine s_assign H rfl rfl (lt_ rfl) fun a H => c_nil <| hK16 _ _ <| c_seq fun K19 hK19 => c_seq fun K20 hK20 => c_reg <| s_move H rfl rfl (lt_ rfl) fun a H => s_blt H rfl (H.args (vs := [f18.v]) rfl) (lt_ rfl) (fun cs => b_lenS (z := f18) sl_82) fun a H => s_bin H rfl rfl rfl r_eql (lt_ rfl) fun a H => c_nil <| hK20 _ _ <| c_cond H rfl (fun h21 => ?_) (fun h21 => ?_)
  ·replace h := h.1 h21
   refine c_seq fun K22 hK22 => c_reg <| s_build H rfl (by rw [H.parts (vs := []) rfl]; exact bd_33 w17) (lt_ rfl) fun a H => s_stoN (l := [(.i 0), (.i 0)]) H rfl rfl rfl rfl agg_33 rfl rfl h ?_
   clear h H
   intro w23 h H
   refine c_nil <| hK22 _ _ <| c_ret ?_
   obtain ⟨C24, hc25, C26, hc27, h⟩ := h
   exact e_ret1 H rfl ⟨_, rfl, run_loadN (l := [(.i C24), (.i C26)]) agg_33 rfl ⟨hc25, hc27, trivial⟩⟩ h
  ·replace h := h.2 h21
   refine c_skip <| hK19 _ _ <| c_seq fun K28 hK28 => c_reg <| s_move H rfl rfl (lt_ rfl) fun a H => ?_
   obtain ⟨a29, h30, h31, h32, h⟩ := h
   refine s_idxS (s := f18) H rfl rfl rfl slc_82 h30 h31 h32 (lt_ rfl) fun a H => ?_
   obtain ⟨C33, hc34, C35, hc36, h⟩ := h
   refine s_loadN (l := [(.i C33), (.i C35)]) H rfl rfl agg_33 rfl ⟨hc34, hc36, trivial⟩ (lt_ rfl) fun a H => s_stoN (l := [(.i C33), (.i C35)]) H rfl rfl rfl rfl agg_33 rfl rfl h ?_
   clear h H
   intro w37 h H
   refine c_nil <| hK28 _ _ <| c_ret ?_
   obtain ⟨C38, hc39, C40, hc41, h⟩ := h
   exact e_ret1 H rfl ⟨_, rfl, run_loadN (l := [(.i C38), (.i C40)]) agg_33 rfl ⟨hc39, hc41, trivial⟩⟩ h

theorem sim_table_Table_Floor (t1 : Option Addr) (k2 : ByteArray) (w : World) (Q : Ending → World → Prop) (h : vc_table_Table_Floor t1 k2 w Q) : Calls PP F_table_Table_Floor #[(.pointer t1), (.string k2)] w Q := by
 unfold vc_table_Table_Floor at h
 refine enter (n := 19) Tryz.func19 rfl rfl (Nat.le_of_ble_eq_true rfl) fun a H => c_seq fun K3 hK3 => c_reg ?_
 replace h := h.get
 obtain ⟨b4, w5, n6, h⟩ := h
 refine s_alloc H rfl zero_33 (lt_ rfl) ?_
 rw [← n6.at_]
 clear H a
 intro a H
 refine n6.go <| c_nil <| hK3 _ _ <| c_seq fun K7 hK7 => c_seq fun K8 hK8 => c_reg <| s_move H rfl rfl (lt_ rfl) fun a H => s_bin H rfl rfl rfl (r_eqP0 ptr_23) (lt_ rfl) fun a H => c_nil <| hK8 _ _ <| c_cond H rfl (fun h9 => ?_) (fun h9 => ?_)
 ·replace h := h.1 h9
  refine c_seq fun K10 hK10 => c_reg <| s_build H rfl (by rw [H.parts (vs := []) rfl]; exact bd_33 w5) (lt_ rfl) fun a H => s_stoN (l := [(.i 0), (.i 0)]) H rfl rfl rfl rfl agg_33 rfl rfl h ?_
  clear h H
  intro w11 h H
  refine c_nil <| hK10 _ _ <| c_ret ?_
  obtain ⟨C12, hc13, C14, hc15, h⟩ := h
  exact e_ret1 H rfl ⟨_, rfl, run_loadN (l := [(.i C12), (.i C14)]) agg_33 rfl ⟨hc13, hc15, trivial⟩⟩ h
 ·replace h := h.2 h9
  refine c_skip <| hK7 _ _ <| c_seq fun K16 hK16 => ?_
  replace H := H.weaken (L' := [(0, (.pointer t1)), (1, (.string k2)), (4, (.pointer (some (blk b4))))]) ⟨rfl, rfl, rfl, trivial⟩
  obtain ⟨a17, h18, h⟩ := h
  revert H
  subst h18
  intro H
  obtain ⟨l19, hc20, l21, hc22, h⟩ := h
  refine c_any (V := [(0, (.pointer (some a17))), (1, (.pointer (some a17))), (2, (.pointer (some (a17.add 1)))), (3, (.map l19)), (4, (.string k2)), (6, (.pointer (some a17))), (7, (.pointer (some a17))), (8, (.pointer (some (a17.add 0)))), (9, (.i l21))]) (⟨[[], [0], [1], [2], [], [3, 4], [], [6], [7], [8], [5, 9], [0, 1, 2, 3, 4, 5, 6, 7, 8, 9, 10]], [some 8, some 9, some 10, some 11, some 12, some 13, some 14, some 15, some 16, some 17, some 18, none], [5, 10, 11], [0, 0, 0, 0, 0, 0, 0, 0, 0, 0, 1, 2], [0, 0, 0, 0, 0, 1, 1, 1, 1, 1, 2, 3]⟩ : Rg) [(0, (.pointer (some a17))), (1, (.string k2)), (4, (.pointer (some (blk b4))))] mixed (by kernel_rfl) H ?_
  refine Stg.eff [0, 1, 2, 3, 4, 6, 7, 8, 9] (by kernel_rfl) rfl (.cons ?_ (.cons ?_ (.cons ?_ (.cons ?_ (.cons ?_ (.cons ?_ (.cons ?_ (.cons ?_ (.cons ?_ .nil))))))))) ?_
  ·refine Ans.mk rfl rfl fun a H => s_move H rfl rfl (lt_ rfl) fun a H => ?_
   exact Ans.fin H rfl
  ·refine Ans.mk rfl rfl fun a H => s_nil H rfl rfl (lt_ rfl) fun a H => ?_
   exact Ans.fin H rfl
  ·refine Ans.mk rfl rfl fun a H => s_fld H rfl rfl fld_52_1 (lt_ rfl) fun a H => ?_
   exact Ans.fin H rfl
  ·refine Ans.mk rfl rfl fun a H => s_load (v := (.map l19)) H rfl rfl one_50 hc20 (lt_ rfl) fun a H => ?_
   exact Ans.fin H rfl
  ·refine Ans.mk rfl rfl fun a H => s_move H rfl rfl (lt_ rfl) fun a H => ?_
   exact Ans.fin H rfl
  ·refine Ans.mk rfl rfl fun a H => s_move H rfl rfl (lt_ rfl) fun a H => ?_
   exact Ans.fin H rfl
  ·refine Ans.mk rfl rfl fun a H => s_nil H rfl rfl (lt_ rfl) fun a H => ?_
   exact Ans.fin H rfl
  ·refine Ans.mk rfl rfl fun a H => s_fld H rfl rfl fld_52_0 (lt_ rfl) fun a H => ?_
   exact Ans.fin H rfl
  ·refine Ans.mk rfl rfl fun a H => s_load (v := (.i l21)) H rfl rfl one_3 hc22 (lt_ rfl) fun a H => ?_
   exact Ans.fin H rfl
  ·intro a H
   replace H := H.weaken (L' := [(11, (.map l19)), (12, (.string k2))]) ⟨rfl, rfl, trivial⟩
   obtain ⟨_, h25, m23, rfl, h⟩ := h
   refine s_lkp H rfl rfl rfl h25 (lt_ rfl) ?_
   clear H a h25
   intro a H
   refine c_nil ?_
   obtain ⟨hc26, h⟩ := h
   refine effQ.go [] H rfl rfl <| Stg.eff [6, 7, 8, 9] (by kernel_rfl) rfl (.cons ?_ (.cons ?_ (.cons ?_ (.cons ?_ .nil)))) ?_
   ·refine Ans.mk rfl rfl fun a H => s_move H rfl rfl (lt_ rfl) fun a H => ?_
    exact Ans.fin H rfl
   ·refine Ans.mk rfl rfl fun a H => s_nil H rfl rfl (lt_ rfl) fun a H => ?_
    exact Ans.fin H rfl
   ·refine Ans.mk rfl rfl fun a H => s_fld H rfl rfl fld_52_0 (lt_ rfl) fun a H => ?_
    exact Ans.fin H rfl
   ·refine Ans.mk rfl rfl fun a H => s_load (v := (.i l21)) H rfl rfl one_3 hc26 (lt_ rfl) fun a H => ?_
    exact Ans.fin H rfl
   ·intro a H
    replace H := H.weaken (L' := [(13, (.map m23)), (17, (.i l21))]) ⟨rfl, rfl, trivial⟩
    refine s_call H rfl body_46 (H.args (vs := [(.map m23), (.i l21)]) rfl) (lt_ rfl) h ?_ (fun c w' h H => e_panic (P := PP) (fn := Tryz.f19) H h)
    clear H h a
    rintro _ w27 a ⟨C28, C29, rfl, h⟩ H
    refine c_nil <| effQ.go [] H rfl rfl <| Stg.eff [] (by kernel_rfl) rfl .nil ?_
    ·intro a H
     replace H := H.weaken (L' := [(4, (.pointer (some (blk b4)))), (18, (.agg #[(.i C28), (.i C29)]))]) ⟨rfl, rfl, trivial⟩
     refine s_stoN (l := [(.i C28), (.i C29)]) H rfl rfl rfl rfl agg_33 rfl rfl h ?_
     clear h H
     intro w30 h H
     refine c_nil <| effQ.go0 [] H rfl rfl <| Stg.fin [] (by kernel_rfl) .nil ?_
     ·intro a H
      replace H := H.weaken (L' := [(4, (.pointer (some (blk b4))))]) ⟨rfl, trivial⟩
      refine hK16 _ _ <| c_ret ?_
      obtain ⟨C31, hc32, C33, hc34, h⟩ := h
      exact e_ret1 H rfl ⟨_, rfl, run_loadN (l := [(.i C31), (.i C33)]) agg_33 rfl ⟨hc32, hc34, trivial⟩⟩ h

theorem sim_sherdref15_Table_Floor (t1 : Option Addr) (k2 : ByteArray) (w : World) (Q : Ending → World → Prop) (h : vc_sherdref15_Table_Floor t1 k2 w Q) : Calls PP F_sherdref15_Table_Floor #[(.pointer t1), (.string k2)] w Q := by
 unfold vc_sherdref15_Table_Floor at h
 refine enter (n := 27) Tryz.func20 rfl rfl (Nat.le_of_ble_eq_true rfl) fun a H => c_seq fun K3 hK3 => c_reg ?_
 replace h := h.get
 obtain ⟨b4, w5, n6, h⟩ := h
 refine s_alloc H rfl zero_33 (lt_ rfl) ?_
 rw [← n6.at_]
 clear H a
 intro a H
 refine n6.go <| c_nil <| hK3 _ _ <| c_seq fun K7 hK7 => c_seq fun K8 hK8 => c_reg <| s_move H rfl rfl (lt_ rfl) fun a H => s_bin H rfl rfl rfl (r_eqP0 ptr_25) (lt_ rfl) fun a H => c_nil <| hK8 _ _ <| c_cond H rfl (fun h9 => ?_) (fun h9 => ?_)
 ·replace h := h.1 h9
  refine c_seq fun K10 hK10 => c_reg <| s_build H rfl (by rw [H.parts (vs := []) rfl]; exact bd_33 w5) (lt_ rfl) fun a H => s_stoN (l := [(.i 0), (.i 0)]) H rfl rfl rfl rfl agg_33 rfl rfl h ?_
  clear h H
  intro w11 h H
  refine c_nil <| hK10 _ _ <| c_ret ?_
  obtain ⟨C12, hc13, C14, hc15, h⟩ := h
  exact e_ret1 H rfl ⟨_, rfl, run_loadN (l := [(.i C12), (.i C14)]) agg_33 rfl ⟨hc13, hc15, trivial⟩⟩ h
 ·replace h := h.2 h9
  refine c_skip <| hK7 _ _ <| c_seq fun K16 hK16 => c_reg <| s_move H rfl rfl (lt_ rfl) fun a H => s_move H rfl rfl (lt_ rfl) fun a H => s_call H rfl body_45 (H.args (vs := [(.pointer t1), (.string k2)]) rfl) (lt_ rfl) h ?_ (fun c w' h H => e_panic (P := PP) (fn := Tryz.f20) H h)
  clear H h a
  rintro _ w17 a ⟨f18, rfl, h⟩ H
  refine s_assign H rfl rfl (lt_ rfl) fun a H => c_nil <| hK16 _ _ <| c_seq fun K19 hK19 => c_seq fun K20 hK20 => c_reg <| s_move H rfl rfl (lt_ rfl) fun a H => ?_
  obtain ⟨a21, h47, h⟩ := h
  revert H
  subst h47
  intro H
  refine s_nil H rfl rfl (lt_ rfl) fun a H => s_fld H rfl rfl fld_49_0 (lt_ rfl) fun a H => ?_
  obtain ⟨l22, hc23, h⟩ := h
  refine s_load (v := (.i l22)) H rfl rfl one_3 hc23 (lt_ rfl) fun a H => s_move H rfl rfl (lt_ rfl) fun a H => s_blt H rfl (H.args (vs := [f18.v]) rfl) (lt_ rfl) (fun cs => b_lenS (z := f18) sl_82) fun a H => s_bin H rfl rfl rfl r_geq (lt_ rfl) fun a H => c_nil <| hK20 _ _ <| c_cond H rfl (fun h24 => ?_) (fun h24 => ?_)
  ·replace h := h.1 h24
   refine c_seq fun K25 hK25 => c_reg <| s_build H rfl (by rw [H.parts (vs := []) rfl]; exact bd_33 w17) (lt_ rfl) fun a H => s_stoN (l := [(.i 0), (.i 0)]) H rfl rfl rfl rfl agg_33 rfl rfl h ?_
   clear h H
   intro w26 h H
   refine c_nil <| hK25 _ _ <| c_ret ?_
   obtain ⟨C27, hc28, C29, hc30, h⟩ := h
   exact e_ret1 H rfl ⟨_, rfl, run_loadN (l := [(.i C27), (.i C29)]) agg_33 rfl ⟨hc28, hc30, trivial⟩⟩ h
  ·replace h := h.2 h24
   refine c_skip <| hK19 _ _ <| c_seq fun K31 hK31 => c_reg <| s_move H rfl rfl (lt_ rfl) fun a H => s_move H rfl rfl (lt_ rfl) fun a H => s_nil H rfl rfl (lt_ rfl) fun a H => s_fld H rfl rfl fld_49_0 (lt_ rfl) fun a H => ?_
   obtain ⟨l32, hc33, h⟩ := h
   refine s_load (v := (.i l32)) H rfl rfl one_3 hc33 (lt_ rfl) fun a H => ?_
   obtain ⟨a34, h35, h36, h37, h⟩ := h
   refine s_idxS (s := f18) H rfl rfl rfl slc_82 h35 h36 h37 (lt_ rfl) fun a H => ?_
   obtain ⟨C38, hc39, C40, hc41, h⟩ := h
   refine s_loadN (l := [(.i C38), (.i C40)]) H rfl rfl agg_33 rfl ⟨hc39, hc41, trivial⟩ (lt_ rfl) fun a H => s_stoN (l := [(.i C38), (.i C40)]) H rfl rfl rfl rfl agg_33 rfl rfl h ?_
   clear h H
   intro w42 h H
   refine c_nil <| hK31 _ _ <| c_ret ?_
   obtain ⟨C43, hc44, C45, hc46, h⟩ := h
   exact e_ret1 H rfl ⟨_, rfl, run_loadN (l := [(.i C43), (.i C45)]) agg_33 rfl ⟨hc44, hc46, trivial⟩⟩ h

theorem sim_table_Table_Fragments (t1 : Option Addr) (k2 : ByteArray) (w : World) (Q : Ending → World → Prop) (h : vc_table_Table_Fragments t1 k2 w Q) : Calls PP F_table_Table_Fragments #[(.pointer t1), (.string k2)] w Q := by
 unfold vc_table_Table_Fragments at h
 refine enter (n := 22) Tryz.func21 rfl rfl (Nat.le_of_ble_eq_true rfl) fun a H => c_seq fun K3 hK3 => c_reg <| s_assign H rfl rfl (lt_ rfl) fun a H => c_nil <| hK3 _ _ <| c_seq fun K4 hK4 => c_reg <| s_assign H rfl rfl (lt_ rfl) fun a H => c_nil <| hK4 _ _ <| c_seq fun K5 hK5 => c_seq fun K6 hK6 => c_reg <| s_move H rfl rfl (lt_ rfl) fun a H => s_move H rfl rfl (lt_ rfl) fun a H => ?_
 refine s_call H rfl body_24 (H.args (vs := [(.pointer t1), (.string k2)]) rfl) (lt_ rfl) h ?_ (fun c w' h H => e_panic (P := PP) (fn := Tryz.f21) H h)
 clear H h a
 rintro _ w7 a ⟨E8, rfl, h⟩ H
 refine s_blt H rfl (H.args (vs := [E8.v]) rfl) (lt_ rfl) (fun cs => b_lenS (z := E8) sl_64) fun a H => s_move H rfl rfl (lt_ rfl) fun a H => c_nil <| hK6 _ _ <| c_block ?_
 obtain ⟨I12, m13, h47, h48⟩ := h
 refine c_loop (σ := Int × Int) (fun z w => I12 z.1 z.2 w) (fun z w => m13 z.1 z.2 w) (fun z => [(5, (.i z.1)), (10, E8.v), (11, (.i (E8.l : Int))), (12, (.i z.2))]) (0, 0) h47 (H.weaken ⟨rfl, rfl, rfl, rfl, trivial⟩) ?_
 clear H h47
 rintro ⟨n9, s10⟩ a w11 h H
 replace h := h48 n9 s10 w11 h
 clear h48
 replace H : Has 22 [] a [(5, (.i n9)), (10, E8.v), (11, (.i (E8.l : Int))), (12, (.i s10))] := H
 refine c_seq fun K14 hK14 => c_reg <| s_bin H rfl rfl rfl r_lss (lt_ rfl) fun a H => c_nil <| hK14 _ _ <| c_seq fun K15 hK15 => c_cond H rfl (fun h16 => ?_) (fun h16 => ?_)
 ·replace h := h.1 h16
  refine c_skip <| hK15 _ _ <| c_seq fun K17 hK17 => ?_
  obtain ⟨R19, h, h45⟩ := h
  have h21 : ∀ (a : Act) (n18 : Int) (w20 : World), R19 n18 w20 → Has 22 [] a [(5, (.i n18)), (10, E8.v), (11, (.i (E8.l : Int))), (12, (.i s10))] → K17 a w20 := by
   clear h
   intro a n18 w20 h H
   replace h := h45 n18 w20 h
   refine hK17 _ _ <| c_reg <| s_bin H rfl rfl rfl r_add (lt_ rfl) fun a H => s_move H rfl rfl (lt_ rfl) fun a H => c_nil <| Exists.intro (n18, wr .i64 (s10 + 1)) ⟨h.1, h.2, H.weaken ⟨rfl, rfl, rfl, rfl, trivial⟩⟩
  clear h45
  refine c_block <| c_seq fun K22 hK22 => c_reg ?_
  obtain ⟨a23, h24, h25, h26, h⟩ := h
  refine s_idxS (s := E8) H rfl rfl rfl slc_64 h24 h25 h26 (lt_ rfl) fun a H => ?_
  obtain ⟨C27, hc28, C29, hc30, F31, hc32, H33, hc34, D35, hc36, h⟩ := h
  refine s_loadN (l := [(.i C27), (.i C29), (.bool F31), (.bool H33), D35.v]) H rfl rfl agg_36 rfl ⟨hc28, hc30, hc32, hc34, hc36, trivial⟩ (lt_ rfl) fun a H => ?_
  replace h := h.get
  obtain ⟨b37, w38, n39, h⟩ := h
  refine s_alloc H rfl zero_36 (lt_ rfl) ?_
  rw [← n39.at_]
  clear H a
  intro a H
  refine n39.go <| s_stoN (l := [(.i C27), (.i C29), (.bool F31), (.bool H33), D35.v]) H rfl rfl rfl rfl agg_36 rfl rfl h ?_
  clear h H
  intro w40 h H
  refine c_nil <| hK22 _ _ <| c_seq fun K41 hK41 => c_reg <| s_fld H rfl rfl fld_36_2 (lt_ rfl) fun a H => ?_
  obtain ⟨l42, hc43, h⟩ := h
  refine s_load (v := (.bool l42)) H rfl rfl one_4 hc43 (lt_ rfl) fun a H => c_nil <| hK41 _ _ <| c_cond H rfl (fun h44 => ?_) (fun h44 => ?_)
  ·replace h := h.1 h44
   refine c_reg <| s_move H rfl rfl (lt_ rfl) fun a H => s_bin H rfl rfl rfl r_add (lt_ rfl) fun a H => s_assign H rfl rfl (lt_ rfl) fun a H => c_nil ?_
   exact h21 _ _ _ h (H.weaken ⟨rfl, rfl, rfl, rfl, trivial⟩)
  ·replace h := h.2 h44
   refine c_skip ?_
   exact h21 _ _ _ h (H.weaken ⟨rfl, rfl, rfl, rfl, trivial⟩)
 ·replace h := h.2 h16
  refine c_exit ?_
  first | (simp only [Exit.then, Exit.inBlock, ↓reduceIte]; fail_if_success simp only [Nat.reduceEqDiff]) | simp only [Exit.then, Exit.inBlock, ↓reduceIte, Nat.reduceEqDiff]
  refine hK5 _ _ <| c_seq fun K46 hK46 => c_reg <| s_move H rfl rfl (lt_ rfl) fun a H => s_assign H rfl rfl (lt_ rfl) fun a H => c_nil <| hK46 _ _ <| c_ret ?_
  exact e_ret1 H rfl rfl h

theorem sim_sherdref15_Table_Fragments (t1 : Option Addr) (k2 : ByteArray) (w : World) (Q : Ending → World → Prop) (h : vc_sherdref15_Table_Fragments t1 k2 w Q) : Calls PP F_sherdref15_Table_Fragments #[(.pointer t1), (.string k2)] w Q := by
 unfold vc_sherdref15_Table_Fragments at h
 refine enter (n := 22) Tryz.func22 rfl rfl (Nat.le_of_ble_eq_true rfl) fun a H => c_seq fun K3 hK3 => c_reg <| s_assign H rfl rfl (lt_ rfl) fun a H => c_nil <| hK3 _ _ <| c_seq fun K4 hK4 => c_reg <| s_assign H rfl rfl (lt_ rfl) fun a H => c_nil <| hK4 _ _ <| c_seq fun K5 hK5 => c_seq fun K6 hK6 => c_reg <| s_move H rfl rfl (lt_ rfl) fun a H => s_move H rfl rfl (lt_ rfl) fun a H => ?_
 refine s_call H rfl body_25 (H.args (vs := [(.pointer t1), (.string k2)]) rfl) (lt_ rfl) h ?_ (fun c w' h H => e_panic (P := PP) (fn := Tryz.f22) H h)
 clear H h a
 rintro _ w7 a ⟨E8, rfl, h⟩ H
 refine s_blt H rfl (H.args (vs := [E8.v]) rfl) (lt_ rfl) (fun cs => b_lenS (z := E8) sl_64) fun a H => s_move H rfl rfl (lt_ rfl) fun a H => c_nil <| hK6 _ _ <| c_block ?_
 obtain ⟨I12, m13, h47, h48⟩ := h
 refine c_loop (σ := Int × Int) (fun z w => I12 z.1 z.2 w) (fun z w => m13 z.1 z.2 w) (fun z => [(5, (.i z.1)), (10, E8.v), (11, (.i (E8.l : Int))), (12, (.i z.2))]) (0, 0) h47 (H.weaken ⟨rfl, rfl, rfl, rfl, trivial⟩) ?_
 clear H h47
 rintro ⟨n9, s10⟩ a w11 h H
 replace h := h48 n9 s10 w11 h
 clear h48
 replace H : Has 22 [] a [(5, (.i n9)), (10, E8.v), (11, (.i (E8.l : Int))), (12, (.i s10))] := H
 refine c_seq fun K14 hK14 => c_reg <| s_bin H rfl rfl rfl r_lss (lt_ rfl) fun a H => c_nil <| hK14 _ _ <| c_seq fun K15 hK15 => c_cond H rfl (fun h16 => ?_) (fun h16 => ?_)
 ·replace h := h.1 h16
  refine c_skip <| hK15 _ _ <| c_seq fun K17 hK17 => ?_
  obtain ⟨R19, h, h45⟩ := h
  have h21 : ∀ (a : Act) (n18 : Int) (w20 : World), R19 n18 w20 → Has 22 [] a [(5, (.i n18)), (10, E8.v), (11, (.i (E8.l : Int))), (12, (.i s10))] → K17 a w20 := by
   clear h
   intro a n18 w20 h H
   replace h := h45 n18 w20 h
   refine hK17 _ _ <| c_reg <| s_bin H rfl rfl rfl r_add (lt_ rfl) fun a H => s_move H rfl rfl (lt_ rfl) fun a H => c_nil <| Exists.intro (n18, wr .i64 (s10 + 1)) ⟨h.1, h.2, H.weaken ⟨rfl, rfl, rfl, rfl, trivial⟩⟩
  clear h45
  refine c_block <| c_seq fun K22 hK22 => c_reg ?_
  obtain ⟨a23, h24, h25, h26, h⟩ := h
  refine s_idxS (s := E8) H rfl rfl rfl slc_64 h24 h25 h26 (lt_ rfl) fun a H => ?_
  obtain ⟨C27, hc28, C29, hc30, F31, hc32, H33, hc34, D35, hc36, h⟩ := h
  refine s_loadN (l := [(.i C27), (.i C29), (.bool F31), (.bool H33), D35.v]) H rfl rfl agg_36 rfl ⟨hc28, hc30, hc32, hc34, hc36, trivial⟩ (lt_ rfl) fun a H => ?_
  replace h := h.get
  obtain ⟨b37, w38, n39, h⟩ := h
  refine s_alloc H rfl zero_36 (lt_ rfl) ?_
  rw [← n39.at_]
  clear H a
  intro a H
  refine n39.go <| s_stoN (l := [(.i C27), (.i C29), (.bool F31), (.bool H33), D35.v]) H rfl rfl rfl rfl agg_36 rfl rfl h ?_
  clear h H
  intro w40 h H
  refine c_nil <| hK22 _ _ <| c_seq fun K41 hK41 => c_reg <| s_fld H rfl rfl fld_36_2 (lt_ rfl) fun a H => ?_
  obtain ⟨l42, hc43, h⟩ := h
  refine s_load (v := (.bool l42)) H rfl rfl one_4 hc43 (lt_ rfl) fun a H => c_nil <| hK41 _ _ <| c_cond H rfl (fun h44 => ?_) (fun h44 => ?_)
  ·replace h := h.1 h44
   refine c_reg <| s_move H rfl rfl (lt_ rfl) fun a H => s_bin H rfl rfl rfl r_add (lt_ rfl) fun a H => s_assign H rfl rfl (lt_ rfl) fun a H => c_nil ?_
   exact h21 _ _ _ h (H.weaken ⟨rfl, rfl, rfl, rfl, trivial⟩)
  ·replace h := h.2 h44
   refine c_skip ?_
   exact h21 _ _ _ h (H.weaken ⟨rfl, rfl, rfl, rfl, trivial⟩)
 ·replace h := h.2 h16
  refine c_exit ?_
  first | (simp only [Exit.then, Exit.inBlock, ↓reduceIte]; fail_if_success simp only [Nat.reduceEqDiff]) | simp only [Exit.then, Exit.inBlock, ↓reduceIte, Nat.reduceEqDiff]
  refine hK5 _ _ <| c_seq fun K46 hK46 => c_reg <| s_move H rfl rfl (lt_ rfl) fun a H => s_assign H rfl rfl (lt_ rfl) fun a H => c_nil <| hK46 _ _ <| c_ret ?_
  exact e_ret1 H rfl rfl h

theorem sim_sherdlaw15_sameEntries (a1 b2 : Slc) (w : World) (Q : Ending → World → Prop) (h : vc_sherdlaw15_sameEntries a1 b2 w Q) : Calls PP F_sherdlaw15_sameEntries #[a1.v, b2.v] w Q := by
 unfold vc_sherdlaw15_sameEntries at h
 refine enter (n := 27) Tryz.func23 rfl rfl (Nat.le_of_ble_eq_true rfl) fun a H => c_seq fun K3 hK3 => c_reg <| s_assign H rfl rfl (lt_ rfl) fun a H => c_nil <| hK3 _ _ <| c_seq fun K4 hK4 => c_seq fun K5 hK5 => c_reg <| s_move H rfl rfl (lt_ rfl) fun a H => s_blt H rfl (H.args (vs := [a1.v]) rfl) (lt_ rfl) (fun cs => b_lenS (z := a1) sl_64) fun a H => s_move H rfl rfl (lt_ rfl) fun a H => s_blt H rfl (H.args (vs := [b2.v]) rfl) (lt_ rfl) (fun cs => b_lenS (z := b2) sl_64) fun a H => ?_
 refine s_bin H rfl rfl rfl r_neq (lt_ rfl) fun a H => c_nil <| hK5 _ _ <| c_cond H rfl (fun h6 => ?_) (fun h6 => ?_)
 ·replace h := h.1 h6
  refine c_seq fun K7 hK7 => c_reg <| s_assign H rfl rfl (lt_ rfl) fun a H => c_nil <| hK7 _ _ <| c_ret ?_
  exact e_ret1 H rfl rfl h
 ·replace h := h.2 h6
  refine c_skip <| hK4 _ _ <| c_seq fun K8 hK8 => c_seq fun K9 hK9 => c_reg <| s_move H rfl rfl (lt_ rfl) fun a H => s_blt H rfl (H.args (vs := [a1.v]) rfl) (lt_ rfl) (fun cs => b_lenS (z := a1) sl_64) fun a H => s_move H rfl rfl (lt_ rfl) fun a H => c_nil <| hK9 _ _ <| c_block ?_
  obtain ⟨I12, m13, h57, h58⟩ := h
  refine c_loop (σ := Int) (fun z w => I12 z w) (fun z w => m13 z w) (fun z => [(0, a1.v), (1, b2.v), (12, (.i (a1.l : Int))), (13, (.i z))]) 0 h57 (H.weaken ⟨rfl, rfl, rfl, rfl, trivial⟩) ?_
  clear H h57
  rintro s10 a w11 h H
  replace h := h58 s10 w11 h
  clear h58
  replace H : Has 27 [] a [(0, a1.v), (1, b2.v), (12, (.i (a1.l : Int))), (13, (.i s10))] := H
  refine c_seq fun K14 hK14 => c_reg <| s_bin H rfl rfl rfl r_lss (lt_ rfl) fun a H => c_nil <| hK14 _ _ <| c_seq fun K15 hK15 => c_cond H rfl (fun h16 => ?_) (fun h16 => ?_)
  ·replace h := h.1 h16
   refine c_skip <| hK15 _ _ <| c_seq fun K17 hK17 => c_block <| c_seq fun K18 hK18 => c_reg <| s_move H rfl rfl (lt_ rfl) fun a H => s_assign H rfl rfl (lt_ rfl) fun a H => c_nil <| hK18 _ _ <| c_seq fun K19 hK19 => ?_
   replace H := H.weaken (L' := [(0, a1.v), (1, b2.v), (5, (.i s10)), (12, (.i (a1.l : Int))), (13, (.i s10))]) ⟨rfl, rfl, rfl, rfl, rfl, trivial⟩
   obtain ⟨a20, h21, h22, h23, C24, hc25, C26, hc27, F28, hc29, H30, hc31, D32, hc33, a34, h35, h36, h37, C38, hc39, C40, hc41, F42, hc43, H44, hc45, D46, hc47, h⟩ := h
   refine c_any (V := [(0, a1.v), (1, (.i s10)), (2, (.pointer (some (a20.add (Int.toNat (s10) * 5))))), (3, (.agg #[(.i C24), (.i C26), (.bool F28), (.bool H30), D32.v])), (4, b2.v), (5, (.i s10)), (6, (.pointer (some (a34.add (Int.toNat (s10) * 5))))), (7, (.agg #[(.i C38), (.i C40), (.bool F42), (.bool H44), D46.v]))]) (⟨[[], [], [0, 1], [2], [], [], [4, 5], [6], [3, 7], [8]], [some 16, some 17, some 18, some 19, some 20, some 21, some 22, some 23, some 24, some 25], [8], [0, 0, 0, 0, 0, 0, 0, 0, 0, 1], [0, 0, 0, 0, 0, 0, 0, 0, 1, 1]⟩ : Rg) [(0, a1.v), (1, b2.v), (5, (.i s10)), (12, (.i (a1.l : Int))), (13, (.i s10))] mixed (by kernel_rfl) H ?_
   refine Stg.eff [0, 1, 2, 3, 4, 5, 6, 7] (by kernel_rfl) rfl (.cons ?_ (.cons ?_ (.cons ?_ (.cons ?_ (.cons ?_ (.cons ?_ (.cons ?_ (.cons ?_ .nil)))))))) ?_
   ·refine Ans.mk rfl rfl fun a H => s_move H rfl rfl (lt_ rfl) fun a H => ?_
    exact Ans.fin H rfl
   ·refine Ans.mk rfl rfl fun a H => s_move H rfl rfl (lt_ rfl) fun a H => ?_
    exact Ans.fin H rfl
   ·refine Ans.mk rfl rfl fun a H => s_idxS (s := a1) H rfl rfl rfl slc_64 h21 h22 h23 (lt_ rfl) fun a H => ?_
    exact Ans.fin H rfl
   ·refine Ans.mk rfl rfl fun a H => s_loadN (l := [(.i C24), (.i C26), (.bool F28), (.bool H30), D32.v]) H rfl rfl agg_36 rfl ⟨hc25, hc27, hc29, hc31, hc33, trivial⟩ (lt_ rfl) fun a H => ?_
    exact Ans.fin H rfl
   ·refine Ans.mk rfl rfl fun a H => s_move H rfl rfl (lt_ rfl) fun a H => ?_
    exact Ans.fin H rfl
   ·refine Ans.mk rfl rfl fun a H => s_move H rfl rfl (lt_ rfl) fun a H => ?_
    exact Ans.fin H rfl
   ·refine Ans.mk rfl rfl fun a H => s_idxS (s := b2) H rfl rfl rfl slc_64 h35 h36 h37 (lt_ rfl) fun a H => ?_
    exact Ans.fin H rfl
   ·refine Ans.mk rfl rfl fun a H => s_loadN (l := [(.i C38), (.i C40), (.bool F42), (.bool H44), D46.v]) H rfl rfl agg_36 rfl ⟨hc39, hc41, hc43, hc45, hc47, trivial⟩ (lt_ rfl) fun a H => ?_
    exact Ans.fin H rfl
   ·intro a H
    replace H := H.weaken (L' := [(19, (.agg #[(.i C24), (.i C26), (.bool F28), (.bool H30), D32.v])), (23, (.agg #[(.i C38), (.i C40), (.bool F42), (.bool H44), D46.v]))]) ⟨rfl, rfl, trivial⟩
    refine s_call H rfl body_16 (H.args (vs := [(.agg #[(.i C24), (.i C26), (.bool F28), (.bool H30), D32.v]), (.agg #[(.i C38), (.i C40), (.bool F42), (.bool H44), D46.v])]) rfl) (lt_ rfl) h ?_ (fun c w' h H => e_panic (P := PP) (fn := Tryz.f23) H h)
    clear H h a
    rintro _ w48 a ⟨s49, rfl, h⟩ H
    refine c_nil <| effQ.go [(9, (.bool (!s49)))] H rfl rfl <| Stg.fin [9] (by kernel_rfl) (.cons ?_ .nil) ?_
    ·refine Ans.mk rfl rfl fun a H => s_un H rfl rfl r_not (lt_ rfl) fun a H => ?_
     exact Ans.fin H rfl
    ·intro a H
     replace H := H.weaken (L' := [(0, a1.v), (1, b2.v), (12, (.i (a1.l : Int))), (13, (.i s10)), (25, (.bool (!s49)))]) ⟨rfl, rfl, rfl, rfl, rfl, trivial⟩
     refine hK19 _ _ <| c_cond H rfl (fun h50 => ?_) (fun h50 => ?_)
     ·replace h := h.1 h50
      refine c_seq fun K51 hK51 => c_reg <| s_assign H rfl rfl (lt_ rfl) fun a H => c_nil <| hK51 _ _ <| c_ret ?_
      exact e_ret1 H rfl rfl h
     ·replace h := h.2 h50
      refine c_skip <| hK17 _ _ <| c_reg <| s_bin H rfl rfl rfl r_add (lt_ rfl) fun a H => s_move H rfl rfl (lt_ rfl) fun a H => c_nil <| Exists.intro (wr .i64 (s10 + 1)) ⟨h.1, h.2, H.weaken ⟨rfl, rfl, rfl, rfl, trivial⟩⟩
  ·replace h := h.2 h16
   refine c_exit ?_
   first | (simp only [Exit.then, Exit.inBlock, ↓reduceIte]; fail_if_success simp only [Nat.reduceEqDiff]) | simp only [Exit.then, Exit.inBlock, ↓reduceIte, Nat.reduceEqDiff]
   refine hK8 _ _ <| c_seq fun K56 hK56 => c_reg <| s_assign H rfl rfl (lt_ rfl) fun a H => c_nil <| hK56 _ _ <| c_ret ?_
   exact e_ret1 H rfl rfl h

theorem sim_table_Table_Entries (t1 : Option Addr) (k2 : ByteArray) (w : World) (Q : Ending → World → Prop) (h : vc_table_Table_Entries t1 k2 w Q) : Calls PP F_table_Table_Entries #[(.pointer t1), (.string k2)] w Q := by
 unfold vc_table_Table_Entries at h
 refine enter (n := 29) Tryz.func24 rfl rfl (Nat.le_of_ble_eq_true rfl) fun a H => c_seq fun K3 hK3 => c_reg <| s_assign H rfl rfl (lt_ rfl) fun a H => c_nil <| hK3 _ _ <| c_seq fun K4 hK4 => c_seq fun K5 hK5 => c_reg <| s_move H rfl rfl (lt_ rfl) fun a H => s_bin H rfl rfl rfl (r_eqP0 ptr_23) (lt_ rfl) fun a H => c_nil <| hK5 _ _ <| c_cond H rfl (fun h6 => ?_) (fun h6 => ?_)
 ·replace h := h.1 h6
  refine c_seq fun K7 hK7 => c_reg <| s_assign H rfl rfl (lt_ rfl) fun a H => c_nil <| hK7 _ _ <| c_ret ?_
  exact e_ret1 H rfl rfl h
 ·replace h := h.2 h6
  refine c_skip <| hK4 _ _ <| c_seq fun K8 hK8 => c_reg <| s_assign H rfl rfl (lt_ rfl) fun a H => c_nil <| hK8 _ _ <| c_seq fun K9 hK9 => c_seq fun K10 hK10 => c_reg <| s_move H rfl rfl (lt_ rfl) fun a H => ?_
  obtain ⟨a11, h80, h⟩ := h
  revert H
  subst h80
  intro H
  refine s_nil H rfl rfl (lt_ rfl) fun a H => s_fld H rfl rfl fld_52_1 (lt_ rfl) fun a H => ?_
  obtain ⟨l12, hc13, h⟩ := h
  refine s_load (v := (.map l12)) H rfl rfl one_50 hc13 (lt_ rfl) fun a H => s_move H rfl rfl (lt_ rfl) fun a H => ?_
  obtain ⟨_, h16, m14, rfl, h⟩ := h
  refine s_lkp H rfl rfl rfl h16 (lt_ rfl) ?_
  clear H a h16
  intro a H
  obtain ⟨i17, w18, h19, h⟩ := h
  refine s_rng H rfl rfl h19 (lt_ rfl) ?_
  clear H a h19
  intro a H
  refine c_nil <| hK10 _ _ <| c_block ?_
  obtain ⟨I22, m23, h78, h79⟩ := h
  refine c_loop (σ := Slc) (fun z w => I22 z w) (fun z w => m23 z w) (fun z => [(5, z.v), (16, (.pointer (some (blk i17))))]) Slc.nil h78 (H.weaken ⟨rfl, rfl, trivial⟩) ?_
  clear H h78
  rintro l20 a w21 h H
  replace h := h79 l20 w21 h
  clear h79
  replace H : Has 29 [] a [(5, l20.v), (16, (.pointer (some (blk i17))))] := H
  refine c_seq fun K24 hK24 => c_reg ?_
  obtain ⟨b25, r26, w27, h28, h⟩ := h
  refine s_nxt H rfl rfl h28 (lt_ rfl) ?_
  clear H a h28
  intro a H
  refine s_ext H rfl rfl rfl (lt_ rfl) fun a H => c_nil <| hK24 _ _ <| c_seq fun K29 hK29 => c_cond H rfl (fun h30 => ?_) (fun h30 => ?_)
  ·replace h := h.1 h30
   refine c_skip <| hK29 _ _ <| c_block <| c_seq fun K31 hK31 => c_reg ?_
   obtain ⟨_, h40, C32, C33, C34, C35, F36, H37, D38, rfl, h⟩ := h
   refine s_etr H rfl rfl h40 (lt_ rfl) ?_
   clear H a h40
   intro a H
   refine s_ext H rfl rfl rfl (lt_ rfl) fun a H => ?_
   replace h := h.get
   obtain ⟨b41, w42, n43, h⟩ := h
   refine s_alloc H rfl zero_36 (lt_ rfl) ?_
   rw [← n43.at_]
   clear H a
   intro a H
   refine n43.go <| s_stoN (l := [(.i C34), (.i C35), (.bool F36), (.bool H37), D38.v]) H rfl rfl rfl rfl agg_36 rfl rfl h ?_
   clear h H
   intro w44 h H
   refine c_nil <| hK31 _ _ <| c_reg <| s_move H rfl rfl (lt_ rfl) fun a H => ?_
   obtain ⟨C45, hc46, C47, hc48, F49, hc50, H51, hc52, D53, hc54, h⟩ := h
   refine s_loadN (l := [(.i C45), (.i C47), (.bool F49), (.bool H51), D53.v]) H rfl rfl agg_36 rfl ⟨hc46, hc48, hc50, hc52, hc54, trivial⟩ (lt_ rfl) fun a H => s_call H rfl body_11 (H.args (vs := [(.agg #[(.i C45), (.i C47), (.bool F49), (.bool H51), D53.v])]) rfl) (lt_ rfl) h ?_ (fun c w' h H => e_panic (P := PP) (fn := Tryz.f24) H h)
   clear H h a
   rintro _ w55 a ⟨C56, C57, F58, H59, D60, rfl, h⟩ H
   replace h := h.get
   obtain ⟨b61, w62, n63, h⟩ := h
   refine s_bslc H rfl (by rw [H.parts (vs := [(0, (.agg #[(.i C56), (.i C57), (.bool F58), (.bool H59), D60.v]))]) rfl]; exact bs_64_1_ii64ii64bbs0 w55 C56 C57 F58 H59 D60) (lt_ rfl) ?_
   rw [← n63.at_]
   clear H a
   intro a H
   refine n63.go ?_
   obtain ⟨s64, w65, h66, h⟩ := h
   refine s_blt H rfl (H.args (vs := [l20.v, (Slc.v (Slc.mk (some (blk b61)) 1 1))]) rfl) (lt_ rfl) (fun cs => b_app (z := s64) h66) ?_
   clear H a h66
   intro a H
   refine s_assign H rfl rfl (lt_ rfl) fun a H => c_nil <| Exists.intro s64 ⟨h.1, h.2, H.weaken ⟨rfl, rfl, trivial⟩⟩
  ·replace h := h.2 h30
   refine c_exit ?_
   first | (simp only [Exit.then, Exit.inBlock, ↓reduceIte]; fail_if_success simp only [Nat.reduceEqDiff]) | simp only [Exit.then, Exit.inBlock, ↓reduceIte, Nat.reduceEqDiff]
   refine hK9 _ _ <| c_seq fun K71 hK71 => c_reg <| s_move H rfl rfl (lt_ rfl) fun a H => s_call H rfl body_47 (H.args (vs := [l20.v, (.func (.func 48) #[] #[])]) rfl) (lt_ rfl) h ?_ (fun c w' h H => e_panic (P := PP) (fn := Tryz.f24) H h)
   clear H h a
   rintro _ w72 a ⟨rfl, h⟩ H
   refine c_nil <| hK71 _ _ <| c_seq fun K73 hK73 => c_reg <| s_move H rfl rfl (lt_ rfl) fun a H => s_assign H rfl rfl (lt_ rfl) fun a H => c_nil <| hK73 _ _ <| c_ret ?_
   exact e_ret1 H rfl rfl h

theorem sim_sherdref15_Table_Entries (t1 : Option Addr) (k2 : ByteArray) (w : World) (Q : Ending → World → Prop) (h : vc_sherdref15_Table_Entries t1 k2 w Q) : Calls PP F_sherdref15_Table_Entries #[(.pointer t1), (.string k2)] w Q := by
 unfold vc_sherdref15_Table_Entries at h
 refine enter (n := 72) Tryz.func25 rfl rfl (Nat.le_of_ble_eq_true rfl) fun a H => c_seq fun K3 hK3 => c_reg <| s_assign H rfl rfl (lt_ rfl) fun a H => c_nil <| hK3 _ _ <| c_seq fun K4 hK4 => c_reg <| s_assign H rfl rfl (lt_ rfl) fun a H => c_nil <| hK4 _ _ <| c_seq fun K5 hK5 => c_seq fun K6 hK6 => c_reg <| s_move H rfl rfl (lt_ rfl) fun a H => s_bin H rfl rfl rfl (r_eqP0 ptr_25) (lt_ rfl) fun a H => c_nil <| hK6 _ _ <| c_cond H rfl (fun h7 => ?_) (fun h7 => ?_)
 ·replace h := h.1 h7
  refine c_seq fun K8 hK8 => c_reg <| s_move H rfl rfl (lt_ rfl) fun a H => s_assign H rfl rfl (lt_ rfl) fun a H => c_nil <| hK8 _ _ <| c_ret ?_
  exact e_ret1 H rfl rfl h
 ·replace h := h.2 h7
  refine c_skip <| hK5 _ _ <| c_seq fun K9 hK9 => c_seq fun K10 hK10 => c_reg <| s_move H rfl rfl (lt_ rfl) fun a H => ?_
  obtain ⟨a11, h177, h⟩ := h
  revert H
  subst h177
  intro H
  refine s_nil H rfl rfl (lt_ rfl) fun a H => s_fld H rfl rfl fld_49_1 (lt_ rfl) fun a H => ?_
  obtain ⟨l12, hc13, h⟩ := h
  refine s_load (v := l12.v) H rfl rfl one_47 hc13 (lt_ rfl) fun a H => s_blt H rfl (H.args (vs := [l12.v]) rfl) (lt_ rfl) (fun cs => b_lenS (z := l12) sl_47) fun a H => s_move H rfl rfl (lt_ rfl) fun a H => c_nil <| hK10 _ _ <| c_block ?_
  obtain ⟨I17, m18, h175, h176⟩ := h
  refine c_loop (σ := Slc × Int) (fun z w => I17 z.1 z.2 w) (fun z w => m18 z.1 z.2 w) (fun z => [(1, (.string k2)), (5, z.1.v), (16, l12.v), (17, (.i (l12.l : Int))), (18, (.i z.2))]) (Slc.nil, 0) h175 (H.weaken ⟨rfl, rfl, rfl, rfl, rfl, trivial⟩) ?_
  clear H h175
  rintro ⟨l14, s15⟩ a w16 h H
  replace h := h176 l14 s15 w16 h
  clear h176
  replace H : Has 72 [] a [(1, (.string k2)), (5, l14.v), (16, l12.v), (17, (.i (l12.l : Int))), (18, (.i s15))] := H
  refine c_seq fun K19 hK19 => c_reg <| s_bin H rfl rfl rfl r_lss (lt_ rfl) fun a H => c_nil <| hK19 _ _ <| c_seq fun K20 hK20 => c_cond H rfl (fun h21 => ?_) (fun h21 => ?_)
  ·replace h := h.1 h21
   refine c_skip <| hK20 _ _ <| c_seq fun K22 hK22 => ?_
   obtain ⟨R24, h, h173⟩ := h
   have h26 : ∀ (a : Act) (l23 : Slc) (w25 : World), R24 l23 w25 → Has 72 [] a [(1, (.string k2)), (5, l23.v), (16, l12.v), (17, (.i (l12.l : Int))), (18, (.i s15))] → K22 a w25 := by
    clear h
    intro a l23 w25 h H
    replace h := h173 l23 w25 h
    refine hK22 _ _ <| c_reg <| s_bin H rfl rfl rfl r_add (lt_ rfl) fun a H => s_move H rfl rfl (lt_ rfl) fun a H => c_nil <| Exists.intro (l23, wr .i64 (s15 + 1)) ⟨h.1, h.2, H.weaken ⟨rfl, rfl, rfl, rfl, rfl, trivial⟩⟩
   clear h173
   refine c_block <| c_seq fun K27 hK27 => c_reg ?_
   obtain ⟨a28, h29, h30, h31, h⟩ := h
   refine s_idxS (s := l12) H rfl rfl rfl slc_47 h29 h30 h31 (lt_ rfl) fun a H => ?_
   obtain ⟨K32, hc33, C34, hc35, C36, hc37, F38, hc39, H40, hc41, D42, hc43, h⟩ := h
   refine s_loadN (l := [(.string K32), (.i C34), (.i C36), (.bool F38), (.bool H40), D42.v]) H rfl rfl agg_57 rfl ⟨hc33, hc35, hc37, hc39, hc41, hc43, trivial⟩ (lt_ rfl) fun a H => ?_
   replace h := h.get
   obtain ⟨b44, w45, n46, h⟩ := h
   refine s_alloc H rfl zero_57 (lt_ rfl) ?_
   rw [← n46.at_]
   clear H a
   intro a H
   refine n46.go <| s_stoN (l := [(.string K32), (.i C34), (.i C36), (.bool F38), (.bool H40), D42.v]) H rfl rfl rfl rfl agg_57 rfl rfl h ?_
   clear h H
   intro w47 h H
   refine c_nil <| hK27 _ _ <| c_seq fun K48 hK48 => c_seq fun K49 hK49 => c_reg <| s_fld H rfl rfl fld_57_0 (lt_ rfl) fun a H => ?_
   obtain ⟨l50, hc51, h⟩ := h
   refine s_load (v := (.string l50)) H rfl rfl one_9 hc51 (lt_ rfl) fun a H => s_move H rfl rfl (lt_ rfl) fun a H => s_bin H rfl rfl rfl r_neqS (lt_ rfl) fun a H => c_nil <| hK49 _ _ <| c_cond H rfl (fun h52 => ?_) (fun h52 => ?_)
   ·replace h := h.1 h52
    refine c_exit ?_
    first | (simp only [Exit.then, Exit.inBlock, ↓reduceIte]; fail_if_success simp only [Nat.reduceEqDiff]) | simp only [Exit.then, Exit.inBlock, ↓reduceIte, Nat.reduceEqDiff]
    exact h26 _ _ _ h (H.weaken ⟨rfl, rfl, rfl, rfl, rfl, trivial⟩)
   ·replace h := h.2 h52
    refine c_skip <| hK48 _ _ <| c_seq fun K53 hK53 => c_reg <| s_move H rfl rfl (lt_ rfl) fun a H => s_fld H rfl rfl fld_57_1 (lt_ rfl) fun a H => ?_
    obtain ⟨C54, hc55, C56, hc57, F58, hc59, H60, hc61, D62, hc63, h⟩ := h
    refine s_loadN (l := [(.i C54), (.i C56), (.bool F58), (.bool H60), D62.v]) H rfl rfl agg_36 rfl ⟨hc55, hc57, hc59, hc61, hc63, trivial⟩ (lt_ rfl) fun a H => s_call H rfl body_12 (H.args (vs := [(.agg #[(.i C54), (.i C56), (.bool F58), (.bool H60), D62.v])]) rfl) (lt_ rfl) h ?_ (fun c w' h H => e_panic (P := PP) (fn := Tryz.f25) H h)
    clear H h a
    rintro _ w64 a ⟨C65, C66, F67, H68, D69, rfl, h⟩ H
    replace h := h.get
    obtain ⟨b70, w71, n72, h⟩ := h
    refine s_bslc H rfl (by rw [H.parts (vs := [(0, (.agg #[(.i C65), (.i C66), (.bool F67), (.bool H68), D69.v]))]) rfl]; exact bs_64_1_ii64ii64bbs0 w64 C65 C66 F67 H68 D69) (lt_ rfl) ?_
    rw [← n72.at_]
    clear H a
    intro a H
    refine n72.go ?_
    obtain ⟨s73, w74, h75, h⟩ := h
    refine s_blt H rfl (H.args (vs := [l14.v, (Slc.v (Slc.mk (some (blk b70)) 1 1))]) rfl) (lt_ rfl) (fun cs => b_app (z := s73) h75) ?_
    clear H a h75
    intro a H
    refine s_assign H rfl rfl (lt_ rfl) fun a H => c_nil <| hK53 _ _ <| c_seq fun K76 hK76 => c_reg <| s_move H rfl rfl (lt_ rfl) fun a H => s_blt H rfl (H.args (vs := [s73.v]) rfl) (lt_ rfl) (fun cs => b_lenS (z := s73) sl_64) fun a H => s_bin H rfl rfl rfl r_sub (lt_ rfl) fun a H => s_assign H rfl rfl (lt_ rfl) fun a H => c_nil <| hK76 _ _ <| c_block ?_
    obtain ⟨I79, m80, h167, h168⟩ := h
    refine c_loop (σ := Int) (fun z w => I79 z w) (fun z w => m80 z w) (fun z => [(1, (.string k2)), (5, s73.v), (8, (.i z)), (16, l12.v), (17, (.i (l12.l : Int))), (18, (.i s15))]) (wr .i64 ((s73.l : Int) - 1)) h167 (H.weaken ⟨rfl, rfl, rfl, rfl, rfl, rfl, trivial⟩) ?_
    clear H h167
    rintro i77 a w78 h H
    replace h := h168 i77 w78 h
    clear h168
    replace H : Has 72 [] a [(1, (.string k2)), (5, s73.v), (8, (.i i77)), (16, l12.v), (17, (.i (l12.l : Int))), (18, (.i s15))] := H
    refine c_seq fun K81 hK81 => c_seq fun K82 hK82 => ?_
    obtain ⟨R84, h, h166⟩ := h
    have h142 : ∀ (a : Act) (s83 : Bool) (w85 : World), R84 s83 w85 → Has 72 [] a [(1, (.string k2)), (5, s73.v), (8, (.i i77)), (16, l12.v), (17, (.i (l12.l : Int))), (18, (.i s15)), (50, (.bool s83))] → K82 a w85 := by
     clear h
     intro a s83 w85 h H
     replace h := h166 s83 w85 h
     refine hK82 _ _ <| c_cond H rfl (fun h86 => ?_) (fun h86 => ?_)
     ·replace h := h.1 h86
      refine c_skip <| hK81 _ _ <| c_seq fun K87 hK87 => c_block <| c_seq fun K88 hK88 => c_reg <| s_move H rfl rfl (lt_ rfl) fun a H => s_move H rfl rfl (lt_ rfl) fun a H => ?_
      obtain ⟨a89, h90, h91, h92, h⟩ := h
      refine s_idxS (s := s73) H rfl rfl rfl slc_64 h90 h91 h92 (lt_ rfl) fun a H => ?_
      obtain ⟨C93, hc94, C95, hc96, F97, hc98, H99, hc100, D101, hc102, h⟩ := h
      refine s_loadN (l := [(.i C93), (.i C95), (.bool F97), (.bool H99), D101.v]) H rfl rfl agg_36 rfl ⟨hc94, hc96, hc98, hc100, hc102, trivial⟩ (lt_ rfl) fun a H => ?_
      replace h := h.get
      obtain ⟨b103, w104, n105, h⟩ := h
      refine s_alloc H rfl zero_36 (lt_ rfl) ?_
      rw [← n105.at_]
      clear H a
      intro a H
      refine n105.go <| s_stoN (l := [(.i C93), (.i C95), (.bool F97), (.bool H99), D101.v]) H rfl rfl rfl rfl agg_36 rfl rfl h ?_
      clear h H
      intro w106 h H
      refine c_nil <| hK88 _ _ <| c_seq fun K107 hK107 => c_reg ?_
      iterate 4 refine s_move H rfl rfl (lt_ rfl) fun a H => ?_
      refine s_bin H rfl rfl rfl r_sub (lt_ rfl) fun a H => ?_
      obtain ⟨a108, h109, h110, h111, h⟩ := h
      refine s_idxS (s := s73) H rfl rfl rfl slc_64 h109 h110 h111 (lt_ rfl) fun a H => ?_
      obtain ⟨C112, hc113, C114, hc115, F116, hc117, H118, hc119, D120, hc121, h⟩ := h
      refine s_loadN (l := [(.i C112), (.i C114), (.bool F116), (.bool H118), D120.v]) H rfl rfl agg_36 rfl ⟨hc113, hc115, hc117, hc119, hc121, trivial⟩ (lt_ rfl) fun a H => ?_
      obtain ⟨a122, h123, h124, h125, h⟩ := h
      refine s_idxS (s := s73) H rfl rfl rfl slc_64 h123 h124 h125 (lt_ rfl) fun a H => s_stoN (l := [(.i C112), (.i C114), (.bool F116), (.bool H118), D120.v]) H rfl rfl rfl rfl agg_36 rfl rfl h ?_
      clear h H
      intro w126 h H
      refine c_nil <| hK107 _ _ <| c_reg <| s_move H rfl rfl (lt_ rfl) fun a H => s_move H rfl rfl (lt_ rfl) fun a H => s_bin H rfl rfl rfl r_sub (lt_ rfl) fun a H => ?_
      obtain ⟨C127, hc128, C129, hc130, F131, hc132, H133, hc134, D135, hc136, h⟩ := h
      refine s_loadN (l := [(.i C127), (.i C129), (.bool F131), (.bool H133), D135.v]) H rfl rfl agg_36 rfl ⟨hc128, hc130, hc132, hc134, hc136, trivial⟩ (lt_ rfl) fun a H => ?_
      obtain ⟨a137, h138, h139, h140, h⟩ := h
      refine s_idxS (s := s73) H rfl rfl rfl slc_64 h138 h139 h140 (lt_ rfl) fun a H => s_stoN (l := [(.i C127), (.i C129), (.bool F131), (.bool H133), D135.v]) H rfl rfl rfl rfl agg_36 rfl rfl h ?_
      clear h H
      intro w141 h H
      refine c_nil <| hK87 _ _ <| c_reg <| s_move H rfl rfl (lt_ rfl) fun a H => s_bin H rfl rfl rfl r_sub (lt_ rfl) fun a H => s_assign H rfl rfl (lt_ rfl) fun a H => c_nil <| Exists.intro (wr .i64 (i77 - 1)) ⟨h.1, h.2, H.weaken ⟨rfl, rfl, rfl, rfl, rfl, rfl, trivial⟩⟩
     ·replace h := h.2 h86
      refine c_exit ?_
      first | (simp only [Exit.then, Exit.inBlock, ↓reduceIte]; fail_if_success simp only [Nat.reduceEqDiff]) | simp only [Exit.then, Exit.inBlock, ↓reduceIte, Nat.reduceEqDiff]
      exact h26 _ _ _ h (H.weaken ⟨rfl, rfl, rfl, rfl, rfl, trivial⟩)
    clear h166
    replace H := H.weaken (L' := [(1, (.string k2)), (5, s73.v), (8, (.i i77)), (16, l12.v), (17, (.i (l12.l : Int))), (18, (.i s15))]) ⟨rfl, rfl, rfl, rfl, rfl, rfl, trivial⟩
    rcases Bool.eq_false_or_eq_true (decide (0 < i77)) with h143 | h143
    ·replace h := h.1 h143
     obtain ⟨a144, h145, h146, h147, C148, hc149, C150, hc151, a152, h153, h154, h155, C156, hc157, C158, hc159, h⟩ := h
     refine c_any (V := [(0, (.i i77)), (1, (.bool (decide (0 < i77)))), (2, (.bool (decide (0 < i77)))), (3, s73.v), (4, (.i i77)), (5, (.pointer (some (a144.add (Int.toNat (i77) * 5))))), (6, (.pointer (some ((a144.add (Int.toNat (i77) * 5)).add 0)))), (7, (.agg #[(.i C148), (.i C150)])), (8, s73.v), (9, (.i i77)), (10, (.i (wr .i64 (i77 - 1)))), (11, (.pointer (some (a152.add (Int.toNat (wr .i64 (i77 - 1)) * 5))))), (12, (.pointer (some ((a152.add (Int.toNat (wr .i64 (i77 - 1)) * 5)).add 0)))), (13, (.agg #[(.i C156), (.i C158)]))]) (⟨[[], [0], [1], [2], [2], [2, 3, 4], [2, 5], [2, 6], [2], [2], [2, 9], [2, 8, 10], [2, 11], [2, 12], [2, 7, 13], [2, 14]], [some 35, some 36, some 37, some 38, some 39, some 40, some 41, some 42, some 43, some 44, some 45, some 46, some 47, some 48, some 49, some 50], [14], [0, 0, 0, 0, 0, 0, 0, 0, 0, 0, 0, 0, 0, 0, 0, 1], [0, 0, 0, 0, 0, 0, 0, 0, 0, 0, 0, 0, 0, 0, 1, 1]⟩ : Rg) [(1, (.string k2)), (5, s73.v), (8, (.i i77)), (16, l12.v), (17, (.i (l12.l : Int))), (18, (.i s15))] mixed (by kernel_rfl) H ?_
     refine Stg.eff [0, 1, 2, 3, 4, 5, 6, 7, 8, 9, 10, 11, 12, 13] (by kernel_rfl) rfl (.cons ?_ (.cons ?_ (.cons ?_ (.cons ?_ (.cons ?_ (.cons ?_ (.cons ?_ (.cons ?_ (.cons ?_ (.cons ?_ (.cons ?_ (.cons ?_ (.cons ?_ (.cons ?_ .nil)))))))))))))) ?_
     ·refine Ans.mk rfl rfl fun a H => s_move H rfl rfl (lt_ rfl) fun a H => ?_
      exact Ans.fin H rfl
     ·refine Ans.mk rfl rfl fun a H => s_bin H rfl rfl rfl r_gtr (lt_ rfl) fun a H => ?_
      exact Ans.fin H rfl
     ·refine Ans.mk rfl rfl fun a H => s_move H rfl rfl (lt_ rfl) fun a H => ?_
      exact Ans.fin H rfl
     ·refine Ans.mk rfl rfl fun a H => ?_
      replace H := H.ch (t := 37) (b := true) rfl h143
      refine s_move H (wantG H rfl rfl) rfl (lt_ rfl) fun a H => ?_
      exact Ans.fin H rfl
     ·refine Ans.mk rfl rfl fun a H => ?_
      replace H := H.ch (t := 37) (b := true) rfl h143
      refine s_move H (wantG H rfl rfl) rfl (lt_ rfl) fun a H => ?_
      exact Ans.fin H rfl
     ·refine Ans.mk rfl rfl fun a H => ?_
      replace H := H.ch (t := 37) (b := true) rfl h143
      refine s_idxS (s := s73) H (wantG H rfl rfl) rfl rfl slc_64 h145 h146 h147 (lt_ rfl) fun a H => ?_
      exact Ans.fin H rfl
     ·refine Ans.mk rfl rfl fun a H => ?_
      replace H := H.ch (t := 37) (b := true) rfl h143
      refine s_fld H (wantG H rfl rfl) rfl fld_36_0 (lt_ rfl) fun a H => ?_
      exact Ans.fin H rfl
     ·refine Ans.mk rfl rfl fun a H => ?_
      replace H := H.ch (t := 37) (b := true) rfl h143
      refine s_loadN (l := [(.i C148), (.i C150)]) H (wantG H rfl rfl) rfl agg_33 rfl ⟨hc149, hc151, trivial⟩ (lt_ rfl) fun a H => ?_
      exact Ans.fin H rfl
     ·refine Ans.mk rfl rfl fun a H => ?_
      replace H := H.ch (t := 37) (b := true) rfl h143
      refine s_move H (wantG H rfl rfl) rfl (lt_ rfl) fun a H => ?_
      exact Ans.fin H rfl
     ·refine Ans.mk rfl rfl fun a H => ?_
      replace H := H.ch (t := 37) (b := true) rfl h143
      refine s_move H (wantG H rfl rfl) rfl (lt_ rfl) fun a H => ?_
      exact Ans.fin H rfl
     ·refine Ans.mk rfl rfl fun a H => ?_
      replace H := H.ch (t := 37) (b := true) rfl h143
      refine s_bin H (wantG H rfl rfl) rfl rfl r_sub (lt_ rfl) fun a H => ?_
      exact Ans.fin H rfl
     ·refine Ans.mk rfl rfl fun a H => ?_
      replace H := H.ch (t := 37) (b := true) rfl h143
      refine s_idxS (s := s73) H (wantG H rfl rfl) rfl rfl slc_64 h153 h154 h155 (lt_ rfl) fun a H => ?_
      exact Ans.fin H rfl
     ·refine Ans.mk rfl rfl fun a H => ?_
      replace H := H.ch (t := 37) (b := true) rfl h143
      refine s_fld H (wantG H rfl rfl) rfl fld_36_0 (lt_ rfl) fun a H => ?_
      exact Ans.fin H rfl
     ·refine Ans.mk rfl rfl fun a H => ?_
      replace H := H.ch (t := 37) (b := true) rfl h143
      refine s_loadN (l := [(.i C156), (.i C158)]) H (wantG H rfl rfl) rfl agg_33 rfl ⟨hc157, hc159, trivial⟩ (lt_ rfl) fun a H => ?_
      exact Ans.fin H rfl
     ·intro a H
      replace H := H.weaken (L' := [(37, (.bool (decide (0 < i77)))), (42, (.agg #[(.i C148), (.i C150)])), (48, (.agg #[(.i C156), (.i C158)]))]) ⟨rfl, rfl, rfl, trivial⟩
      replace H := H.ch (t := 37) (b := true) rfl h143
      refine s_call H (wantG H rfl rfl) body_50 (H.args (vs := [(.agg #[(.i C148), (.i C150)]), (.agg #[(.i C156), (.i C158)])]) rfl) (lt_ rfl) h ?_ (fun c w' h H => e_panic (P := PP) (fn := Tryz.f25) H h)
      clear H h a
      rintro _ w160 a ⟨b161, rfl, h⟩ H
      refine c_nil <| effQ.go [(15, (.bool b161))] H rfl rfl <| Stg.fin [15] (by kernel_rfl) (.cons ?_ .nil) ?_
      ·refine Ans.mk rfl rfl fun a H => ?_
       replace H := H.ch (t := 37) (b := true) rfl h143
       refine s_pickT H rfl rfl rfl (lt_ rfl) fun a H => ?_
       exact Ans.fin H rfl
      ·intro a H
       replace H := H.weaken (L' := [(1, (.string k2)), (5, s73.v), (8, (.i i77)), (16, l12.v), (17, (.i (l12.l : Int))), (18, (.i s15)), (50, (.bool b161))]) ⟨rfl, rfl, rfl, rfl, rfl, rfl, rfl, trivial⟩
       exact h142 _ _ _ h (H.weaken ⟨rfl, rfl, rfl, rfl, rfl, rfl, rfl, trivial⟩)
    ·replace h := h.2 h143
     refine c_any (V := [(0, (.i i77)), (1, (.bool (decide (0 < i77)))), (2, (.bool (decide (0 < i77)))), (3, undef), (4, undef), (5, undef), (6, undef), (7, undef), (8, undef), (9, undef), (10, undef), (11, undef), (12, undef), (13, undef)]) (⟨[[], [0], [1], [2], [2], [2, 3, 4], [2, 5], [2, 6], [2], [2], [2, 9], [2, 8, 10], [2, 11], [2, 12], [2, 7, 13], [2, 14]], [some 35, some 36, some 37, some 38, some 39, some 40, some 41, some 42, some 43, some 44, some 45, some 46, some 47, some 48, some 49, some 50], [14], [0, 0, 0, 0, 0, 0, 0, 0, 0, 0, 0, 0, 0, 0, 0, 1], [0, 0, 0, 0, 0, 0, 0, 0, 0, 0, 0, 0, 0, 0, 1, 1]⟩ : Rg) [(1, (.string k2)), (5, s73.v), (8, (.i i77)), (16, l12.v), (17, (.i (l12.l : Int))), (18, (.i s15))] mixed (by kernel_rfl) H ?_
     refine Stg.eff [0, 1, 2, 3, 4, 5, 6, 7, 8, 9, 10, 11, 12, 13] (by kernel_rfl) rfl (.cons ?_ (.cons ?_ (.cons ?_ (.cons ?_ (.cons ?_ (.cons ?_ (.cons ?_ (.cons ?_ (.cons ?_ (.cons ?_ (.cons ?_ (.cons ?_ (.cons ?_ (.cons ?_ .nil)))))))))))))) ?_
     ·refine Ans.mk rfl rfl fun a H => s_move H rfl rfl (lt_ rfl) fun a H => ?_
      exact Ans.fin H rfl
     ·refine Ans.mk rfl rfl fun a H => s_bin H rfl rfl rfl r_gtr (lt_ rfl) fun a H => ?_
      exact Ans.fin H rfl
     ·refine Ans.mk rfl rfl fun a H => s_move H rfl rfl (lt_ rfl) fun a H => ?_
      exact Ans.fin H rfl
     ·exact .skip rfl rfl rfl rfl rfl rfl h143 rfl
     ·exact .skip rfl rfl rfl rfl rfl rfl h143 rfl
     ·exact .skip rfl rfl rfl rfl rfl rfl h143 rfl
     ·exact .skip rfl rfl rfl rfl rfl rfl h143 rfl
     ·exact .skip rfl rfl rfl rfl rfl rfl h143 rfl
     ·exact .skip rfl rfl rfl rfl rfl rfl h143 rfl
     ·exact .skip rfl rfl rfl rfl rfl rfl h143 rfl
     ·exact .skip rfl rfl rfl rfl rfl rfl h143 rfl
     ·exact .skip rfl rfl rfl rfl rfl rfl h143 rfl
     ·exact .skip rfl rfl rfl rfl rfl rfl h143 rfl
     ·exact .skip rfl rfl rfl rfl rfl rfl h143 rfl
     ·intro a H
      replace H := H.weaken (L' := [(37, (.bool (decide (0 < i77)))), (42, undef), (48, undef)]) ⟨rfl, rfl, rfl, trivial⟩
      replace H := H.ch (t := 37) (b := false) rfl h143
      refine s_skip H (wantN H rfl rfl rfl) rfl (lt_ rfl) fun a H => c_nil <| effQ.go [(15, (.bool false))] H rfl rfl <| Stg.fin [15] (by kernel_rfl) (.cons ?_ .nil) ?_
      ·refine Ans.mk rfl rfl fun a H => ?_
       replace H := H.ch (t := 37) (b := false) rfl h143
       refine s_pickF H rfl rfl rfl (lt_ rfl) fun a H => ?_
       exact Ans.fin H rfl
      ·intro a H
       replace H := H.weaken (L' := [(1, (.string k2)), (5, s73.v), (8, (.i i77)), (16, l12.v), (17, (.i (l12.l : Int))), (18, (.i s15)), (50, (.bool false))]) ⟨rfl, rfl, rfl, rfl, rfl, rfl, rfl, trivial⟩
       exact h142 _ _ _ h (H.weaken ⟨rfl, rfl, rfl, rfl, rfl, rfl, rfl, trivial⟩)
  ·replace h := h.2 h21
   refine c_exit ?_
   first | (simp only [Exit.then, Exit.inBlock, ↓reduceIte]; fail_if_success simp only [Nat.reduceEqDiff]) | simp only [Exit.then, Exit.inBlock, ↓reduceIte, Nat.reduceEqDiff]
   refine hK9 _ _ <| c_seq fun K174 hK174 => c_reg <| s_move H rfl rfl (lt_ rfl) fun a H => s_assign H rfl rfl (lt_ rfl) fun a H => c_nil <| hK174 _ _ <| c_ret ?_
   exact e_ret1 H rfl rfl h

theorem sim_sherdlaw15_sameKeys (a1 b2 : Slc) (w : World) (Q : Ending → World → Prop) (h : vc_sherdlaw15_sameKeys a1 b2 w Q) : Calls PP F_sherdlaw15_sameKeys #[a1.v, b2.v] w Q := by
 unfold vc_sherdlaw15_sameKeys at h
 refine enter (n := 26) Tryz.func26 rfl rfl (Nat.le_of_ble_eq_true rfl) fun a H => c_seq fun K3 hK3 => c_reg <| s_assign H rfl rfl (lt_ rfl) fun a H => c_nil <| hK3 _ _ <| c_seq fun K4 hK4 => c_seq fun K5 hK5 => c_reg <| s_move H rfl rfl (lt_ rfl) fun a H => s_blt H rfl (H.args (vs := [a1.v]) rfl) (lt_ rfl) (fun cs => b_lenS (z := a1) sl_67) fun a H => s_move H rfl rfl (lt_ rfl) fun a H => s_blt H rfl (H.args (vs := [b2.v]) rfl) (lt_ rfl) (fun cs => b_lenS (z := b2) sl_67) fun a H => ?_
 refine s_bin H rfl rfl rfl r_neq (lt_ rfl) fun a H => c_nil <| hK5 _ _ <| c_cond H rfl (fun h6 => ?_) (fun h6 => ?_)
 ·replace h := h.1 h6
  refine c_seq fun K7 hK7 => c_reg <| s_assign H rfl rfl (lt_ rfl) fun a H => c_nil <| hK7 _ _ <| c_ret ?_
  exact e_ret1 H rfl rfl h
 ·replace h := h.2 h6
  refine c_skip <| hK4 _ _ <| c_seq fun K8 hK8 => c_seq fun K9 hK9 => c_reg <| s_move H rfl rfl (lt_ rfl) fun a H => s_blt H rfl (H.args (vs := [a1.v]) rfl) (lt_ rfl) (fun cs => b_lenS (z := a1) sl_67) fun a H => s_move H rfl rfl (lt_ rfl) fun a H => c_nil <| hK9 _ _ <| c_block ?_
  obtain ⟨I12, m13, h36, h37⟩ := h
  refine c_loop (σ := Int) (fun z w => I12 z w) (fun z w => m13 z w) (fun z => [(0, a1.v), (1, b2.v), (12, (.i (a1.l : Int))), (13, (.i z))]) 0 h36 (H.weaken ⟨rfl, rfl, rfl, rfl, trivial⟩) ?_
  clear H h36
  rintro s10 a w11 h H
  replace h := h37 s10 w11 h
  clear h37
  replace H : Has 26 [] a [(0, a1.v), (1, b2.v), (12, (.i (a1.l : Int))), (13, (.i s10))] := H
  refine c_seq fun K14 hK14 => c_reg <| s_bin H rfl rfl rfl r_lss (lt_ rfl) fun a H => c_nil <| hK14 _ _ <| c_seq fun K15 hK15 => c_cond H rfl (fun h16 => ?_) (fun h16 => ?_)
  ·replace h := h.1 h16
   refine c_skip <| hK15 _ _ <| c_seq fun K17 hK17 => c_block <| c_seq fun K18 hK18 => c_reg <| s_move H rfl rfl (lt_ rfl) fun a H => s_assign H rfl rfl (lt_ rfl) fun a H => c_nil <| hK18 _ _ <| c_seq fun K19 hK19 => c_regD mixed (by kernel_rfl) <| z_move H rfl rfl (lt_ rfl) fun a H => z_move H rfl rfl (lt_ rfl) fun a H => ?_
   obtain ⟨a21, h22, h23, h24, h⟩ := h
   refine z_idxS (s := a1) H rfl rfl rfl slc_67 h22 h23 h24 (lt_ rfl) fun a H => ?_
   obtain ⟨l25, hc26, h⟩ := h
   refine z_load (v := (.string l25)) H rfl rfl one_9 hc26 (lt_ rfl) fun a H => z_move H rfl rfl (lt_ rfl) fun a H => z_move H rfl rfl (lt_ rfl) fun a H => ?_
   obtain ⟨a27, h28, h29, h30, h⟩ := h
   refine z_idxS (s := b2) H rfl rfl rfl slc_67 h28 h29 h30 (lt_ rfl) fun a H => ?_
   obtain ⟨l31, hc32, h⟩ := h
   refine z_load (v := (.string l31)) H rfl rfl one_9 hc32 (lt_ rfl) fun a H => z_bin H rfl rfl rfl r_neqS (lt_ rfl) fun a H => wpQuiet_nil ?_
   rintro _ ⟨k20, rfl⟩
   replace h := h k20
   refine hK19 _ _ <| c_cond H rfl (fun h33 => ?_) (fun h33 => ?_)
   ·replace h := h.1 h33
    refine c_seq fun K34 hK34 => c_reg <| s_assign H rfl rfl (lt_ rfl) fun a H => c_nil <| hK34 _ _ <| c_ret ?_
    exact e_ret1 H rfl rfl h
   ·replace h := h.2 h33
    refine c_skip <| hK17 _ _ <| c_reg <| s_bin H rfl rfl rfl r_add (lt_ rfl) fun a H => s_move H rfl rfl (lt_ rfl) fun a H => c_nil <| Exists.intro (wr .i64 (s10 + 1)) ⟨h.1, h.2, H.weaken ⟨rfl, rfl, rfl, rfl, trivial⟩⟩
  ·replace h := h.2 h16
   refine c_exit ?_
   first | (simp only [Exit.then, Exit.inBlock, ↓reduceIte]; fail_if_success simp only [Nat.reduceEqDiff]) | simp only [Exit.then, Exit.inBlock, ↓reduceIte, Nat.reduceEqDiff]
   refine hK8 _ _ <| c_seq fun K35 hK35 => c_reg <| s_assign H rfl rfl (lt_ rfl) fun a H => c_nil <| hK35 _ _ <| c_ret ?_
   exact e_ret1 H rfl rfl h

theorem sim_table_Table_Keys (t1 : Option Addr) (w : World) (Q : Ending → World → Prop) (h : vc_table_Table_Keys t1 w Q) : Calls PP F_table_Table_Keys #[(.pointer t1)] w Q := by
 unfold vc_table_Table_Keys at h
 refine enter (n := 23) Tryz.func27 rfl rfl (Nat.le_of_ble_eq_true rfl) fun a H => c_seq fun K2 hK2 => c_reg <| s_assign H rfl rfl (lt_ rfl) fun a H => c_nil <| hK2 _ _ <| c_seq fun K3 hK3 => c_seq fun K4 hK4 => c_reg <| s_move H rfl rfl (lt_ rfl) fun a H => s_bin H rfl rfl rfl (r_eqP0 ptr_23) (lt_ rfl) fun a H => c_nil <| hK4 _ _ <| c_cond H rfl (fun h5 => ?_) (fun h5 => ?_)
 ·replace h := h.1 h5
  refine c_seq fun K6 hK6 => c_reg <| s_assign H rfl rfl (lt_ rfl) fun a H => c_nil <| hK6 _ _ <| c_ret ?_
  exact e_ret1 H rfl rfl h
 ·replace h := h.2 h5
  refine c_skip <| hK3 _ _ <| c_seq fun K7 hK7 => c_reg <| s_assign H rfl rfl (lt_ rfl) fun a H => c_nil <| hK7 _ _ <| c_seq fun K8 hK8 => c_seq fun K9 hK9 => c_reg <| s_move H rfl rfl (lt_ rfl) fun a H => ?_
  obtain ⟨a10, h47, h⟩ := h
  revert H
  subst h47
  intro H
  refine s_nil H rfl rfl (lt_ rfl) fun a H => s_fld H rfl rfl fld_52_1 (lt_ rfl) fun a H => ?_
  obtain ⟨l11, hc12, h⟩ := h
  refine s_load (v := (.map l11)) H rfl rfl one_50 hc12 (lt_ rfl) fun a H => ?_
  obtain ⟨i13, w14, h15, h⟩ := h
  refine s_rng H rfl rfl h15 (lt_ rfl) ?_
  clear H a h15
  intro a H
  refine c_nil <| hK9 _ _ <| c_block ?_
  obtain ⟨I18, m19, h45, h46⟩ := h
  refine c_loop (σ := Slc) (fun z w => I18 z w) (fun z w => m19 z w) (fun z => [(3, z.v), (11, (.pointer (some (blk i13))))]) Slc.nil h45 (H.weaken ⟨rfl, rfl, trivial⟩) ?_
  clear H h45
  rintro l16 a w17 h H
  replace h := h46 l16 w17 h
  clear h46
  replace H : Has 23 [] a [(3, l16.v), (11, (.pointer (some (blk i13))))] := H
  refine c_seq fun K20 hK20 => c_reg ?_
  obtain ⟨b21, r22, w23, h24, h⟩ := h
  refine s_nxt H rfl rfl h24 (lt_ rfl) ?_
  clear H a h24
  intro a H
  refine s_ext H rfl rfl rfl (lt_ rfl) fun a H => c_nil <| hK20 _ _ <| c_seq fun K25 hK25 => c_cond H rfl (fun h26 => ?_) (fun h26 => ?_)
  ·replace h := h.1 h26
   refine c_skip <| hK25 _ _ <| c_block <| c_seq fun K27 hK27 => c_reg ?_
   obtain ⟨_, h31, k28, e29, rfl, h⟩ := h
   refine s_etr H rfl rfl h31 (lt_ rfl) ?_
   clear H a h31
   intro a H
   refine s_ext H rfl rfl rfl (lt_ rfl) fun a H => s_assign H rfl rfl (lt_ rfl) fun a H => c_nil <| hK27 _ _ <| c_reg <| s_move H rfl rfl (lt_ rfl) fun a H => s_move H rfl rfl (lt_ rfl) fun a H => ?_
   replace h := h.get
   obtain ⟨b32, w33, n34, h⟩ := h
   refine s_bslc H rfl (by rw [H.parts (vs := [(0, (.string k28))]) rfl]; exact bs_67_1_s0 w23 k28) (lt_ rfl) ?_
   rw [← n34.at_]
   clear H a
   intro a H
   refine n34.go ?_
   obtain ⟨s35, w36, h37, h⟩ := h
   refine s_blt H rfl (H.args (vs := [l16.v, (Slc.v (Slc.mk (some (blk b32)) 1 1))]) rfl) (lt_ rfl) (fun cs => b_app (z := s35) h37) ?_
   clear H a h37
   intro a H
   refine s_assign H rfl rfl (lt_ rfl) fun a H => c_nil <| Exists.intro s35 ⟨h.1, h.2, H.weaken ⟨rfl, rfl, trivial⟩⟩
  ·replace h := h.2 h26
   refine c_exit ?_
   first | (simp only [Exit.then, Exit.inBlock, ↓reduceIte]; fail_if_success simp only [Nat.reduceEqDiff]) | simp only [Exit.then, Exit.inBlock, ↓reduceIte, Nat.reduceEqDiff]
   refine hK8 _ _ <| c_seq fun K38 hK38 => c_reg <| s_move H rfl rfl (lt_ rfl) fun a H => s_call H rfl body_51 (H.args (vs := [l16.v]) rfl) (lt_ rfl) h ?_ (fun c w' h H => e_panic (P := PP) (fn := Tryz.f27) H h)
   clear H h a
   rintro _ w39 a ⟨rfl, h⟩ H
   refine c_nil <| hK38 _ _ <| c_seq fun K40 hK40 => c_reg <| s_move H rfl rfl (lt_ rfl) fun a H => s_assign H rfl rfl (lt_ rfl) fun a H => c_nil <| hK40 _ _ <| c_ret ?_
   exact e_ret1 H rfl rfl h

theorem sim_sherdref15_Table_Keys (t1 : Option Addr) (w : World) (Q : Ending → World → Prop) (h : vc_sherdref15_Table_Keys t1 w Q) : Calls PP F_sherdref15_Table_Keys #[(.pointer t1)] w Q := by
 unfold vc_sherdref15_Table_Keys at h
 refine enter (n := 81) Tryz.func28 rfl rfl (Nat.le_of_ble_eq_true rfl) fun a H => c_seq fun K2 hK2 => c_reg <| s_assign H rfl rfl (lt_ rfl) fun a H => c_nil <| hK2 _ _ <| c_seq fun K3 hK3 => c_reg <| s_assign H rfl rfl (lt_ rfl) fun a H => c_nil <| hK3 _ _ <| c_seq fun K4 hK4 => c_seq fun K5 hK5 => c_reg <| s_move H rfl rfl (lt_ rfl) fun a H => s_bin H rfl rfl rfl (r_eqP0 ptr_25) (lt_ rfl) fun a H => c_nil <| hK5 _ _ <| c_cond H rfl (fun h6 => ?_) (fun h6 => ?_)
 ·replace h := h.1 h6
  refine c_seq fun K7 hK7 => c_reg <| s_move H rfl rfl (lt_ rfl) fun a H => s_assign H rfl rfl (lt_ rfl) fun a H => c_nil <| hK7 _ _ <| c_ret ?_
  exact e_ret1 H rfl rfl h
 ·replace h := h.2 h6
  refine c_skip <| hK4 _ _ <| c_seq fun K8 hK8 => c_seq fun K9 hK9 => c_reg <| s_move H rfl rfl (lt_ rfl) fun a H => ?_
  obtain ⟨a10, h148, h⟩ := h
  revert H
  subst h148
  intro H
  refine s_nil H rfl rfl (lt_ rfl) fun a H => s_fld H rfl rfl fld_49_1 (lt_ rfl) fun a H => ?_
  obtain ⟨l11, hc12, h⟩ := h
  refine s_load (v := l11.v) H rfl rfl one_47 hc12 (lt_ rfl) fun a H => s_blt H rfl (H.args (vs := [l11.v]) rfl) (lt_ rfl) (fun cs => b_lenS (z := l11) sl_47) fun a H => s_move H rfl rfl (lt_ rfl) fun a H => c_nil <| hK9 _ _ <| c_block ?_
  obtain ⟨I16, m17, h146, h147⟩ := h
  refine c_loop (σ := Slc × Int) (fun z w => I16 z.1 z.2 w) (fun z w => m17 z.1 z.2 w) (fun z => [(3, z.1.v), (17, l11.v), (18, (.i (l11.l : Int))), (19, (.i z.2))]) (Slc.nil, 0) h146 (H.weaken ⟨rfl, rfl, rfl, rfl, trivial⟩) ?_
  clear H h146
  rintro ⟨l13, s14⟩ a w15 h H
  replace h := h147 l13 s14 w15 h
  clear h147
  replace H : Has 81 [] a [(3, l13.v), (17, l11.v), (18, (.i (l11.l : Int))), (19, (.i s14))] := H
  refine c_seq fun K18 hK18 => c_reg <| s_bin H rfl rfl rfl r_lss (lt_ rfl) fun a H => c_nil <| hK18 _ _ <| c_seq fun K19 hK19 => c_cond H rfl (fun h20 => ?_) (fun h20 => ?_)
  ·replace h := h.1 h20
   refine c_skip <| hK19 _ _ <| c_seq fun K21 hK21 => ?_
   obtain ⟨R23, h, h144⟩ := h
   have h25 : ∀ (a : Act) (l22 : Slc) (w24 : World), R23 l22 w24 → Has 81 [] a [(3, l22.v), (17, l11.v), (18, (.i (l11.l : Int))), (19, (.i s14))] → K21 a w24 := by
    clear h
    intro a l22 w24 h H
    replace h := h144 l22 w24 h
    refine hK21 _ _ <| c_reg <| s_bin H rfl rfl rfl r_add (lt_ rfl) fun a H => s_move H rfl rfl (lt_ rfl) fun a H => c_nil <| Exists.intro (l22, wr .i64 (s14 + 1)) ⟨h.1, h.2, H.weaken ⟨rfl, rfl, rfl, rfl, trivial⟩⟩
   clear h144
   refine c_block <| c_seq fun K26 hK26 => c_reg ?_
   obtain ⟨a27, h28, h29, h30, h⟩ := h
   refine s_idxS (s := l11) H rfl rfl rfl slc_47 h28 h29 h30 (lt_ rfl) fun a H => ?_
   obtain ⟨K31, hc32, C33, hc34, C35, hc36, F37, hc38, H39, hc40, D41, hc42, h⟩ := h
   refine s_loadN (l := [(.string K31), (.i C33), (.i C35), (.bool F37), (.bool H39), D41.v]) H rfl rfl agg_57 rfl ⟨hc32, hc34, hc36, hc38, hc40, hc42, trivial⟩ (lt_ rfl) fun a H => ?_
   replace h := h.get
   obtain ⟨b43, w44, n45, h⟩ := h
   refine s_alloc H rfl zero_57 (lt_ rfl) ?_
   rw [← n45.at_]
   clear H a
   intro a H
   refine n45.go <| s_stoN (l := [(.string K31), (.i C33), (.i C35), (.bool F37), (.bool H39), D41.v]) H rfl rfl rfl rfl agg_57 rfl rfl h ?_
   clear h H
   intro w46 h H
   refine c_nil <| hK26 _ _ <| c_seq fun K47 hK47 => c_reg <| s_assign H rfl rfl (lt_ rfl) fun a H => c_nil <| hK47 _ _ <| c_seq fun K48 hK48 => c_seq fun K49 hK49 => c_reg <| s_move H rfl rfl (lt_ rfl) fun a H => s_blt H rfl (H.args (vs := [l13.v]) rfl) (lt_ rfl) (fun cs => b_lenS (z := l13) sl_67) fun a H => s_move H rfl rfl (lt_ rfl) fun a H => c_nil <| hK49 _ _ <| c_block ?_
   obtain ⟨I53, m54, h142, h143⟩ := h
   refine c_loop (σ := Bool × Int) (fun z w => I53 z.1 z.2 w) (fun z w => m54 z.1 z.2 w) (fun z => [(3, l13.v), (5, (.pointer (some (blk b43)))), (6, (.bool z.1)), (17, l11.v), (18, (.i (l11.l : Int))), (19, (.i s14)), (23, l13.v), (24, (.i (l13.l : Int))), (25, (.i z.2))]) (false, 0) h142 (H.weaken ⟨rfl, rfl, rfl, rfl, rfl, rfl, rfl, rfl, rfl, trivial⟩) ?_
   clear H h142
   rintro ⟨t50, s51⟩ a w52 h H
   replace h := h143 t50 s51 w52 h
   clear h143
   replace H : Has 81 [] a [(3, l13.v), (5, (.pointer (some (blk b43)))), (6, (.bool t50)), (17, l11.v), (18, (.i (l11.l : Int))), (19, (.i s14)), (23, l13.v), (24, (.i (l13.l : Int))), (25, (.i s51))] := H
   refine c_seq fun K55 hK55 => c_reg <| s_bin H rfl rfl rfl r_lss (lt_ rfl) fun a H => c_nil <| hK55 _ _ <| c_seq fun K56 hK56 => c_cond H rfl (fun h57 => ?_) (fun h57 => ?_)
   ·replace h := h.1 h57
    refine c_skip <| hK56 _ _ <| c_seq fun K58 hK58 => c_block <| c_seq fun K59 hK59 => c_reg ?_
    obtain ⟨a60, h61, h62, h63, h⟩ := h
    refine s_idxS (s := l13) H rfl rfl rfl slc_67 h61 h62 h63 (lt_ rfl) fun a H => ?_
    obtain ⟨l64, hc65, h⟩ := h
    refine s_load (v := (.string l64)) H rfl rfl one_9 hc65 (lt_ rfl) fun a H => s_assign H rfl rfl (lt_ rfl) fun a H => c_nil <| hK59 _ _ <| c_reg <| s_move H rfl rfl (lt_ rfl) fun a H => s_move H rfl rfl (lt_ rfl) fun a H => ?_
    obtain ⟨x70, h71, h72, h⟩ := h
    refine g_join (n := 81) [(35, (.bool x70)), (3, l13.v), (5, (.pointer (some (blk b43)))), (17, l11.v), (18, (.i (l11.l : Int))), (19, (.i s14)), (23, l13.v), (24, (.i (l13.l : Int))), (25, (.i s51))] (.succ (.succ (.succ (.succ (.succ (.zero _)))))) ?_ ?_
    ·intro h67
     try clear h
     rcases Bool.eq_false_or_eq_true t50 with h66 | h66
     ·replace H := H.ch (t := 30) (b := true) rfl h66
      iterate 4 refine s_skip H (wantN H rfl rfl rfl) rfl (lt_ rfl) fun a H => ?_
      refine s_pickT H rfl rfl rfl (lt_ rfl) fun a H => ?_
      replace h := h72 h66
      subst h
      exact h67 _ (H.weaken ⟨rfl, rfl, rfl, rfl, rfl, rfl, rfl, rfl, rfl, trivial⟩)
     ·replace H := H.ch (t := 30) (b := false) rfl h66
      replace h := h71 h66
      refine s_move H (wantG H rfl rfl) rfl (lt_ rfl) fun a H => s_fld H (wantG H rfl rfl) rfl fld_57_0 (lt_ rfl) fun a H => ?_
      obtain ⟨l68, hc69, h⟩ := h
      refine s_load (v := (.string l68)) H (wantG H rfl rfl) rfl one_9 hc69 (lt_ rfl) fun a H => s_bin H (wantG H rfl rfl) rfl rfl r_eqlS (lt_ rfl) fun a H => s_pickF H rfl rfl rfl (lt_ rfl) fun a H => ?_
      subst h
      exact h67 _ (H.weaken ⟨rfl, rfl, rfl, rfl, rfl, rfl, rfl, rfl, rfl, trivial⟩)
    ·clear H a
     clear h71 h72
     intro a H
     refine s_assign H rfl rfl (lt_ rfl) fun a H => c_nil <| hK58 _ _ <| c_reg <| s_bin H rfl rfl rfl r_add (lt_ rfl) fun a H => s_move H rfl rfl (lt_ rfl) fun a H => c_nil <| Exists.intro (x70, wr .i64 (s51 + 1)) ⟨h.1, h.2, H.weaken ⟨rfl, rfl, rfl, rfl, rfl, rfl, rfl, rfl, rfl, trivial⟩⟩
   ·replace h := h.2 h57
    refine c_exit ?_
    first | (simp only [Exit.then, Exit.inBlock, ↓reduceIte]; fail_if_success simp only [Nat.reduceEqDiff]) | simp only [Exit.then, Exit.inBlock, ↓reduceIte, Nat.reduceEqDiff]
    refine hK48 _ _ <| c_seq fun K73 hK73 => c_seq fun K74 hK74 => c_reg <| s_move H rfl rfl (lt_ rfl) fun a H => c_nil <| hK74 _ _ <| c_cond H rfl (fun h75 => ?_) (fun h75 => ?_)
    ·replace h := h.1 h75
     refine c_exit ?_
     first | (simp only [Exit.then, Exit.inBlock, ↓reduceIte]; fail_if_success simp only [Nat.reduceEqDiff]) | simp only [Exit.then, Exit.inBlock, ↓reduceIte, Nat.reduceEqDiff]
     exact h25 _ _ _ h (H.weaken ⟨rfl, rfl, rfl, rfl, trivial⟩)
    ·replace h := h.2 h75
     refine c_skip <| hK73 _ _ <| c_seq fun K76 hK76 => c_reg <| s_move H rfl rfl (lt_ rfl) fun a H => s_fld H rfl rfl fld_57_0 (lt_ rfl) fun a H => ?_
     obtain ⟨l77, hc78, h⟩ := h
     refine s_load (v := (.string l77)) H rfl rfl one_9 hc78 (lt_ rfl) fun a H => ?_
     replace h := h.get
     obtain ⟨b79, w80, n81, h⟩ := h
     refine s_bslc H rfl (by rw [H.parts (vs := [(0, (.string l77))]) rfl]; exact bs_67_1_s0 w52 l77) (lt_ rfl) ?_
     rw [← n81.at_]
     clear H a
     intro a H
     refine n81.go ?_
     obtain ⟨s82, w83, h84, h⟩ := h
     refine s_blt H rfl (H.args (vs := [l13.v, (Slc.v (Slc.mk (some (blk b79)) 1 1))]) rfl) (lt_ rfl) (fun cs => b_app (z := s82) h84) ?_
     clear H a h84
     intro a H
     refine s_assign H rfl rfl (lt_ rfl) fun a H => c_nil <| hK76 _ _ <| c_seq fun K85 hK85 => c_reg <| s_move H rfl rfl (lt_ rfl) fun a H => s_blt H rfl (H.args (vs := [s82.v]) rfl) (lt_ rfl) (fun cs => b_lenS (z := s82) sl_67) fun a H => s_bin H rfl rfl rfl r_sub (lt_ rfl) fun a H => s_assign H rfl rfl (lt_ rfl) fun a H => c_nil <| hK85 _ _ <| c_block ?_
     obtain ⟨I88, m89, h140, h141⟩ := h
     refine c_loop (σ := Int) (fun z w => I88 z w) (fun z w => m89 z w) (fun z => [(3, s82.v), (9, (.i z)), (17, l11.v), (18, (.i (l11.l : Int))), (19, (.i s14))]) (wr .i64 ((s82.l : Int) - 1)) h140 (H.weaken ⟨rfl, rfl, rfl, rfl, rfl, trivial⟩) ?_
     clear H h140
     rintro i86 a w87 h H
     replace h := h141 i86 w87 h
     clear h141
     replace H : Has 81 [] a [(3, s82.v), (9, (.i i86)), (17, l11.v), (18, (.i (l11.l : Int))), (19, (.i s14))] := H
     refine c_seq fun K90 hK90 => c_seq fun K91 hK91 => c_regD mixed (by kernel_rfl) <| z_move H rfl rfl (lt_ rfl) fun a H => z_bin H rfl rfl rfl r_gtr (lt_ rfl) fun a H => z_move H rfl rfl (lt_ rfl) fun a H => ?_
     obtain ⟨x107, h108, h109, h⟩ := h
     refine zg_join (n := 81) [(59, (.bool x107)), (3, s82.v), (9, (.i i86)), (17, l11.v), (18, (.i (l11.l : Int))), (19, (.i s14))] (.succ (.succ (.succ (.succ (.succ (.succ (.succ (.succ (.succ (.succ (.succ (.zero _)))))))))))) ?_ ?_
     ·intro h94
      try clear h
      rcases Bool.eq_false_or_eq_true (decide (0 < i86)) with h93 | h93
      ·replace H := H.ch (t := 48) (b := true) rfl h93
       replace h := h108 h93
       refine z_move H (wantG H rfl rfl) rfl (lt_ rfl) fun a H => z_move H (wantG H rfl rfl) rfl (lt_ rfl) fun a H => ?_
       obtain ⟨a95, h96, h97, h98, h⟩ := h
       refine z_idxS (s := s82) H (wantG H rfl rfl) rfl rfl slc_67 h96 h97 h98 (lt_ rfl) fun a H => ?_
       obtain ⟨l99, hc100, h⟩ := h
       refine z_load (v := (.string l99)) H (wantG H rfl rfl) rfl one_9 hc100 (lt_ rfl) fun a H => z_move H (wantG H rfl rfl) rfl (lt_ rfl) fun a H => z_move H (wantG H rfl rfl) rfl (lt_ rfl) fun a H => z_bin H (wantG H rfl rfl) rfl rfl r_sub (lt_ rfl) fun a H => ?_
       obtain ⟨a101, h102, h103, h104, h⟩ := h
       refine z_idxS (s := s82) H (wantG H rfl rfl) rfl rfl slc_67 h102 h103 h104 (lt_ rfl) fun a H => ?_
       obtain ⟨l105, hc106, h⟩ := h
       refine z_load (v := (.string l105)) H (wantG H rfl rfl) rfl one_9 hc106 (lt_ rfl) fun a H => z_bin H (wantG H rfl rfl) rfl rfl r_lssS (lt_ rfl) fun a H => z_pickT H rfl rfl rfl (lt_ rfl) fun a H => ?_
       subst h
       exact h94 _ (H.weaken ⟨rfl, rfl, rfl, rfl, rfl, rfl, trivial⟩)
      ·replace H := H.ch (t := 48) (b := false) rfl h93
       iterate 10 refine z_skip H (wantN H rfl rfl rfl) rfl (lt_ rfl) fun a H => ?_
       refine z_pickF H rfl rfl rfl (lt_ rfl) fun a H => ?_
       replace h := h109 h93
       subst h
       exact h94 _ (H.weaken ⟨rfl, rfl, rfl, rfl, rfl, rfl, trivial⟩)
     ·clear H a
      clear h108 h109
      intro a H
      refine wpQuiet_nil ?_
      rintro _ ⟨k92, rfl⟩
      replace h := h k92
      refine hK91 _ _ <| c_cond H rfl (fun h110 => ?_) (fun h110 => ?_)
      ·replace h := h.1 h110
       refine c_skip <| hK90 _ _ <| c_seq fun K111 hK111 => c_block <| c_seq fun K112 hK112 => c_reg <| s_move H rfl rfl (lt_ rfl) fun a H => s_move H rfl rfl (lt_ rfl) fun a H => ?_
       obtain ⟨a113, h114, h115, h116, h⟩ := h
       refine s_idxS (s := s82) H rfl rfl rfl slc_67 h114 h115 h116 (lt_ rfl) fun a H => ?_
       obtain ⟨l117, hc118, h⟩ := h
       refine s_load (v := (.string l117)) H rfl rfl one_9 hc118 (lt_ rfl) fun a H => s_assign H rfl rfl (lt_ rfl) fun a H => c_nil <| hK112 _ _ <| c_seq fun K119 hK119 => c_reg ?_
       iterate 4 refine s_move H rfl rfl (lt_ rfl) fun a H => ?_
       refine s_bin H rfl rfl rfl r_sub (lt_ rfl) fun a H => ?_
       obtain ⟨a120, h121, h122, h123, h⟩ := h
       refine s_idxS (s := s82) H rfl rfl rfl slc_67 h121 h122 h123 (lt_ rfl) fun a H => ?_
       obtain ⟨l124, hc125, h⟩ := h
       refine s_load (v := (.string l124)) H rfl rfl one_9 hc125 (lt_ rfl) fun a H => ?_
       obtain ⟨a126, h127, h128, h129, h⟩ := h
       refine s_idxS (s := s82) H rfl rfl rfl slc_67 h127 h128 h129 (lt_ rfl) fun a H => ?_
       obtain ⟨h131, h132, h⟩ := h
       refine s_sto (p := a126.add (Int.toNat (i86) * 1)) (v := (.string l124)) H rfl rfl rfl rfl one_9 rfl h131 h132 ?_
       clear H
       intro H
       generalize hww130 : World.setCell (w87.drewN k92) (a126.add (Int.toNat (i86) * 1)) (.string l124) = w130 at h ⊢
       have w130S : SetAt (w87.drewN k92) (a126.add (Int.toNat (i86) * 1)) (.string l124) w130 := ⟨hww130.symm⟩
       clear hww130 h131 h132
       refine c_nil <| hK119 _ _ <| c_reg <| s_move H rfl rfl (lt_ rfl) fun a H => s_move H rfl rfl (lt_ rfl) fun a H => s_bin H rfl rfl rfl r_sub (lt_ rfl) fun a H => s_move H rfl rfl (lt_ rfl) fun a H => ?_
       obtain ⟨a133, h134, h135, h136, h⟩ := h
       refine s_idxS (s := s82) H rfl rfl rfl slc_67 h134 h135 h136 (lt_ rfl) fun a H => ?_
       obtain ⟨h138, h139, h⟩ := h
       refine s_sto (p := a133.add (Int.toNat (wr .i64 (i86 - 1)) * 1)) (v := (.string l117)) H rfl rfl rfl rfl one_9 rfl h138 h139 ?_
       clear H
       intro H
       generalize hww137 : World.setCell w130 (a133.add (Int.toNat (wr .i64 (i86 - 1)) * 1)) (.string l117) = w137 at h ⊢
       have w137S : SetAt w130 (a133.add (Int.toNat (wr .i64 (i86 - 1)) * 1)) (.string l117) w137 := ⟨hww137.symm⟩
       clear hww137 h138 h139
       refine c_nil <| hK111 _ _ <| c_reg <| s_move H rfl rfl (lt_ rfl) fun a H => s_bin H rfl rfl rfl r_sub (lt_ rfl) fun a H => s_assign H rfl rfl (lt_ rfl) fun a H => c_nil <| Exists.intro (wr .i64 (i86 - 1)) ⟨h.1, h.2, H.weaken ⟨rfl, rfl, rfl, rfl, rfl, trivial⟩⟩
      ·replace h := h.2 h110
       refine c_exit ?_
       first | (simp only [Exit.then, Exit.inBlock, ↓reduceIte]; fail_if_success simp only [Nat.reduceEqDiff]) | simp only [Exit.then, Exit.inBlock, ↓reduceIte, Nat.reduceEqDiff]
       exact h25 _ _ _ h (H.weaken ⟨rfl, rfl, rfl, rfl, trivial⟩)
  ·replace h := h.2 h20
   refine c_exit ?_
   first | (simp only [Exit.then, Exit.inBlock, ↓reduceIte]; fail_if_success simp only [Nat.reduceEqDiff]) | simp only [Exit.then, Exit.inBlock, ↓reduceIte, Nat.reduceEqDiff]
   refine hK8 _ _ <| c_seq fun K145 hK145 => c_reg <| s_move H rfl rfl (lt_ rfl) fun a H => s_assign H rfl rfl (lt_ rfl) fun a H => c_nil <| hK145 _ _ <| c_ret ?_
   exact e_ret1 H rfl rfl h

theorem sim_sherdlaw15_sameAll (a1 b2 : Slc) (w : World) (Q : Ending → World → Prop) (h : vc_sherdlaw15_sameAll a1 b2 w Q) : Calls PP F_sherdlaw15_sameAll #[a1.v, b2.v] w Q := by
 unfold vc_sherdlaw15_sameAll at h
 refine enter (n := 42) Tryz.func29 rfl rfl (Nat.le_of_ble_eq_true rfl) fun a H => c_seq fun K3 hK3 => c_reg <| s_assign H rfl rfl (lt_ rfl) fun a H => c_nil <| hK3 _ _ <| c_seq fun K4 hK4 => c_seq fun K5 hK5 => c_reg <| s_move H rfl rfl (lt_ rfl) fun a H => s_blt H rfl (H.args (vs := [a1.v]) rfl) (lt_ rfl) (fun cs => b_lenS (z := a1) sl_70) fun a H => s_move H rfl rfl (lt_ rfl) fun a H => s_blt H rfl (H.args (vs := [b2.v]) rfl) (lt_ rfl) (fun cs => b_lenS (z := b2) sl_70) fun a H => ?_
 refine s_bin H rfl rfl rfl r_neq (lt_ rfl) fun a H => c_nil <| hK5 _ _ <| c_cond H rfl (fun h6 => ?_) (fun h6 => ?_)
 ·replace h := h.1 h6
  refine c_seq fun K7 hK7 => c_reg <| s_assign H rfl rfl (lt_ rfl) fun a H => c_nil <| hK7 _ _ <| c_ret ?_
  exact e_ret1 H rfl rfl h
 ·replace h := h.2 h6
  refine c_skip <| hK4 _ _ <| c_seq fun K8 hK8 => c_seq fun K9 hK9 => c_reg <| s_move H rfl rfl (lt_ rfl) fun a H => s_blt H rfl (H.args (vs := [a1.v]) rfl) (lt_ rfl) (fun cs => b_lenS (z := a1) sl_70) fun a H => s_move H rfl rfl (lt_ rfl) fun a H => c_nil <| hK9 _ _ <| c_block ?_
  obtain ⟨I12, m13, h59, h60⟩ := h
  refine c_loop (σ := Int) (fun z w => I12 z w) (fun z w => m13 z w) (fun z => [(0, a1.v), (1, b2.v), (12, (.i (a1.l : Int))), (13, (.i z))]) 0 h59 (H.weaken ⟨rfl, rfl, rfl, rfl, trivial⟩) ?_
  clear H h59
  rintro s10 a w11 h H
  replace h := h60 s10 w11 h
  clear h60
  replace H : Has 42 [] a [(0, a1.v), (1, b2.v), (12, (.i (a1.l : Int))), (13, (.i s10))] := H
  refine c_seq fun K14 hK14 => c_reg <| s_bin H rfl rfl rfl r_lss (lt_ rfl) fun a H => c_nil <| hK14 _ _ <| c_seq fun K15 hK15 => c_cond H rfl (fun h16 => ?_) (fun h16 => ?_)
  ·replace h := h.1 h16
   refine c_skip <| hK15 _ _ <| c_seq fun K17 hK17 => c_block <| c_seq fun K18 hK18 => c_reg <| s_move H rfl rfl (lt_ rfl) fun a H => s_assign H rfl rfl (lt_ rfl) fun a H => c_nil <| hK18 _ _ <| c_seq fun K19 hK19 => ?_
   obtain ⟨R21, h, h57⟩ := h
   have h25 : ∀ (a : Act) (s20 : Bool) (w22 : World), R21 s20 w22 → Has 42 [] a [(0, a1.v), (1, b2.v), (12, (.i (a1.l : Int))), (13, (.i s10)), (40, (.bool s20))] → K19 a w22 := by
    clear h
    intro a s20 w22 h H
    replace h := h57 s20 w22 h
    refine hK19 _ _ <| c_cond H rfl (fun h23 => ?_) (fun h23 => ?_)
    ·replace h := h.1 h23
     refine c_seq fun K24 hK24 => c_reg <| s_assign H rfl rfl (lt_ rfl) fun a H => c_nil <| hK24 _ _ <| c_ret ?_
     exact e_ret1 H rfl rfl h
    ·replace h := h.2 h23
     refine c_skip <| hK17 _ _ <| c_reg <| s_bin H rfl rfl rfl r_add (lt_ rfl) fun a H => s_move H rfl rfl (lt_ rfl) fun a H => c_nil <| Exists.intro (wr .i64 (s10 + 1)) ⟨h.1, h.2, H.weaken ⟨rfl, rfl, rfl, rfl, trivial⟩⟩
   clear h57
   replace H := H.weaken (L' := [(0, a1.v), (1, b2.v), (5, (.i s10)), (12, (.i (a1.l : Int))), (13, (.i s10))]) ⟨rfl, rfl, rfl, rfl, rfl, trivial⟩
   obtain ⟨a26, h27, h28, h29, l30, hc31, a32, h33, h34, h35, l36, hc37, h⟩ := h
   rcases Bool.eq_false_or_eq_true (decide (l30.toList ≠ l36.toList)) with h38 | h38
   ·replace h := h.1 h38
    refine c_any (V := [(0, a1.v), (1, (.i s10)), (2, (.pointer (some (a26.add (Int.toNat (s10) * 2))))), (3, (.pointer (some ((a26.add (Int.toNat (s10) * 2)).add 0)))), (4, (.string l30)), (5, b2.v), (6, (.i s10)), (7, (.pointer (some (a32.add (Int.toNat (s10) * 2))))), (8, (.pointer (some ((a32.add (Int.toNat (s10) * 2)).add 0)))), (9, (.string l36)), (10, (.bool (decide (l30.toList ≠ l36.toList)))), (11, (.bool (decide (l30.toList ≠ l36.toList)))), (12, undef), (13, undef), (14, undef), (15, undef), (16, undef), (17, undef), (18, undef), (19, undef), (20, undef), (21, undef)]) (⟨[[], [], [0, 1], [2], [3], [], [], [5, 6], [7], [8], [4, 9], [10], [11], [11], [11, 12, 13], [11, 14], [11, 15], [11], [11], [11, 17, 18], [11, 19], [11, 20], [11, 16, 21], [11, 22], [11, 23]], [some 16, some 17, some 18, some 19, some 20, some 21, some 22, some 23, some 24, some 25, some 26, some 27, some 28, some 29, some 30, some 31, some 32, some 33, some 34, some 35, some 36, some 37, some 38, some 39, some 40], [22], [0, 0, 0, 0, 0, 0, 0, 0, 0, 0, 0, 0, 0, 0, 0, 0, 0, 0, 0, 0, 0, 0, 0, 1, 1], [0, 0, 0, 0, 0, 0, 0, 0, 0, 0, 0, 0, 0, 0, 0, 0, 0, 0, 0, 0, 0, 0, 1, 1, 1]⟩ : Rg) [(0, a1.v), (1, b2.v), (5, (.i s10)), (12, (.i (a1.l : Int))), (13, (.i s10))] mixed (by kernel_rfl) H ?_
    refine Stg.eff [0, 1, 2, 3, 4, 5, 6, 7, 8, 9, 10, 11, 12, 13, 14, 15, 16, 17, 18, 19, 20, 21] (by kernel_rfl) rfl (.cons ?_ (.cons ?_ (.cons ?_ (.cons ?_ (.cons ?_ (.cons ?_ (.cons ?_ (.cons ?_ (.cons ?_ (.cons ?_ (.cons ?_ (.cons ?_ (.cons ?_ (.cons ?_ (.cons ?_ (.cons ?_ (.cons ?_ (.cons ?_ (.cons ?_ (.cons ?_ (.cons ?_ (.cons ?_ .nil)))))))))))))))))))))) ?_
    ·refine Ans.mk rfl rfl fun a H => s_move H rfl rfl (lt_ rfl) fun a H => ?_
     exact Ans.fin H rfl
    ·refine Ans.mk rfl rfl fun a H => s_move H rfl rfl (lt_ rfl) fun a H => ?_
     exact Ans.fin H rfl
    ·refine Ans.mk rfl rfl fun a H => s_idxS (s := a1) H rfl rfl rfl slc_70 h27 h28 h29 (lt_ rfl) fun a H => ?_
     exact Ans.fin H rfl
    ·refine Ans.mk rfl rfl fun a H => s_fld H rfl rfl fld_92_0 (lt_ rfl) fun a H => ?_
     exact Ans.fin H rfl
    ·refine Ans.mk rfl rfl fun a H => s_load (v := (.string l30)) H rfl rfl one_9 hc31 (lt_ rfl) fun a H => ?_
     exact Ans.fin H rfl
    ·refine Ans.mk rfl rfl fun a H => s_move H rfl rfl (lt_ rfl) fun a H => ?_
     exact Ans.fin H rfl
    ·refine Ans.mk rfl rfl fun a H => s_move H rfl rfl (lt_ rfl) fun a H => ?_
     exact Ans.fin H rfl
    ·refine Ans.mk rfl rfl fun a H => s_idxS (s := b2) H rfl rfl rfl slc_70 h33 h34 h35 (lt_ rfl) fun a H => ?_
     exact Ans.fin H rfl
    ·refine Ans.mk rfl rfl fun a H => s_fld H rfl rfl fld_92_0 (lt_ rfl) fun a H => ?_
     exact Ans.fin H rfl
    ·refine Ans.mk rfl rfl fun a H => s_load (v := (.string l36)) H rfl rfl one_9 hc37 (lt_ rfl) fun a H => ?_
     exact Ans.fin H rfl
    ·refine Ans.mk rfl rfl fun a H => s_bin H rfl rfl rfl r_neqS (lt_ rfl) fun a H => ?_
     exact Ans.fin H rfl
    ·refine Ans.mk rfl rfl fun a H => s_move H rfl rfl (lt_ rfl) fun a H => ?_
     exact Ans.fin H rfl
    ·exact .skip rfl rfl rfl rfl rfl rfl h38 rfl
    ·exact .skip rfl rfl rfl rfl rfl rfl h38 rfl
    ·exact .skip rfl rfl rfl rfl rfl rfl h38 rfl
    ·exact .skip rfl rfl rfl rfl rfl rfl h38 rfl
    ·exact .skip rfl rfl rfl rfl rfl rfl h38 rfl
    ·exact .skip rfl rfl rfl rfl rfl rfl h38 rfl
    ·exact .skip rfl rfl rfl rfl rfl rfl h38 rfl
    ·exact .skip rfl rfl rfl rfl rfl rfl h38 rfl
    ·exact .skip rfl rfl rfl rfl rfl rfl h38 rfl
    ·exact .skip rfl rfl rfl rfl rfl rfl h38 rfl
    ·intro a H
     replace H := H.weaken (L' := [(27, (.bool (decide (l30.toList ≠ l36.toList)))), (32, undef), (37, undef)]) ⟨rfl, rfl, rfl, trivial⟩
     replace H := H.ch (t := 27) (b := true) rfl h38
     refine s_skip H (wantN H rfl rfl rfl) rfl (lt_ rfl) fun a H => c_nil <| effQ.go [(23, undef), (24, (.bool true))] H rfl rfl <| Stg.fin [23, 24] (by kernel_rfl) (.cons ?_ (.cons ?_ .nil)) ?_
     ·exact .skip rfl rfl rfl rfl rfl rfl h38 rfl
     ·refine Ans.mk rfl rfl fun a H => ?_
      replace H := H.ch (t := 27) (b := true) rfl h38
      refine s_pickT H rfl rfl rfl (lt_ rfl) fun a H => ?_
      exact Ans.fin H rfl
     ·intro a H
      replace H := H.weaken (L' := [(0, a1.v), (1, b2.v), (12, (.i (a1.l : Int))), (13, (.i s10)), (40, (.bool true))]) ⟨rfl, rfl, rfl, rfl, rfl, trivial⟩
      exact h25 _ _ _ h (H.weaken ⟨rfl, rfl, rfl, rfl, rfl, trivial⟩)
   ·replace h := h.2 h38
    obtain ⟨a39, h40, h41, h42, l43, hc44, a45, h46, h47, h48, l49, hc50, h⟩ := h
    refine c_any (V := [(0, a1.v), (1, (.i s10)), (2, (.pointer (some (a26.add (Int.toNat (s10) * 2))))), (3, (.pointer (some ((a26.add (Int.toNat (s10) * 2)).add 0)))), (4, (.string l30)), (5, b2.v), (6, (.i s10)), (7, (.pointer (some (a32.add (Int.toNat (s10) * 2))))), (8, (.pointer (some ((a32.add (Int.toNat (s10) * 2)).add 0)))), (9, (.string l36)), (10, (.bool (decide (l30.toList ≠ l36.toList)))), (11, (.bool (decide (l30.toList ≠ l36.toList)))), (12, a1.v), (13, (.i s10)), (14, (.pointer (some (a39.add (Int.toNat (s10) * 2))))), (15, (.pointer (some ((a39.add (Int.toNat (s10) * 2)).add 1)))), (16, l43.v), (17, b2.v), (18, (.i s10)), (19, (.pointer (some (a45.add (Int.toNat (s10) * 2))))), (20, (.pointer (some ((a45.add (Int.toNat (s10) * 2)).add 1)))), (21, l49.v)]) (⟨[[], [], [0, 1], [2], [3], [], [], [5, 6], [7], [8], [4, 9], [10], [11], [11], [11, 12, 13], [11, 14], [11, 15], [11], [11], [11, 17, 18], [11, 19], [11, 20], [11, 16, 21], [11, 22], [11, 23]], [some 16, some 17, some 18, some 19, some 20, some 21, some 22, some 23, some 24, some 25, some 26, some 27, some 28, some 29, some 30, some 31, some 32, some 33, some 34, some 35, some 36, some 37, some 38, some 39, some 40], [22], [0, 0, 0, 0, 0, 0, 0, 0, 0, 0, 0, 0, 0, 0, 0, 0, 0, 0, 0, 0, 0, 0, 0, 1, 1], [0, 0, 0, 0, 0, 0, 0, 0, 0, 0, 0, 0, 0, 0, 0, 0, 0, 0, 0, 0, 0, 0, 1, 1, 1]⟩ : Rg) [(0, a1.v), (1, b2.v), (5, (.i s10)), (12, (.i (a1.l : Int))), (13, (.i s10))] mixed (by kernel_rfl) H ?_
    refine Stg.eff [0, 1, 2, 3, 4, 5, 6, 7, 8, 9, 10, 11, 12, 13, 14, 15, 16, 17, 18, 19, 20, 21] (by kernel_rfl) rfl (.cons ?_ (.cons ?_ (.cons ?_ (.cons ?_ (.cons ?_ (.cons ?_ (.cons ?_ (.cons ?_ (.cons ?_ (.cons ?_ (.cons ?_ (.cons ?_ (.cons ?_ (.cons ?_ (.cons ?_ (.cons ?_ (.cons ?_ (.cons ?_ (.cons ?_ (.cons ?_ (.cons ?_ (.cons ?_ .nil)))))))))))))))))))))) ?_
    ·refine Ans.mk rfl rfl fun a H => s_move H rfl rfl (lt_ rfl) fun a H => ?_
     exact Ans.fin H rfl
    ·refine Ans.mk rfl rfl fun a H => s_move H rfl rfl (lt_ rfl) fun a H => ?_
     exact Ans.fin H rfl
    ·refine Ans.mk rfl rfl fun a H => s_idxS (s := a1) H rfl rfl rfl slc_70 h27 h28 h29 (lt_ rfl) fun a H => ?_
     exact Ans.fin H rfl
    ·refine Ans.mk rfl rfl fun a H => s_fld H rfl rfl fld_92_0 (lt_ rfl) fun a H => ?_
     exact Ans.fin H rfl
    ·refine Ans.mk rfl rfl fun a H => s_load (v := (.string l30)) H rfl rfl one_9 hc31 (lt_ rfl) fun a H => ?_
     exact Ans.fin H rfl
    ·refine Ans.mk rfl rfl fun a H => s_move H rfl rfl (lt_ rfl) fun a H => ?_
     exact Ans.fin H rfl
    ·refine Ans.mk rfl rfl fun a H => s_move H rfl rfl (lt_ rfl) fun a H => ?_
     exact Ans.fin H rfl
    ·refine Ans.mk rfl rfl fun a H => s_idxS (s := b2) H rfl rfl rfl slc_70 h33 h34 h35 (lt_ rfl) fun a H => ?_
     exact Ans.fin H rfl
    ·refine Ans.mk rfl rfl fun a H => s_fld H rfl rfl fld_92_0 (lt_ rfl) fun a H => ?_
     exact Ans.fin H rfl
    ·refine Ans.mk rfl rfl fun a H => s_load (v := (.string l36)) H rfl rfl one_9 hc37 (lt_ rfl) fun a H => ?_
     exact Ans.fin H rfl
    ·refine Ans.mk rfl rfl fun a H => s_bin H rfl rfl rfl r_neqS (lt_ rfl) fun a H => ?_
     exact Ans.fin H rfl
    ·refine Ans.mk rfl rfl fun a H => s_move H rfl rfl (lt_ rfl) fun a H => ?_
     exact Ans.fin H rfl
    ·refine Ans.mk rfl rfl fun a H => ?_
     replace H := H.ch (t := 27) (b := false) rfl h38
     refine s_move H (wantG H rfl rfl) rfl (lt_ rfl) fun a H => ?_
     exact Ans.fin H rfl
    ·refine Ans.mk rfl rfl fun a H => ?_
     replace H := H.ch (t := 27) (b := false) rfl h38
     refine s_move H (wantG H rfl rfl) rfl (lt_ rfl) fun a H => ?_
     exact Ans.fin H rfl
    ·refine Ans.mk rfl rfl fun a H => ?_
     replace H := H.ch (t := 27) (b := false) rfl h38
     refine s_idxS (s := a1) H (wantG H rfl rfl) rfl rfl slc_70 h40 h41 h42 (lt_ rfl) fun a H => ?_
     exact Ans.fin H rfl
    ·refine Ans.mk rfl rfl fun a H => ?_
     replace H := H.ch (t := 27) (b := false) rfl h38
     refine s_fld H (wantG H rfl rfl) rfl fld_92_1 (lt_ rfl) fun a H => ?_
     exact Ans.fin H rfl
    ·refine Ans.mk rfl rfl fun a H => ?_
     replace H := H.ch (t := 27) (b := false) rfl h38
     refine s_load (v := l43.v) H (wantG H rfl rfl) rfl one_64 hc44 (lt_ rfl) fun a H => ?_
     exact Ans.fin H rfl
    ·refine Ans.mk rfl rfl fun a H => ?_
     replace H := H.ch (t := 27) (b := false) rfl h38
     refine s_move H (wantG H rfl rfl) rfl (lt_ rfl) fun a H => ?_
     exact Ans.fin H rfl
    ·refine Ans.mk rfl rfl fun a H => ?_
     replace H := H.ch (t := 27) (b := false) rfl h38
     refine s_move H (wantG H rfl rfl) rfl (lt_ rfl) fun a H => ?_
     exact Ans.fin H rfl
    ·refine Ans.mk rfl rfl fun a H => ?_
     replace H := H.ch (t := 27) (b := false) rfl h38
     refine s_idxS (s := b2) H (wantG H rfl rfl) rfl rfl slc_70 h46 h47 h48 (lt_ rfl) fun a H => ?_
     exact Ans.fin H rfl
    ·refine Ans.mk rfl rfl fun a H => ?_
     replace H := H.ch (t := 27) (b := false) rfl h38
     refine s_fld H (wantG H rfl rfl) rfl fld_92_1 (lt_ rfl) fun a H => ?_
     exact Ans.fin H rfl
    ·refine Ans.mk rfl rfl fun a H => ?_
     replace H := H.ch (t := 27) (b := false) rfl h38
     refine s_load (v := l49.v) H (wantG H rfl rfl) rfl one_64 hc50 (lt_ rfl) fun a H => ?_
     exact Ans.fin H rfl
    ·intro a H
     replace H := H.weaken (L' := [(27, (.bool (decide (l30.toList ≠ l36.toList)))), (32, l43.v), (37, l49.v)]) ⟨rfl, rfl, rfl, trivial⟩
     replace H := H.ch (t := 27) (b := false) rfl h38
     refine s_call H (wantG H rfl rfl) body_23 (H.args (vs := [l43.v, l49.v]) rfl) (lt_ rfl) h ?_ (fun c w' h H => e_panic (P := PP) (fn := Tryz.f29) H h)
     clear H h a
     rintro _ w51 a ⟨s52, rfl, h⟩ H
     refine c_nil <| effQ.go [(23, (.bool (!s52))), (24, (.bool (!s52)))] H rfl rfl <| Stg.fin [23, 24] (by kernel_rfl) (.cons ?_ (.cons ?_ .nil)) ?_
     ·refine Ans.mk rfl rfl fun a H => ?_
      replace H := H.ch (t := 27) (b := false) rfl h38
      refine s_un H (wantG H rfl rfl) rfl r_not (lt_ rfl) fun a H => ?_
      exact Ans.fin H rfl
     ·refine Ans.mk rfl rfl fun a H => ?_
      replace H := H.ch (t := 27) (b := false) rfl h38
      refine s_pickF H rfl rfl rfl (lt_ rfl) fun a H => ?_
      exact Ans.fin H rfl
     ·intro a H
      replace H := H.weaken (L' := [(0, a1.v), (1, b2.v), (12, (.i (a1.l : Int))), (13, (.i s10)), (40, (.bool (!s52)))]) ⟨rfl, rfl, rfl, rfl, rfl, trivial⟩
      exact h25 _ _ _ h (H.weaken ⟨rfl, rfl, rfl, rfl, rfl, trivial⟩)
  ·replace h := h.2 h16
   refine c_exit ?_
   first | (simp only [Exit.then, Exit.inBlock, ↓reduceIte]; fail_if_success simp only [Nat.reduceEqDiff]) | simp only [Exit.then, Exit.inBlock, ↓reduceIte, Nat.reduceEqDiff]
   refine hK8 _ _ <| c_seq fun K58 hK58 => c_reg <| s_assign H rfl rfl (lt_ rfl) fun a H => c_nil <| hK58 _ _ <| c_ret ?_
   exact e_ret1 H rfl rfl h

theorem sim_table_Table_All (t1 : Option Addr) (w : World) (Q : Ending → World → Prop) (h : vc_table_Table_All t1 w Q) : Calls PP F_table_Table_All #[(.pointer t1)] w Q := by
 unfold vc_table_Table_All at h
 refine enter (n := 23) Tryz.func30 rfl rfl (Nat.le_of_ble_eq_true rfl) fun a H => c_seq fun K2 hK2 => c_reg <| s_assign H rfl rfl (lt_ rfl) fun a H => c_nil <| hK2 _ _ <| c_seq fun K3 hK3 => c_reg <| s_assign H rfl rfl (lt_ rfl) fun a H => c_nil <| hK3 _ _ <| c_seq fun K4 hK4 => c_seq fun K5 hK5 => c_reg <| s_move H rfl rfl (lt_ rfl) fun a H => s_call H rfl body_27 (H.args (vs := [(.pointer t1)]) rfl) (lt_ rfl) h ?_ (fun c w' h H => e_panic (P := PP) (fn := Tryz.f30) H h)
 clear H h a
 rintro _ w6 a ⟨K7, rfl, h⟩ H
 refine s_blt H rfl (H.args (vs := [K7.v]) rfl) (lt_ rfl) (fun cs => b_lenS (z := K7) sl_67) fun a H => s_move H rfl rfl (lt_ rfl) fun a H => c_nil <| hK5 _ _ <| c_block ?_
 obtain ⟨I11, m12, h37, h38⟩ := h
 refine c_loop (σ := Slc × Int) (fun z w => I11 z.1 z.2 w) (fun z w => m12 z.1 z.2 w) (fun z => [(0, (.pointer t1)), (3, z.1.v), (7, K7.v), (8, (.i (K7.l : Int))), (9, (.i z.2))]) (Slc.nil, 0) h37 (H.weaken ⟨rfl, rfl, rfl, rfl, rfl, trivial⟩) ?_
 clear H h37
 rintro ⟨l8, s9⟩ a w10 h H
 replace h := h38 l8 s9 w10 h
 clear h38
 replace H : Has 23 [] a [(0, (.pointer t1)), (3, l8.v), (7, K7.v), (8, (.i (K7.l : Int))), (9, (.i s9))] := H
 refine c_seq fun K13 hK13 => c_reg <| s_bin H rfl rfl rfl r_lss (lt_ rfl) fun a H => c_nil <| hK13 _ _ <| c_seq fun K14 hK14 => c_cond H rfl (fun h15 => ?_) (fun h15 => ?_)
 ·replace h := h.1 h15
  refine c_skip <| hK14 _ _ <| c_seq fun K16 hK16 => c_block <| c_seq fun K17 hK17 => c_reg ?_
  obtain ⟨a18, h19, h20, h21, h⟩ := h
  refine s_idxS (s := K7) H rfl rfl rfl slc_67 h19 h20 h21 (lt_ rfl) fun a H => ?_
  obtain ⟨l22, hc23, h⟩ := h
  refine s_load (v := (.string l22)) H rfl rfl one_9 hc23 (lt_ rfl) fun a H => s_assign H rfl rfl (lt_ rfl) fun a H => c_nil <| hK17 _ _ <| c_reg ?_
  iterate 4 refine s_move H rfl rfl (lt_ rfl) fun a H => ?_
  refine s_call H rfl body_24 (H.args (vs := [(.pointer t1), (.string l22)]) rfl) (lt_ rfl) h ?_ (fun c w' h H => e_panic (P := PP) (fn := Tryz.f30) H h)
  clear H h a
  rintro _ w24 a ⟨E25, rfl, h⟩ H
  refine s_build H rfl (by rw [H.parts (vs := [(0, (.string l22)), (1, E25.v)]) rfl]; exact bd_92_s0_s1 w24 l22 E25) (lt_ rfl) fun a H => ?_
  replace h := h.get
  obtain ⟨b26, w27, n28, h⟩ := h
  refine s_bslc H rfl (by rw [H.parts (vs := [(0, (.agg #[(.string l22), E25.v]))]) rfl]; exact bs_70_1_ss0 w24 l22 E25) (lt_ rfl) ?_
  rw [← n28.at_]
  clear H a
  intro a H
  refine n28.go ?_
  obtain ⟨s29, w30, h31, h⟩ := h
  refine s_blt H rfl (H.args (vs := [l8.v, (Slc.v (Slc.mk (some (blk b26)) 1 1))]) rfl) (lt_ rfl) (fun cs => b_app (z := s29) h31) ?_
  clear H a h31
  intro a H
  refine s_assign H rfl rfl (lt_ rfl) fun a H => c_nil <| hK16 _ _ <| c_reg <| s_bin H rfl rfl rfl r_add (lt_ rfl) fun a H => s_move H rfl rfl (lt_ rfl) fun a H => c_nil <| Exists.intro (s29, wr .i64 (s9 + 1)) ⟨h.1, h.2, H.weaken ⟨rfl, rfl, rfl, rfl, rfl, trivial⟩⟩
 ·replace h := h.2 h15
  refine c_exit ?_
  first | (simp only [Exit.then, Exit.inBlock, ↓reduceIte]; fail_if_success simp only [Nat.reduceEqDiff]) | simp only [Exit.then, Exit.inBlock, ↓reduceIte, Nat.reduceEqDiff]
  refine hK4 _ _ <| c_seq fun K36 hK36 => c_reg <| s_move H rfl rfl (lt_ rfl) fun a H => s_assign H rfl rfl (lt_ rfl) fun a H => c_nil <| hK36 _ _ <| c_ret ?_
  exact e_ret1 H rfl rfl h

theorem sim_sherdref15_Table_All (t1 : Option Addr) (w : World) (Q : Ending → World → Prop) (h : vc_sherdref15_Table_All t1 w Q) : Calls PP F_sherdref15_Table_All #[(.pointer t1)] w Q := by
 unfold vc_sherdref15_Table_All at h
 refine enter (n := 23) Tryz.func31 rfl rfl (Nat.le_of_ble_eq_true rfl) fun a H => c_seq fun K2 hK2 => c_reg <| s_assign H rfl rfl (lt_ rfl) fun a H => c_nil <| hK2 _ _ <| c_seq fun K3 hK3 => c_reg <| s_assign H rfl rfl (lt_ rfl) fun a H => c_nil <| hK3 _ _ <| c_seq fun K4 hK4 => c_seq fun K5 hK5 => c_reg <| s_move H rfl rfl (lt_ rfl) fun a H => s_call H rfl body_28 (H.args (vs := [(.pointer t1)]) rfl) (lt_ rfl) h ?_ (fun c w' h H => e_panic (P := PP) (fn := Tryz.f31) H h)
 clear H h a
 rintro _ w6 a ⟨K7, rfl, h⟩ H
 refine s_blt H rfl (H.args (vs := [K7.v]) rfl) (lt_ rfl) (fun cs => b_lenS (z := K7) sl_67) fun a H => s_move H rfl rfl (lt_ rfl) fun a H => c_nil <| hK5 _ _ <| c_block ?_
 obtain ⟨I11, m12, h37, h38⟩ := h
 refine c_loop (σ := Slc × Int) (fun z w => I11 z.1 z.2 w) (fun z w => m12 z.1 z.2 w) (fun z => [(0, (.pointer t1)), (3, z.1.v), (7, K7.v), (8, (.i (K7.l : Int))), (9, (.i z.2))]) (Slc.nil, 0) h37 (H.weaken ⟨rfl, rfl, rfl, rfl, rfl, trivial⟩) ?_
 clear H h37
 rintro ⟨o8, s9⟩ a w10 h H
 replace h := h38 o8 s9 w10 h
 clear h38
 replace H : Has 23 [] a [(0, (.pointer t1)), (3, o8.v), (7, K7.v), (8, (.i (K7.l : Int))), (9, (.i s9))] := H
 refine c_seq fun K13 hK13 => c_reg <| s_bin H rfl rfl rfl r_lss (lt_ rfl) fun a H => c_nil <| hK13 _ _ <| c_seq fun K14 hK14 => c_cond H rfl (fun h15 => ?_) (fun h15 => ?_)
 ·replace h := h.1 h15
  refine c_skip <| hK14 _ _ <| c_seq fun K16 hK16 => c_block <| c_seq fun K17 hK17 => c_reg ?_
  obtain ⟨a18, h19, h20, h21, h⟩ := h
  refine s_idxS (s := K7) H rfl rfl rfl slc_67 h19 h20 h21 (lt_ rfl) fun a H => ?_
  obtain ⟨l22, hc23, h⟩ := h
  refine s_load (v := (.string l22)) H rfl rfl one_9 hc23 (lt_ rfl) fun a H => s_assign H rfl rfl (lt_ rfl) fun a H => c_nil <| hK17 _ _ <| c_reg ?_
  iterate 4 refine s_move H rfl rfl (lt_ rfl) fun a H => ?_
  refine s_call H rfl body_25 (H.args (vs := [(.pointer t1), (.string l22)]) rfl) (lt_ rfl) h ?_ (fun c w' h H => e_panic (P := PP) (fn := Tryz.f31) H h)
  clear H h a
  rintro _ w24 a ⟨E25, rfl, h⟩ H
  refine s_build H rfl (by rw [H.parts (vs := [(0, (.string l22)), (1, E25.v)]) rfl]; exact bd_92_s0_s1 w24 l22 E25) (lt_ rfl) fun a H => ?_
  replace h := h.get
  obtain ⟨b26, w27, n28, h⟩ := h
  refine s_bslc H rfl (by rw [H.parts (vs := [(0, (.agg #[(.string l22), E25.v]))]) rfl]; exact bs_70_1_ss0 w24 l22 E25) (lt_ rfl) ?_
  rw [← n28.at_]
  clear H a
  intro a H
  refine n28.go ?_
  obtain ⟨s29, w30, h31, h⟩ := h
  refine s_blt H rfl (H.args (vs := [o8.v, (Slc.v (Slc.mk (some (blk b26)) 1 1))]) rfl) (lt_ rfl) (fun cs => b_app (z := s29) h31) ?_
  clear H a h31
  intro a H
  refine s_assign H rfl rfl (lt_ rfl) fun a H => c_nil <| hK16 _ _ <| c_reg <| s_bin H rfl rfl rfl r_add (lt_ rfl) fun a H => s_move H rfl rfl (lt_ rfl) fun a H => c_nil <| Exists.intro (s29, wr .i64 (s9 + 1)) ⟨h.1, h.2, H.weaken ⟨rfl, rfl, rfl, rfl, rfl, trivial⟩⟩
 ·replace h := h.2 h15
  refine c_exit ?_
  first | (simp only [Exit.then, Exit.inBlock, ↓reduceIte]; fail_if_success simp only [Nat.reduceEqDiff]) | simp only [Exit.then, Exit.inBlock, ↓reduceIte, Nat.reduceEqDiff]
  refine hK4 _ _ <| c_seq fun K36 hK36 => c_reg <| s_move H rfl rfl (lt_ rfl) fun a H => s_assign H rfl rfl (lt_ rfl) fun a H => c_nil <| hK36 _ _ <| c_ret ?_
  exact e_ret1 H rfl rfl h
end Go.Proofs.YtgnceldnfefnmaaGreat
