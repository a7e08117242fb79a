/-
  The conditions give the machine's calls; printed by vcgen.py.
-/
import Derived.Test.YtflcdgkckfcofaaGreatDoorRecVc
namespace Go.Proofs.YtflcdgkckfcofaaGreatDoor
open Go Go.Vc
set_option maxRecDepth 100000
set_option maxHeartbeats 4000000
theorem sim_disk_Disk_Slots (d1 : Option Addr) (w : World) (Q : Ending → World → Prop) (h : vc_disk_Disk_Slots d1 w Q) : Calls PP F_disk_Disk_Slots #[(.pointer d1)] w Q := by
 unfold vc_disk_Disk_Slots at h
 refine enter (n := 26) Tryz.func22 rfl rfl (Nat.le_of_ble_eq_true rfl) fun a H => c_seq fun K2 hK2 => c_reg ?_
 replace h := h.get
 obtain ⟨b3, w4, n5, h⟩ := h
 refine s_alloc H rfl zero_52 (lt_ rfl) ?_
 rw [← n5.at_]
 clear H a
 intro a H
 refine n5.go <| s_assign H rfl rfl (lt_ rfl) fun a H => c_nil <| hK2 _ _ <| c_seq fun K6 hK6 => c_seq fun K7 hK7 => c_reg <| s_move H rfl rfl (lt_ rfl) fun a H => s_call H rfl body_37 (H.args (vs := [(.pointer d1)]) rfl) (lt_ rfl) h ?_ (fun c w' h H => e_panic (P := PP) (fn := Tryz.f22) H h)
 clear H h a
 rintro _ w8 a ⟨g9, rfl, h⟩ H
 refine c_nil <| hK7 _ _ <| c_cond H rfl (fun h10 => ?_) (fun h10 => ?_)
 ·replace h := h.1 h10
  refine c_seq fun K11 hK11 => c_reg <| s_build H rfl (by rw [H.parts (vs := []) rfl]; exact bd_52 w8) (lt_ rfl) fun a H => s_stoN (l := [Slc.nil.v, Slc.nil.v]) H rfl rfl rfl rfl agg_52 rfl rfl h ?_
  clear h H
  intro w12 h H
  refine s_assign H rfl rfl (lt_ rfl) fun a H => c_nil <| hK11 _ _ <| c_ret ?_
  obtain ⟨v13, hc14, v15, hc16, h⟩ := h
  exact e_ret2 H rfl ⟨_, rfl, run_loadN (l := [v13.v, v15.v]) agg_52 rfl ⟨hc14, hc16, trivial⟩⟩ rfl h
 ·replace h := h.2 h10
  refine c_skip <| hK6 _ _ <| c_seq fun K17 hK17 => ?_
  replace H := H.weaken (L' := [(0, (.pointer d1)), (2, (.pointer (some (blk b3)))), (3, (.i 0))]) ⟨rfl, rfl, rfl, trivial⟩
  obtain ⟨a18, h19, h⟩ := h
  revert H
  subst h19
  intro H
  obtain ⟨l20, hc21, l22, hc23, l24, hc25, h⟩ := h
  refine c_any (V := [(0, (.pointer (some a18))), (1, (.pointer (some a18))), (2, (.pointer (some (a18.add 0)))), (3, (.pointer (some ((a18.add 0).add 0)))), (4, (.pointer (some (((a18.add 0).add 0).add 1)))), (5, l20.v), (7, (.pointer (some a18))), (8, (.pointer (some a18))), (9, (.pointer (some (a18.add 0)))), (10, (.pointer (some ((a18.add 0).add 3)))), (11, (.pointer (some (((a18.add 0).add 3).add 1)))), (12, l22.v), (15, (.pointer (some a18))), (16, (.pointer (some a18))), (17, (.pointer (some (a18.add 6)))), (18, (.i l24))]) (⟨[[], [0], [1], [2], [3], [4], [5], [], [7], [8], [9], [10], [11], [6, 12], [6, 13], [], [15], [16], [17], [0, 1, 2, 3, 4, 5, 6, 7, 8, 9, 10, 11, 12, 13, 14], [0, 1, 2, 3, 4, 5, 6, 7, 8, 9, 10, 11, 12, 13, 14, 15, 16, 17, 18, 19]], [some 7, some 8, some 9, some 10, some 11, some 12, some 13, some 14, some 15, some 16, some 17, some 18, some 19, some 20, some 21, some 22, some 23, some 24, some 25, none, some 3], [6, 13, 19], [0, 0, 0, 0, 0, 0, 0, 0, 0, 0, 0, 0, 0, 1, 2, 0, 0, 0, 0, 2, 3], [0, 0, 0, 0, 0, 0, 1, 1, 1, 1, 1, 1, 1, 2, 2, 3, 3, 3, 3, 3, 3]⟩ : Rg) [(0, (.pointer (some a18))), (2, (.pointer (some (blk b3)))), (3, (.i 0))] mixed (by kernel_rfl) H ?_
  refine Stg.eff [0, 1, 2, 3, 4, 5, 7, 8, 9, 10, 11, 12, 15, 16, 17, 18] (by kernel_rfl) rfl (.cons ?_ (.cons ?_ (.cons ?_ (.cons ?_ (.cons ?_ (.cons ?_ (.cons ?_ (.cons ?_ (.cons ?_ (.cons ?_ (.cons ?_ (.cons ?_ (.cons ?_ (.cons ?_ (.cons ?_ (.cons ?_ .nil)))))))))))))))) ?_
  ·refine Ans.mk rfl rfl fun a H => s_move H rfl rfl (lt_ rfl) fun a H => ?_
   exact Ans.fin H rfl
  ·refine Ans.mk rfl rfl fun a H => s_nil H rfl rfl (lt_ rfl) fun a H => ?_
   exact Ans.fin H rfl
  ·refine Ans.mk rfl rfl fun a H => s_fld H rfl rfl fld_81_0 (lt_ rfl) fun a H => ?_
   exact Ans.fin H rfl
  ·refine Ans.mk rfl rfl fun a H => s_idxA (i := 0) (len := 2) (size := 3) H rfl rfl rfl arr_79 (by decide) (by decide) (lt_ rfl) fun a H => ?_
   exact Ans.fin H rfl
  ·refine Ans.mk rfl rfl fun a H => s_fld H rfl rfl fld_78_1 (lt_ rfl) fun a H => ?_
   exact Ans.fin H rfl
  ·refine Ans.mk rfl rfl fun a H => s_load (v := l20.v) H rfl rfl one_51 hc21 (lt_ rfl) fun a H => ?_
   exact Ans.fin H rfl
  ·refine Ans.mk rfl rfl fun a H => s_move H rfl rfl (lt_ rfl) fun a H => ?_
   exact Ans.fin H rfl
  ·refine Ans.mk rfl rfl fun a H => s_nil H rfl rfl (lt_ rfl) fun a H => ?_
   exact Ans.fin H rfl
  ·refine Ans.mk rfl rfl fun a H => s_fld H rfl rfl fld_81_0 (lt_ rfl) fun a H => ?_
   exact Ans.fin H rfl
  ·refine Ans.mk rfl rfl fun a H => s_idxA (i := 1) (len := 2) (size := 3) H rfl rfl rfl arr_79 (by decide) (by decide) (lt_ rfl) fun a H => ?_
   exact Ans.fin H rfl
  ·refine Ans.mk rfl rfl fun a H => s_fld H rfl rfl fld_78_1 (lt_ rfl) fun a H => ?_
   exact Ans.fin H rfl
  ·refine Ans.mk rfl rfl fun a H => s_load (v := l22.v) H rfl rfl one_51 hc23 (lt_ rfl) fun a H => ?_
   exact Ans.fin H rfl
  ·refine Ans.mk rfl rfl fun a H => s_move H rfl rfl (lt_ rfl) fun a H => ?_
   exact Ans.fin H rfl
  ·refine Ans.mk rfl rfl fun a H => s_nil H rfl rfl (lt_ rfl) fun a H => ?_
   exact Ans.fin H rfl
  ·refine Ans.mk rfl rfl fun a H => s_fld H rfl rfl fld_81_1 (lt_ rfl) fun a H => ?_
   exact Ans.fin H rfl
  ·refine Ans.mk rfl rfl fun a H => s_load (v := (.i l24)) H rfl rfl one_3 hc25 (lt_ rfl) fun a H => ?_
   exact Ans.fin H rfl
  ·intro a H
   replace H := H.weaken (L' := [(12, l20.v)]) ⟨rfl, trivial⟩
   refine s_call H rfl body_47 (H.args (vs := [l20.v]) rfl) (lt_ rfl) h ?_ (fun c w' h H => e_panic (P := PP) (fn := Tryz.f22) H h)
   clear H h a
   rintro _ w26 a ⟨C27, rfl, h⟩ H
   refine c_nil ?_
   obtain ⟨hc28, hc29, h⟩ := h
   refine effQ.go [] H rfl rfl <| Stg.eff [7, 8, 9, 10, 11, 12, 15, 16, 17, 18] (by kernel_rfl) rfl (.cons ?_ (.cons ?_ (.cons ?_ (.cons ?_ (.cons ?_ (.cons ?_ (.cons ?_ (.cons ?_ (.cons ?_ (.cons ?_ .nil)))))))))) ?_
   ·refine Ans.mk rfl rfl fun a H => s_move H rfl rfl (lt_ rfl) fun a H => ?_
    exact Ans.fin H rfl
   ·refine Ans.mk rfl rfl fun a H => s_nil H rfl rfl (lt_ rfl) fun a H => ?_
    exact Ans.fin H rfl
   ·refine Ans.mk rfl rfl fun a H => s_fld H rfl rfl fld_81_0 (lt_ rfl) fun a H => ?_
    exact Ans.fin H rfl
   ·refine Ans.mk rfl rfl fun a H => s_idxA (i := 1) (len := 2) (size := 3) H rfl rfl rfl arr_79 (by decide) (by decide) (lt_ rfl) fun a H => ?_
    exact Ans.fin H rfl
   ·refine Ans.mk rfl rfl fun a H => s_fld H rfl rfl fld_78_1 (lt_ rfl) fun a H => ?_
    exact Ans.fin H rfl
   ·refine Ans.mk rfl rfl fun a H => s_load (v := l22.v) H rfl rfl one_51 hc28 (lt_ rfl) fun a H => ?_
    exact Ans.fin H rfl
   ·refine Ans.mk rfl rfl fun a H => s_move H rfl rfl (lt_ rfl) fun a H => ?_
    exact Ans.fin H rfl
   ·refine Ans.mk rfl rfl fun a H => s_nil H rfl rfl (lt_ rfl) fun a H => ?_
    exact Ans.fin H rfl
   ·refine Ans.mk rfl rfl fun a H => s_fld H rfl rfl fld_81_1 (lt_ rfl) fun a H => ?_
    exact Ans.fin H rfl
   ·refine Ans.mk rfl rfl fun a H => s_load (v := (.i l24)) H rfl rfl one_3 hc29 (lt_ rfl) fun a H => ?_
    exact Ans.fin H rfl
   ·intro a H
    replace H := H.weaken (L' := [(19, l22.v)]) ⟨rfl, trivial⟩
    refine s_call H rfl body_47 (H.args (vs := [l22.v]) rfl) (lt_ rfl) h ?_ (fun c w' h H => e_panic (P := PP) (fn := Tryz.f22) H h)
    clear H h a
    rintro _ w30 a ⟨C31, rfl, h⟩ H
    refine c_nil ?_
    obtain ⟨hc32, h⟩ := h
    refine effQ.go [(14, (.agg #[C27.v, C31.v]))] H rfl rfl <| Stg.eff [14, 15, 16, 17, 18] (by kernel_rfl) rfl (.cons ?_ (.cons ?_ (.cons ?_ (.cons ?_ (.cons ?_ .nil))))) ?_
    ·refine Ans.mk rfl rfl fun a H => s_build H rfl (by rw [H.parts (vs := [(0, C27.v), (1, C31.v)]) rfl]; exact bd_52_s0_s1 w30 C27 C31) (lt_ rfl) fun a H => ?_
     exact Ans.fin H rfl
    ·refine Ans.mk rfl rfl fun a H => s_move H rfl rfl (lt_ rfl) fun a H => ?_
     exact Ans.fin H rfl
    ·refine Ans.mk rfl rfl fun a H => s_nil H rfl rfl (lt_ rfl) fun a H => ?_
     exact Ans.fin H rfl
    ·refine Ans.mk rfl rfl fun a H => s_fld H rfl rfl fld_81_1 (lt_ rfl) fun a H => ?_
     exact Ans.fin H rfl
    ·refine Ans.mk rfl rfl fun a H => s_load (v := (.i l24)) H rfl rfl one_3 hc32 (lt_ rfl) fun a H => ?_
     exact Ans.fin H rfl
    ·intro a H
     replace H := H.weaken (L' := [(2, (.pointer (some (blk b3)))), (21, (.agg #[C27.v, C31.v]))]) ⟨rfl, rfl, trivial⟩
     refine s_stoN (l := [C27.v, C31.v]) H rfl rfl rfl rfl agg_52 rfl rfl h ?_
     clear h H
     intro w33 h H
     refine c_nil ?_
     obtain ⟨hc34, h⟩ := h
     refine effQ.go0 [(20, (.i l24))] H rfl rfl <| Stg.fin [15, 16, 17, 18, 20] (by kernel_rfl) (.cons ?_ (.cons ?_ (.cons ?_ (.cons ?_ (.cons ?_ .nil))))) ?_
     ·refine Ans.mk rfl rfl fun a H => s_move H rfl rfl (lt_ rfl) fun a H => ?_
      exact Ans.fin H rfl
     ·refine Ans.mk rfl rfl fun a H => s_nil H rfl rfl (lt_ rfl) fun a H => ?_
      exact Ans.fin H rfl
     ·refine Ans.mk rfl rfl fun a H => s_fld H rfl rfl fld_81_1 (lt_ rfl) fun a H => ?_
      exact Ans.fin H rfl
     ·refine Ans.mk rfl rfl fun a H => s_load (v := (.i l24)) H rfl rfl one_3 hc34 (lt_ rfl) fun a H => ?_
      exact Ans.fin H rfl
     ·refine Ans.mk rfl rfl fun a H => s_assign H rfl rfl (lt_ rfl) fun a H => ?_
      exact Ans.fin H rfl
     ·intro a H
      replace H := H.weaken (L' := [(2, (.pointer (some (blk b3)))), (3, (.i l24))]) ⟨rfl, rfl, trivial⟩
      refine hK17 _ _ <| c_ret ?_
      obtain ⟨v35, hc36, v37, hc38, h⟩ := h
      exact e_ret2 H rfl ⟨_, rfl, run_loadN (l := [v35.v, v37.v]) agg_52 rfl ⟨hc36, hc38, trivial⟩⟩ rfl h

theorem sim_sherdlaw14_same (a1 b2 : Slc) (w : World) (Q : Ending → World → Prop) (h : vc_sherdlaw14_same a1 b2 w Q) : Calls PP F_sherdlaw14_same #[a1.v, b2.v] w Q := by
 unfold vc_sherdlaw14_same at h
 refine enter (n := 10) Tryz.func23 rfl rfl (Nat.le_of_ble_eq_true rfl) fun a H => c_seq fun K3 hK3 => c_reg <| s_assign H rfl rfl (lt_ rfl) fun a H => c_nil <| hK3 _ _ <| c_seq fun K4 hK4 => c_reg <| s_move H rfl rfl (lt_ rfl) fun a H => ?_
 obtain ⟨s5, h6, h⟩ := h
 refine s_cv H rfl rfl h6 (lt_ rfl) ?_
 clear H a h6
 intro a H
 refine s_move H rfl rfl (lt_ rfl) fun a H => ?_
 obtain ⟨s7, h8, h⟩ := h
 refine s_cv H rfl rfl h8 (lt_ rfl) ?_
 clear H a h8
 intro a H
 refine s_bin H rfl rfl rfl r_eqlS (lt_ rfl) fun a H => s_assign H rfl rfl (lt_ rfl) fun a H => c_nil <| hK4 _ _ <| c_ret ?_
 exact e_ret1 H rfl rfl h

end Go.Proofs.YtflcdgkckfcofaaGreatDoor
